/- May (11). -/
import Derived.Test.YtmmipinjkbkkmaaWe3
set_option linter.unusedSimpArgs false
set_option linter.unusedVariables false
set_option linter.unusedSectionVars false
set_option linter.unnecessarySimpa false
namespace Go.Proofs.We
open Go.PM Go.Proofs

noncomputable def specW31 : PM.Spec := specOf (fun w : Wv => [pW w]) (fun w => w.got.length ≤ 4611686018427387904) (fun w => pI (uptoN w))
theorem specW31_at {w : Wv} (h : w.got.length ≤ 4611686018427387904) : specW31 [pW w] = some (pI (uptoN w)) := specOf_at (arg := fun w : Wv => [pW w]) (fun a b h => pW_inj (List.cons.inj h).1) (a := w) h
theorem specW31_ok : ∀ vs r, specW31 vs = some r → SoundAt Try.prog 31 vs r := specOf_sound fun w h => soundW31 w h
noncomputable def specW28 : PM.Spec := specOf (fun w : Wv => [pW w]) (fun _ => True) (fun w => pI (edgeN w))
theorem specW28_at (w : Wv) : specW28 [pW w] = some (pI (edgeN w)) := specOf_at (arg := fun w : Wv => [pW w]) (fun a b h => pW_inj (List.cons.inj h).1) (a := w) trivial
theorem specW28_ok : ∀ vs r, specW28 vs = some r → SoundAt Try.prog 28 vs r := specOf_sound fun w _ => soundW28 w
def preB (w : Wv) : Prop := 0 ≤ w.base ∧ w.base + w.b.length ≤ 4611686018427387904 ∧ w.got.length ≤ 4611686018427387904 ∧ chain (w.base + w.b.length) w.base w.got
noncomputable def specW35 : PM.Spec := specOf (fun w : Wv => [pW w]) preB (fun w => pB (blankN w))
theorem specW35_at {w : Wv} (h : preB w) : specW35 [pW w] = some (pB (blankN w)) := specOf_at (arg := fun w : Wv => [pW w]) (fun a b h => pW_inj (List.cons.inj h).1) (a := w) h
theorem specW35_ok : ∀ vs r, specW35 vs = some r → SoundAt Try.prog 35 vs r := specOf_sound fun w h => soundW35 w h.1 h.2.1 h.2.2.1 h.2.2.2

def ok1 (w : Wv) : Prop := 0 ≤ w.cap ∧ w.cap ≤ 65536 ∧ 0 ≤ w.base ∧ w.base ≤ 2305843009213693952 ∧ may w.got = true
def ok2 (w : Wv) : Prop := (∀ x, w.got.head? = some x → w.base ≤ x.f) ∧ uptoN w ≤ edgeN w ∧ (w.b.length : Int) = uptoN w - w.base
def ok3 (w : Wv) : Prop := w.fin = -1 ∨ uptoN w ≤ w.fin
def mayW (w : Wv) : Prop := ok1 w ∧ ok2 w ∧ ok3 w ∧ blankN w = true
open Classical in
noncomputable def mayN (w : Wv) : Bool := decide (mayW w)
theorem mayN_true {w : Wv} (h : mayW w) : mayN w = true := by simp [mayN, h]
theorem mayN_false {w : Wv} (h : ¬ mayW w) : mayN w = false := by simp [mayN, h]
theorem mayN_iff {w : Wv} : mayN w = true ↔ mayW w := by simp [mayN]

theorem last_le : ∀ {l : List S} {last : Int} {x y : S}, may' last (x :: l) = true → (x :: l).getLast? = some y → x.u ≤ y.u
  | [], _, x, y, _, h => by simp at h; subst h; exact Int.le_refl _
  | z :: r, _, x, y, hm, h => by
    have h1 := (may'_cons.1 hm).2.2
    have h2 := may'_cons.1 h1
    have h3 := one_iff.1 h2.1
    have := last_le h1 (by simpa using h)
    omega
theorem chain_may {hi : Int} : ∀ {l : List S} {last a : Int}, may' last l = true → (∀ x, l.head? = some x → a ≤ x.f) → (∀ y, l.getLast? = some y → y.u ≤ hi) → chain hi a l
  | [], _, _, _, _, _ => trivial
  | x :: r, last, a, hm, ha, hl => by
    have h1 := may'_cons.1 hm
    have h2 := one_iff.1 h1.1
    refine ⟨ha x rfl, h2.2.1, ?_, ?_⟩
    · cases hy : (x :: r).getLast? with
      | none => simp at hy
      | some y => have := hl y hy; have := last_le hm hy; omega
    · refine chain_may h1.2.2 (fun z hz => ?_) (fun y hy => hl y ?_)
      · cases r with
        | nil => simp at hz
        | cons z' r' => simp at hz; subst hz; have := (may'_cons.1 h1.2.2).2.1; omega
      · cases r with
        | nil => simp at hy
        | cons z' r' => simpa using hy
theorem upto_range {w : Wv} (h : ok1 w) : 0 ≤ uptoN w ∧ uptoN w ≤ 4611686018427387904 := by
  unfold uptoN
  obtain ⟨h1, h2, h3, h4, h5⟩ := h
  cases hl : w.got.getLast? with
  | none => exact ⟨h3, by show w.base ≤ _; omega⟩
  | some x =>
    have hx := (may'_mem (may_iff.1 h5).1 x (List.mem_of_getLast? hl)).2
    have := one_iff.1 hx
    exact ⟨by show 0 ≤ x.u; omega, by show x.u ≤ _; omega⟩
theorem preB_of {w : Wv} (h1 : ok1 w) (h2 : ok2 w) : preB w := by
  obtain ⟨a, b, c⟩ := h2
  have hu := upto_range h1
  refine ⟨h1.2.2.1, by omega, by have := (may_iff.1 h1.2.2.2.2).2; omega, chain_may (may_iff.1 h1.2.2.2.2).1 a fun y hy => ?_⟩
  have : uptoN w = y.u := by simp [uptoN, hy]
  omega

theorem mayN_eq {w : Wv} (h1 : ok1 w) (h2 : ok2 w) (h3 : ok3 w) : mayN w = blankN w := by
  cases h : blankN w with
  | true => exact mayN_true ⟨h1, h2, h3, h⟩
  | false => exact mayN_false (fun hm => by have := hm.2.2.2; rw [h] at this; cases this)
set_option maxRecDepth 4000 in
set_option maxHeartbeats 4000000 in
theorem soundW11 (w : Wv) (hl : w.got.length ≤ 4611686018427387904) : SoundAt Try.prog 11 [pW w] (pB (mayN w)) := by
  refine sound_fun (env_ok tT_ok (fs_cons specW28_ok (fs_cons specW31_ok (fs_cons spec15_ok (fs_cons specW35_ok fs_nil)))) _ : EnvOk Try.prog (mkE (specAt [(28, specW28), (31, specW31), (34, spec15), (35, specW35)]) [(0, ([1], [(1, 1, 5)], [])), (1, ([1, 27], [(1, 1, 5)], [])), (2, ([2], [], [])), (3, ([1, 3], [(1, 1, 5)], [])), (4, ([1, 3, 59], [(1, 1, 5)], [])), (5, ([2], [], [])), (6, ([2], [], []))])) mixed Try.func11 (by kernel_rfl) rfl (by show 1 ≤ _; decide) (by kernel_rfl) ?_
  show wpC _ _ (Post.ret tT _ _) _
  have e28 := specW28_at w
  have e31 := specW31_at hl
  have e15 := spec15_at hl
  have w1 := True.intro
  by_cases h1 : ok1 w
  · clear w1
    obtain ⟨a1, a2, a3, a4, a5⟩ := h1
    have hu := upto_range ⟨a1, a2, a3, a4, a5⟩
    have b1 : ¬ w.cap < 0 := by omega
    have b2 : ¬ 65536 < w.cap := by omega
    have b3 : ¬ w.base < 0 := by omega
    have b4 : ¬ 2305843009213693952 < w.base := by omega
    have ed : edgeN w = min (w.base + w.cap) 2305843009213693952 := by unfold edgeN; rw [w64_id (by omega) (by omega)]
    have w1 : IntKind.i64.wrap (uptoN w - w.base) = uptoN w - w.base := w64_id (by omega) (by omega)
    rw [a5] at e15
    simp only [pW, pI, pB] at e28 e31
    have h1 : ok1 w := ⟨a1, a2, a3, a4, a5⟩
    have hgx : w.got = [] ∨ ∃ x r, w.got = x :: r := by cases w.got with
      | nil => exact .inl rfl
      | cons x r => exact .inr ⟨x, r, rfl⟩
    rcases hgx with hgot | ⟨x, r, hgot⟩
    · have p0 : ¬ (0 : Int) < w.got.length := by rw [hgot]; simp
      have hh : ∀ x, w.got.head? = some x → w.base ≤ x.f := fun x hx => by rw [hgot] at hx; cases hx
      by_cases c1 : edgeN w < uptoN w
      · simp -implicitDefEqProofs only [Try.f11, Try.results11, startS, pW, pI, pB, li, encS, List.zipIdx_cons, List.zipIdx_nil, List.length_map, Int.toNat_zero, Int.le_refl, e28, e31, e15, w1, b1, b2, b3, b4, p0, c1, go_sem, ↓reduceIte, Nat.reduceEqDiff, Nat.reduceBEq, Nat.reduceAdd, Nat.reduceMul, Nat.reduceLeDiff, Nat.reduceSub, reduceCtorEq, Nat.reduceLT, Int.reduceBEq, Int.reduceBNe, Int.reduceEq, Int.reduceNe, Int.reduceLT, Int.reduceLE]
        exact ⟨by rfl, got_c (by rw [mayN_false (fun h => by have := h.2.1.2.1; omega)])⟩
      · have d2 : uptoN w ≤ edgeN w := by omega
        by_cases c2 : (w.b.length : Int) = uptoN w - w.base
        · have c2' : ((w.b.length : Int) == uptoN w - w.base) = true := by simpa using c2
          have e35 := specW35_at (preB_of h1 ⟨hh, d2, c2⟩)
          simp only [pW, pI, pB] at e35
          by_cases c3 : w.fin = -1
          · have c3' : (w.fin == -1) = true := by simpa using c3
            simp -implicitDefEqProofs only [Try.f11, Try.results11, startS, pW, pI, pB, li, encS, List.zipIdx_cons, List.zipIdx_nil, List.length_map, Int.toNat_zero, Int.le_refl, e28, e31, e15, w1, b1, b2, b3, b4, p0, c1, c2', c3', e35, go_sem, ↓reduceIte, Nat.reduceEqDiff, Nat.reduceBEq, Nat.reduceAdd, Nat.reduceMul, Nat.reduceLeDiff, Nat.reduceSub, reduceCtorEq, Nat.reduceLT, Int.reduceBEq, Int.reduceBNe, Int.reduceEq, Int.reduceNe, Int.reduceLT, Int.reduceLE]
            exact ⟨by rfl, got_c (by rw [mayN_eq h1 ⟨hh, d2, c2⟩ (.inl c3)])⟩
          · have c3' : (w.fin == -1) = false := by simpa using c3
            by_cases c4 : uptoN w ≤ w.fin
            · simp -implicitDefEqProofs only [Try.f11, Try.results11, startS, pW, pI, pB, li, encS, List.zipIdx_cons, List.zipIdx_nil, List.length_map, Int.toNat_zero, Int.le_refl, e28, e31, e15, w1, b1, b2, b3, b4, p0, c1, c2', c3', c4, e35, go_sem, ↓reduceIte, Nat.reduceEqDiff, Nat.reduceBEq, Nat.reduceAdd, Nat.reduceMul, Nat.reduceLeDiff, Nat.reduceSub, reduceCtorEq, Nat.reduceLT, Int.reduceBEq, Int.reduceBNe, Int.reduceEq, Int.reduceNe, Int.reduceLT, Int.reduceLE]
              exact ⟨by rfl, got_c (by rw [mayN_eq h1 ⟨hh, d2, c2⟩ (.inr c4)])⟩
            · simp -implicitDefEqProofs only [Try.f11, Try.results11, startS, pW, pI, pB, li, encS, List.zipIdx_cons, List.zipIdx_nil, List.length_map, Int.toNat_zero, Int.le_refl, e28, e31, e15, w1, b1, b2, b3, b4, p0, c1, c2', c3', c4, go_sem, ↓reduceIte, Nat.reduceEqDiff, Nat.reduceBEq, Nat.reduceAdd, Nat.reduceMul, Nat.reduceLeDiff, Nat.reduceSub, reduceCtorEq, Nat.reduceLT, Int.reduceBEq, Int.reduceBNe, Int.reduceEq, Int.reduceNe, Int.reduceLT, Int.reduceLE]
              exact ⟨by rfl, got_c (by rw [mayN_false (fun h => by rcases h.2.2.1 with h | h <;> omega)])⟩
        · have c2' : ((w.b.length : Int) == uptoN w - w.base) = false := by simpa using c2
          simp -implicitDefEqProofs only [Try.f11, Try.results11, startS, pW, pI, pB, li, encS, List.zipIdx_cons, List.zipIdx_nil, List.length_map, Int.toNat_zero, Int.le_refl, e28, e31, e15, w1, b1, b2, b3, b4, p0, c1, c2', go_sem, ↓reduceIte, Nat.reduceEqDiff, Nat.reduceBEq, Nat.reduceAdd, Nat.reduceMul, Nat.reduceLeDiff, Nat.reduceSub, reduceCtorEq, Nat.reduceLT, Int.reduceBEq, Int.reduceBNe, Int.reduceEq, Int.reduceNe, Int.reduceLT, Int.reduceLE]
          exact ⟨by rfl, got_c (by rw [mayN_false (fun h => c2 h.2.1.2.2)])⟩
    · have p0 : (0 : Int) < w.got.length := by rw [hgot]; simp
      have hx0 : (w.got.map encS)[0]? = some (encS x) := by rw [hgot]; rfl
      simp only [encS, li] at hx0
      by_cases q0 : x.f < w.base
      · simp -implicitDefEqProofs only [Try.f11, Try.results11, startS, pW, pI, pB, li, encS, List.zipIdx_cons, List.zipIdx_nil, List.length_map, Int.toNat_zero, Int.le_refl, e28, e31, e15, w1, b1, b2, b3, b4, p0, hx0, q0, go_sem, ↓reduceIte, Nat.reduceEqDiff, Nat.reduceBEq, Nat.reduceAdd, Nat.reduceMul, Nat.reduceLeDiff, Nat.reduceSub, reduceCtorEq, Nat.reduceLT, Int.reduceBEq, Int.reduceBNe, Int.reduceEq, Int.reduceNe, Int.reduceLT, Int.reduceLE]
        exact ⟨by rfl, got_c (by rw [mayN_false (fun h => by have := h.2.1.1 x (by rw [hgot]; rfl); omega)])⟩
      · have hh : ∀ x, w.got.head? = some x → w.base ≤ x.f := fun y hy => by rw [hgot] at hy; cases hy; omega
        by_cases c1 : edgeN w < uptoN w
        · simp -implicitDefEqProofs only [Try.f11, Try.results11, startS, pW, pI, pB, li, encS, List.zipIdx_cons, List.zipIdx_nil, List.length_map, Int.toNat_zero, Int.le_refl, e28, e31, e15, w1, b1, b2, b3, b4, p0, hx0, q0, c1, go_sem, ↓reduceIte, Nat.reduceEqDiff, Nat.reduceBEq, Nat.reduceAdd, Nat.reduceMul, Nat.reduceLeDiff, Nat.reduceSub, reduceCtorEq, Nat.reduceLT, Int.reduceBEq, Int.reduceBNe, Int.reduceEq, Int.reduceNe, Int.reduceLT, Int.reduceLE]
          exact ⟨by rfl, got_c (by rw [mayN_false (fun h => by have := h.2.1.2.1; omega)])⟩
        · have d2 : uptoN w ≤ edgeN w := by omega
          by_cases c2 : (w.b.length : Int) = uptoN w - w.base
          · have c2' : ((w.b.length : Int) == uptoN w - w.base) = true := by simpa using c2
            have e35 := specW35_at (preB_of h1 ⟨hh, d2, c2⟩)
            simp only [pW, pI, pB] at e35
            by_cases c3 : w.fin = -1
            · have c3' : (w.fin == -1) = true := by simpa using c3
              simp -implicitDefEqProofs only [Try.f11, Try.results11, startS, pW, pI, pB, li, encS, List.zipIdx_cons, List.zipIdx_nil, List.length_map, Int.toNat_zero, Int.le_refl, e28, e31, e15, w1, b1, b2, b3, b4, p0, hx0, q0, c1, c2', c3', e35, go_sem, ↓reduceIte, Nat.reduceEqDiff, Nat.reduceBEq, Nat.reduceAdd, Nat.reduceMul, Nat.reduceLeDiff, Nat.reduceSub, reduceCtorEq, Nat.reduceLT, Int.reduceBEq, Int.reduceBNe, Int.reduceEq, Int.reduceNe, Int.reduceLT, Int.reduceLE]
              exact ⟨by rfl, got_c (by rw [mayN_eq h1 ⟨hh, d2, c2⟩ (.inl c3)])⟩
            · have c3' : (w.fin == -1) = false := by simpa using c3
              by_cases c4 : uptoN w ≤ w.fin
              · simp -implicitDefEqProofs only [Try.f11, Try.results11, startS, pW, pI, pB, li, encS, List.zipIdx_cons, List.zipIdx_nil, List.length_map, Int.toNat_zero, Int.le_refl, e28, e31, e15, w1, b1, b2, b3, b4, p0, hx0, q0, c1, c2', c3', c4, e35, go_sem, ↓reduceIte, Nat.reduceEqDiff, Nat.reduceBEq, Nat.reduceAdd, Nat.reduceMul, Nat.reduceLeDiff, Nat.reduceSub, reduceCtorEq, Nat.reduceLT, Int.reduceBEq, Int.reduceBNe, Int.reduceEq, Int.reduceNe, Int.reduceLT, Int.reduceLE]
                exact ⟨by rfl, got_c (by rw [mayN_eq h1 ⟨hh, d2, c2⟩ (.inr c4)])⟩
              · simp -implicitDefEqProofs only [Try.f11, Try.results11, startS, pW, pI, pB, li, encS, List.zipIdx_cons, List.zipIdx_nil, List.length_map, Int.toNat_zero, Int.le_refl, e28, e31, e15, w1, b1, b2, b3, b4, p0, hx0, q0, c1, c2', c3', c4, go_sem, ↓reduceIte, Nat.reduceEqDiff, Nat.reduceBEq, Nat.reduceAdd, Nat.reduceMul, Nat.reduceLeDiff, Nat.reduceSub, reduceCtorEq, Nat.reduceLT, Int.reduceBEq, Int.reduceBNe, Int.reduceEq, Int.reduceNe, Int.reduceLT, Int.reduceLE]
                exact ⟨by rfl, got_c (by rw [mayN_false (fun h => by rcases h.2.2.1 with h | h <;> omega)])⟩
          · have c2' : ((w.b.length : Int) == uptoN w - w.base) = false := by simpa using c2
            simp -implicitDefEqProofs only [Try.f11, Try.results11, startS, pW, pI, pB, li, encS, List.zipIdx_cons, List.zipIdx_nil, List.length_map, Int.toNat_zero, Int.le_refl, e28, e31, e15, w1, b1, b2, b3, b4, p0, hx0, q0, c1, c2', go_sem, ↓reduceIte, Nat.reduceEqDiff, Nat.reduceBEq, Nat.reduceAdd, Nat.reduceMul, Nat.reduceLeDiff, Nat.reduceSub, reduceCtorEq, Nat.reduceLT, Int.reduceBEq, Int.reduceBNe, Int.reduceEq, Int.reduceNe, Int.reduceLT, Int.reduceLE]
            exact ⟨by rfl, got_c (by rw [mayN_false (fun h => c2 h.2.1.2.2)])⟩
  · by_cases b1 : w.cap < 0
    · simp -implicitDefEqProofs only [Try.f11, Try.results11, startS, pW, pI, pB, li, encS, List.zipIdx_cons, List.zipIdx_nil, List.length_map, Int.toNat_zero, Int.le_refl, e28, e31, e15, w1, b1, go_sem, ↓reduceIte, Nat.reduceEqDiff, Nat.reduceBEq, Nat.reduceAdd, Nat.reduceMul, Nat.reduceLeDiff, Nat.reduceSub, reduceCtorEq, Nat.reduceLT, Int.reduceBEq, Int.reduceBNe, Int.reduceEq, Int.reduceNe, Int.reduceLT, Int.reduceLE]
      exact got_c (by rw [mayN_false (fun h => by have := h.1.1; omega)])
    · by_cases b2 : 65536 < w.cap
      · simp -implicitDefEqProofs only [Try.f11, Try.results11, startS, pW, pI, pB, li, encS, List.zipIdx_cons, List.zipIdx_nil, List.length_map, Int.toNat_zero, Int.le_refl, e28, e31, e15, w1, b1, b2, go_sem, ↓reduceIte, Nat.reduceEqDiff, Nat.reduceBEq, Nat.reduceAdd, Nat.reduceMul, Nat.reduceLeDiff, Nat.reduceSub, reduceCtorEq, Nat.reduceLT, Int.reduceBEq, Int.reduceBNe, Int.reduceEq, Int.reduceNe, Int.reduceLT, Int.reduceLE]
        exact got_c (by rw [mayN_false (fun h => by have := h.1.2.1; omega)])
      · by_cases b3 : w.base < 0
        · simp -implicitDefEqProofs only [Try.f11, Try.results11, startS, pW, pI, pB, li, encS, List.zipIdx_cons, List.zipIdx_nil, List.length_map, Int.toNat_zero, Int.le_refl, e28, e31, e15, w1, b1, b2, b3, go_sem, ↓reduceIte, Nat.reduceEqDiff, Nat.reduceBEq, Nat.reduceAdd, Nat.reduceMul, Nat.reduceLeDiff, Nat.reduceSub, reduceCtorEq, Nat.reduceLT, Int.reduceBEq, Int.reduceBNe, Int.reduceEq, Int.reduceNe, Int.reduceLT, Int.reduceLE]
          exact got_c (by rw [mayN_false (fun h => by have := h.1.2.2.1; omega)])
        · by_cases b4 : 2305843009213693952 < w.base
          · simp -implicitDefEqProofs only [Try.f11, Try.results11, startS, pW, pI, pB, li, encS, List.zipIdx_cons, List.zipIdx_nil, List.length_map, Int.toNat_zero, Int.le_refl, e28, e31, e15, w1, b1, b2, b3, b4, go_sem, ↓reduceIte, Nat.reduceEqDiff, Nat.reduceBEq, Nat.reduceAdd, Nat.reduceMul, Nat.reduceLeDiff, Nat.reduceSub, reduceCtorEq, Nat.reduceLT, Int.reduceBEq, Int.reduceBNe, Int.reduceEq, Int.reduceNe, Int.reduceLT, Int.reduceLE]
            exact got_c (by rw [mayN_false (fun h => by have := h.1.2.2.2.1; omega)])
          · have b5 : may w.got = false := by
              cases hm : may w.got with
              | false => rfl
              | true => exact absurd ⟨by omega, by omega, by omega, by omega, hm⟩ h1
            rw [b5] at e15
            simp -implicitDefEqProofs only [Try.f11, Try.results11, startS, pW, pI, pB, li, encS, List.zipIdx_cons, List.zipIdx_nil, List.length_map, Int.toNat_zero, Int.le_refl, e28, e31, e15, w1, b1, b2, b3, b4, go_sem, ↓reduceIte, Nat.reduceEqDiff, Nat.reduceBEq, Nat.reduceAdd, Nat.reduceMul, Nat.reduceLeDiff, Nat.reduceSub, reduceCtorEq, Nat.reduceLT, Int.reduceBEq, Int.reduceBNe, Int.reduceEq, Int.reduceNe, Int.reduceLT, Int.reduceLE]
            exact got_c (by rw [mayN_false (fun h => h1 h.1)])
end Go.Proofs.We
