/- The weave's small functions: upto (31), edge (28), few (8), blank's test (49), IndexFunc (53), ContainsFunc (48). -/
import Derived.Test.YtmmipinjkbkkmaaWs10
set_option linter.unusedSimpArgs false
set_option linter.unusedVariables false
set_option linter.unusedSectionVars false
set_option linter.unnecessarySimpa false
namespace Go.Proofs.We
open Go.PM Go.Proofs

theorem tT_5 : tT.get 5 = some ⟨.int .u8, 1, 1, [.int .u8 0], false⟩ := rfl
theorem tT_by : tT.get 22 = some ⟨.slice 5, 1, 24, [.slice none 0 0], false⟩ := rfl
theorem tT_w : tT.get 25 = some ⟨.strct [(0, 1), (1, 1), (2, 1), (3, 1), (4, 1)], 5, 72, [.int .i64 0, .slice none 0 0, .slice none 0 0, .int .i64 0, .int .i64 0], false⟩ := rfl
theorem tT_38 : tT.get 38 = some ⟨.arr 2 3, 2, 16, [.int .i64 0, .int .i64 0], false⟩ := rfl
theorem tT_34 : tT.get 34 = some ⟨.slice 38, 1, 24, [.slice none 0 0], false⟩ := rfl
attribute [go_sem] tT_5 tT_by tT_w tT_38 tT_34

structure Wv where
  base : Int
  b : List Int
  got : List S
  cap : Int
  fin : Int
def encB (n : Int) : List CV := [.lit (.int .u8 n)]
def pBy (l : List Int) : PV := .c (.ro 1 (l.map encB))
def pW (w : Wv) : PV := .agg [.c (.lit (.int .i64 w.base)), .c (.ro 1 (w.b.map encB)), .c (.ro 2 (w.got.map encS)), .c (.lit (.int .i64 w.cap)), .c (.lit (.int .i64 w.fin))]
def fv49 : PV := .c (.lit (.func (.func 49) #[] #[]))
theorem pBy_inj {a b : List Int} (h : pBy a = pBy b) : a = b := by
  simp only [pBy, PV.c.injEq, CV.ro.injEq, true_and] at h
  refine (List.map_inj_right (f := encB) ?_).1 h
  intro x y h
  simpa [encB] using h
theorem encB_inj {a b : List Int} (h : a.map encB = b.map encB) : a = b := pBy_inj (by rw [pBy, pBy, h])
theorem pW_inj {a b : Wv} (h : pW a = pW b) : a = b := by
  simp only [pW, PV.agg.injEq, List.cons.injEq, PV.c.injEq, CV.lit.injEq, Value.int.injEq, CV.ro.injEq, and_true, true_and] at h
  obtain ⟨h1, h2, h3, h4, h5⟩ := h
  cases a; cases b
  simp only [Wv.mk.injEq]
  exact ⟨h1, encB_inj h2, encL_inj h3, h4, h5⟩

def uptoN (w : Wv) : Int := match w.got.getLast? with
  | none => w.base
  | some x => x.u
set_option maxHeartbeats 2000000 in
theorem soundW31 (w : Wv) (hl : w.got.length ≤ 4611686018427387904) : SoundAt Try.prog 31 [pW w] (pI (uptoN w)) := by
  refine sound_fun (env_ok tT_ok fs_nil _ : EnvOk Try.prog (mkE (specAt []) [(0, ([1], [(1, 1, 5)], [])), (1, ([1, 6], [(1, 1, 5)], [])), (2, ([2], [], [])), (3, ([2], [], []))])) mixed Try.func31 (by kernel_rfl) rfl (by show 1 ≤ _; decide) (by kernel_rfl) ?_
  show wpC _ _ (Post.ret tT _ _) _
  rcases List.eq_nil_or_concat w.got with h | ⟨l, x, h⟩
  · have e0 : (((0 : Nat) : Int) == 0) = true := rfl
    simp -implicitDefEqProofs only [e0, Try.f31, Try.results31, startS, pW, pI, li, h, List.zipIdx_cons, List.zipIdx_nil, List.map_nil, List.length_nil, go_sem, ↓reduceIte, Nat.reduceEqDiff, Nat.reduceBEq, Nat.reduceAdd, Nat.reduceMul, Nat.reduceLeDiff, Nat.reduceSub, reduceCtorEq, Nat.reduceLT, Int.reduceBEq, Int.reduceBNe, Int.reduceEq, Int.reduceNe, Int.reduceLT, Int.reduceLE]
    refine got_c ?_
    simp [uptoN, h]
  · rw [List.concat_eq_append] at h
    have hl : l.length + 1 ≤ 4611686018427387904 := by rw [h] at hl; simpa using hl
    have e1 : (((l.length + 1 : Nat) : Int) == 0) = false := by simp; omega
    have e2 : IntKind.i64.wrap (((l.length + 1 : Nat) : Int) - 1) = ((l.length : Nat) : Int) := by rw [IntKind.wrap_i64]; omega
    have e3 : (l.map encS ++ [[.lit (.int .i64 x.f), .lit (.int .i64 x.u)]])[l.length]? = some [.lit (.int .i64 x.f), .lit (.int .i64 x.u)] := by simp
    simp -implicitDefEqProofs only [Try.f31, Try.results31, startS, pW, pI, li, h, e1, e2, e3, Int.natCast_nonneg, Int.toNat_natCast, encS, List.zipIdx_cons, List.zipIdx_nil, List.map_append, List.length_append, List.length_map, List.length_cons, List.length_nil, List.map_cons, List.map_nil, go_sem, ↓reduceIte, Nat.reduceEqDiff, Nat.reduceBEq, Nat.reduceAdd, Nat.reduceMul, Nat.reduceLeDiff, Nat.reduceSub, reduceCtorEq, Nat.reduceLT, Int.reduceBEq, Int.reduceBNe, Int.reduceEq, Int.reduceNe, Int.reduceLT, Int.reduceLE]
    refine got_c ?_
    simp [uptoN, h]

def edgeN (w : Wv) : Int := min (w64 (w.base + w.cap)) 2305843009213693952
set_option maxHeartbeats 2000000 in
theorem soundW28 (w : Wv) : SoundAt Try.prog 28 [pW w] (pI (edgeN w)) := by
  refine sound_fun (env_ok tT_ok fs_nil _ : EnvOk Try.prog (mkE (specAt []) [(0, ([1], [(1, 1, 5)], [])), (1, ([2], [], []))])) mixed Try.func28 (by kernel_rfl) rfl (by show 1 ≤ _; decide) (by kernel_rfl) ?_
  show wpC _ _ (Post.ret tT _ _) _
  simp -implicitDefEqProofs only [Try.f28, Try.results28, startS, pW, pI, li, List.zipIdx_cons, List.zipIdx_nil, go_sem, ↓reduceIte, Nat.reduceEqDiff, Nat.reduceBEq, Nat.reduceAdd, Nat.reduceMul, Nat.reduceLeDiff, Nat.reduceSub, reduceCtorEq, Nat.reduceLT, Int.reduceBEq, Int.reduceBNe, Int.reduceEq, Int.reduceNe, Int.reduceLT, Int.reduceLE]
  refine got_c ?_
  have : edgeN w = if 2305843009213693952 < IntKind.i64.wrap (w.base + w.cap) then 2305843009213693952 else IntKind.i64.wrap (w.base + w.cap) := by
    unfold edgeN w64
    split <;> omega
  rw [this]

def fewN (w : Wv) : Bool := decide (w.b.length ≤ 300) && decide (w.got.length ≤ 100)
set_option maxHeartbeats 2000000 in
theorem soundW8 (w : Wv) : SoundAt Try.prog 8 [pW w] (pB (fewN w)) := by
  refine sound_fun (env_ok tT_ok fs_nil _ : EnvOk Try.prog (mkE (specAt []) [(0, ([1], [(1, 1, 5)], [])), (1, ([2], [], []))])) mixed Try.func8 (by kernel_rfl) rfl (by show 1 ≤ _; decide) (by kernel_rfl) ?_
  show wpC _ _ (Post.ret tT _ _) _
  by_cases h1 : (w.b.length : Int) ≤ 300
  · by_cases h2 : (w.got.length : Int) ≤ 100
    · simp -implicitDefEqProofs only [Try.f8, Try.results8, startS, pW, pI, pB, li, h1, h2, List.zipIdx_cons, List.zipIdx_nil, go_sem, ↓reduceIte, Nat.reduceEqDiff, Nat.reduceBEq, Nat.reduceAdd, Nat.reduceMul, Nat.reduceLeDiff, Nat.reduceSub, reduceCtorEq, Nat.reduceLT, Int.reduceBEq, Int.reduceBNe, Int.reduceEq, Int.reduceNe, Int.reduceLT, Int.reduceLE]
      refine got_c ?_
      simp [fewN]; omega
    · simp -implicitDefEqProofs only [Try.f8, Try.results8, startS, pW, pI, pB, li, h1, h2, List.zipIdx_cons, List.zipIdx_nil, go_sem, ↓reduceIte, Nat.reduceEqDiff, Nat.reduceBEq, Nat.reduceAdd, Nat.reduceMul, Nat.reduceLeDiff, Nat.reduceSub, reduceCtorEq, Nat.reduceLT, Int.reduceBEq, Int.reduceBNe, Int.reduceEq, Int.reduceNe, Int.reduceLT, Int.reduceLE]
      refine got_c ?_
      simp [fewN]; omega
  · simp -implicitDefEqProofs only [Try.f8, Try.results8, startS, pW, pI, pB, li, h1, List.zipIdx_cons, List.zipIdx_nil, go_sem, ↓reduceIte, Nat.reduceEqDiff, Nat.reduceBEq, Nat.reduceAdd, Nat.reduceMul, Nat.reduceLeDiff, Nat.reduceSub, reduceCtorEq, Nat.reduceLT, Int.reduceBEq, Int.reduceBNe, Int.reduceEq, Int.reduceNe, Int.reduceLT, Int.reduceLE]
    refine got_c ?_
    simp [fewN]; omega

set_option maxHeartbeats 2000000 in
theorem soundW49 (n : Int) : SoundAt Try.prog 49 [.c (.lit (.int .u8 n))] (pB (n != 0)) := by
  refine sound_fun (env_ok tT_ok fs_nil _ : EnvOk Try.prog (mkE (specAt []) [(0, ([0], [], [])), (1, ([2], [], []))])) mixed Try.func49 (by kernel_rfl) rfl (by show 1 ≤ _; decide) (by kernel_rfl) ?_
  show wpC _ _ (Post.ret tT _ _) _
  simp -implicitDefEqProofs only [Try.f49, Try.results49, startS, pW, pI, pB, li, List.zipIdx_cons, List.zipIdx_nil, go_sem, ↓reduceIte, Nat.reduceEqDiff, Nat.reduceBEq, Nat.reduceAdd, Nat.reduceMul, Nat.reduceLeDiff, Nat.reduceSub, reduceCtorEq, Nat.reduceLT, Int.reduceBEq, Int.reduceBNe, Int.reduceEq, Int.reduceNe, Int.reduceLT, Int.reduceLE]
  refine got_c ?_
  simp [bne]
noncomputable def spec49 : PM.Spec := specOf (fun n : Int => [.c (.lit (.int .u8 n))]) (fun _ => True) (fun n => pB (n != 0))
theorem spec49_at (n : Int) : spec49 [.c (.lit (.int .u8 n))] = some (.c (.lit (.bool (n != 0)))) :=
  specOf_at (arg := fun n : Int => [.c (.lit (.int .u8 n))]) (fun a b h => by simpa using h) (a := n) trivial
theorem spec49_ok : ∀ vs r, spec49 vs = some r → SoundAt Try.prog 49 vs r := specOf_sound fun n _ => soundW49 n

/-- The first place at which the bytes are not 0, from i on. -/
def idxN (l : List Int) (i : Nat) : Int := match (l.drop i).findIdx? (· != 0) with
  | some k => (i + k : Nat)
  | none => -1
def st53 (l : List Int) (i : Nat) : St := ⟨[(0, pBy l), (1, fv49), (7, pI l.length), (8, pI i)], []⟩
set_option maxHeartbeats 4000000 in
theorem soundW53 (l : List Int) (hl : l.length ≤ 4611686018427387904) : SoundAt Try.prog 53 [pBy l, fv49] (pI (idxN l 0)) := by
  refine sound_fun (env_ok tT_ok (fs_cons spec49_ok fs_nil) _ : EnvOk Try.prog (mkE (specAt [(49, spec49)]) [(0, ([0, 1], [], [])), (1, ([0, 1, 7, 8], [], [])), (2, ([0, 1, 7, 8, 9], [], [])), (3, ([0, 1, 5, 7, 8], [], [])), (4, ([0, 1, 5, 7, 8, 16], [], [])), (5, ([4], [], [])), (6, ([0, 1, 7, 8], [], [])), (7, ([4], [], []))])) mixed Try.func53 (by kernel_rfl) rfl (by show 2 ≤ _; decide) (by kernel_rfl) ?_
  show wpC _ _ (Post.ret tT _ _) _
  simp -implicitDefEqProofs only [Try.f53, Try.results53, startS, pBy, fv49, pI, pB, li, List.zipIdx_cons, List.zipIdx_nil, List.length_map, go_sem, ↓reduceIte, Nat.reduceEqDiff, Nat.reduceBEq, Nat.reduceAdd, Nat.reduceMul, Nat.reduceLeDiff, Nat.reduceSub, reduceCtorEq, Nat.reduceLT, Int.reduceBEq, Int.reduceBNe, Int.reduceEq, Int.reduceNe, Int.reduceLT, Int.reduceLE]
  refine loop_intro (fun n st => ∃ i, i + n = l.length ∧ idxN l 0 = idxN l i ∧ st = st53 l i) l.length ⟨0, by omega, rfl, ?_⟩ ?_
  · simp [st53, pBy, fv49, pI]
  · rintro n st ⟨i, hi, hm, rfl⟩
    have hw := wrap_nat (n := i) (by omega)
    simp -implicitDefEqProofs only [st53, pBy, fv49, pI, li, go_sem, ↓reduceIte, Nat.reduceEqDiff, Nat.reduceBEq, Nat.reduceAdd, Nat.reduceMul, Nat.reduceLeDiff, Nat.reduceSub, reduceCtorEq, Nat.reduceLT, Int.reduceBEq, Int.reduceBNe, Int.reduceEq, Int.reduceNe, Int.reduceLT, Int.reduceLE]
    refine cond_intro _ _ _ _ _ (fun hc => ?_) (fun hc => ?_)
    · have hlt : i < l.length := by simpa using hc
      have hx : (l.map encB)[i]? = some (encB l[i]) := by simp [hlt]
      have hdrop : l.drop i = l[i] :: l.drop (i + 1) := List.drop_eq_getElem_cons hlt
      generalize l[i] = x at hx hdrop
      simp -implicitDefEqProofs only [hx, Int.natCast_nonneg, Int.toNat_natCast, encB, li, spec49_at, go_sem, ↓reduceIte, Nat.reduceEqDiff, Nat.reduceBEq, Nat.reduceAdd, Nat.reduceMul, Nat.reduceLeDiff, Nat.reduceSub, reduceCtorEq, Nat.reduceLT, Int.reduceBEq, Int.reduceBNe, Int.reduceEq, Int.reduceNe, Int.reduceLT, Int.reduceLE]
      refine cond_intro _ _ _ _ _ (fun h2 => ?_) (fun h2 => ?_)
      · simp -implicitDefEqProofs only [go_sem, ↓reduceIte, Nat.reduceEqDiff, Nat.reduceBEq, Nat.reduceAdd, Nat.reduceMul, Nat.reduceLeDiff, Nat.reduceSub, reduceCtorEq, Nat.reduceLT, Int.reduceBEq, Int.reduceBNe, Int.reduceEq, Int.reduceNe, Int.reduceLT, Int.reduceLE]
        refine got_c ?_
        simp only [idxN] at hm ⊢
        have h2 : (x != 0) = true := h2
        rw [hm, hdrop, List.findIdx?_cons, h2]
        rfl
      · simp -implicitDefEqProofs only [hw, go_sem, ↓reduceIte, Nat.reduceEqDiff, Nat.reduceBEq, Nat.reduceAdd, Nat.reduceMul, Nat.reduceLeDiff, Nat.reduceSub, reduceCtorEq, Nat.reduceLT, Int.reduceBEq, Int.reduceBNe, Int.reduceEq, Int.reduceNe, Int.reduceLT, Int.reduceLE]
        refine ⟨n - 1, by omega, i + 1, by omega, ?_, rfl⟩
        have h2 : (x != 0) = false := h2
        rw [hm, idxN, idxN, hdrop, List.findIdx?_cons, h2]
        cases hf : (l.drop (i + 1)).findIdx? (· != 0) with
        | none => simp
        | some k => simp; omega
    · have hge : l.drop i = [] := List.drop_eq_nil_of_le (by simpa using hc)
      simp -implicitDefEqProofs only [go_sem, ↓reduceIte, Nat.reduceEqDiff, Nat.reduceBEq, Nat.reduceAdd, Nat.reduceMul, Nat.reduceLeDiff, Nat.reduceSub, reduceCtorEq, Nat.reduceLT, Int.reduceBEq, Int.reduceBNe, Int.reduceEq, Int.reduceNe, Int.reduceLT, Int.reduceLE]
      refine got_c ?_
      rw [hm, idxN, hge]
      rfl
noncomputable def spec53 : PM.Spec := specOf (fun l : List Int => [pBy l, fv49]) (fun l => l.length ≤ 4611686018427387904) (fun l => pI (idxN l 0))
theorem spec53_at {l : List Int} (h : l.length ≤ 4611686018427387904) : spec53 [.c (.ro 1 (l.map encB)), .c (.lit (.func (.func 49) #[] #[]))] = some (.c (.lit (.int .i64 (idxN l 0)))) :=
  specOf_at (arg := fun l : List Int => [pBy l, fv49]) (fun a b h => pBy_inj (List.cons.inj h).1) (a := l) h
theorem spec53_ok : ∀ vs r, spec53 vs = some r → SoundAt Try.prog 53 vs r := specOf_sound fun l h => soundW53 l h

def anyN (l : List Int) : Bool := l.any (· != 0)
theorem idx_any (l : List Int) : decide (0 ≤ idxN l 0) = anyN l := by
  simp only [idxN, List.drop_zero, anyN]
  cases hf : l.findIdx? (· != 0) with
  | none =>
    rw [List.findIdx?_eq_none_iff] at hf
    rw [List.any_eq_false.2 (fun x hx => by simpa using hf x hx)]
    rfl
  | some k =>
    have hk := List.findIdx?_eq_some_iff_getElem.1 hf
    obtain ⟨h1, h2, _⟩ := hk
    rw [List.any_eq_true.2 ⟨l[k], List.getElem_mem h1, h2⟩]
    simp
set_option maxHeartbeats 4000000 in
theorem soundW48 (l : List Int) (hl : l.length ≤ 4611686018427387904) : SoundAt Try.prog 48 [pBy l, fv49] (pB (anyN l)) := by
  refine sound_fun (env_ok tT_ok (fs_cons spec53_ok fs_nil) _ : EnvOk Try.prog (mkE (specAt [(53, spec53)]) [(0, ([0, 1], [], [])), (1, ([4], [], []))])) mixed Try.func48 (by kernel_rfl) rfl (by show 2 ≤ _; decide) (by kernel_rfl) ?_
  show wpC _ _ (Post.ret tT _ _) _
  simp -implicitDefEqProofs only [Try.f48, Try.results48, startS, pBy, fv49, pI, pB, li, List.zipIdx_cons, List.zipIdx_nil, spec53_at hl, go_sem, ↓reduceIte, Nat.reduceEqDiff, Nat.reduceBEq, Nat.reduceAdd, Nat.reduceMul, Nat.reduceLeDiff, Nat.reduceSub, reduceCtorEq, Nat.reduceLT, Int.reduceBEq, Int.reduceBNe, Int.reduceEq, Int.reduceNe, Int.reduceLT, Int.reduceLE]
  refine got_c ?_
  rw [idx_any]
noncomputable def spec48 : PM.Spec := specOf (fun l : List Int => [pBy l, fv49]) (fun l => l.length ≤ 4611686018427387904) (fun l => pB (anyN l))
theorem spec48_at {l : List Int} (h : l.length ≤ 4611686018427387904) : spec48 [.c (.ro 1 (l.map encB)), .c (.lit (.func (.func 49) #[] #[]))] = some (.c (.lit (.bool (anyN l)))) :=
  specOf_at (arg := fun l : List Int => [pBy l, fv49]) (fun a b h => pBy_inj (List.cons.inj h).1) (a := l) h
theorem spec48_ok : ∀ vs r, spec48 vs = some r → SoundAt Try.prog 48 vs r := specOf_sound fun l h => soundW48 l h
end Go.Proofs.We
