/- The reference's Add (16), Cut (17), Has (18), Size (20), Gap (21). -/
import Derived.Test.YtikenpdhdmbljaaSp27
set_option linter.unusedSimpArgs false
set_option linter.unusedVariables false
set_option linter.unusedSectionVars false
set_option linter.unnecessarySimpa false
namespace Go.Proofs.Sp
open Go.PM Go.Proofs

noncomputable def spec12 : PM.Spec := specOf (fun x : List S × List S => [pL x.1, pL x.2]) (fun x => x.1.length ≤ 4611686018427387904) (fun x => pB (eqL x.1 x.2))
theorem spec12_at {a : List S} (h : a.length ≤ 4611686018427387904) (b : List S) : spec12 [.c (.ro 2 (a.map encS)), .c (.ro 2 (b.map encS))] = some (.c (.lit (.bool (eqL a b)))) :=
  specOf_at (arg := fun x : List S × List S => [pL x.1, pL x.2]) (fun a b h => Prod.ext (pL_inj (List.cons.inj h).1) (pL_inj (List.cons.inj (List.cons.inj h).2).1)) (a := (a, b)) h
theorem spec12_ok : ∀ vs r, spec12 vs = some r → SoundAt Try.prog 12 vs r := specOf_sound fun (x : List S × List S) h => sound12 x.1 x.2 h
theorem spec22_ok : ∀ vs r, spec15 vs = some r → SoundAt Try.prog 22 vs r := specOf_sound fun l h => sound22 l h
theorem spec26_ok : ∀ vs r, spec23 vs = some r → SoundAt Try.prog 26 vs r := specOf_sound fun s _ => sound26 s
theorem spec23_ok : ∀ vs r, spec23 vs = some r → SoundAt Try.prog 23 vs r := specOf_sound fun s _ => sound23 s
noncomputable def spec14 : PM.Spec := specOf (fun x : List S × S => [pL x.1, pS x.2]) (fun x => x.1.length ≤ 4611686018427387904) (fun x => pB (has x.1 x.2))
theorem spec14_at {l : List S} (h : l.length ≤ 4611686018427387904) (f u : Int) : spec14 [.c (.ro 2 (l.map encS)), .agg [.c (.lit (.int .i64 f)), .c (.lit (.int .i64 u))]] = some (.c (.lit (.bool (has l ⟨f, u⟩)))) :=
  specOf_at (arg := fun x : List S × S => [pL x.1, pS x.2]) (fun a b h => Prod.ext (pL_inj (List.cons.inj h).1) (pS_inj (List.cons.inj (List.cons.inj h).2).1)) (a := (l, ⟨f, u⟩)) h
theorem spec14_ok : ∀ vs r, spec14 vs = some r → SoundAt Try.prog 14 vs r := specOf_sound fun (x : List S × S) h => sound14 x.1 x.2 h
noncomputable def spec19 : PM.Spec := specOf (fun l : List S => [pL l]) (fun l => l.length ≤ 4611686018427387904) (fun l => pI (size l))
theorem spec19_at {l : List S} (h : l.length ≤ 4611686018427387904) : spec19 [.c (.ro 2 (l.map encS))] = some (.c (.lit (.int .i64 (size l)))) :=
  specOf_at (arg := fun l : List S => [pL l]) (fun a b h => pL_inj (List.cons.inj h).1) (a := l) h
theorem spec19_ok : ∀ vs r, spec19 vs = some r → SoundAt Try.prog 19 vs r := specOf_sound fun l h => sound19 l h
theorem spec13_ok : ∀ vs r, spec13 vs = some r → SoundAt Try.prog 13 vs r := specOf_sound fun (x : List S × Int) h => sound13 x.1 x.2 h

/-- What is told of a list. -/
def outN (l : List S) (s : S) (o : List S) : List S × Int := if (may l && one s) = true then (if o.length > 1000 then ([], 4) else (o, 0)) else ([], 1)
def pR (r : List S × Int) : PV := .tup [pL r.1, pI r.2]

set_option maxHeartbeats 2000000 in
theorem sound16 (l : List S) (s : S) (hl : l.length ≤ 536870912) : SoundAt Try.prog 16 [pL l, pS s] (pR (outN l s (madeN l s false))) := by
  refine sound_fun (env_ok tT_ok (fs_cons spec22_ok (fs_cons spec26_ok (fs_cons spec27_ok fs_nil))) _ : EnvOk Try.prog (mkE (specAt [(22, spec15), (26, spec23), (27, spec27)]) [])) mixed Try.func16 (by kernel_rfl) rfl (by show 2 ≤ _; decide) (by kernel_rfl) ?_
  show wpC _ _ (Post.ret tT _ _) _
  have h15 := spec15_at (l := l) (by omega)
  have h27 := spec27_at hl
  simp -implicitDefEqProofs only [Try.f16, Try.results16, startS, pL, pI, pS, li, h15, spec23_at, List.zipIdx_cons, List.zipIdx_nil, go_sem, ↓reduceIte, Nat.reduceEqDiff, Nat.reduceBEq, Nat.reduceAdd, Nat.reduceMul, Nat.reduceLeDiff, Nat.reduceSub, reduceCtorEq, Nat.reduceLT]
  refine opsG_intro _ _ _ _ _ _ (fun h1 => ?_) (fun h1 => ?_)
  · have h1' : may l = true := by simpa using h1
    simp -implicitDefEqProofs only [spec23_at, go_sem, ↓reduceIte, Nat.reduceEqDiff, Nat.reduceBEq, Nat.reduceAdd, Nat.reduceMul, Nat.reduceLeDiff, Nat.reduceSub, reduceCtorEq, Nat.reduceLT]
    refine cond_intro _ _ _ _ _ (fun h2 => ?_) (fun h2 => ?_)
    · have h2' : one s = false := by simpa using h2
      simp -implicitDefEqProofs only [go_sem, ↓reduceIte, Nat.reduceEqDiff, Nat.reduceBEq, Nat.reduceAdd, Nat.reduceMul, Nat.reduceLeDiff, Nat.reduceSub, reduceCtorEq, Nat.reduceLT]
      rw [pR, outN, if_neg (by simp [h1', h2'])]
      exact gots [] (by simp) (mAs_cons (mA_c (m_cov (.nil _))) (mAs_cons (mA_c (m_c rfl)) mAs_nil))
    · have h2' : one s = true := by simpa using h2
      simp -implicitDefEqProofs only [h27, go_sem, ↓reduceIte, Nat.reduceEqDiff, Nat.reduceBEq, Nat.reduceAdd, Nat.reduceMul, Nat.reduceLeDiff, Nat.reduceSub, reduceCtorEq, Nat.reduceLT]
      refine cond_intro _ _ _ _ _ (fun h3 => ?_) (fun h3 => ?_)
      · have h3a : (1000 : Int) < (madeN l s false).length := by simpa using h3
        have h3' : (madeN l s false).length > 1000 := by omega
        simp -implicitDefEqProofs only [go_sem, ↓reduceIte, Nat.reduceEqDiff, Nat.reduceBEq, Nat.reduceAdd, Nat.reduceMul, Nat.reduceLeDiff, Nat.reduceSub, reduceCtorEq, Nat.reduceLT]
        rw [pR, outN, if_pos (by simp [h1', h2']), if_pos h3']
        exact gots [] (by simp) (mAs_cons (mA_c (m_cov (.nil _))) (mAs_cons (mA_c (m_c rfl)) mAs_nil))
      · have h3a : ¬ (1000 : Int) < (madeN l s false).length := by simpa using h3
        have h3' : ¬ (madeN l s false).length > 1000 := by omega
        simp -implicitDefEqProofs only [go_sem, ↓reduceIte, Nat.reduceEqDiff, Nat.reduceBEq, Nat.reduceAdd, Nat.reduceMul, Nat.reduceLeDiff, Nat.reduceSub, reduceCtorEq, Nat.reduceLT]
        rw [pR, outN, if_pos (by simp [h1', h2']), if_neg h3']
        exact gots [] (by simp) (mAs_cons (mA_c (m_c rfl)) (mAs_cons (mA_c (m_c rfl)) mAs_nil))
  · have h1' : may l = false := by simpa using h1
    simp -implicitDefEqProofs only [go_sem, ↓reduceIte, Nat.reduceEqDiff, Nat.reduceBEq, Nat.reduceAdd, Nat.reduceMul, Nat.reduceLeDiff, Nat.reduceSub, reduceCtorEq, Nat.reduceLT]
    rw [pR, outN, if_neg (by simp [h1'])]
    exact gots [] (by simp) (mAs_cons (mA_c (m_cov (.nil _))) (mAs_cons (mA_c (m_c rfl)) mAs_nil))
set_option maxHeartbeats 2000000 in
theorem sound17 (l : List S) (s : S) (hl : l.length ≤ 536870912) : SoundAt Try.prog 17 [pL l, pS s] (pR (outN l s (madeN l s true))) := by
  refine sound_fun (env_ok tT_ok (fs_cons spec22_ok (fs_cons spec26_ok (fs_cons spec27_ok fs_nil))) _ : EnvOk Try.prog (mkE (specAt [(22, spec15), (26, spec23), (27, spec27)]) [])) mixed Try.func17 (by kernel_rfl) rfl (by show 2 ≤ _; decide) (by kernel_rfl) ?_
  show wpC _ _ (Post.ret tT _ _) _
  have h15 := spec15_at (l := l) (by omega)
  have h27 := spec27_at hl
  simp -implicitDefEqProofs only [Try.f17, Try.results17, startS, pL, pI, pS, li, h15, spec23_at, List.zipIdx_cons, List.zipIdx_nil, go_sem, ↓reduceIte, Nat.reduceEqDiff, Nat.reduceBEq, Nat.reduceAdd, Nat.reduceMul, Nat.reduceLeDiff, Nat.reduceSub, reduceCtorEq, Nat.reduceLT]
  refine opsG_intro _ _ _ _ _ _ (fun h1 => ?_) (fun h1 => ?_)
  · have h1' : may l = true := by simpa using h1
    simp -implicitDefEqProofs only [spec23_at, go_sem, ↓reduceIte, Nat.reduceEqDiff, Nat.reduceBEq, Nat.reduceAdd, Nat.reduceMul, Nat.reduceLeDiff, Nat.reduceSub, reduceCtorEq, Nat.reduceLT]
    refine cond_intro _ _ _ _ _ (fun h2 => ?_) (fun h2 => ?_)
    · have h2' : one s = false := by simpa using h2
      simp -implicitDefEqProofs only [go_sem, ↓reduceIte, Nat.reduceEqDiff, Nat.reduceBEq, Nat.reduceAdd, Nat.reduceMul, Nat.reduceLeDiff, Nat.reduceSub, reduceCtorEq, Nat.reduceLT]
      rw [pR, outN, if_neg (by simp [h1', h2'])]
      exact gots [] (by simp) (mAs_cons (mA_c (m_cov (.nil _))) (mAs_cons (mA_c (m_c rfl)) mAs_nil))
    · have h2' : one s = true := by simpa using h2
      simp -implicitDefEqProofs only [h27, go_sem, ↓reduceIte, Nat.reduceEqDiff, Nat.reduceBEq, Nat.reduceAdd, Nat.reduceMul, Nat.reduceLeDiff, Nat.reduceSub, reduceCtorEq, Nat.reduceLT]
      refine cond_intro _ _ _ _ _ (fun h3 => ?_) (fun h3 => ?_)
      · have h3a : (1000 : Int) < (madeN l s true).length := by simpa using h3
        have h3' : (madeN l s true).length > 1000 := by omega
        simp -implicitDefEqProofs only [go_sem, ↓reduceIte, Nat.reduceEqDiff, Nat.reduceBEq, Nat.reduceAdd, Nat.reduceMul, Nat.reduceLeDiff, Nat.reduceSub, reduceCtorEq, Nat.reduceLT]
        rw [pR, outN, if_pos (by simp [h1', h2']), if_pos h3']
        exact gots [] (by simp) (mAs_cons (mA_c (m_cov (.nil _))) (mAs_cons (mA_c (m_c rfl)) mAs_nil))
      · have h3a : ¬ (1000 : Int) < (madeN l s true).length := by simpa using h3
        have h3' : ¬ (madeN l s true).length > 1000 := by omega
        simp -implicitDefEqProofs only [go_sem, ↓reduceIte, Nat.reduceEqDiff, Nat.reduceBEq, Nat.reduceAdd, Nat.reduceMul, Nat.reduceLeDiff, Nat.reduceSub, reduceCtorEq, Nat.reduceLT]
        rw [pR, outN, if_pos (by simp [h1', h2']), if_neg h3']
        exact gots [] (by simp) (mAs_cons (mA_c (m_c rfl)) (mAs_cons (mA_c (m_c rfl)) mAs_nil))
  · have h1' : may l = false := by simpa using h1
    simp -implicitDefEqProofs only [go_sem, ↓reduceIte, Nat.reduceEqDiff, Nat.reduceBEq, Nat.reduceAdd, Nat.reduceMul, Nat.reduceLeDiff, Nat.reduceSub, reduceCtorEq, Nat.reduceLT]
    rw [pR, outN, if_neg (by simp [h1'])]
    exact gots [] (by simp) (mAs_cons (mA_c (m_cov (.nil _))) (mAs_cons (mA_c (m_c rfl)) mAs_nil))
noncomputable def specR (f : List S → S → List S × Int) : PM.Spec := specOf (fun x : List S × S => [pL x.1, pS x.2]) (fun x => x.1.length ≤ 536870912) (fun x => pR (f x.1 x.2))
theorem specR_at {F : List S → S → List S × Int} {l : List S} (h : l.length ≤ 536870912) (f u : Int) : specR F [.c (.ro 2 (l.map encS)), .agg [.c (.lit (.int .i64 f)), .c (.lit (.int .i64 u))]] = some (.tup [.c (.ro 2 ((F l ⟨f, u⟩).1.map encS)), .c (.lit (.int .i64 (F l ⟨f, u⟩).2))]) :=
  specOf_at (arg := fun x : List S × S => [pL x.1, pS x.2]) (fun a b h => Prod.ext (pL_inj (List.cons.inj h).1) (pS_inj (List.cons.inj (List.cons.inj h).2).1)) (a := (l, ⟨f, u⟩)) h
def addR (l : List S) (s : S) : List S × Int := outN l s (madeN l s false)
def cutR (l : List S) (s : S) : List S × Int := outN l s (madeN l s true)
theorem spec16_ok : ∀ vs r, specR addR vs = some r → SoundAt Try.prog 16 vs r := specOf_sound fun (x : List S × S) h => sound16 x.1 x.2 h
theorem spec17_ok : ∀ vs r, specR cutR vs = some r → SoundAt Try.prog 17 vs r := specOf_sound fun (x : List S × S) h => sound17 x.1 x.2 h

/-! Has -/
def hasR' (l : List S) (s : S) : Bool := l.any fun x => decide (x.f ≤ s.f) && decide (s.u ≤ x.u)
def hasR (l : List S) (s : S) : Bool := (may l && one s) && hasR' l s
def st18 (l : List S) (s : S) (i : Nat) : St := ⟨[(0, pL l), (3, .ptr 3 0), (5, pB (may l)), (6, pI i)], [((3, 0), some (.cell (pI s.f))), ((3, 1), some (.cell (pI s.u)))]⟩
set_option maxHeartbeats 4000000 in
theorem sound18 (l : List S) (s : S) (hl : l.length ≤ 4611686018427387904) : SoundAt Try.prog 18 [pL l, pS s] (pB (hasR l s)) := by
  refine sound_fun (env_ok tT_ok (fs_cons spec22_ok (fs_cons spec26_ok fs_nil)) _ : EnvOk Try.prog (mkE (specAt [(22, spec15), (26, spec23)]) [(2, ([0, 3, 5, 6], [(3, 3, 2)], [])), (3, ([0, 3, 5, 6, 19], [(3, 3, 2)], [])), (4, ([0, 3, 5, 6], [(3, 3, 2)], []))])) mixed Try.func18 (by kernel_rfl) rfl (by show 2 ≤ _; decide) (by kernel_rfl) ?_
  show wpC _ _ (Post.ret tT _ _) _
  have h15 := spec15_at (l := l) (by omega)
  simp -implicitDefEqProofs only [Try.f18, Try.results18, startS, pL, pI, pS, pB, li, h15, spec23_at, List.zipIdx_cons, List.zipIdx_nil, go_sem, ↓reduceIte, Nat.reduceEqDiff, Nat.reduceBEq, Nat.reduceAdd, Nat.reduceMul, Nat.reduceLeDiff, Nat.reduceSub, reduceCtorEq, Nat.reduceLT]
  refine loop_intro (fun n st => ∃ i, i + n = l.length ∧ hasR l s = ((may l && one s) && hasR' (l.drop i) s) ∧ st = st18 l s i) l.length ⟨0, by omega, by simp [hasR], ?_⟩ ?_
  · simp [st18, pL, pI, pB]
  · rintro n st ⟨i, hi, hm, rfl⟩
    have hw := wrap_nat (n := i) (by omega)
    simp -implicitDefEqProofs only [st18, pL, pI, pS, pB, li, go_sem, ↓reduceIte, Nat.reduceEqDiff, Nat.reduceBEq, Nat.reduceAdd, Nat.reduceMul, Nat.reduceLeDiff, Nat.reduceSub, reduceCtorEq, Nat.reduceLT]
    have done : (may l && one s) = false ∨ l.drop i = [] → hasR l s = false := by
      rintro (h | h)
      · rw [hm, h]; rfl
      · rw [hm, h]; simp [hasR']
    refine opsG_intro _ _ _ _ _ _ (fun h0 => ?_) (fun h0 => ?_)
    · have hlt : i < l.length := by simpa using h0
      have hx : (l.map encS)[i]? = some (encS l[i]) := by simp [hlt]
      have hdrop : l.drop i = l[i] :: l.drop (i + 1) := List.drop_eq_getElem_cons hlt
      generalize l[i] = x at hx hdrop
      cases h1 : may l
      · simp -implicitDefEqProofs only [spec23_at, go_sem, ↓reduceIte, Nat.reduceEqDiff, Nat.reduceBEq, Nat.reduceAdd, Nat.reduceMul, Nat.reduceLeDiff, Nat.reduceSub, reduceCtorEq, Nat.reduceLT]
        exact got_c (by rw [done (.inl (by simp [h1]))])
      · cases h2 : one s
        · simp -implicitDefEqProofs only [spec23_at, h2, go_sem, ↓reduceIte, Nat.reduceEqDiff, Nat.reduceBEq, Nat.reduceAdd, Nat.reduceMul, Nat.reduceLeDiff, Nat.reduceSub, reduceCtorEq, Nat.reduceLT]
          exact got_c (by rw [done (.inl (by simp [h2]))])
        · simp -implicitDefEqProofs only [spec23_at, h2, hx, hw, Int.natCast_nonneg, Int.toNat_natCast, encS, li, go_sem, ↓reduceIte, Nat.reduceEqDiff, Nat.reduceBEq, Nat.reduceAdd, Nat.reduceMul, Nat.reduceLeDiff, Nat.reduceSub, reduceCtorEq, Nat.reduceLT]
          refine opsG_intro _ _ _ _ _ _ (fun h3 => ?_) (fun h3 => ?_)
          · simp -implicitDefEqProofs only [spec23_at, h2, hx, hw, Int.natCast_nonneg, Int.toNat_natCast, encS, li, go_sem, ↓reduceIte, Nat.reduceEqDiff, Nat.reduceBEq, Nat.reduceAdd, Nat.reduceMul, Nat.reduceLeDiff, Nat.reduceSub, reduceCtorEq, Nat.reduceLT]
            refine ⟨by rfl, ?_⟩
            refine cond_intro _ _ _ _ _ (fun h4 => ?_) (fun h4 => ?_)
            · simp -implicitDefEqProofs only [go_sem, ↓reduceIte, Nat.reduceEqDiff, Nat.reduceBEq, Nat.reduceAdd, Nat.reduceMul, Nat.reduceLeDiff, Nat.reduceSub, reduceCtorEq, Nat.reduceLT]
              refine got_c ?_
              rw [hm, hdrop, h1, h2]
              simp [hasR', h3, h4]
            · simp -implicitDefEqProofs only [hw, go_sem, ↓reduceIte, Nat.reduceEqDiff, Nat.reduceBEq, Nat.reduceAdd, Nat.reduceMul, Nat.reduceLeDiff, Nat.reduceSub, reduceCtorEq, Nat.reduceLT]
              refine ⟨n - 1, by omega, i + 1, by omega, ?_, by simp [h1]⟩
              rw [hm, hdrop]
              simp only [hasR', List.any_cons, h4, h1, h2, Bool.and_false, Bool.false_or, Bool.true_and, Bool.and_self]
          · have h3' : decide (x.f ≤ s.f) = false := h3
            simp -implicitDefEqProofs only [hw, go_sem, ↓reduceIte, Nat.reduceEqDiff, Nat.reduceBEq, Nat.reduceAdd, Nat.reduceMul, Nat.reduceLeDiff, Nat.reduceSub, reduceCtorEq, Nat.reduceLT]
            refine ⟨by rfl, n - 1, by omega, i + 1, by omega, ?_, by simp [h1]⟩
            rw [hm, hdrop]
            simp only [hasR', List.any_cons, h3', h1, h2, Bool.false_and, Bool.false_or, Bool.true_and, Bool.and_self]
    · have hge : l.drop i = [] := List.drop_eq_nil_of_le (by simpa using h0)
      simp -implicitDefEqProofs only [go_sem, ↓reduceIte, Nat.reduceEqDiff, Nat.reduceBEq, Nat.reduceAdd, Nat.reduceMul, Nat.reduceLeDiff, Nat.reduceSub, reduceCtorEq, Nat.reduceLT]
      exact got_c (by rw [done (.inr hge)])
/-! Size, Gap -/
def sizeR' : Int → List S → Int
  | n, [] => n
  | n, s :: r => sizeR' (w64 (w64 (n + s.u) - s.f)) r
def sizeR (l : List S) : Int := if may l = true then sizeR' 0 l else 0
def st20 (l : List S) (k : Int) (i : Nat) : St := ⟨[(0, pL l), (3, pI k), (4, pB (may l)), (5, pI i)], []⟩
set_option maxHeartbeats 4000000 in
theorem sound20 (l : List S) (hl : l.length ≤ 4611686018427387904) : SoundAt Try.prog 20 [pL l] (pI (sizeR l)) := by
  refine sound_fun (env_ok tT_ok (fs_cons spec22_ok fs_nil) _ : EnvOk Try.prog (mkE (specAt [(22, spec15)]) [(3, ([0, 3, 4, 5], [], [])), (5, ([0, 3, 4, 5], [], []))])) mixed Try.func20 (by kernel_rfl) rfl (by show 1 ≤ _; decide) (by kernel_rfl) ?_
  show wpC _ _ (Post.ret tT _ _) _
  have h15 := spec15_at (l := l) (by omega)
  simp -implicitDefEqProofs only [Try.f20, Try.results20, startS, pL, pI, pB, li, h15, List.zipIdx_cons, List.zipIdx_nil, go_sem, ↓reduceIte, Nat.reduceEqDiff, Nat.reduceBEq, Nat.reduceAdd, Nat.reduceMul, Nat.reduceLeDiff, Nat.reduceSub, reduceCtorEq, Nat.reduceLT]
  refine loop_intro (fun n st => ∃ i k, i + n = l.length ∧ sizeR l = (if may l = true then sizeR' k (l.drop i) else k) ∧ st = st20 l k i) l.length ⟨0, 0, by omega, rfl, ?_⟩ ?_
  · simp [st20, pL, pI, pB]
  · rintro n st ⟨i, k, hi, hm, rfl⟩
    have hw := wrap_nat (n := i) (by omega)
    simp -implicitDefEqProofs only [st20, pL, pI, pB, li, go_sem, ↓reduceIte, Nat.reduceEqDiff, Nat.reduceBEq, Nat.reduceAdd, Nat.reduceMul, Nat.reduceLeDiff, Nat.reduceSub, reduceCtorEq, Nat.reduceLT]
    refine opsG_intro _ _ _ _ _ _ (fun h0 => ?_) (fun h0 => ?_)
    · have hlt : i < l.length := by simpa using h0
      have hx : (l.map encS)[i]? = some (encS l[i]) := by simp [hlt]
      have hdrop : l.drop i = l[i] :: l.drop (i + 1) := List.drop_eq_getElem_cons hlt
      generalize l[i] = x at hx hdrop
      cases h1 : may l
      · simp -implicitDefEqProofs only [go_sem, ↓reduceIte, Nat.reduceEqDiff, Nat.reduceBEq, Nat.reduceAdd, Nat.reduceMul, Nat.reduceLeDiff, Nat.reduceSub, reduceCtorEq, Nat.reduceLT]
        exact got_c (by rw [hm, if_neg (by simp [h1])])
      · simp -implicitDefEqProofs only [hx, hw, Int.natCast_nonneg, Int.toNat_natCast, encS, li, go_sem, ↓reduceIte, Nat.reduceEqDiff, Nat.reduceBEq, Nat.reduceAdd, Nat.reduceMul, Nat.reduceLeDiff, Nat.reduceSub, reduceCtorEq, Nat.reduceLT]
        refine ⟨by rfl, n - 1, by omega, i + 1, w64 (w64 (k + x.u) - x.f), by omega, ?_, rfl⟩
        rw [hm, if_pos h1, hdrop, sizeR']
    · have hge : l.drop i = [] := List.drop_eq_nil_of_le (by simpa using h0)
      simp -implicitDefEqProofs only [go_sem, ↓reduceIte, Nat.reduceEqDiff, Nat.reduceBEq, Nat.reduceAdd, Nat.reduceMul, Nat.reduceLeDiff, Nat.reduceSub, reduceCtorEq, Nat.reduceLT]
      refine got_c ?_
      rw [hm, hge]
      simp [sizeR']
def gapR' : Int → List S → Int
  | n, [] => n
  | n, s :: r => if s.f ≤ n ∧ n < s.u then s.u else gapR' n r
def gapR (l : List S) (n : Int) : Int := if may l = true then gapR' (if n < 0 then 0 else n) l else 0
def st21 (l : List S) (k : Int) (i : Nat) : St := ⟨[(0, pL l), (1, pI k), (6, pI i)], []⟩
set_option maxHeartbeats 4000000 in
theorem sound21 (l : List S) (m : Int) (hl : l.length ≤ 4611686018427387904) : SoundAt Try.prog 21 [pL l, pI m] (pI (gapR l m)) := by
  refine sound_fun (env_ok tT_ok (fs_cons spec22_ok fs_nil) _ : EnvOk Try.prog (mkE (specAt [(22, spec15)]) [(6, ([0, 1, 6], [], [])), (8, ([0, 1, 6], [], []))])) mixed Try.func21 (by kernel_rfl) rfl (by show 2 ≤ _; decide) (by kernel_rfl) ?_
  show wpC _ _ (Post.ret tT _ _) _
  have h15 := spec15_at (l := l) (by omega)
  simp -implicitDefEqProofs only [Try.f21, Try.results21, startS, pL, pI, pB, li, h15, List.zipIdx_cons, List.zipIdx_nil, go_sem, ↓reduceIte, Nat.reduceEqDiff, Nat.reduceBEq, Nat.reduceAdd, Nat.reduceMul, Nat.reduceLeDiff, Nat.reduceSub, reduceCtorEq, Nat.reduceLT]
  cases h1 : may l
  · simp -implicitDefEqProofs only [go_sem, ↓reduceIte, Nat.reduceEqDiff, Nat.reduceBEq, Nat.reduceAdd, Nat.reduceMul, Nat.reduceLeDiff, Nat.reduceSub, reduceCtorEq, Nat.reduceLT]
    exact got_c (by simp [gapR, h1])
  simp -implicitDefEqProofs only [go_sem, ↓reduceIte, Nat.reduceEqDiff, Nat.reduceBEq, Nat.reduceAdd, Nat.reduceMul, Nat.reduceLeDiff, Nat.reduceSub, reduceCtorEq, Nat.reduceLT]
  refine cond_intro _ _ _ _ _ (fun h2 => ?_) (fun h2 => ?_)
  all_goals
    simp -implicitDefEqProofs only [go_sem, ↓reduceIte, Nat.reduceEqDiff, Nat.reduceBEq, Nat.reduceAdd, Nat.reduceMul, Nat.reduceLeDiff, Nat.reduceSub, reduceCtorEq, Nat.reduceLT]
    refine loop_intro (fun n st => ∃ i, i + n = l.length ∧ gapR l m = gapR' (if m < 0 then 0 else m) (l.drop i) ∧ st = st21 l (if m < 0 then 0 else m) i) l.length ⟨0, by omega, by simp [gapR, h1], ?_⟩ ?_
    · simp [st21, pL, pI, pB]
      intros
      simp_all
      try omega
    · clear h2
      rintro n st ⟨i, hi, hm, rfl⟩
      have hw := wrap_nat (n := i) (by omega)
      generalize (if m < 0 then 0 else m) = k at hm
      simp -implicitDefEqProofs only [st21, pL, pI, pB, li, go_sem, ↓reduceIte, Nat.reduceEqDiff, Nat.reduceBEq, Nat.reduceAdd, Nat.reduceMul, Nat.reduceLeDiff, Nat.reduceSub, reduceCtorEq, Nat.reduceLT]
      refine cond_intro _ _ _ _ _ (fun hc => ?_) (fun hc => ?_)
      · have hlt : i < l.length := by simpa using hc
        have hx : (l.map encS)[i]? = some (encS l[i]) := by simp [hlt]
        have hdrop : l.drop i = l[i] :: l.drop (i + 1) := List.drop_eq_getElem_cons hlt
        generalize l[i] = x at hx hdrop
        simp -implicitDefEqProofs only [hx, Int.natCast_nonneg, Int.toNat_natCast, encS, li, go_sem, ↓reduceIte, Nat.reduceEqDiff, Nat.reduceBEq, Nat.reduceAdd, Nat.reduceMul, Nat.reduceLeDiff, Nat.reduceSub, reduceCtorEq, Nat.reduceLT]
        refine opsG_intro _ _ _ _ _ _ (fun h3 => ?_) (fun h3 => ?_)
        · have h3' : x.f ≤ k := by simpa using h3
          simp -implicitDefEqProofs only [hx, Int.natCast_nonneg, Int.toNat_natCast, encS, li, go_sem, ↓reduceIte, Nat.reduceEqDiff, Nat.reduceBEq, Nat.reduceAdd, Nat.reduceMul, Nat.reduceLeDiff, Nat.reduceSub, reduceCtorEq, Nat.reduceLT]
          refine cond_intro _ _ _ _ _ (fun h4 => ?_) (fun h4 => ?_)
          · have h4' : k < x.u := by simpa using h4
            simp -implicitDefEqProofs only [hx, Int.natCast_nonneg, Int.toNat_natCast, encS, li, go_sem, ↓reduceIte, Nat.reduceEqDiff, Nat.reduceBEq, Nat.reduceAdd, Nat.reduceMul, Nat.reduceLeDiff, Nat.reduceSub, reduceCtorEq, Nat.reduceLT]
            refine got_c ?_
            rw [hm, hdrop, gapR', if_pos ⟨h3', h4'⟩]
          · have h4' : ¬ k < x.u := by simpa using h4
            simp -implicitDefEqProofs only [hw, go_sem, ↓reduceIte, Nat.reduceEqDiff, Nat.reduceBEq, Nat.reduceAdd, Nat.reduceMul, Nat.reduceLeDiff, Nat.reduceSub, reduceCtorEq, Nat.reduceLT]
            refine ⟨n - 1, by omega, i + 1, by omega, ?_, rfl⟩
            rw [hm, hdrop, gapR', if_neg (fun h => h4' h.2)]
        · have h3' : ¬ x.f ≤ k := by simpa using h3
          simp -implicitDefEqProofs only [hw, go_sem, ↓reduceIte, Nat.reduceEqDiff, Nat.reduceBEq, Nat.reduceAdd, Nat.reduceMul, Nat.reduceLeDiff, Nat.reduceSub, reduceCtorEq, Nat.reduceLT]
          refine ⟨n - 1, by omega, i + 1, by omega, ?_, rfl⟩
          rw [hm, hdrop, gapR', if_neg (fun h => h3' h.1)]
      · have hge : l.drop i = [] := List.drop_eq_nil_of_le (by simpa using hc)
        simp -implicitDefEqProofs only [go_sem, ↓reduceIte, Nat.reduceEqDiff, Nat.reduceBEq, Nat.reduceAdd, Nat.reduceMul, Nat.reduceLeDiff, Nat.reduceSub, reduceCtorEq, Nat.reduceLT]
        refine got_c ?_
        rw [hm, hge, gapR']
end Go.Proofs.Sp
