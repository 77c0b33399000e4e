/- Edge (12), Ready (13), Over (24), New (14), Same of bytes (16) and of weaves (10). -/
import Derived.Test.YtmmipinjkbkkmaaWe4
set_option linter.unusedSimpArgs false
set_option linter.unusedVariables false
set_option linter.unusedSectionVars false
set_option linter.unnecessarySimpa false
namespace Go.Proofs.We
open Go.PM Go.Proofs

noncomputable def specW11 : PM.Spec := specOf (fun w : Wv => [pW w]) (fun w => w.got.length ≤ 4611686018427387904) (fun w => pB (mayN w))
theorem specW11_at {w : Wv} (h : w.got.length ≤ 4611686018427387904) : specW11 [.agg [.c (.lit (.int .i64 w.base)), .c (.ro 1 (w.b.map encB)), .c (.ro 2 (w.got.map encS)), .c (.lit (.int .i64 w.cap)), .c (.lit (.int .i64 w.fin))]] = some (.c (.lit (.bool (mayN w)))) := specOf_at (arg := fun w : Wv => [pW w]) (fun a b h => pW_inj (List.cons.inj h).1) (a := w) h
theorem specW11_ok : ∀ vs r, specW11 vs = some r → SoundAt Try.prog 11 vs r := specOf_sound fun w h => soundW11 w h
theorem specW28_at' (w : Wv) : specW28 [.agg [.c (.lit (.int .i64 w.base)), .c (.ro 1 (w.b.map encB)), .c (.ro 2 (w.got.map encS)), .c (.lit (.int .i64 w.cap)), .c (.lit (.int .i64 w.fin))]] = some (.c (.lit (.int .i64 (edgeN w)))) := specW28_at w
theorem specW31_at' {w : Wv} (h : w.got.length ≤ 4611686018427387904) : specW31 [.agg [.c (.lit (.int .i64 w.base)), .c (.ro 1 (w.b.map encB)), .c (.ro 2 (w.got.map encS)), .c (.lit (.int .i64 w.cap)), .c (.lit (.int .i64 w.fin))]] = some (.c (.lit (.int .i64 (uptoN w)))) := specW31_at h

noncomputable def edgeF (w : Wv) : Int := if mayN w = true then edgeN w else 0
set_option maxHeartbeats 2000000 in
theorem soundW12 (w : Wv) (hl : w.got.length ≤ 4611686018427387904) : SoundAt Try.prog 12 [pW w] (pI (edgeF w)) := by
  refine sound_fun (env_ok tT_ok (fs_cons specW11_ok (fs_cons specW28_ok fs_nil)) _ : EnvOk Try.prog (mkE (specAt [(11, specW11), (28, specW28)]) [(0, ([1], [(1, 1, 5)], [])), (1, ([1, 5], [(1, 1, 5)], [])), (2, ([2], [], [])), (3, ([2], [], []))])) mixed Try.func12 (by kernel_rfl) rfl (by show 1 ≤ _; decide) (by kernel_rfl) ?_
  show wpC _ _ (Post.ret tT _ _) _
  simp -implicitDefEqProofs only [Try.f12, Try.results12, startS, pW, pI, pB, li, List.zipIdx_cons, List.zipIdx_nil, specW11_at hl, specW28_at', go_sem, ↓reduceIte, Nat.reduceEqDiff, Nat.reduceBEq, Nat.reduceAdd, Nat.reduceMul, Nat.reduceLeDiff, Nat.reduceSub, reduceCtorEq, Nat.reduceLT, Int.reduceBEq, Int.reduceBNe, Int.reduceEq, Int.reduceNe, Int.reduceLT, Int.reduceLE]
  refine cond_intro _ _ _ _ _ (fun h => ?_) (fun h => ?_)
  · simp -implicitDefEqProofs only [go_sem, ↓reduceIte, Nat.reduceEqDiff, Nat.reduceBEq, Nat.reduceAdd, Nat.reduceMul, Nat.reduceLeDiff, Nat.reduceSub, reduceCtorEq, Nat.reduceLT, Int.reduceBEq, Int.reduceBNe, Int.reduceEq, Int.reduceNe, Int.reduceLT, Int.reduceLE]
    refine got_c ?_
    have : mayN w = false := by simpa using h
    rw [edgeF, this]; rfl
  · simp -implicitDefEqProofs only [specW28_at', go_sem, ↓reduceIte, Nat.reduceEqDiff, Nat.reduceBEq, Nat.reduceAdd, Nat.reduceMul, Nat.reduceLeDiff, Nat.reduceSub, reduceCtorEq, Nat.reduceLT, Int.reduceBEq, Int.reduceBNe, Int.reduceEq, Int.reduceNe, Int.reduceLT, Int.reduceLE]
    refine got_c ?_
    have : mayN w = true := by simpa using h
    rw [edgeF, this]; rfl
noncomputable def readyN (w : Wv) : Int := if mayN w = true then w64 (gap w.got w.base - w.base) else 0
set_option maxHeartbeats 2000000 in
theorem soundW13 (w : Wv) (hl : w.got.length ≤ 4611686018427387904) : SoundAt Try.prog 13 [pW w] (pI (readyN w)) := by
  refine sound_fun (env_ok tT_ok (fs_cons specW11_ok (fs_cons spec13_ok fs_nil)) _ : EnvOk Try.prog (mkE (specAt [(11, specW11), (36, spec13)]) [(0, ([1], [(1, 1, 5)], [])), (1, ([1, 5], [(1, 1, 5)], [])), (2, ([2], [], [])), (3, ([2], [], []))])) mixed Try.func13 (by kernel_rfl) rfl (by show 1 ≤ _; decide) (by kernel_rfl) ?_
  show wpC _ _ (Post.ret tT _ _) _
  simp -implicitDefEqProofs only [Try.f13, Try.results13, startS, pW, pI, pB, li, List.zipIdx_cons, List.zipIdx_nil, specW11_at hl, go_sem, ↓reduceIte, Nat.reduceEqDiff, Nat.reduceBEq, Nat.reduceAdd, Nat.reduceMul, Nat.reduceLeDiff, Nat.reduceSub, reduceCtorEq, Nat.reduceLT, Int.reduceBEq, Int.reduceBNe, Int.reduceEq, Int.reduceNe, Int.reduceLT, Int.reduceLE]
  refine cond_intro _ _ _ _ _ (fun h => ?_) (fun h => ?_)
  · simp -implicitDefEqProofs only [go_sem, ↓reduceIte, Nat.reduceEqDiff, Nat.reduceBEq, Nat.reduceAdd, Nat.reduceMul, Nat.reduceLeDiff, Nat.reduceSub, reduceCtorEq, Nat.reduceLT, Int.reduceBEq, Int.reduceBNe, Int.reduceEq, Int.reduceNe, Int.reduceLT, Int.reduceLE]
    refine got_c ?_
    have : mayN w = false := by simpa using h
    rw [readyN, this]; rfl
  · simp -implicitDefEqProofs only [spec13_at hl, go_sem, ↓reduceIte, Nat.reduceEqDiff, Nat.reduceBEq, Nat.reduceAdd, Nat.reduceMul, Nat.reduceLeDiff, Nat.reduceSub, reduceCtorEq, Nat.reduceLT, Int.reduceBEq, Int.reduceBNe, Int.reduceEq, Int.reduceNe, Int.reduceLT, Int.reduceLE]
    refine ⟨by rfl, got_c ?_⟩
    have : mayN w = true := by simpa using h
    rw [readyN, this]; rfl
noncomputable def overN (w : Wv) : Bool := mayN w && (w.base == w.fin)
set_option maxHeartbeats 2000000 in
theorem soundW24 (w : Wv) (hl : w.got.length ≤ 4611686018427387904) : SoundAt Try.prog 24 [pW w] (pB (overN w)) := by
  refine sound_fun (env_ok tT_ok (fs_cons specW11_ok fs_nil) _ : EnvOk Try.prog (mkE (specAt [(11, specW11)]) [(0, ([1], [(1, 1, 5)], [])), (1, ([2], [], []))])) mixed Try.func24 (by kernel_rfl) rfl (by show 1 ≤ _; decide) (by kernel_rfl) ?_
  show wpC _ _ (Post.ret tT _ _) _
  have e11 := specW11_at hl
  unfold overN
  cases h : mayN w <;> rw [h] at e11 <;>
  · simp -implicitDefEqProofs only [Try.f24, Try.results24, startS, pW, pI, pB, li, List.zipIdx_cons, List.zipIdx_nil, e11, Bool.true_and, Bool.false_and, go_sem, ↓reduceIte, Nat.reduceEqDiff, Nat.reduceBEq, Nat.reduceAdd, Nat.reduceMul, Nat.reduceLeDiff, Nat.reduceSub, reduceCtorEq, Nat.reduceLT, Int.reduceBEq, Int.reduceBNe, Int.reduceEq, Int.reduceNe, Int.reduceLT, Int.reduceLE]
    exact got_c rfl
def w0 : Wv := ⟨0, [], [], 0, 0⟩
def newN (n : Int) : Wv × Int := if 0 ≤ n ∧ n ≤ 65536 then (⟨0, [], [], n, -1⟩, 0) else (w0, 1)
set_option maxHeartbeats 2000000 in
theorem soundW14 (n : Int) : SoundAt Try.prog 14 [pI n] (.tup [pW (newN n).1, pI (newN n).2]) := by
  refine sound_fun (env_ok tT_ok fs_nil _ : EnvOk Try.prog (mkE (specAt []) [(0, ([0, 2], [(2, 2, 5)], [])), (1, ([0, 2, 9], [(2, 2, 5)], [])), (2, ([2, 3], [(2, 2, 5)], [])), (3, ([2, 3], [(2, 2, 5)], []))])) mixed Try.func14 (by kernel_rfl) rfl (by show 1 ≤ _; decide) (by kernel_rfl) ?_
  show wpC _ _ (Post.ret tT _ _) _
  have fin : ∀ {m : Mem} {a b : Int}, matchA m [] (pW ⟨0, [], [], a, b⟩) (.agg [.c (.lit (.int .i64 0)), .c (.lit (.slice none 0 0)), .c (.lit (.slice none 0 0)), .c (.lit (.int .i64 a)), .c (.lit (.int .i64 b))]) := fun {m a b} =>
    mA_agg (mLs_cons (m_c rfl) (mLs_cons (m_cov (.nil _)) (mLs_cons (m_cov (.nil _)) (mLs_cons (m_c rfl) (mLs_cons (m_c rfl) mLs_nil)))))
  by_cases h0 : n < 0
  · have hn : newN n = (w0, 1) := if_neg (by omega)
    rw [hn]
    simp -implicitDefEqProofs only [Try.f14, Try.results14, startS, pI, pB, li, h0, List.zipIdx_cons, List.zipIdx_nil, go_sem, ↓reduceIte, Nat.reduceEqDiff, Nat.reduceBEq, Nat.reduceAdd, Nat.reduceMul, Nat.reduceLeDiff, Nat.reduceSub, reduceCtorEq, Nat.reduceLT, Int.reduceBEq, Int.reduceBNe, Int.reduceEq, Int.reduceNe, Int.reduceLT, Int.reduceLE]
    exact gots [] (by simp) (mAs_cons fin (mAs_cons (mA_c (m_c rfl)) mAs_nil))
  · by_cases h1 : 65536 < n
    · have hn : newN n = (w0, 1) := if_neg (by omega)
      rw [hn]
      simp -implicitDefEqProofs only [Try.f14, Try.results14, startS, pI, pB, li, h0, h1, List.zipIdx_cons, List.zipIdx_nil, go_sem, ↓reduceIte, Nat.reduceEqDiff, Nat.reduceBEq, Nat.reduceAdd, Nat.reduceMul, Nat.reduceLeDiff, Nat.reduceSub, reduceCtorEq, Nat.reduceLT, Int.reduceBEq, Int.reduceBNe, Int.reduceEq, Int.reduceNe, Int.reduceLT, Int.reduceLE]
      exact gots [] (by simp) (mAs_cons fin (mAs_cons (mA_c (m_c rfl)) mAs_nil))
    · have hn : newN n = (⟨0, [], [], n, -1⟩, 0) := if_pos (by omega)
      rw [hn]
      simp -implicitDefEqProofs only [Try.f14, Try.results14, startS, pI, pB, li, h0, h1, List.zipIdx_cons, List.zipIdx_nil, go_sem, ↓reduceIte, Nat.reduceEqDiff, Nat.reduceBEq, Nat.reduceAdd, Nat.reduceMul, Nat.reduceLeDiff, Nat.reduceSub, reduceCtorEq, Nat.reduceLT, Int.reduceBEq, Int.reduceBNe, Int.reduceEq, Int.reduceNe, Int.reduceLT, Int.reduceLE]
      exact gots [] (by simp) (mAs_cons fin (mAs_cons (mA_c (m_c rfl)) mAs_nil))

def eqB (a b : List Int) : Bool := decide (a = b)
def st16 (a b : List Int) (i : Nat) : St := ⟨[(0, pBy a), (1, pBy b), (5, pI i)], []⟩
set_option maxHeartbeats 4000000 in
theorem soundW16 (a b : List Int) (hl : a.length ≤ 4611686018427387904) : SoundAt Try.prog 16 [pBy a, pBy b] (pB (eqB a b)) := by
  refine sound_fun (env_ok tT_ok fs_nil _ : EnvOk Try.prog (mkE (specAt []) [(0, ([0, 1], [], [])), (1, ([0, 1, 10], [], [])), (2, ([4], [], [])), (3, ([0, 1, 5], [], [])), (4, ([0, 1, 5, 14], [], [])), (5, ([0, 1, 5], [], [])), (6, ([0, 1, 5, 25], [], [])), (7, ([4], [], [])), (8, ([4], [], []))])) mixed Try.func16 (by kernel_rfl) rfl (by show 2 ≤ _; decide) (by kernel_rfl) ?_
  show wpC _ _ (Post.ret tT _ _) _
  simp -implicitDefEqProofs only [Try.f16, Try.results16, startS, pBy, pI, pB, li, List.zipIdx_cons, List.zipIdx_nil, List.length_map, go_sem, ↓reduceIte, Nat.reduceEqDiff, Nat.reduceBEq, Nat.reduceAdd, Nat.reduceMul, Nat.reduceLeDiff, Nat.reduceSub, reduceCtorEq, Nat.reduceLT, Int.reduceBEq, Int.reduceBNe, Int.reduceEq, Int.reduceNe, Int.reduceLT, Int.reduceLE]
  refine cond_intro _ _ _ _ _ (fun h => ?_) (fun h => ?_)
  · simp -implicitDefEqProofs only [go_sem, ↓reduceIte, Nat.reduceEqDiff, Nat.reduceBEq, Nat.reduceAdd, Nat.reduceMul, Nat.reduceLeDiff, Nat.reduceSub, reduceCtorEq, Nat.reduceLT, Int.reduceBEq, Int.reduceBNe, Int.reduceEq, Int.reduceNe, Int.reduceLT, Int.reduceLE]
    refine got_c ?_
    have h : ¬ (a.length : Int) = b.length := by simpa using h
    have : a ≠ b := fun e => h (by rw [e])
    simp [eqB, this]
  · have h : a.length = b.length := by
      have : (a.length : Int) = b.length := by simpa using h
      omega
    simp -implicitDefEqProofs only [go_sem, ↓reduceIte, Nat.reduceEqDiff, Nat.reduceBEq, Nat.reduceAdd, Nat.reduceMul, Nat.reduceLeDiff, Nat.reduceSub, reduceCtorEq, Nat.reduceLT, Int.reduceBEq, Int.reduceBNe, Int.reduceEq, Int.reduceNe, Int.reduceLT, Int.reduceLE]
    refine loop_intro (fun n st => ∃ i, i + n = a.length ∧ eqB a b = eqB (a.drop i) (b.drop i) ∧ st = st16 a b i) a.length ⟨0, by omega, rfl, ?_⟩ ?_
    · simp [st16, pBy, pI]
    · rintro n st ⟨i, hi, hm, rfl⟩
      have hw := wrap_nat (n := i) (by omega)
      simp -implicitDefEqProofs only [st16, pBy, pL, pI, li, List.length_map, go_sem, ↓reduceIte, Nat.reduceEqDiff, Nat.reduceBEq, Nat.reduceAdd, Nat.reduceMul, Nat.reduceLeDiff, Nat.reduceSub, reduceCtorEq, Nat.reduceLT, Int.reduceBEq, Int.reduceBNe, Int.reduceEq, Int.reduceNe, Int.reduceLT, Int.reduceLE]
      refine cond_intro _ _ _ _ _ (fun hcc => ?_) (fun hcc => ?_)
      · have hlt : i < a.length := by simpa using hcc
        have hx : (a.map encB)[i]? = some (encB a[i]) := by simp [hlt]
        have hy : (b.map encB)[i]? = some (encB b[i]) := by simp [← h, hlt]
        have da : a.drop i = a[i] :: a.drop (i + 1) := List.drop_eq_getElem_cons hlt
        have db : b.drop i = b[i] :: b.drop (i + 1) := List.drop_eq_getElem_cons (by omega)
        generalize a[i] = x at hx da
        generalize b[i]'(by omega) = y at hy db
        simp -implicitDefEqProofs only [hx, hy, Int.natCast_nonneg, Int.toNat_natCast, encB, li, List.length_map, go_sem, ↓reduceIte, Nat.reduceEqDiff, Nat.reduceBEq, Nat.reduceAdd, Nat.reduceMul, Nat.reduceLeDiff, Nat.reduceSub, reduceCtorEq, Nat.reduceLT, Int.reduceBEq, Int.reduceBNe, Int.reduceEq, Int.reduceNe, Int.reduceLT, Int.reduceLE]
        refine ⟨by rfl, ?_⟩
        refine cond_intro _ _ _ _ _ (fun h2 => ?_) (fun h2 => ?_)
        · simp -implicitDefEqProofs only [go_sem, ↓reduceIte, Nat.reduceEqDiff, Nat.reduceBEq, Nat.reduceAdd, Nat.reduceMul, Nat.reduceLeDiff, Nat.reduceSub, reduceCtorEq, Nat.reduceLT, Int.reduceBEq, Int.reduceBNe, Int.reduceEq, Int.reduceNe, Int.reduceLT, Int.reduceLE]
          refine got_c ?_
          have h2 : ¬ x = y := by simpa using h2
          rw [hm, eqB, da, db]
          simp [h2]
        · simp -implicitDefEqProofs only [hw, go_sem, ↓reduceIte, Nat.reduceEqDiff, Nat.reduceBEq, Nat.reduceAdd, Nat.reduceMul, Nat.reduceLeDiff, Nat.reduceSub, reduceCtorEq, Nat.reduceLT, Int.reduceBEq, Int.reduceBNe, Int.reduceEq, Int.reduceNe, Int.reduceLT, Int.reduceLE]
          refine ⟨n - 1, by omega, i + 1, by omega, ?_, rfl⟩
          have h2 : x = y := by simpa using h2
          rw [hm, eqB, eqB, da, db, h2]
          simp
      · have hge : a.drop i = [] := List.drop_eq_nil_of_le (by simpa using hcc)
        have hge2 : b.drop i = [] := List.drop_eq_nil_of_le (by have : ¬ i < a.length := by simpa using hcc
                                                                omega)
        simp -implicitDefEqProofs only [go_sem, ↓reduceIte, Nat.reduceEqDiff, Nat.reduceBEq, Nat.reduceAdd, Nat.reduceMul, Nat.reduceLeDiff, Nat.reduceSub, reduceCtorEq, Nat.reduceLT, Int.reduceBEq, Int.reduceBNe, Int.reduceEq, Int.reduceNe, Int.reduceLT, Int.reduceLE]
        refine got_c ?_
        rw [hm, hge, hge2]; rfl
noncomputable def specW16 : PM.Spec := specOf (fun x : List Int × List Int => [pBy x.1, pBy x.2]) (fun x => x.1.length ≤ 4611686018427387904) (fun x => pB (eqB x.1 x.2))
theorem specW16_at {a : List Int} (h : a.length ≤ 4611686018427387904) (b : List Int) : specW16 [.c (.ro 1 (a.map encB)), .c (.ro 1 (b.map encB))] = some (.c (.lit (.bool (eqB a b)))) :=
  specOf_at (arg := fun x : List Int × List Int => [pBy x.1, pBy x.2]) (fun a b h => Prod.ext (pBy_inj (List.cons.inj h).1) (pBy_inj (List.cons.inj (List.cons.inj h).2).1)) (a := (a, b)) h
theorem specW16_ok : ∀ vs r, specW16 vs = some r → SoundAt Try.prog 16 vs r := specOf_sound fun (x : List Int × List Int) h => soundW16 x.1 x.2 h
end Go.Proofs.We
