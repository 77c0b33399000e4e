/- Same of weaves (10), Shut (19). -/
import Derived.Test.YtmmipinjkbkkmaaWe5
set_option linter.unusedSimpArgs false
set_option linter.unusedVariables false
set_option linter.unusedSectionVars false
set_option linter.unnecessarySimpa false
namespace Go.Proofs.We
open Go.PM Go.Proofs

theorem eqB_self (a : List Int) : eqB a a = true := by simp [eqB]
theorem same_self {a : List S} (hl : a.length ≤ 4611686018427387904) : spec12 [.c (.ro 2 (a.map encS)), .c (.ro 2 (a.map encS))] = some (.c (.lit (.bool true))) := by
  rw [spec12_at hl, eqL_iff.2 rfl]
def fit2 (w : Wv) : Prop := w.b.length ≤ 4611686018427387904 ∧ w.got.length ≤ 4611686018427387904
set_option maxHeartbeats 2000000 in
theorem soundW10 (w : Wv) (hf : fit2 w) : SoundAt Try.prog 10 [pW w, pW w] (pB true) := by
  refine sound_fun (env_ok tT_ok (fs_cons specW16_ok (fs_cons spec12_ok fs_nil)) _ : EnvOk Try.prog (mkE (specAt [(16, specW16), (33, spec12)]) [(0, ([2, 3], [(2, 2, 5), (3, 3, 5)], [])), (1, ([2, 3, 5], [(2, 2, 5), (3, 3, 5)], [])), (2, ([2, 3, 5, 6], [(2, 2, 5), (3, 3, 5)], [])), (3, ([4], [], []))])) mixed Try.func10 (by kernel_rfl) rfl (by show 2 ≤ _; decide) (by kernel_rfl) ?_
  show wpC _ _ (Post.ret tT _ _) _
  have e1 := specW16_at hf.1 w.b
  rw [eqB_self] at e1
  have i1 : (w.base == w.base) = true := by simp
  have i2 : (w.cap == w.cap) = true := by simp
  have i3 : (w.fin == w.fin) = true := by simp
  simp -implicitDefEqProofs only [Try.f10, Try.results10, startS, pW, pI, pB, li, List.zipIdx_cons, List.zipIdx_nil, e1, same_self hf.2, i1, i2, i3, go_sem, ↓reduceIte, Nat.reduceEqDiff, Nat.reduceBEq, Nat.reduceAdd, Nat.reduceMul, Nat.reduceLeDiff, Nat.reduceSub, reduceCtorEq, Nat.reduceLT, Int.reduceBEq, Int.reduceBNe, Int.reduceEq, Int.reduceNe, Int.reduceLT, Int.reduceLE]
  exact got_c rfl
noncomputable def specW10 : PM.Spec := specOf (fun w : Wv => [pW w, pW w]) fit2 (fun _ => pB true)
theorem specW10_at {w : Wv} (h : fit2 w) : specW10 [pW w, pW w] = some (pB true) := specOf_at (arg := fun w : Wv => [pW w, pW w]) (fun a b h => pW_inj (List.cons.inj h).1) (a := w) h
theorem specW10_ok : ∀ vs r, specW10 vs = some r → SoundAt Try.prog 10 vs r := specOf_sound fun w h => soundW10 w h

theorem mat0 {m : Mem} {ks : List Nat} : matchA m ks (pW w0) (.agg [.c (.lit (.int .i64 0)), .c (.lit (.slice none 0 0)), .c (.lit (.slice none 0 0)), .c (.lit (.int .i64 0)), .c (.lit (.int .i64 0))]) :=
  mA_agg (mLs_cons (m_c rfl) (mLs_cons (m_cov (.nil _)) (mLs_cons (m_cov (.nil _)) (mLs_cons (m_c rfl) (mLs_cons (m_c rfl) mLs_nil)))))
open Classical in
noncomputable def shutN (w : Wv) (at' : Int) : Wv × Int :=
  if ¬ (mayW w ∧ 0 ≤ at' ∧ at' ≤ 2305843009213693952) then (w0, 1)
  else if w.fin ≠ -1 ∧ w.fin ≠ at' ∨ at' < uptoN w then (w0, 5)
  else ({ w with fin := at' }, 0)
theorem specW29_at' {w : Wv} (h : fitN w) : specW29 [.agg [.c (.lit (.int .i64 w.base)), .c (.ro 1 (w.b.map encB)), .c (.ro 2 (w.got.map encS)), .c (.lit (.int .i64 w.cap)), .c (.lit (.int .i64 w.fin))]] = some (.agg [.c (.lit (.int .i64 w.base)), .fresh 0 1 (w.b.map encB), .fresh 1 2 (w.got.map encS), .c (.lit (.int .i64 w.cap)), .c (.lit (.int .i64 w.fin))]) := specW29_at h
def live19 : List (Nat × Live) := [(0, ([1, 2, 4], [(2, 2, 5), (4, 4, 5)], [])), (1, ([1, 2, 4, 6], [(2, 2, 5), (4, 4, 5)], [])), (2, ([1, 2, 4, 6], [(2, 2, 5), (4, 4, 5)], [])), (3, ([1, 2, 4, 6], [(2, 2, 5), (4, 4, 5)], [])), (4, ([4, 5], [(4, 4, 5)], [])), (5, ([1, 2, 4, 15], [(2, 2, 5), (4, 4, 5)], [])), (6, ([1, 2, 4, 15], [(2, 2, 5), (4, 4, 5)], [])), (7, ([4, 5], [(4, 4, 5)], [])), (8, ([1, 2, 4], [(2, 2, 5), (4, 4, 5), (32000, 30, 1), (32001, 31, 1)], [])), (9, ([2, 4], [(2, 2, 5), (4, 4, 5), (30, 30, 1), (31, 31, 1)], [])), (10, ([4, 5], [(4, 4, 5), (30, 30, 1), (31, 31, 1)], []))]
theorem blk_intro : True := trivial
set_option maxRecDepth 4000 in
set_option maxHeartbeats 4000000 in
theorem soundW19 (w : Wv) (at' : Int) (hf : fitN w) : SoundAt Try.prog 19 [pW w, pI at'] (.tup [pW (shutN w at').1, pI (shutN w at').2]) := by
  refine sound_fun (env_ok tT_ok (fs_cons specW11_ok (fs_cons specW29_ok (fs_cons specW31_ok fs_nil))) _ : EnvOk Try.prog (mkE (specAt [(11, specW11), (29, specW29), (31, specW31)]) live19)) mixed Try.func19 (by kernel_rfl) rfl (by show 2 ≤ _; decide) (by kernel_rfl) ?_
  show wpC _ _ (Post.ret tT _ _) _
  have hl : w.got.length ≤ 4611686018427387904 := by have := hf.2; omega
  have e11 := specW11_at hl
  by_cases hm : mayW w
  · rw [mayN_true hm] at e11
    by_cases h0 : at' < 0
    · have hn : shutN w at' = (w0, 1) := if_pos (by omega)
      rw [hn]
      simp -implicitDefEqProofs only [Try.f19, Try.results19, live19, startS, pW, pI, pB, li, List.zipIdx_cons, List.zipIdx_nil, e11, h0, go_sem, ↓reduceIte, Nat.reduceEqDiff, Nat.reduceBEq, Nat.reduceAdd, Nat.reduceMul, Nat.reduceLeDiff, Nat.reduceSub, reduceCtorEq, Nat.reduceLT, Int.reduceBEq, Int.reduceBNe, Int.reduceEq, Int.reduceNe, Int.reduceLT, Int.reduceLE]
      exact gots [] (by simp) (mAs_cons mat0 (mAs_cons (mA_c (m_c rfl)) mAs_nil))
    · by_cases h1 : 2305843009213693952 < at'
      · have hn : shutN w at' = (w0, 1) := if_pos (by omega)
        rw [hn]
        simp -implicitDefEqProofs only [Try.f19, Try.results19, live19, startS, pW, pI, pB, li, List.zipIdx_cons, List.zipIdx_nil, e11, h0, h1, go_sem, ↓reduceIte, Nat.reduceEqDiff, Nat.reduceBEq, Nat.reduceAdd, Nat.reduceMul, Nat.reduceLeDiff, Nat.reduceSub, reduceCtorEq, Nat.reduceLT, Int.reduceBEq, Int.reduceBNe, Int.reduceEq, Int.reduceNe, Int.reduceLT, Int.reduceLE]
        exact gots [] (by simp) (mAs_cons mat0 (mAs_cons (mA_c (m_c rfl)) mAs_nil))
      · by_cases h2 : w.fin ≠ -1 ∧ w.fin ≠ at'
        · have hn : shutN w at' = (w0, 5) := by unfold shutN; rw [if_neg (by simp [hm]; omega), if_pos (.inl h2)]
          rw [hn]
          have g1 : (w.fin == -1) = false := by simpa using h2.1
          have g2 : (w.fin == at') = false := by simpa using h2.2
          simp -implicitDefEqProofs only [Try.f19, Try.results19, live19, startS, pW, pI, pB, li, List.zipIdx_cons, List.zipIdx_nil, e11, h0, h1, g1, g2, go_sem, ↓reduceIte, Nat.reduceEqDiff, Nat.reduceBEq, Nat.reduceAdd, Nat.reduceMul, Nat.reduceLeDiff, Nat.reduceSub, reduceCtorEq, Nat.reduceLT, Int.reduceBEq, Int.reduceBNe, Int.reduceEq, Int.reduceNe, Int.reduceLT, Int.reduceLE]
          exact gots [] (by simp) (mAs_cons mat0 (mAs_cons (mA_c (m_c rfl)) mAs_nil))
        · by_cases h3 : at' < uptoN w
          · have hn : shutN w at' = (w0, 5) := by unfold shutN; rw [if_neg (by simp [hm]; omega), if_pos (.inr h3)]
            rw [hn]
            by_cases h4 : w.fin = -1
            · have g1 : (w.fin == -1) = true := by simpa using h4
              simp -implicitDefEqProofs only [Try.f19, Try.results19, live19, startS, pW, pI, pB, li, List.zipIdx_cons, List.zipIdx_nil, e11, h0, h1, g1, h3, specW31_at' hl, go_sem, ↓reduceIte, Nat.reduceEqDiff, Nat.reduceBEq, Nat.reduceAdd, Nat.reduceMul, Nat.reduceLeDiff, Nat.reduceSub, reduceCtorEq, Nat.reduceLT, Int.reduceBEq, Int.reduceBNe, Int.reduceEq, Int.reduceNe, Int.reduceLT, Int.reduceLE]
              exact gots [] (by simp) (mAs_cons mat0 (mAs_cons (mA_c (m_c rfl)) mAs_nil))
            · have g1 : (w.fin == -1) = false := by simpa using h4
              have g2 : (w.fin == at') = true := by simp only [beq_iff_eq]; exact Classical.byContradiction fun hx => h2 ⟨h4, hx⟩
              simp -implicitDefEqProofs only [Try.f19, Try.results19, live19, startS, pW, pI, pB, li, List.zipIdx_cons, List.zipIdx_nil, e11, h0, h1, g1, g2, h3, specW31_at' hl, go_sem, ↓reduceIte, Nat.reduceEqDiff, Nat.reduceBEq, Nat.reduceAdd, Nat.reduceMul, Nat.reduceLeDiff, Nat.reduceSub, reduceCtorEq, Nat.reduceLT, Int.reduceBEq, Int.reduceBNe, Int.reduceEq, Int.reduceNe, Int.reduceLT, Int.reduceLE]
              exact gots [] (by simp) (mAs_cons mat0 (mAs_cons (mA_c (m_c rfl)) mAs_nil))
          · have hn : shutN w at' = ({ w with fin := at' }, 0) := by unfold shutN; rw [if_neg (by simp [hm]; omega), if_neg (fun h => h.elim h2 h3)]
            rw [hn]
            by_cases h4 : w.fin = -1
            · have g1 : (w.fin == -1) = true := by simpa using h4
              simp -implicitDefEqProofs only [Try.f19, Try.results19, live19, startS, pW, pI, pB, li, List.zipIdx_cons, List.zipIdx_nil, e11, h0, h1, g1, h3, specW31_at' hl, specW29_at' hf, go_sem, ↓reduceIte, Nat.reduceEqDiff, Nat.reduceBEq, Nat.reduceAdd, Nat.reduceMul, Nat.reduceLeDiff, Nat.reduceSub, reduceCtorEq, Nat.reduceLT, Int.reduceBEq, Int.reduceBNe, Int.reduceEq, Int.reduceNe, Int.reduceLT, Int.reduceLE]
              exact gots [] (by simp) (mAs_cons (mA_agg (mLs_cons (m_c rfl) (mLs_cons (m_own0 rfl (by simp) rfl rfl) (mLs_cons (m_own0 rfl (by simp) rfl rfl) (mLs_cons (m_c rfl) (mLs_cons (m_c rfl) mLs_nil)))))) (mAs_cons (mA_c (m_c rfl)) mAs_nil))
            · have g1 : (w.fin == -1) = false := by simpa using h4
              have g2 : (w.fin == at') = true := by simp only [beq_iff_eq]; exact Classical.byContradiction fun hx => h2 ⟨h4, hx⟩
              simp -implicitDefEqProofs only [Try.f19, Try.results19, live19, startS, pW, pI, pB, li, List.zipIdx_cons, List.zipIdx_nil, e11, h0, h1, g1, g2, h3, specW31_at' hl, specW29_at' hf, go_sem, ↓reduceIte, Nat.reduceEqDiff, Nat.reduceBEq, Nat.reduceAdd, Nat.reduceMul, Nat.reduceLeDiff, Nat.reduceSub, reduceCtorEq, Nat.reduceLT, Int.reduceBEq, Int.reduceBNe, Int.reduceEq, Int.reduceNe, Int.reduceLT, Int.reduceLE]
              exact gots [] (by simp) (mAs_cons (mA_agg (mLs_cons (m_c rfl) (mLs_cons (m_own0 rfl (by simp) rfl rfl) (mLs_cons (m_own0 rfl (by simp) rfl rfl) (mLs_cons (m_c rfl) (mLs_cons (m_c rfl) mLs_nil)))))) (mAs_cons (mA_c (m_c rfl)) mAs_nil))
  · have hn : shutN w at' = (w0, 1) := if_pos (fun h => hm h.1)
    rw [mayN_false hm] at e11
    rw [hn]
    simp -implicitDefEqProofs only [Try.f19, Try.results19, live19, startS, pW, pI, pB, li, List.zipIdx_cons, List.zipIdx_nil, e11, go_sem, ↓reduceIte, Nat.reduceEqDiff, Nat.reduceBEq, Nat.reduceAdd, Nat.reduceMul, Nat.reduceLeDiff, Nat.reduceSub, reduceCtorEq, Nat.reduceLT, Int.reduceBEq, Int.reduceBNe, Int.reduceEq, Int.reduceNe, Int.reduceLT, Int.reduceLE]
    exact gots [] (by simp) (mAs_cons mat0 (mAs_cons (mA_c (m_c rfl)) mAs_nil))
end Go.Proofs.We
