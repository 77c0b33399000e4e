/- The six statements, walked. -/
import Derived.Test.YtikenpdhdmbljaaSpMath2
set_option linter.unusedSimpArgs false
set_option linter.unusedVariables false
set_option linter.unusedSectionVars false
set_option linter.unnecessarySimpa false
namespace Go.Proofs.Sp
open Go.PM Go.Proofs

def roL (l : List S) : PV := .c (.ro 2 (l.map encS))
theorem add_good {l : List S} {s : S} (h : may l = true) (hs : one s = true) (hl : l.length ≤ 500) : specR addP [.c (.ro 2 (l.map encS)), .agg [.c (.lit (.int .i64 s.f)), .c (.lit (.int .i64 s.u))]] = some (.tup [.c (.ro 2 ((addN l s).map encS)), .c (.lit (.int .i64 0))]) := by
  rw [specR_at (by omega), (addP_ok (s := ⟨s.f, s.u⟩) h hs (by omega)).1]
theorem add_bad {l : List S} {s : S} (h : ¬ (may l = true ∧ one s = true)) (hl : l.length ≤ 2000) : specR addP [.c (.ro 2 (l.map encS)), .agg [.c (.lit (.int .i64 s.f)), .c (.lit (.int .i64 s.u))]] = some (.tup [.c (.ro 2 []), .c (.lit (.int .i64 1))]) := by
  rw [specR_at (by omega), addP, outN_bad h]; rfl
theorem cut_good {l : List S} {s : S} (h : may l = true) (hs : one s = true) (hl : l.length ≤ 500) : specR cutP [.c (.ro 2 (l.map encS)), .agg [.c (.lit (.int .i64 s.f)), .c (.lit (.int .i64 s.u))]] = some (.tup [.c (.ro 2 ((cutN l s).map encS)), .c (.lit (.int .i64 0))]) := by
  rw [specR_at (by omega), (cutP_ok (s := ⟨s.f, s.u⟩) h hs (by omega)).1]
theorem cut_bad {l : List S} {s : S} (h : ¬ (may l = true ∧ one s = true)) (hl : l.length ≤ 2000) : specR cutP [.c (.ro 2 (l.map encS)), .agg [.c (.lit (.int .i64 s.f)), .c (.lit (.int .i64 s.u))]] = some (.tup [.c (.ro 2 []), .c (.lit (.int .i64 1))]) := by
  rw [specR_at (by omega), cutP, outN_bad h]; rfl
theorem same_good {a b : List S} (h : a = b) (hl : a.length ≤ 2000) : spec12 [.c (.ro 2 (a.map encS)), .c (.ro 2 (b.map encS))] = some (.c (.lit (.bool true))) := by
  rw [spec12_at (by omega), eqL_iff.2 h]

set_option maxRecDepth 4000 in
set_option maxHeartbeats 4000000 in
theorem law3 (l : List S) (s t : S) : SoundAt Try.prog 3 [pL l, pS s, pS t] (pB true) := by
  refine sound_fun (env_ok tT_ok (fs_cons spec9_ok (fs_cons spec10_ok (fs_cons spec11_ok (fs_cons spec12_ok fs_nil)))) _ : EnvOk Try.prog (mkE (specAt [(9, spec9), (10, specR addP), (11, specR cutP), (12, spec12)]) [(0, ([0, 4, 5], [(4, 4, 2), (5, 5, 2)], [])), (1, ([0, 4, 5, 7], [(4, 4, 2), (5, 5, 2)], [])), (2, ([0, 4, 5, 7, 32], [(4, 4, 2), (5, 5, 2)], [])), (3, ([6], [], [])), (4, ([0, 4, 5, 8, 9], [(4, 4, 2), (5, 5, 2)], [])), (5, ([0, 4, 5, 8, 9, 10, 11], [(4, 4, 2), (5, 5, 2)], [])), (6, ([0, 4, 5, 8, 10, 51], [(4, 4, 2), (5, 5, 2)], [])), (7, ([6], [], [])), (8, ([0, 4, 5, 8, 10, 12, 13], [(4, 4, 2), (5, 5, 2)], [])), (9, ([0, 4, 8, 10, 12, 13, 14, 15], [(4, 4, 2)], [])), (10, ([0, 4, 8, 12, 13, 14, 15, 16, 17], [(4, 4, 2)], [])), (11, ([0, 4, 8, 12, 13, 14, 15, 16, 17, 18, 19], [(4, 4, 2)], [])), (12, ([8, 12, 13, 14, 15, 16, 17, 18, 19, 20, 21], [], [])), (13, ([13, 14, 15, 16, 17, 18, 19, 20, 21, 22], [], [])), (14, ([13, 15, 17, 18, 19, 20, 21, 22, 23], [], [])), (15, ([13, 15, 17, 19, 21, 22, 23, 24], [], [])), (16, ([6], [], []))])) mixed Try.func3 (by kernel_rfl) rfl (by show 3 ≤ _; decide) (by kernel_rfl) ?_
  show wpC _ _ (Post.ret tT _ _) _
  simp -implicitDefEqProofs only [Try.f3, Try.results3, startS, pL, pI, pS, pB, li, spec9_at, List.zipIdx_cons, List.zipIdx_nil, go_sem, ↓reduceIte, Nat.reduceEqDiff, Nat.reduceBEq, Nat.reduceAdd, Nat.reduceMul, Nat.reduceLeDiff, Nat.reduceSub, reduceCtorEq, Nat.reduceLT, Int.reduceBEq, Int.reduceBNe, Int.reduceEq, Int.reduceNe, Int.reduceLT, Int.reduceLE]
  refine cond_intro _ _ _ _ _ (fun hc => ?_) (fun hc => ?_)
  · simp -implicitDefEqProofs only [go_sem, ↓reduceIte, Nat.reduceEqDiff, Nat.reduceBEq, Nat.reduceAdd, Nat.reduceMul, Nat.reduceLeDiff, Nat.reduceSub, reduceCtorEq, Nat.reduceLT, Int.reduceBEq, Int.reduceBNe, Int.reduceEq, Int.reduceNe, Int.reduceLT, Int.reduceLE]
    exact got_c rfl
  · have hl : l.length ≤ 100 := by
      have : ¬ (100 : Int) < l.length := by simpa using hc
      omega
    clear hc
    by_cases h1 : may l = true ∧ one s = true
    · by_cases h2 : may l = true ∧ one t = true
      · obtain ⟨hm, hs⟩ := h1
        obtain ⟨_, ht⟩ := h2
        obtain ⟨_, m1, n1, k1⟩ := addP_ok hm hs (by omega)
        obtain ⟨_, m2, n2, k2⟩ := addP_ok hm ht (by omega)
        obtain ⟨_, m3, n3, k3⟩ := cutP_ok hm hs (by omega)
        obtain ⟨_, m4, n4, k4⟩ := addP_ok m1 hs (by omega)
        obtain ⟨_, m5, n5, k5⟩ := addP_ok m1 ht (by omega)
        obtain ⟨_, m6, n6, k6⟩ := addP_ok m2 hs (by omega)
        obtain ⟨_, m7, n7, k7⟩ := cutP_ok m1 hs (by omega)
        have e1 := same_good (a := addN (addN l s) s) (b := addN l s) (may_ext m4 m1 fun n => by rw [n4, n1]; cases inn l n <;> cases ins s n <;> rfl) (by omega)
        have e2 := same_good (a := addN (addN l s) t) (b := addN (addN l t) s) (may_ext m5 m6 fun n => by rw [n5, n6, n1, n2]; cases inn l n <;> cases ins s n <;> cases ins t n <;> rfl) (by omega)
        have e3 := same_good (a := cutN (addN l s) s) (b := cutN l s) (may_ext m7 m3 fun n => by rw [n7, n3, n1]; cases inn l n <;> cases ins s n <;> rfl) (by omega)
        simp -implicitDefEqProofs only [add_good hm hs (by omega), add_good hm ht (by omega), add_good m1 hs (by omega), add_good m1 ht (by omega), add_good m2 hs (by omega), cut_good m1 hs (by omega), cut_good hm hs (by omega), e1, e2, e3, go_sem, ↓reduceIte, Nat.reduceEqDiff, Nat.reduceBEq, Nat.reduceAdd, Nat.reduceMul, Nat.reduceLeDiff, Nat.reduceSub, reduceCtorEq, Nat.reduceLT, Int.reduceBEq, Int.reduceBNe, Int.reduceEq, Int.reduceNe, Int.reduceLT, Int.reduceLE]
        exact got_c rfl
      · obtain ⟨hm, hs⟩ := h1
        simp -implicitDefEqProofs only [add_good hm hs (by omega), add_bad h2 (by omega), go_sem, ↓reduceIte, Nat.reduceEqDiff, Nat.reduceBEq, Nat.reduceAdd, Nat.reduceMul, Nat.reduceLeDiff, Nat.reduceSub, reduceCtorEq, Nat.reduceLT, Int.reduceBEq, Int.reduceBNe, Int.reduceEq, Int.reduceNe, Int.reduceLT, Int.reduceLE]
        exact got_c rfl
    · by_cases h2 : may l = true ∧ one t = true
      · obtain ⟨hm, ht⟩ := h2
        simp -implicitDefEqProofs only [add_bad h1 (by omega), add_good hm ht (by omega), go_sem, ↓reduceIte, Nat.reduceEqDiff, Nat.reduceBEq, Nat.reduceAdd, Nat.reduceMul, Nat.reduceLeDiff, Nat.reduceSub, reduceCtorEq, Nat.reduceLT, Int.reduceBEq, Int.reduceBNe, Int.reduceEq, Int.reduceNe, Int.reduceLT, Int.reduceLE]
        exact got_c rfl
      · simp -implicitDefEqProofs only [add_bad h1 (by omega), add_bad h2 (by omega), go_sem, ↓reduceIte, Nat.reduceEqDiff, Nat.reduceBEq, Nat.reduceAdd, Nat.reduceMul, Nat.reduceLeDiff, Nat.reduceSub, reduceCtorEq, Nat.reduceLT, Int.reduceBEq, Int.reduceBNe, Int.reduceEq, Int.reduceNe, Int.reduceLT, Int.reduceLE]
        exact got_c rfl
end Go.Proofs.Sp
