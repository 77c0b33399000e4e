/- Gap (function 13), Size (19). -/
import Derived.Test.YtikenpdhdmbljaaSp15
set_option linter.unusedSimpArgs false
set_option linter.unusedVariables false
set_option linter.unusedSectionVars false
set_option linter.unnecessarySimpa false
namespace Go.Proofs.Sp
open Go.PM Go.Proofs

noncomputable def F2 : List (FuncId × PM.Spec) := (15, spec15) :: F1
theorem F2_15 (vs : List PV) : specAt F2 15 vs = spec15 vs := rfl
theorem F2_23 (vs : List PV) : specAt F2 23 vs = spec23 vs := rfl
theorem F2_26 (vs : List PV) : specAt F2 26 vs = spec23 vs := rfl
theorem F2_ok : ∀ x ∈ F2, ∀ vs r, x.2 vs = some r → SoundAt Try.prog x.1 vs r := by
  intro x hx
  rcases List.mem_cons.1 hx with rfl | hx
  · exact spec15_ok
  · exact F1_ok x hx

def gap' : Int → List S → Int
  | n, [] => n
  | n, s :: r => gap' (if s.f ≤ n ∧ n < s.u then s.u else n) r
def gap (l : List S) (n : Int) : Int := if may l = true then gap' (if 0 > n then 0 else n) l else 0
def st13 (l : List S) (n : Int) (i : Nat) : St := ⟨[(0, .c (.ro 2 (l.map encS))), (1, .c (.lit (.int .i64 n))), (12, .c (.ro 2 (l.map encS))), (13, .c (.lit (.int .i64 l.length))), (14, .c (.lit (.int .i64 i)))], []⟩

set_option maxHeartbeats 2000000 in
theorem sound13 (l : List S) (m : Int) (hl : l.length ≤ 4611686018427387904) : SoundAt Try.prog 13 [pL l, pI m] (pI (gap l m)) := by
  refine sound_fun (env_ok tT_ok F2_ok _ : EnvOk Try.prog (mkE (specAt F2) [(4, ([0, 1, 12, 13, 14], [], [])), (9, ([0, 1, 12, 13, 14], [], []))])) mixed Try.func13 (by kernel_rfl) rfl (by show 2 ≤ _; decide) (by kernel_rfl) ?_
  show wpC _ _ (Post.ret tT _ _) _
  have h15 := spec15_at hl
  simp -implicitDefEqProofs only [Try.f13, Try.results13, mkE_T, mkE_S, mkE_live, tT_3, tT_4, tT_22, tT_24, tT_26, tT_44, startS, pL, pI, li, F2_15, h15, List.zipIdx_cons, List.zipIdx_nil, Nat.zero_add, Nat.reduceAdd, go_sem, ↓reduceIte, Nat.reduceEqDiff, Nat.reduceBEq, Nat.reduceAdd, Nat.reduceMul, Nat.reduceLeDiff, Nat.reduceSub, reduceCtorEq, Nat.reduceLT]
  refine cond_intro _ _ _ _ _ (fun hm => ?_) (fun hm => ?_)
  · simp -implicitDefEqProofs only [mkE_T, mkE_S, mkE_live, tT_3, tT_4, tT_22, tT_24, tT_26, tT_44, go_sem, ↓reduceIte, Nat.reduceEqDiff, Nat.reduceBEq, Nat.reduceAdd, Nat.reduceMul, Nat.reduceLeDiff, Nat.reduceSub, reduceCtorEq, Nat.reduceLT]
    refine got_c ?_
    have hm' : may l = false := by simpa using hm
    simp [gap, hm']
  · have hm' : may l = true := by simpa using hm
    simp -implicitDefEqProofs only [mkE_T, mkE_S, mkE_live, tT_3, tT_4, tT_22, tT_24, tT_26, tT_44, go_sem, ↓reduceIte, Nat.reduceEqDiff, Nat.reduceBEq, Nat.reduceAdd, Nat.reduceMul, Nat.reduceLeDiff, Nat.reduceSub, reduceCtorEq, Nat.reduceLT]
    refine loop_intro (fun n s => ∃ from' i, i + n = l.length ∧ gap l m = gap' from' (l.drop i) ∧ s = st13 l from' i) l.length ⟨if 0 > m then 0 else m, 0, ?_, ?_, ?_⟩ ?_
    · simp
    · simp [gap, hm']
    · simp [st13]
    · rintro n s ⟨k, i, hi, hm, rfl⟩
      simp -implicitDefEqProofs only [st13, mkE_T, mkE_S, mkE_live, tT_3, tT_4, tT_22, tT_24, tT_26, tT_44, go_sem, ↓reduceIte, Nat.reduceEqDiff, Nat.reduceBEq, Nat.reduceAdd, Nat.reduceMul, Nat.reduceLeDiff, Nat.reduceSub, reduceCtorEq, Nat.reduceLT]
      refine cond_intro _ _ _ _ _ (fun hc => ?_) (fun hc => ?_)
      · have hlt : i < l.length := by simpa using hc
        have hx : (l.map encS)[i]? = some (encS l[i]) := by simp [hlt]
        have hdrop : l.drop i = l[i] :: l.drop (i + 1) := List.drop_eq_getElem_cons hlt
        have hw := wrap_nat (n := i) (by omega)
        generalize l[i] = x at hx hdrop
        simp -implicitDefEqProofs only [hx, Int.natCast_nonneg, Int.toNat_natCast, encS, li, mkE_T, mkE_S, mkE_live, tT_3, tT_4, tT_22, tT_24, tT_26, tT_44, go_sem, ↓reduceIte, Nat.reduceEqDiff, Nat.reduceBEq, Nat.reduceAdd, Nat.reduceMul, Nat.reduceLeDiff, Nat.reduceSub, reduceCtorEq, Nat.reduceLT]
        refine opsG_intro _ _ _ _ _ _ (fun h1 => ?_) (fun h1 => ?_)
        · simp -implicitDefEqProofs only [mkE_T, mkE_S, mkE_live, tT_3, tT_4, tT_22, tT_24, tT_26, tT_44, go_sem, ↓reduceIte, Nat.reduceEqDiff, Nat.reduceBEq, Nat.reduceAdd, Nat.reduceMul, Nat.reduceLeDiff, Nat.reduceSub, reduceCtorEq, Nat.reduceLT]
          refine cond_intro _ _ _ _ _ (fun h2 => ?_) (fun h2 => ?_)
          · simp -implicitDefEqProofs only [mkE_T, mkE_S, mkE_live, tT_3, tT_4, tT_22, tT_24, tT_26, tT_44, hw, go_sem, ↓reduceIte, Nat.reduceEqDiff, Nat.reduceBEq, Nat.reduceAdd, Nat.reduceMul, Nat.reduceLeDiff, Nat.reduceSub, reduceCtorEq, Nat.reduceLT]
            refine ⟨n - 1, by omega, x.u, i + 1, by omega, ?_, rfl⟩
            have h1' : x.f ≤ k := by simpa using h1
            have h2' : k < x.u := by simpa using h2
            rw [hm, hdrop, gap', if_pos ⟨h1', h2'⟩]
          · simp -implicitDefEqProofs only [mkE_T, mkE_S, mkE_live, tT_3, tT_4, tT_22, tT_24, tT_26, tT_44, hw, go_sem, ↓reduceIte, Nat.reduceEqDiff, Nat.reduceBEq, Nat.reduceAdd, Nat.reduceMul, Nat.reduceLeDiff, Nat.reduceSub, reduceCtorEq, Nat.reduceLT]
            refine ⟨n - 1, by omega, k, i + 1, by omega, ?_, rfl⟩
            have h2' : ¬ k < x.u := by simpa using h2
            rw [hm, hdrop, gap', if_neg (fun h => h2' h.2)]
        · simp -implicitDefEqProofs only [mkE_T, mkE_S, mkE_live, tT_3, tT_4, tT_22, tT_24, tT_26, tT_44, hw, go_sem, ↓reduceIte, Nat.reduceEqDiff, Nat.reduceBEq, Nat.reduceAdd, Nat.reduceMul, Nat.reduceLeDiff, Nat.reduceSub, reduceCtorEq, Nat.reduceLT]
          refine ⟨n - 1, by omega, k, i + 1, by omega, ?_, rfl⟩
          have h1' : ¬ x.f ≤ k := by simpa using h1
          rw [hm, hdrop, gap', if_neg (fun h => h1' h.1)]
      · have hge : l.drop i = [] := List.drop_eq_nil_of_le (by simpa using hc)
        simp -implicitDefEqProofs only [mkE_T, mkE_S, mkE_live, tT_3, tT_4, tT_22, tT_24, tT_26, tT_44, go_sem, ↓reduceIte, Nat.reduceEqDiff, Nat.reduceBEq, Nat.reduceAdd, Nat.reduceMul, Nat.reduceLeDiff, Nat.reduceSub, reduceCtorEq, Nat.reduceLT]
        refine got_c ?_
        rw [hm, hge, gap']
end Go.Proofs.Sp
