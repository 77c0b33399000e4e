/- Same (12). -/
import Derived.Test.YtikenpdhdmbljaaSp30
set_option linter.unusedSimpArgs false
set_option linter.unusedVariables false
set_option linter.unusedSectionVars false
set_option linter.unnecessarySimpa false
namespace Go.Proofs.Sp
open Go.PM Go.Proofs

def eqS (a b : S) : Bool := (a.f == b.f) && (a.u == b.u)
def eqL : List S → List S → Bool
  | [], [] => true
  | a :: r, b :: q => eqS a b && eqL r q
  | _, _ => false
theorem eqS_iff {a b : S} : eqS a b = true ↔ a = b := by
  constructor
  · intro h
    simp only [eqS, Bool.and_eq_true, beq_iff_eq] at h
    exact S.ext' h.1 h.2
  · rintro rfl; simp [eqS]
theorem eqL_iff : ∀ {a b : List S}, eqL a b = true ↔ a = b
  | [], [] => by simp [eqL]
  | [], _ :: _ => by simp [eqL]
  | _ :: _, [] => by simp [eqL]
  | a :: r, b :: q => by simp [eqL, eqS_iff, eqL_iff]
theorem eqL_length {a b : List S} (h : a.length ≠ b.length) : eqL a b = false := by
  cases hq : eqL a b with
  | false => rfl
  | true => exact absurd (congrArg List.length (eqL_iff.1 hq)) h

def st12 (a b : List S) (i : Nat) : St := ⟨[(0, .c (.ro 2 (a.map encS))), (1, .c (.ro 2 (b.map encS))), (5, .c (.lit (.int .i64 i)))], []⟩
set_option maxHeartbeats 4000000 in
theorem sound12 (a b : List S) (ha : a.length ≤ 4611686018427387904) : SoundAt Try.prog 12 [pL a, pL b] (pB (eqL a b)) := by
  refine sound_fun (env_ok tT_ok F3_ok _ : EnvOk Try.prog (mkE (specAt F3) [(3, ([0, 1, 5], [], [])), (5, ([0, 1, 5], [], []))])) mixed Try.func12 (by kernel_rfl) rfl (by show 2 ≤ _; decide) (by kernel_rfl) ?_
  show wpC _ _ (Post.ret tT _ _) _
  simp -implicitDefEqProofs only [Try.f12, Try.results12, mkE_T, mkE_S, mkE_live, tT_3, tT_4, tT_22, tT_24, tT_26, tT_44, startS, pL, pI, li, List.zipIdx_cons, List.zipIdx_nil, Nat.zero_add, Nat.reduceAdd, go_sem, ↓reduceIte, Nat.reduceEqDiff, Nat.reduceBEq, Nat.reduceAdd, Nat.reduceMul, Nat.reduceLeDiff, Nat.reduceSub, reduceCtorEq, Nat.reduceLT]
  refine cond_intro _ _ _ _ _ (fun hne => ?_) (fun hne => ?_)
  · simp -implicitDefEqProofs only [mkE_T, mkE_S, mkE_live, tT_3, tT_4, tT_22, tT_24, tT_26, tT_44, go_sem, ↓reduceIte, Nat.reduceEqDiff, Nat.reduceBEq, Nat.reduceAdd, Nat.reduceMul, Nat.reduceLeDiff, Nat.reduceSub, reduceCtorEq, Nat.reduceLT]
    refine got_c ?_
    have : a.length ≠ b.length := by
      intro e
      simp [e] at hne
    rw [eqL_length this]
  · have hlen : a.length = b.length := by
      have : (a.length : Int) = b.length := by simpa using hne
      omega
    simp -implicitDefEqProofs only [mkE_T, mkE_S, mkE_live, tT_3, tT_4, tT_22, tT_24, tT_26, tT_44, go_sem, ↓reduceIte, Nat.reduceEqDiff, Nat.reduceBEq, Nat.reduceAdd, Nat.reduceMul, Nat.reduceLeDiff, Nat.reduceSub, reduceCtorEq, Nat.reduceLT]
    refine loop_intro (fun n s => ∃ i, i + n = a.length ∧ eqL a b = eqL (a.drop i) (b.drop i) ∧ s = st12 a b i) a.length ⟨0, ?_, ?_, ?_⟩ ?_
    · simp
    · simp
    · simp [st12]
    · rintro n s ⟨i, hi, hm, rfl⟩
      simp -implicitDefEqProofs only [st12, mkE_T, mkE_S, mkE_live, tT_3, tT_4, tT_22, tT_24, tT_26, tT_44, go_sem, ↓reduceIte, Nat.reduceEqDiff, Nat.reduceBEq, Nat.reduceAdd, Nat.reduceMul, Nat.reduceLeDiff, Nat.reduceSub, reduceCtorEq, Nat.reduceLT]
      refine cond_intro _ _ _ _ _ (fun hc => ?_) (fun hc => ?_)
      · have hlt : i < a.length := by simpa using hc
        have hx : (a.map encS)[i]? = some (encS a[i]) := by simp [hlt]
        have hy : (b.map encS)[i]? = some (encS (b[i]'(by omega))) := by simp [show i < b.length by omega]
        have hda : a.drop i = a[i] :: a.drop (i + 1) := List.drop_eq_getElem_cons hlt
        have hdb : b.drop i = (b[i]'(by omega)) :: b.drop (i + 1) := List.drop_eq_getElem_cons (by omega)
        have hw := wrap_nat (n := i) (by omega)
        generalize a[i] = x at hx hda
        generalize (b[i]'(by omega)) = y at hy hdb
        simp -implicitDefEqProofs only [hx, hy, Int.natCast_nonneg, Int.toNat_natCast, encS, li, mkE_T, mkE_S, mkE_live, tT_3, tT_4, tT_22, tT_24, tT_26, tT_44, go_sem, ↓reduceIte, Nat.reduceEqDiff, Nat.reduceBEq, Nat.reduceAdd, Nat.reduceMul, Nat.reduceLeDiff, Nat.reduceSub, reduceCtorEq, Nat.reduceLT]
        refine ⟨by rfl, ?_⟩
        refine cond_intro _ _ _ _ _ (fun h2 => ?_) (fun h2 => ?_)
        · simp -implicitDefEqProofs only [mkE_T, mkE_S, mkE_live, tT_3, tT_4, tT_22, tT_24, tT_26, tT_44, go_sem, ↓reduceIte, Nat.reduceEqDiff, Nat.reduceBEq, Nat.reduceAdd, Nat.reduceMul, Nat.reduceLeDiff, Nat.reduceSub, reduceCtorEq, Nat.reduceLT]
          refine got_c ?_
          have h2' : eqS x y = false := by
            cases hq : eqS x y with
            | false => rfl
            | true => obtain rfl := eqS_iff.1 hq; simp at h2
          rw [hm, hda, hdb]
          simp [eqL, h2']
        · simp -implicitDefEqProofs only [mkE_T, mkE_S, mkE_live, tT_3, tT_4, tT_22, tT_24, tT_26, tT_44, hw, go_sem, ↓reduceIte, Nat.reduceEqDiff, Nat.reduceBEq, Nat.reduceAdd, Nat.reduceMul, Nat.reduceLeDiff, Nat.reduceSub, reduceCtorEq, Nat.reduceLT]
          refine ⟨n - 1, by omega, i + 1, by omega, ?_, rfl⟩
          have h2' : eqS x y = true := by simpa [eqS] using h2
          rw [hm, hda, hdb]
          simp [eqL, h2']
      · have hga : a.drop i = [] := List.drop_eq_nil_of_le (by simpa using hc)
        have hgb : b.drop i = [] := List.drop_eq_nil_of_le (by rw [← hlen]; simpa using hc)
        simp -implicitDefEqProofs only [mkE_T, mkE_S, mkE_live, tT_3, tT_4, tT_22, tT_24, tT_26, tT_44, go_sem, ↓reduceIte, Nat.reduceEqDiff, Nat.reduceBEq, Nat.reduceAdd, Nat.reduceMul, Nat.reduceLeDiff, Nat.reduceSub, reduceCtorEq, Nat.reduceLT]
        refine got_c ?_
        rw [hm, hga, hgb]
        rfl
end Go.Proofs.Sp
