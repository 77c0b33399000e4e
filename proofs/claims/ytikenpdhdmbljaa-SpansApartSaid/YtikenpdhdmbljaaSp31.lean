/- The reference's put (31). -/
import Derived.Test.YtikenpdhdmbljaaSp12
set_option linter.unusedSimpArgs false
set_option linter.unusedVariables false
set_option linter.unusedSectionVars false
set_option linter.unnecessarySimpa false
namespace Go.Proofs.Sp
open Go.PM Go.Proofs

def atOf (l : List Int) (n : Int) : Nat → Nat
  | 0 => 0
  | k + 1 => if l.getD k 0 > n then atOf l n k else k + 1
def putN (l : List Int) (n : Int) : List Int :=
  let k := atOf l n l.length
  if 0 < k ∧ l.getD (k - 1) 0 = n then l else l.take k ++ n :: l.drop k
theorem atOf_le (l : List Int) (n : Int) : ∀ k, atOf l n k ≤ k
  | 0 => Nat.le_refl _
  | k + 1 => by
    simp only [atOf]
    split
    · exact Nat.le_succ_of_le (atOf_le l n k)
    · exact Nat.le_refl _
theorem putN_length (l : List Int) (n : Int) : (putN l n).length ≤ l.length + 1 := by
  unfold putN
  simp only []
  split <;> simp <;> omega

def st31 (l : List Int) (n : Int) (i : Nat) : St := ⟨[(0, pN l), (1, pI n), (5, pI i)], []⟩
set_option maxHeartbeats 4000000 in
theorem sound31 (l : List Int) (n : Int) (hl : l.length ≤ 1099511627776) : SoundAt Try.prog 31 [pN l, pI n] (pN (putN l n)) := by
  refine sound_fun (env_ok tT_ok fs_nil _ : EnvOk Try.prog (mkE (specAt []) [(1, ([0, 1, 5], [], [])), (3, ([0, 1, 5], [], []))])) mixed Try.func31 (by kernel_rfl) rfl (by show 2 ≤ _; decide) (by kernel_rfl) ?_
  show wpC _ _ (Post.ret tT _ _) _
  simp -implicitDefEqProofs only [Try.f31, Try.results31, startS, pN, pI, li, List.zipIdx_cons, List.zipIdx_nil, go_sem, ↓reduceIte, Nat.reduceEqDiff, Nat.reduceBEq, Nat.reduceAdd, Nat.reduceMul, Nat.reduceLeDiff, Nat.reduceSub, reduceCtorEq, Nat.reduceLT]
  refine loop_intro (fun k s => ∃ i, i = k ∧ i ≤ l.length ∧ atOf l n l.length = atOf l n i ∧ s = st31 l n i) l.length ⟨l.length, rfl, Nat.le_refl _, rfl, ?_⟩ ?_
  · simp [st31, pN, pI, li]
  · rintro k s ⟨i, rfl, hi, hm, rfl⟩
    simp -implicitDefEqProofs only [st31, pN, pI, li, go_sem, ↓reduceIte, Nat.reduceEqDiff, Nat.reduceBEq, Nat.reduceAdd, Nat.reduceMul, Nat.reduceLeDiff, Nat.reduceSub, reduceCtorEq, Nat.reduceLT]
    refine opsG_intro _ _ _ _ _ _ (fun h1 => ?_) (fun h1 => ?_)
    · have h1' : 0 < i := by simpa using h1
      obtain ⟨j, rfl⟩ : ∃ j, i = j + 1 := ⟨i - 1, by omega⟩
      have hx : (l.map fun n => [CV.lit (.int .i64 n)])[j]? = some [.lit (.int .i64 (l.getD j 0))] := by
        simp [List.getD_eq_getElem?_getD, show j < l.length by omega]
      have hw : IntKind.i64.wrap (((j + 1 : Nat) : Int) - 1) = (j : Int) := by rw [IntKind.wrap_i64]; omega
      simp -implicitDefEqProofs only [hw, hx, Int.natCast_nonneg, Int.toNat_natCast, go_sem, ↓reduceIte, Nat.reduceEqDiff, Nat.reduceBEq, Nat.reduceAdd, Nat.reduceMul, Nat.reduceLeDiff, Nat.reduceSub, reduceCtorEq, Nat.reduceLT]
      refine cond_intro _ _ _ _ _ (fun hc => ?_) (fun hc => ?_)
      · have hc' : l.getD j 0 > n := by simpa using hc
        simp -implicitDefEqProofs only [hw, go_sem, ↓reduceIte, Nat.reduceEqDiff, Nat.reduceBEq, Nat.reduceAdd, Nat.reduceMul, Nat.reduceLeDiff, Nat.reduceSub, reduceCtorEq, Nat.reduceLT]
        refine ⟨j, by omega, j, rfl, by omega, ?_, rfl⟩
        rw [hm, atOf, if_pos hc']
      · have hc' : ¬ l.getD j 0 > n := by simpa using hc
        have hat : atOf l n l.length = j + 1 := by rw [hm, atOf, if_neg hc']
        have hmin : min (j + 1) l.length = j + 1 := by omega
        have hr1 : (j + 1) * 8 ≤ 140737488355328 := by omega
        have hr2 : (j + 1 + 1) * 8 ≤ 140737488355328 := by omega
        have hr3 : (j + 1 + 1 + (l.length - (j + 1))) * 8 ≤ 140737488355328 := by omega
        have hle : j + 1 ≤ l.length := by omega
        simp -implicitDefEqProofs only [h1, hw, hx, hmin, hr1, hr2, hr3, hle, List.length_take, List.length_drop, List.take_length, Int.natCast_nonneg, Int.toNat_natCast, go_sem, ↓reduceIte, Nat.reduceEqDiff, Nat.reduceBEq, Nat.reduceAdd, Nat.reduceMul, Nat.reduceLeDiff, Nat.reduceSub, reduceCtorEq, Nat.reduceLT]
        refine cond_intro _ _ _ _ _ (fun h2 => ?_) (fun h2 => ?_)
        · have h2' : l.getD j 0 = n := by simpa using h2
          simp -implicitDefEqProofs only [go_sem, ↓reduceIte, Nat.reduceEqDiff, Nat.reduceBEq, Nat.reduceAdd, Nat.reduceMul, Nat.reduceLeDiff, Nat.reduceSub, reduceCtorEq, Nat.reduceLT]
          refine got_c ?_
          have hp : putN l n = l := by simp only [putN, hat]; exact if_pos ⟨h1', h2'⟩
          rw [hp]
        · have h2' : ¬ l.getD j 0 = n := by simpa using h2
          simp -implicitDefEqProofs only [h1, hw, hx, hmin, hr1, hr2, hr3, hle, List.length_take, List.length_drop, List.take_length, Int.natCast_nonneg, Int.toNat_natCast, go_sem, ↓reduceIte, Nat.reduceEqDiff, Nat.reduceBEq, Nat.reduceAdd, Nat.reduceMul, Nat.reduceLeDiff, Nat.reduceSub, reduceCtorEq, Nat.reduceLT]
          refine got_own0 rfl (by simp; omega) ?_
          have hp : putN l n = l.take (j + 1) ++ n :: l.drop (j + 1) := by simp only [putN, hat]; exact if_neg (fun h => h2' h.2)
          rw [hp]
          simp
    · have h1' : i = 0 := by
        have : ¬ 0 < i := by simpa using h1
        omega
      subst h1'
      have hat : atOf l n l.length = 0 := by rw [hm, atOf]
      have hr : (1 + l.length) * 8 ≤ 140737488355328 := by omega
      simp -implicitDefEqProofs only [h1, hr, Int.natCast_nonneg, Int.toNat_natCast, go_sem, ↓reduceIte, Nat.reduceEqDiff, Nat.reduceBEq, Nat.reduceAdd, Nat.reduceMul, Nat.reduceLeDiff, Nat.reduceSub, reduceCtorEq, Nat.reduceLT]
      refine got_own0 rfl (by simp; omega) ?_
      have hp : putN l n = n :: l := by simp [putN, hat]
      rw [hp]
      rfl
noncomputable def spec31 : PM.Spec := specOf (fun x : List Int × Int => [pN x.1, pI x.2]) (fun x => x.1.length ≤ 1099511627776) (fun x => pN (putN x.1 x.2))
theorem spec31_at {l : List Int} (h : l.length ≤ 1099511627776) (n : Int) : spec31 [.c (.ro 1 (l.map fun n => [li n])), .c (.lit (.int .i64 n))] = some (.c (.ro 1 ((putN l n).map fun n => [li n]))) :=
  specOf_at (arg := fun x : List Int × Int => [pN x.1, pI x.2]) (fun a b h => Prod.ext (pN_inj (List.cons.inj h).1) (pI_inj (List.cons.inj (List.cons.inj h).2).1)) (a := (l, n)) h
theorem spec31_ok : ∀ vs r, spec31 vs = some r → SoundAt Try.prog 31 vs r := specOf_sound fun (x : List Int × Int) h => sound31 x.1 x.2 h
end Go.Proofs.Sp
