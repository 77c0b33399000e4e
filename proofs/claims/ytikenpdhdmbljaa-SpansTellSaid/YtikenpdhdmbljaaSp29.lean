/- The reference's ends (29). -/
import Derived.Test.YtikenpdhdmbljaaSp31
set_option linter.unusedSimpArgs false
set_option linter.unusedVariables false
set_option linter.unusedSectionVars false
set_option linter.unnecessarySimpa false
namespace Go.Proofs.Sp
open Go.PM Go.Proofs

def ends' : List Int → List S → List Int
  | o, [] => o
  | o, s :: r => ends' (putN (putN o s.f) s.u) r
def endsN (l : List S) : List Int := ends' [] l
theorem ends'_length : ∀ (l : List S) (o : List Int), (ends' o l).length ≤ o.length + 2 * l.length
  | [], o => Nat.le_refl _
  | s :: r, o => by
    have h1 := putN_length o s.f
    have h2 := putN_length (putN o s.f) s.u
    have h3 := ends'_length r (putN (putN o s.f) s.u)
    simp only [ends', List.length_cons]
    omega

theorem endsN_length (l : List S) : (endsN l).length ≤ 2 * l.length := by
  have := ends'_length l []
  simpa [endsN] using this
def st29 (l : List S) (o : List Int) (i : Nat) : St := ⟨[(0, pL l), (3, .c (.ro 1 (o.map fun n => [.lit (.int .i64 n)]))), (4, pI i)], []⟩
set_option maxHeartbeats 4000000 in
theorem sound29 (l : List S) (hl : l.length ≤ 1073741824) : SoundAt Try.prog 29 [pL l] (pN (endsN l)) := by
  refine sound_fun (env_ok tT_ok (fs_cons spec31_ok fs_nil) _ : EnvOk Try.prog (mkE (specAt [(31, spec31)]) [(2, ([0, 3, 4], [], [(3, none, 1)])), (4, ([0, 3, 4], [], []))])) mixed Try.func29 (by kernel_rfl) rfl (by show 1 ≤ _; decide) (by kernel_rfl) ?_
  show wpC _ _ (Post.ret tT _ _) _
  simp -implicitDefEqProofs only [Try.f29, Try.results29, startS, pN, pL, pI, li, List.zipIdx_cons, List.zipIdx_nil, go_sem, ↓reduceIte, Nat.reduceEqDiff, Nat.reduceBEq, Nat.reduceAdd, Nat.reduceMul, Nat.reduceLeDiff, Nat.reduceSub, reduceCtorEq, Nat.reduceLT]
  refine loop_intro (fun k s => ∃ i o, i + k = l.length ∧ o.length ≤ 2 * i ∧ endsN l = ends' o (l.drop i) ∧ s = st29 l o i) l.length ⟨0, [], by omega, by simp, rfl, ?_⟩ ?_
  · simp [st29, pN, pI, pL]
  · rintro k s ⟨i, o, hi, ho, hm, rfl⟩
    simp -implicitDefEqProofs only [st29, pN, pL, pI, li, go_sem, ↓reduceIte, Nat.reduceEqDiff, Nat.reduceBEq, Nat.reduceAdd, Nat.reduceMul, Nat.reduceLeDiff, Nat.reduceSub, reduceCtorEq, Nat.reduceLT]
    refine cond_intro _ _ _ _ _ (fun hc => ?_) (fun hc => ?_)
    · have hlt : i < l.length := by simpa using hc
      have hx : (l.map encS)[i]? = some (encS l[i]) := by simp [hlt]
      have hdrop : l.drop i = l[i] :: l.drop (i + 1) := List.drop_eq_getElem_cons hlt
      have hw := wrap_nat (n := i) (by omega)
      generalize l[i] = x at hx hdrop
      have h1 := putN_length o x.f
      have h2 := putN_length (putN o x.f) x.u
      have e1 := spec31_at (l := o) (by omega) x.f
      have e2 := spec31_at (l := putN o x.f) (by omega) x.u
      simp only [li] at e1 e2
      simp -implicitDefEqProofs only [hx, hw, e1, e2, Int.natCast_nonneg, Int.toNat_natCast, encS, li, go_sem, ↓reduceIte, Nat.reduceEqDiff, Nat.reduceBEq, Nat.reduceAdd, Nat.reduceMul, Nat.reduceLeDiff, Nat.reduceSub, reduceCtorEq, Nat.reduceLT]
      refine ⟨by rfl, ?_⟩
      refine ⟨k - 1, by omega, i + 1, _, by omega, ?_, ?_, rfl⟩
      · omega
      · rw [hm, hdrop, ends']
    · have hge : l.drop i = [] := List.drop_eq_nil_of_le (by simpa using hc)
      simp -implicitDefEqProofs only [go_sem, ↓reduceIte, Nat.reduceEqDiff, Nat.reduceBEq, Nat.reduceAdd, Nat.reduceMul, Nat.reduceLeDiff, Nat.reduceSub, reduceCtorEq, Nat.reduceLT]
      refine got_c ?_
      rw [hm, hge, ends']
noncomputable def spec29 : PM.Spec := specOf (fun l : List S => [pL l]) (fun l => l.length ≤ 1073741824) (fun l => pN (endsN l))
theorem spec29_at {l : List S} (h : l.length ≤ 1073741824) : spec29 [.c (.ro 2 (l.map encS))] = some (.c (.ro 1 ((endsN l).map fun n => [CV.lit (.int .i64 n)]))) :=
  specOf_at (arg := fun l : List S => [pL l]) (fun a b h => pL_inj (List.cons.inj h).1) (a := l) h
theorem spec29_ok : ∀ vs r, spec29 vs = some r → SoundAt Try.prog 29 vs r := specOf_sound fun l h => sound29 l h
end Go.Proofs.Sp
