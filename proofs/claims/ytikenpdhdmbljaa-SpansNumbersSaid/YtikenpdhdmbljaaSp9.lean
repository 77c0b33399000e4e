/- The chapter's example (9). -/
import Derived.Test.YtikenpdhdmbljaaSpCut2
set_option linter.unusedSimpArgs false
set_option linter.unusedVariables false
set_option linter.unusedSectionVars false
set_option linter.unnecessarySimpa false
namespace Go.Proofs.Sp
open Go.PM Go.Proofs

set_option maxHeartbeats 2000000 in
theorem sound9 : SoundAt Try.prog 9 [] (pB true) := by
  refine sound_fun (env_ok tT_ok (fs_cons spec10_ok (fs_cons spec11_ok (fs_cons spec12_ok (fs_cons spec15_ok fs_nil)))) _ : EnvOk Try.prog (mkE (specAt [(10, specR addP), (11, specR cutP), (12, spec12), (15, spec15)]) [])) mixed Try.func9 (by kernel_rfl) rfl (by show 0 ≤ _; decide) (by kernel_rfl) ?_
  show wpC _ _ (Post.ret tT _ _) _
  have h10 := specR_at (F := addP) (l := [⟨1, 3⟩, ⟨5, 7⟩]) (by simp) 3 5
  rw [show addP [⟨1, 3⟩, ⟨5, 7⟩] ⟨3, 5⟩ = ([⟨1, 7⟩], 0) by rfl] at h10
  have h11 := specR_at (F := cutP) (l := [⟨1, 7⟩]) (by simp) 2 4
  rw [show cutP [⟨1, 7⟩] ⟨2, 4⟩ = ([⟨1, 2⟩, ⟨4, 7⟩], 0) by rfl] at h11
  have h12 := spec12_at (a := [⟨1, 7⟩]) (by simp) [⟨1, 7⟩]
  rw [show eqL [⟨1, 7⟩] [⟨1, 7⟩] = true by decide +kernel] at h12
  have h12b := spec12_at (a := [⟨1, 2⟩, ⟨4, 7⟩]) (by simp) [⟨1, 2⟩, ⟨4, 7⟩]
  rw [show eqL [⟨1, 2⟩, ⟨4, 7⟩] [⟨1, 2⟩, ⟨4, 7⟩] = true by decide +kernel] at h12b
  have h15 := spec15_at (l := [⟨1, 2⟩, ⟨4, 7⟩]) (by simp)
  rw [show may [⟨1, 2⟩, ⟨4, 7⟩] = true by decide +kernel] at h15
  simp only [List.map_cons, List.map_nil, encS, li] at h10 h11 h12 h12b h15
  simp -implicitDefEqProofs only [Try.f9, Try.results9, startS, pL, pI, pS, li, h10, h11, h12, h12b, h15, List.zipIdx_cons, List.zipIdx_nil, go_sem, ↓reduceIte, Nat.reduceEqDiff, Nat.reduceBEq, Nat.reduceAdd, Nat.reduceMul, Nat.reduceLeDiff, Nat.reduceSub, reduceCtorEq, Nat.reduceLT]
  rw [pB]
  exact got_c rfl
noncomputable def spec9 : PM.Spec := specOf (fun _ : Unit => []) (fun _ => True) (fun _ => pB true)
theorem spec9_at : spec9 [] = some (.c (.lit (.bool true))) := specOf_at (arg := fun _ : Unit => []) (pre := fun _ => True) (fun _ _ _ => rfl) (a := ()) trivial
theorem spec9_ok : ∀ vs r, spec9 vs = some r → SoundAt Try.prog 9 vs r := specOf_sound fun _ _ => sound9
end Go.Proofs.Sp
