/- awake (7), and WeaveTwice (3), walked. -/
import Derived.Test.YtmmipinjkbkkmaaWe8
set_option linter.unusedSimpArgs false
set_option linter.unusedVariables false
set_option linter.unusedSectionVars false
set_option linter.unnecessarySimpa false
namespace Go.Proofs.We
open Go.PM Go.Proofs

noncomputable def specW9 : PM.Spec := specOf (fun x : Wv × Int × List Int => [pW x.1, pI x.2.1, pBy x.2.2]) (fun x => preP x.1 x.2.2) (fun x => .tup [pW (putW x.1 x.2.1 x.2.2).1, pI (putW x.1 x.2.1 x.2.2).2.1, pI (putW x.1 x.2.1 x.2.2).2.2])
theorem specW9_at {w : Wv} {b : List Int} (h : preP w b) (at' : Int) : specW9 [pW w, pI at', pBy b] = some (.tup [pW (putW w at' b).1, pI (putW w at' b).2.1, pI (putW w at' b).2.2]) :=
  specOf_at (arg := fun x : Wv × Int × List Int => [pW x.1, pI x.2.1, pBy x.2.2]) (fun a b h => Prod.ext (pW_inj (List.cons.inj h).1) (Prod.ext (pI_inj (List.cons.inj (List.cons.inj h).2).1) (pBy_inj (List.cons.inj (List.cons.inj (List.cons.inj h).2).2).1))) (a := (w, at', b)) h
theorem specW9_ok : ∀ vs r, specW9 vs = some r → SoundAt Try.prog 9 vs r := specOf_sound fun (x : Wv × Int × List Int) h => soundW9 x.1 x.2.1 x.2.2 h
noncomputable def specW14 : PM.Spec := specOf (fun n : Int => [pI n]) (fun _ => True) (fun n => .tup [pW (newN n).1, pI (newN n).2])
theorem specW14_at (n : Int) : specW14 [pI n] = some (.tup [pW (newN n).1, pI (newN n).2]) := specOf_at (arg := fun n : Int => [pI n]) (fun a b h => pI_inj (List.cons.inj h).1) (a := n) trivial
theorem specW14_ok : ∀ vs r, specW14 vs = some r → SoundAt Try.prog 14 vs r := specOf_sound fun n _ => soundW14 n
noncomputable def specW12 : PM.Spec := specOf (fun w : Wv => [pW w]) (fun w => w.got.length ≤ 4611686018427387904) (fun w => pI (edgeF w))
theorem specW12_at {w : Wv} (h : w.got.length ≤ 4611686018427387904) : specW12 [pW w] = some (pI (edgeF w)) := specOf_at (arg := fun w : Wv => [pW w]) (fun a b h => pW_inj (List.cons.inj h).1) (a := w) h
theorem specW12_ok : ∀ vs r, specW12 vs = some r → SoundAt Try.prog 12 vs r := specOf_sound fun w h => soundW12 w h
noncomputable def specW13 : PM.Spec := specOf (fun w : Wv => [pW w]) (fun w => w.got.length ≤ 4611686018427387904) (fun w => pI (readyN w))
theorem specW13_at {w : Wv} (h : w.got.length ≤ 4611686018427387904) : specW13 [pW w] = some (pI (readyN w)) := specOf_at (arg := fun w : Wv => [pW w]) (fun a b h => pW_inj (List.cons.inj h).1) (a := w) h
theorem specW13_ok : ∀ vs r, specW13 vs = some r → SoundAt Try.prog 13 vs r := specOf_sound fun w h => soundW13 w h
noncomputable def specW8 : PM.Spec := specOf (fun w : Wv => [pW w]) (fun _ => True) (fun w => pB (fewN w))
theorem specW8_at (w : Wv) : specW8 [pW w] = some (pB (fewN w)) := specOf_at (arg := fun w : Wv => [pW w]) (fun a b h => pW_inj (List.cons.inj h).1) (a := w) trivial
theorem specW8_ok : ∀ vs r, specW8 vs = some r → SoundAt Try.prog 8 vs r := specOf_sound fun w _ => soundW8 w

/-! awake -/
def x1 : Wv := ⟨0, [], [], 10, -1⟩
def x2 : Wv := ⟨0, [0, 0, 99, 100], [⟨2, 4⟩], 10, -1⟩
def x3 : Wv := ⟨0, [97, 98, 99, 100], [⟨0, 4⟩], 10, -1⟩
theorem x1_may : mayW x1 := ⟨⟨by decide, by decide, by decide, by decide, by rfl⟩, ⟨(fun x h => by cases h), by decide +kernel, by rfl⟩, .inl rfl, by rfl⟩
theorem x2_eq : newW x1 2 [99, 100] = x2 := by kernel_rfl
theorem x3_eq : newW x2 0 [97, 98] = x3 := by kernel_rfl
theorem put1 : putW x1 2 [99, 100] = (x2, 2, 0) := by
  unfold putW
  rw [if_neg (by simp [x1_may]), if_neg (by decide +kernel), if_neg (by decide +kernel), x2_eq, show newG x1 2 [99, 100] = x2.got from congrArg Wv.got x2_eq]
  rfl
theorem x2_may : mayW x2 := by
  have := (made (w := x1) (at' := 2) (b := [99, 100]) x1_may (by decide) (by decide) (by decide +kernel) (by decide +kernel) (by decide)).may
  rwa [x2_eq] at this
theorem put2 : putW x2 0 [97, 98] = (x3, 2, 0) := by
  unfold putW
  rw [if_neg (by simp [x2_may]), if_neg (by decide +kernel), if_neg (by decide +kernel), x3_eq, show newG x2 0 [97, 98] = x3.got from congrArg Wv.got x3_eq]
  rfl
theorem x3_may : mayW x3 := by
  have := (made (w := x2) (at' := 0) (b := [97, 98]) x2_may (by decide) (by decide) (by decide +kernel) (by decide +kernel) (by decide)).may
  rwa [x3_eq] at this

set_option maxRecDepth 4000 in
set_option maxHeartbeats 4000000 in
theorem soundW7 : SoundAt Try.prog 7 [] (pB true) := by
  refine sound_fun (env_ok tT_ok (fs_cons specW9_ok (fs_cons specW11_ok (fs_cons specW12_ok (fs_cons specW13_ok (fs_cons specW14_ok fs_nil))))) _ : EnvOk Try.prog (mkE (specAt [(9, specW9), (11, specW11), (12, specW12), (13, specW13), (14, specW14)]) [(0, ([], [], [])), (1, ([1, 2], [(1, 1, 5)], [])), (2, ([1, 2, 3, 4], [(1, 1, 5)], [])), (3, ([1, 2, 3, 4, 5], [(1, 1, 5)], [])), (4, ([1, 2, 3, 4, 5, 6, 7], [(1, 1, 5)], [])), (5, ([0], [], []))])) mixed Try.func7 (by kernel_rfl) rfl (by show 0 ≤ _; decide) (by kernel_rfl) ?_
  show wpC _ _ (Post.ret tT _ _) _
  have e14 := specW14_at 10
  have e9a := specW9_at (w := x1) (b := [99, 100]) ⟨⟨by decide, by decide⟩, by decide, by decide⟩ 2
  have e9b := specW9_at (w := x2) (b := [97, 98]) ⟨⟨by decide, by decide⟩, by decide, by decide⟩ 0
  rw [put1] at e9a
  rw [put2] at e9b
  have e13a := specW13_at (w := x2) (by decide)
  have e13b := specW13_at (w := x3) (by decide)
  have e11 := specW11_at (w := x3) (by decide)
  have e12 := specW12_at (w := x3) (by decide)
  have r2 : readyN x2 = 0 := by rw [readyN, if_pos (mayN_true x2_may)]; rfl
  have r3 : readyN x3 = 4 := by rw [readyN, if_pos (mayN_true x3_may)]; rfl
  have r4 : edgeF x3 = 10 := by rw [edgeF, if_pos (mayN_true x3_may)]; rfl
  rw [r2] at e13a
  rw [r3] at e13b
  rw [r4] at e12
  rw [mayN_true x3_may] at e11
  have e15 : newN 10 = (x1, 0) := by rfl
  rw [e15] at e14
  simp only [pW, pI, pB, pBy, x1, x2, x3, List.map_nil, List.map_cons, encB, encS, li] at e14 e9a e9b e13a e13b e11 e12
  simp -implicitDefEqProofs only [Try.f7, Try.results7, startS, pB, li, List.zipIdx_cons, List.zipIdx_nil, e14, e9a, e9b, e13a, e13b, e11, e12, go_sem, ↓reduceIte, Nat.reduceEqDiff, Nat.reduceBEq, Nat.reduceAdd, Nat.reduceMul, Nat.reduceLeDiff, Nat.reduceSub, reduceCtorEq, Nat.reduceLT, Int.reduceBEq, Int.reduceBNe, Int.reduceEq, Int.reduceNe, Int.reduceLT, Int.reduceLE]
  exact got_c rfl
noncomputable def specW7 : PM.Spec := specOf (fun _ : Unit => []) (fun _ => True) (fun _ => pB true)
theorem specW7_at : specW7 [] = some (.c (.lit (.bool true))) := specOf_at (arg := fun _ : Unit => []) (fun a b h => rfl) (a := ()) trivial
theorem specW7_ok : ∀ vs r, specW7 vs = some r → SoundAt Try.prog 7 vs r := specOf_sound fun _ _ => soundW7
end Go.Proofs.We
