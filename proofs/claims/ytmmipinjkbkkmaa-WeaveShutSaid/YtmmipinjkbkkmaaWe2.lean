/- slices.Clone (44, 45), own (29): rows of one's own. -/
import Derived.Test.YtmmipinjkbkkmaaWe1
set_option linter.unusedSimpArgs false
set_option linter.unusedVariables false
set_option linter.unusedSectionVars false
set_option linter.unnecessarySimpa false
namespace Go.Proofs.We
open Go.PM Go.Proofs

/-- An empty slice is nil, or it is not. -/
theorem sound_empty {P : Program} {f : FuncId} {sz : Nat} {r : PV} (h1 : SoundAt P f [.c (.e true)] r) (h2 : SoundAt P f [.c (.e false)] r) : SoundAt P f [.c (.ro sz [])] r := by
  refine ⟨h1.1, fun w wr args hwr ha => ?_⟩
  obtain ⟨hl, hx⟩ := ha
  match args, hl with
  | [u], _ =>
    have hu := (hx 0 _ u rfl rfl).2 (fun _ => ⟨0, 0, 0, false⟩)
    have hu : RelC w wr (.ro sz []) u := hu
    obtain ⟨A, c, rfl⟩ : ∃ A c, u = .slice A 0 c := by
      cases hu; exact ⟨_, _, rfl⟩
    have key : SoundAt P f [.c (.e A.isNone)] r := by cases A <;> assumption
    refine key.2 w wr [.slice A 0 c] hwr ⟨rfl, fun i p u hp hu => ?_⟩
    match i, hp, hu with
    | 0, hp, hu => cases hp; cases hu; exact ⟨rfl, fun _ => RelC.e A c⟩

def live44 : List (Nat × Live) := [(0, ([0], [], [])), (1, ([0, 4], [], [])), (2, ([2], [], [(2, some 2, 1)])), (3, ([2], [(7, 2, 1)], []))]
def live45 : List (Nat × Live) := [(0, ([0], [], [])), (1, ([0, 4], [], [])), (2, ([2], [], [(2, some 2, 2)])), (3, ([2], [(7, 2, 1)], []))]
set_option maxHeartbeats 2000000 in
theorem soundW44 (l : List Int) (hl : l.length ≤ 140737488355328) : SoundAt Try.prog 44 [pBy l] (.fresh 0 1 (l.map encB)) := by
  cases l with
  | nil =>
    refine sound_empty ?_ ?_ <;>
    · refine sound_fun (env_ok tT_ok fs_nil _ : EnvOk Try.prog (mkE (specAt []) live44)) mixed Try.func44 (by kernel_rfl) rfl (by show 1 ≤ _; decide) (by kernel_rfl) ?_
      show wpC _ _ (Post.ret tT _ _) _
      simp -implicitDefEqProofs only [Try.f44, Try.results44, live44, startS, pBy, li, List.zipIdx_cons, List.zipIdx_nil, List.map_nil, go_sem, ↓reduceIte, Nat.reduceEqDiff, Nat.reduceBEq, Nat.reduceAdd, Nat.reduceMul, Nat.reduceLeDiff, Nat.reduceSub, reduceCtorEq, Nat.reduceLT, Int.reduceBEq, Int.reduceBNe, Int.reduceEq, Int.reduceNe, Int.reduceLT, Int.reduceLE]
      exact got1 [2] (by simp) (fun _ e => by cases e) (mA_fresh (m_fresh rfl rfl rfl rfl))
  | cons x r =>
    refine sound_fun (env_ok tT_ok fs_nil _ : EnvOk Try.prog (mkE (specAt []) live44)) mixed Try.func44 (by kernel_rfl) rfl (by show 1 ≤ _; decide) (by kernel_rfl) ?_
    show wpC _ _ (Post.ret tT _ _) _
    have hr : (r.length + 1) * 1 ≤ 140737488355328 := by simp at hl; omega
    simp -implicitDefEqProofs only [Try.f44, Try.results44, live44, startS, pBy, li, hr, List.zipIdx_cons, List.zipIdx_nil, List.map_cons, go_sem, ↓reduceIte, Nat.reduceEqDiff, Nat.reduceBEq, Nat.reduceAdd, Nat.reduceMul, Nat.reduceLeDiff, Nat.reduceSub, reduceCtorEq, Nat.reduceLT, Int.reduceBEq, Int.reduceBNe, Int.reduceEq, Int.reduceNe, Int.reduceLT, Int.reduceLE]
    exact got1 [2] (by simp) (fun _ e => by cases e) (mA_fresh (m_fresh rfl rfl (by simp) rfl))
noncomputable def specW44 : PM.Spec := specOf (fun l : List Int => [pBy l]) (fun l => l.length ≤ 140737488355328) (fun l => .fresh 0 1 (l.map encB))
theorem specW44_at {l : List Int} (h : l.length ≤ 140737488355328) : specW44 [.c (.ro 1 (l.map encB))] = some (.fresh 0 1 (l.map encB)) :=
  specOf_at (arg := fun l : List Int => [pBy l]) (fun a b h => pBy_inj (List.cons.inj h).1) (a := l) h
theorem specW44_ok : ∀ vs r, specW44 vs = some r → SoundAt Try.prog 44 vs r := specOf_sound fun l h => soundW44 l h
set_option maxHeartbeats 2000000 in
theorem soundW45 (l : List S) (hl : l.length ≤ 8796093022208) : SoundAt Try.prog 45 [pL l] (.fresh 0 2 (l.map encS)) := by
  cases l with
  | nil =>
    refine sound_empty ?_ ?_ <;>
    · refine sound_fun (env_ok tT_ok fs_nil _ : EnvOk Try.prog (mkE (specAt []) live45)) mixed Try.func45 (by kernel_rfl) rfl (by show 1 ≤ _; decide) (by kernel_rfl) ?_
      show wpC _ _ (Post.ret tT _ _) _
      simp -implicitDefEqProofs only [Try.f45, Try.results45, live45, startS, pL, li, List.zipIdx_cons, List.zipIdx_nil, List.map_nil, go_sem, ↓reduceIte, Nat.reduceEqDiff, Nat.reduceBEq, Nat.reduceAdd, Nat.reduceMul, Nat.reduceLeDiff, Nat.reduceSub, reduceCtorEq, Nat.reduceLT, Int.reduceBEq, Int.reduceBNe, Int.reduceEq, Int.reduceNe, Int.reduceLT, Int.reduceLE]
      exact got1 [2] (by simp) (fun _ e => by cases e) (mA_fresh (m_fresh rfl rfl rfl rfl))
  | cons x r =>
    refine sound_fun (env_ok tT_ok fs_nil _ : EnvOk Try.prog (mkE (specAt []) live45)) mixed Try.func45 (by kernel_rfl) rfl (by show 1 ≤ _; decide) (by kernel_rfl) ?_
    show wpC _ _ (Post.ret tT _ _) _
    have hr : (r.length + 1) * 16 ≤ 140737488355328 := by simp at hl; omega
    simp -implicitDefEqProofs only [Try.f45, Try.results45, live45, startS, pL, li, hr, List.zipIdx_cons, List.zipIdx_nil, List.map_cons, go_sem, ↓reduceIte, Nat.reduceEqDiff, Nat.reduceBEq, Nat.reduceAdd, Nat.reduceMul, Nat.reduceLeDiff, Nat.reduceSub, reduceCtorEq, Nat.reduceLT, Int.reduceBEq, Int.reduceBNe, Int.reduceEq, Int.reduceNe, Int.reduceLT, Int.reduceLE]
    exact got1 [2] (by simp) (fun _ e => by cases e) (mA_fresh (m_fresh rfl rfl (by simp) rfl))
noncomputable def specW45 : PM.Spec := specOf (fun l : List S => [pL l]) (fun l => l.length ≤ 8796093022208) (fun l => .fresh 0 2 (l.map encS))
theorem specW45_at {l : List S} (h : l.length ≤ 8796093022208) : specW45 [.c (.ro 2 (l.map encS))] = some (.fresh 0 2 (l.map encS)) :=
  specOf_at (arg := fun l : List S => [pL l]) (fun a b h => pL_inj (List.cons.inj h).1) (a := l) h
theorem specW45_ok : ∀ vs r, specW45 vs = some r → SoundAt Try.prog 45 vs r := specOf_sound fun l h => soundW45 l h

theorem allLit_B (l : List Int) : allLit (l.map encB) = true := by simp [allLit, encB, CV.plain]
theorem allLit_S (l : List S) : allLit (l.map encS) = true := by simp [allLit, encS, li, CV.plain]
attribute [go_sem] allLit_B allLit_S
/-! own -/
def live29 : List (Nat × Live) := [(0, ([1, 2], [(1, 1, 5), (2, 2, 5)], [])), (1, ([1, 2], [(1, 1, 5), (2, 2, 5), (6000, 5, 1), (9000, 8, 1)], [])), (2, ([2], [(2, 2, 5), (5, 5, 1), (8, 8, 1)], []))]
def pOwn (w : Wv) : PV := .agg [.c (.lit (.int .i64 w.base)), .fresh 0 1 (w.b.map encB), .fresh 1 2 (w.got.map encS), .c (.lit (.int .i64 w.cap)), .c (.lit (.int .i64 w.fin))]
def fitN (w : Wv) : Prop := w.b.length ≤ 140737488355328 ∧ w.got.length ≤ 8796093022208
set_option maxHeartbeats 2000000 in
theorem soundW29 (w : Wv) (hf : fitN w) : SoundAt Try.prog 29 [pW w] (pOwn w) := by
  refine sound_fun (env_ok tT_ok (fs_cons specW44_ok (fs_cons specW45_ok fs_nil)) _ : EnvOk Try.prog (mkE (specAt [(44, specW44), (45, specW45)]) live29)) mixed Try.func29 (by kernel_rfl) rfl (by show 1 ≤ _; decide) (by kernel_rfl) ?_
  show wpC _ _ (Post.ret tT _ _) _
  simp -implicitDefEqProofs only [Try.f29, Try.results29, live29, startS, pW, pOwn, li, specW44_at hf.1, specW45_at hf.2, List.zipIdx_cons, List.zipIdx_nil, go_sem, ↓reduceIte, Nat.reduceEqDiff, Nat.reduceBEq, Nat.reduceAdd, Nat.reduceMul, Nat.reduceLeDiff, Nat.reduceSub, reduceCtorEq, Nat.reduceLT, Int.reduceBEq, Int.reduceBNe, Int.reduceEq, Int.reduceNe, Int.reduceLT, Int.reduceLE]
  refine ⟨by rfl, got1 [5, 8] (by decide) (fun _ e => by cases e) (mA_agg (mLs_cons (m_c rfl) (mLs_cons (m_fresh rfl rfl (by simp) rfl) (mLs_cons (m_fresh rfl rfl (by simp) rfl) (mLs_cons (m_c rfl) (mLs_cons (m_c rfl) mLs_nil))))))⟩
noncomputable def specW29 : PM.Spec := specOf (fun w : Wv => [pW w]) fitN pOwn
theorem specW29_at {w : Wv} (h : fitN w) : specW29 [pW w] = some (pOwn w) := specOf_at (arg := fun w : Wv => [pW w]) (fun a b h => pW_inj (List.cons.inj h).1) (a := w) h
theorem specW29_ok : ∀ vs r, specW29 vs = some r → SoundAt Try.prog 29 vs r := specOf_sound fun w h => soundW29 w h
end Go.Proofs.We
