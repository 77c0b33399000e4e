/- SpansTell, walked: what the code tells is what the document's words tell. -/
import Derived.Test.YtikenpdhdmbljaaSpLaw4
set_option linter.unusedSimpArgs false
set_option linter.unusedVariables false
set_option linter.unusedSectionVars false
set_option linter.unnecessarySimpa false
namespace Go.Proofs.Sp
open Go.PM Go.Proofs

noncomputable def spec18 : PM.Spec := specOf (fun x : List S × S => [pL x.1, pS x.2]) (fun x => x.1.length ≤ 4611686018427387904) (fun x => pB (hasR x.1 x.2))
theorem spec18_at {l : List S} (h : l.length ≤ 2000) (f u : Int) : spec18 [.c (.ro 2 (l.map encS)), .agg [.c (.lit (.int .i64 f)), .c (.lit (.int .i64 u))]] = some (.c (.lit (.bool (has l ⟨f, u⟩)))) := by
  rw [has_eq]
  exact specOf_at (arg := fun x : List S × S => [pL x.1, pS x.2]) (fun a b h => Prod.ext (pL_inj (List.cons.inj h).1) (pS_inj (List.cons.inj (List.cons.inj h).2).1)) (a := (l, ⟨f, u⟩)) (by show l.length ≤ _; omega)
theorem spec18_ok : ∀ vs r, spec18 vs = some r → SoundAt Try.prog 18 vs r := specOf_sound fun (x : List S × S) h => sound18 x.1 x.2 h
noncomputable def spec20 : PM.Spec := specOf (fun l : List S => [pL l]) (fun l => l.length ≤ 4611686018427387904) (fun l => pI (sizeR l))
theorem spec20_at {l : List S} (h : l.length ≤ 2000) : spec20 [.c (.ro 2 (l.map encS))] = some (.c (.lit (.int .i64 (size l)))) := by
  rw [size_eq]
  exact specOf_at (arg := fun l : List S => [pL l]) (fun a b h => pL_inj (List.cons.inj h).1) (a := l) (by omega)
theorem spec20_ok : ∀ vs r, spec20 vs = some r → SoundAt Try.prog 20 vs r := specOf_sound fun l h => sound20 l h
noncomputable def spec21 : PM.Spec := specOf (fun x : List S × Int => [pL x.1, pI x.2]) (fun x => x.1.length ≤ 4611686018427387904) (fun x => pI (gapR x.1 x.2))
theorem spec21_at {l : List S} (h : l.length ≤ 2000) (n : Int) : spec21 [.c (.ro 2 (l.map encS)), .c (.lit (.int .i64 n))] = some (.c (.lit (.int .i64 (gap l n)))) := by
  rw [gap_eq]
  exact specOf_at (arg := fun x : List S × Int => [pL x.1, pI x.2]) (fun a b h => Prod.ext (pL_inj (List.cons.inj h).1) (pI_inj (List.cons.inj (List.cons.inj h).2).1)) (a := (l, n)) (by show l.length ≤ _; omega)
theorem spec21_ok : ∀ vs r, spec21 vs = some r → SoundAt Try.prog 21 vs r := specOf_sound fun (x : List S × Int) h => sound21 x.1 x.2 h
theorem outN_len (l : List S) (s : S) (o : List S) : (outN l s o).1.length ≤ 1000 := by
  unfold outN; split
  · split
    · simp
    · simpa using (by omega : o.length ≤ 1000)
  · simp
theorem same_self {a : List S} (hl : a.length ≤ 2000) : spec12 [.c (.ro 2 (a.map encS)), .c (.ro 2 (a.map encS))] = some (.c (.lit (.bool true))) := same_good rfl hl

set_option maxRecDepth 4000 in
set_option maxHeartbeats 4000000 in
theorem law7 (l : List S) (s : S) (n : Int) : SoundAt Try.prog 7 [pL l, pS s, pI n] (pB true) := by
  refine sound_fun (env_ok tT_ok (fs_cons spec9_ok (fs_cons spec10_ok (fs_cons spec11_ok (fs_cons spec12_ok (fs_cons spec13_ok (fs_cons spec14_ok (fs_cons spec15_ok (fs_cons spec16_ok (fs_cons spec17_ok (fs_cons spec18_ok (fs_cons spec19_ok (fs_cons spec20_ok (fs_cons spec21_ok (fs_cons spec22_ok fs_nil)))))))))))))) _ : EnvOk Try.prog (mkE (specAt [(9, spec9), (10, specR addP), (11, specR cutP), (12, spec12), (13, spec13), (14, spec14), (15, spec15), (16, specR addR), (17, specR cutR), (18, spec18), (19, spec19), (20, spec20), (21, spec21), (22, spec15)]) [(0, ([0, 2, 4], [(4, 4, 2)], [])), (1, ([0, 2, 4, 7], [(4, 4, 2)], [])), (2, ([0, 2, 4, 7, 26], [(4, 4, 2)], [])), (3, ([6], [], [])), (4, ([0, 2, 4, 8, 9], [(4, 4, 2)], [])), (5, ([0, 2, 4, 8, 9, 10, 11], [(4, 4, 2)], [])), (6, ([0, 2, 4, 9, 11, 12], [(4, 4, 2)], [])), (7, ([0, 2, 4, 9, 11, 12, 13, 14], [(4, 4, 2)], [])), (8, ([0, 2, 4, 9, 11, 12, 13, 14, 15, 16], [(4, 4, 2)], [])), (9, ([0, 2, 4, 9, 11, 12, 14, 16, 17], [(4, 4, 2)], [])), (10, ([0, 2, 9, 11, 12, 14, 16, 17, 18], [], [])), (11, ([6], [], []))])) mixed Try.func7 (by kernel_rfl) rfl (by show 3 ≤ _; decide) (by kernel_rfl) ?_
  show wpC _ _ (Post.ret tT _ _) _
  by_cases hl : l.length ≤ 1100
  · have a1 : ¬ (1100 : Int) < l.length := by omega
    have e10 := specR_at (F := addP) (l := l) (by omega) s.f s.u
    have e11 := specR_at (F := cutP) (l := l) (by omega) s.f s.u
    have e16 := specR_at (F := addR) (l := l) (by omega) s.f s.u
    have e17 := specR_at (F := cutR) (l := l) (by omega) s.f s.u
    rw [← addP_eq] at e16
    rw [← cutP_eq] at e17
    have k1 : (addP l ⟨s.f, s.u⟩).1.length ≤ 1000 := outN_len _ _ _
    have k2 : (cutP l ⟨s.f, s.u⟩).1.length ≤ 1000 := outN_len _ _ _
    generalize addP l ⟨s.f, s.u⟩ = A at *
    generalize cutP l ⟨s.f, s.u⟩ = C at *
    have y1 := same_self (a := A.1) (by omega)
    have y2 := same_self (a := C.1) (by omega)
    have x13 := gap_at (l := l) (by omega) n
    have x14 := has_at (l := l) (by omega) s.f s.u
    have x15 := may_at (l := l) (by omega)
    have x18 := spec18_at (l := l) (by omega) s.f s.u
    have x19 := size_at (l := l) (by omega)
    have x20 := spec20_at (l := l) (by omega)
    have x21 := spec21_at (l := l) (by omega) n
    simp -implicitDefEqProofs only [Try.f7, Try.results7, startS, pL, pI, pS, pB, li, spec9_at, List.zipIdx_cons, List.zipIdx_nil, a1, e10, e11, e16, e17, y1, y2, x13, x14, x15, x18, x19, x20, x21, go_sem, ↓reduceIte, Nat.reduceEqDiff, Nat.reduceBEq, Nat.reduceAdd, Nat.reduceMul, Nat.reduceLeDiff, Nat.reduceSub, reduceCtorEq, Nat.reduceLT, Int.reduceBEq, Int.reduceBNe, Int.reduceEq, Int.reduceNe, Int.reduceLT, Int.reduceLE]
    exact ⟨by rfl, got_c rfl⟩
  · have a1 : (1100 : Int) < l.length := by omega
    simp -implicitDefEqProofs only [Try.f7, Try.results7, startS, pL, pI, pS, pB, li, spec9_at, List.zipIdx_cons, List.zipIdx_nil, a1, go_sem, ↓reduceIte, Nat.reduceEqDiff, Nat.reduceBEq, Nat.reduceAdd, Nat.reduceMul, Nat.reduceLeDiff, Nat.reduceSub, reduceCtorEq, Nat.reduceLT, Int.reduceBEq, Int.reduceBNe, Int.reduceEq, Int.reduceNe, Int.reduceLT, Int.reduceLE]
    exact got_c rfl
end Go.Proofs.Sp
