/- one (function 23), and the reference's One (26). -/
import Derived.Test.YtmmipinjkbkkmaaWsBas
set_option linter.unusedSimpArgs false
set_option linter.unusedVariables false
set_option linter.unusedSectionVars false
set_option linter.unnecessarySimpa false
namespace Go.Proofs.We
open Go.PM Go.Proofs

def E0 : Env := mkE (specAt []) []
set_option maxHeartbeats 1000000 in
theorem sound23 (s : S) : SoundAt Try.prog 46 [pS s] (pB (one s)) := by
  refine sound_fun (env_ok tT_ok (by simp) _ : EnvOk Try.prog (mkE (specAt []) [])) mixed Try.func46 (by kernel_rfl) rfl (by show 1 ≤ _; decide) (by kernel_rfl) ?_
  show wpC _ _ (Post.ret tT _ _) _
  simp -implicitDefEqProofs only [Try.f46, Try.results46, mkE_T, mkE_S, mkE_live, tT_3, tT_4, tT_22, tT_24, tT_26, tT_44, startS, pS, li, List.zipIdx_cons, List.zipIdx_nil, Nat.zero_add, Nat.reduceAdd, go_sem, ↓reduceIte, Nat.reduceEqDiff, Nat.reduceBEq, Nat.reduceAdd, Nat.reduceMul, Nat.reduceLeDiff, Nat.reduceSub, reduceCtorEq, Nat.reduceLT, Int.reduceBEq, Int.reduceBNe, Int.reduceEq, Int.reduceNe, Int.reduceLT, Int.reduceLE]
  refine opsG_intro _ _ _ _ _ _ (fun h1 => ?_) (fun h1 => ?_)
  · simp -implicitDefEqProofs only [mkE_T, mkE_S, mkE_live, tT_3, tT_4, tT_22, tT_24, tT_26, tT_44, go_sem, ↓reduceIte, Nat.reduceEqDiff, Nat.reduceBEq, Nat.reduceAdd, Nat.reduceMul, Nat.reduceLeDiff, Nat.reduceSub, reduceCtorEq, Nat.reduceLT, Int.reduceBEq, Int.reduceBNe, Int.reduceEq, Int.reduceNe, Int.reduceLT, Int.reduceLE]
    refine opsG_intro _ _ _ _ _ _ (fun h2 => ?_) (fun h2 => ?_)
    · simp -implicitDefEqProofs only [mkE_T, mkE_S, mkE_live, tT_3, tT_4, tT_22, tT_24, tT_26, tT_44, go_sem, ↓reduceIte, Nat.reduceEqDiff, Nat.reduceBEq, Nat.reduceAdd, Nat.reduceMul, Nat.reduceLeDiff, Nat.reduceSub, reduceCtorEq, Nat.reduceLT, Int.reduceBEq, Int.reduceBNe, Int.reduceEq, Int.reduceNe, Int.reduceLT, Int.reduceLE]
      exact got_c (by simp only [one, h1, h2, Bool.true_and])
    · simp -implicitDefEqProofs only [mkE_T, mkE_S, mkE_live, tT_3, tT_4, tT_22, tT_24, tT_26, tT_44, go_sem, ↓reduceIte, Nat.reduceEqDiff, Nat.reduceBEq, Nat.reduceAdd, Nat.reduceMul, Nat.reduceLeDiff, Nat.reduceSub, reduceCtorEq, Nat.reduceLT, Int.reduceBEq, Int.reduceBNe, Int.reduceEq, Int.reduceNe, Int.reduceLT, Int.reduceLE]
      exact got_c (by simp only [one, h1, h2]; rfl)
  · simp -implicitDefEqProofs only [mkE_T, mkE_S, mkE_live, tT_3, tT_4, tT_22, tT_24, tT_26, tT_44, go_sem, ↓reduceIte, Nat.reduceEqDiff, Nat.reduceBEq, Nat.reduceAdd, Nat.reduceMul, Nat.reduceLeDiff, Nat.reduceSub, reduceCtorEq, Nat.reduceLT, Int.reduceBEq, Int.reduceBNe, Int.reduceEq, Int.reduceNe, Int.reduceLT, Int.reduceLE]
    exact got_c (by simp only [one, h1]; rfl)
set_option maxHeartbeats 1000000 in
theorem sound26 (s : S) : SoundAt Try.prog 51 [pS s] (pB (one s)) := by
  refine sound_fun (env_ok tT_ok (by simp) _ : EnvOk Try.prog (mkE (specAt []) [])) mixed Try.func51 (by kernel_rfl) rfl (by show 1 ≤ _; decide) (by kernel_rfl) ?_
  show wpC _ _ (Post.ret tT _ _) _
  simp -implicitDefEqProofs only [Try.f51, Try.results51, mkE_T, mkE_S, mkE_live, tT_3, tT_4, tT_22, tT_24, tT_26, tT_44, startS, pS, li, List.zipIdx_cons, List.zipIdx_nil, Nat.zero_add, Nat.reduceAdd, go_sem, ↓reduceIte, Nat.reduceEqDiff, Nat.reduceBEq, Nat.reduceAdd, Nat.reduceMul, Nat.reduceLeDiff, Nat.reduceSub, reduceCtorEq, Nat.reduceLT, Int.reduceBEq, Int.reduceBNe, Int.reduceEq, Int.reduceNe, Int.reduceLT, Int.reduceLE]
  refine opsG_intro _ _ _ _ _ _ (fun h1 => ?_) (fun h1 => ?_)
  · simp -implicitDefEqProofs only [mkE_T, mkE_S, mkE_live, tT_3, tT_4, tT_22, tT_24, tT_26, tT_44, go_sem, ↓reduceIte, Nat.reduceEqDiff, Nat.reduceBEq, Nat.reduceAdd, Nat.reduceMul, Nat.reduceLeDiff, Nat.reduceSub, reduceCtorEq, Nat.reduceLT, Int.reduceBEq, Int.reduceBNe, Int.reduceEq, Int.reduceNe, Int.reduceLT, Int.reduceLE]
    refine opsG_intro _ _ _ _ _ _ (fun h2 => ?_) (fun h2 => ?_)
    · simp -implicitDefEqProofs only [mkE_T, mkE_S, mkE_live, tT_3, tT_4, tT_22, tT_24, tT_26, tT_44, go_sem, ↓reduceIte, Nat.reduceEqDiff, Nat.reduceBEq, Nat.reduceAdd, Nat.reduceMul, Nat.reduceLeDiff, Nat.reduceSub, reduceCtorEq, Nat.reduceLT, Int.reduceBEq, Int.reduceBNe, Int.reduceEq, Int.reduceNe, Int.reduceLT, Int.reduceLE]
      exact got_c (by have h2' : decide (s.f < s.u) = true := h2; simp only [one, h1, h2', Bool.true_and])
    · simp -implicitDefEqProofs only [mkE_T, mkE_S, mkE_live, tT_3, tT_4, tT_22, tT_24, tT_26, tT_44, go_sem, ↓reduceIte, Nat.reduceEqDiff, Nat.reduceBEq, Nat.reduceAdd, Nat.reduceMul, Nat.reduceLeDiff, Nat.reduceSub, reduceCtorEq, Nat.reduceLT, Int.reduceBEq, Int.reduceBNe, Int.reduceEq, Int.reduceNe, Int.reduceLT, Int.reduceLE]
      exact got_c (by have h2' : decide (s.f < s.u) = false := h2; simp only [one, h1, h2']; rfl)
  · simp -implicitDefEqProofs only [mkE_T, mkE_S, mkE_live, tT_3, tT_4, tT_22, tT_24, tT_26, tT_44, go_sem, ↓reduceIte, Nat.reduceEqDiff, Nat.reduceBEq, Nat.reduceAdd, Nat.reduceMul, Nat.reduceLeDiff, Nat.reduceSub, reduceCtorEq, Nat.reduceLT, Int.reduceBEq, Int.reduceBNe, Int.reduceEq, Int.reduceNe, Int.reduceLT, Int.reduceLE]
    exact got_c (by simp only [one, h1]; rfl)

noncomputable def spec23 : PM.Spec := specOf (fun s : S => [pS s]) (fun _ => True) (fun s => pB (one s))
theorem spec23_at (a b : Int) : spec23 [.agg [.c (.lit (.int .i64 a)), .c (.lit (.int .i64 b))]] = some (.c (.lit (.bool (one ⟨a, b⟩)))) :=
  specOf_at (arg := fun s : S => [pS s]) (pre := fun _ => True) (fun a b h => pS_inj (List.cons.inj h).1) (a := ⟨a, b⟩) trivial
noncomputable def F1 : List (FuncId × PM.Spec) := [(46, spec23), (51, spec23)]
theorem F1_23 (vs : List PV) : specAt F1 46 vs = spec23 vs := rfl
theorem F1_26 (vs : List PV) : specAt F1 51 vs = spec23 vs := rfl
theorem F1_ok : ∀ x ∈ F1, ∀ vs r, x.2 vs = some r → SoundAt Try.prog x.1 vs r := by
  intro x hx
  simp only [F1, List.mem_cons, List.not_mem_nil, or_false] at hx
  rcases hx with rfl | rfl
  · exact specOf_sound fun s _ => sound23 s
  · exact specOf_sound fun s _ => sound26 s

end Go.Proofs.We

/- May (function 15). -/
namespace Go.Proofs.We
open Go.PM Go.Proofs

def st15 (l : List S) (last : Int) (i : Nat) : St := ⟨[(0, .c (.ro 2 (l.map encS))), (2, .c (.lit (.bool false))), (3, .c (.lit (.int .i64 last))), (6, .c (.ro 2 (l.map encS))), (7, .c (.lit (.int .i64 l.length))), (8, .c (.lit (.int .i64 i)))], []⟩

set_option maxHeartbeats 2000000 in
theorem sound15 (l : List S) (hl : l.length ≤ 4611686018427387904) : SoundAt Try.prog 34 [pL l] (pB (may l)) := by
  refine sound_fun (env_ok tT_ok F1_ok _ : EnvOk Try.prog (mkE (specAt F1) [(2, ([0, 2, 3, 6, 7, 8], [], [])), (8, ([0, 2, 3, 6, 7, 8], [], []))])) mixed Try.func34 (by kernel_rfl) rfl (by show 1 ≤ _; decide) (by kernel_rfl) ?_
  show wpC _ _ (Post.ret tT _ _) _
  simp -implicitDefEqProofs only [Try.f34, Try.results34, mkE_T, mkE_S, mkE_live, tT_3, tT_4, tT_22, tT_24, tT_26, tT_44, startS, pL, li, List.zipIdx_cons, List.zipIdx_nil, Nat.zero_add, Nat.reduceAdd, go_sem, ↓reduceIte, Nat.reduceEqDiff, Nat.reduceBEq, Nat.reduceAdd, Nat.reduceMul, Nat.reduceLeDiff, Nat.reduceSub, reduceCtorEq, Nat.reduceLT, Int.reduceBEq, Int.reduceBNe, Int.reduceEq, Int.reduceNe, Int.reduceLT, Int.reduceLE]
  refine loop_intro (fun n s => ∃ last i, i + n = l.length ∧ may' (-1) l = may' last (l.drop i) ∧ s = st15 l last i) l.length ⟨-1, 0, ?_, ?_, ?_⟩ ?_
  · simp
  · simp
  · simp [st15]
  · rintro n s ⟨last, i, hi, hm, rfl⟩
    simp -implicitDefEqProofs only [st15, mkE_T, mkE_S, mkE_live, tT_3, tT_4, tT_22, tT_24, tT_26, tT_44, go_sem, ↓reduceIte, Nat.reduceEqDiff, Nat.reduceBEq, Nat.reduceAdd, Nat.reduceMul, Nat.reduceLeDiff, Nat.reduceSub, reduceCtorEq, Nat.reduceLT, Int.reduceBEq, Int.reduceBNe, Int.reduceEq, Int.reduceNe, Int.reduceLT, Int.reduceLE]
    refine cond_intro _ _ _ _ _ (fun hc => ?_) (fun hc => ?_)
    · have hlt : i < l.length := by simpa using hc
      have hx : (l.map encS)[i]? = some (encS l[i]) := by simp [hlt]
      have hdrop : l.drop i = l[i] :: l.drop (i + 1) := List.drop_eq_getElem_cons hlt
      have hw := wrap_nat (n := i) (by omega)
      generalize l[i] = x at hx hdrop
      simp -implicitDefEqProofs only [hx, Int.natCast_nonneg, Int.toNat_natCast, encS, li, mkE_T, mkE_S, mkE_live, tT_3, tT_4, tT_22, tT_24, tT_26, tT_44, F1_23, spec23_at, go_sem, ↓reduceIte, Nat.reduceEqDiff, Nat.reduceBEq, Nat.reduceAdd, Nat.reduceMul, Nat.reduceLeDiff, Nat.reduceSub, reduceCtorEq, Nat.reduceLT, Int.reduceBEq, Int.reduceBNe, Int.reduceEq, Int.reduceNe, Int.reduceLT, Int.reduceLE]
      refine opsG_intro _ _ _ _ _ _ (fun h1 => ?_) (fun h1 => ?_)
      · simp -implicitDefEqProofs only [mkE_T, mkE_S, mkE_live, tT_3, tT_4, tT_22, tT_24, tT_26, tT_44, go_sem, ↓reduceIte, Nat.reduceEqDiff, Nat.reduceBEq, Nat.reduceAdd, Nat.reduceMul, Nat.reduceLeDiff, Nat.reduceSub, reduceCtorEq, Nat.reduceLT, Int.reduceBEq, Int.reduceBNe, Int.reduceEq, Int.reduceNe, Int.reduceLT, Int.reduceLE]
        refine cond_intro _ _ _ _ _ (fun h2 => ?_) (fun h2 => ?_)
        · simp -implicitDefEqProofs only [mkE_T, mkE_S, mkE_live, tT_3, tT_4, tT_22, tT_24, tT_26, tT_44, go_sem, ↓reduceIte, Nat.reduceEqDiff, Nat.reduceBEq, Nat.reduceAdd, Nat.reduceMul, Nat.reduceLeDiff, Nat.reduceSub, reduceCtorEq, Nat.reduceLT, Int.reduceBEq, Int.reduceBNe, Int.reduceEq, Int.reduceNe, Int.reduceLT, Int.reduceLE]
          refine got_c ?_
          simp [may, hm, hdrop, may', h1, h2]
        · simp -implicitDefEqProofs only [mkE_T, mkE_S, mkE_live, tT_3, tT_4, tT_22, tT_24, tT_26, tT_44, hw, go_sem, ↓reduceIte, Nat.reduceEqDiff, Nat.reduceBEq, Nat.reduceAdd, Nat.reduceMul, Nat.reduceLeDiff, Nat.reduceSub, reduceCtorEq, Nat.reduceLT, Int.reduceBEq, Int.reduceBNe, Int.reduceEq, Int.reduceNe, Int.reduceLT, Int.reduceLE]
          refine ⟨n - 1, by omega, x.u, i + 1, by omega, ?_, rfl⟩
          have h1' : one x = true := by simpa using h1
          have h2' : decide (x.f ≤ last) = false := h2
          rw [hm, hdrop]
          simp only [may', h1', h2', Bool.true_and, Bool.not_false]
      · simp -implicitDefEqProofs only [mkE_T, mkE_S, mkE_live, tT_3, tT_4, tT_22, tT_24, tT_26, tT_44, go_sem, ↓reduceIte, Nat.reduceEqDiff, Nat.reduceBEq, Nat.reduceAdd, Nat.reduceMul, Nat.reduceLeDiff, Nat.reduceSub, reduceCtorEq, Nat.reduceLT, Int.reduceBEq, Int.reduceBNe, Int.reduceEq, Int.reduceNe, Int.reduceLT, Int.reduceLE]
        refine got_c ?_
        have h1' : one x = false := by simpa using h1
        simp [may, hm, hdrop, may', h1']
    · have hge : l.drop i = [] := List.drop_eq_nil_of_le (by simpa using hc)
      simp -implicitDefEqProofs only [mkE_T, mkE_S, mkE_live, tT_3, tT_4, tT_22, tT_24, tT_26, tT_44, go_sem, ↓reduceIte, Nat.reduceEqDiff, Nat.reduceBEq, Nat.reduceAdd, Nat.reduceMul, Nat.reduceLeDiff, Nat.reduceSub, reduceCtorEq, Nat.reduceLT, Int.reduceBEq, Int.reduceBNe, Int.reduceEq, Int.reduceNe, Int.reduceLT, Int.reduceLE]
      refine got_c ?_
      simp [may, hm, hge, may']
      omega
noncomputable def spec15 : PM.Spec := specOf (fun l : List S => [pL l]) (fun l => l.length ≤ 4611686018427387904) (fun l => pB (may l))
theorem spec15_at {l : List S} (h : l.length ≤ 4611686018427387904) : spec15 [.c (.ro 2 (l.map encS))] = some (.c (.lit (.bool (may l)))) :=
  specOf_at (arg := fun l : List S => [pL l]) (fun a b h => pL_inj (List.cons.inj h).1) (a := l) h
theorem spec15_ok : ∀ vs r, spec15 vs = some r → SoundAt Try.prog 34 vs r := specOf_sound fun l h => sound15 l h

end Go.Proofs.We

/- Gap (function 13), Size (19). -/
namespace Go.Proofs.We
open Go.PM Go.Proofs

noncomputable def F2 : List (FuncId × PM.Spec) := (34, spec15) :: F1
theorem F2_15 (vs : List PV) : specAt F2 34 vs = spec15 vs := rfl
theorem F2_23 (vs : List PV) : specAt F2 46 vs = spec23 vs := rfl
theorem F2_26 (vs : List PV) : specAt F2 51 vs = spec23 vs := rfl
theorem F2_ok : ∀ x ∈ F2, ∀ vs r, x.2 vs = some r → SoundAt Try.prog x.1 vs r := by
  intro x hx
  rcases List.mem_cons.1 hx with rfl | hx
  · exact spec15_ok
  · exact F1_ok x hx

def gap' : Int → List S → Int
  | n, [] => n
  | n, s :: r => gap' (if s.f ≤ n ∧ n < s.u then s.u else n) r
def gap (l : List S) (n : Int) : Int := if may l = true then gap' (if 0 > n then 0 else n) l else 0
def st13 (l : List S) (n : Int) (i : Nat) : St := ⟨[(0, .c (.ro 2 (l.map encS))), (1, .c (.lit (.int .i64 n))), (12, .c (.ro 2 (l.map encS))), (13, .c (.lit (.int .i64 l.length))), (14, .c (.lit (.int .i64 i)))], []⟩

set_option maxHeartbeats 2000000 in
theorem sound13 (l : List S) (m : Int) (hl : l.length ≤ 4611686018427387904) : SoundAt Try.prog 36 [pL l, pI m] (pI (gap l m)) := by
  refine sound_fun (env_ok tT_ok F2_ok _ : EnvOk Try.prog (mkE (specAt F2) [(4, ([0, 1, 12, 13, 14], [], [])), (9, ([0, 1, 12, 13, 14], [], []))])) mixed Try.func36 (by kernel_rfl) rfl (by show 2 ≤ _; decide) (by kernel_rfl) ?_
  show wpC _ _ (Post.ret tT _ _) _
  have h15 := spec15_at hl
  simp -implicitDefEqProofs only [Try.f36, Try.results36, mkE_T, mkE_S, mkE_live, tT_3, tT_4, tT_22, tT_24, tT_26, tT_44, startS, pL, pI, li, F2_15, h15, List.zipIdx_cons, List.zipIdx_nil, Nat.zero_add, Nat.reduceAdd, go_sem, ↓reduceIte, Nat.reduceEqDiff, Nat.reduceBEq, Nat.reduceAdd, Nat.reduceMul, Nat.reduceLeDiff, Nat.reduceSub, reduceCtorEq, Nat.reduceLT, Int.reduceBEq, Int.reduceBNe, Int.reduceEq, Int.reduceNe, Int.reduceLT, Int.reduceLE]
  refine cond_intro _ _ _ _ _ (fun hm => ?_) (fun hm => ?_)
  · simp -implicitDefEqProofs only [mkE_T, mkE_S, mkE_live, tT_3, tT_4, tT_22, tT_24, tT_26, tT_44, go_sem, ↓reduceIte, Nat.reduceEqDiff, Nat.reduceBEq, Nat.reduceAdd, Nat.reduceMul, Nat.reduceLeDiff, Nat.reduceSub, reduceCtorEq, Nat.reduceLT, Int.reduceBEq, Int.reduceBNe, Int.reduceEq, Int.reduceNe, Int.reduceLT, Int.reduceLE]
    refine got_c ?_
    have hm' : may l = false := by simpa using hm
    simp [gap, hm']
  · have hm' : may l = true := by simpa using hm
    simp -implicitDefEqProofs only [mkE_T, mkE_S, mkE_live, tT_3, tT_4, tT_22, tT_24, tT_26, tT_44, go_sem, ↓reduceIte, Nat.reduceEqDiff, Nat.reduceBEq, Nat.reduceAdd, Nat.reduceMul, Nat.reduceLeDiff, Nat.reduceSub, reduceCtorEq, Nat.reduceLT, Int.reduceBEq, Int.reduceBNe, Int.reduceEq, Int.reduceNe, Int.reduceLT, Int.reduceLE]
    refine loop_intro (fun n s => ∃ from' i, i + n = l.length ∧ gap l m = gap' from' (l.drop i) ∧ s = st13 l from' i) l.length ⟨if 0 > m then 0 else m, 0, ?_, ?_, ?_⟩ ?_
    · simp
    · simp [gap, hm']
    · simp [st13]
    · rintro n s ⟨k, i, hi, hm, rfl⟩
      simp -implicitDefEqProofs only [st13, mkE_T, mkE_S, mkE_live, tT_3, tT_4, tT_22, tT_24, tT_26, tT_44, go_sem, ↓reduceIte, Nat.reduceEqDiff, Nat.reduceBEq, Nat.reduceAdd, Nat.reduceMul, Nat.reduceLeDiff, Nat.reduceSub, reduceCtorEq, Nat.reduceLT, Int.reduceBEq, Int.reduceBNe, Int.reduceEq, Int.reduceNe, Int.reduceLT, Int.reduceLE]
      refine cond_intro _ _ _ _ _ (fun hc => ?_) (fun hc => ?_)
      · have hlt : i < l.length := by simpa using hc
        have hx : (l.map encS)[i]? = some (encS l[i]) := by simp [hlt]
        have hdrop : l.drop i = l[i] :: l.drop (i + 1) := List.drop_eq_getElem_cons hlt
        have hw := wrap_nat (n := i) (by omega)
        generalize l[i] = x at hx hdrop
        simp -implicitDefEqProofs only [hx, Int.natCast_nonneg, Int.toNat_natCast, encS, li, mkE_T, mkE_S, mkE_live, tT_3, tT_4, tT_22, tT_24, tT_26, tT_44, go_sem, ↓reduceIte, Nat.reduceEqDiff, Nat.reduceBEq, Nat.reduceAdd, Nat.reduceMul, Nat.reduceLeDiff, Nat.reduceSub, reduceCtorEq, Nat.reduceLT, Int.reduceBEq, Int.reduceBNe, Int.reduceEq, Int.reduceNe, Int.reduceLT, Int.reduceLE]
        refine opsG_intro _ _ _ _ _ _ (fun h1 => ?_) (fun h1 => ?_)
        · simp -implicitDefEqProofs only [mkE_T, mkE_S, mkE_live, tT_3, tT_4, tT_22, tT_24, tT_26, tT_44, go_sem, ↓reduceIte, Nat.reduceEqDiff, Nat.reduceBEq, Nat.reduceAdd, Nat.reduceMul, Nat.reduceLeDiff, Nat.reduceSub, reduceCtorEq, Nat.reduceLT, Int.reduceBEq, Int.reduceBNe, Int.reduceEq, Int.reduceNe, Int.reduceLT, Int.reduceLE]
          refine cond_intro _ _ _ _ _ (fun h2 => ?_) (fun h2 => ?_)
          · simp -implicitDefEqProofs only [mkE_T, mkE_S, mkE_live, tT_3, tT_4, tT_22, tT_24, tT_26, tT_44, hw, go_sem, ↓reduceIte, Nat.reduceEqDiff, Nat.reduceBEq, Nat.reduceAdd, Nat.reduceMul, Nat.reduceLeDiff, Nat.reduceSub, reduceCtorEq, Nat.reduceLT, Int.reduceBEq, Int.reduceBNe, Int.reduceEq, Int.reduceNe, Int.reduceLT, Int.reduceLE]
            refine ⟨n - 1, by omega, x.u, i + 1, by omega, ?_, rfl⟩
            have h1' : x.f ≤ k := by simpa using h1
            have h2' : k < x.u := by simpa using h2
            rw [hm, hdrop, gap', if_pos ⟨h1', h2'⟩]
          · simp -implicitDefEqProofs only [mkE_T, mkE_S, mkE_live, tT_3, tT_4, tT_22, tT_24, tT_26, tT_44, hw, go_sem, ↓reduceIte, Nat.reduceEqDiff, Nat.reduceBEq, Nat.reduceAdd, Nat.reduceMul, Nat.reduceLeDiff, Nat.reduceSub, reduceCtorEq, Nat.reduceLT, Int.reduceBEq, Int.reduceBNe, Int.reduceEq, Int.reduceNe, Int.reduceLT, Int.reduceLE]
            refine ⟨n - 1, by omega, k, i + 1, by omega, ?_, rfl⟩
            have h2' : ¬ k < x.u := by simpa using h2
            rw [hm, hdrop, gap', if_neg (fun h => h2' h.2)]
        · simp -implicitDefEqProofs only [mkE_T, mkE_S, mkE_live, tT_3, tT_4, tT_22, tT_24, tT_26, tT_44, hw, go_sem, ↓reduceIte, Nat.reduceEqDiff, Nat.reduceBEq, Nat.reduceAdd, Nat.reduceMul, Nat.reduceLeDiff, Nat.reduceSub, reduceCtorEq, Nat.reduceLT, Int.reduceBEq, Int.reduceBNe, Int.reduceEq, Int.reduceNe, Int.reduceLT, Int.reduceLE]
          refine ⟨n - 1, by omega, k, i + 1, by omega, ?_, rfl⟩
          have h1' : ¬ x.f ≤ k := by simpa using h1
          rw [hm, hdrop, gap', if_neg (fun h => h1' h.1)]
      · have hge : l.drop i = [] := List.drop_eq_nil_of_le (by simpa using hc)
        simp -implicitDefEqProofs only [mkE_T, mkE_S, mkE_live, tT_3, tT_4, tT_22, tT_24, tT_26, tT_44, go_sem, ↓reduceIte, Nat.reduceEqDiff, Nat.reduceBEq, Nat.reduceAdd, Nat.reduceMul, Nat.reduceLeDiff, Nat.reduceSub, reduceCtorEq, Nat.reduceLT, Int.reduceBEq, Int.reduceBNe, Int.reduceEq, Int.reduceNe, Int.reduceLT, Int.reduceLE]
        refine got_c ?_
        rw [hm, hge, gap']

end Go.Proofs.We

/- Size (19), Has (14). -/
namespace Go.Proofs.We
open Go.PM Go.Proofs

def w64 (n : Int) : Int := IntKind.i64.wrap n
def size' : Int → List S → Int
  | n, [] => n
  | n, s :: r => size' (w64 (n + w64 (s.u - s.f))) r
def size (l : List S) : Int := if may l = true then size' 0 l else 0
def st19 (l : List S) (n : Int) (i : Nat) : St := ⟨[(0, .c (.ro 2 (l.map encS))), (3, .c (.lit (.int .i64 n))), (9, .c (.ro 2 (l.map encS))), (10, .c (.lit (.int .i64 l.length))), (11, .c (.lit (.int .i64 i)))], []⟩

set_option maxHeartbeats 2000000 in
theorem sound19 (l : List S) (hl : l.length ≤ 4611686018427387904) : SoundAt Try.prog 32 [pL l] (pI (size l)) := by
  refine sound_fun (env_ok tT_ok F2_ok _ : EnvOk Try.prog (mkE (specAt F2) [(4, ([0, 3, 9, 10, 11], [], [])), (8, ([0, 3, 9, 10, 11], [], []))])) mixed Try.func32 (by kernel_rfl) rfl (by show 1 ≤ _; decide) (by kernel_rfl) ?_
  show wpC _ _ (Post.ret tT _ _) _
  have h15 := spec15_at hl
  simp -implicitDefEqProofs only [Try.f32, Try.results32, mkE_T, mkE_S, mkE_live, tT_3, tT_4, tT_22, tT_24, tT_26, tT_44, startS, pL, pI, li, F2_15, h15, List.zipIdx_cons, List.zipIdx_nil, Nat.zero_add, Nat.reduceAdd, go_sem, ↓reduceIte, Nat.reduceEqDiff, Nat.reduceBEq, Nat.reduceAdd, Nat.reduceMul, Nat.reduceLeDiff, Nat.reduceSub, reduceCtorEq, Nat.reduceLT, Int.reduceBEq, Int.reduceBNe, Int.reduceEq, Int.reduceNe, Int.reduceLT, Int.reduceLE]
  refine cond_intro _ _ _ _ _ (fun hm => ?_) (fun hm => ?_)
  · simp -implicitDefEqProofs only [mkE_T, mkE_S, mkE_live, tT_3, tT_4, tT_22, tT_24, tT_26, tT_44, go_sem, ↓reduceIte, Nat.reduceEqDiff, Nat.reduceBEq, Nat.reduceAdd, Nat.reduceMul, Nat.reduceLeDiff, Nat.reduceSub, reduceCtorEq, Nat.reduceLT, Int.reduceBEq, Int.reduceBNe, Int.reduceEq, Int.reduceNe, Int.reduceLT, Int.reduceLE]
    refine got_c ?_
    have hm' : may l = false := by simpa using hm
    simp [size, hm']
  · have hm' : may l = true := by simpa using hm
    simp -implicitDefEqProofs only [mkE_T, mkE_S, mkE_live, tT_3, tT_4, tT_22, tT_24, tT_26, tT_44, go_sem, ↓reduceIte, Nat.reduceEqDiff, Nat.reduceBEq, Nat.reduceAdd, Nat.reduceMul, Nat.reduceLeDiff, Nat.reduceSub, reduceCtorEq, Nat.reduceLT, Int.reduceBEq, Int.reduceBNe, Int.reduceEq, Int.reduceNe, Int.reduceLT, Int.reduceLE]
    refine loop_intro (fun n s => ∃ k i, i + n = l.length ∧ size l = size' k (l.drop i) ∧ s = st19 l k i) l.length ⟨0, 0, ?_, ?_, ?_⟩ ?_
    · simp
    · simp [size, hm']
    · simp [st19]
    · rintro n s ⟨k, i, hi, hm, rfl⟩
      simp -implicitDefEqProofs only [st19, mkE_T, mkE_S, mkE_live, tT_3, tT_4, tT_22, tT_24, tT_26, tT_44, go_sem, ↓reduceIte, Nat.reduceEqDiff, Nat.reduceBEq, Nat.reduceAdd, Nat.reduceMul, Nat.reduceLeDiff, Nat.reduceSub, reduceCtorEq, Nat.reduceLT, Int.reduceBEq, Int.reduceBNe, Int.reduceEq, Int.reduceNe, Int.reduceLT, Int.reduceLE]
      refine cond_intro _ _ _ _ _ (fun hc => ?_) (fun hc => ?_)
      · have hlt : i < l.length := by simpa using hc
        have hx : (l.map encS)[i]? = some (encS l[i]) := by simp [hlt]
        have hdrop : l.drop i = l[i] :: l.drop (i + 1) := List.drop_eq_getElem_cons hlt
        have hw := wrap_nat (n := i) (by omega)
        generalize l[i] = x at hx hdrop
        simp -implicitDefEqProofs only [hx, Int.natCast_nonneg, Int.toNat_natCast, encS, li, mkE_T, mkE_S, mkE_live, tT_3, tT_4, tT_22, tT_24, tT_26, tT_44, hw, go_sem, ↓reduceIte, Nat.reduceEqDiff, Nat.reduceBEq, Nat.reduceAdd, Nat.reduceMul, Nat.reduceLeDiff, Nat.reduceSub, reduceCtorEq, Nat.reduceLT, Int.reduceBEq, Int.reduceBNe, Int.reduceEq, Int.reduceNe, Int.reduceLT, Int.reduceLE]
        refine ⟨n - 1, by omega, w64 (k + w64 (x.u - x.f)), i + 1, by omega, ?_, rfl⟩
        rw [hm, hdrop, size']
      · have hge : l.drop i = [] := List.drop_eq_nil_of_le (by simpa using hc)
        simp -implicitDefEqProofs only [mkE_T, mkE_S, mkE_live, tT_3, tT_4, tT_22, tT_24, tT_26, tT_44, go_sem, ↓reduceIte, Nat.reduceEqDiff, Nat.reduceBEq, Nat.reduceAdd, Nat.reduceMul, Nat.reduceLeDiff, Nat.reduceSub, reduceCtorEq, Nat.reduceLT, Int.reduceBEq, Int.reduceBNe, Int.reduceEq, Int.reduceNe, Int.reduceLT, Int.reduceLE]
        refine got_c ?_
        rw [hm, hge, size']

end Go.Proofs.We

/- Has (14). -/
namespace Go.Proofs.We
open Go.PM Go.Proofs

noncomputable def spec13 : PM.Spec := specOf (fun x : List S × Int => [pL x.1, pI x.2]) (fun x => x.1.length ≤ 4611686018427387904) (fun x => pI (gap x.1 x.2))
theorem spec13_at {l : List S} (h : l.length ≤ 4611686018427387904) (n : Int) : spec13 [.c (.ro 2 (l.map encS)), .c (.lit (.int .i64 n))] = some (.c (.lit (.int .i64 (gap l n)))) :=
  specOf_at (arg := fun x : List S × Int => [pL x.1, pI x.2]) (fun a b h => Prod.ext (pL_inj (List.cons.inj h).1) (pI_inj (List.cons.inj (List.cons.inj h).2).1)) (a := (l, n)) h
noncomputable def F3 : List (FuncId × PM.Spec) := (36, spec13) :: F2
theorem F3_13 (vs : List PV) : specAt F3 36 vs = spec13 vs := rfl
theorem F3_15 (vs : List PV) : specAt F3 34 vs = spec15 vs := rfl
theorem F3_23 (vs : List PV) : specAt F3 46 vs = spec23 vs := rfl
theorem F3_ok : ∀ x ∈ F3, ∀ vs r, x.2 vs = some r → SoundAt Try.prog x.1 vs r := by
  intro x hx
  rcases List.mem_cons.1 hx with rfl | hx
  · exact specOf_sound fun (x : List S × Int) h => sound13 x.1 x.2 h
  · exact F2_ok x hx

def has (l : List S) (s : S) : Bool := may l && (one s && decide (gap l s.f ≥ s.u))

end Go.Proofs.We

/- The reference's May (22). -/
namespace Go.Proofs.We
open Go.PM Go.Proofs

def st22 (l : List S) (i : Nat) : St := ⟨[(0, .c (.ro 2 (l.map encS))), (3, .c (.lit (.int .i64 i)))], []⟩
def lastU (l : List S) (i : Nat) : Int := if i = 0 then -1 else ((l[i - 1]?).map S.u).getD 0
theorem wrap_pred {n : Nat} (h : n ≤ 4611686018427387904) (h0 : 0 < n) : IntKind.i64.wrap ((n : Int) - 1) = ((n - 1 : Nat) : Int) := by
  rw [IntKind.wrap_i64]; omega

set_option maxHeartbeats 4000000 in
theorem sound22 (l : List S) (hl : l.length ≤ 4611686018427387904) : SoundAt Try.prog 43 [pL l] (pB (may l)) := by
  refine sound_fun (env_ok tT_ok F3_ok _ : EnvOk Try.prog (mkE (specAt F3) [(1, ([0, 3], [], [])), (3, ([0, 3], [], []))])) mixed Try.func43 (by kernel_rfl) rfl (by show 1 ≤ _; decide) (by kernel_rfl) ?_
  show wpC _ _ (Post.ret tT _ _) _
  have F3_26 : ∀ vs : List PV, specAt F3 51 vs = spec23 vs := fun _ => rfl
  simp -implicitDefEqProofs only [Try.f43, Try.results43, mkE_T, mkE_S, mkE_live, tT_3, tT_4, tT_22, tT_24, tT_26, tT_44, startS, pL, li, List.zipIdx_cons, List.zipIdx_nil, Nat.zero_add, Nat.reduceAdd, go_sem, ↓reduceIte, Nat.reduceEqDiff, Nat.reduceBEq, Nat.reduceAdd, Nat.reduceMul, Nat.reduceLeDiff, Nat.reduceSub, reduceCtorEq, Nat.reduceLT, Int.reduceBEq, Int.reduceBNe, Int.reduceEq, Int.reduceNe, Int.reduceLT, Int.reduceLE]
  refine loop_intro (fun n s => ∃ i, i + n = l.length ∧ may' (-1) l = may' (lastU l i) (l.drop i) ∧ s = st22 l i) l.length ⟨0, ?_, ?_, ?_⟩ ?_
  · simp
  · simp [lastU]
  · simp [st22]
  · rintro n s ⟨i, hi, hm, rfl⟩
    simp -implicitDefEqProofs only [st22, mkE_T, mkE_S, mkE_live, tT_3, tT_4, tT_22, tT_24, tT_26, tT_44, go_sem, ↓reduceIte, Nat.reduceEqDiff, Nat.reduceBEq, Nat.reduceAdd, Nat.reduceMul, Nat.reduceLeDiff, Nat.reduceSub, reduceCtorEq, Nat.reduceLT, Int.reduceBEq, Int.reduceBNe, Int.reduceEq, Int.reduceNe, Int.reduceLT, Int.reduceLE]
    refine cond_intro _ _ _ _ _ (fun hc => ?_) (fun hc => ?_)
    · have hlt : i < l.length := by simpa using hc
      have hx : (l.map encS)[i]? = some (encS l[i]) := by simp [hlt]
      have hdrop : l.drop i = l[i] :: l.drop (i + 1) := List.drop_eq_getElem_cons hlt
      have hlast : lastU l (i + 1) = (l[i]).u := by simp [lastU, hlt]
      have hw := wrap_nat (n := i) (by omega)
      generalize l[i] = x at hx hdrop hlast
      simp -implicitDefEqProofs only [hx, Int.natCast_nonneg, Int.toNat_natCast, encS, li, mkE_T, mkE_S, mkE_live, tT_3, tT_4, tT_22, tT_24, tT_26, tT_44, F3_26, spec23_at, go_sem, ↓reduceIte, Nat.reduceEqDiff, Nat.reduceBEq, Nat.reduceAdd, Nat.reduceMul, Nat.reduceLeDiff, Nat.reduceSub, reduceCtorEq, Nat.reduceLT, Int.reduceBEq, Int.reduceBNe, Int.reduceEq, Int.reduceNe, Int.reduceLT, Int.reduceLE]
      refine opsG_intro _ _ _ _ _ _ (fun h1 => ?_) (fun h1 => ?_)
      · have h1' : one x = true := by simpa using h1
        simp -implicitDefEqProofs only [mkE_T, mkE_S, mkE_live, tT_3, tT_4, tT_22, tT_24, tT_26, tT_44, go_sem, ↓reduceIte, Nat.reduceEqDiff, Nat.reduceBEq, Nat.reduceAdd, Nat.reduceMul, Nat.reduceLeDiff, Nat.reduceSub, reduceCtorEq, Nat.reduceLT, Int.reduceBEq, Int.reduceBNe, Int.reduceEq, Int.reduceNe, Int.reduceLT, Int.reduceLE]
        refine opsG_intro _ _ _ _ _ _ (fun h2 => ?_) (fun h2 => ?_)
        · have h0 : 0 < i := by simpa using h2
          have hy : (l.map encS)[i - 1]? = some (encS (l[i - 1]'(by omega))) := by simp [show i - 1 < l.length by omega]
          have hly : lastU l i = (l[i - 1]'(by omega)).u := by
            simp [lastU, show i ≠ 0 by omega, show i - 1 < l.length by omega]
          generalize (l[i - 1]'(by omega)) = y at hy hly
          have hw2 := wrap_pred (n := i) (by omega) h0
          simp -implicitDefEqProofs only [hx, hy, hw2, Int.natCast_nonneg, Int.toNat_natCast, encS, li, mkE_T, mkE_S, mkE_live, tT_3, tT_4, tT_22, tT_24, tT_26, tT_44, go_sem, ↓reduceIte, Nat.reduceEqDiff, Nat.reduceBEq, Nat.reduceAdd, Nat.reduceMul, Nat.reduceLeDiff, Nat.reduceSub, reduceCtorEq, Nat.reduceLT, Int.reduceBEq, Int.reduceBNe, Int.reduceEq, Int.reduceNe, Int.reduceLT, Int.reduceLE]
          refine ⟨by rfl, ?_⟩
          refine cond_intro _ _ _ _ _ (fun h3 => ?_) (fun h3 => ?_)
          · simp -implicitDefEqProofs only [mkE_T, mkE_S, mkE_live, tT_3, tT_4, tT_22, tT_24, tT_26, tT_44, go_sem, ↓reduceIte, Nat.reduceEqDiff, Nat.reduceBEq, Nat.reduceAdd, Nat.reduceMul, Nat.reduceLeDiff, Nat.reduceSub, reduceCtorEq, Nat.reduceLT, Int.reduceBEq, Int.reduceBNe, Int.reduceEq, Int.reduceNe, Int.reduceLT, Int.reduceLE]
            refine got_c ?_
            simp [may, hm, hdrop, may', hly, h3]
          · simp -implicitDefEqProofs only [mkE_T, mkE_S, mkE_live, tT_3, tT_4, tT_22, tT_24, tT_26, tT_44, hw, go_sem, ↓reduceIte, Nat.reduceEqDiff, Nat.reduceBEq, Nat.reduceAdd, Nat.reduceMul, Nat.reduceLeDiff, Nat.reduceSub, reduceCtorEq, Nat.reduceLT, Int.reduceBEq, Int.reduceBNe, Int.reduceEq, Int.reduceNe, Int.reduceLT, Int.reduceLE]
            refine ⟨n - 1, by omega, i + 1, by omega, ?_, rfl⟩
            rw [hm, hdrop, hlast]
            have h3' : decide (x.f ≤ lastU l i) = false := by rw [hly]; exact h3
            simp only [may', h1', h3', Bool.true_and, Bool.not_false]
        · have h0 : i = 0 := by simpa using h2
          simp -implicitDefEqProofs only [mkE_T, mkE_S, mkE_live, tT_3, tT_4, tT_22, tT_24, tT_26, tT_44, hw, go_sem, ↓reduceIte, Nat.reduceEqDiff, Nat.reduceBEq, Nat.reduceAdd, Nat.reduceMul, Nat.reduceLeDiff, Nat.reduceSub, reduceCtorEq, Nat.reduceLT, Int.reduceBEq, Int.reduceBNe, Int.reduceEq, Int.reduceNe, Int.reduceLT, Int.reduceLE]
          refine ⟨by rfl, ?_⟩
          refine ⟨n - 1, by omega, i + 1, by omega, ?_, rfl⟩
          rw [hm, hdrop, hlast]
          have h3' : decide (x.f ≤ lastU l i) = false := by
            have : x.f ≥ 0 := by
              simp only [one, Bool.and_eq_true, decide_eq_true_eq] at h1'
              exact h1'.1
            simp [lastU, h0]; omega
          simp only [may', h1', h3', Bool.true_and, Bool.not_false]
      · have h1' : one x = false := by simpa using h1
        simp -implicitDefEqProofs only [mkE_T, mkE_S, mkE_live, tT_3, tT_4, tT_22, tT_24, tT_26, tT_44, go_sem, ↓reduceIte, Nat.reduceEqDiff, Nat.reduceBEq, Nat.reduceAdd, Nat.reduceMul, Nat.reduceLeDiff, Nat.reduceSub, reduceCtorEq, Nat.reduceLT, Int.reduceBEq, Int.reduceBNe, Int.reduceEq, Int.reduceNe, Int.reduceLT, Int.reduceLE]
        refine ⟨by rfl, ?_⟩
        refine got_c ?_
        simp [may, hm, hdrop, may', h1']
    · have hge : l.drop i = [] := List.drop_eq_nil_of_le (by simpa using hc)
      simp -implicitDefEqProofs only [mkE_T, mkE_S, mkE_live, tT_3, tT_4, tT_22, tT_24, tT_26, tT_44, go_sem, ↓reduceIte, Nat.reduceEqDiff, Nat.reduceBEq, Nat.reduceAdd, Nat.reduceMul, Nat.reduceLeDiff, Nat.reduceSub, reduceCtorEq, Nat.reduceLT, Int.reduceBEq, Int.reduceBNe, Int.reduceEq, Int.reduceNe, Int.reduceLT, Int.reduceLE]
      refine got_c ?_
      simp [may, hm, hge, may']
      omega

end Go.Proofs.We

/- The reference's In (30), Same (12). -/
namespace Go.Proofs.We
open Go.PM Go.Proofs

def inn (l : List S) (k : Int) : Bool := l.any fun s => decide (s.f ≤ k) && decide (k < s.u)
def st30 (l : List S) (k : Int) (i : Nat) : St := ⟨[(0, .c (.ro 2 (l.map encS))), (1, .c (.lit (.int .i64 k))), (5, .c (.lit (.int .i64 i)))], []⟩
set_option maxHeartbeats 4000000 in
theorem sound30 (l : List S) (k : Int) (hl : l.length ≤ 4611686018427387904) : SoundAt Try.prog 40 [pL l, pI k] (pB (inn l k)) := by
  refine sound_fun (env_ok tT_ok F3_ok _ : EnvOk Try.prog (mkE (specAt F3) [(1, ([0, 1, 5], [], [])), (3, ([0, 1, 5], [], []))])) mixed Try.func40 (by kernel_rfl) rfl (by show 2 ≤ _; decide) (by kernel_rfl) ?_
  show wpC _ _ (Post.ret tT _ _) _
  simp -implicitDefEqProofs only [Try.f40, Try.results40, mkE_T, mkE_S, mkE_live, tT_3, tT_4, tT_22, tT_24, tT_26, tT_44, startS, pL, pI, li, List.zipIdx_cons, List.zipIdx_nil, Nat.zero_add, Nat.reduceAdd, go_sem, ↓reduceIte, Nat.reduceEqDiff, Nat.reduceBEq, Nat.reduceAdd, Nat.reduceMul, Nat.reduceLeDiff, Nat.reduceSub, reduceCtorEq, Nat.reduceLT, Int.reduceBEq, Int.reduceBNe, Int.reduceEq, Int.reduceNe, Int.reduceLT, Int.reduceLE]
  refine loop_intro (fun n s => ∃ i, i + n = l.length ∧ inn l k = inn (l.drop i) k ∧ s = st30 l k i) l.length ⟨0, ?_, ?_, ?_⟩ ?_
  · simp
  · simp
  · simp [st30]
  · rintro n s ⟨i, hi, hm, rfl⟩
    simp -implicitDefEqProofs only [st30, mkE_T, mkE_S, mkE_live, tT_3, tT_4, tT_22, tT_24, tT_26, tT_44, go_sem, ↓reduceIte, Nat.reduceEqDiff, Nat.reduceBEq, Nat.reduceAdd, Nat.reduceMul, Nat.reduceLeDiff, Nat.reduceSub, reduceCtorEq, Nat.reduceLT, Int.reduceBEq, Int.reduceBNe, Int.reduceEq, Int.reduceNe, Int.reduceLT, Int.reduceLE]
    refine cond_intro _ _ _ _ _ (fun hc => ?_) (fun hc => ?_)
    · have hlt : i < l.length := by simpa using hc
      have hx : (l.map encS)[i]? = some (encS l[i]) := by simp [hlt]
      have hdrop : l.drop i = l[i] :: l.drop (i + 1) := List.drop_eq_getElem_cons hlt
      have hw := wrap_nat (n := i) (by omega)
      generalize l[i] = x at hx hdrop
      simp -implicitDefEqProofs only [hx, Int.natCast_nonneg, Int.toNat_natCast, encS, li, mkE_T, mkE_S, mkE_live, tT_3, tT_4, tT_22, tT_24, tT_26, tT_44, go_sem, ↓reduceIte, Nat.reduceEqDiff, Nat.reduceBEq, Nat.reduceAdd, Nat.reduceMul, Nat.reduceLeDiff, Nat.reduceSub, reduceCtorEq, Nat.reduceLT, Int.reduceBEq, Int.reduceBNe, Int.reduceEq, Int.reduceNe, Int.reduceLT, Int.reduceLE]
      refine opsG_intro _ _ _ _ _ _ (fun h1 => ?_) (fun h1 => ?_)
      · simp -implicitDefEqProofs only [hx, Int.natCast_nonneg, Int.toNat_natCast, encS, li, mkE_T, mkE_S, mkE_live, tT_3, tT_4, tT_22, tT_24, tT_26, tT_44, go_sem, ↓reduceIte, Nat.reduceEqDiff, Nat.reduceBEq, Nat.reduceAdd, Nat.reduceMul, Nat.reduceLeDiff, Nat.reduceSub, reduceCtorEq, Nat.reduceLT, Int.reduceBEq, Int.reduceBNe, Int.reduceEq, Int.reduceNe, Int.reduceLT, Int.reduceLE]
        refine cond_intro _ _ _ _ _ (fun h2 => ?_) (fun h2 => ?_)
        · simp -implicitDefEqProofs only [mkE_T, mkE_S, mkE_live, tT_3, tT_4, tT_22, tT_24, tT_26, tT_44, go_sem, ↓reduceIte, Nat.reduceEqDiff, Nat.reduceBEq, Nat.reduceAdd, Nat.reduceMul, Nat.reduceLeDiff, Nat.reduceSub, reduceCtorEq, Nat.reduceLT, Int.reduceBEq, Int.reduceBNe, Int.reduceEq, Int.reduceNe, Int.reduceLT, Int.reduceLE]
          refine got_c ?_
          rw [hm, hdrop]
          simp [inn, h1, h2]
        · simp -implicitDefEqProofs only [mkE_T, mkE_S, mkE_live, tT_3, tT_4, tT_22, tT_24, tT_26, tT_44, hw, go_sem, ↓reduceIte, Nat.reduceEqDiff, Nat.reduceBEq, Nat.reduceAdd, Nat.reduceMul, Nat.reduceLeDiff, Nat.reduceSub, reduceCtorEq, Nat.reduceLT, Int.reduceBEq, Int.reduceBNe, Int.reduceEq, Int.reduceNe, Int.reduceLT, Int.reduceLE]
          refine ⟨n - 1, by omega, i + 1, by omega, ?_, rfl⟩
          rw [hm, hdrop]
          simp [inn, h2]
      · simp -implicitDefEqProofs only [mkE_T, mkE_S, mkE_live, tT_3, tT_4, tT_22, tT_24, tT_26, tT_44, hw, go_sem, ↓reduceIte, Nat.reduceEqDiff, Nat.reduceBEq, Nat.reduceAdd, Nat.reduceMul, Nat.reduceLeDiff, Nat.reduceSub, reduceCtorEq, Nat.reduceLT, Int.reduceBEq, Int.reduceBNe, Int.reduceEq, Int.reduceNe, Int.reduceLT, Int.reduceLE]
        refine ⟨n - 1, by omega, i + 1, by omega, ?_, rfl⟩
        rw [hm, hdrop]
        have h1' : decide (x.f ≤ k) = false := h1
        simp [inn, h1']
    · have hge : l.drop i = [] := List.drop_eq_nil_of_le (by simpa using hc)
      simp -implicitDefEqProofs only [mkE_T, mkE_S, mkE_live, tT_3, tT_4, tT_22, tT_24, tT_26, tT_44, go_sem, ↓reduceIte, Nat.reduceEqDiff, Nat.reduceBEq, Nat.reduceAdd, Nat.reduceMul, Nat.reduceLeDiff, Nat.reduceSub, reduceCtorEq, Nat.reduceLT, Int.reduceBEq, Int.reduceBNe, Int.reduceEq, Int.reduceNe, Int.reduceLT, Int.reduceLE]
      refine got_c ?_
      rw [hm, hge]
      simp [inn]

end Go.Proofs.We

/- Same (12). -/
namespace Go.Proofs.We
open Go.PM Go.Proofs

def eqS (a b : S) : Bool := (a.f == b.f) && (a.u == b.u)
def eqL : List S → List S → Bool
  | [], [] => true
  | a :: r, b :: q => eqS a b && eqL r q
  | _, _ => false
theorem eqS_iff {a b : S} : eqS a b = true ↔ a = b := by
  constructor
  · intro h
    simp only [eqS, Bool.and_eq_true, beq_iff_eq] at h
    exact S.ext' h.1 h.2
  · rintro rfl; simp [eqS]
theorem eqL_iff : ∀ {a b : List S}, eqL a b = true ↔ a = b
  | [], [] => by simp [eqL]
  | [], _ :: _ => by simp [eqL]
  | _ :: _, [] => by simp [eqL]
  | a :: r, b :: q => by simp [eqL, eqS_iff, eqL_iff]
theorem eqL_length {a b : List S} (h : a.length ≠ b.length) : eqL a b = false := by
  cases hq : eqL a b with
  | false => rfl
  | true => exact absurd (congrArg List.length (eqL_iff.1 hq)) h

def st12 (a b : List S) (i : Nat) : St := ⟨[(0, .c (.ro 2 (a.map encS))), (1, .c (.ro 2 (b.map encS))), (5, .c (.lit (.int .i64 i)))], []⟩
set_option maxHeartbeats 4000000 in
theorem sound12 (a b : List S) (ha : a.length ≤ 4611686018427387904) : SoundAt Try.prog 33 [pL a, pL b] (pB (eqL a b)) := by
  refine sound_fun (env_ok tT_ok F3_ok _ : EnvOk Try.prog (mkE (specAt F3) [(3, ([0, 1, 5], [], [])), (5, ([0, 1, 5], [], []))])) mixed Try.func33 (by kernel_rfl) rfl (by show 2 ≤ _; decide) (by kernel_rfl) ?_
  show wpC _ _ (Post.ret tT _ _) _
  simp -implicitDefEqProofs only [Try.f33, Try.results33, mkE_T, mkE_S, mkE_live, tT_3, tT_4, tT_22, tT_24, tT_26, tT_44, startS, pL, pI, li, List.zipIdx_cons, List.zipIdx_nil, Nat.zero_add, Nat.reduceAdd, go_sem, ↓reduceIte, Nat.reduceEqDiff, Nat.reduceBEq, Nat.reduceAdd, Nat.reduceMul, Nat.reduceLeDiff, Nat.reduceSub, reduceCtorEq, Nat.reduceLT, Int.reduceBEq, Int.reduceBNe, Int.reduceEq, Int.reduceNe, Int.reduceLT, Int.reduceLE]
  refine cond_intro _ _ _ _ _ (fun hne => ?_) (fun hne => ?_)
  · simp -implicitDefEqProofs only [mkE_T, mkE_S, mkE_live, tT_3, tT_4, tT_22, tT_24, tT_26, tT_44, go_sem, ↓reduceIte, Nat.reduceEqDiff, Nat.reduceBEq, Nat.reduceAdd, Nat.reduceMul, Nat.reduceLeDiff, Nat.reduceSub, reduceCtorEq, Nat.reduceLT, Int.reduceBEq, Int.reduceBNe, Int.reduceEq, Int.reduceNe, Int.reduceLT, Int.reduceLE]
    refine got_c ?_
    have : a.length ≠ b.length := by
      intro e
      simp [e] at hne
    rw [eqL_length this]
  · have hlen : a.length = b.length := by
      have : (a.length : Int) = b.length := by simpa using hne
      omega
    simp -implicitDefEqProofs only [mkE_T, mkE_S, mkE_live, tT_3, tT_4, tT_22, tT_24, tT_26, tT_44, go_sem, ↓reduceIte, Nat.reduceEqDiff, Nat.reduceBEq, Nat.reduceAdd, Nat.reduceMul, Nat.reduceLeDiff, Nat.reduceSub, reduceCtorEq, Nat.reduceLT, Int.reduceBEq, Int.reduceBNe, Int.reduceEq, Int.reduceNe, Int.reduceLT, Int.reduceLE]
    refine loop_intro (fun n s => ∃ i, i + n = a.length ∧ eqL a b = eqL (a.drop i) (b.drop i) ∧ s = st12 a b i) a.length ⟨0, ?_, ?_, ?_⟩ ?_
    · simp
    · simp
    · simp [st12]
    · rintro n s ⟨i, hi, hm, rfl⟩
      simp -implicitDefEqProofs only [st12, mkE_T, mkE_S, mkE_live, tT_3, tT_4, tT_22, tT_24, tT_26, tT_44, go_sem, ↓reduceIte, Nat.reduceEqDiff, Nat.reduceBEq, Nat.reduceAdd, Nat.reduceMul, Nat.reduceLeDiff, Nat.reduceSub, reduceCtorEq, Nat.reduceLT, Int.reduceBEq, Int.reduceBNe, Int.reduceEq, Int.reduceNe, Int.reduceLT, Int.reduceLE]
      refine cond_intro _ _ _ _ _ (fun hc => ?_) (fun hc => ?_)
      · have hlt : i < a.length := by simpa using hc
        have hx : (a.map encS)[i]? = some (encS a[i]) := by simp [hlt]
        have hy : (b.map encS)[i]? = some (encS (b[i]'(by omega))) := by simp [show i < b.length by omega]
        have hda : a.drop i = a[i] :: a.drop (i + 1) := List.drop_eq_getElem_cons hlt
        have hdb : b.drop i = (b[i]'(by omega)) :: b.drop (i + 1) := List.drop_eq_getElem_cons (by omega)
        have hw := wrap_nat (n := i) (by omega)
        generalize a[i] = x at hx hda
        generalize (b[i]'(by omega)) = y at hy hdb
        simp -implicitDefEqProofs only [hx, hy, Int.natCast_nonneg, Int.toNat_natCast, encS, li, mkE_T, mkE_S, mkE_live, tT_3, tT_4, tT_22, tT_24, tT_26, tT_44, go_sem, ↓reduceIte, Nat.reduceEqDiff, Nat.reduceBEq, Nat.reduceAdd, Nat.reduceMul, Nat.reduceLeDiff, Nat.reduceSub, reduceCtorEq, Nat.reduceLT, Int.reduceBEq, Int.reduceBNe, Int.reduceEq, Int.reduceNe, Int.reduceLT, Int.reduceLE]
        refine ⟨by rfl, ?_⟩
        refine cond_intro _ _ _ _ _ (fun h2 => ?_) (fun h2 => ?_)
        · simp -implicitDefEqProofs only [mkE_T, mkE_S, mkE_live, tT_3, tT_4, tT_22, tT_24, tT_26, tT_44, go_sem, ↓reduceIte, Nat.reduceEqDiff, Nat.reduceBEq, Nat.reduceAdd, Nat.reduceMul, Nat.reduceLeDiff, Nat.reduceSub, reduceCtorEq, Nat.reduceLT, Int.reduceBEq, Int.reduceBNe, Int.reduceEq, Int.reduceNe, Int.reduceLT, Int.reduceLE]
          refine got_c ?_
          have h2' : eqS x y = false := by
            cases hq : eqS x y with
            | false => rfl
            | true => obtain rfl := eqS_iff.1 hq; simp at h2
          rw [hm, hda, hdb]
          simp [eqL, h2']
        · simp -implicitDefEqProofs only [mkE_T, mkE_S, mkE_live, tT_3, tT_4, tT_22, tT_24, tT_26, tT_44, hw, go_sem, ↓reduceIte, Nat.reduceEqDiff, Nat.reduceBEq, Nat.reduceAdd, Nat.reduceMul, Nat.reduceLeDiff, Nat.reduceSub, reduceCtorEq, Nat.reduceLT, Int.reduceBEq, Int.reduceBNe, Int.reduceEq, Int.reduceNe, Int.reduceLT, Int.reduceLE]
          refine ⟨n - 1, by omega, i + 1, by omega, ?_, rfl⟩
          have h2' : eqS x y = true := by simpa [eqS] using h2
          rw [hm, hda, hdb]
          simp [eqL, h2']
      · have hga : a.drop i = [] := List.drop_eq_nil_of_le (by simpa using hc)
        have hgb : b.drop i = [] := List.drop_eq_nil_of_le (by rw [← hlen]; simpa using hc)
        simp -implicitDefEqProofs only [mkE_T, mkE_S, mkE_live, tT_3, tT_4, tT_22, tT_24, tT_26, tT_44, go_sem, ↓reduceIte, Nat.reduceEqDiff, Nat.reduceBEq, Nat.reduceAdd, Nat.reduceMul, Nat.reduceLeDiff, Nat.reduceSub, reduceCtorEq, Nat.reduceLT, Int.reduceBEq, Int.reduceBNe, Int.reduceEq, Int.reduceNe, Int.reduceLT, Int.reduceLE]
        refine got_c ?_
        rw [hm, hga, hgb]
        rfl

end Go.Proofs.We

/- The reference's put (31). -/
namespace Go.Proofs.We
open Go.PM Go.Proofs

def atOf (l : List Int) (n : Int) : Nat → Nat
  | 0 => 0
  | k + 1 => if l.getD k 0 > n then atOf l n k else k + 1
def putN (l : List Int) (n : Int) : List Int :=
  let k := atOf l n l.length
  if 0 < k ∧ l.getD (k - 1) 0 = n then l else l.take k ++ n :: l.drop k
theorem atOf_le (l : List Int) (n : Int) : ∀ k, atOf l n k ≤ k
  | 0 => Nat.le_refl _
  | k + 1 => by
    simp only [atOf]
    split
    · exact Nat.le_succ_of_le (atOf_le l n k)
    · exact Nat.le_refl _
theorem putN_length (l : List Int) (n : Int) : (putN l n).length ≤ l.length + 1 := by
  unfold putN
  simp only []
  split <;> simp <;> omega

def st31 (l : List Int) (n : Int) (i : Nat) : St := ⟨[(0, pN l), (1, pI n), (5, pI i)], []⟩
set_option maxHeartbeats 4000000 in
theorem sound31 (l : List Int) (n : Int) (hl : l.length ≤ 1099511627776) : SoundAt Try.prog 56 [pN l, pI n] (pN (putN l n)) := by
  refine sound_fun (env_ok tT_ok fs_nil _ : EnvOk Try.prog (mkE (specAt []) [(1, ([0, 1, 5], [], [])), (3, ([0, 1, 5], [], []))])) mixed Try.func56 (by kernel_rfl) rfl (by show 2 ≤ _; decide) (by kernel_rfl) ?_
  show wpC _ _ (Post.ret tT _ _) _
  simp -implicitDefEqProofs only [Try.f56, Try.results56, startS, pN, pI, li, List.zipIdx_cons, List.zipIdx_nil, go_sem, ↓reduceIte, Nat.reduceEqDiff, Nat.reduceBEq, Nat.reduceAdd, Nat.reduceMul, Nat.reduceLeDiff, Nat.reduceSub, reduceCtorEq, Nat.reduceLT, Int.reduceBEq, Int.reduceBNe, Int.reduceEq, Int.reduceNe, Int.reduceLT, Int.reduceLE]
  refine loop_intro (fun k s => ∃ i, i = k ∧ i ≤ l.length ∧ atOf l n l.length = atOf l n i ∧ s = st31 l n i) l.length ⟨l.length, rfl, Nat.le_refl _, rfl, ?_⟩ ?_
  · simp [st31, pN, pI, li]
  · rintro k s ⟨i, rfl, hi, hm, rfl⟩
    simp -implicitDefEqProofs only [st31, pN, pI, li, go_sem, ↓reduceIte, Nat.reduceEqDiff, Nat.reduceBEq, Nat.reduceAdd, Nat.reduceMul, Nat.reduceLeDiff, Nat.reduceSub, reduceCtorEq, Nat.reduceLT, Int.reduceBEq, Int.reduceBNe, Int.reduceEq, Int.reduceNe, Int.reduceLT, Int.reduceLE]
    refine opsG_intro _ _ _ _ _ _ (fun h1 => ?_) (fun h1 => ?_)
    · have h1' : 0 < i := by simpa using h1
      obtain ⟨j, rfl⟩ : ∃ j, i = j + 1 := ⟨i - 1, by omega⟩
      have hx : (l.map fun n => [CV.lit (.int .i64 n)])[j]? = some [.lit (.int .i64 (l.getD j 0))] := by
        simp [List.getD_eq_getElem?_getD, show j < l.length by omega]
      have hw : IntKind.i64.wrap (((j + 1 : Nat) : Int) - 1) = (j : Int) := by rw [IntKind.wrap_i64]; omega
      simp -implicitDefEqProofs only [hw, hx, Int.natCast_nonneg, Int.toNat_natCast, go_sem, ↓reduceIte, Nat.reduceEqDiff, Nat.reduceBEq, Nat.reduceAdd, Nat.reduceMul, Nat.reduceLeDiff, Nat.reduceSub, reduceCtorEq, Nat.reduceLT, Int.reduceBEq, Int.reduceBNe, Int.reduceEq, Int.reduceNe, Int.reduceLT, Int.reduceLE]
      refine cond_intro _ _ _ _ _ (fun hc => ?_) (fun hc => ?_)
      · have hc' : l.getD j 0 > n := by simpa using hc
        simp -implicitDefEqProofs only [hw, go_sem, ↓reduceIte, Nat.reduceEqDiff, Nat.reduceBEq, Nat.reduceAdd, Nat.reduceMul, Nat.reduceLeDiff, Nat.reduceSub, reduceCtorEq, Nat.reduceLT, Int.reduceBEq, Int.reduceBNe, Int.reduceEq, Int.reduceNe, Int.reduceLT, Int.reduceLE]
        refine ⟨j, by omega, j, rfl, by omega, ?_, rfl⟩
        rw [hm, atOf, if_pos hc']
      · have hc' : ¬ l.getD j 0 > n := by simpa using hc
        have hat : atOf l n l.length = j + 1 := by rw [hm, atOf, if_neg hc']
        have hmin : min (j + 1) l.length = j + 1 := by omega
        have hr1 : (j + 1) * 8 ≤ 140737488355328 := by omega
        have hr2 : (j + 1 + 1) * 8 ≤ 140737488355328 := by omega
        have hr3 : (j + 1 + 1 + (l.length - (j + 1))) * 8 ≤ 140737488355328 := by omega
        have hle : j + 1 ≤ l.length := by omega
        simp -implicitDefEqProofs only [h1, hw, hx, hmin, hr1, hr2, hr3, hle, List.length_take, List.length_drop, List.take_length, Int.natCast_nonneg, Int.toNat_natCast, go_sem, ↓reduceIte, Nat.reduceEqDiff, Nat.reduceBEq, Nat.reduceAdd, Nat.reduceMul, Nat.reduceLeDiff, Nat.reduceSub, reduceCtorEq, Nat.reduceLT, Int.reduceBEq, Int.reduceBNe, Int.reduceEq, Int.reduceNe, Int.reduceLT, Int.reduceLE]
        refine cond_intro _ _ _ _ _ (fun h2 => ?_) (fun h2 => ?_)
        · have h2' : l.getD j 0 = n := by simpa using h2
          simp -implicitDefEqProofs only [go_sem, ↓reduceIte, Nat.reduceEqDiff, Nat.reduceBEq, Nat.reduceAdd, Nat.reduceMul, Nat.reduceLeDiff, Nat.reduceSub, reduceCtorEq, Nat.reduceLT, Int.reduceBEq, Int.reduceBNe, Int.reduceEq, Int.reduceNe, Int.reduceLT, Int.reduceLE]
          refine got_c ?_
          have hp : putN l n = l := by simp only [putN, hat]; exact if_pos ⟨h1', h2'⟩
          rw [hp]
        · have h2' : ¬ l.getD j 0 = n := by simpa using h2
          simp -implicitDefEqProofs only [h1, hw, hx, hmin, hr1, hr2, hr3, hle, List.length_take, List.length_drop, List.take_length, Int.natCast_nonneg, Int.toNat_natCast, go_sem, ↓reduceIte, Nat.reduceEqDiff, Nat.reduceBEq, Nat.reduceAdd, Nat.reduceMul, Nat.reduceLeDiff, Nat.reduceSub, reduceCtorEq, Nat.reduceLT, Int.reduceBEq, Int.reduceBNe, Int.reduceEq, Int.reduceNe, Int.reduceLT, Int.reduceLE]
          refine got_own0 rfl (by simp; omega) ?_
          have hp : putN l n = l.take (j + 1) ++ n :: l.drop (j + 1) := by simp only [putN, hat]; exact if_neg (fun h => h2' h.2)
          rw [hp]
          simp
    · have h1' : i = 0 := by
        have : ¬ 0 < i := by simpa using h1
        omega
      subst h1'
      have hat : atOf l n l.length = 0 := by rw [hm, atOf]
      have hr : (1 + l.length) * 8 ≤ 140737488355328 := by omega
      simp -implicitDefEqProofs only [h1, hr, Int.natCast_nonneg, Int.toNat_natCast, go_sem, ↓reduceIte, Nat.reduceEqDiff, Nat.reduceBEq, Nat.reduceAdd, Nat.reduceMul, Nat.reduceLeDiff, Nat.reduceSub, reduceCtorEq, Nat.reduceLT, Int.reduceBEq, Int.reduceBNe, Int.reduceEq, Int.reduceNe, Int.reduceLT, Int.reduceLE]
      refine got_own0 rfl (by simp; omega) ?_
      have hp : putN l n = n :: l := by simp [putN, hat]
      rw [hp]
      rfl
noncomputable def spec31 : PM.Spec := specOf (fun x : List Int × Int => [pN x.1, pI x.2]) (fun x => x.1.length ≤ 1099511627776) (fun x => pN (putN x.1 x.2))
theorem spec31_at {l : List Int} (h : l.length ≤ 1099511627776) (n : Int) : spec31 [.c (.ro 1 (l.map fun n => [li n])), .c (.lit (.int .i64 n))] = some (.c (.ro 1 ((putN l n).map fun n => [li n]))) :=
  specOf_at (arg := fun x : List Int × Int => [pN x.1, pI x.2]) (fun a b h => Prod.ext (pN_inj (List.cons.inj h).1) (pI_inj (List.cons.inj (List.cons.inj h).2).1)) (a := (l, n)) h
theorem spec31_ok : ∀ vs r, spec31 vs = some r → SoundAt Try.prog 56 vs r := specOf_sound fun (x : List Int × Int) h => sound31 x.1 x.2 h
end Go.Proofs.We

/- The reference's ends (29). -/
namespace Go.Proofs.We
open Go.PM Go.Proofs

def ends' : List Int → List S → List Int
  | o, [] => o
  | o, s :: r => ends' (putN (putN o s.f) s.u) r
def endsN (l : List S) : List Int := ends' [] l
theorem ends'_length : ∀ (l : List S) (o : List Int), (ends' o l).length ≤ o.length + 2 * l.length
  | [], o => Nat.le_refl _
  | s :: r, o => by
    have h1 := putN_length o s.f
    have h2 := putN_length (putN o s.f) s.u
    have h3 := ends'_length r (putN (putN o s.f) s.u)
    simp only [ends', List.length_cons]
    omega

theorem endsN_length (l : List S) : (endsN l).length ≤ 2 * l.length := by
  have := ends'_length l []
  simpa [endsN] using this
def st29 (l : List S) (o : List Int) (i : Nat) : St := ⟨[(0, pL l), (3, .c (.ro 1 (o.map fun n => [.lit (.int .i64 n)]))), (4, pI i)], []⟩
set_option maxHeartbeats 4000000 in
theorem sound29 (l : List S) (hl : l.length ≤ 1073741824) : SoundAt Try.prog 55 [pL l] (pN (endsN l)) := by
  refine sound_fun (env_ok tT_ok (fs_cons spec31_ok fs_nil) _ : EnvOk Try.prog (mkE (specAt [(56, spec31)]) [(2, ([0, 3, 4], [], [(3, none, 1)])), (4, ([0, 3, 4], [], []))])) mixed Try.func55 (by kernel_rfl) rfl (by show 1 ≤ _; decide) (by kernel_rfl) ?_
  show wpC _ _ (Post.ret tT _ _) _
  simp -implicitDefEqProofs only [Try.f55, Try.results55, startS, pN, pL, pI, li, List.zipIdx_cons, List.zipIdx_nil, go_sem, ↓reduceIte, Nat.reduceEqDiff, Nat.reduceBEq, Nat.reduceAdd, Nat.reduceMul, Nat.reduceLeDiff, Nat.reduceSub, reduceCtorEq, Nat.reduceLT, Int.reduceBEq, Int.reduceBNe, Int.reduceEq, Int.reduceNe, Int.reduceLT, Int.reduceLE]
  refine loop_intro (fun k s => ∃ i o, i + k = l.length ∧ o.length ≤ 2 * i ∧ endsN l = ends' o (l.drop i) ∧ s = st29 l o i) l.length ⟨0, [], by omega, by simp, rfl, ?_⟩ ?_
  · simp [st29, pN, pI, pL]
  · rintro k s ⟨i, o, hi, ho, hm, rfl⟩
    simp -implicitDefEqProofs only [st29, pN, pL, pI, li, go_sem, ↓reduceIte, Nat.reduceEqDiff, Nat.reduceBEq, Nat.reduceAdd, Nat.reduceMul, Nat.reduceLeDiff, Nat.reduceSub, reduceCtorEq, Nat.reduceLT, Int.reduceBEq, Int.reduceBNe, Int.reduceEq, Int.reduceNe, Int.reduceLT, Int.reduceLE]
    refine cond_intro _ _ _ _ _ (fun hc => ?_) (fun hc => ?_)
    · have hlt : i < l.length := by simpa using hc
      have hx : (l.map encS)[i]? = some (encS l[i]) := by simp [hlt]
      have hdrop : l.drop i = l[i] :: l.drop (i + 1) := List.drop_eq_getElem_cons hlt
      have hw := wrap_nat (n := i) (by omega)
      generalize l[i] = x at hx hdrop
      have h1 := putN_length o x.f
      have h2 := putN_length (putN o x.f) x.u
      have e1 := spec31_at (l := o) (by omega) x.f
      have e2 := spec31_at (l := putN o x.f) (by omega) x.u
      simp only [li] at e1 e2
      simp -implicitDefEqProofs only [hx, hw, e1, e2, Int.natCast_nonneg, Int.toNat_natCast, encS, li, go_sem, ↓reduceIte, Nat.reduceEqDiff, Nat.reduceBEq, Nat.reduceAdd, Nat.reduceMul, Nat.reduceLeDiff, Nat.reduceSub, reduceCtorEq, Nat.reduceLT, Int.reduceBEq, Int.reduceBNe, Int.reduceEq, Int.reduceNe, Int.reduceLT, Int.reduceLE]
      refine ⟨by rfl, ?_⟩
      refine ⟨k - 1, by omega, i + 1, _, by omega, ?_, ?_, rfl⟩
      · omega
      · rw [hm, hdrop, ends']
    · have hge : l.drop i = [] := List.drop_eq_nil_of_le (by simpa using hc)
      simp -implicitDefEqProofs only [go_sem, ↓reduceIte, Nat.reduceEqDiff, Nat.reduceBEq, Nat.reduceAdd, Nat.reduceMul, Nat.reduceLeDiff, Nat.reduceSub, reduceCtorEq, Nat.reduceLT, Int.reduceBEq, Int.reduceBNe, Int.reduceEq, Int.reduceNe, Int.reduceLT, Int.reduceLE]
      refine got_c ?_
      rw [hm, hge, ends']
noncomputable def spec29 : PM.Spec := specOf (fun l : List S => [pL l]) (fun l => l.length ≤ 1073741824) (fun l => pN (endsN l))
theorem spec29_at {l : List S} (h : l.length ≤ 1073741824) : spec29 [.c (.ro 2 (l.map encS))] = some (.c (.ro 1 ((endsN l).map fun n => [CV.lit (.int .i64 n)]))) :=
  specOf_at (arg := fun l : List S => [pL l]) (fun a b h => pL_inj (List.cons.inj h).1) (a := l) h
theorem spec29_ok : ∀ vs r, spec29 vs = some r → SoundAt Try.prog 55 vs r := specOf_sound fun l h => sound29 l h
end Go.Proofs.We
