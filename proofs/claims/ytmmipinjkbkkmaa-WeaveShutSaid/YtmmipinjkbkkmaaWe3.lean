/- blank (35), May (11). -/
import Derived.Test.YtmmipinjkbkkmaaWe2
import Derived.Test.YtmmipinjkbkkmaaWsMath2
set_option linter.unusedSimpArgs false
set_option linter.unusedVariables false
set_option linter.unusedSectionVars false
set_option linter.unnecessarySimpa false
namespace Go.Proofs.We
open Go.PM Go.Proofs

def chain (hi : Int) : Int → List S → Prop
  | _, [] => True
  | at', s :: r => at' ≤ s.f ∧ s.f < s.u ∧ s.u ≤ hi ∧ chain hi s.u r
def seg (b : List Int) (lo hi : Int) : List Int := (b.take hi.toNat).drop lo.toNat
def blank' (base : Int) (b : List Int) : Int → List S → Bool
  | _, [] => true
  | at', s :: r => if anyN (seg b (at' - base) (s.f - base)) = true then false else blank' base b s.u r
def blankN (w : Wv) : Bool := blank' w.base w.b w.base w.got
def st35 (w : Wv) (at' : Int) (i : Nat) : St := ⟨[(1, .ptr 1 0), (3, pI at'), (9, pL w.got), (10, pI w.got.length), (11, pI i)], [((1, 0), some (.cell (pI w.base))), ((1, 1), some (.cell (pBy w.b))), ((1, 2), some (.cell (pL w.got))), ((1, 3), some (.cell (pI w.cap))), ((1, 4), some (.cell (pI w.fin)))]⟩
set_option maxHeartbeats 4000000 in
theorem soundW35 (w : Wv) (h0 : 0 ≤ w.base) (hb : w.base + w.b.length ≤ 4611686018427387904) (hl : w.got.length ≤ 4611686018427387904) (hc : chain (w.base + w.b.length) w.base w.got) : SoundAt Try.prog 35 [pW w] (pB (blankN w)) := by
  refine sound_fun (env_ok tT_ok (fs_cons spec48_ok fs_nil) _ : EnvOk Try.prog (mkE (specAt [(48, spec48)]) [(0, ([1], [(1, 1, 5)], [])), (1, ([1, 3], [(1, 1, 5)], [])), (2, ([1, 3, 9, 10, 11], [(1, 1, 5)], [])), (3, ([1, 3, 9, 10, 11, 12], [(1, 1, 5)], [])), (4, ([1, 3, 5, 9, 10, 11], [(1, 1, 5), (5, 5, 2)], [])), (5, ([1, 5, 9, 10, 11, 27], [(1, 1, 5), (5, 5, 2)], [])), (6, ([2], [], [])), (7, ([1, 3, 9, 10, 11], [(1, 1, 5)], [])), (8, ([1, 3, 9, 10, 11], [(1, 1, 5)], [])), (9, ([2], [], []))])) mixed Try.func35 (by kernel_rfl) rfl (by show 1 ≤ _; decide) (by kernel_rfl) ?_
  show wpC _ _ (Post.ret tT _ _) _
  simp -implicitDefEqProofs only [Try.f35, Try.results35, startS, pW, pI, pB, li, List.zipIdx_cons, List.zipIdx_nil, List.length_map, go_sem, ↓reduceIte, Nat.reduceEqDiff, Nat.reduceBEq, Nat.reduceAdd, Nat.reduceMul, Nat.reduceLeDiff, Nat.reduceSub, reduceCtorEq, Nat.reduceLT, Int.reduceBEq, Int.reduceBNe, Int.reduceEq, Int.reduceNe, Int.reduceLT, Int.reduceLE]
  refine loop_intro (fun n st => ∃ i at', i + n = w.got.length ∧ w.base ≤ at' ∧ chain (w.base + w.b.length) at' (w.got.drop i) ∧ blankN w = blank' w.base w.b at' (w.got.drop i) ∧ st = st35 w at' i) w.got.length ⟨0, w.base, by omega, by omega, hc, rfl, ?_⟩ ?_
  · simp [st35, pBy, pI, pL]
  · rintro n st ⟨i, at', hi, hat, hch, hm, rfl⟩
    have hw := wrap_nat (n := i) (by omega)
    simp -implicitDefEqProofs only [st35, pBy, pL, pI, li, go_sem, ↓reduceIte, Nat.reduceEqDiff, Nat.reduceBEq, Nat.reduceAdd, Nat.reduceMul, Nat.reduceLeDiff, Nat.reduceSub, reduceCtorEq, Nat.reduceLT, Int.reduceBEq, Int.reduceBNe, Int.reduceEq, Int.reduceNe, Int.reduceLT, Int.reduceLE]
    refine cond_intro _ _ _ _ _ (fun hcc => ?_) (fun hcc => ?_)
    · have hlt : i < w.got.length := by simpa using hcc
      have hx : (w.got.map encS)[i]? = some (encS w.got[i]) := by simp [hlt]
      have hdrop : w.got.drop i = w.got[i] :: w.got.drop (i + 1) := List.drop_eq_getElem_cons hlt
      generalize w.got[i] = x at hx hdrop
      rw [hdrop] at hch hm
      obtain ⟨c1, c2, c3, c4⟩ := hch
      have w1 : IntKind.i64.wrap (at' - w.base) = at' - w.base := by rw [IntKind.wrap_i64]; omega
      have w2 : IntKind.i64.wrap (x.f - w.base) = x.f - w.base := by rw [IntKind.wrap_i64]; omega
      have n1 : 0 ≤ at' - w.base := by omega
      have n2 : 0 ≤ x.f - w.base := by omega
      have n3 : (at' - w.base).toNat ≤ (x.f - w.base).toNat := by omega
      have n4 : (x.f - w.base).toNat ≤ w.b.length := by omega
      have hs : spec48 [.c (.ro 1 (((w.b.map encB).take (x.f - w.base).toNat).drop (at' - w.base).toNat)), .c (.lit (.func (.func 49) #[] #[]))] = some (.c (.lit (.bool (anyN (seg w.b (at' - w.base) (x.f - w.base)))))) := by
        rw [← List.map_take, ← List.map_drop]
        exact spec48_at (l := seg w.b (at' - w.base) (x.f - w.base)) (by simp [seg]; omega)
      simp -implicitDefEqProofs only [hx, w1, w2, n1, n2, n3, n4, hs, Int.natCast_nonneg, Int.toNat_natCast, encS, li, List.length_map, and_self, go_sem, ↓reduceIte, Nat.reduceEqDiff, Nat.reduceBEq, Nat.reduceAdd, Nat.reduceMul, Nat.reduceLeDiff, Nat.reduceSub, reduceCtorEq, Nat.reduceLT, Int.reduceBEq, Int.reduceBNe, Int.reduceEq, Int.reduceNe, Int.reduceLT, Int.reduceLE]
      refine cond_intro _ _ _ _ _ (fun h2 => ?_) (fun h2 => ?_)
      · simp -implicitDefEqProofs only [go_sem, ↓reduceIte, Nat.reduceEqDiff, Nat.reduceBEq, Nat.reduceAdd, Nat.reduceMul, Nat.reduceLeDiff, Nat.reduceSub, reduceCtorEq, Nat.reduceLT, Int.reduceBEq, Int.reduceBNe, Int.reduceEq, Int.reduceNe, Int.reduceLT, Int.reduceLE]
        refine got_c ?_
        rw [hm, blank', if_pos h2]
      · simp -implicitDefEqProofs only [hw, go_sem, ↓reduceIte, Nat.reduceEqDiff, Nat.reduceBEq, Nat.reduceAdd, Nat.reduceMul, Nat.reduceLeDiff, Nat.reduceSub, reduceCtorEq, Nat.reduceLT, Int.reduceBEq, Int.reduceBNe, Int.reduceEq, Int.reduceNe, Int.reduceLT, Int.reduceLE]
        refine ⟨n - 1, by omega, i + 1, x.u, by omega, by omega, c4, ?_, rfl⟩
        rw [hm, blank', if_neg (by simp [h2])]
    · have hge : w.got.drop i = [] := List.drop_eq_nil_of_le (by simpa using hcc)
      simp -implicitDefEqProofs only [go_sem, ↓reduceIte, Nat.reduceEqDiff, Nat.reduceBEq, Nat.reduceAdd, Nat.reduceMul, Nat.reduceLeDiff, Nat.reduceSub, reduceCtorEq, Nat.reduceLT, Int.reduceBEq, Int.reduceBNe, Int.reduceEq, Int.reduceNe, Int.reduceLT, Int.reduceLE]
      refine got_c ?_
      rw [hm, hge, blank']
end Go.Proofs.We
