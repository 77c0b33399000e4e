/- Add (10). -/
import Derived.Test.YtmmipinjkbkkmaaWsb
set_option linter.unusedSimpArgs false
set_option linter.unusedVariables false
set_option linter.unusedSectionVars false
set_option linter.unnecessarySimpa false
namespace Go.Proofs.We
open Go.PM Go.Proofs

def mn (a b : Int) : Int := if b < a then b else a
def mx (a b : Int) : Int := if a < b then b else a
def addL : List S → S → List S → List S → List S × S × List S
  | [], s, a, b => (a, s, b)
  | x :: r, s, a, b => if x.u < s.f then addL r s (a ++ [x]) b else if s.u < x.f then addL r s a (b ++ [x]) else addL r ⟨mn s.f x.f, mx s.u x.u⟩ a b
def addN (l : List S) (s : S) : List S := (addL l s [] []).1 ++ ((addL l s [] []).2.1 :: (addL l s [] []).2.2)
def addP (l : List S) (s : S) : List S × Int := outN l s (addN l s)

theorem toldN_big {l : List S} (h : l.length > 1000) : toldN l = .tup [.c (.ro 2 []), .c (.lit (.int .i64 4))] := if_pos h
theorem toldN_small {l : List S} (h : ¬ l.length > 1000) : toldN l = .tup [.c (.ro 2 (l.map encS)), .c (.lit (.int .i64 0))] := if_neg h

def st10 (l : List S) (s : S) (a b : List S) (i : Nat) : St := ⟨[(3, .ptr 3 0), (6, .own 6 0 a.length), (7, .own 7 0 b.length), (18, pL l), (19, pI l.length), (20, pI i)], [((3, 0), some (.cell (pI s.f))), ((3, 1), some (.cell (pI s.u))), ((6, 0), some (.vec true 2 (a.map encS))), ((7, 0), some (.vec true 2 (b.map encS)))]⟩
def live10 : List (Nat × Live) := [(1, ([0, 3, 17], [(3, 3, 2)], [])), (4, ([3, 6, 7, 18, 19, 20], [(3, 3, 2)], [(6, some 6, 2), (7, some 7, 2)])), (8, ([3, 6, 7, 18, 19, 20], [(3, 3, 2), (33, 6, 1), (7, 7, 1)], [])), (10, ([3, 6, 7, 18, 19, 20], [(3, 3, 2), (6, 6, 1), (43, 7, 1)], [])), (11, ([3, 6, 7, 18, 19, 20], [(3, 3, 2), (6, 6, 1), (7, 7, 1)], [])), (12, ([3, 6, 7, 18, 19, 20], [(3, 3, 2), (6, 6, 1), (7, 7, 1)], []))]
set_option maxHeartbeats 8000000 in
theorem sound10 (l : List S) (s : S) (hl : l.length ≤ 536870912) : SoundAt Try.prog 30 [pL l, pS s] (pR (addP l s)) := by
  refine sound_fun (env_ok tT_ok (fs_cons spec15_ok (fs_cons spec23_ok (fs_cons spec24_ok fs_nil))) _ : EnvOk Try.prog (mkE (specAt [(34, spec15), (46, spec23), (47, spec24)]) live10)) mixed Try.func30 (by kernel_rfl) rfl (by show 2 ≤ _; decide) (by kernel_rfl) ?_
  show wpC _ _ (Post.ret tT _ _) _
  have h15 := spec15_at (l := l) (by omega)
  simp -implicitDefEqProofs only [Try.f30, Try.results30, live10, startS, pL, pI, pS, li, h15, spec23_at, List.zipIdx_cons, List.zipIdx_nil, go_sem, ↓reduceIte, Nat.reduceEqDiff, Nat.reduceBEq, Nat.reduceAdd, Nat.reduceMul, Nat.reduceLeDiff, Nat.reduceSub, reduceCtorEq, Nat.reduceLT, Int.reduceBEq, Int.reduceBNe, Int.reduceEq, Int.reduceNe, Int.reduceLT, Int.reduceLE]
  refine opsG_intro _ _ _ _ _ _ (fun h1 => ?_) (fun h1 => ?_)
  · have h1' : may l = true := by simpa using h1
    simp -implicitDefEqProofs only [spec23_at, go_sem, ↓reduceIte, Nat.reduceEqDiff, Nat.reduceBEq, Nat.reduceAdd, Nat.reduceMul, Nat.reduceLeDiff, Nat.reduceSub, reduceCtorEq, Nat.reduceLT, Int.reduceBEq, Int.reduceBNe, Int.reduceEq, Int.reduceNe, Int.reduceLT, Int.reduceLE]
    refine cond_intro _ _ _ _ _ (fun h2 => ?_) (fun h2 => ?_)
    · have h2' : one s = false := by simpa using h2
      simp -implicitDefEqProofs only [go_sem, ↓reduceIte, Nat.reduceEqDiff, Nat.reduceBEq, Nat.reduceAdd, Nat.reduceMul, Nat.reduceLeDiff, Nat.reduceSub, reduceCtorEq, Nat.reduceLT, Int.reduceBEq, Int.reduceBNe, Int.reduceEq, Int.reduceNe, Int.reduceLT, Int.reduceLE]
      rw [pR, addP, outN, if_neg (by simp [h1', h2'])]
      exact gots [] (by simp) (mAs_cons (mA_c (m_cov (.nil _))) (mAs_cons (mA_c (m_c rfl)) mAs_nil))
    · have h2' : one s = true := by simpa using h2
      simp -implicitDefEqProofs only [go_sem, ↓reduceIte, Nat.reduceEqDiff, Nat.reduceBEq, Nat.reduceAdd, Nat.reduceMul, Nat.reduceLeDiff, Nat.reduceSub, reduceCtorEq, Nat.reduceLT, Int.reduceBEq, Int.reduceBNe, Int.reduceEq, Int.reduceNe, Int.reduceLT, Int.reduceLE]
      have hR : pR (addP l s) = pR (if (addN l s).length > 1000 then ([], 4) else (addN l s, 0)) := by rw [addP, outN, if_pos (by simp [h1', h2'])]
      rw [hR]
      clear hR h1 h2 h1' h2' h15
      refine loop_intro (fun n st => ∃ i s' a b, i + n = l.length ∧ a.length + b.length ≤ i ∧ addL l s [] [] = addL (l.drop i) s' a b ∧ st = st10 l s' a b i) l.length ⟨0, s, [], [], by omega, by simp, rfl, ?_⟩ ?_
      · simp [st10, pL, pI]
      · rintro n st ⟨i, s', a, b, hi, hab, hm, rfl⟩
        have hw := wrap_nat (n := i) (by omega)
        simp -implicitDefEqProofs only [st10, pL, pI, li, go_sem, ↓reduceIte, Nat.reduceEqDiff, Nat.reduceBEq, Nat.reduceAdd, Nat.reduceMul, Nat.reduceLeDiff, Nat.reduceSub, reduceCtorEq, Nat.reduceLT, Int.reduceBEq, Int.reduceBNe, Int.reduceEq, Int.reduceNe, Int.reduceLT, Int.reduceLE]
        refine cond_intro _ _ _ _ _ (fun hc => ?_) (fun hc => ?_)
        · have hlt : i < l.length := by simpa using hc
          have hx : (l.map encS)[i]? = some (encS l[i]) := by simp [hlt]
          have hdrop : l.drop i = l[i] :: l.drop (i + 1) := List.drop_eq_getElem_cons hlt
          generalize l[i] = x at hx hdrop
          have hra : (a.length + 1) * 16 ≤ 140737488355328 := by omega
          have hrb : (b.length + 1) * 16 ≤ 140737488355328 := by omega
          simp -implicitDefEqProofs only [hx, hw, Int.natCast_nonneg, Int.toNat_natCast, encS, li, go_sem, ↓reduceIte, Nat.reduceEqDiff, Nat.reduceBEq, Nat.reduceAdd, Nat.reduceMul, Nat.reduceLeDiff, Nat.reduceSub, reduceCtorEq, Nat.reduceLT, Int.reduceBEq, Int.reduceBNe, Int.reduceEq, Int.reduceNe, Int.reduceLT, Int.reduceLE]
          refine cond_intro _ _ _ _ _ (fun h3 => ?_) (fun h3 => ?_)
          · have h3' : x.u < s'.f := by simpa using h3
            simp -implicitDefEqProofs only [hw, hra, hrb, go_sem, ↓reduceIte, Nat.reduceEqDiff, Nat.reduceBEq, Nat.reduceAdd, Nat.reduceMul, Nat.reduceLeDiff, Nat.reduceSub, reduceCtorEq, Nat.reduceLT, Int.reduceBEq, Int.reduceBNe, Int.reduceEq, Int.reduceNe, Int.reduceLT, Int.reduceLE]
            refine ⟨n - 1, by omega, i + 1, s', a ++ [x], b, by omega, by simp; omega, ?_, by simp [encS, li]⟩
            rw [hm, hdrop, addL, if_pos h3']
          · have h3' : ¬ x.u < s'.f := by simpa using h3
            simp -implicitDefEqProofs only [hw, hra, hrb, go_sem, ↓reduceIte, Nat.reduceEqDiff, Nat.reduceBEq, Nat.reduceAdd, Nat.reduceMul, Nat.reduceLeDiff, Nat.reduceSub, reduceCtorEq, Nat.reduceLT, Int.reduceBEq, Int.reduceBNe, Int.reduceEq, Int.reduceNe, Int.reduceLT, Int.reduceLE]
            refine cond_intro _ _ _ _ _ (fun h4 => ?_) (fun h4 => ?_)
            · have h4' : s'.u < x.f := by simpa using h4
              simp -implicitDefEqProofs only [hw, hra, hrb, go_sem, ↓reduceIte, Nat.reduceEqDiff, Nat.reduceBEq, Nat.reduceAdd, Nat.reduceMul, Nat.reduceLeDiff, Nat.reduceSub, reduceCtorEq, Nat.reduceLT, Int.reduceBEq, Int.reduceBNe, Int.reduceEq, Int.reduceNe, Int.reduceLT, Int.reduceLE]
              refine ⟨n - 1, by omega, i + 1, s', a, b ++ [x], by omega, by simp; omega, ?_, by simp [encS, li]⟩
              rw [hm, hdrop, addL, if_neg h3', if_pos h4']
            · have h4' : ¬ s'.u < x.f := by simpa using h4
              simp -implicitDefEqProofs only [hw, hra, hrb, go_sem, ↓reduceIte, Nat.reduceEqDiff, Nat.reduceBEq, Nat.reduceAdd, Nat.reduceMul, Nat.reduceLeDiff, Nat.reduceSub, reduceCtorEq, Nat.reduceLT, Int.reduceBEq, Int.reduceBNe, Int.reduceEq, Int.reduceNe, Int.reduceLT, Int.reduceLE]
              refine ⟨by rfl, n - 1, by omega, i + 1, ⟨mn s'.f x.f, mx s'.u x.u⟩, a, b, by omega, by omega, ?_, ?_⟩
              · rw [hm, hdrop, addL, if_neg h3', if_neg h4']
              · simp [mn, mx]
        · have hge : l.drop i = [] := List.drop_eq_nil_of_le (by simpa using hc)
          have hN : addN l s = a ++ (s' :: b) := by rw [addN, hm, hge, addL]
          have hra : (a.length + 1) * 16 ≤ 140737488355328 := by omega
          have hrb : (a.length + 1 + b.length) * 16 ≤ 140737488355328 := by omega
          have hb : List.take b.length (b.map encS) = b.map encS := List.take_of_length_le (by simp)
          have htk : List.take (a.length + 1 + b.length) (a.map encS ++ [[CV.lit (.int .i64 s'.f), CV.lit (.int .i64 s'.u)]] ++ b.map encS) = (a ++ (s' :: b)).map encS := by
            rw [List.take_of_length_le (by simp; omega)]; simp [encS, li]
          have h24 := spec24_at (a ++ (s' :: b))
          rw [hN]
          by_cases hbig : (a ++ (s' :: b)).length > 1000
          · rw [toldN_big hbig] at h24
            rw [if_pos hbig]
            simp -implicitDefEqProofs only [hra, hrb, hb, htk, h24, go_sem, ↓reduceIte, Nat.reduceEqDiff, Nat.reduceBEq, Nat.reduceAdd, Nat.reduceMul, Nat.reduceLeDiff, Nat.reduceSub, reduceCtorEq, Nat.reduceLT, Int.reduceBEq, Int.reduceBNe, Int.reduceEq, Int.reduceNe, Int.reduceLT, Int.reduceLE]
            rw [pR]
            exact gots [] (by simp) (mAs_cons (mA_c (m_c rfl)) (mAs_cons (mA_c (m_c rfl)) mAs_nil))
          · rw [toldN_small hbig] at h24
            rw [if_neg hbig]
            simp -implicitDefEqProofs only [hra, hrb, hb, htk, h24, go_sem, ↓reduceIte, Nat.reduceEqDiff, Nat.reduceBEq, Nat.reduceAdd, Nat.reduceMul, Nat.reduceLeDiff, Nat.reduceSub, reduceCtorEq, Nat.reduceLT, Int.reduceBEq, Int.reduceBNe, Int.reduceEq, Int.reduceNe, Int.reduceLT, Int.reduceLE]
            rw [pR]
            exact gots [] (by simp) (mAs_cons (mA_c (m_c rfl)) (mAs_cons (mA_c (m_c rfl)) mAs_nil))
  · have h1' : may l = false := by simpa using h1
    simp -implicitDefEqProofs only [go_sem, ↓reduceIte, Nat.reduceEqDiff, Nat.reduceBEq, Nat.reduceAdd, Nat.reduceMul, Nat.reduceLeDiff, Nat.reduceSub, reduceCtorEq, Nat.reduceLT, Int.reduceBEq, Int.reduceBNe, Int.reduceEq, Int.reduceNe, Int.reduceLT, Int.reduceLE]
    rw [pR, addP, outN, if_neg (by simp [h1'])]
    exact gots [] (by simp) (mAs_cons (mA_c (m_cov (.nil _))) (mAs_cons (mA_c (m_c rfl)) mAs_nil))
theorem spec10_ok : ∀ vs r, specR addP vs = some r → SoundAt Try.prog 30 vs r := specOf_sound fun (x : List S × S) h => sound10 x.1 x.2 h

end Go.Proofs.We
