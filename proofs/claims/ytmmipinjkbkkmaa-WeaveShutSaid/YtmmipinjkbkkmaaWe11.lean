/- Read (15). -/
import Derived.Test.YtmmipinjkbkkmaaWe10
set_option linter.unusedSimpArgs false
set_option linter.unusedVariables false
set_option linter.unusedSectionVars false
set_option linter.unnecessarySimpa false
namespace Go.Proofs.We
open Go.PM Go.Proofs

def live15 : List (Nat × Live) := [(0, ([1, 2, 4], [(2, 2, 5), (4, 4, 5)], [])), (1, ([1, 2, 4, 15], [(2, 2, 5), (4, 4, 5)], [])), (2, ([4, 5, 6], [(4, 4, 5)], [])), (3, ([1, 2, 4], [(2, 2, 5), (4, 4, 5)], [])), (4, ([1, 2, 4, 7], [(2, 2, 5), (4, 4, 5)], [(7, some 7, 1)])),
  (5, ([1, 2, 4, 7, 21, 22], [(2, 2, 5), (4, 4, 5), (7, 7, 1)], [])), (6, ([1, 2, 4, 7, 21, 22, 23], [(2, 2, 5), (4, 4, 5), (7, 7, 1)], [])), (7, ([1, 2, 4, 7, 8, 21, 22], [(2, 2, 5), (4, 4, 5), (7, 7, 1)], [])), (8, ([1, 2, 4, 7, 21, 22], [(2, 2, 5), (4, 4, 5), (32, 7, 1)], [])), (9, ([1, 2, 4, 7, 21, 22], [(2, 2, 5), (4, 4, 5), (7, 7, 1)], [])),
  (10, ([1, 2, 4, 7], [(2, 2, 5), (4, 4, 5), (7, 7, 1), (36000, 30, 1), (36001, 31, 1)], [])), (11, ([1, 2, 4, 7, 37], [(2, 2, 5), (4, 4, 5), (7, 7, 1), (30, 30, 1), (31, 31, 1)], [])), (12, ([1, 2, 4, 7], [(2, 2, 5), (4, 4, 5), (7, 7, 1), (30, 30, 1), (31, 31, 1)], [])), (13, ([2, 4, 7], [(2, 2, 5), (4, 4, 5), (7, 7, 1), (30, 30, 1), (31, 31, 1)], [])), (14, ([4, 5, 6], [(4, 4, 5), (7, 7, 1), (30, 30, 1), (31, 31, 1)], []))]
noncomputable def manyN (w : Wv) (n : Int) : Int := min n (readyN w)
noncomputable def readV (w : Wv) (k : Int) : Wv := { w with base := w.base + k, b := w.b.drop k.toNat, got := cutN w.got ⟨w.base, w.base + k⟩ }
open Classical in
noncomputable def readW (w : Wv) (n : Int) : Wv × List Int × Int :=
  if ¬ (mayW w ∧ 0 ≤ n) then (w0, [], 1)
  else if manyN w n ≤ 0 then (w, [], 0)
  else (readV w (manyN w n), w.b.take (manyN w n).toNat, 0)
theorem ready_range {w : Wv} (h : mayW w) : 0 ≤ readyN w ∧ readyN w ≤ w.b.length := by
  have hr := ready_at h
  have hb := h.1.2.2.1
  obtain ⟨g1, g2, g3, _⟩ := gap_spec (may_of h) (n := w.base) hb
  have hl := h.2.1.2.2
  refine ⟨by omega, ?_⟩
  by_cases hc : gap w.got w.base ≤ uptoN w
  · omega
  · exfalso
    by_cases he : uptoN w < w.base
    · have := base_le h.1 h.2.1; omega
    · have h1 := g2 (uptoN w) (by omega) (by omega)
      have := (inn_chain (preB_of h.1 h.2.1).2.2.2 h1).2
      rw [← upto_end] at this
      omega
def st15w (w : Wv) (k : Nat) (i : Nat) : St := ⟨[(1, pI k), (2, .ptr 2 0), (4, .ptr 4 0), (7, .own 7 0 i), (21, pI k), (22, pI i)], [((2, 0), some (.cell (pI w.base))), ((2, 1), some (.cell (pBy w.b))), ((2, 2), some (.cell (pL w.got))), ((2, 3), some (.cell (pI w.cap))), ((2, 4), some (.cell (pI w.fin))),
  ((4, 0), some (.cell (pI 0))), ((4, 1), some (.cell (.c (.lit (.slice none 0 0))))), ((4, 2), some (.cell (.c (.lit (.slice none 0 0))))), ((4, 3), some (.cell (pI 0))), ((4, 4), some (.cell (pI 0))),
  ((7, 0), some (.vec true 1 ((w.b.take i).map encB)))]⟩
def fit3 (w : Wv) : Prop := w.b.length ≤ 1099511627776 ∧ w.got.length ≤ 500
set_option maxRecDepth 4000 in
set_option maxHeartbeats 8000000 in
theorem soundW15 (w : Wv) (n : Int) (hp : fit3 w) : SoundAt Try.prog 15 [pW w, pI n] (.tup [pW (readW w n).1, pBy (readW w n).2.1, pI (readW w n).2.2]) := by
  refine sound_fun (env_ok tT_ok (fs_cons specW11_ok (fs_cons specW13_ok (fs_cons specW29_ok (fs_cons spec11_ok fs_nil)))) _ : EnvOk Try.prog (mkE (specAt [(11, specW11), (13, specW13), (29, specW29), (37, specR cutP)]) live15)) mixed Try.func15 (by kernel_rfl) rfl (by show 2 ≤ _; decide) (by kernel_rfl) ?_
  show wpC _ _ (Post.ret tT _ _) _
  obtain ⟨hb5, hl5⟩ := hp
  have hl : w.got.length ≤ 4611686018427387904 := by omega
  have e11 := specW11_at hl
  by_cases hm : mayW w
  · rw [mayN_true hm] at e11
    by_cases h0 : n < 0
    · have hn : readW w n = (w0, [], 1) := if_pos (by omega)
      rw [hn]
      simp -implicitDefEqProofs only [Try.f15, Try.results15, live15, startS, pW, pI, pB, pBy, li, List.zipIdx_cons, List.zipIdx_nil, e11, h0, go_sem, ↓reduceIte, Nat.reduceEqDiff, Nat.reduceBEq, Nat.reduceAdd, Nat.reduceMul, Nat.reduceLeDiff, Nat.reduceSub, reduceCtorEq, Nat.reduceLT, Int.reduceBEq, Int.reduceBNe, Int.reduceEq, Int.reduceNe, Int.reduceLT, Int.reduceLE]
      exact gots [] (by simp) (mAs_cons mat0 (mAs_cons (mA_c (m_cov (.nil _))) (mAs_cons (mA_c (m_c rfl)) mAs_nil)))
    · have e13 := specW13_at hl
      have e29 := specW29_at' (w := w) ⟨by omega, by omega⟩
      have rr := ready_range hm
      have hmn : (if readyN w < n then readyN w else n) = manyN w n := by unfold manyN; split <;> omega
      simp only [pW, pI] at e13
      simp -implicitDefEqProofs only [Try.f15, Try.results15, live15, startS, pW, pI, pB, pBy, li, List.zipIdx_cons, List.zipIdx_nil, e11, e13, h0, hmn, go_sem, ↓reduceIte, Nat.reduceEqDiff, Nat.reduceBEq, Nat.reduceAdd, Nat.reduceMul, Nat.reduceLeDiff, Nat.reduceSub, reduceCtorEq, Nat.reduceLT, Int.reduceBEq, Int.reduceBNe, Int.reduceEq, Int.reduceNe, Int.reduceLT, Int.reduceLE]
      have hk0 : 0 ≤ manyN w n := by unfold manyN; omega
      have hk1 : manyN w n ≤ w.b.length := by unfold manyN; omega
      generalize hk : manyN w n = K at hk0 hk1 ⊢
      obtain ⟨k, rfl⟩ : ∃ k : Nat, K = k := ⟨K.toNat, by omega⟩
      refine loop_intro (fun m st => ∃ i, i + m = k ∧ st = st15w w k i) k ⟨0, by omega, ?_⟩ ?_
      · simp [st15w, pBy, pI, pL]
      · rintro m st ⟨i, hi, rfl⟩
        have hw := wrap_nat (n := i) (by omega)
        simp -implicitDefEqProofs only [st15w, pBy, pL, pI, li, go_sem, ↓reduceIte, Nat.reduceEqDiff, Nat.reduceBEq, Nat.reduceAdd, Nat.reduceMul, Nat.reduceLeDiff, Nat.reduceSub, reduceCtorEq, Nat.reduceLT, Int.reduceBEq, Int.reduceBNe, Int.reduceEq, Int.reduceNe, Int.reduceLT, Int.reduceLE]
        refine cond_intro _ _ _ _ _ (fun hcc => ?_) (fun hcc => ?_)
        · have hlt : i < k := by simpa using hcc
          have hil : i < w.b.length := by omega
          have hx : (w.b.map encB)[i]? = some (encB (w.b[i]'hil)) := by simp [hil]
          have tl : (w.b.take i).length = i := by simp; omega
          have r1 : (i + 1) * 1 ≤ 140737488355328 := by omega
          have happ : (w.b.take i).map encB ++ [[.lit (.int .u8 (w.b[i]'hil))]] = (w.b.take (i + 1)).map encB := by
            rw [List.take_succ_eq_append_getElem hil, List.map_append]; rfl
          simp -implicitDefEqProofs only [hx, hw, tl, r1, happ, encB, Int.natCast_nonneg, Int.toNat_natCast, List.length_map, go_sem, ↓reduceIte, Nat.reduceEqDiff, Nat.reduceBEq, Nat.reduceAdd, Nat.reduceMul, Nat.reduceLeDiff, Nat.reduceSub, reduceCtorEq, Nat.reduceLT, Int.reduceBEq, Int.reduceBNe, Int.reduceEq, Int.reduceNe, Int.reduceLT, Int.reduceLE]
          refine ⟨m - 1, by omega, i + 1, by omega, ?_⟩
          rfl
        · have hge : i = k := by
            have : ¬ i < k := by simpa using hcc
            omega
          subst hge
          have q0 : ¬ ¬ (mayW w ∧ 0 ≤ n) := fun h => h ⟨hm, by omega⟩
          have tl : (w.b.take i).length = i := by simp; omega
          by_cases hz : (0 : Int) < i
          · have hn : readW w n = (readV w i, w.b.take i, 0) := by
              unfold readW; rw [if_neg q0, hk, if_neg (by omega), Int.toNat_natCast]
            rw [hn]
            have b0 := hm.1.2.2.1
            have b1 := hm.1.2.2.2.1
            have wb : IntKind.i64.wrap (w.base + i) = w.base + i := w64_id (by omega) (by omega)
            have hs : one ⟨w.base, w.base + i⟩ = true := one_iff.2 ⟨b0, by show w.base < w.base + i; omega, by show w.base + (i : Int) ≤ _; omega⟩
            have ecut := specR_at (F := cutP) (l := w.got) (by omega) w.base (w.base + i)
            rw [(cutP_ok (may_of hm) hs (by omega)).1] at ecut
            have le1 : i ≤ w.b.length := by omega
            simp -implicitDefEqProofs only [hz, e29, wb, ecut, le1, Int.natCast_nonneg, Int.toNat_natCast, List.length_map, go_sem, ↓reduceIte, Nat.reduceEqDiff, Nat.reduceBEq, Nat.reduceAdd, Nat.reduceMul, Nat.reduceLeDiff, Nat.reduceSub, reduceCtorEq, Nat.reduceLT, Int.reduceBEq, Int.reduceBNe, Int.reduceEq, Int.reduceNe, Int.reduceLT, Int.reduceLE]
            have eb : (readV w i).b.map encB = ((w.b.map encB).drop i).take (w.b.length - i) := by
              rw [show (readV w i).b = w.b.drop i by rw [readV, Int.toNat_natCast], List.map_drop, List.take_of_length_le (by simp)]
            exact ⟨by rfl, gots [] (by simp) (mAs_cons (mA_agg (mLs_cons (m_c rfl) (mLs_cons (m_own rfl (by simp; omega) eb rfl) (mLs_cons (m_c rfl) (mLs_cons (m_c rfl) (mLs_cons (m_c rfl) mLs_nil)))))) (mAs_cons (mA_c (m_own0 rfl (by simp; omega) rfl rfl)) (mAs_cons (mA_c (m_c rfl)) mAs_nil)))⟩
          · have hn : readW w n = (w, [], 0) := by
              unfold readW; rw [if_neg q0, hk, if_pos (by omega)]
            rw [hn]
            simp -implicitDefEqProofs only [hz, e29, go_sem, ↓reduceIte, Nat.reduceEqDiff, Nat.reduceBEq, Nat.reduceAdd, Nat.reduceMul, Nat.reduceLeDiff, Nat.reduceSub, reduceCtorEq, Nat.reduceLT, Int.reduceBEq, Int.reduceBNe, Int.reduceEq, Int.reduceNe, Int.reduceLT, Int.reduceLE]
            have hi0 : i = 0 := by omega
            subst hi0
            exact gots [] (by simp) (mAs_cons (mA_agg (mLs_cons (m_c rfl) (mLs_cons (m_own0 rfl (by simp) rfl rfl) (mLs_cons (m_own0 rfl (by simp) rfl rfl) (mLs_cons (m_c rfl) (mLs_cons (m_c rfl) mLs_nil)))))) (mAs_cons (mA_c (m_own0 rfl (by simp) rfl rfl)) (mAs_cons (mA_c (m_c rfl)) mAs_nil)))
  · have hn : readW w n = (w0, [], 1) := if_pos (fun h => hm h.1)
    rw [mayN_false hm] at e11
    rw [hn]
    simp -implicitDefEqProofs only [Try.f15, Try.results15, live15, startS, pW, pI, pB, pBy, li, List.zipIdx_cons, List.zipIdx_nil, e11, go_sem, ↓reduceIte, Nat.reduceEqDiff, Nat.reduceBEq, Nat.reduceAdd, Nat.reduceMul, Nat.reduceLeDiff, Nat.reduceSub, reduceCtorEq, Nat.reduceLT, Int.reduceBEq, Int.reduceBNe, Int.reduceEq, Int.reduceNe, Int.reduceLT, Int.reduceLE]
    exact gots [] (by simp) (mAs_cons mat0 (mAs_cons (mA_c (m_cov (.nil _))) (mAs_cons (mA_c (m_c rfl)) mAs_nil)))
noncomputable def specW15 : PM.Spec := specOf (fun x : Wv × Int => [pW x.1, pI x.2]) (fun x => fit3 x.1) (fun x => .tup [pW (readW x.1 x.2).1, pBy (readW x.1 x.2).2.1, pI (readW x.1 x.2).2.2])
theorem specW15_at {w : Wv} (h : fit3 w) (n : Int) : specW15 [pW w, pI n] = some (.tup [pW (readW w n).1, pBy (readW w n).2.1, pI (readW w n).2.2]) :=
  specOf_at (arg := fun x : Wv × Int => [pW x.1, pI x.2]) (fun a b h => Prod.ext (pW_inj (List.cons.inj h).1) (pI_inj (List.cons.inj (List.cons.inj h).2).1)) (a := (w, n)) h
theorem specW15_ok : ∀ vs r, specW15 vs = some r → SoundAt Try.prog 15 vs r := specOf_sound fun (x : Wv × Int) h => soundW15 x.1 x.2 h
end Go.Proofs.We
