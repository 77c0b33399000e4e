/- Put (9). -/
import Derived.Test.YtmmipinjkbkkmaaWe6
set_option linter.unusedSimpArgs false
set_option linter.unusedVariables false
set_option linter.unusedSectionVars false
set_option linter.unnecessarySimpa false
namespace Go.Proofs.We
open Go.PM Go.Proofs

def live9 : List (Nat × Live) := [(0, ([1, 2, 3, 6], [(3, 3, 5), (6, 6, 5)], [])), (1, ([1, 2, 3, 6, 16], [(3, 3, 5), (6, 6, 5)], [])), (2, ([1, 2, 3, 6, 16], [(3, 3, 5), (6, 6, 5)], [])), (3, ([1, 2, 3, 6, 16], [(3, 3, 5), (6, 6, 5)], [])), (4, ([6, 7, 8], [(6, 6, 5)], [])), (5, ([1, 2, 3, 6, 25], [(3, 3, 5), (6, 6, 5)], [])), (6, ([6, 7, 8], [(6, 6, 5)], [])), (7, ([1, 2, 3, 6, 9, 10], [(3, 3, 5), (6, 6, 5)], [])), (8, ([1, 2, 3, 6, 9, 10, 52], [(3, 3, 5), (6, 6, 5)], [])), (9, ([6, 7, 8], [(6, 6, 5), (55000, 55, 1), (55001, 56, 1)], [])), (10, ([1, 2, 3, 6, 9, 10, 11, 12], [(3, 3, 5), (6, 6, 5)], [])), (11, ([1, 2, 3, 6, 9, 10, 11, 12, 65], [(3, 3, 5), (6, 6, 5)], [])), (12, ([6, 7, 8], [(6, 6, 5)], [])), (13, ([1, 2, 3, 6, 9, 10, 11, 13], [(3, 3, 5), (6, 6, 5), (13, 13, 5), (70000, 70, 1), (70001, 71, 1)], [])), (14, ([1, 2, 3, 6, 9, 10, 11, 13], [(3, 3, 5), (6, 6, 5), (13, 13, 5), (70, 70, 1), (71, 71, 1), (72000, 72, 1), (72001, 73, 1)], [])), (15, ([1, 2, 3, 6, 9, 10, 13], [(3, 3, 5), (6, 6, 5), (13, 13, 5), (70, 70, 1), (71, 71, 1), (72, 72, 1)], [])), (16, ([1, 2, 3, 6, 9, 10, 13], [(3, 3, 5), (6, 6, 5), (13, 13, 5), (70, 70, 1), (71, 71, 1), (85, 72, 1)], [])), (17, ([3, 6, 13], [(3, 3, 5), (6, 6, 5), (13, 13, 5), (70, 70, 1), (71, 71, 1), (72, 72, 1)], [])), (18, ([3, 6, 13, 104, 105, 106], [(3, 3, 5), (6, 6, 5), (13, 13, 5), (70, 70, 1), (71, 71, 1), (72, 72, 1)], [])), (19, ([3, 6, 13, 104, 105, 106, 107], [(3, 3, 5), (6, 6, 5), (13, 13, 5), (70, 70, 1), (71, 71, 1), (72, 72, 1)], [])), (20, ([3, 6, 13, 15, 104, 105, 106], [(3, 3, 5), (6, 6, 5), (13, 13, 5), (15, 15, 2), (70, 70, 1), (71, 71, 1), (72, 72, 1)], [])), (21, ([3, 6, 13, 104, 105, 106], [(3, 3, 5), (6, 6, 5), (13, 13, 5), (70, 70, 1), (71, 71, 1), (72, 72, 1)], [])), (22, ([3, 6, 13, 104, 105, 106], [(3, 3, 5), (6, 6, 5), (13, 13, 5), (70, 70, 1), (71, 71, 1), (72, 72, 1)], [])), (23, ([6, 7, 8], [(6, 6, 5), (72, 72, 1)], []))]
def lowN (w : Wv) (at' : Int) : Int := max at' w.base
noncomputable def highN (w : Wv) (at' : Int) (b : List Int) : Int := min (at' + b.length) (edgeN w)
def extB (w : Wv) (U : Int) : List Int := w.b ++ List.replicate (U - w.base - w.b.length).toNat 0
def step9 (w : Wv) (acc : List Int) (s : S) : List Int := PM.put acc (s.f - w.base).toNat (seg w.b (s.f - w.base) (s.u - w.base))
def first9 (w : Wv) (at' : Int) (b : List Int) (lo hi U : Int) : List Int := PM.put (extB w U) (lo - w.base).toNat (seg b (lo - at') (hi - at'))
def putB (w : Wv) (at' : Int) (b : List Int) (lo hi U : Int) : List Int := w.got.foldl (step9 w) (first9 w at' b lo hi U)
noncomputable def newG (w : Wv) (at' : Int) (b : List Int) : List S := addN w.got ⟨lowN w at', highN w at' b⟩
noncomputable def newW (w : Wv) (at' : Int) (b : List Int) : Wv := { w with b := putB w at' b (lowN w at') (highN w at' b) (max (uptoN w) (highN w at' b)), got := newG w at' b }
open Classical in
noncomputable def putW (w : Wv) (at' : Int) (b : List Int) : Wv × Int × Int :=
  if ¬ (mayW w ∧ 0 ≤ at' ∧ at' ≤ 2305843009213693952) then (w0, 0, 1)
  else if w.fin ≠ -1 ∧ w.fin < at' + b.length then (w0, 0, 5)
  else if highN w at' b ≤ lowN w at' then (w, 0, 0)
  else (newW w at' b, size (newG w at' b) - size w.got, 0)

theorem put_map {α β : Type} (f : α → β) (l : List α) (k : Nat) (v : List α) : PM.put (l.map f) k (v.map f) = (PM.put l k v).map f := by simp [PM.put]
theorem upto_last {l : List S} {last n : Int} (h : may' last l = true) (hn : inn l n = true) : ∃ x, l.getLast? = some x ∧ n < x.u := by
  induction l generalizing last with
  | nil => cases hn
  | cons y r ih =>
    have h1 := may'_cons.1 h
    rw [inn_cons] at hn
    cases hr : inn r n with
    | true =>
      obtain ⟨x, hx, hlt⟩ := ih h1.2.2 hr
      refine ⟨x, ?_, hlt⟩
      cases r with
      | nil => cases hr
      | cons z t => simpa using hx
    | false =>
      rw [hr, Bool.or_false] at hn
      have := ins_iff.1 hn
      cases hl : (y :: r).getLast? with
      | none => simp at hl
      | some x => exact ⟨x, rfl, by have := last_le h hl; omega⟩
theorem last_inn {l : List S} {last : Int} {x : S} (h : may' last l = true) (hx : l.getLast? = some x) : inn l (x.u - 1) = true := by
  have hm := List.mem_of_getLast? hx
  have := one_iff.1 (may'_mem h x hm).2
  exact inn_iff.2 ⟨x, hm, by omega, by omega⟩
theorem upto_cases (w : Wv) : (w.got = [] ∧ uptoN w = w.base) ∨ ∃ x, w.got.getLast? = some x ∧ uptoN w = x.u := by
  cases h : w.got.getLast? with
  | none => exact .inl ⟨List.getLast?_eq_none_iff.1 h, by simp [uptoN, h]⟩
  | some x => exact .inr ⟨x, rfl, by simp [uptoN, h]⟩
theorem base_le {w : Wv} (h1 : ok1 w) (h2 : ok2 w) : w.base ≤ uptoN w := by have := h2.2.2; omega
theorem upto_add {w w' : Wv} {s : S} (hm : may w.got = true) (hs : one s = true) (hl : w.got.length ≤ 500) (hb : w.base < s.u) (hw : w'.got = addN w.got s) : uptoN w' = max (uptoN w) s.u := by
  obtain ⟨_, m1, n1, k1⟩ := addP_ok hm hs (by omega)
  have hs' := one_iff.1 hs
  have g1 : inn w'.got (s.u - 1) = true := by rw [hw, n1, ins_iff.2 (by omega)]; simp
  rw [← hw] at m1
  obtain ⟨x, hx, hlt⟩ := upto_last (may_iff.1 m1).1 g1
  have hu : uptoN w' = x.u := by simp [uptoN, hx]
  have g2 := last_inn (may_iff.1 m1).1 hx
  rw [hw, n1] at g2
  have up : x.u ≤ max (uptoN w) s.u := by
    cases hi : inn w.got (x.u - 1) with
    | true =>
      obtain ⟨y, hy, hlt2⟩ := upto_last (may_iff.1 hm).1 hi
      have : uptoN w = y.u := by simp [uptoN, hy]
      omega
    | false =>
      rw [hi, Bool.false_or] at g2
      have := ins_iff.1 g2
      omega
  rcases upto_cases w with ⟨e, h⟩ | ⟨y, hy, h⟩
  · omega
  · have g3 := last_inn (may_iff.1 hm).1 hy
    have g4 : inn w'.got (y.u - 1) = true := by rw [hw, n1, g3]; rfl
    obtain ⟨z, hz, hlt3⟩ := upto_last (may_iff.1 m1).1 g4
    rw [hx] at hz
    cases hz
    omega
theorem edge_eq {w : Wv} (h1 : ok1 w) : edgeN w = min (w.base + w.cap) 2305843009213693952 := by
  obtain ⟨a1, a2, a3, a4, a5⟩ := h1
  unfold edgeN; rw [w64_id (by omega) (by omega)]

theorem chain_mem {hi : Int} : ∀ {l : List S} {a : Int}, chain hi a l → ∀ x ∈ l, a ≤ x.f ∧ x.f < x.u ∧ x.u ≤ hi
  | [], _, _, _, h => by cases h
  | y :: r, a, ⟨h1, h2, h3, h4⟩, x, h => by
    rcases List.mem_cons.1 h with rfl | h
    · exact ⟨h1, h2, h3⟩
    · obtain ⟨i1, i2, i3⟩ := chain_mem h4 x h
      exact ⟨by omega, i2, i3⟩
def st9 (w : Wv) (G : List S) (R : List Int) (i : Nat) : St := ⟨[(3, .ptr 3 0), (6, .ptr 6 0), (13, .ptr 13 0), (104, .own 71 0 w.got.length), (105, pI w.got.length), (106, pI i)], [((3, 0), some (.cell (pI w.base))), ((3, 1), some (.cell (.own 72 0 R.length))), ((3, 2), some (.cell (pL G))), ((3, 3), some (.cell (pI w.cap))), ((3, 4), some (.cell (pI w.fin))),
  ((6, 0), some (.cell (pI 0))), ((6, 1), some (.cell (.c (.lit (.slice none 0 0))))), ((6, 2), some (.cell (.c (.lit (.slice none 0 0))))), ((6, 3), some (.cell (pI 0))), ((6, 4), some (.cell (pI 0))),
  ((13, 0), some (.cell (pI w.base))), ((13, 1), some (.cell (.own 70 0 w.b.length))), ((13, 2), some (.cell (.own 71 0 w.got.length))), ((13, 3), some (.cell (pI w.cap))), ((13, 4), some (.cell (pI w.fin))),
  ((70, 0), some (.vec true 1 (w.b.map encB))), ((71, 0), some (.vec true 2 (w.got.map encS))), ((72, 0), some (.vec true 1 (R.map encB)))]⟩
def preP (w : Wv) (b : List Int) : Prop := fitN w ∧ w.got.length ≤ 500 ∧ b.length ≤ 1099511627776
set_option maxRecDepth 4000 in
set_option maxHeartbeats 8000000 in
theorem soundW9 (w : Wv) (at' : Int) (b : List Int) (hp : preP w b) : SoundAt Try.prog 9 [pW w, pI at', pBy b] (.tup [pW (putW w at' b).1, pI (putW w at' b).2.1, pI (putW w at' b).2.2]) := by
  refine sound_fun (env_ok tT_ok (fs_cons specW11_ok (fs_cons specW28_ok (fs_cons specW29_ok (fs_cons spec10_ok (fs_cons specW31_ok (fs_cons spec19_ok fs_nil)))))) _ : EnvOk Try.prog (mkE (specAt [(11, specW11), (28, specW28), (29, specW29), (30, specR addP), (31, specW31), (32, spec19)]) live9)) mixed Try.func9 (by kernel_rfl) rfl (by show 3 ≤ _; decide) (by kernel_rfl) ?_
  show wpC _ _ (Post.ret tT _ _) _
  obtain ⟨hf, hl5, hb5⟩ := hp
  have hl : w.got.length ≤ 4611686018427387904 := by omega
  have e11 := specW11_at hl
  by_cases hm : mayW w
  · rw [mayN_true hm] at e11
    by_cases h0 : at' < 0
    · have hn : putW w at' b = (w0, 0, 1) := if_pos (by omega)
      rw [hn]
      simp -implicitDefEqProofs only [Try.f9, Try.results9, live9, startS, pW, pI, pB, pBy, li, List.zipIdx_cons, List.zipIdx_nil, e11, h0, go_sem, ↓reduceIte, Nat.reduceEqDiff, Nat.reduceBEq, Nat.reduceAdd, Nat.reduceMul, Nat.reduceLeDiff, Nat.reduceSub, reduceCtorEq, Nat.reduceLT, Int.reduceBEq, Int.reduceBNe, Int.reduceEq, Int.reduceNe, Int.reduceLT, Int.reduceLE]
      exact gots [] (by simp) (mAs_cons mat0 (mAs_cons (mA_c (m_c rfl)) (mAs_cons (mA_c (m_c rfl)) mAs_nil)))
    · by_cases h1 : 2305843009213693952 < at'
      · have hn : putW w at' b = (w0, 0, 1) := if_pos (by omega)
        rw [hn]
        simp -implicitDefEqProofs only [Try.f9, Try.results9, live9, startS, pW, pI, pB, pBy, li, List.zipIdx_cons, List.zipIdx_nil, e11, h0, h1, go_sem, ↓reduceIte, Nat.reduceEqDiff, Nat.reduceBEq, Nat.reduceAdd, Nat.reduceMul, Nat.reduceLeDiff, Nat.reduceSub, reduceCtorEq, Nat.reduceLT, Int.reduceBEq, Int.reduceBNe, Int.reduceEq, Int.reduceNe, Int.reduceLT, Int.reduceLE]
        exact gots [] (by simp) (mAs_cons mat0 (mAs_cons (mA_c (m_c rfl)) (mAs_cons (mA_c (m_c rfl)) mAs_nil)))
      · have q0 : ¬ ¬ (mayW w ∧ 0 ≤ at' ∧ at' ≤ 2305843009213693952) := by simp [hm]; omega
        have w1 : IntKind.i64.wrap (at' + b.length) = at' + b.length := w64_id (by omega) (by omega)
        by_cases h2 : w.fin ≠ -1 ∧ w.fin < at' + b.length
        · have hn : putW w at' b = (w0, 0, 5) := by unfold putW; rw [if_neg q0, if_pos h2]
          rw [hn]
          have g1 : (w.fin == -1) = false := by simpa using h2.1
          have g2 := h2.2
          simp -implicitDefEqProofs only [Try.f9, Try.results9, live9, startS, pW, pI, pB, pBy, li, List.zipIdx_cons, List.zipIdx_nil, List.length_map, e11, h0, h1, g1, g2, w1, go_sem, ↓reduceIte, Nat.reduceEqDiff, Nat.reduceBEq, Nat.reduceAdd, Nat.reduceMul, Nat.reduceLeDiff, Nat.reduceSub, reduceCtorEq, Nat.reduceLT, Int.reduceBEq, Int.reduceBNe, Int.reduceEq, Int.reduceNe, Int.reduceLT, Int.reduceLE]
          exact gots [] (by simp) (mAs_cons mat0 (mAs_cons (mA_c (m_c rfl)) (mAs_cons (mA_c (m_c rfl)) mAs_nil)))
        · have e28 := specW28_at' w
          have key : ((w.fin == -1) = true) ∨ ((w.fin == -1) = false ∧ ¬ w.fin < at' + b.length) := by
            by_cases h4 : w.fin = -1
            · exact .inl (by simpa using h4)
            · exact .inr ⟨by simpa using h4, fun hx => h2 ⟨h4, hx⟩⟩
          rcases key with g1 | ⟨g1, g2⟩ <;> first
            | simp -implicitDefEqProofs only [Try.f9, Try.results9, live9, startS, pW, pI, pB, pBy, li, List.zipIdx_cons, List.zipIdx_nil, List.length_map, e11, e28, h0, h1, g1, g2, w1, go_sem, ↓reduceIte, Nat.reduceEqDiff, Nat.reduceBEq, Nat.reduceAdd, Nat.reduceMul, Nat.reduceLeDiff, Nat.reduceSub, reduceCtorEq, Nat.reduceLT, Int.reduceBEq, Int.reduceBNe, Int.reduceEq, Int.reduceNe, Int.reduceLT, Int.reduceLE]
            | simp -implicitDefEqProofs only [Try.f9, Try.results9, live9, startS, pW, pI, pB, pBy, li, List.zipIdx_cons, List.zipIdx_nil, List.length_map, e11, e28, h0, h1, g1, w1, go_sem, ↓reduceIte, Nat.reduceEqDiff, Nat.reduceBEq, Nat.reduceAdd, Nat.reduceMul, Nat.reduceLeDiff, Nat.reduceSub, reduceCtorEq, Nat.reduceLT, Int.reduceBEq, Int.reduceBNe, Int.reduceEq, Int.reduceNe, Int.reduceLT, Int.reduceLE]
          all_goals
            refine ⟨by rfl, ?_⟩
            have hlo : (if at' < w.base then w.base else at') = lowN w at' := by unfold lowN; split <;> omega
            have hhi : (if edgeN w < at' + b.length then edgeN w else at' + b.length) = highN w at' b := by unfold highN; split <;> omega
            simp only [hlo, hhi]
            by_cases h5 : highN w at' b ≤ lowN w at'
            · have hn : putW w at' b = (w, 0, 0) := by unfold putW; rw [if_neg q0, if_neg h2, if_pos h5]
              rw [hn]
              simp -implicitDefEqProofs only [h5, specW29_at' hf, pW, pI, pBy, go_sem, ↓reduceIte, Nat.reduceEqDiff, Nat.reduceBEq, Nat.reduceAdd, Nat.reduceMul, Nat.reduceLeDiff, Nat.reduceSub, reduceCtorEq, Nat.reduceLT, Int.reduceBEq, Int.reduceBNe, Int.reduceEq, Int.reduceNe, Int.reduceLT, Int.reduceLE]
              exact gots [] (by simp) (mAs_cons (mA_agg (mLs_cons (m_c rfl) (mLs_cons (m_own0 rfl (by simp) rfl rfl) (mLs_cons (m_own0 rfl (by simp) rfl rfl) (mLs_cons (m_c rfl) (mLs_cons (m_c rfl) mLs_nil)))))) (mAs_cons (mA_c (m_c rfl)) (mAs_cons (mA_c (m_c rfl)) mAs_nil)))
            · have hn : putW w at' b = (newW w at' b, size (newG w at' b) - size w.got, 0) := by unfold putW; rw [if_neg q0, if_neg h2, if_neg h5]
              rw [hn]
              obtain ⟨k1, k2, k3, k4⟩ := hm
              have ed := edge_eq k1
              have ⟨a1, a2, a3, a4, a5⟩ := k1
              have ⟨b1, b2, b3⟩ := k2
              have bl := base_le k1 k2
              have rg := upto_range k1
              have lo1 : w.base ≤ lowN w at' := by unfold lowN; omega
              have lo2 : at' ≤ lowN w at' := by unfold lowN; omega
              have hi1 : highN w at' b ≤ edgeN w := by unfold highN; omega
              have hi2 : highN w at' b ≤ at' + b.length := by unfold highN; omega
              have hs : one ⟨lowN w at', highN w at' b⟩ = true := one_iff.2 ⟨by show 0 ≤ lowN w at'; omega, by show lowN w at' < highN w at' b; omega, by show highN w at' b ≤ _; omega⟩
              obtain ⟨ha, m1, n1, k5⟩ := addP_ok a5 hs (by omega)
              have eadd := specR_at (F := addP) (l := w.got) (by omega) (lowN w at') (highN w at' b)
              rw [ha] at eadd
              have hG : addN w.got ⟨lowN w at', highN w at' b⟩ = newG w at' b := rfl
              rw [hG] at eadd ha m1 n1 k5
              have hU := upto_add (w := w) (w' := { w with got := newG w at' b }) a5 hs hl5 (by show w.base < highN w at' b; omega) rfl
              have e31 := specW31_at' (w := { w with got := newG w at' b }) (by show (newG w at' b).length ≤ _; omega)
              rw [hU] at e31
              simp only at e31
              have z1 := spec19_at (l := newG w at' b) (by omega)
              have z2 := spec19_at (l := w.got) (by omega)
              have hUd : ∃ U, U = max (uptoN w) (highN w at' b) := ⟨_, rfl⟩
              obtain ⟨U, hUd⟩ := hUd
              rw [← hUd] at e31
              have U1 : w.base + w.b.length ≤ U := by omega
              have U2 : highN w at' b ≤ U := by omega
              have U3 : U ≤ edgeN w := by omega
              have wU : IntKind.i64.wrap (U - w.base) = U - w.base := w64_id (by omega) (by omega)
              have wn : IntKind.i64.wrap (U - w.base - w.b.length) = U - w.base - w.b.length := w64_id (by omega) (by omega)
              have nn : 0 ≤ U - w.base - w.b.length := by omega
              have rr1 : (U - w.base - w.b.length).toNat * 1 ≤ 140737488355328 := by omega
              have hlen : w.b.length + (List.replicate (U - w.base - w.b.length).toNat [CV.lit (.int .u8 0)]).length = (extB w U).length := by simp [extB]
              have xl : ((extB w U).length : Int) = U - w.base := by simp [extB]; omega
              have rr2 : (extB w U).length * 1 ≤ 140737488355328 := by omega
              have hext : w.b.map encB ++ List.replicate (U - w.base - w.b.length).toNat [CV.lit (.int .u8 0)] = (extB w U).map encB := by simp [extB, encB]
              have wl : IntKind.i64.wrap (lowN w at' - w.base) = lowN w at' - w.base := w64_id (by omega) (by omega)
              have wa : IntKind.i64.wrap (lowN w at' - at') = lowN w at' - at' := w64_id (by omega) (by omega)
              have wb : IntKind.i64.wrap (highN w at' b - at') = highN w at' b - at' := w64_id (by omega) (by omega)
              have s1 : 0 ≤ lowN w at' - w.base := by omega
              have s2 : (lowN w at' - w.base).toNat ≤ (extB w U).length := by omega
              have s3 : 0 ≤ lowN w at' - at' := by omega
              have s4 : 0 ≤ highN w at' b - at' := by omega
              have s5 : (lowN w at' - at').toNat ≤ (highN w at' b - at').toNat := by omega
              have s6 : (highN w at' b - at').toNat ≤ b.length := by omega
              have hsrc : ((b.map encB).take (highN w at' b - at').toNat).drop (lowN w at' - at').toNat = (seg b (lowN w at' - at') (highN w at' b - at')).map encB := by simp [seg, List.map_take, List.map_drop]
              have sl : (seg b (lowN w at' - at') (highN w at' b - at')).length = (highN w at' b - at').toNat - (lowN w at' - at').toNat := by simp [seg]; omega
              have smin : min (seg b (lowN w at' - at') (highN w at' b - at')).length ((extB w U).length - (lowN w at' - w.base).toNat) = (seg b (lowN w at' - at') (highN w at' b - at')).length := by omega
              have s7 : (lowN w at' - w.base).toNat + ((extB w U).length - (lowN w at' - w.base).toNat) ≤ (extB w U).length := by omega
              have hput : ((extB w U).map encB).take (lowN w at' - w.base).toNat ++ (seg b (lowN w at' - at') (highN w at' b - at')).map encB ++ ((extB w U).map encB).drop ((lowN w at' - w.base).toNat + (seg b (lowN w at' - at') (highN w at' b - at')).length) = (first9 w at' b (lowN w at') (highN w at' b) U).map encB := by
                rw [first9, ← put_map, PM.put]; simp
              simp -implicitDefEqProofs only [h5, specW29_at' hf, eadd, e31, pW, pI, pBy, ← hUd, wU, wn, nn, rr1, hlen, rr2, hext, wl, wa, wb, s1, s2, s3, s4, s5, s6, hsrc, smin, s7, hput, List.length_map, go_sem, ↓reduceIte, Nat.reduceEqDiff, Nat.reduceBEq, Nat.reduceAdd, Nat.reduceMul, Nat.reduceLeDiff, Nat.reduceSub, reduceCtorEq, Nat.reduceLT, Int.reduceBEq, Int.reduceBNe, Int.reduceEq, Int.reduceNe, Int.reduceLT, Int.reduceLE]
              refine ⟨by rfl, ⟨by rfl, ?_⟩⟩
              have hF : (first9 w at' b (lowN w at') (highN w at' b) U).length = (extB w U).length := by
                rw [first9, PM.put]; simp [sl]; omega
              refine loop_intro (fun n st => ∃ i R, i + n = w.got.length ∧ R.length = (extB w U).length ∧ (newW w at' b).b = (w.got.drop i).foldl (step9 w) R ∧ st = st9 w (newG w at' b) R i) w.got.length ⟨0, first9 w at' b (lowN w at') (highN w at' b) U, by omega, ?_, ?_, ?_⟩ ?_
              · exact hF
              · rw [newW, putB, hUd]; rfl
              · simp [st9, pL, pI, hF]
              · rintro n st ⟨i, R, hi, hR, hB, rfl⟩
                have hw := wrap_nat (n := i) (by omega)
                simp -implicitDefEqProofs only [st9, pBy, pL, pI, li, List.length_map, go_sem, ↓reduceIte, Nat.reduceEqDiff, Nat.reduceBEq, Nat.reduceAdd, Nat.reduceMul, Nat.reduceLeDiff, Nat.reduceSub, reduceCtorEq, Nat.reduceLT, Int.reduceBEq, Int.reduceBNe, Int.reduceEq, Int.reduceNe, Int.reduceLT, Int.reduceLE]
                refine cond_intro _ _ _ _ _ (fun hcc => ?_) (fun hcc => ?_)
                · have hlt : i < w.got.length := by simpa using hcc
                  have hx : (w.got.map encS)[i]? = some (encS w.got[i]) := by simp [hlt]
                  have hdrop : w.got.drop i = w.got[i] :: w.got.drop (i + 1) := List.drop_eq_getElem_cons hlt
                  have hmem : w.got[i] ∈ w.got := List.getElem_mem hlt
                  generalize w.got[i] = x at hx hdrop hmem
                  obtain ⟨x1, x2, x3⟩ := chain_mem (preB_of k1 k2).2.2.2 x hmem
                  have wf : IntKind.i64.wrap (x.f - w.base) = x.f - w.base := w64_id (by omega) (by omega)
                  have wu : IntKind.i64.wrap (x.u - w.base) = x.u - w.base := w64_id (by omega) (by omega)
                  have p1 : 0 ≤ x.f - w.base := by omega
                  have p2 : (x.f - w.base).toNat ≤ R.length := by omega
                  have p3 : 0 ≤ x.u - w.base := by omega
                  have p4 : (x.f - w.base).toNat ≤ (x.u - w.base).toNat := by omega
                  have p5 : (x.u - w.base).toNat ≤ w.b.length := by omega
                  have p6 : (x.f - w.base).toNat + ((x.u - w.base).toNat - (x.f - w.base).toNat) ≤ w.b.length := by omega
                  have hsrc2 : ((w.b.map encB).drop (x.f - w.base).toNat).take ((x.u - w.base).toNat - (x.f - w.base).toNat) = (seg w.b (x.f - w.base) (x.u - w.base)).map encB := by
                    rw [seg, List.drop_take, List.map_take, List.map_drop]
                  have sl2 : (seg w.b (x.f - w.base) (x.u - w.base)).length = (x.u - w.base).toNat - (x.f - w.base).toNat := by simp [seg]; omega
                  have smin2 : min (seg w.b (x.f - w.base) (x.u - w.base)).length (R.length - (x.f - w.base).toNat) = (seg w.b (x.f - w.base) (x.u - w.base)).length := by omega
                  have p7 : (x.f - w.base).toNat + (R.length - (x.f - w.base).toNat) ≤ R.length := by omega
                  have hput2 : (R.map encB).take (x.f - w.base).toNat ++ (seg w.b (x.f - w.base) (x.u - w.base)).map encB ++ (R.map encB).drop ((x.f - w.base).toNat + (seg w.b (x.f - w.base) (x.u - w.base)).length) = (step9 w R x).map encB := by
                    rw [step9, ← put_map, PM.put]; simp
                  have hR2 : (step9 w R x).length = R.length := by rw [step9, PM.put]; simp [sl2]; omega
                  simp -implicitDefEqProofs only [hx, hlt, wf, wu, p1, p2, p3, p4, p5, p6, hsrc2, smin2, p7, hput2, Int.natCast_nonneg, Int.toNat_natCast, encS, li, List.length_map, go_sem, ↓reduceIte, Nat.reduceEqDiff, Nat.reduceBEq, Nat.reduceAdd, Nat.reduceMul, Nat.reduceLeDiff, Nat.reduceSub, reduceCtorEq, Nat.reduceLT, Int.reduceBEq, Int.reduceBNe, Int.reduceEq, Int.reduceNe, Int.reduceLT, Int.reduceLE]
                  refine ⟨by rfl, ?_⟩
                  simp -implicitDefEqProofs only [hw, go_sem, ↓reduceIte, Nat.reduceEqDiff, Nat.reduceBEq, Nat.reduceAdd, Nat.reduceMul, Nat.reduceLeDiff, Nat.reduceSub, reduceCtorEq, Nat.reduceLT, Int.reduceBEq, Int.reduceBNe, Int.reduceEq, Int.reduceNe, Int.reduceLT, Int.reduceLE]
                  refine ⟨n - 1, by omega, i + 1, step9 w R x, by omega, by omega, ?_, ?_⟩
                  · rw [hB, hdrop]; rfl
                  · rw [hR2]
                · have hge : w.got.drop i = [] := List.drop_eq_nil_of_le (by simpa using hcc)
                  rw [hge] at hB
                  have hB : (newW w at' b).b = R := hB
                  have wz : IntKind.i64.wrap (size (newG w at' b) - size w.got) = size (newG w at' b) - size w.got := by
                    have t1 := lenL_range (may_iff.1 m1).1
                    have t2 := lenL_range (may_iff.1 a5).1
                    rw [size_may m1, size_may a5]
                    exact w64_id (by omega) (by omega)
                  simp -implicitDefEqProofs only [z1, z2, wz, go_sem, ↓reduceIte, Nat.reduceEqDiff, Nat.reduceBEq, Nat.reduceAdd, Nat.reduceMul, Nat.reduceLeDiff, Nat.reduceSub, reduceCtorEq, Nat.reduceLT, Int.reduceBEq, Int.reduceBNe, Int.reduceEq, Int.reduceNe, Int.reduceLT, Int.reduceLE]
                  exact ⟨by rfl, gots [] (by simp) (mAs_cons (mA_agg (mLs_cons (m_c rfl) (mLs_cons (m_own0 rfl (by simp) (by rw [hB]) rfl) (mLs_cons (m_c rfl) (mLs_cons (m_c rfl) (mLs_cons (m_c rfl) mLs_nil)))))) (mAs_cons (mA_c (m_c rfl)) (mAs_cons (mA_c (m_c rfl)) mAs_nil)))⟩
  · have hn : putW w at' b = (w0, 0, 1) := if_pos (fun h => hm h.1)
    rw [mayN_false hm] at e11
    rw [hn]
    simp -implicitDefEqProofs only [Try.f9, Try.results9, live9, startS, pW, pI, pB, pBy, li, List.zipIdx_cons, List.zipIdx_nil, e11, go_sem, ↓reduceIte, Nat.reduceEqDiff, Nat.reduceBEq, Nat.reduceAdd, Nat.reduceMul, Nat.reduceLeDiff, Nat.reduceSub, reduceCtorEq, Nat.reduceLT, Int.reduceBEq, Int.reduceBNe, Int.reduceEq, Int.reduceNe, Int.reduceLT, Int.reduceLE]
    exact gots [] (by simp) (mAs_cons mat0 (mAs_cons (mA_c (m_c rfl)) (mAs_cons (mA_c (m_c rfl)) mAs_nil)))
end Go.Proofs.We
