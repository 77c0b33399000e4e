/- WeaveTwice (3), walked. -/
import Derived.Test.YtmmipinjkbkkmaaWe9
set_option linter.unusedSimpArgs false
set_option linter.unusedVariables false
set_option linter.unusedSectionVars false
set_option linter.unnecessarySimpa false
namespace Go.Proofs.We
open Go.PM Go.Proofs

theorem getD_ext {a b : List Int} (hl : a.length = b.length) (h : ∀ j : Nat, a.getD j 0 = b.getD j 0) : a = b := by
  apply List.ext_getElem hl
  intro i h1 h2
  have := h i
  simpa [List.getD_eq_getElem?_getD, List.getElem?_eq_getElem h1, List.getElem?_eq_getElem h2] using this
theorem may_of {w : Wv} (h : mayW w) : may w.got = true := h.1.2.2.2.2
theorem ready_at {w : Wv} (h : mayW w) : readyN w = gap w.got w.base - w.base := by
  have hb := h.1.2.2.1
  have hc := h.1.2.2.2.1
  obtain ⟨g1, _, _, g4⟩ := gap_spec (may_of h) (n := w.base) hb
  have := g4 (by omega)
  rw [readyN, if_pos (mayN_true h)]
  exact w64_id (by omega) (by omega)
/-- What is put where all has come is nothing. -/
theorem put_again {w : Wv} {at' : Int} {b o : List Int} (hm : mayW w) (h0 : 0 ≤ at') (h1 : at' ≤ 2305843009213693952) (h2 : ¬ (w.fin ≠ -1 ∧ w.fin < at' + b.length)) (h5 : ¬ highN w at' b ≤ lowN w at') (hl5 : w.got.length ≤ 499) (ho : o.length = b.length) :
    putW (newW w at' b) at' o = (newW w at' b, 0, 0) := by
  have M := made hm h0 h1 h2 h5 (by omega)
  generalize hu : newW w at' b = u at M ⊢
  have e1 : lowN u at' = lowN w at' := by rw [← hu]; rfl
  have e2 : highN u at' o = highN w at' b := by rw [← hu]; unfold highN; rw [ho]; rfl
  have e3 : u.fin = w.fin := by rw [← hu]; rfl
  have e4 : u.base = w.base := by rw [← hu]; rfl
  have hf : ¬ (u.fin ≠ -1 ∧ u.fin < at' + o.length) := by rw [e3, ho]; exact h2
  have h5' : ¬ highN u at' o ≤ lowN u at' := by rw [e1, e2]; exact h5
  have hmu : mayW u := hu ▸ M.may
  have M2 := made (w := u) (at' := at') (b := o) hmu h0 h1 hf h5' (by have := M.len; rw [hu] at this; omega)
  have iu : ∀ n, inn u.got n = (inn w.got n || ins ⟨lowN w at', highN w at' b⟩ n) := fun n => by have := M.inn n; rwa [hu] at this
  have hcov : ∀ n, ins ⟨lowN w at', highN w at' b⟩ n = true → inn u.got n = true := fun n h => by rw [iu, h, Bool.or_true]
  have hG : newG u at' o = u.got := may_ext (may_of M2.may) (may_of hmu) fun n => by
    have : inn (newG u at' o) n = _ := M2.inn n
    rw [this, e1, e2]
    cases hi : inn u.got n with
    | true => rfl
    | false =>
      cases hj : ins ⟨lowN w at', highN w at' b⟩ n with
      | true => have := hcov n hj; rw [hi] at this; cases this
      | false => rfl
  have hup : uptoN (newW u at' o) = uptoN u := by
    rw [M2.upto, e2]
    have : uptoN u = max (uptoN w) (highN w at' b) := by have := M.upto; rwa [hu] at this
    omega
  have hB : (newW u at' o).b = u.b := by
    refine getD_ext ?_ fun j => ?_
    · have l1 := M2.may.2.1.2.2
      have l2 := hmu.2.1.2.2
      rw [hup] at l1
      have l3 : (newW u at' o).base = u.base := rfl
      omega
    · rw [M2.get j, e1, e2]
      split
      · rfl
      · rename_i hi
        split
        · rename_i hj
          exact absurd (hcov _ hj) hi
        · rfl
  have hW : newW u at' o = u := by
    have h1 : newW u at' o = { u with b := (newW u at' o).b, got := newG u at' o } := rfl
    rw [h1, hB, hG]
  unfold putW
  rw [if_neg (by simp only [Classical.not_not]; exact ⟨hmu, h0, h1⟩), if_neg hf, if_neg h5', hW, hG, Int.sub_self]
theorem ready_more {w : Wv} {at' : Int} {b : List Int} (hm : mayW w) (M : Made w at' b) : readyN w ≤ readyN (newW w at' b) := by
  rw [ready_at hm, ready_at M.may]
  have hb : 0 ≤ w.base := hm.1.2.2.1
  obtain ⟨g1, g2, g3, _⟩ := gap_spec (may_of hm) (n := w.base) hb
  obtain ⟨k1, k2, k3, _⟩ := gap_spec (may_of M.may) (n := (newW w at' b).base) hb
  have hbase : (newW w at' b).base = w.base := rfl
  rw [hbase] at k1 k2 k3 ⊢
  by_cases hc : gap w.got w.base ≤ gap (newW w at' b).got w.base
  · omega
  · have := g2 (gap (newW w at' b).got w.base) k1 (by omega)
    rw [M.inn, this] at k3
    cases k3

set_option maxRecDepth 4000 in
set_option maxHeartbeats 8000000 in
theorem lawW3 (w : Wv) (at' : Int) (b o : List Int) : SoundAt Try.prog 3 [pW w, pI at', pBy b, pBy o] (pB true) := by
  have e8 := specW8_at w
  simp only [pW, pB] at e8
  by_cases hf : fewN w = true
  · by_cases hb : b.length ≤ 300
    · by_cases ho : b.length = o.length
      · have hfew : w.b.length ≤ 300 ∧ w.got.length ≤ 100 := by simpa [fewN] using hf
        have g1 : ¬ (300 : Int) < b.length := by omega
        have g2 : ((b.length : Int) == o.length) = true := by simp; omega
        rw [hf] at e8
        have pw : preP w b := ⟨⟨by omega, by omega⟩, by omega, by omega⟩
        have e9 := specW9_at pw at'
        have tail : ∀ u n, putW w at' b = (u, n, 0) → putW u at' o = (u, 0, 0) → mayW w → mayW u → 0 ≤ n → n ≤ b.length → edgeF u = edgeF w → readyN w ≤ readyN u → u.got.length ≤ 200 → u.b.length ≤ 1000000 →
            SoundAt Try.prog 3 [pW w, pI at', pBy b, pBy o] (pB true) := by
          intro u n h1 h2 hm hmu n0 n1 he hr hl1 hl2
          rw [h1] at e9
          have e9b := specW9_at (w := u) (b := o) ⟨⟨by omega, by omega⟩, by omega, by omega⟩ at'
          rw [h2] at e9b
          have e10 := specW10_at (w := u) ⟨by omega, by omega⟩
          have e11 := specW11_at (w := u) (by omega)
          have e12 := specW12_at (w := u) (by omega)
          have e12b := specW12_at (w := w) (by omega)
          have e13 := specW13_at (w := u) (by omega)
          have e13b := specW13_at (w := w) (by omega)
          rw [mayN_true hmu] at e11
          rw [he] at e12
          have e5 : (edgeF w == edgeF w) = true := by simp
          simp only [pW, pI, pB, pBy] at e9 e9b e10 e12 e12b e13 e13b
          refine sound_fun (env_ok tT_ok (fs_cons specW7_ok (fs_cons specW8_ok (fs_cons specW9_ok (fs_cons specW10_ok (fs_cons specW11_ok (fs_cons specW12_ok (fs_cons specW13_ok fs_nil))))))) _ : EnvOk Try.prog (mkE (specAt [(7, specW7), (8, specW8), (9, specW9), (10, specW10), (11, specW11), (12, specW12), (13, specW13)]) [(0, ([1, 2, 3, 4], [(4, 4, 5)], [])), (1, ([1, 2, 3, 4, 9], [(4, 4, 5)], [])), (2, ([1, 2, 3, 4, 9, 10], [(4, 4, 5)], [])), (3, ([1, 2, 3, 4, 9, 37], [(4, 4, 5)], [])), (4, ([8], [], [])), (5, ([1, 2, 3, 4, 11, 12, 13], [(4, 4, 5), (11, 11, 5)], [])), (6, ([2, 4, 11, 12, 13, 14, 15, 16], [(4, 4, 5), (11, 11, 5), (14, 14, 5)], [])), (7, ([2, 4, 11, 12, 14, 15, 16, 56], [(4, 4, 5), (11, 11, 5), (14, 14, 5)], [])), (8, ([8], [], [])), (9, ([8], [], []))])) mixed Try.func3 (by kernel_rfl) rfl (by show 4 ≤ _; decide) (by kernel_rfl) ?_
          show wpC _ _ (Post.ret tT _ _) _
          simp -implicitDefEqProofs only [Try.f3, Try.results3, startS, pW, pI, pBy, pB, li, List.zipIdx_cons, List.zipIdx_nil, List.length_map, specW7_at, e8, e9, e9b, e10, e11, e12, e12b, e13, e13b, g1, g2, n0, n1, e5, hr, go_sem, ↓reduceIte, Nat.reduceEqDiff, Nat.reduceBEq, Nat.reduceAdd, Nat.reduceMul, Nat.reduceLeDiff, Nat.reduceSub, reduceCtorEq, Nat.reduceLT, Int.reduceBEq, Int.reduceBNe, Int.reduceEq, Int.reduceNe, Int.reduceLT, Int.reduceLE]
          exact ⟨by rfl, got_c rfl⟩
        have bad : ∀ k, putW w at' b = (w0, 0, k) → (k == 0) = false →
            SoundAt Try.prog 3 [pW w, pI at', pBy b, pBy o] (pB true) := by
          intro k h1 hk
          rw [h1] at e9
          have e9b := specW9_at (w := w0) (b := o) ⟨⟨by decide, by decide⟩, by decide, by omega⟩ at'
          have hz := putW_w0 at' o
          rw [hz] at e9b
          generalize (putW w0 at' o).1 = V at e9b
          generalize (putW w0 at' o).2.2 = F at e9b
          simp only [pW, pI, pB, pBy] at e9 e9b
          refine sound_fun (env_ok tT_ok (fs_cons specW7_ok (fs_cons specW8_ok (fs_cons specW9_ok (fs_cons specW10_ok (fs_cons specW11_ok (fs_cons specW12_ok (fs_cons specW13_ok fs_nil))))))) _ : EnvOk Try.prog (mkE (specAt [(7, specW7), (8, specW8), (9, specW9), (10, specW10), (11, specW11), (12, specW12), (13, specW13)]) [(0, ([1, 2, 3, 4], [(4, 4, 5)], [])), (1, ([1, 2, 3, 4, 9], [(4, 4, 5)], [])), (2, ([1, 2, 3, 4, 9, 10], [(4, 4, 5)], [])), (3, ([1, 2, 3, 4, 9, 37], [(4, 4, 5)], [])), (4, ([8], [], [])), (5, ([1, 2, 3, 4, 11, 12, 13], [(4, 4, 5), (11, 11, 5)], [])), (6, ([2, 4, 11, 12, 13, 14, 15, 16], [(4, 4, 5), (11, 11, 5), (14, 14, 5)], [])), (7, ([2, 4, 11, 12, 14, 15, 16, 56], [(4, 4, 5), (11, 11, 5), (14, 14, 5)], [])), (8, ([8], [], [])), (9, ([8], [], []))])) mixed Try.func3 (by kernel_rfl) rfl (by show 4 ≤ _; decide) (by kernel_rfl) ?_
          show wpC _ _ (Post.ret tT _ _) _
          simp -implicitDefEqProofs only [Try.f3, Try.results3, startS, pW, pI, pBy, pB, li, List.zipIdx_cons, List.zipIdx_nil, List.length_map, specW7_at, e8, e9, e9b, g1, g2, hk, go_sem, ↓reduceIte, Nat.reduceEqDiff, Nat.reduceBEq, Nat.reduceAdd, Nat.reduceMul, Nat.reduceLeDiff, Nat.reduceSub, reduceCtorEq, Nat.reduceLT, Int.reduceBEq, Int.reduceBNe, Int.reduceEq, Int.reduceNe, Int.reduceLT, Int.reduceLE]
          exact got_c rfl
        by_cases q0 : mayW w ∧ 0 ≤ at' ∧ at' ≤ 2305843009213693952
        · by_cases q1 : w.fin ≠ -1 ∧ w.fin < at' + b.length
          · refine bad 5 ?_ rfl
            unfold putW; rw [if_neg (by simpa using q0), if_pos q1]
          · obtain ⟨hm, h0, h1⟩ := q0
            have q0' : ¬ ¬ (mayW w ∧ 0 ≤ at' ∧ at' ≤ 2305843009213693952) := fun h => h ⟨hm, h0, h1⟩
            by_cases q2 : highN w at' b ≤ lowN w at'
            · refine tail w 0 ?_ ?_ hm hm (by omega) (by omega) rfl (Int.le_refl _) (by omega) (by omega)
              · unfold putW; rw [if_neg q0', if_neg q1, if_pos q2]
              · have e : highN w at' o = highN w at' b := by unfold highN; rw [← ho]
                unfold putW; rw [if_neg q0', if_neg (by rw [← ho]; exact q1), if_pos (by rw [e]; exact q2)]
            · have M := made hm h0 h1 q1 q2 (by omega)
              have hs := M.size
              have ed : edgeF (newW w at' b) = edgeF w := by rw [edgeF, edgeF, if_pos (mayN_true M.may), if_pos (mayN_true hm)]; rfl
              have hl := M.len
              have hlb := M.may.2.1.2.2
              have hle := M.may.2.1.2.1
              have hr := upto_range M.may.1
              have hcap : (newW w at' b).cap ≤ 65536 := M.may.1.2.1
              have hb0 : 0 ≤ (newW w at' b).base := M.may.1.2.2.1
              have hed := edge_eq M.may.1
              have hhi : highN w at' b ≤ at' + b.length := by unfold highN; omega
              have hlo : at' ≤ lowN w at' := by unfold lowN; omega
              refine tail (newW w at' b) (size (newG w at' b) - size w.got) ?_ (put_again hm h0 h1 q1 q2 (by omega) ho.symm) hm M.may hs.1 (by omega) ed (ready_more hm M) (by omega) (by omega)
              unfold putW; rw [if_neg q0', if_neg q1, if_neg q2]
        · refine bad 1 ?_ rfl
          unfold putW; rw [if_pos q0]
      · have g1 : ¬ (300 : Int) < b.length := by omega
        have g2 : ((b.length : Int) == o.length) = false := by simp; omega
        rw [hf] at e8
        refine sound_fun (env_ok tT_ok (fs_cons specW7_ok (fs_cons specW8_ok (fs_cons specW9_ok (fs_cons specW10_ok (fs_cons specW11_ok (fs_cons specW12_ok (fs_cons specW13_ok fs_nil))))))) _ : EnvOk Try.prog (mkE (specAt [(7, specW7), (8, specW8), (9, specW9), (10, specW10), (11, specW11), (12, specW12), (13, specW13)]) [(0, ([1, 2, 3, 4], [(4, 4, 5)], [])), (1, ([1, 2, 3, 4, 9], [(4, 4, 5)], [])), (2, ([1, 2, 3, 4, 9, 10], [(4, 4, 5)], [])), (3, ([1, 2, 3, 4, 9, 37], [(4, 4, 5)], [])), (4, ([8], [], [])), (5, ([1, 2, 3, 4, 11, 12, 13], [(4, 4, 5), (11, 11, 5)], [])), (6, ([2, 4, 11, 12, 13, 14, 15, 16], [(4, 4, 5), (11, 11, 5), (14, 14, 5)], [])), (7, ([2, 4, 11, 12, 14, 15, 16, 56], [(4, 4, 5), (11, 11, 5), (14, 14, 5)], [])), (8, ([8], [], [])), (9, ([8], [], []))])) mixed Try.func3 (by kernel_rfl) rfl (by show 4 ≤ _; decide) (by kernel_rfl) ?_
        show wpC _ _ (Post.ret tT _ _) _
        simp -implicitDefEqProofs only [Try.f3, Try.results3, startS, pW, pI, pBy, pB, li, List.zipIdx_cons, List.zipIdx_nil, List.length_map, specW7_at, e8, g1, g2, go_sem, ↓reduceIte, Nat.reduceEqDiff, Nat.reduceBEq, Nat.reduceAdd, Nat.reduceMul, Nat.reduceLeDiff, Nat.reduceSub, reduceCtorEq, Nat.reduceLT, Int.reduceBEq, Int.reduceBNe, Int.reduceEq, Int.reduceNe, Int.reduceLT, Int.reduceLE]
        exact got_c rfl
    · have g1 : (300 : Int) < b.length := by omega
      rw [hf] at e8
      refine sound_fun (env_ok tT_ok (fs_cons specW7_ok (fs_cons specW8_ok (fs_cons specW9_ok (fs_cons specW10_ok (fs_cons specW11_ok (fs_cons specW12_ok (fs_cons specW13_ok fs_nil))))))) _ : EnvOk Try.prog (mkE (specAt [(7, specW7), (8, specW8), (9, specW9), (10, specW10), (11, specW11), (12, specW12), (13, specW13)]) [(0, ([1, 2, 3, 4], [(4, 4, 5)], [])), (1, ([1, 2, 3, 4, 9], [(4, 4, 5)], [])), (2, ([1, 2, 3, 4, 9, 10], [(4, 4, 5)], [])), (3, ([1, 2, 3, 4, 9, 37], [(4, 4, 5)], [])), (4, ([8], [], [])), (5, ([1, 2, 3, 4, 11, 12, 13], [(4, 4, 5), (11, 11, 5)], [])), (6, ([2, 4, 11, 12, 13, 14, 15, 16], [(4, 4, 5), (11, 11, 5), (14, 14, 5)], [])), (7, ([2, 4, 11, 12, 14, 15, 16, 56], [(4, 4, 5), (11, 11, 5), (14, 14, 5)], [])), (8, ([8], [], [])), (9, ([8], [], []))])) mixed Try.func3 (by kernel_rfl) rfl (by show 4 ≤ _; decide) (by kernel_rfl) ?_
      show wpC _ _ (Post.ret tT _ _) _
      simp -implicitDefEqProofs only [Try.f3, Try.results3, startS, pW, pI, pBy, pB, li, List.zipIdx_cons, List.zipIdx_nil, List.length_map, specW7_at, e8, g1, go_sem, ↓reduceIte, Nat.reduceEqDiff, Nat.reduceBEq, Nat.reduceAdd, Nat.reduceMul, Nat.reduceLeDiff, Nat.reduceSub, reduceCtorEq, Nat.reduceLT, Int.reduceBEq, Int.reduceBNe, Int.reduceEq, Int.reduceNe, Int.reduceLT, Int.reduceLE]
      exact got_c rfl
  · have hf : fewN w = false := by simpa using hf
    rw [hf] at e8
    refine sound_fun (env_ok tT_ok (fs_cons specW7_ok (fs_cons specW8_ok (fs_cons specW9_ok (fs_cons specW10_ok (fs_cons specW11_ok (fs_cons specW12_ok (fs_cons specW13_ok fs_nil))))))) _ : EnvOk Try.prog (mkE (specAt [(7, specW7), (8, specW8), (9, specW9), (10, specW10), (11, specW11), (12, specW12), (13, specW13)]) [(0, ([1, 2, 3, 4], [(4, 4, 5)], [])), (1, ([1, 2, 3, 4, 9], [(4, 4, 5)], [])), (2, ([1, 2, 3, 4, 9, 10], [(4, 4, 5)], [])), (3, ([1, 2, 3, 4, 9, 37], [(4, 4, 5)], [])), (4, ([8], [], [])), (5, ([1, 2, 3, 4, 11, 12, 13], [(4, 4, 5), (11, 11, 5)], [])), (6, ([2, 4, 11, 12, 13, 14, 15, 16], [(4, 4, 5), (11, 11, 5), (14, 14, 5)], [])), (7, ([2, 4, 11, 12, 14, 15, 16, 56], [(4, 4, 5), (11, 11, 5), (14, 14, 5)], [])), (8, ([8], [], [])), (9, ([8], [], []))])) mixed Try.func3 (by kernel_rfl) rfl (by show 4 ≤ _; decide) (by kernel_rfl) ?_
    show wpC _ _ (Post.ret tT _ _) _
    simp -implicitDefEqProofs only [Try.f3, Try.results3, startS, pW, pI, pBy, pB, li, List.zipIdx_cons, List.zipIdx_nil, List.length_map, specW7_at, e8, go_sem, ↓reduceIte, Nat.reduceEqDiff, Nat.reduceBEq, Nat.reduceAdd, Nat.reduceMul, Nat.reduceLeDiff, Nat.reduceSub, reduceCtorEq, Nat.reduceLT, Int.reduceBEq, Int.reduceBNe, Int.reduceEq, Int.reduceNe, Int.reduceLT, Int.reduceLE]
    exact got_c rfl
end Go.Proofs.We
