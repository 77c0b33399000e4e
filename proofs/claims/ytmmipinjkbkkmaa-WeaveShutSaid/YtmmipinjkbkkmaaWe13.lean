/- WeaveShut (6), walked. -/
import Derived.Test.YtmmipinjkbkkmaaWe12
set_option linter.unusedSimpArgs false
set_option linter.unusedVariables false
set_option linter.unusedSectionVars false
set_option linter.unnecessarySimpa false
namespace Go.Proofs.We
open Go.PM Go.Proofs

noncomputable def specW19 : PM.Spec := specOf (fun x : Wv × Int => [pW x.1, pI x.2]) (fun x => fitN x.1) (fun x => .tup [pW (shutN x.1 x.2).1, pI (shutN x.1 x.2).2])
theorem specW19_at {w : Wv} (h : fitN w) (n : Int) : specW19 [pW w, pI n] = some (.tup [pW (shutN w n).1, pI (shutN w n).2]) :=
  specOf_at (arg := fun x : Wv × Int => [pW x.1, pI x.2]) (fun a b h => Prod.ext (pW_inj (List.cons.inj h).1) (pI_inj (List.cons.inj (List.cons.inj h).2).1)) (a := (w, n)) h
theorem specW19_ok : ∀ vs r, specW19 vs = some r → SoundAt Try.prog 19 vs r := specOf_sound fun (x : Wv × Int) h => soundW19 x.1 x.2 h
noncomputable def specW24 : PM.Spec := specOf (fun w : Wv => [pW w]) (fun w => w.got.length ≤ 4611686018427387904) (fun w => pB (overN w))
theorem specW24_at {w : Wv} (h : w.got.length ≤ 4611686018427387904) : specW24 [pW w] = some (pB (overN w)) := specOf_at (arg := fun w : Wv => [pW w]) (fun a b h => pW_inj (List.cons.inj h).1) (a := w) h
theorem specW24_ok : ∀ vs r, specW24 vs = some r → SoundAt Try.prog 24 vs r := specOf_sound fun w h => soundW24 w h
theorem read_good {w : Wv} {at' : Int} (hm : mayW w) (hf : w.fin = at') (hl : w.got.length ≤ 500) : ∃ r out, readW w 70000 = (r, out, 0) ∧ mayW r ∧ r.fin = at' ∧ r.got.length ≤ 501 := by
  have rr := ready_range hm
  have hl1 := hm.2.1.2.2
  have hl2 := hm.2.1.2.1
  have ed := edge_eq hm.1
  have hc := hm.1.2.1
  have hmn : manyN w 70000 = readyN w := by unfold manyN; omega
  unfold readW
  rw [if_neg (fun h => h ⟨hm, by omega⟩), hmn]
  by_cases h : readyN w ≤ 0
  · rw [if_pos h]; exact ⟨w, [], rfl, hm, hf, by omega⟩
  · rw [if_neg h]
    have L := left hm (by omega) (Int.le_refl _) hl
    exact ⟨_, _, rfl, L.may, hf, by have := L.len; omega⟩
theorem over_ready {w : Wv} (hm : mayW w) (h : w.base = w.fin) : readyN w = 0 := by
  have rr := ready_range hm
  have hl := hm.2.1.2.2
  have hb := hm.1.2.2.1
  rcases hm.2.2.1 with h3 | h3 <;> omega

set_option maxRecDepth 4000 in
set_option maxHeartbeats 8000000 in
theorem lawW6 (w : Wv) (at' : Int) (b : List Int) : SoundAt Try.prog 6 [pW w, pI at', pBy b] (pB true) := by
  have e8 := specW8_at w
  simp only [pW, pB] at e8
  by_cases hf : fewN w = true
  · by_cases hb : b.length ≤ 300
    · have hfew : w.b.length ≤ 300 ∧ w.got.length ≤ 100 := by simpa [fewN] using hf
      have g1 : ¬ (300 : Int) < b.length := by omega
      rw [hf] at e8
      have e11 := specW11_at (w := w) (by omega)
      by_cases hm : mayW w
      · rw [mayN_true hm] at e11
        have e19 := specW19_at (w := w) ⟨by omega, by omega⟩ at'
        have bad : ∀ k, shutN w at' = (w0, k) → (k == 0) = false → SoundAt Try.prog 6 [pW w, pI at', pBy b] (pB true) := by
          intro k h1 hk
          rw [h1] at e19
          have z0 : (((0 : Nat) : Int) == 0) = true := rfl
          simp only [pW, pI, w0, List.map_nil] at e19
          refine sound_fun (env_ok tT_ok (fs_cons specW7_ok (fs_cons specW8_ok (fs_cons specW9_ok (fs_cons specW11_ok (fs_cons specW13_ok (fs_cons specW15_ok (fs_cons specW19_ok (fs_cons specW24_ok fs_nil)))))))) _ : EnvOk Try.prog (mkE (specAt [(7, specW7), (8, specW8), (9, specW9), (11, specW11), (13, specW13), (15, specW15), (19, specW19), (24, specW24)]) [(0, ([1, 2, 3], [(3, 3, 5)], [])), (1, ([1, 2, 3, 7], [(3, 3, 5)], [])), (2, ([1, 2, 3, 7, 8], [(3, 3, 5)], [])), (3, ([1, 2, 3, 7, 40], [(3, 3, 5)], [])), (4, ([6], [], [])), (5, ([1, 2, 9, 10], [(9, 9, 5)], [])), (6, ([1, 2, 9, 49], [(9, 9, 5)], [])), (7, ([6], [], [])), (8, ([1, 2, 9, 13], [(9, 9, 5)], [])), (9, ([1, 2, 9, 13, 15], [(9, 9, 5)], [])), (10, ([1, 2, 9, 13, 15, 17], [(9, 9, 5)], [])), (11, ([1, 2, 9, 13, 15, 17, 18, 20], [(9, 9, 5), (18, 18, 5)], [])), (12, ([1, 2, 9, 13, 15, 17, 18, 20, 21], [(9, 9, 5), (18, 18, 5)], [])), (13, ([1, 18, 21, 116], [(18, 18, 5)], [])), (14, ([6], [], [])), (15, ([6], [], []))])) mixed Try.func6 (by kernel_rfl) rfl (by show 3 ≤ _; decide) (by kernel_rfl) ?_
          show wpC _ _ (Post.ret tT _ _) _
          simp -implicitDefEqProofs only [Try.f6, Try.results6, startS, pW, pI, pBy, pB, li, List.zipIdx_cons, List.zipIdx_nil, List.length_map, specW7_at, e8, e11, e19, g1, hk, z0, List.length_nil, go_sem, ↓reduceIte, Nat.reduceEqDiff, Nat.reduceBEq, Nat.reduceAdd, Nat.reduceMul, Nat.reduceLeDiff, Nat.reduceSub, reduceCtorEq, Nat.reduceLT, Int.reduceBEq, Int.reduceBNe, Int.reduceEq, Int.reduceNe, Int.reduceLT, Int.reduceLE]
          exact got_c rfl
        by_cases q0 : 0 ≤ at' ∧ at' ≤ 2305843009213693952
        · have q0' : ¬ ¬ (mayW w ∧ 0 ≤ at' ∧ at' ≤ 2305843009213693952) := fun h => h ⟨hm, q0⟩
          by_cases q1 : w.fin ≠ -1 ∧ w.fin ≠ at' ∨ at' < uptoN w
          · refine bad 5 ?_ rfl
            unfold shutN; rw [if_neg q0', if_pos q1]
          · have hsh : shutN w at' = ({ w with fin := at' }, 0) := by unfold shutN; rw [if_neg q0', if_neg q1]
            have hup : uptoN w ≤ at' := by
              by_cases h : at' < uptoN w
              · exact absurd (.inr h) q1
              · omega
            have hms : mayW { w with fin := at' } := shut_may hm hup
            generalize hs : ({ w with fin := at' } : Wv) = s at hsh hms
            have sf : s.fin = at' := by rw [← hs]
            have sl : s.got.length ≤ 100 := by rw [← hs]; exact hfew.2
            have sb : s.b.length ≤ 300 := by rw [← hs]; exact hfew.1
            have su : uptoN s = uptoN w := by rw [← hs]; rfl
            rw [hsh] at e19
            have e19b := specW19_at (w := s) ⟨by omega, by omega⟩ at'
            have e19c := specW19_at (w := s) ⟨by omega, by omega⟩ (at' + 1)
            have h19b : shutN s at' = ({ s with fin := at' }, 0) := by
              unfold shutN
              rw [if_neg (fun h => h ⟨hms, q0⟩), if_neg (fun h => by rcases h with h | h; exact h.2 sf; omega)]
            rw [h19b] at e19b
            have h19c : ∃ k, shutN s (at' + 1) = (w0, k) ∧ (k == 0) = false := by
              unfold shutN
              split
              · exact ⟨1, rfl, rfl⟩
              · rw [if_pos (.inl ⟨by omega, by omega⟩)]
                exact ⟨5, rfl, rfl⟩
            obtain ⟨k3, h19c, hk3⟩ := h19c
            rw [h19c] at e19c
            have e9 := specW9_at (w := s) (b := b) ⟨⟨by omega, by omega⟩, by omega, by omega⟩ at'
            have e15 := specW15_at (w := s) ⟨by omega, by omega⟩ 70000
            obtain ⟨r, out, hr, hmr, rf, rl⟩ := read_good hms sf (by omega)
            rw [hr] at e15
            have e24 := specW24_at (w := r) (by omega)
            have e13 := specW13_at (w := r) (by omega)
            have ho : overN r = (r.base == at') := by rw [overN, mayN_true hmr, rf]; rfl
            rw [ho] at e24
            have w1 : IntKind.i64.wrap (at' + 1) = at' + 1 := w64_id (by omega) (by omega)
            have g0 : ¬ at' < 0 := by omega
            have g3 : (s.fin == at') = true := by simpa using sf
            have hV : ∃ V n F, putW s at' b = (V, n, F) ∧ ((0 : Int) < b.length → (F == 0) = false) := by
              refine ⟨(putW s at' b).1, (putW s at' b).2.1, (putW s at' b).2.2, rfl, fun hlt => ?_⟩
              have : putW s at' b = (w0, 0, 5) := by
                unfold putW
                rw [if_neg (fun h => h ⟨hms, q0⟩), if_pos ⟨by omega, by omega⟩]
              rw [this]; rfl
            obtain ⟨V, n, F, hput, hF⟩ := hV
            rw [hput] at e9
            simp only [pW, pI, pB, pBy] at e9 e13 e15 e19 e19b e19c e24
            have hz : (0 : Int) == 0 := rfl
            by_cases c1 : (0 : Int) < b.length
            · have c2 := hF c1
              cases c3 : (r.base == at') with
              | true =>
                have c3' : r.base = at' := by simpa using c3
                rw [over_ready hmr (by omega)] at e13
                rw [c3] at e24
                refine sound_fun (env_ok tT_ok (fs_cons specW7_ok (fs_cons specW8_ok (fs_cons specW9_ok (fs_cons specW11_ok (fs_cons specW13_ok (fs_cons specW15_ok (fs_cons specW19_ok (fs_cons specW24_ok fs_nil)))))))) _ : EnvOk Try.prog (mkE (specAt [(7, specW7), (8, specW8), (9, specW9), (11, specW11), (13, specW13), (15, specW15), (19, specW19), (24, specW24)]) [(0, ([1, 2, 3], [(3, 3, 5)], [])), (1, ([1, 2, 3, 7], [(3, 3, 5)], [])), (2, ([1, 2, 3, 7, 8], [(3, 3, 5)], [])), (3, ([1, 2, 3, 7, 40], [(3, 3, 5)], [])), (4, ([6], [], [])), (5, ([1, 2, 9, 10], [(9, 9, 5)], [])), (6, ([1, 2, 9, 49], [(9, 9, 5)], [])), (7, ([6], [], [])), (8, ([1, 2, 9, 13], [(9, 9, 5)], [])), (9, ([1, 2, 9, 13, 15], [(9, 9, 5)], [])), (10, ([1, 2, 9, 13, 15, 17], [(9, 9, 5)], [])), (11, ([1, 2, 9, 13, 15, 17, 18, 20], [(9, 9, 5), (18, 18, 5)], [])), (12, ([1, 2, 9, 13, 15, 17, 18, 20, 21], [(9, 9, 5), (18, 18, 5)], [])), (13, ([1, 18, 21, 116], [(18, 18, 5)], [])), (14, ([6], [], [])), (15, ([6], [], []))])) mixed Try.func6 (by kernel_rfl) rfl (by show 3 ≤ _; decide) (by kernel_rfl) ?_
                show wpC _ _ (Post.ret tT _ _) _
                simp -implicitDefEqProofs only [Try.f6, Try.results6, startS, pW, pI, pBy, pB, li, List.zipIdx_cons, List.zipIdx_nil, List.length_map, specW7_at, e8, e9, e11, e13, e15, e19, e19b, e19c, e24, g0, g1, g3, w1, hk3, c1, c2, c3, go_sem, ↓reduceIte, Nat.reduceEqDiff, Nat.reduceBEq, Nat.reduceAdd, Nat.reduceMul, Nat.reduceLeDiff, Nat.reduceSub, reduceCtorEq, Nat.reduceLT, Int.reduceBEq, Int.reduceBNe, Int.reduceEq, Int.reduceNe, Int.reduceLT, Int.reduceLE]
                exact got_c rfl
              | false =>
                rw [c3] at e24
                refine sound_fun (env_ok tT_ok (fs_cons specW7_ok (fs_cons specW8_ok (fs_cons specW9_ok (fs_cons specW11_ok (fs_cons specW13_ok (fs_cons specW15_ok (fs_cons specW19_ok (fs_cons specW24_ok fs_nil)))))))) _ : EnvOk Try.prog (mkE (specAt [(7, specW7), (8, specW8), (9, specW9), (11, specW11), (13, specW13), (15, specW15), (19, specW19), (24, specW24)]) [(0, ([1, 2, 3], [(3, 3, 5)], [])), (1, ([1, 2, 3, 7], [(3, 3, 5)], [])), (2, ([1, 2, 3, 7, 8], [(3, 3, 5)], [])), (3, ([1, 2, 3, 7, 40], [(3, 3, 5)], [])), (4, ([6], [], [])), (5, ([1, 2, 9, 10], [(9, 9, 5)], [])), (6, ([1, 2, 9, 49], [(9, 9, 5)], [])), (7, ([6], [], [])), (8, ([1, 2, 9, 13], [(9, 9, 5)], [])), (9, ([1, 2, 9, 13, 15], [(9, 9, 5)], [])), (10, ([1, 2, 9, 13, 15, 17], [(9, 9, 5)], [])), (11, ([1, 2, 9, 13, 15, 17, 18, 20], [(9, 9, 5), (18, 18, 5)], [])), (12, ([1, 2, 9, 13, 15, 17, 18, 20, 21], [(9, 9, 5), (18, 18, 5)], [])), (13, ([1, 18, 21, 116], [(18, 18, 5)], [])), (14, ([6], [], [])), (15, ([6], [], []))])) mixed Try.func6 (by kernel_rfl) rfl (by show 3 ≤ _; decide) (by kernel_rfl) ?_
                show wpC _ _ (Post.ret tT _ _) _
                simp -implicitDefEqProofs only [Try.f6, Try.results6, startS, pW, pI, pBy, pB, li, List.zipIdx_cons, List.zipIdx_nil, List.length_map, specW7_at, e8, e9, e11, e13, e15, e19, e19b, e19c, e24, g0, g1, g3, w1, hk3, c1, c2, c3, go_sem, ↓reduceIte, Nat.reduceEqDiff, Nat.reduceBEq, Nat.reduceAdd, Nat.reduceMul, Nat.reduceLeDiff, Nat.reduceSub, reduceCtorEq, Nat.reduceLT, Int.reduceBEq, Int.reduceBNe, Int.reduceEq, Int.reduceNe, Int.reduceLT, Int.reduceLE]
                exact got_c rfl
            · cases c3 : (r.base == at') with
              | true =>
                have c3' : r.base = at' := by simpa using c3
                rw [over_ready hmr (by omega)] at e13
                rw [c3] at e24
                refine sound_fun (env_ok tT_ok (fs_cons specW7_ok (fs_cons specW8_ok (fs_cons specW9_ok (fs_cons specW11_ok (fs_cons specW13_ok (fs_cons specW15_ok (fs_cons specW19_ok (fs_cons specW24_ok fs_nil)))))))) _ : EnvOk Try.prog (mkE (specAt [(7, specW7), (8, specW8), (9, specW9), (11, specW11), (13, specW13), (15, specW15), (19, specW19), (24, specW24)]) [(0, ([1, 2, 3], [(3, 3, 5)], [])), (1, ([1, 2, 3, 7], [(3, 3, 5)], [])), (2, ([1, 2, 3, 7, 8], [(3, 3, 5)], [])), (3, ([1, 2, 3, 7, 40], [(3, 3, 5)], [])), (4, ([6], [], [])), (5, ([1, 2, 9, 10], [(9, 9, 5)], [])), (6, ([1, 2, 9, 49], [(9, 9, 5)], [])), (7, ([6], [], [])), (8, ([1, 2, 9, 13], [(9, 9, 5)], [])), (9, ([1, 2, 9, 13, 15], [(9, 9, 5)], [])), (10, ([1, 2, 9, 13, 15, 17], [(9, 9, 5)], [])), (11, ([1, 2, 9, 13, 15, 17, 18, 20], [(9, 9, 5), (18, 18, 5)], [])), (12, ([1, 2, 9, 13, 15, 17, 18, 20, 21], [(9, 9, 5), (18, 18, 5)], [])), (13, ([1, 18, 21, 116], [(18, 18, 5)], [])), (14, ([6], [], [])), (15, ([6], [], []))])) mixed Try.func6 (by kernel_rfl) rfl (by show 3 ≤ _; decide) (by kernel_rfl) ?_
                show wpC _ _ (Post.ret tT _ _) _
                simp -implicitDefEqProofs only [Try.f6, Try.results6, startS, pW, pI, pBy, pB, li, List.zipIdx_cons, List.zipIdx_nil, List.length_map, specW7_at, e8, e9, e11, e13, e15, e19, e19b, e19c, e24, g0, g1, g3, w1, hk3, c1, c3, go_sem, ↓reduceIte, Nat.reduceEqDiff, Nat.reduceBEq, Nat.reduceAdd, Nat.reduceMul, Nat.reduceLeDiff, Nat.reduceSub, reduceCtorEq, Nat.reduceLT, Int.reduceBEq, Int.reduceBNe, Int.reduceEq, Int.reduceNe, Int.reduceLT, Int.reduceLE]
                exact got_c rfl
              | false =>
                rw [c3] at e24
                refine sound_fun (env_ok tT_ok (fs_cons specW7_ok (fs_cons specW8_ok (fs_cons specW9_ok (fs_cons specW11_ok (fs_cons specW13_ok (fs_cons specW15_ok (fs_cons specW19_ok (fs_cons specW24_ok fs_nil)))))))) _ : EnvOk Try.prog (mkE (specAt [(7, specW7), (8, specW8), (9, specW9), (11, specW11), (13, specW13), (15, specW15), (19, specW19), (24, specW24)]) [(0, ([1, 2, 3], [(3, 3, 5)], [])), (1, ([1, 2, 3, 7], [(3, 3, 5)], [])), (2, ([1, 2, 3, 7, 8], [(3, 3, 5)], [])), (3, ([1, 2, 3, 7, 40], [(3, 3, 5)], [])), (4, ([6], [], [])), (5, ([1, 2, 9, 10], [(9, 9, 5)], [])), (6, ([1, 2, 9, 49], [(9, 9, 5)], [])), (7, ([6], [], [])), (8, ([1, 2, 9, 13], [(9, 9, 5)], [])), (9, ([1, 2, 9, 13, 15], [(9, 9, 5)], [])), (10, ([1, 2, 9, 13, 15, 17], [(9, 9, 5)], [])), (11, ([1, 2, 9, 13, 15, 17, 18, 20], [(9, 9, 5), (18, 18, 5)], [])), (12, ([1, 2, 9, 13, 15, 17, 18, 20, 21], [(9, 9, 5), (18, 18, 5)], [])), (13, ([1, 18, 21, 116], [(18, 18, 5)], [])), (14, ([6], [], [])), (15, ([6], [], []))])) mixed Try.func6 (by kernel_rfl) rfl (by show 3 ≤ _; decide) (by kernel_rfl) ?_
                show wpC _ _ (Post.ret tT _ _) _
                simp -implicitDefEqProofs only [Try.f6, Try.results6, startS, pW, pI, pBy, pB, li, List.zipIdx_cons, List.zipIdx_nil, List.length_map, specW7_at, e8, e9, e11, e13, e15, e19, e19b, e19c, e24, g0, g1, g3, w1, hk3, c1, c3, go_sem, ↓reduceIte, Nat.reduceEqDiff, Nat.reduceBEq, Nat.reduceAdd, Nat.reduceMul, Nat.reduceLeDiff, Nat.reduceSub, reduceCtorEq, Nat.reduceLT, Int.reduceBEq, Int.reduceBNe, Int.reduceEq, Int.reduceNe, Int.reduceLT, Int.reduceLE]
                exact got_c rfl
        · refine bad 1 ?_ rfl
          unfold shutN; rw [if_pos (fun h => q0 h.2)]
      · rw [mayN_false hm] at e11
        refine sound_fun (env_ok tT_ok (fs_cons specW7_ok (fs_cons specW8_ok (fs_cons specW9_ok (fs_cons specW11_ok (fs_cons specW13_ok (fs_cons specW15_ok (fs_cons specW19_ok (fs_cons specW24_ok fs_nil)))))))) _ : EnvOk Try.prog (mkE (specAt [(7, specW7), (8, specW8), (9, specW9), (11, specW11), (13, specW13), (15, specW15), (19, specW19), (24, specW24)]) [(0, ([1, 2, 3], [(3, 3, 5)], [])), (1, ([1, 2, 3, 7], [(3, 3, 5)], [])), (2, ([1, 2, 3, 7, 8], [(3, 3, 5)], [])), (3, ([1, 2, 3, 7, 40], [(3, 3, 5)], [])), (4, ([6], [], [])), (5, ([1, 2, 9, 10], [(9, 9, 5)], [])), (6, ([1, 2, 9, 49], [(9, 9, 5)], [])), (7, ([6], [], [])), (8, ([1, 2, 9, 13], [(9, 9, 5)], [])), (9, ([1, 2, 9, 13, 15], [(9, 9, 5)], [])), (10, ([1, 2, 9, 13, 15, 17], [(9, 9, 5)], [])), (11, ([1, 2, 9, 13, 15, 17, 18, 20], [(9, 9, 5), (18, 18, 5)], [])), (12, ([1, 2, 9, 13, 15, 17, 18, 20, 21], [(9, 9, 5), (18, 18, 5)], [])), (13, ([1, 18, 21, 116], [(18, 18, 5)], [])), (14, ([6], [], [])), (15, ([6], [], []))])) mixed Try.func6 (by kernel_rfl) rfl (by show 3 ≤ _; decide) (by kernel_rfl) ?_
        show wpC _ _ (Post.ret tT _ _) _
        simp -implicitDefEqProofs only [Try.f6, Try.results6, startS, pW, pI, pBy, pB, li, List.zipIdx_cons, List.zipIdx_nil, List.length_map, specW7_at, e8, e11, g1, go_sem, ↓reduceIte, Nat.reduceEqDiff, Nat.reduceBEq, Nat.reduceAdd, Nat.reduceMul, Nat.reduceLeDiff, Nat.reduceSub, reduceCtorEq, Nat.reduceLT, Int.reduceBEq, Int.reduceBNe, Int.reduceEq, Int.reduceNe, Int.reduceLT, Int.reduceLE]
        exact got_c rfl
    · have g1 : (300 : Int) < b.length := by omega
      rw [hf] at e8
      refine sound_fun (env_ok tT_ok (fs_cons specW7_ok (fs_cons specW8_ok (fs_cons specW9_ok (fs_cons specW11_ok (fs_cons specW13_ok (fs_cons specW15_ok (fs_cons specW19_ok (fs_cons specW24_ok fs_nil)))))))) _ : EnvOk Try.prog (mkE (specAt [(7, specW7), (8, specW8), (9, specW9), (11, specW11), (13, specW13), (15, specW15), (19, specW19), (24, specW24)]) [(0, ([1, 2, 3], [(3, 3, 5)], [])), (1, ([1, 2, 3, 7], [(3, 3, 5)], [])), (2, ([1, 2, 3, 7, 8], [(3, 3, 5)], [])), (3, ([1, 2, 3, 7, 40], [(3, 3, 5)], [])), (4, ([6], [], [])), (5, ([1, 2, 9, 10], [(9, 9, 5)], [])), (6, ([1, 2, 9, 49], [(9, 9, 5)], [])), (7, ([6], [], [])), (8, ([1, 2, 9, 13], [(9, 9, 5)], [])), (9, ([1, 2, 9, 13, 15], [(9, 9, 5)], [])), (10, ([1, 2, 9, 13, 15, 17], [(9, 9, 5)], [])), (11, ([1, 2, 9, 13, 15, 17, 18, 20], [(9, 9, 5), (18, 18, 5)], [])), (12, ([1, 2, 9, 13, 15, 17, 18, 20, 21], [(9, 9, 5), (18, 18, 5)], [])), (13, ([1, 18, 21, 116], [(18, 18, 5)], [])), (14, ([6], [], [])), (15, ([6], [], []))])) mixed Try.func6 (by kernel_rfl) rfl (by show 3 ≤ _; decide) (by kernel_rfl) ?_
      show wpC _ _ (Post.ret tT _ _) _
      simp -implicitDefEqProofs only [Try.f6, Try.results6, startS, pW, pI, pBy, pB, li, List.zipIdx_cons, List.zipIdx_nil, List.length_map, specW7_at, e8, g1, go_sem, ↓reduceIte, Nat.reduceEqDiff, Nat.reduceBEq, Nat.reduceAdd, Nat.reduceMul, Nat.reduceLeDiff, Nat.reduceSub, reduceCtorEq, Nat.reduceLT, Int.reduceBEq, Int.reduceBNe, Int.reduceEq, Int.reduceNe, Int.reduceLT, Int.reduceLE]
      exact got_c rfl
  · have hf : fewN w = false := by simpa using hf
    rw [hf] at e8
    refine sound_fun (env_ok tT_ok (fs_cons specW7_ok (fs_cons specW8_ok (fs_cons specW9_ok (fs_cons specW11_ok (fs_cons specW13_ok (fs_cons specW15_ok (fs_cons specW19_ok (fs_cons specW24_ok fs_nil)))))))) _ : EnvOk Try.prog (mkE (specAt [(7, specW7), (8, specW8), (9, specW9), (11, specW11), (13, specW13), (15, specW15), (19, specW19), (24, specW24)]) [(0, ([1, 2, 3], [(3, 3, 5)], [])), (1, ([1, 2, 3, 7], [(3, 3, 5)], [])), (2, ([1, 2, 3, 7, 8], [(3, 3, 5)], [])), (3, ([1, 2, 3, 7, 40], [(3, 3, 5)], [])), (4, ([6], [], [])), (5, ([1, 2, 9, 10], [(9, 9, 5)], [])), (6, ([1, 2, 9, 49], [(9, 9, 5)], [])), (7, ([6], [], [])), (8, ([1, 2, 9, 13], [(9, 9, 5)], [])), (9, ([1, 2, 9, 13, 15], [(9, 9, 5)], [])), (10, ([1, 2, 9, 13, 15, 17], [(9, 9, 5)], [])), (11, ([1, 2, 9, 13, 15, 17, 18, 20], [(9, 9, 5), (18, 18, 5)], [])), (12, ([1, 2, 9, 13, 15, 17, 18, 20, 21], [(9, 9, 5), (18, 18, 5)], [])), (13, ([1, 18, 21, 116], [(18, 18, 5)], [])), (14, ([6], [], [])), (15, ([6], [], []))])) mixed Try.func6 (by kernel_rfl) rfl (by show 3 ≤ _; decide) (by kernel_rfl) ?_
    show wpC _ _ (Post.ret tT _ _) _
    simp -implicitDefEqProofs only [Try.f6, Try.results6, startS, pW, pI, pBy, pB, li, List.zipIdx_cons, List.zipIdx_nil, List.length_map, specW7_at, e8, List.length_nil, go_sem, ↓reduceIte, Nat.reduceEqDiff, Nat.reduceBEq, Nat.reduceAdd, Nat.reduceMul, Nat.reduceLeDiff, Nat.reduceSub, reduceCtorEq, Nat.reduceLT, Int.reduceBEq, Int.reduceBNe, Int.reduceEq, Int.reduceNe, Int.reduceLT, Int.reduceLE]
    exact got_c rfl
end Go.Proofs.We
