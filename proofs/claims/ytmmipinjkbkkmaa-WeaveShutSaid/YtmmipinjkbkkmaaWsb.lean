/- told (24), and the reference's made (27). -/
import Derived.Test.YtmmipinjkbkkmaaWsa
set_option linter.unusedSimpArgs false
set_option linter.unusedVariables false
set_option linter.unusedSectionVars false
set_option linter.unnecessarySimpa false
namespace Go.Proofs.We
open Go.PM Go.Proofs

def toldN (l : List S) : PV := if l.length > 1000 then .tup [.c (.ro 2 []), pI 4] else .tup [pL l, pI 0]
set_option maxHeartbeats 1000000 in
theorem sound24 (l : List S) : SoundAt Try.prog 47 [pL l] (toldN l) := by
  refine sound_fun (env_ok tT_ok fs_nil _ : EnvOk Try.prog (mkE (specAt []) [])) mixed Try.func47 (by kernel_rfl) rfl (by show 1 ≤ _; decide) (by kernel_rfl) ?_
  show wpC _ _ (Post.ret tT _ _) _
  simp -implicitDefEqProofs only [Try.f47, Try.results47, startS, pL, li, List.zipIdx_cons, List.zipIdx_nil, go_sem, ↓reduceIte, Nat.reduceEqDiff, Nat.reduceBEq, Nat.reduceAdd, Nat.reduceMul, Nat.reduceLeDiff, Nat.reduceSub, reduceCtorEq, Nat.reduceLT, Int.reduceBEq, Int.reduceBNe, Int.reduceEq, Int.reduceNe, Int.reduceLT, Int.reduceLE]
  refine cond_intro _ _ _ _ _ (fun hc => ?_) (fun hc => ?_)
  · have hc' : l.length > 1000 := by have : (1000 : Int) < l.length := by simpa using hc
                                     omega
    simp -implicitDefEqProofs only [go_sem, ↓reduceIte, Nat.reduceEqDiff, Nat.reduceBEq, Nat.reduceAdd, Nat.reduceMul, Nat.reduceLeDiff, Nat.reduceSub, reduceCtorEq, Nat.reduceLT, Int.reduceBEq, Int.reduceBNe, Int.reduceEq, Int.reduceNe, Int.reduceLT, Int.reduceLE]
    rw [toldN, if_pos hc']
    exact gots [] (by simp) (mAs_cons (mA_c (m_cov (.nil _))) (mAs_cons (mA_c (m_c rfl)) mAs_nil))
  · have hc' : ¬ l.length > 1000 := by have : ¬ (1000 : Int) < l.length := by simpa using hc
                                       omega
    simp -implicitDefEqProofs only [go_sem, ↓reduceIte, Nat.reduceEqDiff, Nat.reduceBEq, Nat.reduceAdd, Nat.reduceMul, Nat.reduceLeDiff, Nat.reduceSub, reduceCtorEq, Nat.reduceLT, Int.reduceBEq, Int.reduceBNe, Int.reduceEq, Int.reduceNe, Int.reduceLT, Int.reduceLE]
    rw [toldN, if_neg hc']
    exact gots [] (by simp) (mAs_cons (mA_c (m_c rfl)) (mAs_cons (mA_c (m_c rfl)) mAs_nil))
noncomputable def spec24 : PM.Spec := specOf (fun l : List S => [pL l]) (fun l => True) toldN
theorem spec24_at (l : List S) : spec24 [.c (.ro 2 (l.map encS))] = some (toldN l) :=
  specOf_at (arg := fun l : List S => [pL l]) (pre := fun _ => True) (fun a b h => pL_inj (List.cons.inj h).1) (a := l) trivial
theorem spec24_ok : ∀ vs r, spec24 vs = some r → SoundAt Try.prog 47 vs r := specOf_sound fun l _ => sound24 l

def keepB (w a b : Bool) : Bool := if w then a && !b else a || b
def stepR (a b : Int) : List S → List S
  | [] => [⟨a, b⟩]
  | x :: r => if x.u = a then ⟨x.f, b⟩ :: r else ⟨a, b⟩ :: x :: r
def madeR (l : List S) (s : S) (w : Bool) : List Int → List S → List S
  | a :: b :: r, o => madeR l s w (b :: r) (if keepB w (inn l a) (inn [s] a) = true then stepR a b o else o)
  | _, o => o
def madeN (l : List S) (s : S) (w : Bool) : List S := (madeR l s w (endsN (l ++ [s])) []).reverse
theorem stepR_length (a b : Int) (o : List S) : (stepR a b o).length ≤ o.length + 1 := by
  unfold stepR
  split
  · simp
  · split <;> simp

noncomputable def spec30 : PM.Spec := specOf (fun x : List S × Int => [pL x.1, pI x.2]) (fun x => x.1.length ≤ 4611686018427387904) (fun x => pB (inn x.1 x.2))
theorem spec30_at {l : List S} (h : l.length ≤ 4611686018427387904) (n : Int) : spec30 [.c (.ro 2 (l.map encS)), .c (.lit (.int .i64 n))] = some (.c (.lit (.bool (inn l n)))) :=
  specOf_at (arg := fun x : List S × Int => [pL x.1, pI x.2]) (fun a b h => Prod.ext (pL_inj (List.cons.inj h).1) (pI_inj (List.cons.inj (List.cons.inj h).2).1)) (a := (l, n)) h
theorem spec30_ok : ∀ vs r, spec30 vs = some r → SoundAt Try.prog 40 vs r := specOf_sound fun (x : List S × Int) h => sound30 x.1 x.2 h

def st27 (l : List S) (s : S) (w : Bool) (e : List Int) (o : List S) (i : Nat) : St := ⟨[(0, pL l), (2, pB w), (7, .c (.ro 1 (e.map fun n => [.lit (.int .i64 n)]))), (8, .own 8 0 1), (9, .own 9 0 o.length), (10, pI i)], [((8, 0), some (.vec true 2 [encS s])), ((9, 0), some (.vec true 2 (o.map encS)))]⟩
set_option maxHeartbeats 8000000 in
theorem sound27 (l : List S) (s : S) (w : Bool) (hl : l.length ≤ 536870912) : SoundAt Try.prog 52 [pL l, pS s, pB w] (pL (madeN l s w)) := by
  have hE := endsN_length (l ++ [s])
  simp only [List.length_append, List.length_cons, List.length_nil] at hE
  refine sound_fun (env_ok tT_ok (fs_cons spec29_ok (fs_cons spec30_ok fs_nil)) _ : EnvOk Try.prog (mkE (specAt [(55, spec29), (40, spec30)]) [(1, ([0, 2, 4, 7], [(4, 4, 2)], [])), (4, ([0, 2, 7, 8, 9, 10], [(21, 8, 1)], [(9, some 9, 2)])), (6, ([0, 2, 7, 8, 9, 10], [(8, 8, 1), (9, 9, 1)], [])), (8, ([0, 2, 7, 8, 9, 10, 11, 12], [(8, 8, 1), (9, 9, 1)], [])), (9, ([0, 2, 7, 8, 9, 10, 60], [(8, 8, 1), (9, 9, 1)], [])), (10, ([0, 2, 7, 8, 9, 10, 13], [(8, 8, 1), (9, 9, 1)], [])), (11, ([0, 2, 7, 8, 9, 10, 13, 77], [(8, 8, 1), (9, 9, 1)], [])), (12, ([0, 2, 7, 8, 9, 10], [(8, 8, 1), (9, 9, 1)], [])), (13, ([0, 2, 7, 8, 9, 10], [(8, 8, 1), (100, 9, 1)], []))])) mixed Try.func52 (by kernel_rfl) rfl (by show 3 ≤ _; decide) (by kernel_rfl) ?_
  show wpC _ _ (Post.ret tT _ _) _
  have h29 := spec29_at (l := l ++ [s]) (by simp; omega)
  simp only [List.map_append, List.map_cons, List.map_nil, encS, li] at h29
  have hr1 : l.length * 16 ≤ 140737488355328 := by omega
  have hr2 : (l.length + 1) * 16 ≤ 140737488355328 := by omega
  have htk : ∀ x : List CV, List.take (l.length + 1) (l.map encS ++ [x]) = l.map encS ++ [x] := fun x => List.take_of_length_le (by simp)
  simp -implicitDefEqProofs only [Try.f52, Try.results52, startS, pN, pL, pB, pS, pI, li, List.zipIdx_cons, List.zipIdx_nil, hr1, hr2, h29, htk, go_sem, ↓reduceIte, Nat.reduceEqDiff, Nat.reduceBEq, Nat.reduceAdd, Nat.reduceMul, Nat.reduceLeDiff, Nat.reduceSub, reduceCtorEq, Nat.reduceLT, Int.reduceBEq, Int.reduceBNe, Int.reduceEq, Int.reduceNe, Int.reduceLT, Int.reduceLE]
  refine ⟨by rfl, ?_⟩
  generalize he : endsN (l ++ [s]) = e at hE
  refine loop_intro (fun k st => ∃ i o, i + k = e.length ∧ o.length ≤ i ∧ madeR l s w e [] = madeR l s w (e.drop i) o ∧ st = st27 l s w e o.reverse i) e.length ⟨0, [], by omega, by simp, rfl, ?_⟩ ?_
  · simp [st27, pN, pI, pL, pB, encS, li]
  · rintro k st ⟨i, o, hi, ho, hm, rfl⟩
    have hw := wrap_nat (n := i) (by omega)
    simp -implicitDefEqProofs only [st27, pN, pL, pB, pS, pI, li, hw, encS, List.length_reverse, go_sem, ↓reduceIte, Nat.reduceEqDiff, Nat.reduceBEq, Nat.reduceAdd, Nat.reduceMul, Nat.reduceLeDiff, Nat.reduceSub, reduceCtorEq, Nat.reduceLT, Int.reduceBEq, Int.reduceBNe, Int.reduceEq, Int.reduceNe, Int.reduceLT, Int.reduceLE]
    refine cond_intro _ _ _ _ _ (fun hc => ?_) (fun hc => ?_)
    · have hlt : i + 1 < e.length := by
        have : ((i + 1 : Nat) : Int) < e.length := by simpa using hc
        omega
      have hx : (e.map fun n => [CV.lit (.int .i64 n)])[i]? = some [.lit (.int .i64 e[i])] := by simp [show i < e.length by omega]
      have hy : (e.map fun n => [CV.lit (.int .i64 n)])[i + 1]? = some [.lit (.int .i64 e[i + 1])] := by simp [hlt]
      have hdrop : e.drop i = e[i] :: e[i + 1] :: e.drop (i + 1 + 1) := by
        rw [List.drop_eq_getElem_cons (by omega), List.drop_eq_getElem_cons hlt]
      have hdrop' : e.drop (i + 1) = e[i + 1] :: e.drop (i + 1 + 1) := List.drop_eq_getElem_cons hlt
      generalize e[i] = a at hx hdrop
      generalize e[i + 1] = b at hy hdrop hdrop'
      have h30a := spec30_at (l := l) (by omega) a
      have h30b := spec30_at (l := [s]) (by simp) a
      simp only [List.map_cons, List.map_nil, encS, li] at h30b
      have hm2 : madeR l s w e [] = madeR l s w (e.drop (i + 1)) (if keepB w (inn l a) (inn [s] a) = true then stepR a b o else o) := by
        rw [hm, hdrop, madeR, hdrop']
      generalize inn l a = p at h30a hm2
      generalize inn [s] a = q at h30b hm2
      have hr3 : (o.length + 1) * 16 ≤ 140737488355328 := by omega
      rcases o with _ | ⟨x, r⟩
      · have h0 : decide ((0 : Int) < ((0 : Nat) : Int)) = false := by simp
        have hr4 : 1 * 16 ≤ 140737488355328 := by omega
        cases w <;> cases p <;> cases q
        all_goals simp -implicitDefEqProofs only [hx, hy, h30a, h30b, hw, h0, hr4, Int.natCast_nonneg, Int.toNat_natCast, List.reverse_nil, go_sem, ↓reduceIte, Nat.reduceEqDiff, Nat.reduceBEq, Nat.reduceAdd, Nat.reduceMul, Nat.reduceLeDiff, Nat.reduceSub, reduceCtorEq, Nat.reduceLT, Int.reduceBEq, Int.reduceBNe, Int.reduceEq, Int.reduceNe, Int.reduceLT, Int.reduceLE]
        all_goals first
          | exact ⟨k - 1, by omega, i + 1, [], by omega, by simp, by rw [hm2]; rfl, rfl⟩
          | exact ⟨by rfl, by rfl, k - 1, by omega, i + 1, [⟨a, b⟩], by omega, by simp, by rw [hm2]; rfl, rfl⟩
      · have hlen : (x :: r).length = r.length + 1 := rfl
        rw [hlen] at ho hr3
        have h0 : decide ((0 : Int) < ((r.length + 1 : Nat) : Int)) = true := by simp
        have hw2 : IntKind.i64.wrap (((r.length + 1 : Nat) : Int) - 1) = (r.length : Int) := by rw [IntKind.wrap_i64]; omega
        have hz : (r.reverse.map encS ++ [[CV.lit (.int .i64 x.f), CV.lit (.int .i64 x.u)]])[r.length]? = some [CV.lit (.int .i64 x.f), CV.lit (.int .i64 x.u)] := by
          rw [List.getElem?_append_right (by simp)]; simp
        have hset : ∀ y, (r.reverse.map encS ++ [[CV.lit (.int .i64 x.f), CV.lit (.int .i64 x.u)]]).set r.length y = r.reverse.map encS ++ [y] := fun y => by
          rw [List.set_append_right _ _ (by simp)]; simp
        have hlt2 : r.length < r.length + 1 := by omega
        cases w <;> cases p <;> cases q
        all_goals simp -implicitDefEqProofs only [hx, hy, h30a, h30b, hw, h0, hw2, hz, hset, hr3, hlt2, encS, li, Int.natCast_nonneg, Int.toNat_natCast, List.reverse_cons, List.map_append, List.length_reverse, go_sem, ↓reduceIte, Nat.reduceEqDiff, Nat.reduceBEq, Nat.reduceAdd, Nat.reduceMul, Nat.reduceLeDiff, Nat.reduceSub, reduceCtorEq, Nat.reduceLT, Int.reduceBEq, Int.reduceBNe, Int.reduceEq, Int.reduceNe, Int.reduceLT, Int.reduceLE]
        all_goals first
          | exact ⟨k - 1, by omega, i + 1, x :: r, by omega, by simp; omega, by rw [hm2]; rfl, by simp [encS, li]⟩
          | skip
        all_goals
          refine ⟨by rfl, ?_⟩
          refine cond_intro _ _ _ _ _ (fun h2 => ?_) (fun h2 => ?_)
          · have h2' : x.u = a := by simpa using h2
            simp -implicitDefEqProofs only [hx, hy, h30a, h30b, hw, h0, hw2, hz, hset, hr3, hlt2, encS, li, Int.natCast_nonneg, Int.toNat_natCast, List.reverse_cons, List.map_append, List.length_reverse, go_sem, ↓reduceIte, Nat.reduceEqDiff, Nat.reduceBEq, Nat.reduceAdd, Nat.reduceMul, Nat.reduceLeDiff, Nat.reduceSub, reduceCtorEq, Nat.reduceLT, Int.reduceBEq, Int.reduceBNe, Int.reduceEq, Int.reduceNe, Int.reduceLT, Int.reduceLE]
            exact ⟨k - 1, by omega, i + 1, ⟨x.f, b⟩ :: r, by omega, by simp; omega, by rw [hm2]; simp [keepB, stepR, h2'], by simp [encS, li]⟩
          · have h2' : ¬ x.u = a := by simpa using h2
            simp -implicitDefEqProofs only [hx, hy, h30a, h30b, hw, h0, hw2, hz, hset, hr3, hlt2, encS, li, Int.natCast_nonneg, Int.toNat_natCast, List.reverse_cons, List.map_append, List.length_reverse, go_sem, ↓reduceIte, Nat.reduceEqDiff, Nat.reduceBEq, Nat.reduceAdd, Nat.reduceMul, Nat.reduceLeDiff, Nat.reduceSub, reduceCtorEq, Nat.reduceLT, Int.reduceBEq, Int.reduceBNe, Int.reduceEq, Int.reduceNe, Int.reduceLT, Int.reduceLE]
            exact ⟨by rfl, k - 1, by omega, i + 1, ⟨a, b⟩ :: x :: r, by omega, by simp; omega, by rw [hm2]; simp [keepB, stepR, h2'], by simp [encS, li]⟩
    · have hge : ¬ i + 1 < e.length := by
        have : ¬ ((i + 1 : Nat) : Int) < e.length := by simpa using hc
        omega
      simp -implicitDefEqProofs only [go_sem, ↓reduceIte, Nat.reduceEqDiff, Nat.reduceBEq, Nat.reduceAdd, Nat.reduceMul, Nat.reduceLeDiff, Nat.reduceSub, reduceCtorEq, Nat.reduceLT, Int.reduceBEq, Int.reduceBNe, Int.reduceEq, Int.reduceNe, Int.reduceLT, Int.reduceLE]
      refine got_own0 rfl (by simp) ?_
      have : madeR l s w (e.drop i) o = o := by
        rcases hd : e.drop i with _ | ⟨a, _ | ⟨b, q⟩⟩
        · rfl
        · rfl
        · exfalso
          have := congrArg List.length hd
          simp at this
          omega
      rw [madeN, he, hm, this]
noncomputable def spec27 : PM.Spec := specOf (fun x : List S × S × Bool => [pL x.1, pS x.2.1, pB x.2.2]) (fun x => x.1.length ≤ 536870912) (fun x => pL (madeN x.1 x.2.1 x.2.2))
theorem pB_inj {a b : Bool} (h : pB a = pB b) : a = b := by simpa [pB] using h
theorem spec27_at {l : List S} (h : l.length ≤ 536870912) (f u : Int) (w : Bool) : spec27 [.c (.ro 2 (l.map encS)), .agg [.c (.lit (.int .i64 f)), .c (.lit (.int .i64 u))], .c (.lit (.bool w))] = some (.c (.ro 2 ((madeN l ⟨f, u⟩ w).map encS))) :=
  specOf_at (arg := fun x : List S × S × Bool => [pL x.1, pS x.2.1, pB x.2.2]) (fun a b h => Prod.ext (pL_inj (List.cons.inj h).1) (Prod.ext (pS_inj (List.cons.inj (List.cons.inj h).2).1) (pB_inj (List.cons.inj (List.cons.inj (List.cons.inj h).2).2).1))) (a := (l, ⟨f, u⟩, w)) h
theorem spec27_ok : ∀ vs r, spec27 vs = some r → SoundAt Try.prog 52 vs r := specOf_sound fun (x : List S × S × Bool) h => sound27 x.1 x.2.1 x.2.2 h
end Go.Proofs.We

/- The reference's Add (16), Cut (17), Has (18), Size (20), Gap (21). -/
namespace Go.Proofs.We
open Go.PM Go.Proofs

noncomputable def spec12 : PM.Spec := specOf (fun x : List S × List S => [pL x.1, pL x.2]) (fun x => x.1.length ≤ 4611686018427387904) (fun x => pB (eqL x.1 x.2))
theorem spec12_at {a : List S} (h : a.length ≤ 4611686018427387904) (b : List S) : spec12 [.c (.ro 2 (a.map encS)), .c (.ro 2 (b.map encS))] = some (.c (.lit (.bool (eqL a b)))) :=
  specOf_at (arg := fun x : List S × List S => [pL x.1, pL x.2]) (fun a b h => Prod.ext (pL_inj (List.cons.inj h).1) (pL_inj (List.cons.inj (List.cons.inj h).2).1)) (a := (a, b)) h
theorem spec12_ok : ∀ vs r, spec12 vs = some r → SoundAt Try.prog 33 vs r := specOf_sound fun (x : List S × List S) h => sound12 x.1 x.2 h
theorem spec22_ok : ∀ vs r, spec15 vs = some r → SoundAt Try.prog 43 vs r := specOf_sound fun l h => sound22 l h
theorem spec26_ok : ∀ vs r, spec23 vs = some r → SoundAt Try.prog 51 vs r := specOf_sound fun s _ => sound26 s
theorem spec23_ok : ∀ vs r, spec23 vs = some r → SoundAt Try.prog 46 vs r := specOf_sound fun s _ => sound23 s
noncomputable def spec14 : PM.Spec := specOf (fun x : List S × S => [pL x.1, pS x.2]) (fun x => x.1.length ≤ 4611686018427387904) (fun x => pB (has x.1 x.2))
theorem spec14_at {l : List S} (h : l.length ≤ 4611686018427387904) (f u : Int) : spec14 [.c (.ro 2 (l.map encS)), .agg [.c (.lit (.int .i64 f)), .c (.lit (.int .i64 u))]] = some (.c (.lit (.bool (has l ⟨f, u⟩)))) :=
  specOf_at (arg := fun x : List S × S => [pL x.1, pS x.2]) (fun a b h => Prod.ext (pL_inj (List.cons.inj h).1) (pS_inj (List.cons.inj (List.cons.inj h).2).1)) (a := (l, ⟨f, u⟩)) h
noncomputable def spec19 : PM.Spec := specOf (fun l : List S => [pL l]) (fun l => l.length ≤ 4611686018427387904) (fun l => pI (size l))
theorem spec19_at {l : List S} (h : l.length ≤ 4611686018427387904) : spec19 [.c (.ro 2 (l.map encS))] = some (.c (.lit (.int .i64 (size l)))) :=
  specOf_at (arg := fun l : List S => [pL l]) (fun a b h => pL_inj (List.cons.inj h).1) (a := l) h
theorem spec19_ok : ∀ vs r, spec19 vs = some r → SoundAt Try.prog 32 vs r := specOf_sound fun l h => sound19 l h
theorem spec13_ok : ∀ vs r, spec13 vs = some r → SoundAt Try.prog 36 vs r := specOf_sound fun (x : List S × Int) h => sound13 x.1 x.2 h

/-- What is told of a list. -/
def outN (l : List S) (s : S) (o : List S) : List S × Int := if (may l && one s) = true then (if o.length > 1000 then ([], 4) else (o, 0)) else ([], 1)
def pR (r : List S × Int) : PV := .tup [pL r.1, pI r.2]

set_option maxHeartbeats 2000000 in
theorem sound16 (l : List S) (s : S) (hl : l.length ≤ 536870912) : SoundAt Try.prog 39 [pL l, pS s] (pR (outN l s (madeN l s false))) := by
  refine sound_fun (env_ok tT_ok (fs_cons spec22_ok (fs_cons spec26_ok (fs_cons spec27_ok fs_nil))) _ : EnvOk Try.prog (mkE (specAt [(43, spec15), (51, spec23), (52, spec27)]) [])) mixed Try.func39 (by kernel_rfl) rfl (by show 2 ≤ _; decide) (by kernel_rfl) ?_
  show wpC _ _ (Post.ret tT _ _) _
  have h15 := spec15_at (l := l) (by omega)
  have h27 := spec27_at hl
  simp -implicitDefEqProofs only [Try.f39, Try.results39, startS, pL, pI, pS, li, h15, spec23_at, List.zipIdx_cons, List.zipIdx_nil, go_sem, ↓reduceIte, Nat.reduceEqDiff, Nat.reduceBEq, Nat.reduceAdd, Nat.reduceMul, Nat.reduceLeDiff, Nat.reduceSub, reduceCtorEq, Nat.reduceLT, Int.reduceBEq, Int.reduceBNe, Int.reduceEq, Int.reduceNe, Int.reduceLT, Int.reduceLE]
  refine opsG_intro _ _ _ _ _ _ (fun h1 => ?_) (fun h1 => ?_)
  · have h1' : may l = true := by simpa using h1
    simp -implicitDefEqProofs only [spec23_at, go_sem, ↓reduceIte, Nat.reduceEqDiff, Nat.reduceBEq, Nat.reduceAdd, Nat.reduceMul, Nat.reduceLeDiff, Nat.reduceSub, reduceCtorEq, Nat.reduceLT, Int.reduceBEq, Int.reduceBNe, Int.reduceEq, Int.reduceNe, Int.reduceLT, Int.reduceLE]
    refine cond_intro _ _ _ _ _ (fun h2 => ?_) (fun h2 => ?_)
    · have h2' : one s = false := by simpa using h2
      simp -implicitDefEqProofs only [go_sem, ↓reduceIte, Nat.reduceEqDiff, Nat.reduceBEq, Nat.reduceAdd, Nat.reduceMul, Nat.reduceLeDiff, Nat.reduceSub, reduceCtorEq, Nat.reduceLT, Int.reduceBEq, Int.reduceBNe, Int.reduceEq, Int.reduceNe, Int.reduceLT, Int.reduceLE]
      rw [pR, outN, if_neg (by simp [h1', h2'])]
      exact gots [] (by simp) (mAs_cons (mA_c (m_cov (.nil _))) (mAs_cons (mA_c (m_c rfl)) mAs_nil))
    · have h2' : one s = true := by simpa using h2
      simp -implicitDefEqProofs only [h27, go_sem, ↓reduceIte, Nat.reduceEqDiff, Nat.reduceBEq, Nat.reduceAdd, Nat.reduceMul, Nat.reduceLeDiff, Nat.reduceSub, reduceCtorEq, Nat.reduceLT, Int.reduceBEq, Int.reduceBNe, Int.reduceEq, Int.reduceNe, Int.reduceLT, Int.reduceLE]
      refine cond_intro _ _ _ _ _ (fun h3 => ?_) (fun h3 => ?_)
      · have h3a : (1000 : Int) < (madeN l s false).length := by simpa using h3
        have h3' : (madeN l s false).length > 1000 := by omega
        simp -implicitDefEqProofs only [go_sem, ↓reduceIte, Nat.reduceEqDiff, Nat.reduceBEq, Nat.reduceAdd, Nat.reduceMul, Nat.reduceLeDiff, Nat.reduceSub, reduceCtorEq, Nat.reduceLT, Int.reduceBEq, Int.reduceBNe, Int.reduceEq, Int.reduceNe, Int.reduceLT, Int.reduceLE]
        rw [pR, outN, if_pos (by simp [h1', h2']), if_pos h3']
        exact gots [] (by simp) (mAs_cons (mA_c (m_cov (.nil _))) (mAs_cons (mA_c (m_c rfl)) mAs_nil))
      · have h3a : ¬ (1000 : Int) < (madeN l s false).length := by simpa using h3
        have h3' : ¬ (madeN l s false).length > 1000 := by omega
        simp -implicitDefEqProofs only [go_sem, ↓reduceIte, Nat.reduceEqDiff, Nat.reduceBEq, Nat.reduceAdd, Nat.reduceMul, Nat.reduceLeDiff, Nat.reduceSub, reduceCtorEq, Nat.reduceLT, Int.reduceBEq, Int.reduceBNe, Int.reduceEq, Int.reduceNe, Int.reduceLT, Int.reduceLE]
        rw [pR, outN, if_pos (by simp [h1', h2']), if_neg h3']
        exact gots [] (by simp) (mAs_cons (mA_c (m_c rfl)) (mAs_cons (mA_c (m_c rfl)) mAs_nil))
  · have h1' : may l = false := by simpa using h1
    simp -implicitDefEqProofs only [go_sem, ↓reduceIte, Nat.reduceEqDiff, Nat.reduceBEq, Nat.reduceAdd, Nat.reduceMul, Nat.reduceLeDiff, Nat.reduceSub, reduceCtorEq, Nat.reduceLT, Int.reduceBEq, Int.reduceBNe, Int.reduceEq, Int.reduceNe, Int.reduceLT, Int.reduceLE]
    rw [pR, outN, if_neg (by simp [h1'])]
    exact gots [] (by simp) (mAs_cons (mA_c (m_cov (.nil _))) (mAs_cons (mA_c (m_c rfl)) mAs_nil))
set_option maxHeartbeats 2000000 in
theorem sound17 (l : List S) (s : S) (hl : l.length ≤ 536870912) : SoundAt Try.prog 42 [pL l, pS s] (pR (outN l s (madeN l s true))) := by
  refine sound_fun (env_ok tT_ok (fs_cons spec22_ok (fs_cons spec26_ok (fs_cons spec27_ok fs_nil))) _ : EnvOk Try.prog (mkE (specAt [(43, spec15), (51, spec23), (52, spec27)]) [])) mixed Try.func42 (by kernel_rfl) rfl (by show 2 ≤ _; decide) (by kernel_rfl) ?_
  show wpC _ _ (Post.ret tT _ _) _
  have h15 := spec15_at (l := l) (by omega)
  have h27 := spec27_at hl
  simp -implicitDefEqProofs only [Try.f42, Try.results42, startS, pL, pI, pS, li, h15, spec23_at, List.zipIdx_cons, List.zipIdx_nil, go_sem, ↓reduceIte, Nat.reduceEqDiff, Nat.reduceBEq, Nat.reduceAdd, Nat.reduceMul, Nat.reduceLeDiff, Nat.reduceSub, reduceCtorEq, Nat.reduceLT, Int.reduceBEq, Int.reduceBNe, Int.reduceEq, Int.reduceNe, Int.reduceLT, Int.reduceLE]
  refine opsG_intro _ _ _ _ _ _ (fun h1 => ?_) (fun h1 => ?_)
  · have h1' : may l = true := by simpa using h1
    simp -implicitDefEqProofs only [spec23_at, go_sem, ↓reduceIte, Nat.reduceEqDiff, Nat.reduceBEq, Nat.reduceAdd, Nat.reduceMul, Nat.reduceLeDiff, Nat.reduceSub, reduceCtorEq, Nat.reduceLT, Int.reduceBEq, Int.reduceBNe, Int.reduceEq, Int.reduceNe, Int.reduceLT, Int.reduceLE]
    refine cond_intro _ _ _ _ _ (fun h2 => ?_) (fun h2 => ?_)
    · have h2' : one s = false := by simpa using h2
      simp -implicitDefEqProofs only [go_sem, ↓reduceIte, Nat.reduceEqDiff, Nat.reduceBEq, Nat.reduceAdd, Nat.reduceMul, Nat.reduceLeDiff, Nat.reduceSub, reduceCtorEq, Nat.reduceLT, Int.reduceBEq, Int.reduceBNe, Int.reduceEq, Int.reduceNe, Int.reduceLT, Int.reduceLE]
      rw [pR, outN, if_neg (by simp [h1', h2'])]
      exact gots [] (by simp) (mAs_cons (mA_c (m_cov (.nil _))) (mAs_cons (mA_c (m_c rfl)) mAs_nil))
    · have h2' : one s = true := by simpa using h2
      simp -implicitDefEqProofs only [h27, go_sem, ↓reduceIte, Nat.reduceEqDiff, Nat.reduceBEq, Nat.reduceAdd, Nat.reduceMul, Nat.reduceLeDiff, Nat.reduceSub, reduceCtorEq, Nat.reduceLT, Int.reduceBEq, Int.reduceBNe, Int.reduceEq, Int.reduceNe, Int.reduceLT, Int.reduceLE]
      refine cond_intro _ _ _ _ _ (fun h3 => ?_) (fun h3 => ?_)
      · have h3a : (1000 : Int) < (madeN l s true).length := by simpa using h3
        have h3' : (madeN l s true).length > 1000 := by omega
        simp -implicitDefEqProofs only [go_sem, ↓reduceIte, Nat.reduceEqDiff, Nat.reduceBEq, Nat.reduceAdd, Nat.reduceMul, Nat.reduceLeDiff, Nat.reduceSub, reduceCtorEq, Nat.reduceLT, Int.reduceBEq, Int.reduceBNe, Int.reduceEq, Int.reduceNe, Int.reduceLT, Int.reduceLE]
        rw [pR, outN, if_pos (by simp [h1', h2']), if_pos h3']
        exact gots [] (by simp) (mAs_cons (mA_c (m_cov (.nil _))) (mAs_cons (mA_c (m_c rfl)) mAs_nil))
      · have h3a : ¬ (1000 : Int) < (madeN l s true).length := by simpa using h3
        have h3' : ¬ (madeN l s true).length > 1000 := by omega
        simp -implicitDefEqProofs only [go_sem, ↓reduceIte, Nat.reduceEqDiff, Nat.reduceBEq, Nat.reduceAdd, Nat.reduceMul, Nat.reduceLeDiff, Nat.reduceSub, reduceCtorEq, Nat.reduceLT, Int.reduceBEq, Int.reduceBNe, Int.reduceEq, Int.reduceNe, Int.reduceLT, Int.reduceLE]
        rw [pR, outN, if_pos (by simp [h1', h2']), if_neg h3']
        exact gots [] (by simp) (mAs_cons (mA_c (m_c rfl)) (mAs_cons (mA_c (m_c rfl)) mAs_nil))
  · have h1' : may l = false := by simpa using h1
    simp -implicitDefEqProofs only [go_sem, ↓reduceIte, Nat.reduceEqDiff, Nat.reduceBEq, Nat.reduceAdd, Nat.reduceMul, Nat.reduceLeDiff, Nat.reduceSub, reduceCtorEq, Nat.reduceLT, Int.reduceBEq, Int.reduceBNe, Int.reduceEq, Int.reduceNe, Int.reduceLT, Int.reduceLE]
    rw [pR, outN, if_neg (by simp [h1'])]
    exact gots [] (by simp) (mAs_cons (mA_c (m_cov (.nil _))) (mAs_cons (mA_c (m_c rfl)) mAs_nil))
noncomputable def specR (f : List S → S → List S × Int) : PM.Spec := specOf (fun x : List S × S => [pL x.1, pS x.2]) (fun x => x.1.length ≤ 536870912) (fun x => pR (f x.1 x.2))
theorem specR_at {F : List S → S → List S × Int} {l : List S} (h : l.length ≤ 536870912) (f u : Int) : specR F [.c (.ro 2 (l.map encS)), .agg [.c (.lit (.int .i64 f)), .c (.lit (.int .i64 u))]] = some (.tup [.c (.ro 2 ((F l ⟨f, u⟩).1.map encS)), .c (.lit (.int .i64 (F l ⟨f, u⟩).2))]) :=
  specOf_at (arg := fun x : List S × S => [pL x.1, pS x.2]) (fun a b h => Prod.ext (pL_inj (List.cons.inj h).1) (pS_inj (List.cons.inj (List.cons.inj h).2).1)) (a := (l, ⟨f, u⟩)) h
def addR (l : List S) (s : S) : List S × Int := outN l s (madeN l s false)
def cutR (l : List S) (s : S) : List S × Int := outN l s (madeN l s true)
theorem spec16_ok : ∀ vs r, specR addR vs = some r → SoundAt Try.prog 39 vs r := specOf_sound fun (x : List S × S) h => sound16 x.1 x.2 h
theorem spec17_ok : ∀ vs r, specR cutR vs = some r → SoundAt Try.prog 42 vs r := specOf_sound fun (x : List S × S) h => sound17 x.1 x.2 h

/-! Has -/
def hasR' (l : List S) (s : S) : Bool := l.any fun x => decide (x.f ≤ s.f) && decide (s.u ≤ x.u)
def hasR (l : List S) (s : S) : Bool := (may l && one s) && hasR' l s
def st18 (l : List S) (s : S) (i : Nat) : St := ⟨[(0, pL l), (3, .ptr 3 0), (5, pB (may l)), (6, pI i)], [((3, 0), some (.cell (pI s.f))), ((3, 1), some (.cell (pI s.u)))]⟩
/-! Size, Gap -/
def sizeR' : Int → List S → Int
  | n, [] => n
  | n, s :: r => sizeR' (w64 (w64 (n + s.u) - s.f)) r
def sizeR (l : List S) : Int := if may l = true then sizeR' 0 l else 0
def st20 (l : List S) (k : Int) (i : Nat) : St := ⟨[(0, pL l), (3, pI k), (4, pB (may l)), (5, pI i)], []⟩
def gapR' : Int → List S → Int
  | n, [] => n
  | n, s :: r => if s.f ≤ n ∧ n < s.u then s.u else gapR' n r
def gapR (l : List S) (n : Int) : Int := if may l = true then gapR' (if n < 0 then 0 else n) l else 0
def st21 (l : List S) (k : Int) (i : Nat) : St := ⟨[(0, pL l), (1, pI k), (6, pI i)], []⟩
end Go.Proofs.We
