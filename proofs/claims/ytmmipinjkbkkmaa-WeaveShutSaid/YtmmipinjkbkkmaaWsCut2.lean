/- Cut (11). -/
import Derived.Test.YtmmipinjkbkkmaaWsCut
set_option linter.unusedSimpArgs false
set_option linter.unusedVariables false
set_option linter.unusedSectionVars false
set_option linter.unnecessarySimpa false
namespace Go.Proofs.We
open Go.RowKit Go.Shelf Go.PM Go.Proofs
attribute [local go_sem] Oper.semAt_some

theorem res_bool {w w' : World} {wr : Nat → Prop} {b : Bool} {v : Value} (h : ∃ fl, ResOk w w' wr fl (pB b) v) : v = .bool b := by
  obtain ⟨fl, h⟩ := h
  exact rel_lit h.val
theorem call15_in (n : Nat) (w : World) (wr : Nat → Prop) (hwr : ∀ g, wr g → g < w.heap.size) (xs : List S) (hx : xs.length ≤ 4611686018427387904) (v : Value) (hv : RelC w wr (.ro 2 (xs.map encS)) v) :
    CallsIn Fence.wide n Try.prog 34 #[v] w fun e w' => e = .returned (.bool (may xs)) ∧ Below w.heap.size w w' := by
  refine callsIn_wide.2 ((((sound15 xs hx).2 w wr [v] hwr ⟨rfl, fun i p u hp hu => ?_⟩)).mono ?_)
  · match i, hp, hu with
    | 0, hp, hu => cases hp; cases hu; exact ⟨rfl, fun _ => hv⟩
  · intro e w' h
    cases e with
    | returned u =>
      obtain ⟨hb, hr⟩ := h
      rw [res_bool hr]
      exact ⟨rfl, hb⟩
    | panicked _ => exact h.elim
    | outgrown => exact h.elim
theorem call23_in (n : Nat) (w : World) (s : S) :
    CallsIn Fence.wide n Try.prog 46 #[.agg #[.int .i64 s.f, .int .i64 s.u]] w fun e w' => e = .returned (.bool (one s)) ∧ Below w.heap.size w w' := by
  refine callsIn_wide.2 ((((sound23 s).2 w (fun _ => False) [.agg #[.int .i64 s.f, .int .i64 s.u]] (fun _ h => h.elim) ⟨rfl, fun i p u hp hu => ?_⟩)).mono ?_)
  · match i, hp, hu with
    | 0, hp, hu =>
      cases hp; cases hu
      refine ⟨rfl, fun _ => ⟨[.int .i64 s.f, .int .i64 s.u], rfl, rfl, fun i p u hp hu => ?_⟩⟩
      match i, hp, hu with
      | 0, hp, hu => cases hp; cases hu; exact ⟨rfl, RelC.lit _⟩
      | 1, hp, hu => cases hp; cases hu; exact ⟨rfl, RelC.lit _⟩
  · intro e w' h
    cases e with
    | returned u =>
      obtain ⟨hb, hr⟩ := h
      rw [res_bool hr]
      exact ⟨rfl, hb⟩
    | panicked _ => exact h.elim
    | outgrown => exact h.elim

theorem info24 : (Try.prog.info? 50).map (fun i => (i.zero, i.size, i.bytes)) = some (some (.agg #[.int .i64 0, .int .i64 0]), 2, 16) := by kernel_rfl
/-- One more in a row of one's own: where it lies then. -/
theorem append_at {w : World} {n0 : Nat} {ty : TypeId} {v : Value} {k : Nat} {xs : List Value} (hown : w.ownsRow n0 50 2 v k xs) {ad : Addr} {c : Nat} {x : S} (h0 : w.cell? ad = some (.int .i64 x.f)) (h1 : w.cell? (ad.add 1) = some (.int .i64 x.u)) (b2 : (k + 1) * 16 ≤ 140737488355328) (b3 : n0 ≤ w.heap.size) :
    ∃ v' w', (Builtin.append_ #[23, 23] ty #[v, .slice (some ad) 1 c]).run Try.prog w = .ok v' w' ∧ w'.ownsRow n0 50 2 v' (k + 1) (xs ++ [.int .i64 x.f, .int .i64 x.u]) ∧ w.grownBy w' v.ownBlock ∧ ∀ g, v'.ownBlock = some g → v.ownBlock = some g ∨ w.heap.size ≤ g := by
  obtain ⟨i0, hi, hz0, hz1, hz2⟩ := info_parts info24
  have hnews : ∀ j u, [Value.int .i64 x.f, .int .i64 x.u][j]? = some u → w.cell? (ad.add j) = some u := by
    intro j u hj
    match j, hj with
    | 0, hj => cases hj; rw [show ad.add 0 = ad from rfl]; exact h0
    | 1, hj => cases hj; exact h1
  have hone : ∀ u ∈ [Value.int .i64 x.f, .int .i64 x.u], u.oneCell' = true := by simp [Value.oneCell']
  have hl : [Value.int .i64 x.f, .int .i64 x.u].length = 1 * i0.size := by simp [hz1]
  have hml : k + 1 ≤ maxLen := by simp only [maxLen]; omega
  obtain ⟨v', w', hr, g1, g2, g3⟩ := run_append_own (P := Try.prog) w n0 23 ty 50 i0 _ 2 16 Try.underlying23 hi hz0 hz1 hz2 rfl (by decide) v k xs hown ad 1 c _ rfl hnews hone hml b2 b3
  refine ⟨v', w', hr, g1, g2, fun g hg => ?_⟩
  rcases hown.2 with ⟨rfl, rfl⟩ | ⟨g0, cap, cur, rfl, hbg, hcur, hnc, hcm, hcs, htake⟩
  · have hrun := run_append_nil (P := Try.prog) w 23 ty 50 i0 _ Try.underlying23 hi hz0 ad 1 c _ hl hnews (by omega) (by omega) (by rw [hz2]; omega)
    rw [hr] at hrun
    cases hrun
    right
    simp only [Value.ownBlock, Option.some.injEq] at hg
    omega
  · by_cases hroom : k + 1 ≤ cap
    · have hrun := run_append_room (P := Try.prog) w 23 ty 50 i0 Try.underlying23 hi g0 k cap cur hcur ad 1 c _ hl hnews hone hroom (by rw [hcs, hz1]; simp; omega)
      rw [hr] at hrun
      cases hrun
      exact .inl hg
    · have hrun := run_append_grow (P := Try.prog) w 23 ty 50 i0 _ Try.underlying23 hi hz0 ⟨g0, 0, none⟩ k cap xs (by rw [hown.1, hz1]) (hown.cells (g := g0) rfl) ad 1 c _ hl hnews (by omega) (by omega) (growslice_fits (by omega) (by rw [hz2]; omega))
      rw [hr] at hrun
      cases hrun
      right
      simp only [Value.ownBlock, Option.some.injEq] at hg
      omega
theorem list_append_at {F : Fence} {n : Nat} {w : World} {ops : Array Oper} {rest : List Oper} {o : Oper} {a : Act} {Q : Exit → Act → World → Prop} (hg : o.guard = none) (s x : Operand) (hop : o.op = .call { callee := .builtin .append, args := #[s, x], argTypes := #[23, 23] })
    {n0 : Nat} {v : Value} {k : Nat} {xs : List Value} (hs : a.eval s = v) (hown : w.ownsRow n0 50 2 v k xs) {ad : Addr} {c : Nat} {y : S} (hx : a.eval x = .slice (some ad) 1 c) (h0 : w.cell? ad = some (.int .i64 y.f)) (h1 : w.cell? (ad.add 1) = some (.int .i64 y.u)) (b2 : (k + 1) * 16 ≤ 140737488355328) (b3 : n0 ≤ w.heap.size)
    (hK : ∀ v' w', w'.ownsRow n0 50 2 v' (k + 1) (xs ++ [.int .i64 y.f, .int .i64 y.u]) → w.grownBy w' v.ownBlock → (∀ g, v'.ownBlock = some g → v.ownBlock = some g ∨ w.heap.size ≤ g) → wpListIn F n Try.prog ops Q rest (a.put o.dst v') w') :
    wpListIn F n Try.prog ops Q (o :: rest) a w := by
  refine wpListIn_plain hg fun K hK' => ?_
  obtain ⟨v', w', hrun, r1, r2, r3⟩ := append_at (ty := o.type) hown h0 h1 b2 b3
  unfold Oper.wpIn
  constructor
  · simp [Oper.about, hop, resolve, Target.leads, Sem.run_pure]
  · rw [Oper.semAt_plain F _ _ (by rw [hop]; intro c hc; cases hc)]
    simp [execOp, hop, resolve, invoke, builtin, hs, hx, Result.andThen]
    rw [hrun]
    exact hK' _ _ (hK v' w' r1 r2 r3)

def cutN (l : List S) (s : S) : List S := (partsN s l).map (·.1)
def cutP (l : List S) (s : S) : List S × Int := outN l s (cutN l s)

theorem pR_fresh (r : List S × Int) : (pR r).fresh' = [] := rfl
/-- What Cut hands back. -/
theorem resok_pR {w W : World} {wr : Nat → Prop} {r : List S × Int} {v : Value} (hv : RelC W wr (.ro 2 (r.1.map encS)) v) : ∃ fl, ResOk w W wr fl (pR r) (.tuple #[v, .int .i64 r.2]) := by
  have hw : ∀ g, g < W.heap.size → wrF wr (fun _ => ⟨0, 0, 0, false⟩) (pR r) g → wr g := fun g _ h => by
    rcases h with h | ⟨x, hx, _⟩
    · exact h
    · rw [pR_fresh] at hx; cases hx
  refine ⟨fun _ => ⟨0, 0, 0, false⟩, ?_, fun x hx => ?_, fun x hx => ?_, rfl⟩
  · refine ⟨[v, .int .i64 r.2], rfl, rfl, fun i p u hp hu => ?_⟩
    match i, hp, hu with
    | 0, hp, hu => cases hp; cases hu; exact hv.less hw
    | 1, hp, hu => cases hp; cases hu; exact RelC.lit _
  · rw [pR_fresh] at hx; cases hx
  · rw [pR_fresh] at hx; cases hx
theorem relC_nil (W : World) (wr : Nat → Prop) : RelC W wr (.ro 2 (([] : List S).map encS)) (.slice none 0 0) :=
  .ro 2 [] none 0 (fun _ _ => .bool false) (Nat.le_refl _) (fun _ _ h => by simp at h) (fun h => absurd rfl h) (fun _ _ => rfl) (fun _ _ _ _ h => by simp at h)
/-- A row of one's own is a list that may be read. -/
theorem relC_row {W : World} {wr : Nat → Prop} {n0 : Nat} {v : Value} {xs : List S} (h : W.ownsRow n0 50 2 v xs.length (xs.flatMap fun x => [.int .i64 x.f, .int .i64 x.u])) (hwr : ∀ g, v.ownBlock = some g → ¬ wr g) : RelC W wr (.ro 2 (xs.map encS)) v := by
  obtain ⟨h1, ⟨rfl, h2⟩ | ⟨g, cap, cur, rfl, hb, hcur, hc, hm, hcs, htake⟩⟩ := h
  · have : xs = [] := List.eq_nil_of_length_eq_zero h2
    subst this
    exact relC_nil W wr
  · have hfl : ∀ (l : List S) (j : Nat) (x : S), l[j]? = some x → (l.flatMap fun x => [Value.int .i64 x.f, .int .i64 x.u])[j * 2]? = some (.int .i64 x.f) ∧ (l.flatMap fun x => [Value.int .i64 x.f, .int .i64 x.u])[j * 2 + 1]? = some (.int .i64 x.u) := by
      intro l
      induction l with
      | nil => intro j x h; cases h
      | cons y r ih =>
        intro j x h
        cases j with
        | zero => cases h; exact ⟨rfl, rfl⟩
        | succ j =>
          have := ih j x (by simpa using h)
          rw [show (j + 1) * 2 = j * 2 + 2 by omega, show j * 2 + 2 + 1 = j * 2 + 1 + 2 by omega]
          exact this
    have cell : ∀ (i : Nat) (u : Value), (xs.flatMap fun x => [Value.int .i64 x.f, .int .i64 x.u])[i]? = some u → W.cell? ⟨g, i, none⟩ = some u := fun i u hu => by
      rw [← htake, List.getElem?_take] at hu
      split at hu
      · simp only [World.cell?, hcur]
        simpa using hu
      · cases hu
    let f : Nat → Nat → Value := fun j i => match xs[j]? with
      | some x => if i = 0 then .int .i64 x.f else .int .i64 x.u
      | none => .bool false
    have := RelC.ro (w := W) (wr := wr) 2 (xs.map encS) (some ⟨g, 0, none⟩) cap f (by simpa using hc) (fun j x hx => by
      simp only [List.getElem?_map, Option.map_eq_some_iff] at hx
      obtain ⟨y, _, rfl⟩ := hx
      rfl) (fun _ => ⟨_, rfl, (Array.getElem?_eq_some_iff.1 hcur).1, hwr g rfl, fun j i hj hi => ?_⟩) (fun j i => by
        simp only [f]
        split
        · split <;> rfl
        · rfl) (fun j i x p hx hp => ?_)
    · simpa using this
    · have hj' : j < xs.length := by simpa using hj
      obtain ⟨x, hx⟩ : ∃ x, xs[j]? = some x := ⟨_, List.getElem?_eq_getElem hj'⟩
      have h2 := hfl xs j x hx
      rw [add_mk]
      simp only [f, hx, Nat.zero_add]
      match i, hi with
      | 0, _ => exact cell _ _ h2.1
      | 1, _ => exact cell _ _ h2.2
    · simp only [List.getElem?_map, Option.map_eq_some_iff] at hx
      obtain ⟨y, hy, rfl⟩ := hx
      simp only [f, hy]
      match i, hp with
      | 0, hp => cases hp; exact RelC.lit _
      | 1, hp => cases hp; exact RelC.lit _

/-- A round of Cut's loop. -/
theorem Kp_round {n0 Bo k m : Nat} {W w1 : World} {v v' : Value} {xs ys : List Value} {tmp : Obj} (hv : Boxed W Bo 23 v) (hrow : W.ownsRow n0 50 2 v k xs) (hown : w1.ownsRow n0 50 2 v' m ys) (hgrow : (W.alloc tmp).grownBy w1 v.ownBlock)
    (hw : ∀ g, v'.ownBlock = some g → v.ownBlock = some g ∨ (W.alloc tmp).heap.size ≤ g) : Kp n0 Bo W (w1.setCell ⟨Bo, 0, none⟩ v') := fun hg => by
  have hv1 : Boxed w1 Bo 23 v := (hv.alloc tmp).kept hgrow (hv.not_row (by decide) hrow)
  have hsz : W.heap.size ≤ w1.heap.size := Nat.le_trans (by simp) hgrow.size
  have hs1 : (w1.setCell ⟨Bo, 0, none⟩ v').heap.size = w1.heap.size := by
    show (w1.heap.modify _ _).size = _
    rw [Array.size_modify]
  have hcell : (w1.setCell ⟨Bo, 0, none⟩ v').cell? ⟨Bo, 0, none⟩ = some v' := (hv1.set v').cell
  have hother : ∀ j, j ≠ Bo → (w1.setCell ⟨Bo, 0, none⟩ v').heap[j]? = w1.heap[j]? := fun j hj => Below.heap_setCell w1 ⟨Bo, 0, none⟩ v' j hj
  refine ⟨fun A len c hA => ?_, by omega, fun j hj hm => ?_⟩
  · rw [hcell] at hA
    cases hA
    rcases hown.2 with ⟨h, _⟩ | ⟨g, cap, cur, h, hb, hcur, _⟩
    · cases h
    · cases h
      have := (Array.getElem?_eq_some_iff.1 hcur).1
      exact ⟨hb, by rw [hs1]; exact this⟩
  · have hjB : j ≠ Bo := fun e => hm (.inl e)
    have hjv : v.ownBlock ≠ some j := fun e => hm (by
      right; left
      rcases hrow.2 with ⟨rfl, _⟩ | ⟨g, cap, cur, rfl, _⟩
      · cases e
      · cases e; exact ⟨_, _, _, hv.cell, rfl⟩)
    have e1 : (w1.setCell ⟨Bo, 0, none⟩ v').heap[j]? = W.heap[j]? := by
      rw [hother j hjB, hgrow.block j (by simp; omega) (fun e => hjv e.symm)]
      exact Below.heap_alloc W tmp j hj
    refine ⟨e1, fun hm' => ?_⟩
    rcases hm' with h | ⟨A, len, c, h, h'⟩ | ⟨o, h, h'⟩
    · exact hjB h
    · rw [hcell] at h
      cases h
      rcases hw A.block rfl with h2 | h2
      · rw [h'] at h2; exact hjv h2
      · simp at h2; omega
    · rw [e1] at h
      exact hm (.inr (.inr ⟨o, h, h'⟩))
def flatP (l : List (S × Bool)) : List Value := l.flatMap fun x => [.int .i64 x.1.f, .int .i64 x.1.u]
theorem flatP_map (l : List (S × Bool)) : flatP l = (l.map (·.1)).flatMap fun x => [.int .i64 x.f, .int .i64 x.u] := by
  simp [flatP, List.flatMap_map]
theorem flatP_snoc (l : List (S × Bool)) (x : S × Bool) : flatP (l ++ [x]) = flatP l ++ [.int .i64 x.1.f, .int .i64 x.1.u] := by simp [flatP]
theorem toldN_pR (l : List S) : toldN l = pR (if l.length > 1000 then ([], 4) else (l, 0)) := by
  unfold toldN
  split <;> rfl
theorem call24_in (n : Nat) (w : World) (wr : Nat → Prop) (hwr : ∀ g, wr g → g < w.heap.size) (xs : List S) (v : Value) (hv : RelC w wr (.ro 2 (xs.map encS)) v) :
    CallsIn Fence.wide n Try.prog 47 #[v] w fun e w' => ∃ u k, e = .returned (.tuple #[u, .int .i64 k]) ∧ Below w.heap.size w w' ∧ k = (if xs.length > 1000 then (([] : List S), (4 : Int)) else (xs, 0)).2 ∧ RelC w' wr (.ro 2 ((if xs.length > 1000 then (([] : List S), (4 : Int)) else (xs, 0)).1.map encS)) u := by
  refine callsIn_wide.2 ((((sound24 xs).2 w wr [v] hwr ⟨rfl, fun i p u hp hu => ?_⟩)).mono ?_)
  · match i, hp, hu with
    | 0, hp, hu => cases hp; cases hu; exact ⟨rfl, fun _ => hv⟩
  · intro e w' h
    cases e with
    | returned u =>
      obtain ⟨hb, fl, hr⟩ := h
      rw [toldN_pR] at hr
      generalize (if xs.length > 1000 then (([] : List S), (4 : Int)) else (xs, 0)) = r at hr ⊢
      have hval := hr.val
      obtain ⟨us, rfl, hl, hus⟩ := hval
      match us, hl with
      | [a, b], _ =>
        have h0 := hus 0 _ a rfl rfl
        have h1 := hus 1 _ b rfl rfl
        have e1 : b = .int .i64 r.2 := rel_lit (loc := fl) (wr := wrF wr fl (pR r)) (w := w') h1
        subst e1
        refine ⟨a, r.2, rfl, hb, rfl, ?_⟩
        exact RelC.less (fun g _ h => .inl h) h0
    | panicked _ => exact h.elim
    | outgrown => exact h.elim

set_option maxRecDepth 100000 in
set_option maxHeartbeats 4000000 in
theorem cut_in (w : World) (wr : Nat → Prop) (hwr : ∀ g, wr g → g < w.heap.size) (xs : List S) (s : S) (hx : xs.length ≤ 536870912) (A : Option Addr) (cap : Nat) (hv : RelC w wr (.ro 2 (xs.map encS)) (.slice A xs.length cap)) :
    CallsIn Fence.wide 9 Try.prog 37 #[.slice A xs.length cap, .agg #[.int .i64 s.f, .int .i64 s.u]] w fun e w' => match e with
    | .returned v => Below w.heap.size w w' ∧ ∃ fl, ResOk w w' wr fl (pR (cutP xs s)) v
    | _ => False := by
  have hro := ro_out hv
  refine callsIn_of_wp_marks Try.func37 rfl trivial ?_ rfl
  simp only [Try.ntmps37, List.size_toArray, List.length_cons, List.length_nil, Nat.reduceAdd, Nat.reduceSub, Array.replicate_succ, Array.replicate_zero, List.push_toArray, List.append_toArray, List.nil_append, List.cons_append]
  have L0 : ∀ W, Below w.heap.size w W → RelC W wr (.ro 2 (xs.map encS)) (.slice A xs.length cap) := fun W hB => hv.later ⟨hB.size, fun g hg _ => hB.block g hg, fun g hg h => h⟩
  obtain ⟨Wb, hWb⟩ : ∃ Wb, w.alloc (.cells #[.int .i64 s.f, .int .i64 s.u] 50) = Wb := ⟨_, rfl⟩
  have hBb : Below w.heap.size w Wb := by rw [← hWb]; exact (Below.refl _ w).alloc (Nat.le_refl _) _
  have hwb : ∀ W, Below w.heap.size w W → ∀ g, wr g → g < W.heap.size := fun W hB g h => Nat.lt_of_lt_of_le (hwr g h) hB.size
  have fail : ∀ W, Below w.heap.size w W → (may xs && one s) = false → Below w.heap.size w W ∧ ∃ fl, ResOk w W wr fl (pR (cutP xs s)) (.tuple #[.slice none 0 0, .int .i64 1]) := fun W hB hq => by
    refine ⟨hB, ?_⟩
    have : cutP xs s = ([], 1) := by rw [cutP, outN, if_neg (by simp [hq])]
    rw [this]
    exact resok_pR (r := ([], 1)) (relC_nil W wr)
  gi_wp2
  refine ⟨trivial, (call15_in _ Wb wr (hwb _ hBb) xs (by omega) _ (L0 _ hBb)).mono ?_⟩
  rintro e w1 ⟨rfl, hB1⟩
  have hc0 : Wb.heap[w.heap.size]? = some (.cells #[.int .i64 s.f, .int .i64 s.u] 50) := by rw [← hWb]; exact World.alloc_heap_new _ _
  have hsb : Wb.heap.size = w.heap.size + 1 := by rw [← hWb]; simp
  have hc1 : w1.heap[w.heap.size]? = some (.cells #[.int .i64 s.f, .int .i64 s.u] 50) := (hB1.block _ (by omega)).trans hc0
  have hBw1 : Below w.heap.size w w1 := hBb.trans (hB1.mono (by omega))
  have d0 : w1.cell? ⟨w.heap.size, 0, none⟩ = some (.int .i64 s.f) := by simp [World.cell?, hc1]
  have d1 : w1.cell? ⟨w.heap.size, 1, none⟩ = some (.int .i64 s.u) := by simp [World.cell?, hc1]
  cases hmay : may xs
  · gi_wp2
    refine ⟨trivial, ?_⟩
    gi_wp2
    exact ⟨_, results_tmp2 (t := 4) (u := 5) rfl _ _ _, fail _ hBw1 (by simp [hmay])⟩
  · gi_wp2
    refine ⟨trivial, (call23_in _ w1 s).mono ?_⟩
    rintro e w2 ⟨rfl, hB2⟩
    have hBw2 : Below w.heap.size w w2 := hBw1.trans (hB2.mono hBw1.size)
    have hc2 : w2.heap[w.heap.size]? = some (.cells #[.int .i64 s.f, .int .i64 s.u] 50) := (hB2.block _ (by have := hB1.size; omega)).trans hc1
    have d0 : w2.cell? ⟨w.heap.size, 0, none⟩ = some (.int .i64 s.f) := by simp [World.cell?, hc2]
    have d1 : w2.cell? ⟨w.heap.size, 1, none⟩ = some (.int .i64 s.u) := by simp [World.cell?, hc2]
    cases hone : one s
    · gi_wp2
      exact ⟨_, results_tmp2 (t := 4) (u := 5) rfl _ _ _, fail _ hBw2 (by simp [hone])⟩
    · have hlt2 : w.heap.size < w2.heap.size := by have := hB1.size; have := hB2.size; omega
      obtain ⟨Wc, hWc⟩ : ∃ Wc, w2.alloc (.cells #[.slice none 0 0] 23) = Wc := ⟨_, rfl⟩
      have hBwc : Below w.heap.size w Wc := by rw [← hWc]; exact hBw2.alloc hBw2.size _
      have hsc : Wc.heap.size = w2.heap.size + 1 := by rw [← hWc]; simp
      have hcc : Wc.heap[w.heap.size]? = some (.cells #[.int .i64 s.f, .int .i64 s.u] 50) := by rw [← hWc]; exact (Below.heap_alloc _ _ _ hlt2).trans hc2
      have hco : Wc.heap[w2.heap.size]? = some (.cells #[.slice none 0 0] 23) := by rw [← hWc]; exact World.alloc_heap_new _ _
      have e0 : Wc.cell? ⟨w.heap.size, 0, none⟩ = some (.int .i64 s.f) := by simp [World.cell?, hcc]
      have e1 : Wc.cell? ⟨w.heap.size, 1, none⟩ = some (.int .i64 s.u) := by simp [World.cell?, hcc]
      gi_wp2
      refine ⟨trivial, (parts_in Fence.wide _ trivial rfl _ _ _ _ _ _).mono ?_⟩
      rintro e w3 ⟨rfl, rfl⟩
      obtain ⟨Wd, hWd⟩ : ∃ Wd, (Wc.alloc (.cells #[.slice A xs.length cap] 23)).alloc (.cells #[.int .i64 s.f, .int .i64 s.u] 50) = Wd := ⟨_, rfl⟩
      rw [hWd]
      gi_wp2
      have hsd : Wd.heap.size = w2.heap.size + 3 := by rw [← hWd]; simp; omega
      have hBcd : Below Wc.heap.size Wc Wd := by rw [← hWd]; exact ((Below.refl _ Wc).alloc (Nat.le_refl _) _).alloc (by simp) _
      have hBwd : Below w.heap.size w Wd := hBwc.trans (hBcd.mono hBwc.size)
      have hdo : Boxed Wd w2.heap.size 23 (.slice none 0 0) := (hBcd.block _ (by omega)).trans hco
      have hd1 : Wd.heap[w2.heap.size + 1]? = some (.cells #[.slice A xs.length cap] 23) := by
        rw [← hWd, Below.heap_alloc _ _ _ (by simp; omega), ← hsc]
        exact World.alloc_heap_new _ _
      have hd2 : Wd.heap[w2.heap.size + 1 + 1]? = some (.cells #[.int .i64 s.f, .int .i64 s.u] 50) := by
        have := World.alloc_heap_new (Wc.alloc (.cells #[.slice A xs.length cap] 23)) (.cells #[.int .i64 s.f, .int .i64 s.u] 50)
        rw [hWd] at this
        rw [← this]; congr 1; simp; omega
      have nm : ∀ g o, g ≠ w2.heap.size → Wd.heap[g]? = some o → o.isCells = true → ¬ mutb w2.heap.size Wd g := by
        rintro g o hg ho hc (h | ⟨A', len, c, h, _⟩ | ⟨o', h, h'⟩)
        · exact hg h
        · rw [hdo.cell] at h; cases h
        · rw [ho] at h; cases h; rw [hc] at h'; cases h'
      have hA : xs = [] ∨ ∃ b off, A = some ⟨b, off, none⟩ ∧ ¬ mutb w2.heap.size Wd b ∧ ∀ j (x : S), xs[j]? = some x → Wd.cell? ⟨b, off + j * 2, none⟩ = some (.int .i64 x.f) ∧ Wd.cell? ⟨b, off + j * 2 + 1, none⟩ = some (.int .i64 x.u) := by
        obtain ⟨A', c', e, _, h⟩ := hro
        cases e
        rcases h with h | ⟨b, off, rfl, hb, _, hc⟩
        · exact .inl h
        · by_cases hnil : xs = []
          · exact .inl hnil
          right
          have hsame := hBwd.block b hb
          obtain ⟨x0, hx0⟩ : ∃ x, xs[0]? = some x := ⟨_, List.getElem?_eq_getElem (by cases xs with | nil => exact absurd rfl hnil | cons _ _ => simp)⟩
          obtain ⟨o, ho, hoc⟩ := cells_of_cell (hc 0 x0 hx0).1
          exact ⟨b, off, rfl, nm b o (by omega) (hsame.trans ho) hoc, fun j x hj => ⟨(cell_of_same hsame _).trans (hc j x hj).1, (cell_of_same hsame _).trans (hc j x hj).2⟩⟩
      refine wpIn_rangeFunc_ownH rfl (by omega) (gf := 54) (lb := #[.pointer (some ⟨w2.heap.size + 1, 0, none⟩), .pointer (some ⟨w2.heap.size + 1 + 1, 0, none⟩)]) rfl trivial (enters_of Try.func54 (by kernel_rfl) rfl)
        (parts_stops (9 - 1) w.heap.size w2.heap.size (w2.heap.size + 1) (w2.heap.size + 1 + 1) cap A xs s Wd hx (by omega) hdo.cell (by omega) (by simp [World.cell?, hd1]) ⟨by simp [World.cell?, hd2], by simp [World.cell?, hd2]⟩ (nm _ _ (by omega) hd2 rfl) hA)
        Kp.trans (fun W l o o' hl ho hc _ => Kp.grown (grownBy_putObj' W l o') (by have := (Array.getElem?_eq_some_iff.1 ho).1; omega) (fun r e => by cases e; exact ⟨by omega, .inr (.inr ⟨o, ho, hc⟩)⟩)) (Below.refl _ _) (fun _ => rfl)
        (fun pre W => (∃ v, Boxed W w2.heap.size 23 v ∧ W.ownsRow w.heap.size 50 2 v pre.length (flatP pre) ∧ True) ∧ Below w.heap.size w W)
        (fun _ _ _ => False)
        (OwnFrom.and (Own.from (holdsRow_own w.heap.size w2.heap.size 23 50 2 (fun pre => pre.length) flatP (fun _ _ => True)) _) (ownFrom_below (Nat.le_refl _) (by omega)))
        (fun _ _ _ _ _ hs _ _ => hs)
        ⟨⟨_, hdo, World.ownsRow_nil _ _ _ _, trivial⟩, hBwd⟩
        (fun x a' W => ∃ Bx, w2.heap.size < Bx ∧ W.heap[Bx]? = some (.cells #[.int .i64 x.1.f, .int .i64 x.1.u] 50) ∧ a' = { tmps := #[Value.slice A xs.length cap, Value.agg #[Value.int IntKind.i64 s.f, Value.int IntKind.i64 s.u], undef, Value.pointer (some { block := w.heap.size, off := 0 }), Value.slice none 0 0, Value.int IntKind.i64 0, Value.pointer (some { block := w2.heap.size, off := 0 }), .pointer (some ⟨Bx, 0, none⟩), Value.slice A xs.length cap, Value.bool true, Value.bool false, Value.bool false, Value.agg #[Value.int IntKind.i64 s.f, Value.int IntKind.i64 s.u], Value.bool true, Value.bool false, Value.bool false, Value.slice A xs.length cap, Value.agg #[Value.int IntKind.i64 s.f, Value.int IntKind.i64 s.u], Value.func (Fn.func 54) #[] #[Value.pointer (some { block := w2.heap.size + 1, off := 0 }), Value.pointer (some { block := w2.heap.size + 1 + 1, off := 0 })], .agg #[.int .i64 x.1.f, .int .i64 x.1.u], .bool x.2, undef, undef, undef, undef, undef, undef, undef, undef], defers := [] })
        (fun x a' _ X Y row hs hg hr => by
          obtain ⟨Bx, h1, h2, h3⟩ := hs
          refine ⟨Bx, h1, (hg.block Bx (Array.getElem?_eq_some_iff.1 h2).1 fun e => ?_).trans h2, h3⟩
          obtain ⟨_, o, ho, hc⟩ := hr Bx e.symm
          rw [h2] at ho; cases ho; cases hc)
        ?assign ?body ?done ?stop
      case assign =>
        rintro l pre x W K ⟨⟨v, hv, hrow, _⟩, hB⟩ hK
        simp only [encP]
        gi_wp2
        refine hK _ _ ((KeepsOthers.alloc _ _).from _) (Kp.grown (World.grownBy_alloc W _ none) hv.lt fun r e => by cases e) ⟨⟨v, hv.alloc _, hrow.alloc _, trivial⟩, hB.alloc hB.size _⟩ ⟨W.heap.size, hv.lt, World.alloc_heap_new W _, rfl⟩
      case body =>
        rintro l pre x a' W hl ⟨r, hr⟩ ⟨⟨v, hv, hrow, _⟩, hB⟩ ⟨Bx, hBx, bX, rfl⟩ hlt
        have hc := hv.cell
        have x0 : W.cell? ⟨Bx, 0, none⟩ = some (.int .i64 x.1.f) := by simp [World.cell?, bX]
        have x1 : W.cell? ⟨Bx, 1, none⟩ = some (.int .i64 x.1.u) := by simp [World.cell?, bX]
        have en : (W.alloc (.cells #[.int .i64 x.1.f, .int .i64 x.1.u] 50)).heap[W.heap.size]? = some (.cells #[.int .i64 x.1.f, .int .i64 x.1.u] 50) := World.alloc_heap_new _ _
        have n0 : (W.alloc (.cells #[.int .i64 x.1.f, .int .i64 x.1.u] 50)).cell? ⟨W.heap.size, 0, none⟩ = some (.int .i64 x.1.f) := by simp only [World.cell?, en]; rfl
        have n1 : (W.alloc (.cells #[.int .i64 x.1.f, .int .i64 x.1.u] 50)).cell? ((⟨W.heap.size, 0, none⟩ : Addr).add 1) = some (.int .i64 x.1.u) := by rw [add_mk]; simp only [World.cell?, en]; rfl
        have hsW : w.heap.size ≤ (W.alloc (.cells #[.int .i64 x.1.f, .int .i64 x.1.u] 50)).heap.size := Nat.le_trans hB.size (by simp)
        gi_wp2_with (gi_at_builtin; refine list_append_at rfl _ _ rfl rfl (hrow.alloc _) (ad := ⟨W.heap.size, 0, none⟩) (c := 1) (y := x.1) rfl n0 n1 (by omega) hsW ?_; intro v' w1 hown' hgrow hwh; have hkp := Kp_round hv hrow hown' hgrow hwh; obtain ⟨g', cap', rfl⟩ := ownsRow_succ hown'; obtain ⟨hv1, hv2, hr2, hk2, hb2⟩ := hv.appended (by decide) hrow hB.size (by omega) hown' hgrow; have hc1 := hv1.cell; have hf1 := hv1.frozen)
        exact ⟨hk2.from _, hkp, ⟨_, hv2, by rw [flatP_snoc]; simpa using hr2, trivial⟩, hB.trans hb2⟩
      case done =>
        rintro D ys W hD rfl ⟨⟨v, hv, hrow, _⟩, hB⟩ hK
        have hc := hv.cell
        gi_wp2
        have hvg : ∀ g, v.ownBlock = some g → ¬ (wr g ∨ g = D) := by
          intro g hg h
          rcases hrow.2 with ⟨rfl, _⟩ | ⟨g', cap', cur, rfl, hb, hcur, _⟩
          · cases hg
          · cases hg
            rcases h with h | h
            · exact absurd (hwr _ h) (Nat.not_lt.2 hb)
            · have h : g' = D := h
              rw [h, hK] at hcur; cases hcur
        have hrow2 : W.ownsRow w.heap.size 50 2 v (cutN xs s).length ((cutN xs s).flatMap fun x => [.int .i64 x.f, .int .i64 x.u]) := by
          have := hrow
          rw [flatP_map] at this
          simpa [cutN] using this
        have hDW : D < W.heap.size := (Array.getElem?_eq_some_iff.1 hK).1
        refine ⟨trivial, (call24_in _ W (fun g => wr g ∨ g = D) (fun g h => ?_) (cutN xs s) v (relC_row hrow2 hvg)).mono ?_⟩
        · rcases h with h | h
          · exact Nat.lt_of_lt_of_le (hwr g h) hB.size
          · omega
        rintro e W2 ⟨u, k, rfl, hB24, hkk, hrel⟩
        have hK2 : W2.heap[D]? = some (.deferred (some [])) := (hB24.block D hDW).trans hK
        have hcp : cutP xs s = (if (cutN xs s).length > 1000 then ([], 4) else (cutN xs s, 0)) := by
          rw [cutP, outN, if_pos (by simp [hmay, hone])]
        rw [← hcp] at hkk hrel
        clear hcp
        obtain ⟨rr, hrr⟩ : ∃ rr, cutP xs s = rr := ⟨_, rfl⟩
        rw [hrr] at hkk hrel
        subst hkk
        gi_wp2
        refine ⟨by simp, .inl ⟨_, _, rfl, run_takeDeferred hK2, ?_⟩⟩
        have hend : Below w.heap.size w (W2.putObj D (.deferred none)) := (hB.trans (hB24.mono hB.size)).trans (belowK_b (w := w) (Nat.le_refl _) W2 D _ _ (by omega) hK2 rfl rfl)
        refine ⟨_, results_tmp2 (t := 4) (u := 5) rfl _ _ _, ?_⟩
        refine ⟨hend, ?_⟩
        have hlater : Later W2 (W2.putObj D (.deferred none)) (fun g => wr g ∨ g = D) wr := ⟨by simp, fun g _ hn => World.putObj_heap_other fun e => hn (.inr e), fun g _ h => .inl h⟩
        rw [hrr]
        exact resok_pR (hrel.later hlater)
      case stop =>
        rintro D c pre W _ _ h _
        exact h.elim

theorem sound11 (l : List S) (s : S) (hl : l.length ≤ 536870912) : SoundAt Try.prog 37 [pL l, pS s] (pR (cutP l s)) := by
  refine ⟨fun args w => enters_of Try.func37 (by kernel_rfl) rfl args w, fun w wr args hwr hargs => ?_⟩
  obtain ⟨hlen, hargs⟩ := hargs
  match args, hlen with
  | [v1, v2], _ =>
    have h1 := (hargs 0 _ v1 rfl rfl).2 (fun _ => ⟨0, 0, 0, false⟩)
    obtain ⟨us, rfl, hul, hus⟩ := (hargs 1 _ v2 rfl rfl).2 (fun _ => ⟨0, 0, 0, false⟩)
    match us, hul with
    | [a, b], _ =>
      have ha := (hus 0 _ a rfl rfl).2
      have hb := (hus 1 _ b rfl rfl).2
      have ea : a = .int .i64 s.f := relL_lit ha
      have eb : b = .int .i64 s.u := relL_lit hb
      subst ea; subst eb
      have h1 : RelC w wr (.ro 2 (l.map encS)) v1 := h1
      obtain ⟨A, c, rfl, _⟩ := ro_out h1
      exact callsIn_wide.1 (cut_in w wr hwr l s hl A c h1)
theorem spec11_ok : ∀ vs r, specR cutP vs = some r → SoundAt Try.prog 37 vs r := specOf_sound fun (x : List S × S) h => sound11 x.1 x.2 h

end Go.Proofs.We
