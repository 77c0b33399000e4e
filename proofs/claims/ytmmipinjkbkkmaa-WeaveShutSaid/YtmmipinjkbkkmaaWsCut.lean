/- parts (25), its closure (28), Cut (11): a range over a function. -/
import Derived.RangeFuncNested
import Derived.RangeFuncBound
import Derived.RangeFuncCalls
import Derived.RangeFuncLeaves
import Derived.Shelf.Abstract
import Derived.Shelf.RegionOpen
import Derived.WalkKit
import Derived.OwnWalkIn
import Derived.TacticsInMore
import Derived.LoopNIn
import Derived.LoopIn
import Derived.Maps.AppendAt
import Derived.Test.YtmmipinjkbkkmaaWs10
set_option linter.unusedSimpArgs false
set_option linter.unusedVariables false
set_option linter.unusedSectionVars false
set_option linter.unnecessarySimpa false
namespace Go.Proofs.We
open Go.RowKit Go.Shelf Go.PM Go.Proofs
attribute [local go_sem] Oper.semAt_some

set_option maxHeartbeats 1000000 in
theorem parts_in (F : Fence) (n : Nat) (h25 : F.fn 50) (hro : F.round = none) (A : Option Addr) (len cap : Nat) (f u : Int) (w : World) :
    CallsIn F n Try.prog 50 #[.slice A len cap, .agg #[.int .i64 f, .int .i64 u]] w fun e w' => e = .returned (.func (.func 54) #[] #[.pointer (some ⟨w.heap.size, 0, none⟩), .pointer (some ⟨w.heap.size + 1, 0, none⟩)]) ∧ w' = (w.alloc (.cells #[.slice A len cap] 23)).alloc (.cells #[.int .i64 f, .int .i64 u] 50) := by
  refine callsIn_of_wp Try.func50 rfl h25 ?_ hro
  simp only [Try.ntmps50, List.size_toArray, List.length_cons, List.length_nil, Nat.reduceAdd, Nat.reduceSub, Array.replicate_succ, Array.replicate_zero, List.push_toArray, List.append_toArray, List.nil_append, List.cons_append]
  gi_wp2
  go_ret
  exact ⟨rfl, rfl⟩

/-! What a round of Cut's loop may write: the box of 'out', the row that lies in it, and what is no cells. -/
def good (n0 Bo : Nat) (W : World) : Prop := ∀ (A : Addr) (len c : Nat), W.cell? ⟨Bo, 0, none⟩ = some (.slice (some A) len c) → n0 ≤ A.block ∧ A.block < W.heap.size
def mutb (Bo : Nat) (W : World) (k : Nat) : Prop := k = Bo ∨ (∃ (A : Addr) (len c : Nat), W.cell? ⟨Bo, 0, none⟩ = some (.slice (some A) len c) ∧ A.block = k) ∨ ∃ o, W.heap[k]? = some o ∧ o.isCells = false
def Kp (n0 Bo : Nat) (W W' : World) : Prop := good n0 Bo W → good n0 Bo W' ∧ W.heap.size ≤ W'.heap.size ∧ ∀ k, k < W.heap.size → ¬ mutb Bo W k → W'.heap[k]? = W.heap[k]? ∧ ¬ mutb Bo W' k
theorem Kp.refl {n0 Bo : Nat} {W : World} : Kp n0 Bo W W := fun h => ⟨h, Nat.le_refl _, fun _ _ h => ⟨rfl, h⟩⟩
theorem Kp.trans {n0 Bo : Nat} {A B C : World} (h : Kp n0 Bo A B) (k : Kp n0 Bo B C) : Kp n0 Bo A C := fun hg => by
  obtain ⟨g1, s1, f1⟩ := h hg
  obtain ⟨g2, s2, f2⟩ := k g1
  refine ⟨g2, Nat.le_trans s1 s2, fun j hj hm => ?_⟩
  obtain ⟨e1, m1⟩ := f1 j hj hm
  obtain ⟨e2, m2⟩ := f2 j (by omega) m1
  exact ⟨e2.trans e1, m2⟩
theorem cell_of_same {W W' : World} {k : Nat} (h : W'.heap[k]? = W.heap[k]?) (o : Nat) : W'.cell? ⟨k, o, none⟩ = W.cell? ⟨k, o, none⟩ := World.cell?_of_block h
/-- What is laid, or turned, beside all that. -/
theorem Kp.grown {n0 Bo : Nat} {W W' : World} {row : Option Nat} (hg : W.grownBy W' row) (hB : Bo < W.heap.size) (hr : ∀ r, row = some r → r ≠ Bo ∧ mutb Bo W r) : Kp n0 Bo W W' := fun h => by
  have hBo : W'.heap[Bo]? = W.heap[Bo]? := hg.block Bo hB fun e => (hr _ e.symm).1 rfl
  have hc := cell_of_same hBo 0
  refine ⟨fun A len c hA => ?_, hg.size, fun k hk hm => ?_⟩
  · rw [hc] at hA
    obtain ⟨h1, h2⟩ := h A len c hA
    exact ⟨h1, Nat.lt_of_lt_of_le h2 hg.size⟩
  · have e : W'.heap[k]? = W.heap[k]? := hg.block k hk fun e => hm (hr _ e.symm).2
    refine ⟨e, fun hm' => hm ?_⟩
    rcases hm' with h1 | ⟨A, len, c, h1, h2⟩ | ⟨o, h1, h2⟩
    · exact .inl h1
    · rw [hc] at h1; exact .inr (.inl ⟨A, len, c, h1, h2⟩)
    · rw [e] at h1; exact .inr (.inr ⟨o, h1, h2⟩)
theorem mutb_new {n0 Bo : Nat} {W : World} (h : good n0 Bo W) (hB : Bo < W.heap.size) {W' : World} (hg : W.grownBy W' none) {k : Nat} (hk : W.heap.size ≤ k) (hc : ∃ o, W'.heap[k]? = some o ∧ o.isCells = true) : ¬ mutb Bo W' k := by
  have hBo : W'.heap[Bo]? = W.heap[Bo]? := hg.block Bo hB (by simp)
  rintro (h1 | ⟨A, len, c, h1, h2⟩ | ⟨o, h1, h2⟩)
  · omega
  · rw [cell_of_same hBo 0] at h1
    have := h A len c h1
    omega
  · obtain ⟨o', h3, h4⟩ := hc
    rw [h3] at h1; cases h1; rw [h4] at h2; cases h2

def lefts (s x : S) : List (S × Bool) := if x.f < mn x.u s.f then [(⟨x.f, mn x.u s.f⟩, true)] else []
def rights (s x : S) : List (S × Bool) := if mx x.f s.u < x.u then [(⟨mx x.f s.u, x.u⟩, false)] else []
def partsN (s : S) : List S → List (S × Bool)
  | [] => []
  | x :: r => lefts s x ++ (rights s x ++ partsN s r)
theorem partsN_append (s : S) : ∀ a b : List S, partsN s (a ++ b) = partsN s a ++ partsN s b
  | [], b => rfl
  | x :: r, b => by simp [partsN, partsN_append s r b]

theorem lefts_length (s x : S) : (lefts s x).length ≤ 1 := by unfold lefts; split <;> simp
theorem rights_length (s x : S) : (rights s x).length ≤ 1 := by unfold rights; split <;> simp
theorem partsN_length (s : S) : ∀ l : List S, (partsN s l).length ≤ 2 * l.length
  | [] => Nat.le_refl _
  | x :: r => by
    have h1 := lefts_length s x
    have h2 := rights_length s x
    have h3 := partsN_length s r
    simp only [partsN, List.length_append, List.length_cons]
    omega
def encP (x : S × Bool) : Array Value := #[.agg #[.int .i64 x.1.f, .int .i64 x.1.u], .bool x.2]

/-- What is known of a variable of two whole numbers. -/
def holds2 (W : World) (g o : Nat) (x : S) : Prop := W.cell? ⟨g, o, none⟩ = some (.int .i64 x.f) ∧ W.cell? ⟨g, o + 1, none⟩ = some (.int .i64 x.u)
theorem cell_lt {W : World} {a : Addr} {v : Value} (h : W.cell? a = some v) : a.block < W.heap.size := by
  unfold World.cell? at h
  cases hb : W.heap[a.block]? with
  | none => rw [hb] at h; cases h
  | some o => exact (Array.getElem?_eq_some_iff.1 hb).1
theorem holds2_same {W W' : World} {g o : Nat} {x : S} (h : holds2 W g o x) (e : W'.heap[g]? = W.heap[g]?) : holds2 W' g o x :=
  ⟨(cell_of_same e o).trans h.1, (cell_of_same e (o + 1)).trans h.2⟩
theorem holds2_lt {W : World} {g o : Nat} {x : S} (h : holds2 W g o x) : g < W.heap.size := cell_lt h.1
theorem holds2_isCells {W : World} {g o : Nat} {x : S} (h : holds2 W g o x) : ∃ q, W.heap[g]? = some q ∧ q.isCells = true := cells_of_cell h.1
theorem spot_none {W : World} {a : Addr} {v : Value} (h : W.cell? a = some v) : a = ⟨a.block, a.off, none⟩ := by
  obtain ⟨b, o, sp⟩ := a
  cases sp with
  | none => rfl
  | some q =>
    unfold World.cell? at h
    split at h <;> simp at h
def st3 (v0 v1 v8 : Value) (len k : Nat) (s x : S) : St := ⟨[(0, .c (.lit v0)), (1, .c (.lit v1)), (2, .roptr [li s.f, li s.u]), (5, .roptr [li x.f, li x.u]), (8, .c (.lit v8)), (9, pI len), (10, pI k)], []⟩
def Q3 (v0 v1 v8 : Value) (len k : Nat) (s x : S) : Post := fun _ st => st.slot 0 = .c (.lit v0) ∧ st.slot 1 = .c (.lit v1) ∧ st.slot 2 = .roptr [li s.f, li s.u] ∧ st.slot 6 = .ptr 6 0 ∧ st.slot 7 = .ptr 7 0 ∧ st.slot 8 = .c (.lit v8) ∧ st.slot 9 = pI len ∧ st.slot 10 = pI k ∧
  st.at (6, 0) = some (.cell (pI x.f)) ∧ st.at (6, 1) = some (.cell (pI (mn x.u s.f))) ∧ st.at (7, 0) = some (.cell (pI (mx x.f s.u))) ∧ st.at (7, 1) = some (.cell (pI x.u))
theorem roptr_of {w : World} {wr : Nat → Prop} {loc : Locs} {g o : Nat} {x : S} (h : holds2 w g o x) (hm : ¬ wr g) : RelL w wr loc (.roptr [li x.f, li x.u]) (.pointer (some ⟨g, o, none⟩)) := by
  refine ⟨⟨g, o, none⟩, fun i => if i = 0 then .int .i64 x.f else .int .i64 x.u, rfl, holds2_lt h, hm, fun i hi => ?_, fun i => by dsimp only; split <;> rfl, fun i p hp => ?_⟩
  · match i, hi with
    | 0, _ => exact h.1
    | 1, _ => exact h.2
  · match i, hp with
    | 0, hp => cases hp; exact RelC.lit _
    | 1, hp => cases hp; exact RelC.lit _
theorem of_roptr {w : World} {wr : Nat → Prop} {loc : Locs} {x : S} {v : Value} (h : RelL w wr loc (.roptr [li x.f, li x.u]) v) : ∃ g o, v = .pointer (some ⟨g, o, none⟩) ∧ holds2 w g o x ∧ ¬ wr g := by
  obtain ⟨a, us, rfl, hb, hn, hc, _, hr⟩ := h
  have c0 := hc 0 (by simp)
  have c1 := hc 1 (by simp)
  have r0 := hr 0 _ rfl
  have r1 := hr 1 _ rfl
  have e0 : us 0 = .int .i64 x.f := by cases h0 : us 0 <;> (rw [h0] at r0; cases r0) <;> rfl
  have e1 : us 1 = .int .i64 x.u := by cases h0 : us 1 <;> (rw [h0] at r1; cases r1) <;> rfl
  rw [e0] at c0
  rw [e1] at c1
  have hs := spot_none (show w.cell? a = some _ from c0)
  obtain ⟨g, o, sp⟩ := a
  simp only [Addr.mk.injEq, true_and] at hs
  subst hs
  exact ⟨g, o, rfl, ⟨c0, c1⟩, hn⟩
theorem st3_stands {v0 v1 v8 : Value} {len k : Nat} {s x : S} {a : Act} {w : World} {wr : Nat → Prop} {b2 o2 b5 o5 : Nat} (hwr : ∀ g, wr g → g < w.heap.size) (h2 : holds2 w b2 o2 s) (h5 : holds2 w b5 o5 x) (hw2 : ¬ wr b2) (hw5 : ¬ wr b5) (hd : a.defers = []) (hs : a.tmps.size = 53)
    (t0 : a.tmps.getD 0 undef = v0) (t1 : a.tmps.getD 1 undef = v1) (t2 : a.tmps.getD 2 undef = .pointer (some ⟨b2, o2, none⟩)) (t5 : a.tmps.getD 5 undef = .pointer (some ⟨b5, o5, none⟩)) (t8 : a.tmps.getD 8 undef = v8) (t9 : a.tmps.getD 9 undef = .int .i64 len) (t10 : a.tmps.getD 10 undef = .int .i64 k) :
    (st3 v0 v1 v8 len k s x).stands w (fun _ => False) wr 53 a w := by
  let loc : Locs := fun id => ⟨0, 0, 0, false⟩
  have hWR : ∀ g, WR (st3 v0 v1 v8 len k s x).at loc wr g → wr g := fun g h => by
    rcases h with h | ⟨id, j, x, hx, _⟩
    · exact h
    · cases hx
  refine ⟨hd, hs, loc, ⟨Below.refl _ w, fun _ _ _ => rfl, fun g h => ⟨hwr g h, fun h => h⟩, fun id j y hy => (by cases hy), fun id j y id' j' y' hy hy' _ _ e => (by cases hy), fun id j y hy _ => (by cases hy), fun id b sz xs j y hv hy => (by cases hy)⟩, fun t => ?_⟩
  show RelV w _ loc (lookS (st3 v0 v1 v8 len k s x).sl t) (a.tmps.getD t undef)
  simp only [st3, lookS]
  split
  · rename_i e; subst e; rw [t0]; exact RelC.lit _
  split
  · rename_i e; subst e; rw [t1]; exact RelC.lit _
  split
  · rename_i e; subst e; rw [t2]; exact roptr_of (loc := loc) h2 fun h => hw2 (hWR _ h)
  split
  · rename_i e; subst e; rw [t5]; exact roptr_of (loc := loc) h5 fun h => hw5 (hWR _ h)
  split
  · rename_i e; subst e; rw [t8]; exact RelC.lit _
  split
  · rename_i e; subst e; rw [t9]; exact RelC.lit _
  split
  · rename_i e; subst e; rw [t10]; exact RelC.lit _
  trivial
/-- What stands behind the region that draws. -/
theorem q3_out {v0 v1 v8 : Value} {len k : Nat} {s x : S} {st : St} {a : Act} {w w' : World} {wr : Nat → Prop} (hq : Q3 v0 v1 v8 len k s x .normal st) (hst : st.stands w (fun _ => False) wr 53 a w') :
    a.defers = [] ∧ a.tmps.size = 53 ∧ w.grownBy w' none ∧ a.tmps.getD 0 undef = v0 ∧ a.tmps.getD 1 undef = v1 ∧ a.tmps.getD 8 undef = v8 ∧ a.tmps.getD 9 undef = .int .i64 len ∧ a.tmps.getD 10 undef = .int .i64 k ∧
    ∃ g2 o2 g6 g7, a.tmps.getD 2 undef = .pointer (some ⟨g2, o2, none⟩) ∧ a.tmps.getD 6 undef = .pointer (some ⟨g6, 0, none⟩) ∧ a.tmps.getD 7 undef = .pointer (some ⟨g7, 0, none⟩) ∧ holds2 w' g2 o2 s ∧ holds2 w' g6 0 ⟨x.f, mn x.u s.f⟩ ∧ holds2 w' g7 0 ⟨mx x.f s.u, x.u⟩ ∧
      ¬ wr g2 ∧ w.heap.size ≤ g6 ∧ w.heap.size ≤ g7 := by
  obtain ⟨q0, q1, q2, q6, q7, q8, q9, q10, m60, m61, m70, m71⟩ := hq
  obtain ⟨hd, hs, loc, hM, hS⟩ := hst
  have s0 := hS 0; rw [q0] at s0
  have s1 := hS 1; rw [q1] at s1
  have s2 := hS 2; rw [q2] at s2
  have s6 := hS 6; rw [q6] at s6
  have s7 := hS 7; rw [q7] at s7
  have s8 := hS 8; rw [q8] at s8
  have s9 := hS 9; rw [q9] at s9
  have s10 := hS 10; rw [q10] at s10
  obtain ⟨g2, o2, e2, h2, hn2⟩ := of_roptr (loc := loc) s2
  have cell : ∀ id j (n : Int), st.at (id, j) = some (.cell (pI n)) → (loc id).here = true ∧ w'.cell? ⟨(loc id).g, j, none⟩ = some (.int .i64 n) ∧ w.heap.size ≤ (loc id).g := by
    intro id j n hm
    obtain ⟨hh, arr, T, u, a1, a2, _, a4⟩ := hM.mem id j _ hm
    have e : u = .int .i64 n := relL_lit a4
    subst e
    refine ⟨hh, by simp [World.cell?, a1, a2], ?_⟩
    rcases (hM.place id j _ hm hh).2 with h | h
    · exact h
    · exact h.elim
  refine ⟨hd, hs, ⟨hM.low.os, hM.low.tape, hM.low.output, hM.low.size, fun g hg _ => hM.keep g hg fun h => h⟩, rel_lit s0, rel_lit s1, rel_lit s8, rel_lit s9, rel_lit s10, g2, o2, (loc 6).g, (loc 7).g, e2, s6.2, s7.2, h2, ⟨(cell 6 0 _ m60).2.1, (cell 6 1 _ m61).2.1⟩, ⟨(cell 7 0 _ m70).2.1, (cell 7 1 _ m71).2.1⟩, fun h => hn2 (.inl h), (cell 6 0 _ m60).2.2, (cell 7 0 _ m70).2.2⟩

theorem arr_lit {α : Type} (a : Array α) (u : α) : a = ((List.range a.size).map fun i => a.getD i u).toArray := by
  apply Array.ext
  · simp
  · intro i h1 h2
    simp [Array.getD_eq_getD_getElem?, h1]
theorem act_lit {a : Act} (hd : a.defers = []) (hs : a.tmps.size = 53) : a = { tmps := #[a.tmps.getD 0 undef, a.tmps.getD 1 undef, a.tmps.getD 2 undef, a.tmps.getD 3 undef, a.tmps.getD 4 undef, a.tmps.getD 5 undef, a.tmps.getD 6 undef, a.tmps.getD 7 undef, a.tmps.getD 8 undef, a.tmps.getD 9 undef, a.tmps.getD 10 undef, a.tmps.getD 11 undef, a.tmps.getD 12 undef, a.tmps.getD 13 undef, a.tmps.getD 14 undef, a.tmps.getD 15 undef, a.tmps.getD 16 undef, a.tmps.getD 17 undef, a.tmps.getD 18 undef, a.tmps.getD 19 undef, a.tmps.getD 20 undef, a.tmps.getD 21 undef, a.tmps.getD 22 undef, a.tmps.getD 23 undef, a.tmps.getD 24 undef, a.tmps.getD 25 undef, a.tmps.getD 26 undef, a.tmps.getD 27 undef, a.tmps.getD 28 undef, a.tmps.getD 29 undef, a.tmps.getD 30 undef, a.tmps.getD 31 undef, a.tmps.getD 32 undef, a.tmps.getD 33 undef, a.tmps.getD 34 undef, a.tmps.getD 35 undef, a.tmps.getD 36 undef, a.tmps.getD 37 undef, a.tmps.getD 38 undef, a.tmps.getD 39 undef, a.tmps.getD 40 undef, a.tmps.getD 41 undef, a.tmps.getD 42 undef, a.tmps.getD 43 undef, a.tmps.getD 44 undef, a.tmps.getD 45 undef, a.tmps.getD 46 undef, a.tmps.getD 47 undef, a.tmps.getD 48 undef, a.tmps.getD 49 undef, a.tmps.getD 50 undef, a.tmps.getD 51 undef, a.tmps.getD 52 undef], defers := [] } := by
  have h := arr_lit a.tmps undef
  rw [hs] at h
  obtain ⟨t, d⟩ := a
  simp only [] at hd h
  subst hd
  exact congrArg (fun x => ({ tmps := x, defers := [] } : Act)) h

set_option maxRecDepth 100000 in
set_option maxHeartbeats 4000000 in
theorem parts1_in (n l n0 Bo b1 b2 b off cap : Nat) (xs : List S) (s : S) (hlen : xs.length ≤ 536870912) (J Jx : List (S × Bool) → World → Prop)
    (hY : ∀ pre x W, J pre W → pre.length < 2 * xs.length → YieldAt Fence.wide (n - 1) Try.prog l (encP x) W fun e W' => (e = .returned (.bool true) ∧ J (pre ++ [x]) W' ∧ Kp n0 Bo W W') ∨ (e = .returned (.bool false) ∧ Jx (pre ++ [x]) W'))
    (W : World) (hgood : good n0 Bo W) (hBo : Bo < W.heap.size) (h1 : W.cell? ⟨b1, 0, none⟩ = some (.slice (some ⟨b, off, none⟩) xs.length cap)) (h2 : holds2 W b2 0 s)
    (hb : ∀ j (x : S), xs[j]? = some x → W.cell? ⟨b, off + j * 2, none⟩ = some (.int .i64 x.f) ∧ W.cell? ⟨b, off + j * 2 + 1, none⟩ = some (.int .i64 x.u))
    (hm2 : ¬ mutb Bo W b2) (hmb : ¬ mutb Bo W b) (hJ : AbidesFrom W.heap.size J) (h0 : J [] W) :
    CallsIn Fence.wide n Try.prog 54 #[.func (.yield l) #[] #[], .pointer (some ⟨b1, 0, none⟩), .pointer (some ⟨b2, 0, none⟩)] W fun e W' => (∃ v, e = .returned v) ∧ (J (partsN s xs) W' ∨ ∃ pre, Jx pre W') := by
  refine callsIn_of_wp Try.func54 rfl trivial ?_ rfl
  simp only [Try.ntmps54, List.size_toArray, List.length_cons, List.length_nil, Nat.reduceAdd, Nat.reduceSub, Array.replicate_succ, Array.replicate_zero, List.push_toArray, List.append_toArray, List.nil_append, List.cons_append]
  gi_wp2
  refine wpIn_wide.2 (wp_loop_ghost (fun m a wr => ∃ (k g2 o2 : Nat), k + m = xs.length ∧ a.defers = [] ∧ a.tmps.size = 53 ∧ a.tmps.getD 0 undef = .func (.yield l) #[] #[] ∧ a.tmps.getD 1 undef = .pointer (some ⟨b1, 0, none⟩) ∧ a.tmps.getD 2 undef = .pointer (some ⟨g2, o2, none⟩) ∧
    a.tmps.getD 8 undef = .slice (some ⟨b, off, none⟩) xs.length cap ∧ a.tmps.getD 9 undef = .int .i64 xs.length ∧ a.tmps.getD 10 undef = .int .i64 k ∧ holds2 wr g2 o2 s ∧ ¬ mutb Bo wr g2 ∧ J (partsN s (xs.take k)) wr ∧ Kp n0 Bo W wr) xs.length
    ⟨0, b2, 0, by omega, rfl, rfl, rfl, rfl, rfl, rfl, rfl, rfl, h2, hm2, h0, Kp.refl⟩ fun m a wr hI => (wpIn_wide (n := n)).1 ?_)
  · obtain ⟨k, g2, o2, hk, hd, hs, t0, t1, t2, t8, t9, t10, hg2, hmg2, hJs, hnx⟩ := hI
    rw [act_lit hd hs, t0, t1, t2, t8, t9, t10]
    generalize a.tmps.getD 3 undef = u3
    generalize a.tmps.getD 4 undef = u4
    generalize a.tmps.getD 5 undef = u5
    generalize a.tmps.getD 6 undef = u6
    generalize a.tmps.getD 7 undef = u7
    generalize a.tmps.getD 11 undef = u11
    generalize a.tmps.getD 12 undef = u12
    generalize a.tmps.getD 13 undef = u13
    generalize a.tmps.getD 14 undef = u14
    generalize a.tmps.getD 15 undef = u15
    generalize a.tmps.getD 16 undef = u16
    generalize a.tmps.getD 17 undef = u17
    generalize a.tmps.getD 18 undef = u18
    generalize a.tmps.getD 19 undef = u19
    generalize a.tmps.getD 20 undef = u20
    generalize a.tmps.getD 21 undef = u21
    generalize a.tmps.getD 22 undef = u22
    generalize a.tmps.getD 23 undef = u23
    generalize a.tmps.getD 24 undef = u24
    generalize a.tmps.getD 25 undef = u25
    generalize a.tmps.getD 26 undef = u26
    generalize a.tmps.getD 27 undef = u27
    generalize a.tmps.getD 28 undef = u28
    generalize a.tmps.getD 29 undef = u29
    generalize a.tmps.getD 30 undef = u30
    generalize a.tmps.getD 31 undef = u31
    generalize a.tmps.getD 32 undef = u32
    generalize a.tmps.getD 33 undef = u33
    generalize a.tmps.getD 34 undef = u34
    generalize a.tmps.getD 35 undef = u35
    generalize a.tmps.getD 36 undef = u36
    generalize a.tmps.getD 37 undef = u37
    generalize a.tmps.getD 38 undef = u38
    generalize a.tmps.getD 39 undef = u39
    generalize a.tmps.getD 40 undef = u40
    generalize a.tmps.getD 41 undef = u41
    generalize a.tmps.getD 42 undef = u42
    generalize a.tmps.getD 43 undef = u43
    generalize a.tmps.getD 44 undef = u44
    generalize a.tmps.getD 45 undef = u45
    generalize a.tmps.getD 46 undef = u46
    generalize a.tmps.getD 47 undef = u47
    generalize a.tmps.getD 48 undef = u48
    generalize a.tmps.getD 49 undef = u49
    generalize a.tmps.getD 50 undef = u50
    generalize a.tmps.getD 51 undef = u51
    generalize a.tmps.getD 52 undef = u52
    clear hd hs t0 t1 t2 t8 t9 t10
    by_cases hlt : k < xs.length
    · obtain ⟨x, hx⟩ : ∃ x, xs[k]? = some x := ⟨_, List.getElem?_eq_getElem hlt⟩
      obtain ⟨hg, hsz, hst⟩ := hnx hgood
      have hblt : b < W.heap.size := cell_lt (hb k x hx).1
      have c1 := (cell_of_same (hst b hblt hmb).1 _).trans (hb k x hx).1
      have c2 := (cell_of_same (hst b hblt hmb).1 _).trans (hb k x hx).2
      gi_wp2
      -- the region that draws: by the pure machine
      obtain ⟨Wa, hWa⟩ : ∃ Wa, wr.alloc (.cells #[.int .i64 x.f, .int .i64 x.u] 50) = Wa := ⟨_, rfl⟩
      have hga : wr.grownBy Wa none := by rw [← hWa]; exact World.grownBy_alloc wr _ none
      have hBow : Bo < wr.heap.size := by omega
      have hgooda : good n0 Bo Wa := ((Kp.grown hga hBow (fun r e => by cases e)) hg).1
      have h5 : holds2 Wa wr.heap.size 0 x := by
        have e : Wa.heap[wr.heap.size]? = some (.cells #[.int .i64 x.f, .int .i64 x.u] 50) := by rw [← hWa]; exact World.alloc_heap_new _ _
        exact ⟨by simp [World.cell?, e], by simp [World.cell?, e]⟩
      have hg2a : holds2 Wa g2 o2 s := holds2_same hg2 (hga.block g2 (holds2_lt hg2) (by simp))
      have hmg2a : ¬ mutb Bo Wa g2 := ((Kp.grown (n0 := n0) hga hBow (fun r e => by cases e)) hg).2.2 g2 (holds2_lt hg2) hmg2 |>.2
      have hm5 : ¬ mutb Bo Wa wr.heap.size := mutb_new hg hBow hga (Nat.le_refl _) (holds2_isCells h5)
      rw [hWa]
      refine wpIn_wide.2 ?_
      refine draw_sound (live := none) (w0 := Wa) (lent := fun _ => False) (wr0 := fun g => mutb Bo Wa g ∧ g < Wa.heap.size) (n := 53) (Q' := Q3 (.func (.yield l) #[] #[]) (.pointer (some ⟨b1, 0, none⟩)) (.slice (some ⟨b, off, none⟩) xs.length cap) xs.length k s x) (s := st3 (.func (.yield l) #[] #[]) (.pointer (some ⟨b1, 0, none⟩)) (.slice (some ⟨b, off, none⟩) xs.length cap) xs.length k s x) (env_ok tT_ok fs_nil _ : EnvOk Try.prog (mkE (specAt []) [])) mixed (by kernel_rfl) ?_ (st3_stands (fun g h => h.2) hg2a h5 (fun h => hmg2a h.1) (fun h => hm5 h.1) rfl rfl rfl rfl rfl rfl rfl rfl rfl) ?_
      · show wpOpsP (mkE (specAt []) []) _ _ _ _ _
        simp -implicitDefEqProofs only [st3, pI, li, go_sem, ↓reduceIte, Nat.reduceEqDiff, Nat.reduceBEq, Nat.reduceAdd, Nat.reduceMul, Nat.reduceLeDiff, Nat.reduceSub, reduceCtorEq, Nat.reduceLT]
        refine ⟨by rfl, ?_⟩
        simp [Q3, St.slot, St.at, lookS, lookM, pI, li, mn, mx]
      · intro st a' W3 hq hst3
        obtain ⟨hd', hs', hgr, e0, e1, e8, e9, e10, g2', o2', g6, g7, e2, e6, e7, k2, k6, k7, n2, n6, n7⟩ := q3_out hq hst3
        rw [act_lit hd' hs', e0, e1, e2, e6, e7, e8, e9, e10]
        generalize a'.tmps.getD 3 undef = q3
        generalize a'.tmps.getD 4 undef = q4
        generalize a'.tmps.getD 5 undef = q5
        generalize a'.tmps.getD 11 undef = q11
        generalize a'.tmps.getD 12 undef = q12
        generalize a'.tmps.getD 13 undef = q13
        generalize a'.tmps.getD 14 undef = q14
        generalize a'.tmps.getD 15 undef = q15
        generalize a'.tmps.getD 16 undef = q16
        generalize a'.tmps.getD 17 undef = q17
        generalize a'.tmps.getD 18 undef = q18
        generalize a'.tmps.getD 19 undef = q19
        generalize a'.tmps.getD 20 undef = q20
        generalize a'.tmps.getD 21 undef = q21
        generalize a'.tmps.getD 22 undef = q22
        generalize a'.tmps.getD 23 undef = q23
        generalize a'.tmps.getD 24 undef = q24
        generalize a'.tmps.getD 25 undef = q25
        generalize a'.tmps.getD 26 undef = q26
        generalize a'.tmps.getD 27 undef = q27
        generalize a'.tmps.getD 28 undef = q28
        generalize a'.tmps.getD 29 undef = q29
        generalize a'.tmps.getD 30 undef = q30
        generalize a'.tmps.getD 31 undef = q31
        generalize a'.tmps.getD 32 undef = q32
        generalize a'.tmps.getD 33 undef = q33
        generalize a'.tmps.getD 34 undef = q34
        generalize a'.tmps.getD 35 undef = q35
        generalize a'.tmps.getD 36 undef = q36
        generalize a'.tmps.getD 37 undef = q37
        generalize a'.tmps.getD 38 undef = q38
        generalize a'.tmps.getD 39 undef = q39
        generalize a'.tmps.getD 40 undef = q40
        generalize a'.tmps.getD 41 undef = q41
        generalize a'.tmps.getD 42 undef = q42
        generalize a'.tmps.getD 43 undef = q43
        generalize a'.tmps.getD 44 undef = q44
        generalize a'.tmps.getD 45 undef = q45
        generalize a'.tmps.getD 46 undef = q46
        generalize a'.tmps.getD 47 undef = q47
        generalize a'.tmps.getD 48 undef = q48
        generalize a'.tmps.getD 49 undef = q49
        generalize a'.tmps.getD 50 undef = q50
        generalize a'.tmps.getD 51 undef = q51
        generalize a'.tmps.getD 52 undef = q52
        clear hd' hs' e0 e1 e2 e6 e7 e8 e9 e10 hq hst3
        have hBoa : Bo < Wa.heap.size := Nat.lt_of_lt_of_le hBow hga.size
        have hJ3 : J (partsN s (xs.take k)) W3 := hJ _ _ _ none (hJ _ _ _ none hJs hga fun r e => by cases e) hgr fun r e => by cases e
        have hKa : Kp n0 Bo wr Wa := Kp.grown hga hBow (fun r e => by cases e)
        have hK3 : Kp n0 Bo Wa W3 := Kp.grown hgr hBoa (fun r e => by cases e)
        have hKp3 : Kp n0 Bo W W3 := hnx.trans (hKa.trans hK3)
        obtain ⟨hg3, hs3, hst3⟩ := hK3 hgooda
        have hm6 : ¬ mutb Bo W3 g6 := mutb_new hgooda hBoa hgr n6 (holds2_isCells k6)
        have hm7 : ¬ mutb Bo W3 g7 := mutb_new hgooda hBoa hgr n7 (holds2_isCells k7)
        have hm2' : ¬ mutb Bo W3 g2' := by
          by_cases hlt2 : g2' < Wa.heap.size
          · exact (hst3 g2' hlt2 fun h => n2 ⟨h, hlt2⟩).2
          · exact mutb_new hgooda hBoa hgr (by omega) (holds2_isCells k2)
        have hpl : (partsN s (xs.take k)).length ≤ 2 * k := by
          have := partsN_length s (xs.take k)
          simp at this
          omega
        have hpn : partsN s (xs.take (k + 1)) = partsN s (xs.take k) ++ (lefts s x ++ rights s x) := by
          rw [List.take_add_one, hx, partsN_append]
          simp [partsN]
        clear hst hst3 hsz hg hmg2 hmg2a hm5 h5 hg2 hg2a c1 c2 hga hgr
        obtain ⟨c60, c61⟩ := id k6
        simp only [Nat.zero_add] at c61
        by_cases hl6 : x.f < mn x.u s.f
        · obtain ⟨fn, tmps, assign, body, hy, hR⟩ := hY _ (⟨x.f, mn x.u s.f⟩, true) W3 hJ3 (by omega)
          simp only [encP] at hy
          gi_wp2
          refine ⟨fun h => (by cases h), hR.mono ?_⟩
          clear hR hy
          rintro e W4 (⟨rfl, hJ4, hk4⟩ | ⟨rfl, hJx4⟩)
          · obtain ⟨hg4, hs4, hst4⟩ := hk4 hg3
            have k74 := holds2_same k7 (hst4 g7 (holds2_lt k7) hm7).1
            have k24 := holds2_same k2 (hst4 g2' (holds2_lt k2) hm2').1
            have hm24 := (hst4 g2' (holds2_lt k2) hm2').2
            obtain ⟨c70, c71⟩ := id k74
            simp only [Nat.zero_add] at c71
            have hle : lefts s x = [(⟨x.f, mn x.u s.f⟩, true)] := if_pos hl6
            by_cases hl7 : mx x.f s.u < x.u
            · have hri : rights s x = [(⟨mx x.f s.u, x.u⟩, false)] := if_pos hl7
              obtain ⟨fn, tmps, assign, body, hy, hR⟩ := hY _ (⟨mx x.f s.u, x.u⟩, false) W4 hJ4 (by first | omega | (simp; omega))
              simp only [encP] at hy
              gi_wp2
              refine ⟨fun h => (by cases h), hR.mono ?_⟩
              clear hR hy
              rintro e W5 (⟨rfl, hJ5, hk5⟩ | ⟨rfl, hJx5⟩)
              · obtain ⟨hg5, hs5, hst5⟩ := hk5 hg4
                have k25 := holds2_same k24 (hst5 g2' (holds2_lt k24) hm24).1
                have hm25 := (hst5 g2' (holds2_lt k24) hm24).2
                gi_wp2
                refine ⟨m - 1, by omega, k + 1, g2', o2', by omega, trivial, rfl, rfl, rfl, rfl, rfl, rfl, rfl, k25, hm25, ?_, (hKp3.trans hk4).trans hk5⟩
                rw [hpn, hle, hri]
                simpa using hJ5
              · gi_wp2
                refine bodyPost_ret (results_none rfl _ _ _) rfl ?_
                exact ⟨⟨_, rfl⟩, .inr ⟨_, hJx5⟩⟩
            · have hri : rights s x = [] := if_neg hl7
              gi_wp2
              refine ⟨fun _ h => (by cases h), ?_⟩
              gi_wp2
              refine ⟨m - 1, by omega, k + 1, g2', o2', by omega, trivial, rfl, rfl, rfl, rfl, rfl, rfl, rfl, k24, hm24, ?_, (hKp3.trans hk4)⟩
              rw [hpn, hle, hri]
              simpa using hJ4
          · gi_wp2
            refine bodyPost_ret (results_none rfl _ _ _) rfl ?_
            exact ⟨⟨_, rfl⟩, .inr ⟨_, hJx4⟩⟩
        · have hle : lefts s x = [] := if_neg hl6
          obtain ⟨c70, c71⟩ := id k7
          simp only [Nat.zero_add] at c71
          gi_wp2
          refine ⟨fun _ h => (by cases h), ?_⟩
          by_cases hl7 : mx x.f s.u < x.u
          · have hri : rights s x = [(⟨mx x.f s.u, x.u⟩, false)] := if_pos hl7
            obtain ⟨fn, tmps, assign, body, hy, hR⟩ := hY _ (⟨mx x.f s.u, x.u⟩, false) W3 hJ3 (by first | omega | (simp; omega))
            simp only [encP] at hy
            gi_wp2
            refine ⟨fun h => (by cases h), hR.mono ?_⟩
            clear hR hy
            rintro e W5 (⟨rfl, hJ5, hk5⟩ | ⟨rfl, hJx5⟩)
            · obtain ⟨hg5, hs5, hst5⟩ := hk5 hg3
              have k25 := holds2_same k2 (hst5 g2' (holds2_lt k2) hm2').1
              have hm25 := (hst5 g2' (holds2_lt k2) hm2').2
              gi_wp2
              refine ⟨m - 1, by omega, k + 1, g2', o2', by omega, trivial, rfl, rfl, rfl, rfl, rfl, rfl, rfl, k25, hm25, ?_, hKp3.trans hk5⟩
              rw [hpn, hle, hri]
              simpa using hJ5
            · gi_wp2
              refine bodyPost_ret (results_none rfl _ _ _) rfl ?_
              exact ⟨⟨_, rfl⟩, .inr ⟨_, hJx5⟩⟩
          · have hri : rights s x = [] := if_neg hl7
            gi_wp2
            refine ⟨fun _ h => (by cases h), ?_⟩
            gi_wp2
            refine ⟨m - 1, by omega, k + 1, g2', o2', by omega, trivial, rfl, rfl, rfl, rfl, rfl, rfl, rfl, k2, hm2', ?_, hKp3⟩
            rw [hpn, hle, hri]
            simpa using hJ3
    · obtain rfl : k = xs.length := by omega
      gi_wp2
      go_end0
      exact ⟨⟨_, rfl⟩, .inl (by simpa using hJs)⟩

set_option maxRecDepth 100000 in
set_option maxHeartbeats 1000000 in
theorem parts1_nil (n l b1 b2 cap : Nat) (A : Option Addr) (J : List (S × Bool) → World → Prop) (W : World) (h1 : W.cell? ⟨b1, 0, none⟩ = some (.slice A 0 cap)) (h0 : J [] W) :
    CallsIn Fence.wide n Try.prog 54 #[.func (.yield l) #[] #[], .pointer (some ⟨b1, 0, none⟩), .pointer (some ⟨b2, 0, none⟩)] W fun e W' => (∃ v, e = .returned v) ∧ J [] W' := by
  refine callsIn_of_wp Try.func54 rfl trivial ?_ rfl
  simp only [Try.ntmps54, List.size_toArray, List.length_cons, List.length_nil, Nat.reduceAdd, Nat.reduceSub, Array.replicate_succ, Array.replicate_zero, List.push_toArray, List.append_toArray, List.nil_append, List.cons_append]
  gi_wp2
  gi_loopw [10] (fun i wr => i = .int .i64 0 ∧ J [] wr) (fun _ _ => 0)
  case atStart => exact ⟨rfl, h0⟩
  case round =>
    obtain ⟨rfl, hJs⟩ := hrel
    gi_wp2
    go_end0
    exact ⟨⟨_, rfl⟩, hJs⟩

theorem ro_out {w : World} {wr : Nat → Prop} {xs : List S} {v : Value} (h : RelC w wr (.ro 2 (xs.map encS)) v) : ∃ A c, v = .slice A xs.length c ∧ xs.length ≤ c ∧ (xs = [] ∨ ∃ b off, A = some ⟨b, off, none⟩ ∧ b < w.heap.size ∧ ¬ wr b ∧
    ∀ j (x : S), xs[j]? = some x → w.cell? ⟨b, off + j * 2, none⟩ = some (.int .i64 x.f) ∧ w.cell? ⟨b, off + j * 2 + 1, none⟩ = some (.int .i64 x.u)) := by
  generalize hy : CV.ro 2 (xs.map encS) = y at h
  cases h with
  | lit v => cases hy
  | z A => cases hy
  | e A c => cases hy
  | ro sz ys A c us hc hs hA h1 hu =>
    simp only [CV.ro.injEq] at hy
    obtain ⟨rfl, rfl⟩ := hy
    refine ⟨A, c, by simp, by simpa using hc, ?_⟩
    by_cases hx : xs = []
    · exact .inl hx
    · right
      obtain ⟨a, rfl, hb, hn, hcell⟩ := hA (by simpa using hx)
      have get : ∀ j (x : S), xs[j]? = some x → w.cell? (a.add (j * 2)) = some (.int .i64 x.f) ∧ w.cell? (a.add (j * 2 + 1)) = some (.int .i64 x.u) := fun j x hj => by
        have hlt : j < xs.length := (List.getElem?_eq_some_iff.1 hj).1
        have e : (xs.map encS)[j]? = some (encS x) := by simp [hj]
        have r0 := hu j 0 _ _ e rfl
        have r1 := hu j 1 _ _ e rfl
        have e0 : us j 0 = .int .i64 x.f := by cases h0 : us j 0 <;> (rw [h0] at r0; cases r0) <;> rfl
        have e1 : us j 1 = .int .i64 x.u := by cases h0 : us j 1 <;> (rw [h0] at r1; cases r1) <;> rfl
        have c0 := hcell j 0 (by simpa using hlt) (by omega)
        have c1 := hcell j 1 (by simpa using hlt) (by omega)
        rw [e0] at c0; rw [e1] at c1
        exact ⟨c0, c1⟩
      obtain ⟨x0, hx0⟩ : ∃ x, xs[0]? = some x := ⟨_, List.getElem?_eq_getElem (by cases xs with | nil => exact absurd rfl hx | cons _ _ => simp)⟩
      have c0 := (get 0 x0 hx0).1
      have hsp := spot_none (a := a) (by simpa [Addr.add] using c0)
      obtain ⟨b, off, sp⟩ := a
      simp only [Addr.mk.injEq, true_and] at hsp
      subst hsp
      refine ⟨b, off, rfl, hb, hn, fun j x hj => ?_⟩
      have := get j x hj
      rw [add_mk, add_mk] at this
      exact ⟨this.1, by rw [Nat.add_assoc]; exact this.2⟩

/-- The iterator that parts hands back. -/
theorem parts_stops (n n0 Bo b1 b2 cap : Nat) (A : Option Addr) (xs : List S) (s : S) (w : World) (hlen : xs.length ≤ 536870912) (hBo : Bo < w.heap.size) (hout : w.cell? ⟨Bo, 0, none⟩ = some (.slice none 0 0))
    (hb1 : b1 < w.heap.size) (h1 : w.cell? ⟨b1, 0, none⟩ = some (.slice A xs.length cap)) (h2 : holds2 w b2 0 s) (hm2 : ¬ mutb Bo w b2)
    (hA : xs = [] ∨ ∃ b off, A = some ⟨b, off, none⟩ ∧ ¬ mutb Bo w b ∧ ∀ j (x : S), xs[j]? = some x → w.cell? ⟨b, off + j * 2, none⟩ = some (.int .i64 x.f) ∧ w.cell? ⟨b, off + j * 2 + 1, none⟩ = some (.int .i64 x.u)) :
    SeqStopsK Fence.wide n Try.prog 54 #[.pointer (some ⟨b1, 0, none⟩), .pointer (some ⟨b2, 0, none⟩)] encP (Kp n0 Bo) (fun ys => ys = partsN s xs) (fun _ => True) (2 * xs.length) w := by
  intro l J Jx W hW hJ hJx hY h0
  have same : ∀ g, g < w.heap.size → W.heap[g]? = w.heap[g]? := fun g hg => hW.block g hg
  have hout' : W.cell? ⟨Bo, 0, none⟩ = some (.slice none 0 0) := (cell_of_same (same Bo hBo) 0).trans hout
  have hmut : ∀ g, g < w.heap.size → ¬ mutb Bo w g → ¬ mutb Bo W g := fun g hg hm hm' => hm (by
    rcases hm' with h | ⟨A, len, c, h, _⟩ | ⟨o, h, h'⟩
    · exact .inl h
    · rw [hout'] at h; cases h
    · rw [same g hg] at h; exact .inr (.inr ⟨o, h, h'⟩))
  rcases hA with rfl | ⟨b, off, rfl, hmb, hc⟩
  · refine (parts1_nil n l b1 b2 cap A J W ((cell_of_same (same b1 hb1) 0).trans h1) h0).mono ?_
    rintro e W' ⟨he, hj⟩
    exact ⟨he, .inl ⟨_, rfl, hj⟩⟩
  · by_cases hx : xs = []
    · subst hx
      refine (parts1_nil n l b1 b2 cap _ J W ((cell_of_same (same b1 hb1) 0).trans h1) h0).mono ?_
      rintro e W' ⟨he, hj⟩
      exact ⟨he, .inl ⟨_, rfl, hj⟩⟩
    have hb : b < w.heap.size := by
      obtain ⟨x0, hx0⟩ : ∃ x, xs[0]? = some x := ⟨_, List.getElem?_eq_getElem (by cases xs with | nil => exact absurd rfl hx | cons _ _ => simp)⟩
      exact cell_lt (hc 0 x0 hx0).1
    refine (parts1_in n l n0 Bo b1 b2 b off cap xs s hlen J Jx hY W (fun A len c h => by rw [hout'] at h; cases h) (Nat.lt_of_lt_of_le hBo hW.size) ((cell_of_same (same b1 hb1) 0).trans h1) (holds2_same h2 (same b2 (holds2_lt h2)))
      (fun j x hj => ⟨(cell_of_same (same b hb) _).trans (hc j x hj).1, (cell_of_same (same b hb) _).trans (hc j x hj).2⟩) (hmut b2 (holds2_lt h2) hm2) (hmut b hb hmb) hJ h0).mono ?_
    rintro e W' ⟨he, hj | ⟨pre, hj⟩⟩
    · exact ⟨he, .inl ⟨_, rfl, hj⟩⟩
    · exact ⟨he, .inr ⟨_, trivial, hj⟩⟩
end Go.Proofs.We
