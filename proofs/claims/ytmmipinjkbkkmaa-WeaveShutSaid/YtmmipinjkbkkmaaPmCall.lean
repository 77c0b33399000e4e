/- Contracts, and calls. -/
import Derived.Test.YtmmipinjkbkkmaaPmOps8
set_option linter.unusedSimpArgs false
set_option linter.unusedVariables false
set_option linter.unusedSectionVars false
set_option linter.unnecessarySimpa false
namespace Go.PM
open Go.RowKit (Below)
variable {P : Program} {T : Tab} {w w0 : World} {wr lent wr0 : Nat → Prop} {loc : Locs} {m : Mem}

def PV.isC : PV → Bool
  | .c _ => true
  | _ => false
/-- It leads to nothing that may be written: it means the same wherever it stands. -/
def closedB : PV → Bool
  | .agg cs => cs.all PV.isC
  | p => p.isC
def PV.isRes : PV → Bool
  | .c _ => true
  | .fresh _ _ _ => true
  | _ => false

def openKL : PV → PV
  | .fresh k _ xs => .own k 0 xs.length
  | p => p
def openKV : PV → PV
  | .agg cs => .agg (cs.map openKL)
  | p => openKL p
def openKF : PV → PV
  | .tup vs => .tup (vs.map openKV)
  | p => openKV p

def PV.fresh' (r : PV) : List (Nat × Nat × List (List CV)) := r.leavesF.flatMap freshL

def wrF (wr : Nat → Prop) (fl : Locs) (r : PV) (g : Nat) : Prop := wr g ∨ ∃ x ∈ r.fresh', (fl x.1).here = true ∧ (fl x.1).g = g

structure ResOk (w w' : World) (wr : Nat → Prop) (fl : Locs) (r : PV) (v : Value) : Prop where
  val : RelV w' (wrF wr fl r) fl (openKF r) v
  row : ∀ x ∈ r.fresh', MRel w' (wrF wr fl r) fl x.1 0 (.vec true x.2.1 x.2.2) ∧ ((fl x.1).here = true → w.heap.size ≤ (fl x.1).g ∧ (fl x.1).g < w'.heap.size)
  inj : ∀ x ∈ r.fresh', ∀ y ∈ r.fresh', (fl x.1).here = true → (fl y.1).here = true → (fl x.1).g = (fl y.1).g → x.1 = y.1
  leaf : r.leavesF.all PV.isRes = true

def ArgsOk (w : World) (wr : Nat → Prop) (vs : List PV) (args : List Value) : Prop :=
  args.length = vs.length ∧ ∀ (i : Nat) (p : PV) (u : Value), vs[i]? = some p → args[i]? = some u → closedB p = true ∧ ∀ loc, RelA w wr loc p u

def Enters (P : Program) (f : FuncId) : Prop := ∀ (args : Array Value) (w : World), (callFunc f args).run P w = .ok (.enter f args) w

/-- What a function is known to hand back. -/
def SoundAt (P : Program) (f : FuncId) (vs : List PV) (r : PV) : Prop := Enters P f ∧
  ∀ (w : World) (wr : Nat → Prop) (args : List Value), (∀ g, wr g → g < w.heap.size) → ArgsOk w wr vs args → Calls P f args.toArray w fun e w' => match e with
    | .returned v => Below w.heap.size w w' ∧ ∃ fl, ResOk w w' wr fl r v
    | _ => False
structure EnvOk (P : Program) (E : Env) : Prop where
  tab : TabOk P E.T
  sound : ∀ f vs r, E.S f vs = some r → SoundAt P f vs r

theorem chunks_get (sz : Nat) : ∀ (n : Nat) (l : List CV) (j : Nat), (chunks sz n l)[j]? = if j < n then some ((l.drop (j * sz)).take sz) else none
  | 0, l, j => by simp [chunks]
  | n + 1, l, 0 => by simp [chunks]
  | n + 1, l, j + 1 => by
    simp only [chunks, List.getElem?_cons_succ, chunks_get sz n]
    by_cases h : j < n
    · rw [if_pos h, if_pos (by omega), List.drop_drop, Nat.add_mul, Nat.one_mul, Nat.add_comm]
    · rw [if_neg h, if_neg (by omega)]
theorem chunks_length (sz : Nat) : ∀ (n : Nat) (l : List CV), (chunks sz n l).length = n
  | 0, l => rfl
  | n + 1, l => by simp [chunks, chunks_length sz n]

/-- A row that lies in a block, seen by one who may not write it. -/
theorem rel_ro {sz : Nat} {xs : List (List CV)} {us : List Value} {A : Option Addr} {c : Nat} (hc : xs.length ≤ c) (hf : FlatRel w wr sz xs us) (hA : xs ≠ [] → ∃ a : Addr, A = some a ∧ a.block < w.heap.size ∧ ¬ wr a.block ∧ ∀ j u, us[j]? = some u → w.cell? (a.add j) = some u) :
    RelC w wr (.ro sz xs) (.slice A xs.length c) := by
  let f : Nat → Nat → Value := fun j i => match us[j * sz + i]? with
    | some u => if u.oneCell' = true then u else .bool false
    | none => .bool false
  have hfo : ∀ j i, (f j i).oneCell' = true := fun j i => by
    simp only [f]
    split
    · split
      · assumption
      · rfl
    · rfl
  have hfu : ∀ j i u, us[j * sz + i]? = some u → f j i = u := fun j i u hu => by
    simp only [f, hu]
    rw [if_pos (hf.one u (List.mem_of_getElem? hu))]
  refine .ro sz xs A c f hc hf.2.1 (fun hne => ?_) hfo (fun j i x p hx hp => ?_)
  · obtain ⟨a, ha, hb, hn, hcell⟩ := hA hne
    refine ⟨a, ha, hb, hn, fun j i hj hi => ?_⟩
    have hx := List.getElem?_eq_getElem hj
    have hp := List.getElem?_eq_getElem (l := xs[j]) (i := i) (by rw [hf.2.1 _ _ hx]; exact hi)
    obtain ⟨u, hu, _⟩ := hf.2.2 _ _ _ _ hx hp
    rw [hfu _ _ _ hu]
    exact hcell _ _ hu
  · obtain ⟨u, hu, _, hr⟩ := hf.2.2 _ _ _ _ hx hp
    rw [hfu _ _ _ hu]
    exact hr

theorem RelC.less {wr' : Nat → Prop} (h : ∀ g, g < w.heap.size → wr' g → wr g) {x : CV} {v : Value} (k : RelC w wr x v) : RelC w wr' x v :=
  k.later ⟨Nat.le_refl _, fun _ _ _ => rfl, h⟩
theorem FlatRel.less {wr' : Nat → Prop} (h : ∀ g, g < w.heap.size → wr' g → wr g) {sz : Nat} {xs : List (List CV)} {us : List Value} (k : FlatRel w wr sz xs us) : FlatRel w wr' sz xs us :=
  k.later ⟨Nat.le_refl _, fun _ _ _ => rfl, h⟩

/-- A leaf, seen by a callee. -/
theorem viewL_rel (hM : MInv w0 lent wr0 m loc w) {p q : PV} {v : Value} (h : RelL w (WR m loc wr0) loc p v) (hv : viewL m p = some q) {wr' : Nat → Prop} (hw : ∀ g, g < w.heap.size → wr' g → WR m loc wr0 g) (hn : ∀ id ∈ ownL p ++ boxL p, (loc id).here = true → ¬ wr' (loc id).g) :
    ∃ x, q = .c x ∧ RelC w wr' x v := by
  unfold viewL at hv
  split at hv
  · rename_i id off len
    obtain ⟨⟨sz, xs⟩, hvec, hv⟩ := onO_eq_some hv
    simp only [] at hv
    split at hv
    · rename_i hle
      cases hv
      refine ⟨_, rfl, ?_⟩
      obtain ⟨A, c, rfl, hlc, hcap, hA⟩ := h
      have hm := vecC_mem hM hvec
      obtain ⟨b, hkey⟩ := vecC_some hvec
      have hlen : ((xs.drop off).take len).length = len := by simp; omega
      by_cases h0 : 0 < c
      · obtain ⟨hh, rfl⟩ := hA h0
        obtain ⟨arr, T, a1, a2, a3⟩ := vec_flat hm (by omega)
        have hsub := (a3.less hw).sub off len hle
        have := rel_ro (A := some ⟨(loc id).g, off * (loc id).sz, none⟩) (c := c) (by rw [hlen]; exact hlc) hsub (fun _ => ⟨_, rfl, (hM.place id 0 _ hkey hh).1, hn id (by simp [ownL]) hh, fun j u hu => by
          have hj := (List.getElem?_eq_some_iff.1 hu).1
          have hj2 : j < len * sz := by simp at hj; omega
          simp only [] at hu
          rw [drop_take_get _ _ _ _ hj2, List.getElem?_take] at hu
          split at hu
          · rw [add_mk, hm.2.1]
            exact cell_of_heap a1 (by simpa using hu)
          · cases hu⟩)
        rw [hlen] at this
        exact this
      · have hl0 : len = 0 := by omega
        subst hl0
        have := rel_ro (w := w) (wr := wr') (sz := sz) (xs := []) (us := []) (A := A) (c := c) (by simp) (flat_nil _) (fun h => absurd rfl h)
        simpa using this
    · cases hv
  · rename_i id off sz len
    split at hv
    case isFalse => cases hv
    rename_i hsz0
    obtain ⟨l, hl, hv⟩ := onO_eq_some hv
    obtain ⟨cs, hcs, hv⟩ := onO_eq_some hv
    cases hv
    refine ⟨_, rfl, ?_⟩
    obtain ⟨A, c, rfl, hlc, hh, hA⟩ := h
    obtain ⟨hll, hb⟩ := boxC_spec hl
    have hlc2 := mapO_asC hcs
    have hcl : cs.length = sz * len := by rw [← hll, hlc2]; simp
    have hlen := chunks_length sz len cs
    obtain ⟨us, hul, hus⟩ := exists_list (Q := fun j u => w.cell? ⟨(loc id).g, off + j, none⟩ = some u ∧ u.oneCell' = true ∧ ∀ q, cs[j]? = some q → RelC w (WR m loc wr0) q u) (sz * len) (fun j hj => by
      have hq : cs[j]? = some (cs[j]'(by omega)) := List.getElem?_eq_getElem _
      obtain ⟨_, arr, T, u, h1, h2, h3, h4⟩ := hM.mem id _ _ (hb j (.c cs[j]) (by rw [hlc2]; simp [hq]))
      refine ⟨u, cell_of_heap h1 h2, h3, fun q hq' => ?_⟩
      rw [hq] at hq'; cases hq'
      exact h4)
    have hflat : FlatRel w wr' sz (chunks sz len cs) us := by
      refine ⟨by rw [hul, hlen, Nat.mul_comm], fun j x hx => ?_, fun j i x p hx hp => ?_⟩
      · rw [chunks_get] at hx
        split at hx
        · rename_i hj
          cases hx
          have := Nat.mul_le_mul_right sz (show j + 1 ≤ len from hj)
          rw [Nat.add_mul, Nat.mul_comm len sz] at this
          simp; omega
        · cases hx
      · rw [chunks_get] at hx
        split at hx
        · rename_i hj
          cases hx
          have hi : i < sz := by have := (List.getElem?_eq_some_iff.1 hp).1; simp at this; omega
          rw [drop_take_get _ _ _ _ hi] at hp
          have hlt : j * sz + i < us.length := by have := (List.getElem?_eq_some_iff.1 hp).1; omega
          have hu := List.getElem?_eq_getElem hlt
          obtain ⟨_, h2, h3⟩ := hus _ _ hu
          exact ⟨_, hu, h2, (h3 p hp).less hw⟩
        · cases hx
    have := rel_ro (A := A) (c := c) (by rw [hlen]; exact hlc) hflat (fun hne => by
      have hpos : 0 < c := by
        have : 0 < (chunks sz len cs).length := List.length_pos_iff.2 hne
        omega
      refine ⟨_, hA hpos, ?_, hn id (by simp [boxL]) hh, fun j u hu => by rw [add_mk]; exact (hus j u hu).1⟩
      have hlp : 0 < len := by rw [← hlen]; exact List.length_pos_iff.2 hne
      have : 0 < l.length := by rw [hll]; exact Nat.mul_pos hsz0 hlp
      have hp0 : l[0]? = some (l[0]'this) := List.getElem?_eq_getElem _
      exact (hM.place id _ _ (hb 0 _ hp0) hh).1)
    rw [hlen] at this
    exact this
  · cases hv
    exact ⟨_, rfl, RelC.less hw h⟩
  · cases hv

theorem viewA_rel (hM : MInv w0 lent wr0 m loc w) {p q : PV} {v : Value} (h : RelV w (WR m loc wr0) loc p v) (hv : view m p = some q) {wr' : Nat → Prop} (hw : ∀ g, g < w.heap.size → wr' g → WR m loc wr0 g) (hn : ∀ id, id ∈ p.leaves.flatMap (fun x => ownL x ++ boxL x) → (loc id).here = true → ¬ wr' (loc id).g) :
    closedB q = true ∧ ∀ loc', RelA w wr' loc' q v := by
  unfold view at hv
  split at hv
  · rename_i cs
    obtain ⟨l, hl, hv⟩ := onO_eq_some hv
    cases hv
    obtain ⟨us, rfl, hlen, hu⟩ := h
    have key : ∀ {cs l : List PV}, mapO (viewL m) cs = some l → l.length = cs.length ∧ ∀ (i : Nat) (q : PV), l[i]? = some q → ∃ p, cs[i]? = some p ∧ viewL m p = some q := by
      intro cs
      induction cs with
      | nil => intro l h; cases h; exact ⟨rfl, fun i q hq => by cases hq⟩
      | cons c r ih =>
        intro l h
        obtain ⟨b, hb, h⟩ := onO_eq_some h
        obtain ⟨l', hl', h⟩ := onO_eq_some h
        cases h
        obtain ⟨i1, i2⟩ := ih hl'
        refine ⟨by simp [i1], fun i q hq => ?_⟩
        cases i with
        | zero => cases hq; exact ⟨c, rfl, hb⟩
        | succ i => exact i2 i q hq
    obtain ⟨k1, k2⟩ := key hl
    have each : ∀ (i : Nat) (q : PV) (u : Value), l[i]? = some q → us[i]? = some u → u.oneCell' = true ∧ ∃ x, q = .c x ∧ RelC w wr' x u := fun i q u hq hu' => by
      obtain ⟨p, hp, hpv⟩ := k2 i q hq
      obtain ⟨a, b⟩ := hu i p u hp hu'
      exact ⟨a, viewL_rel hM b hpv hw fun id hid => hn id (List.mem_flatMap.2 ⟨p, List.mem_of_getElem? hp, hid⟩)⟩
    refine ⟨List.all_eq_true.2 fun q hq => ?_, fun loc' => ⟨us, rfl, by omega, fun i q u hq hu' => ?_⟩⟩
    · obtain ⟨i, hi⟩ := List.mem_iff_getElem?.1 hq
      have hlt := (List.getElem?_eq_some_iff.1 hi).1
      have hui : us[i]? = some (us[i]'(by omega)) := List.getElem?_eq_getElem _
      obtain ⟨_, x, rfl, _⟩ := each i q _ hi hui
      rfl
    · obtain ⟨a, x, rfl, hx⟩ := each i q u hq hu'
      exact ⟨a, hx⟩
  · rename_i hna
    have hl : p.leaves = [p] := by
      cases p <;> first | rfl | exact absurd rfl (hna _)
    have hrel : RelL w (WR m loc wr0) loc p v := by
      cases p <;> first | exact h | exact absurd rfl (hna _) | cases hv
    obtain ⟨x, rfl, hx⟩ := viewL_rel hM hrel hv hw (fun id hid => hn id (by rw [hl]; simpa using hid))
    exact ⟨rfl, fun _ => hx⟩

theorem updM_cases : ∀ (r : List (Key × Option MC)) (m : Mem) (t : Key), (∃ v, (t, v) ∈ r ∧ updM r m t = v) ∨ ((∀ e ∈ r, e.1 ≠ t) ∧ updM r m t = m t)
  | [], m, t => .inr ⟨fun e h => (by cases h), rfl⟩
  | (k, v) :: r, m, t => by
    simp only [updM]
    split
    · rename_i h
      exact .inl ⟨v, by simp [h], rfl⟩
    · rename_i h
      rcases updM_cases r m t with ⟨v', a, b⟩ | ⟨a, b⟩
      · exact .inl ⟨v', by simp [a], b⟩
      · exact .inr ⟨fun e he => by
          cases he with
          | head => exact h
          | tail _ he => exact a e he, b⟩

/-- What is handed back, as the caller holds it. -/
theorem res_rel {w' : World} {wr1 wr2 : Nat → Prop} {fl loc' : Locs} {d : Nat} {r : PV} {v : Value} (hleaf : r.leavesF.all PV.isRes = true) (hl : ∀ x ∈ r.fresh', loc' (fid d x.1) = fl x.1) (hc : ∀ (x : CV) (u : Value), PV.c x ∈ r.leavesF → RelC w' wr1 x u → RelC w' wr2 x u) (h : RelV w' wr1 fl (openKF r) v) :
    RelV w' wr2 loc' (openF d r) v := by
  have leaf : ∀ (p : PV) (u : Value), p ∈ r.leavesF → RelL w' wr1 fl (openKL p) u → RelL w' wr2 loc' (openL d p) u := by
    intro p u hp h
    have hres := List.all_eq_true.1 hleaf p hp
    cases p with
    | c x => exact hc x u hp h
    | fresh k sz xs =>
      have hk := hl (k, sz, xs) (List.mem_flatMap.2 ⟨_, hp, by simp [freshL]⟩)
      simp only [openKL, openL, RelL] at h ⊢
      rw [hk]
      exact h
    | _ => cases hres
  have aggr : ∀ (p : PV) (u : Value), (∀ q ∈ p.leaves, q ∈ r.leavesF) → RelA w' wr1 fl (openKV p) u → RelA w' wr2 loc' (openV d p) u := by
    intro p u hp h
    cases p with
    | agg cs =>
      obtain ⟨us, rfl, hlen, hu⟩ := h
      refine ⟨us, rfl, by simpa using hlen, fun i q u hq hu' => ?_⟩
      simp only [List.getElem?_map, Option.map_eq_some_iff] at hq
      obtain ⟨q', hq', rfl⟩ := hq
      obtain ⟨a, b⟩ := hu i (openKL q') u (by simp [hq']) hu'
      exact ⟨a, leaf q' u (hp q' (List.mem_of_getElem? hq')) b⟩
    | c x => exact leaf (.c x) u (hp (.c x) (by simp [PV.leaves])) h
    | fresh k sz xs => exact leaf (.fresh k sz xs) u (hp (.fresh k sz xs) (by simp [PV.leaves])) h
    | tup vs => exact h.elim
    | undef => cases List.all_eq_true.1 hleaf .undef (hp .undef (by simp [PV.leaves]))
    | own id off len => cases List.all_eq_true.1 hleaf (.own id off len) (hp (.own id off len) (by simp [PV.leaves]))
    | bsl id off sz len => cases List.all_eq_true.1 hleaf (.bsl id off sz len) (hp (.bsl id off sz len) (by simp [PV.leaves]))
    | ptr id off => cases List.all_eq_true.1 hleaf (.ptr id off) (hp (.ptr id off) (by simp [PV.leaves]))
    | eptr id i off => cases List.all_eq_true.1 hleaf (.eptr id i off) (hp (.eptr id i off) (by simp [PV.leaves]))
    | roptr cs => cases List.all_eq_true.1 hleaf (.roptr cs) (hp (.roptr cs) (by simp [PV.leaves]))
    | clo f caps => cases List.all_eq_true.1 hleaf (.clo f caps) (hp (.clo f caps) (by simp [PV.leaves]))
  by_cases ht : ∃ vs, r = .tup vs
  · obtain ⟨vs, rfl⟩ := ht
    obtain ⟨us, rfl, hlen, hu⟩ := h
    refine ⟨us, rfl, by simpa using hlen, fun i q u hq hu' => ?_⟩
    simp only [List.getElem?_map, Option.map_eq_some_iff] at hq
    obtain ⟨q', hq', rfl⟩ := hq
    exact aggr q' u (fun x hx => List.mem_flatMap.2 ⟨q', List.mem_of_getElem? hq', hx⟩) (hu i (openKV q') u (by simp [hq']) hu')
  · have h1 : r.leavesF = r.leaves := by cases r <;> first | rfl | exact absurd ⟨_, rfl⟩ ht
    have h2 : openKF r = openKV r := by cases r <;> first | rfl | exact absurd ⟨_, rfl⟩ ht
    have h3 : openF d r = openV d r := by cases r <;> first | rfl | exact absurd ⟨_, rfl⟩ ht
    have h4 : RelA w' wr1 fl (openKV r) v := by
      rw [h2] at h
      cases r <;> first | exact h | exact absurd ⟨_, rfl⟩ ht
    have h5 := aggr r v (fun x hx => h1 ▸ hx) h4
    rw [h3]
    cases r <;> first | exact h5 | exact absurd ⟨_, rfl⟩ ht

theorem mapO_all {α β : Type} {f : α → Option β} : ∀ {l : List α} {r : List β}, mapO f l = some r → ∀ a ∈ l, ∃ b, f a = some b
  | [], r, h, a, ha => by cases ha
  | c :: l, r, h, a, ha => by
    obtain ⟨b, hb, h⟩ := onO_eq_some h
    obtain ⟨l', hl', h⟩ := onO_eq_some h
    cases ha with
    | head => exact ⟨b, hb⟩
    | tail _ ha => exact mapO_all hl' a ha
theorem view_leaves {q v : PV} (h : view m q = some v) : ∀ p ∈ q.leaves, ∃ x, viewL m p = some x := by
  intro p hp
  unfold view at h
  split at h
  · obtain ⟨l, hl, h⟩ := onO_eq_some h
    exact mapO_all hl p hp
  · rename_i hna
    have hl : q.leaves = [q] := by
      cases q <;> first | rfl | exact absurd rfl (hna _)
    rw [hl, List.mem_singleton] at hp
    subst hp
    exact ⟨_, h⟩
theorem own_key {p x : PV} (h : viewL m p = some x) {id : Nat} (hid : id ∈ ownL p) : ∃ b sz xs, m (id, 0) = some (.vec b sz xs) := by
  unfold ownL at hid
  split at hid
  · simp only [List.mem_singleton] at hid
    subst hid
    obtain ⟨⟨sz, xs⟩, hv, _⟩ := onO_eq_some h
    obtain ⟨b, hb⟩ := vecC_some hv
    exact ⟨b, sz, xs, hb⟩
  · cases hid

theorem lit_any {w' : World} {wr1 wr2 : Nat → Prop} {x : CV} {u : Value} (hx : x.plain = true) (h : RelC w' wr1 x u) : RelC w' wr2 x u := by
  cases h with
  | lit => exact .lit _
  | z A => cases hx
  | e A c => cases hx
  | ro => cases hx

section
variable {ev : Operand → PV} {ρ : Operand → Value} (hev : EvOk w (WR m loc wr0) loc ev ρ)
include hev

theorem asFunc_rel {f : Operand} {g : FuncId} (h : asFunc (ev f) = some g) : ρ f = .func (.func g) #[] #[] := by
  generalize hx : ev f = q at h
  unfold asFunc at h
  split at h
  · split at h
    · rename_i hc
      cases h
      obtain ⟨h1, h2⟩ := hc
      rw [Array.size_eq_zero_iff] at h1 h2
      subst h1; subst h2
      exact ev_lit hev hx
    · cases h
  · cases h

omit hev in
theorem mapO_get {α β : Type} {f : α → Option β} : ∀ {l : List α} {r : List β}, mapO f l = some r → r.length = l.length ∧ ∀ (i : Nat) (b : β), r[i]? = some b → ∃ a, l[i]? = some a ∧ f a = some b
  | [], r, h => by cases h; exact ⟨rfl, fun i q hq => by cases hq⟩
  | c :: l, r, h => by
    obtain ⟨b, hb, h⟩ := onO_eq_some h
    obtain ⟨l', hl', h⟩ := onO_eq_some h
    cases h
    obtain ⟨i1, i2⟩ := mapO_get hl'
    refine ⟨by simp [i1], fun i q hq => ?_⟩
    cases i with
    | zero => cases hq; exact ⟨c, rfl, hb⟩
    | succ i => exact i2 i q hq

/-- What a call leaves behind. -/
def OutOf (w0 : World) (lent wr0 : Nat → Prop) (m : Mem) (loc : Locs) (w : World) (e : Eff) (x : Value) (w' : World) : Prop := OpOut w0 lent wr0 m loc w e x w'

theorem o_call {E : Env} (hE : EnvOk P E) (hM : MInv w0 lent wr0 m loc w) {o : Oper} {f : Operand} {as : Array Operand} {ts : Array TypeId} {d : Nat} {e : Eff} (ho : o.op = .call ⟨.value f, as, ts⟩) (h : callRes E.S m d (ev f) (as.toList.map ev) = some e)
    (hd : ∀ n ∈ e.new, Free m n) (hwr : ∀ g, wr0 g → g < w.heap.size) : OpDone P ρ o w (OpOut w0 lent wr0 m loc w e) := by
  obtain ⟨g, hg, h⟩ := onO_eq_some h
  obtain ⟨vs, hvs, h⟩ := onO_eq_some h
  obtain ⟨r, hr, h⟩ := onO_eq_some h
  obtain ⟨hent, hs⟩ := hE.sound g vs r hr
  have hf := asFunc_rel hev hg
  let ids : List Nat := (as.toList.map ev).flatMap fun p => p.leaves.flatMap fun x => ownL x ++ boxL x
  let wr' : Nat → Prop := fun g => WR m loc wr0 g ∧ ∀ id ∈ ids, (loc id).here = true → (loc id).g ≠ g
  have hargs : ArgsOk w wr' vs (as.toList.map ρ) := by
    obtain ⟨i1, i2⟩ := mapO_get hvs
    refine ⟨by simp at i1 ⊢; omega, fun i p u hp hu => ?_⟩
    obtain ⟨a, ha, hv⟩ := i2 i p hp
    simp only [List.getElem?_map, Option.map_eq_some_iff] at ha hu
    obtain ⟨x, hx, rfl⟩ := ha
    obtain ⟨x', hx', rfl⟩ := hu
    rw [hx] at hx'; cases hx'
    exact viewA_rel hM (hev x) hv (fun g _ h => h.1) fun id hid hh hw => hw.2 id (List.mem_flatMap.2 ⟨ev x, List.mem_map.2 ⟨x, List.mem_of_getElem? hx, rfl⟩, hid⟩) hh rfl
  have hcall := hs w wr' (as.toList.map ρ) (fun g hg => by
    rcases hg.1 with h | ⟨id, j, x, hx, _, hh, rfl⟩
    · exact hwr g h
    · exact (hM.place id j x hx hh).1) hargs
  intro a next Q ha hn
  unfold Oper.wp
  have hrun : (execOp ρ o).run P w = .ok (.enter g (as.toList.map ρ).toArray) w := by
    have hmap : as.map ρ = (as.toList.map ρ).toArray := by apply Array.ext'; simp
    have h1 := hent (as.toList.map ρ).toArray w
    simp [execOp, ho, resolve, hf, Deferred.ofValue, invoke, hmap, h1]
  rw [ha, hrun]
  show Calls P g _ w _
  refine Calls.mono hcall fun en w'' hen => ?_
  cases en with
  | panicked _ => exact hen.elim
  | outgrown => exact hen.elim
  | returned v =>
    refine hn v w'' ?_
    obtain ⟨hb, fl, hres⟩ := hen
    let loc' : Locs := fun id => if id ∈ e.new then fl (id - 1000 * (d + 1)) else loc id
    have hnew : ∀ id, id ∉ e.new → loc' id = loc id := fun id h => if_neg h
    -- what both ways have in common
    have main : ∀ more : List (Key × Option MC), e = ⟨openF d r, r.fresh'.map (fun x => ((fid d x.1, 0), some (.vec true x.2.1 x.2.2))) ++ more, r.fresh'.map (fun x => fid d x.1), (as.toList.map ev).flatMap rdV⟩ →
        (∀ t v, (t, v) ∈ more → ∃ id, t = (id, 0) ∧ v = onO (vecC m id) fun v => some (.vec false v.1 v.2)) →
        (∀ x u, PV.c x ∈ r.leavesF → RelC w'' (wrF wr' fl r) x u → RelC w'' (WR (updM e.wr m) loc' wr0) x u) →
        (∀ x ∈ r.fresh', ∀ y ∈ x.2.2, ∀ p ∈ y, ∀ u, RelC w'' (wrF wr' fl r) p u → RelC w'' (WR (updM e.wr m) loc' wr0) p u) → OpOut w0 lent wr0 m loc w e v w'' := by
      intro more he hmore hc1 hc2
      have hin : ∀ id, id ∈ e.new → ∃ x ∈ r.fresh', id = fid d x.1 := fun id h => by
        rw [he] at h
        obtain ⟨x, hx, rfl⟩ := List.mem_map.1 h
        exact ⟨x, hx, rfl⟩
      have hloc : ∀ x ∈ r.fresh', loc' (fid d x.1) = fl x.1 := fun x hx => by
        have : fid d x.1 ∈ e.new := by rw [he]; exact List.mem_map.2 ⟨x, hx, rfl⟩
        have e0 : fid d x.1 - 1000 * (d + 1) = x.1 := by unfold fid; omega
        simp only [loc', if_pos this, e0]
      -- what is looked up
      have hlook : ∀ id j x, updM e.wr m (id, j) = some x → (∃ y ∈ r.fresh', id = fid d y.1 ∧ j = 0 ∧ x = .vec true y.2.1 y.2.2) ∨ (id ∉ e.new ∧ ∃ y, m (id, j) = some y ∧ Tame y x) := by
        intro id j x hx
        rcases updM_cases e.wr m (id, j) with ⟨v', h1, h2⟩ | ⟨h1, h2⟩
        · rw [hx] at h2
          subst h2
          have hw : e.wr = r.fresh'.map (fun x => ((fid d x.1, 0), some (.vec true x.2.1 x.2.2))) ++ more := congrArg Eff.wr he
          rw [hw] at h1
          rcases List.mem_append.1 h1 with h1 | h1
          · obtain ⟨y, hy, hyy⟩ := List.mem_map.1 h1
            cases hyy
            exact .inl ⟨y, hy, rfl, rfl, rfl⟩
          · obtain ⟨id', e1, e2⟩ := hmore _ _ h1
            cases e1
            obtain ⟨⟨sz, xs⟩, hv, e3⟩ := onO_eq_some e2.symm
            cases e3
            obtain ⟨b, hb⟩ := vecC_some hv
            refine .inr ⟨fun hne => ?_, _, hb, .inr ⟨b, sz, xs, rfl, rfl⟩⟩
            rw [(hd id hne).1] at hb; cases hb
        · rw [h2] at hx
          refine .inr ⟨fun hne => ?_, x, hx, .inl rfl⟩
          rw [(hd id hne).1] at hx; cases hx
      obtain ⟨g1, g2⟩ := hM.grow (m' := updM e.wr m) (loc' := loc') hb (· ∈ e.new) (fun id j x hx hne => by
          rcases hlook id j x hx with ⟨y, hy, rfl, _⟩ | ⟨_, h⟩
          · exact absurd (by rw [he]; exact List.mem_map.2 ⟨y, hy, rfl⟩) hne
          · exact h) hnew (fun id j p hp n hn hnn => (hd n hnn).2 id j p hp hn) (fun id j x hx hne hh => by
          obtain ⟨y, hy, rfl⟩ := hin id hne
          rw [hloc y hy] at hh ⊢
          exact (hres.row y hy).2 hh) (fun id j x id' j' x' _ _ hne hne' hh hh' eg => by
          obtain ⟨y, hy, rfl⟩ := hin id hne
          obtain ⟨y', hy', rfl⟩ := hin id' hne'
          rw [hloc y hy] at hh eg
          rw [hloc y' hy'] at hh' eg
          rw [hres.inj y hy y' hy' hh hh' eg]) (fun id b sz xs j x _ hx hne => by
          rcases hlook id j x hx with ⟨y, hy, _, e0, _⟩ | ⟨h, _⟩
          · exact e0
          · exact absurd hne h) (fun L id j x hx hne => by
          rcases hlook id j x hx with ⟨y, hy, rfl, rfl, rfl⟩ | ⟨h, _⟩
          · obtain ⟨_, r1, r2, r3, r4, r5⟩ := (hres.row y hy).1
            simp only [MRel, hloc y hy]
            refine ⟨trivial, r1, r2, r3, r4, fun h0 => ?_⟩
            obtain ⟨a0, arr, T, a1, a2, a3⟩ := r5 h0
            refine ⟨a0, arr, T, a1, a2, fun j i x p hx hp => ?_⟩
            obtain ⟨u, b1, b2, b3⟩ := a3 j i x p hx hp
            exact ⟨u, b1, b2, hc2 y hy x (List.mem_of_getElem? hx) p (List.mem_of_getElem? hp) u b3⟩
          · exact absurd hne h)
      refine ⟨loc', g1, g2, ?_, hnew⟩
      have := res_rel (d := d) (wr2 := WR (updM e.wr m) loc' wr0) hres.leaf hloc (fun x u hx => hc1 x u hx) hres.val
      rw [he]
      rw [he] at this
      exact this
    unfold callEff at h
    split at h
    · rename_i hplain
      cases h
      refine main [] (by rw [List.append_nil]; rfl) (fun t v h => by cases h) (fun x u hx hr => ?_) (fun x hx y hy p hp u hr => ?_)
      · exact lit_any (List.all_eq_true.1 hplain _ hx) hr
      · obtain ⟨q, hq, hxq⟩ := List.mem_flatMap.1 hx
        have hpl := List.all_eq_true.1 hplain q hq
        unfold freshL at hxq
        split at hxq
        · simp only [List.mem_singleton] at hxq
          subst hxq
          have hpl : allLit _ = true := hpl
          exact lit_any (List.all_eq_true.1 (List.all_eq_true.1 hpl y hy) p hp) hr
        · cases hxq
    · split at h
      · rename_i hbox
        have h := (Option.some.inj h).symm
        -- the blocks that may still be written are those that the callee knew of
        have hids : ∀ id, id ∈ ids → ∃ q ∈ as.toList.map ev, ∃ b sz xs, m (id, 0) = some (.vec b sz xs) ∧ id ∈ (q.leaves.flatMap ownL) := by
          intro id hid
          obtain ⟨q, hq, hid⟩ := List.mem_flatMap.1 hid
          obtain ⟨p, hp, hid⟩ := List.mem_flatMap.1 hid
          have hnb : boxL p = [] := by
            have := List.isEmpty_iff.1 hbox
            rw [List.flatMap_eq_nil_iff] at this
            exact this p (List.mem_flatMap.2 ⟨q, hq, hp⟩)
          rw [hnb, List.append_nil] at hid
          obtain ⟨v', hv'⟩ := mapO_all hvs q hq
          obtain ⟨x', hx'⟩ := view_leaves hv' p hp
          obtain ⟨b, sz, xs, hk⟩ := own_key hx' hid
          exact ⟨q, hq, b, sz, xs, hk, List.mem_flatMap.2 ⟨p, hp, hid⟩⟩
        have hless : ∀ g, WR (updM e.wr m) loc' wr0 g → wrF wr' fl r g := by
          intro g hg
          rcases hg with hg | ⟨id, j, x, hx, hrw, hh, rfl⟩
          · refine .inl ⟨.inl hg, fun id hid hh eg => ?_⟩
            obtain ⟨_, _, b, sz, xs, hk, _⟩ := hids id hid
            have h1 := (hM.place id 0 _ hk hh).2
            have h2 := hM.wrlt g hg
            rw [eg] at h1
            rcases h1 with h1 | h1
            · omega
            · exact h2.2 h1
          · have hw : e.wr = r.fresh'.map (fun x => ((fid d x.1, 0), some (.vec true x.2.1 x.2.2))) ++ (((as.toList.map ev).flatMap PV.leaves).flatMap ownL).map (freezeW m) := congrArg Eff.wr h
            have hne : e.new = r.fresh'.map (fun x => fid d x.1) := congrArg Eff.new h
            rcases updM_cases e.wr m (id, j) with ⟨v', h1, h2⟩ | ⟨h1, h2⟩
            · rw [hx] at h2
              subst h2
              rw [hw] at h1
              rcases List.mem_append.1 h1 with h1 | h1
              · obtain ⟨y, hy, hyy⟩ := List.mem_map.1 h1
                cases hyy
                have hmem : fid d y.1 ∈ e.new := by rw [hne]; exact List.mem_map.2 ⟨y, hy, rfl⟩
                have e0 : fid d y.1 - 1000 * (d + 1) = y.1 := by unfold fid; omega
                simp only [loc', if_pos hmem, e0] at hh ⊢
                exact .inr ⟨y, hy, hh, rfl⟩
              · obtain ⟨id', _, hid'⟩ := List.mem_map.1 h1
                have e3 : onO (vecC m id') (fun v => some (MC.vec false v.1 v.2)) = some x := congrArg Prod.snd hid'
                obtain ⟨v3, _, e4⟩ := onO_eq_some e3
                rw [← Option.some.inj e4] at hrw
                cases hrw
            · rw [h2] at hx
              have hnid : id ∉ e.new := fun hn => by rw [(hd id hn).1] at hx; cases hx
              rw [hnew id hnid] at hh ⊢
              have hnids : id ∉ ids := fun hid => by
                obtain ⟨q, hq, b, sz, xs, hk, hown⟩ := hids id hid
                have hj := hM.excl id b sz xs j x hk hx
                subst hj
                refine h1 (freezeW m id) ?_ rfl
                rw [hw]
                refine List.mem_append_right _ (List.mem_map.2 ⟨id, ?_, rfl⟩)
                obtain ⟨p, hp, hid⟩ := List.mem_flatMap.1 hown
                exact List.mem_flatMap.2 ⟨p, List.mem_flatMap.2 ⟨q, hq, hp⟩, hid⟩
              refine .inl ⟨.inr ⟨id, j, x, hx, hrw, hh, rfl⟩, fun id' hid' hh' eg => ?_⟩
              obtain ⟨_, _, b, sz, xs, hk, _⟩ := hids id' hid'
              have := hM.inj id' 0 _ id j x hk hx hh' hh eg
              exact hnids (this ▸ hid')
        refine main _ h (fun t v hv => ?_) (fun x u _ hx => hx.less fun g _ hg => hless g hg) (fun x _ y _ p _ u hx => hx.less fun g _ hg => hless g hg)
        · obtain ⟨id, _, hid⟩ := List.mem_map.1 hv
          cases hid
          exact ⟨id, rfl, rfl⟩
      · cases h
end
end Go.PM
