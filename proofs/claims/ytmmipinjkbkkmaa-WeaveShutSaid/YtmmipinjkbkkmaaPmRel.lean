/- How a state of the pure machine stands to the machine's own frame and memory. -/
import Derived.Test.YtmmipinjkbkkmaaPmDef
import Derived.Below
set_option linter.unusedSimpArgs false
set_option linter.unusedVariables false
set_option linter.unusedSectionVars false
set_option linter.unnecessarySimpa false
namespace Go.PM
open Go.RowKit (Below)

/-- Where a block of one's own lies: which block, how many elements fit, of how many cells, and is there any. -/
structure Loc where
  g : Nat
  cap : Nat
  sz : Nat
  here : Bool
abbrev Locs := Nat → Loc

/-- A closed value; wr: the blocks that may still be written. -/
inductive RelC (w : World) (wr : Nat → Prop) : CV → Value → Prop where
  | lit (v : Value) : RelC w wr (.lit v) v
  | z (A : Option Addr) : RelC w wr .z (.slice A 0 0)
  | e (A : Option Addr) (c : Nat) : RelC w wr (.e A.isNone) (.slice A 0 c)
  | ro (sz : Nat) (xs : List (List CV)) (A : Option Addr) (c : Nat) (us : Nat → Nat → Value) (hc : xs.length ≤ c) (hs : ∀ (j : Nat) (x : List CV), xs[j]? = some x → x.length = sz)
      (hA : xs ≠ [] → ∃ a : Addr, A = some a ∧ a.block < w.heap.size ∧ ¬ wr a.block ∧ ∀ j i, j < xs.length → i < sz → w.cell? (a.add (j * sz + i)) = some (us j i))
      (h1 : ∀ j i, (us j i).oneCell' = true)
      (hu : ∀ (j i : Nat) (x : List CV) (p : CV), xs[j]? = some x → x[i]? = some p → RelC w wr p (us j i)) : RelC w wr (.ro sz xs) (.slice A xs.length c)

/-- What is the same in a later world: what may not be written. -/
structure Later (w w' : World) (wr wr' : Nat → Prop) : Prop where
  size : w.heap.size ≤ w'.heap.size
  same : ∀ g, g < w.heap.size → ¬ wr g → w'.heap[g]? = w.heap[g]?
  wr : ∀ g, g < w.heap.size → wr' g → wr g

theorem Later.cell {w w' : World} {wr wr' : Nat → Prop} (L : Later w w' wr wr') {a : Addr} (h : a.block < w.heap.size) (hn : ¬ wr a.block) : w'.cell? a = w.cell? a :=
  World.cell?_of_block (L.same _ h hn)

theorem add_block (a : Addr) (n : Nat) : (a.add n).block = a.block := by unfold Addr.add; split <;> rfl

theorem RelC.later {w w' : World} {wr wr' : Nat → Prop} (L : Later w w' wr wr') {x : CV} {v : Value} (h : RelC w wr x v) : RelC w' wr' x v := by
  induction h with
  | lit v => exact .lit v
  | z A => exact .z A
  | e A c => exact .e A c
  | ro sz xs A c us hc hs hA h1 hu ih =>
    refine .ro sz xs A c us hc hs (fun hne => ?_) h1 ih
    obtain ⟨a, e, hb, hn, hcell⟩ := hA hne
    refine ⟨a, e, Nat.lt_of_lt_of_le hb L.size, fun hw => hn (L.wr _ hb hw), fun j i hj hi => ?_⟩
    rw [L.cell (by rw [add_block]; exact hb) (by rw [add_block]; exact hn)]
    exact hcell j i hj hi

/-- One cell's value, or a slot's. -/
def RelL (w : World) (wr : Nat → Prop) (loc : Locs) : PV → Value → Prop
  | .undef, _ => True
  | .c x, v => RelC w wr x v
  | .own id off len, v => ∃ A c, v = .slice A len c ∧ len ≤ c ∧ off + c = (loc id).cap ∧ (0 < c → (loc id).here = true ∧ A = some ⟨(loc id).g, off * (loc id).sz, none⟩)
  | .bsl id off _ len, v => ∃ A c, v = .slice A len c ∧ len ≤ c ∧ (loc id).here = true ∧ (0 < c → A = some ⟨(loc id).g, off, none⟩)
  | .ptr id off, v => (loc id).here = true ∧ v = .pointer (some ⟨(loc id).g, off, none⟩)
  | .eptr id i off, v => (loc id).here = true ∧ v = .pointer (some ⟨(loc id).g, i * (loc id).sz + off, none⟩)
  | .roptr cs, v => ∃ (a : Addr) (us : Nat → Value), v = .pointer (some a) ∧ a.block < w.heap.size ∧ ¬ wr a.block ∧ (∀ i, i < cs.length → w.cell? (a.add i) = some (us i)) ∧ (∀ i, (us i).oneCell' = true) ∧ ∀ (i : Nat) (p : CV), cs[i]? = some p → RelC w wr p (us i)
  | .clo f caps, v => ∃ vs : List Value, v = .func (.func f) #[] vs.toArray ∧ vs.length = caps.length ∧ ∀ (i : Nat) (p : PV) (u : Value), caps[i]? = some p → vs[i]? = some u → ∃ id off, p = .ptr id off ∧ (loc id).here = true ∧ u = .pointer (some ⟨(loc id).g, off, none⟩)
  | _, _ => False
def RelA (w : World) (wr : Nat → Prop) (loc : Locs) : PV → Value → Prop
  | .agg cs, v => ∃ us : List Value, v = .agg us.toArray ∧ us.length = cs.length ∧ ∀ (i : Nat) (p : PV) (u : Value), cs[i]? = some p → us[i]? = some u → u.oneCell' = true ∧ RelL w wr loc p u
  | p, v => RelL w wr loc p v
def RelV (w : World) (wr : Nat → Prop) (loc : Locs) : PV → Value → Prop
  | .tup ps, v => ∃ us : List Value, v = .tuple us.toArray ∧ us.length = ps.length ∧ ∀ (i : Nat) (p : PV) (u : Value), ps[i]? = some p → us[i]? = some u → RelA w wr loc p u
  | p, v => RelA w wr loc p v

theorem RelA_of_L {w : World} {wr : Nat → Prop} {loc : Locs} {p : PV} {v : Value} (hp : ∀ cs, p ≠ .agg cs) : RelA w wr loc p v = RelL w wr loc p v := by
  cases p <;> first | rfl | exact absurd rfl (hp _)
theorem RelV_of_A {w : World} {wr : Nat → Prop} {loc : Locs} {p : PV} {v : Value} (hp : ∀ cs, p ≠ .tup cs) : RelV w wr loc p v = RelA w wr loc p v := by
  cases p <;> first | rfl | exact absurd rfl (hp _)

theorem refsL_mem {cs : List PV} {p : PV} (h : p ∈ cs) {id : Nat} (hi : id ∈ p.refs) : id ∈ PV.refs.refsL cs := by
  induction cs with
  | nil => cases h
  | cons q r ih =>
    simp only [PV.refs.refsL, List.mem_append]
    cases h with
    | head => exact .inl hi
    | tail _ h => exact .inr (ih h)

theorem RelL.later {w w' : World} {wr wr' : Nat → Prop} {loc loc' : Locs} (L : Later w w' wr wr') {p : PV} {v : Value} (hl : ∀ id ∈ p.refs, loc' id = loc id) (h : RelL w wr loc p v) : RelL w' wr' loc' p v := by
  cases p with
  | undef => trivial
  | c x => exact RelC.later L h
  | own id off len => simp only [RelL] at h ⊢; rw [hl id (by simp [PV.refs])]; exact h
  | bsl id off sz len => simp only [RelL] at h ⊢; rw [hl id (by simp [PV.refs])]; exact h
  | ptr id off => simp only [RelL] at h ⊢; rw [hl id (by simp [PV.refs])]; exact h
  | eptr id i off => simp only [RelL] at h ⊢; rw [hl id (by simp [PV.refs])]; exact h
  | roptr cs =>
    obtain ⟨a, us, e, hb, hn, hc, h1, hr⟩ := h
    exact ⟨a, us, e, Nat.lt_of_lt_of_le hb L.size, fun hw => hn (L.wr _ hb hw), fun i hi => (L.cell (by rw [add_block]; exact hb) (by rw [add_block]; exact hn)).trans (hc i hi), h1, fun i p hp => (hr i p hp).later L⟩
  | clo f caps =>
    obtain ⟨vs, e, hlen, h⟩ := h
    refine ⟨vs, e, hlen, fun i p u hp hu => ?_⟩
    obtain ⟨id, off, rfl, h1, h2⟩ := h i p u hp hu
    refine ⟨id, off, rfl, ?_⟩
    rw [hl id (by simp only [PV.refs]; exact refsL_mem (List.mem_of_getElem? hp) (by simp [PV.refs]))]
    exact ⟨h1, h2⟩
  | agg cs => exact h.elim
  | tup vs => exact h.elim
  | fresh k sz xs => exact h.elim
theorem RelA.later {w w' : World} {wr wr' : Nat → Prop} {loc loc' : Locs} (L : Later w w' wr wr') {p : PV} {v : Value} (hl : ∀ id ∈ p.refs, loc' id = loc id) (h : RelA w wr loc p v) : RelA w' wr' loc' p v := by
  cases p with
  | agg cs =>
    obtain ⟨us, e, hlen, h⟩ := h
    exact ⟨us, e, hlen, fun i p u hp hu => ⟨(h i p u hp hu).1, (h i p u hp hu).2.later L fun id hid => hl id (refsL_mem (List.mem_of_getElem? hp) hid)⟩⟩
  | _ => exact RelL.later (v := v) L hl h
theorem RelV.later {w w' : World} {wr wr' : Nat → Prop} {loc loc' : Locs} (L : Later w w' wr wr') {p : PV} {v : Value} (hl : ∀ id ∈ p.refs, loc' id = loc id) (h : RelV w wr loc p v) : RelV w' wr' loc' p v := by
  cases p with
  | tup cs =>
    obtain ⟨us, e, hlen, h⟩ := h
    exact ⟨us, e, hlen, fun i p u hp hu => (h i p u hp hu).later L fun id hid => hl id (refsL_mem (List.mem_of_getElem? hp) hid)⟩
  | _ => exact RelA.later (v := v) L hl h

/-- The blocks that may still be written. -/
def MC.rw : MC → Bool
  | .vec b _ _ => b
  | _ => true
def WR (m : Mem) (loc : Locs) (wr0 : Nat → Prop) (g : Nat) : Prop := wr0 g ∨ ∃ id j x, m (id, j) = some x ∧ x.rw = true ∧ (loc id).here = true ∧ (loc id).g = g
/-- The same, or not to be written any more. -/
def Tame (y x : MC) : Prop := x = y ∨ ∃ b sz xs, y = .vec b sz xs ∧ x = .vec false sz xs
theorem Tame.rw {y x : MC} (h : Tame y x) (hx : x.rw = true) : x = y := by
  rcases h with h | ⟨b, sz, xs, rfl, rfl⟩
  · exact h
  · cases hx

def MRel (w : World) (wr : Nat → Prop) (loc : Locs) (id j : Nat) : MC → Prop
  | .cell p => (loc id).here = true ∧ ∃ arr T u, w.heap[(loc id).g]? = some (.cells arr T (0, 0)) ∧ arr[j]? = some u ∧ u.oneCell' = true ∧ RelL w wr loc p u
  | .vec _ sz xs => j = 0 ∧ (loc id).sz = sz ∧ xs.length ≤ (loc id).cap ∧ (loc id).cap ≤ maxLen ∧ (∀ (j : Nat) (x : List CV), xs[j]? = some x → x.length = sz) ∧
      (0 < (loc id).cap → (loc id).here = true ∧ ∃ arr T, w.heap[(loc id).g]? = some (.cells arr T (0, 0)) ∧ arr.size = (loc id).cap * sz ∧
        ∀ (j i : Nat) (x : List CV) (p : CV), xs[j]? = some x → x[i]? = some p → ∃ u, arr[j * sz + i]? = some u ∧ u.oneCell' = true ∧ RelC w wr p u)

structure MInv (w0 : World) (lent wr0 : Nat → Prop) (m : Mem) (loc : Locs) (w : World) : Prop where
  low : Below 0 w0 w
  keep : ∀ g, g < w0.heap.size → ¬ lent g → w.heap[g]? = w0.heap[g]?
  wrlt : ∀ g, wr0 g → g < w0.heap.size ∧ ¬ lent g
  mem : ∀ id j x, m (id, j) = some x → MRel w (WR m loc wr0) loc id j x
  inj : ∀ id j x id' j' x', m (id, j) = some x → m (id', j') = some x' → (loc id).here = true → (loc id').here = true → (loc id).g = (loc id').g → id = id'
  place : ∀ id j x, m (id, j) = some x → (loc id).here = true → (loc id).g < w.heap.size ∧ (w0.heap.size ≤ (loc id).g ∨ lent (loc id).g)
  excl : ∀ id b sz xs j x, m (id, 0) = some (.vec b sz xs) → m (id, j) = some x → j = 0

/-- The slots. -/
def SInv (w : World) (wr : Nat → Prop) (loc : Locs) (sl : Nat → PV) (a : Nat → Value) : Prop := ∀ t, RelV w wr loc (sl t) (a t)

theorem SInv.later {w w' : World} {wr wr' : Nat → Prop} {loc loc' : Locs} (L : Later w w' wr wr') {sl : Nat → PV} {a : Nat → Value} (hl : ∀ t, ∀ id ∈ (sl t).refs, loc' id = loc id) (h : SInv w wr loc sl a) : SInv w' wr' loc' sl a :=
  fun t => (h t).later L (hl t)

theorem MRel.later {w w' : World} {wr wr' : Nat → Prop} {loc loc' : Locs} (L : Later w w' wr wr') {id j : Nat} {x : MC} (hid : loc' id = loc id) (hl : ∀ p, x = .cell p → ∀ r ∈ p.refs, loc' r = loc r)
    (hb : (loc id).here = true → w'.heap[(loc id).g]? = w.heap[(loc id).g]?) (h : MRel w wr loc id j x) : MRel w' wr' loc' id j x := by
  cases x with
  | cell p =>
    obtain ⟨hh, arr, T, u, h1, h2, h3, h4⟩ := h
    simp only [MRel, hid]
    exact ⟨hh, arr, T, u, (hb hh).trans h1, h2, h3, h4.later L (hl p rfl)⟩
  | vec b sz xs =>
    obtain ⟨hj, h1, h2, h3, h4, h5⟩ := h
    simp only [MRel, hid]
    refine ⟨hj, h1, h2, h3, h4, fun hc => ?_⟩
    obtain ⟨hh, arr, T, a1, a2, a3⟩ := h5 hc
    refine ⟨hh, arr, T, (hb hh).trans a1, a2, fun j i x p hx hp => ?_⟩
    obtain ⟨u, b1, b2, b3⟩ := a3 j i x p hx hp
    exact ⟨u, b1, b2, b3.later L⟩

/-- New blocks have come; of one's own some may have been let go; nothing that was there was written. -/
theorem MInv.grow {w0 w w' : World} {lent wr0 : Nat → Prop} {m m' : Mem} {loc loc' : Locs} (h : MInv w0 lent wr0 m loc w) (hb : Below w.heap.size w w') (new : Nat → Prop)
    (hold : ∀ id j x, m' (id, j) = some x → ¬ new id → ∃ y, m (id, j) = some y ∧ Tame y x)
    (hloc : ∀ id, ¬ new id → loc' id = loc id)
    (href : ∀ id j p, m (id, j) = some (.cell p) → ∀ r ∈ p.refs, ¬ new r)
    (hplace : ∀ id j x, m' (id, j) = some x → new id → (loc' id).here = true → w.heap.size ≤ (loc' id).g ∧ (loc' id).g < w'.heap.size)
    (hinj : ∀ id j x id' j' x', m' (id, j) = some x → m' (id', j') = some x' → new id → new id' → (loc' id).here = true → (loc' id').here = true → (loc' id).g = (loc' id').g → id = id')
    (hex : ∀ id b sz xs j x, m' (id, 0) = some (.vec b sz xs) → m' (id, j) = some x → new id → j = 0)
    (hnew : Later w w' (WR m loc wr0) (WR m' loc' wr0) → ∀ id j x, m' (id, j) = some x → new id → MRel w' (WR m' loc' wr0) loc' id j x) :
    MInv w0 lent wr0 m' loc' w' ∧ Later w w' (WR m loc wr0) (WR m' loc' wr0) := by
  have L : Later w w' (WR m loc wr0) (WR m' loc' wr0) := ⟨hb.size, fun g hg _ => hb.block g hg, fun g hg hw => by
    rcases hw with hw | ⟨id, j, x, hx, hr, hh, rfl⟩
    · exact .inl hw
    · by_cases hn : new id
      · have := (hplace id j x hx hn hh).1; omega
      · rw [hloc id hn] at hh hg
        obtain ⟨y, hy, ht⟩ := hold id j x hx hn
        have e := ht.rw hr
        subst e
        exact .inr ⟨id, j, x, hy, hr, hh, by rw [hloc id hn]⟩⟩
  refine ⟨⟨h.low.trans (hb.mono (Nat.zero_le _)), fun g hg hn => (hb.block g (Nat.lt_of_lt_of_le hg h.low.size)).trans (h.keep g hg hn), h.wrlt, fun id j x hx => ?_, fun id j x id' j' x' hx hx' hh hh' e => ?_, fun id j x hx hh => ?_, fun id b sz xs j x hv hx => ?_⟩, L⟩
  · by_cases hn : new id
    · exact hnew L id j x hx hn
    · obtain ⟨y, hm, ht⟩ := hold id j x hx hn
      have := (h.mem id j y hm).later L (hloc id hn) (fun p hp r hr => hloc r (href id j p (hp ▸ hm) r hr)) (fun hh => hb.block _ (h.place id j y hm hh).1)
      rcases ht with rfl | ⟨b, sz, xs, rfl, rfl⟩
      · exact this
      · exact this
  · by_cases hn : new id <;> by_cases hn' : new id'
    · exact hinj id j x id' j' x' hx hx' hn hn' hh hh' e
    · have h1 := (hplace id j x hx hn hh).1
      obtain ⟨y', hm', _⟩ := hold id' j' x' hx' hn'
      rw [hloc id' hn'] at hh' e
      have := (h.place id' j' y' hm' hh').1
      omega
    · have h1 := (hplace id' j' x' hx' hn' hh').1
      obtain ⟨y, hm, _⟩ := hold id j x hx hn
      rw [hloc id hn] at hh e
      have := (h.place id j y hm hh).1
      omega
    · rw [hloc id hn] at hh e
      rw [hloc id' hn'] at hh' e
      obtain ⟨y, hm, _⟩ := hold id j x hx hn
      obtain ⟨y', hm', _⟩ := hold id' j' x' hx' hn'
      exact h.inj id j y id' j' y' hm hm' hh hh' e
  · by_cases hn : new id
    · have := hplace id j x hx hn hh
      exact ⟨this.2, .inl (Nat.le_trans h.low.size this.1)⟩
    · rw [hloc id hn] at hh ⊢
      obtain ⟨y, hm, _⟩ := hold id j x hx hn
      have := h.place id j y hm hh
      exact ⟨Nat.lt_of_lt_of_le this.1 hb.size, this.2⟩
  · by_cases hn : new id
    · exact hex id b sz xs j x hv hx hn
    · obtain ⟨y, hm, _⟩ := hold id j x hx hn
      obtain ⟨y0, hm0, ht⟩ := hold id 0 _ hv hn
      have : ∃ b', y0 = .vec b' sz xs := by
        rcases ht with e | ⟨b', sz', xs', e1, e2⟩
        · exact ⟨b, e.symm⟩
        · cases e2; exact ⟨b', e1⟩
      obtain ⟨b', rfl⟩ := this
      exact h.excl id b' sz xs j y hm0 hm

/-- A block of one's own has been written. -/
theorem MInv.write {w0 w : World} {lent wr0 : Nat → Prop} {m m' : Mem} {loc : Locs} (h : MInv w0 lent wr0 m loc w) (id0 : Nat) (hh0 : (loc id0).here = true) (j0 : Nat) (x0 : MC) (hm0 : m (id0, j0) = some x0) (hw0 : x0.rw = true) {w' : World}
    (hsz : w'.heap.size = w.heap.size) (hos : w'.os = w.os) (htape : w'.tape = w.tape) (hout : w'.output = w.output) (hother : ∀ g, g ≠ (loc id0).g → w'.heap[g]? = w.heap[g]?)
    (hdom : ∀ id j, (m' (id, j)).isSome = (m (id, j)).isSome) (hold : ∀ id j, id ≠ id0 → m' (id, j) = m (id, j))
    (hex : ∀ b sz xs j x, m' (id0, 0) = some (.vec b sz xs) → m' (id0, j) = some x → j = 0)
    (hnew : Later w w' (WR m loc wr0) (WR m' loc wr0) → ∀ j x, m' (id0, j) = some x → MRel w' (WR m' loc wr0) loc id0 j x) :
    MInv w0 lent wr0 m' loc w' ∧ Later w w' (WR m loc wr0) (WR m' loc wr0) := by
  have back : ∀ id j x, m' (id, j) = some x → ∃ y, m (id, j) = some y := fun id j x hx => by
    have := hdom id j
    rw [hx] at this
    exact Option.isSome_iff_exists.1 this.symm
  have L : Later w w' (WR m loc wr0) (WR m' loc wr0) := ⟨by omega, fun g _ hn => hother g (fun e => hn (.inr ⟨id0, j0, x0, hm0, hw0, hh0, e.symm⟩)), fun g _ hw => by
    rcases hw with hw | ⟨id, j, x, hx, hr, hh, e⟩
    · exact .inl hw
    · by_cases hi : id = id0
      · subst hi
        exact .inr ⟨id, j0, x0, hm0, hw0, hh, e⟩
      · exact .inr ⟨id, j, x, hold id j hi ▸ hx, hr, hh, e⟩⟩
  have p0 := h.place id0 j0 x0 hm0 hh0
  refine ⟨⟨⟨hos.trans h.low.os, htape.trans h.low.tape, hout.trans h.low.output, by rw [hsz]; exact h.low.size, fun k hk => absurd hk (Nat.not_lt_zero _)⟩, fun g hg hn => ?_, h.wrlt, fun id j x hx => ?_, fun id j x id' j' x' hx hx' => ?_, fun id j x hx hh => ?_, fun id b sz xs j x hv hx => ?_⟩, L⟩
  · refine (hother g fun e => ?_).trans (h.keep g hg hn)
    rcases p0.2 with p | p
    · omega
    · exact hn (e ▸ p)
  · by_cases e : id = id0
    · subst e; exact hnew L j x hx
    · have hm : m (id, j) = some x := (hold id j e) ▸ hx
      exact (h.mem id j x hm).later L rfl (fun _ _ _ _ => rfl) (fun hh => hother _ fun eg => e (h.inj id j x id0 j0 x0 hm hm0 hh hh0 eg))
  · obtain ⟨y, hy⟩ := back id j x hx
    obtain ⟨y', hy'⟩ := back id' j' x' hx'
    exact h.inj id j y id' j' y' hy hy'
  · obtain ⟨y, hy⟩ := back id j x hx
    rw [hsz]
    exact h.place id j y hy hh
  · by_cases e : id = id0
    · subst e; exact hex b sz xs j x hv hx
    · exact h.excl id b sz xs j x ((hold id 0 e) ▸ hv) ((hold id j e) ▸ hx)

/-- A row of one's own has been written, and has a new name. -/
theorem MInv.move {w0 w : World} {lent wr0 : Nat → Prop} {m m' : Mem} {loc : Locs} (h : MInv w0 lent wr0 m loc w) {id0 d : Nat} {loc' : Locs} (hne : id0 ≠ d) (hd : ∀ j, m (d, j) = none) (hdr : ∀ id j p, m (id, j) = some (.cell p) → d ∉ p.refs)
    {sz0 : Nat} {xs0 : List (List CV)} (hm0 : m (id0, 0) = some (.vec true sz0 xs0)) {w' : World} (hsz : w'.heap.size = w.heap.size) (hos : w'.os = w.os) (htape : w'.tape = w.tape) (hout : w'.output = w.output)
    (hother : ∀ g, ((loc id0).here = true → g ≠ (loc id0).g) → w'.heap[g]? = w.heap[g]?) (hld : loc' d = loc id0) (hlo : ∀ id, id ≠ d → loc' id = loc id) {x1 : MC}
    (hm' : ∀ id j x, m' (id, j) = some x → (id = d ∧ j = 0 ∧ x = x1) ∨ (id ≠ d ∧ id ≠ id0 ∧ m (id, j) = some x))
    (hnew : Later w w' (WR m loc wr0) (WR m' loc' wr0) → MRel w' (WR m' loc' wr0) loc' d 0 x1) :
    MInv w0 lent wr0 m' loc' w' ∧ Later w w' (WR m loc wr0) (WR m' loc' wr0) := by
  have L : Later w w' (WR m loc wr0) (WR m' loc' wr0) := ⟨by omega, fun g _ hn => hother g (fun hh e => hn (.inr ⟨id0, 0, _, hm0, rfl, hh, e.symm⟩)), fun g _ hw => by
    rcases hw with hw | ⟨id, j, x, hx, hr, hh, e⟩
    · exact .inl hw
    · rcases hm' id j x hx with ⟨rfl, _, _⟩ | ⟨hn, _, hx'⟩
      · rw [hld] at hh e
        exact .inr ⟨id0, 0, _, hm0, rfl, hh, e⟩
      · rw [hlo id hn] at hh e
        exact .inr ⟨id, j, x, hx', hr, hh, e⟩⟩
  have far : ∀ id j x, m (id, j) = some x → id ≠ id0 → (loc id).here = true → w'.heap[(loc id).g]? = w.heap[(loc id).g]? := fun id j x hx hn hh =>
    hother _ fun hh0 e => hn (h.inj id j x id0 0 _ hx hm0 hh hh0 e)
  refine ⟨⟨⟨hos.trans h.low.os, htape.trans h.low.tape, hout.trans h.low.output, by rw [hsz]; exact h.low.size, fun k hk => absurd hk (Nat.not_lt_zero _)⟩, fun g hg hn => ?_, h.wrlt, fun id j x hx => ?_, fun id j x id' j' x' hx hx' hh hh' e => ?_, fun id j x hx hh => ?_, fun id b sz xs j x hv hx => ?_⟩, L⟩
  · refine (hother g fun hh e => ?_).trans (h.keep g hg hn)
    rcases (h.place id0 0 _ hm0 hh).2 with p | p
    · omega
    · exact hn (e ▸ p)
  · rcases hm' id j x hx with ⟨rfl, rfl, rfl⟩ | ⟨hn, hn0, hx'⟩
    · exact hnew L
    · exact (h.mem id j x hx').later L (hlo id hn) (fun p hp r hr => hlo r fun e => hdr id j p (hp ▸ hx') (e ▸ hr)) (far id j x hx' hn0)
  · rcases hm' id j x hx with ⟨rfl, rfl, rfl⟩ | ⟨hn, hn0, hx1⟩ <;> rcases hm' id' j' x' hx' with ⟨e1, e2, e3⟩ | ⟨hn', hn0', hx1'⟩
    · exact e1.symm
    · rw [hld] at hh e
      rw [hlo id' hn'] at hh' e
      exact absurd (h.inj id0 0 _ id' j' x' hm0 hx1' hh hh' e).symm hn0'
    · subst e1
      rw [hld] at hh' e
      rw [hlo id hn] at hh e
      exact absurd (h.inj id j x id0 0 _ hx1 hm0 hh hh' e) hn0
    · rw [hlo id hn] at hh e
      rw [hlo id' hn'] at hh' e
      exact h.inj id j x id' j' x' hx1 hx1' hh hh' e
  · rcases hm' id j x hx with ⟨rfl, rfl, rfl⟩ | ⟨hn, hn0, hx1⟩
    · rw [hld] at hh ⊢
      rw [hsz]
      exact h.place id0 0 _ hm0 hh
    · rw [hlo id hn] at hh ⊢
      rw [hsz]
      exact h.place id j x hx1 hh
  · rcases hm' id j x hx with ⟨_, e, _⟩ | ⟨hn, hn0, hx1⟩
    · exact e
    · rcases hm' id 0 _ hv with ⟨e, _, _⟩ | ⟨_, _, hv1⟩
      · exact absurd e hn
      · exact h.excl id b sz xs j x hv1 hx1
end Go.PM
