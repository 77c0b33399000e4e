/- append, copy, make, a slice's literal, store. -/
import Derived.Test.YtmmipinjkbkkmaaPmOps5
set_option linter.unusedSimpArgs false
set_option linter.unusedVariables false
set_option linter.unusedSectionVars false
set_option linter.unnecessarySimpa false
namespace Go.PM
open Go.RowKit (Below)
variable {P : Program} {T : Tab} {w w0 : World} {wr lent wr0 : Nat → Prop} {loc : Locs} {m : Mem}

theorem elemTI_ok (hT : TabOk P T) {t : TypeId} {te : TI} (h : elemTI T t = some te) : ∃ e i, P.underlying t = some (.slice e) ∧ P.info? e = some i ∧ i.size = te.size ∧ i.bytes = te.bytes ∧ (∃ z, i.zero = some z ∧ z.cells.toList = te.zero) ∧ te.zero.length = te.size ∧ (∀ v ∈ te.zero, v.oneCell' = true) := by
  obtain ⟨ti, ht, h⟩ := onO_eq_some h
  obtain ⟨e, he, h⟩ := onO_eq_some h
  obtain ⟨i, hi, h1, h2, h3, h4, h5, _⟩ := hT.ok e te h
  exact ⟨e, i, elem_ok hT ht he, hi, h1, h2, h3, h4, h5⟩

theorem room_ok {b n : Nat} (h : room b n = true) : 0 < b ∧ n * b ≤ 140737488355328 ∧ n ≤ 140737488355328 := by
  simp only [room, Bool.and_eq_true, decide_eq_true_eq] at h
  refine ⟨h.1, h.2, Nat.le_trans ?_ h.2⟩
  exact Nat.le_mul_of_pos_right n h.1

theorem mrel_vec {loc' : Locs} {d sz : Nat} {xs : List (List CV)} {us : List Value} {arr : Array Value} {T : TypeId} (hs : (loc' d).sz = sz) (hc : xs.length ≤ (loc' d).cap) (hm : (loc' d).cap ≤ maxLen) (hf : FlatRel w wr sz xs us)
    (hh : 0 < (loc' d).cap → (loc' d).here = true ∧ w.heap[(loc' d).g]? = some (.cells arr T (0, 0)) ∧ arr.size = (loc' d).cap * sz ∧ ∀ (k : Nat) (u : Value), us[k]? = some u → arr[k]? = some u) : MRel w wr loc' d 0 (.vec true sz xs) := by
  refine ⟨rfl, hs, hc, hm, hf.2.1, fun h0 => ?_⟩
  obtain ⟨a1, a2, a3, a4⟩ := hh h0
  refine ⟨a1, arr, T, a2, a3, fun j i x p hx hp => ?_⟩
  obtain ⟨u, h1, h2⟩ := hf.2.2 j i x p hx hp
  exact ⟨u, a4 _ _ h1, h2⟩

theorem FlatRel.later {w' : World} {wr' : Nat → Prop} (L : Later w w' wr wr') {sz : Nat} {xs : List (List CV)} {us : List Value} (h : FlatRel w wr sz xs us) : FlatRel w' wr' sz xs us :=
  ⟨h.1, h.2.1, fun j i x p hx hp => let ⟨u, a, b, c⟩ := h.2.2 j i x p hx hp; ⟨u, a, b, c.later L⟩⟩

/-- Nothing appended to nothing. -/
theorem grow_none (h : MInv w0 lent wr0 m loc w) {d : Nat} (hd : Free m d) (sz : Nat) (A : Option Addr) (rd : List Key) :
    OpOut w0 lent wr0 m loc w ⟨.own d 0 0, [((d, 0), some (.vec true sz []))], [d], rd⟩ (.slice A 0 0) w := by
  have hup : ∀ id j x, updM [((d, 0), some (.vec true sz []))] m (id, j) = some x → (id = d ∧ j = 0 ∧ x = .vec true sz []) ∨ m (id, j) = some x := fun id j x hx => by
    simp only [updM] at hx
    split at hx
    · rename_i he
      obtain ⟨e1, e2⟩ := Prod.mk.inj he
      cases hx
      exact .inl ⟨e1.symm, e2.symm, rfl⟩
    · exact .inr hx
  obtain ⟨h1, h2⟩ := h.grow1 (m' := updM [((d, 0), some (.vec true sz []))] m) (L := ⟨0, 0, sz, false⟩) hd (Below.refl _ w) (fun h => by cases h) (fun id j x hx hne => by
    rcases hup id j x hx with ⟨e, _⟩ | e
    · exact absurd e hne
    · exact ⟨x, e, .inl rfl⟩) (fun b sz' xs' j x _ hx => by
    rcases hup d j x hx with ⟨_, e, _⟩ | e
    · exact e
    · rw [hd.1] at e; cases e) (fun L j x hx => by
    rcases hup d j x hx with ⟨_, rfl, rfl⟩ | e
    · exact ⟨rfl, by rw [setL_same], by simp, by rw [setL_same]; simp, fun j x h => by simp at h, fun h0 => by rw [setL_same] at h0; cases h0⟩
    · rw [hd.1] at e; cases e)
  exact ⟨_, h1, h2, ⟨A, 0, rfl, Nat.le_refl _, by rw [setL_same], fun h0 => by cases h0⟩, fun id hid => setL_other _ _ fun e => hid (by simp [e])⟩

theorem firstCells_of {sz n c : Nat} {A : Option Addr} {us : List Value} (hl : us.length = n * sz) (hA : A = none → n = 0) (hc : ∀ a, A = some a → ∀ j u, us[j]? = some u → w.cell? (a.add j) = some u) (len : Nat) :
    (Builtin.firstCells sz n (.slice A len c)).run P w = .ok us.toArray w := by
  cases A with
  | some a => exact run_firstCells_some w sz n a len c us hl (hc a rfl)
  | none =>
    obtain rfl := hA rfl
    simp at hl
    subst hl
    exact run_firstCells_none w sz 0 len c

/-- A new row: what was there, and what is appended. -/
theorem append_new (hM : MInv w0 lent wr0 m loc w) {d : Nat} (hd : Free m d) {t tx ty e : TypeId} {i : TypeInfo} {z : Value} (ht : P.underlying t = some (.slice e)) (hi : P.info? e = some i) (hz : i.zero = some z) (hzl : z.cells.size = i.size)
    {xs ys : List (List CV)} {us vs : List Value} {A : Option Addr} {c : Nat} (hxs : FlatRel w (WR m loc wr0) i.size xs us) (hys : FlatRel w (WR m loc wr0) i.size ys vs) (hA : A = none → xs.length = 0) (hc : ∀ a, A = some a → ∀ j u, us[j]? = some u → w.cell? (a.add j) = some u)
    {x : Value} (hs : Src2 P i z tx x ys.length vs w) (hcl : xs.length ≤ c) (hg : c < xs.length + ys.length) (hroom : room i.bytes (xs.length + ys.length) = true) {more : List (Key × Option MC)} (hmore : ∀ id j x, updM more m (id, j) = some x → ∃ y, m (id, j) = some y ∧ Tame y x) (rd : List Key) :
    ∃ v w', (Builtin.append_ #[t, tx] ty #[.slice A xs.length c, x]).run P w = .ok v w' ∧ OpOut w0 lent wr0 m loc w ⟨.own d 0 (xs.length + ys.length), ((d, 0), some (.vec true i.size (xs ++ ys))) :: more, [d], rd⟩ v w' := by
  obtain ⟨r1, r2, r3⟩ := room_ok hroom
  have hold := firstCells_of (P := P) (w := w.drew) (c := c) hxs.1 hA (by simpa using hc) xs.length
  have hrun := run_append_grow2 (P := P) w t tx ty e i z ht hi hz A xs.length c us hold x ys.length vs hs hcl hg (by omega) (growslice_fits hg r2)
  have hle := grownCap_ge w (xs.length + ys.length) c e
  have hmx := grownCap_le_maxLen w (xs.length + ys.length) c e (by simp [maxLen]; omega)
  refine ⟨_, _, hrun, ?_⟩
  have := grow_vec (T := e) (arr := (us ++ vs).toArray ++ Builtin.zeroCells z.cells (grownCap w (xs.length + ys.length) c e - (xs.length + ys.length))) (w' := w.drew.alloc (.cells ((us ++ vs).toArray ++ Builtin.zeroCells z.cells (grownCap w (xs.length + ys.length) c e - (xs.length + ys.length))) e)) (xs := xs ++ ys) (sz := i.size) hM hd (cap := grownCap w (xs.length + ys.length) c e)
    ((Below.refl _ _).drew.alloc (by simp) _) (heap_alloc_new w.drew _) (by simpa using hle) hmx (hxs.append hys).2.1 (by
      have e1 : (Builtin.zeroCells z.cells (grownCap w (xs.length + ys.length) c e - (xs.length + ys.length))).size = (grownCap w (xs.length + ys.length) c e - (xs.length + ys.length)) * i.size := by simp [Builtin.zeroCells, hzl]
      rw [Array.size_append, e1]
      have e2 := (hxs.append hys).1
      simp only [List.length_append] at e2
      simp only [List.size_toArray, List.length_append, e2, ← Nat.add_mul]
      congr 1; omega) (fun j k y p hy hp => by
      obtain ⟨u, h1, h2⟩ := (hxs.append hys).2.2 j k y p hy hp
      refine ⟨u, ?_, h2⟩
      have hlt := (List.getElem?_eq_some_iff.1 h1).1
      rw [Array.getElem?_append_left (by simpa using hlt)]
      simpa using h1) hmore rd
  rw [List.length_append] at this
  exact this

theorem get_prefix {us : List Value} {arr : Array Value} {n off : Nat} {vs : List Value} (hus : us = arr.toList.take n) (hn : n = off) (hfit : off + vs.length ≤ arr.size) : ∀ (k : Nat) (u : Value), (us ++ vs)[k]? = some u → (put arr.toList off vs).toArray[k]? = some u := by
  intro k u h
  subst hus; subst hn
  have hl : (arr.toList.take n).length = n := by simp; omega
  rw [List.getElem?_toArray, get_put _ _ _ (by simpa using hfit)]
  rw [List.getElem?_append, hl] at h
  split at h
  · rw [if_pos ‹_›]; rw [List.getElem?_take, if_pos ‹_›] at h; exact h
  · have := (List.getElem?_eq_some_iff.1 h).1
    rw [if_neg ‹_›, if_pos (by omega)]; exact h

section
variable {ev : Operand → PV} {ρ : Operand → Value} (hev : EvOk w (WR m loc wr0) loc ev ρ)
include hev

/-- A row of one's own, appended to. -/
theorem append_own (hM : MInv w0 lent wr0 m loc w) {d : Nat} (hd : Free m d) {t tx ty e : TypeId} {i : TypeInfo} {z : Value} (ht : P.underlying t = some (.slice e)) (hi : P.info? e = some i) (hz : i.zero = some z) (hzl : z.cells.size = i.size)
    {s : Operand} {id : Nat} {xs ys : List (List CV)} {vs : List Value} (hs : ev s = .own id 0 xs.length) (hv : m (id, 0) = some (.vec true i.size xs)) (hys : FlatRel w (WR m loc wr0) i.size ys vs) {x : Value} (hsrc : Src2 P i z tx x ys.length vs w) (hroom : room i.bytes (xs.length + ys.length) = true) (rd : List Key) :
    ∃ v w', (Builtin.append_ #[t, tx] ty #[ρ s, x]).run P w = .ok v w' ∧ OpOut w0 lent wr0 m loc w ⟨.own d 0 (xs.length + ys.length), [((d, 0), some (.vec true i.size (xs ++ ys))), ((id, 0), none)], [d], rd⟩ v w' := by
  have hne : id ≠ d := fun e => by rw [e, hd.1] at hv; cases hv
  have hx := hev s
  rw [hs] at hx
  obtain ⟨A, c, e1, hlc, hcap, hA⟩ := hx
  simp only [Nat.zero_add, Nat.zero_mul] at hcap hA
  have hm := hM.mem id 0 _ hv
  have hup : ∀ id' j x', updM [((d, 0), some (.vec true i.size (xs ++ ys))), ((id, 0), none)] m (id', j) = some x' → (id' = d ∧ j = 0 ∧ x' = .vec true i.size (xs ++ ys)) ∨ (id' ≠ d ∧ id' ≠ id ∧ m (id', j) = some x') := fun id' j x' hx => by
    simp only [updM] at hx
    split at hx
    · rename_i he
      obtain ⟨e1, e2⟩ := Prod.mk.inj he
      cases hx
      exact .inl ⟨e1.symm, e2.symm, rfl⟩
    · split at hx
      · cases hx
      · rename_i h1 h2
        refine .inr ⟨fun e => ?_, fun e => ?_, hx⟩
        · subst e; rw [hd.1] at hx; cases hx
        · subst e
          have := hM.excl id' _ _ _ j x' hv hx
          exact h2 (by rw [this])
  by_cases hroom2 : xs.length + ys.length ≤ c
  · by_cases hc0 : 0 < c
    · obtain ⟨hh, rfl⟩ := hA hc0
      obtain ⟨arr, T', a1, a2, a3⟩ := vec_flat hm (by omega)
      have hsz := hm.2.1
      have hfit : xs.length * i.size + vs.length ≤ arr.size := by
        rw [a2, hys.1, ← Nat.add_mul]; exact Nat.mul_le_mul_right _ (by omega)
      have hrun := run_append_here2 (P := P) w t tx ty e i z ht hi hz hsrc hroom2 a1 hfit
      rw [e1]
      refine ⟨_, _, hrun, ?_⟩
      obtain ⟨h1, h2⟩ := hM.move (loc' := setL loc d (loc id)) (m' := updM [((d, 0), some (.vec true i.size (xs ++ ys))), ((id, 0), none)] m) hne hd.1 hd.2 hv (w' := w.setRow (loc id).g (put arr.toList (xs.length * i.size) vs).toArray) (by simp) rfl rfl rfl
        (fun g hg => setRow_other _ _ _ _ (hg hh)) (setL_same _ _ _) (fun id' h => setL_other _ _ h) (x1 := .vec true i.size (xs ++ ys)) hup (fun L => by
          refine mrel_vec (by rw [setL_same]; exact hsz) (by rw [setL_same]; simp; omega) (by rw [setL_same]; exact hm.2.2.2.1) ((a3.append hys).later L) (fun h0 => ?_) (T := T') (arr := (put arr.toList (xs.length * i.size) vs).toArray)
          rw [setL_same]
          refine ⟨hh, setRow_heap _ _ _ _ _ _ a1, ?_, get_prefix rfl rfl hfit⟩
          rw [List.size_toArray, length_put _ _ _ (by simpa using hfit)]
          simpa using a2)
      refine ⟨_, h1, h2, ⟨_, c, rfl, hroom2, by rw [setL_same]; simpa using hcap, fun _ => ⟨by rw [setL_same]; exact hh, by rw [setL_same]; simp⟩⟩, fun id' hid => setL_other _ _ fun e => hid (by simp [e])⟩
    · have hy0 : ys = [] := List.length_eq_zero_iff.1 (by omega)
      have hx0 : xs = [] := List.length_eq_zero_iff.1 (by omega)
      subst hy0; subst hx0
      have hvs : vs = [] := List.length_eq_zero_iff.1 (by have := hys.1; simpa using this)
      subst hvs
      have hrun := run_append_nothing2 (P := P) w t tx ty e i z ht hi hz A 0 c (by omega) x (by simpa using hsrc)
      rw [e1]
      refine ⟨_, _, hrun, ?_⟩
      obtain ⟨h1, h2⟩ := hM.move (loc' := setL loc d (loc id)) (m' := updM [((d, 0), some (.vec true i.size ([] ++ []))), ((id, 0), none)] m) hne hd.1 hd.2 hv (w' := w) rfl rfl rfl rfl (fun g hg => rfl) (setL_same _ _ _) (fun id' h => setL_other _ _ h) (x1 := .vec true i.size []) hup (fun L => by
          refine mrel_vec (us := []) (by rw [setL_same]; exact hm.2.1) (by simp) (by rw [setL_same]; exact hm.2.2.2.1) (flat_nil _) (fun h0 => ?_) (T := 0) (arr := #[])
          rw [setL_same] at h0; omega)
      refine ⟨_, h1, h2, ⟨_, c, rfl, by simp, by rw [setL_same]; simpa using hcap, fun h0 => absurd h0 hc0⟩, fun id' hid => setL_other _ _ fun e => hid (by simp [e])⟩
  · obtain ⟨us, A', c', e2, hf, hA', hcell⟩ := rows_src hev hM (x := s) (sz := i.size) (ys := xs) (by rw [hs]; simp [rowsOf, vecC, hv, onO, MC.asVec])
    rw [e1] at e2
    cases e2
    rw [e1]
    have hmore : ∀ id' j x, updM [((id, 0), none)] m (id', j) = some x → ∃ y, m (id', j) = some y ∧ Tame y x := fun id' j x hx => by
      simp only [updM] at hx
      split at hx
      · cases hx
      · exact ⟨x, hx, .inl rfl⟩
    exact append_new hM hd ht hi hz hzl hf hys hA' hcell hsrc (by omega) (by omega) hroom hmore rd

theorem append_to (hM : MInv w0 lent wr0 m loc w) {o : Oper} {s x : Operand} {t u el : TypeId} {te : TI} {i : TypeInfo} {z : Value} {d : Nat} {e : Eff} {ys : List (List CV)} {vs : List Value} {rd : List Key} (hd : Free m d) (ho : o.op = .call ⟨.builtin .append, #[s, x], #[t, u]⟩)
    (hut : P.underlying t = some (.slice el)) (hi : P.info? el = some i) (hsz : i.size = te.size) (hby : i.bytes = te.bytes) (hz : i.zero = some z) (hz2 : z.cells.size = i.size) (hfy : FlatRel w (WR m loc wr0) i.size ys vs) (hsrc : Src2 P i z u (ρ x) ys.length vs w) (h : appendTo te m d ys rd (ev s) = some e) :
    OpDone P ρ o w (OpOut w0 lent wr0 m loc w e) := by
  have wrap : (∃ v w', (Builtin.append_ #[t, u] o.type #[ρ s, ρ x]).run P w = .ok v w' ∧ OpOut w0 lent wr0 m loc w e v w') → OpDone P ρ o w (OpOut w0 lent wr0 m loc w e) := by
    rintro ⟨v, w', hr, hout⟩
    exact done_value (by simp [execOp, ho, resolve, invoke, builtin, hr]) hout
  have zero : ∀ A : Option Addr, ρ s = .slice A 0 0 → room te.bytes ys.length = true → e = ⟨.own d 0 ys.length, [((d, 0), some (.vec true te.size ys))], [d], rd⟩ → OpDone P ρ o w (OpOut w0 lent wr0 m loc w e) := by
    intro A es hroom he
    subst he
    apply wrap
    rw [es]
    by_cases h0 : ys = []
    · subst h0
      have hvs : vs = [] := List.length_eq_zero_iff.1 (by have := hfy.1; simpa using this)
      subst hvs
      exact ⟨_, _, run_append_nothing2 (P := P) w t u o.type el i z hut hi hz A 0 0 (by omega) _ (by simpa using hsrc), grow_none hM hd _ _ _⟩
    · have hpos : 0 < ys.length := List.length_pos_iff.2 h0
      have := append_new (xs := []) (us := []) (A := A) (c := 0) (ty := o.type) hM hd hut hi hz hz2 (flat_nil _) hfy (fun _ => rfl) (fun a _ j u hu => by simp at hu) hsrc (by simp) (by simpa using hpos) (by rw [hby]; simpa using hroom) (more := []) (fun _ _ x hx => ⟨x, hx, .inl rfl⟩) rd
      rw [← hsz]
      simpa using this
  generalize hs : ev s = p at h
  unfold appendTo at h
  split at h
  · rename_i id off len
    obtain ⟨⟨sz, xs⟩, hv0, hq⟩ := onO_eq_some h
    clear h
    have hv := rowC_some hv0
    clear hv0
    simp only [] at hq hv
    split at hq
    · rename_i hc
      obtain ⟨hc1, hc2, hc3, hc4⟩ := hc
      subst hc2; subst hc3
      have hq := Option.some.inj hq
      subst hq
      apply wrap
      rw [hc1, ← hsz] at hv
      rw [← hsz]
      exact append_own hev hM hd hut hi hz hz2 hs hv hfy hsrc (by rw [hby]; exact hc4) _
    · cases hq
  · split at h
    · rename_i hroom
      have hz := hev s
      rw [hs] at hz
      have hz : RelC w _ .z (ρ s) := hz
      generalize hvs : ρ s = v at hz
      cases hz with
      | z A => exact zero A hvs hroom (Option.some.inj h).symm
    · cases h
  · split at h
    · rename_i hroom
      exact zero none (ev_lit hev hs) hroom (Option.some.inj h).symm
    · cases h
  · cases h

theorem o_append (hT : TabOk P T) (hM : MInv w0 lent wr0 m loc w) {o : Oper} {s x : Operand} {t u : TypeId} {te te' : TI} {d : Nat} {e : Eff} (hd : Free m d) (ho : o.op = .call ⟨.builtin .append, #[s, x], #[t, u]⟩) (ht : elemTI T t = some te) (hu : elemTI T u = some te') (h : appendRes te m d (ev s) (ev x) = some e) :
    OpDone P ρ o w (OpOut w0 lent wr0 m loc w e) := by
  obtain ⟨el, i, hut, hi, hsz, hby, ⟨z, hz, hzc⟩, hzl, _⟩ := elemTI_ok hT ht
  obtain ⟨el', i', hut', _⟩ := elemTI_ok hT hu
  have hz2 : z.cells.size = i.size := by rw [hsz, ← hzl, ← hzc]; simp
  obtain ⟨ys, hy, h⟩ := onO_eq_some h
  obtain ⟨vs, B, cx, ex, hfy, hBn, hBc⟩ := rows_src hev hM hy
  rw [← hsz] at hfy
  exact append_to hev hM hd ho hut hi hsz hby hz hz2 hfy (by rw [ex]; exact Src.two (src_mk hut' hfy.1 hfy.one hBn hBc)) h
end
end Go.PM

/- make, a slice's literal, copy, store. -/
namespace Go.PM
open Go.RowKit (Below)
variable {P : Program} {T : Tab} {w w0 : World} {wr lent wr0 : Nat → Prop} {loc : Locs} {m : Mem}

theorem zeros_flat {z : Array Value} {zero : List Value} {sz : Nat} (hz : z.toList = zero) (hl : zero.length = sz) (h1 : ∀ v ∈ zero, v.oneCell' = true) (n : Nat) : FlatRel w wr sz (List.replicate n (zero.map .lit)) (madeCells z (n * sz)).toList := by
  subst hz; subst hl
  refine ⟨by simp [size_madeCells], fun j x hx => ?_, fun j i x p hx hp => ?_⟩
  · rw [List.getElem?_replicate] at hx
    split at hx
    · cases hx; simp
    · cases hx
  · rw [List.getElem?_replicate] at hx
    split at hx
    · rename_i hj
      cases hx
      simp only [List.getElem?_map, Option.map_eq_some_iff] at hp
      obtain ⟨u, hu, rfl⟩ := hp
      have hi : i < z.toList.length := (List.getElem?_eq_some_iff.1 hu).1
      have := Nat.mul_le_mul_right z.toList.length (show j + 1 ≤ n from hj)
      rw [Nat.add_mul] at this
      refine ⟨u, ?_, h1 u (List.mem_of_getElem? hu), RelC.lit u⟩
      have hk : j * z.toList.length + i < n * z.toList.length := by omega
      have hmod : (j * z.toList.length + i) % z.size = i := by
        rw [show z.size = z.toList.length by simp, Nat.mul_comm, Nat.mul_add_mod, Nat.mod_eq_of_lt hi]
      simp only [Array.length_toList] at hk hi
      have : z[i]! = u := by
        rw [getElem!_pos z i hi]
        rw [List.getElem?_eq_getElem (by simpa using hi)] at hu
        simpa using hu
      simp only [Array.getElem?_toList, madeCells, Array.getElem?_map, Array.length_toList] at hmod ⊢
      rw [Array.getElem?_range, if_pos hk, Option.map_some, hmod, this]
    · cases hx

section
variable {ev : Operand → PV} {ρ : Operand → Value} (hev : EvOk w (WR m loc wr0) loc ev ρ)
include hev

theorem o_make (hT : TabOk P T) (hM : MInv w0 lent wr0 m loc w) {o : Oper} {t : TypeId} {l c : Operand} {te : TI} {d : Nat} {e : Eff} (hd : Free m d) (ho : o.op = .makeSlice t l c) (ht : elemTI T t = some te) (h : madeRes d te (ev l) (ev c) = some e) :
    OpDone P ρ o w (OpOut w0 lent wr0 m loc w e) := by
  obtain ⟨el, i, hut, hi, hsz, hby, ⟨z, hz, hzc⟩, hzl, h1⟩ := elemTI_ok hT ht
  obtain ⟨n, hn, h⟩ := onO_eq_some h
  obtain ⟨k, hk, h⟩ := onO_eq_some h
  split at h
  · rename_i hc
    obtain ⟨rfl, h0, hroom⟩ := hc
    cases h
    obtain ⟨r1, r2, r3⟩ := room_ok hroom
    obtain ⟨kl, zl, el1, hl0, hl1⟩ := natOf_rel hev hn
    obtain ⟨kc, zc, ec1, hc0, hc1⟩ := natOf_rel hev hk
    have hzz : zl = zc := by omega
    subst hzz
    have hb : (i.bytes : Int) * zl ≤ 281474976710656 := by
      have e1 : zl = ((n : Nat) : Int) := by omega
      rw [e1, ← Int.natCast_mul, hby]
      have : te.bytes * n ≤ 140737488355328 := by rw [Nat.mul_comm]; exact r2
      omega
    have hrun := run_make (P := P) w t el i z hut hi hz kl kc zl zl hl0 (Int.le_refl _) hb (by omega)
    rw [hl1, hsz] at hrun
    refine done_value (v := .slice (some ⟨w.heap.size, 0, none⟩) n n) (w' := w.alloc (.cells (madeCells z.cells (n * te.size)) el)) (by simp [execOp, ho, el1, ec1, hrun]) ?_
    have hf := zeros_flat (w := w) (wr := WR m loc wr0) hzc hzl h1 n
    have := grow_vec (more := []) hM hd (below_alloc w _) (heap_alloc_new w (.cells (madeCells z.cells (n * te.size)) el)) (xs := List.replicate n (te.zero.map .lit)) (sz := te.size) (cap := n) (by simp) (by simp [maxLen]; omega) hf.2.1 (by rw [size_madeCells]) (fun j i x p hx hp => by
      obtain ⟨u, a, b⟩ := hf.2.2 j i x p hx hp
      exact ⟨u, by simpa using a, b⟩) (fun _ _ x hx => ⟨x, hx, .inl rfl⟩) []
    simpa using this
  · cases h

/-- So many zeroes are appended. -/
theorem o_appendN (hT : TabOk P T) (hM : MInv w0 lent wr0 m loc w) {o : Oper} {s x : Operand} {t u : TypeId} {te ui : TI} {d : Nat} {e : Eff} (hd : Free m d) (ho : o.op = .call ⟨.builtin .append, #[s, x], #[t, u]⟩) (ht : elemTI T t = some te) (hu : T.get u = some ui) (hk : ui.kind.isInt = true) (h : appendN te m d (ev s) (ev x) = some e) :
    OpDone P ρ o w (OpOut w0 lent wr0 m loc w e) := by
  obtain ⟨el, i, hut, hi, hsz, hby, ⟨z, hz, hzc⟩, hzl, h1⟩ := elemTI_ok hT ht
  have hz2 : z.cells.size = i.size := by rw [hsz, ← hzl, ← hzc]; simp
  obtain ⟨i', _, _, _, _, _, _, hkind⟩ := hT.ok u ui hu
  obtain ⟨kn, hun⟩ : ∃ kn, P.underlying u = some (.int kn) := by
    unfold TK.isInt at hk
    split at hk
    · rename_i e; unfold KindOk at hkind; rw [e] at hkind; exact ⟨_, hkind.1⟩
    · cases hk
  unfold appendN at h
  obtain ⟨n, hn, h⟩ := onO_eq_some h
  by_cases hc : te.size ≠ 0 ∧ room te.bytes n = true
  · rw [if_pos hc] at h
    obtain ⟨h0, hroom⟩ := hc
    obtain ⟨r1, r2, r3⟩ := room_ok hroom
    obtain ⟨kl, zl, el1, hl0, hl1⟩ := natOf_rel hev hn
    have hzn : zl = ((n : Nat) : Int) := by omega
    subst hzn
    have hf := zeros_flat (w := w) (wr := WR m loc wr0) hzc hzl h1 n
    have he : madeCells z.cells (n * te.size) = Builtin.zeroCells z.cells n := by rw [← hsz, ← hz2]; rfl
    rw [he, ← hsz] at hf
    have hl : (List.replicate n (te.zero.map CV.lit)).length = n := by simp
    refine append_to hev hM hd ho hut hi hsz hby hz hz2 hf ?_ h
    rw [hl]
    exact ⟨.inr ⟨kn, kl, hun, el1, by rw [hby]; omega, by omega, by omega, rfl⟩, by have := hf.1; rw [hl] at this; exact this, hf.one⟩
  · rw [if_neg hc] at h; cases h

omit hev in
theorem mapO_asC : ∀ {l : List PV} {cs : List CV}, mapO PV.asC l = some cs → l = cs.map .c
  | [], cs, h => by cases h; rfl
  | p :: l, cs, h => by
    obtain ⟨b, hb, h⟩ := onO_eq_some h
    obtain ⟨r, hr, h⟩ := onO_eq_some h
    cases h
    rw [mapO_asC hr]
    unfold PV.asC at hb
    split at hb
    · cases hb; rfl
    · cases hb

omit hev in
theorem set_put {α : Type} (l : List α) (i : Nat) (x : α) (h : i < l.length) : l.set i x = put l i [x] := by
  rw [List.set_eq_take_append_cons_drop, if_pos h]
  simp [put]

omit hev in
theorem flat_cells {cs : List CV} {us : List Value} (h : CellsRel w wr loc (cs.map .c) us) : FlatRel w wr cs.length [cs] us := by
  refine ⟨by simpa using h.1, fun j x hx => ?_, fun j i x p hx hp => ?_⟩
  · cases j with
    | zero => cases hx; rfl
    | succ j => simp at hx
  · cases j with
    | succ j => simp at hx
    | zero =>
      cases hx
      have hi := (List.getElem?_eq_some_iff.1 hp).1
      have hu : us[i]? = some (us[i]'(by have := h.1; simp at this; omega)) := List.getElem?_eq_getElem _
      obtain ⟨a, b⟩ := h.2 i (.c p) _ (by simp [hp]) hu
      exact ⟨_, by simpa using hu, a, b⟩

theorem fillE_rel {sz : Nat} : ∀ {parts : List (Nat × Operand)} {xs l : List (List CV)} {us : List Value}, FlatRel w (WR m loc wr0) sz xs us → fillE sz xs (parts.map fun x => (x.1, ev x.2)) = some l →
    ∃ vs, Instr.fill (fun i => some (i * sz, sz)) us.toArray (parts.map fun x => (x.1, ρ x.2)) = some vs ∧ FlatRel w (WR m loc wr0) sz l vs.toList
  | [], xs, l, us, h, hf => by
    cases hf
    exact ⟨us.toArray, rfl, by simpa using h⟩
  | (i, x) :: parts, xs, l, us, h, hf => by
    obtain ⟨cs, hcs, hf⟩ := onO_eq_some hf
    split at hf
    · rename_i hc
      obtain ⟨hc1, hc2, hc3⟩ := hc
      have hr := cells_rel (hev x) hc3
      rw [mapO_asC hcs] at hr
      have hfl := flat_cells hr
      rw [hc1] at hfl
      rw [set_put _ _ _ hc2] at hf
      obtain ⟨vs, hv, hrel⟩ := fillE_rel (h.put hfl (by simp; omega)) hf
      refine ⟨vs, ?_, hrel⟩
      have hl1 : (ρ x).cells.size = sz := by have := hr.1; simp at this; omega
      have hfit : i * sz + sz ≤ us.length := by
        rw [h.1]
        have := Nat.mul_le_mul_right sz (show i + 1 ≤ xs.length from hc2)
        rw [Nat.add_mul] at this; omega
      simp only [List.map_cons]
      rw [fill_cons rfl hl1 (by simp; omega)]
      exact hv
    · cases hf

theorem o_built (hT : TabOk P T) (hM : MInv w0 lent wr0 m loc w) {o : Oper} {t : TypeId} {len : Nat} {parts : Array (Nat × Operand)} {te : TI} {d : Nat} {e : Eff} (hd : Free m d) (ho : o.op = .buildSlice t len parts) (ht : elemTI T t = some te)
    (h : builtRes d te len (parts.toList.map fun x => (x.1, ev x.2)) = some e) : OpDone P ρ o w (OpOut w0 lent wr0 m loc w e) := by
  obtain ⟨el, i, hut, hi, hsz, hby, ⟨z, hz, hzc⟩, hzl, h1⟩ := elemTI_ok hT ht
  unfold builtRes at h
  split at h
  · cases h
  · rename_i hc
    obtain ⟨xs, hx, h⟩ := onO_eq_some h
    cases h
    have hs0 : te.size ≠ 0 := fun e => hc (.inl e)
    have hbig : ¬ 16777216 < len * te.size := fun e => hc (.inr e)
    obtain ⟨vs, hv, hf⟩ := fillE_rel hev (zeros_flat (w := w) (wr := WR m loc wr0) hzc hzl h1 len) hx
    have hxl : xs.length = len := by
      have : ∀ {parts : List (Nat × PV)} {xs l : List (List CV)}, fillE te.size xs parts = some l → l.length = xs.length := by
        intro parts
        induction parts with
        | nil => intro xs l h; cases h; rfl
        | cons y r ih =>
          intro xs l h
          obtain ⟨cs, _, h⟩ := onO_eq_some h
          split at h
          · rw [ih h]; simp
          · cases h
      rw [this hx]; simp
    have hvs : vs.size = len * te.size := by have := hf.1; rw [hxl] at this; simpa using this
    have hfill : Instr.fill (fun i => some (i * te.size, te.size)) (madeCells z.cells (len * te.size)) (parts.toList.map fun x => (x.1, ρ x.2)) = some vs := by
      rw [← hv]
    refine done_value (v := .slice (some ⟨w.heap.size, 0, none⟩) len len) (w' := w.alloc (.cells vs el)) ?_ ?_
    · by_cases hl0 : len = 0
      · subst hl0
        have hmm : madeCells z.cells (0 * te.size) = #[] := by simp [madeCells]
        rw [hmm] at hfill
        have hr0 : Array.map (fun _ : Nat => (default : Value)) (Array.range 0) = #[] := by simp
        simp [execOp, ho, Instr.buildSlice, run_underlying hut, sizeOf, typeInfo, hi, hsz, zeroValue, hz, newRow, hr0, hfill]
      · unfold madeCells at hfill
        have hne : ¬ len * te.size = 0 := fun e => by rcases Nat.mul_eq_zero.1 e with e | e <;> contradiction
        simp [execOp, ho, Instr.buildSlice, run_underlying hut, sizeOf, typeInfo, hi, hsz, zeroValue, hz, newRow, hbig, hne, hfill]
    · have := grow_vec (more := []) hM hd (below_alloc w _) (heap_alloc_new w (.cells vs el)) (xs := xs) (sz := te.size) (cap := len) (by omega) (by
          have : len ≤ len * te.size := Nat.le_mul_of_pos_right _ (Nat.pos_of_ne_zero hs0)
          simp [maxLen]; omega) hf.2.1 hvs (fun j i x p hx hp => by
        obtain ⟨u, a, b⟩ := hf.2.2 j i x p hx hp
        exact ⟨u, by simpa using a, b⟩) (fun _ _ x hx => ⟨x, hx, .inl rfl⟩) []
      rw [hxl] at this
      exact this
end
end Go.PM
