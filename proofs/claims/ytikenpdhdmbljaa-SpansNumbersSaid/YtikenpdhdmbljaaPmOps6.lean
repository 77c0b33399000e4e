/- append, copy, make, a slice's literal, store. -/
import Derived.Test.YtikenpdhdmbljaaPmOps5
set_option linter.unusedSimpArgs false
set_option linter.unusedVariables false
set_option linter.unusedSectionVars false
set_option linter.unnecessarySimpa false
namespace Go.PM
open Go.RowKit (Below)
variable {P : Program} {T : Tab} {w w0 : World} {wr lent wr0 : Nat → Prop} {loc : Locs} {m : Mem}

theorem elemTI_ok (hT : TabOk P T) {t : TypeId} {te : TI} (h : elemTI T t = some te) : ∃ e i, P.underlying t = some (.slice e) ∧ P.info? e = some i ∧ i.size = te.size ∧ i.bytes = te.bytes ∧ (∃ z, i.zero = some z ∧ z.cells.toList = te.zero) ∧ te.zero.length = te.size ∧ (∀ v ∈ te.zero, v.oneCell' = true) := by
  obtain ⟨ti, ht, h⟩ := onO_eq_some h
  obtain ⟨e, he, h⟩ := onO_eq_some h
  obtain ⟨i, hi, h1, h2, h3, h4, h5, _⟩ := hT.ok e te h
  exact ⟨e, i, elem_ok hT ht he, hi, h1, h2, h3, h4, h5⟩

theorem room_ok {b n : Nat} (h : room b n = true) : 0 < b ∧ n * b ≤ 140737488355328 ∧ n ≤ 140737488355328 := by
  simp only [room, Bool.and_eq_true, decide_eq_true_eq] at h
  refine ⟨h.1, h.2, Nat.le_trans ?_ h.2⟩
  exact Nat.le_mul_of_pos_right n h.1

theorem mrel_vec {loc' : Locs} {d sz : Nat} {xs : List (List CV)} {us : List Value} {arr : Array Value} {T : TypeId} (hs : (loc' d).sz = sz) (hc : xs.length ≤ (loc' d).cap) (hm : (loc' d).cap ≤ maxLen) (hf : FlatRel w wr sz xs us)
    (hh : 0 < (loc' d).cap → (loc' d).here = true ∧ w.heap[(loc' d).g]? = some (.cells arr T (0, 0)) ∧ arr.size = (loc' d).cap * sz ∧ ∀ (k : Nat) (u : Value), us[k]? = some u → arr[k]? = some u) : MRel w wr loc' d 0 (.vec true sz xs) := by
  refine ⟨rfl, hs, hc, hm, hf.2.1, fun h0 => ?_⟩
  obtain ⟨a1, a2, a3, a4⟩ := hh h0
  refine ⟨a1, arr, T, a2, a3, fun j i x p hx hp => ?_⟩
  obtain ⟨u, h1, h2⟩ := hf.2.2 j i x p hx hp
  exact ⟨u, a4 _ _ h1, h2⟩

theorem FlatRel.later {w' : World} {wr' : Nat → Prop} (L : Later w w' wr wr') {sz : Nat} {xs : List (List CV)} {us : List Value} (h : FlatRel w wr sz xs us) : FlatRel w' wr' sz xs us :=
  ⟨h.1, h.2.1, fun j i x p hx hp => let ⟨u, a, b, c⟩ := h.2.2 j i x p hx hp; ⟨u, a, b, c.later L⟩⟩

/-- Nothing appended to nothing. -/
theorem grow_none (h : MInv w0 lent wr0 m loc w) {d : Nat} (hd : Free m d) (sz : Nat) (A : Option Addr) (rd : List Key) :
    OpOut w0 lent wr0 m loc w ⟨.own d 0 0, [((d, 0), some (.vec true sz []))], [d], rd⟩ (.slice A 0 0) w := by
  have hup : ∀ id j x, updM [((d, 0), some (.vec true sz []))] m (id, j) = some x → (id = d ∧ j = 0 ∧ x = .vec true sz []) ∨ m (id, j) = some x := fun id j x hx => by
    simp only [updM] at hx
    split at hx
    · rename_i he
      obtain ⟨e1, e2⟩ := Prod.mk.inj he
      cases hx
      exact .inl ⟨e1.symm, e2.symm, rfl⟩
    · exact .inr hx
  obtain ⟨h1, h2⟩ := h.grow1 (m' := updM [((d, 0), some (.vec true sz []))] m) (L := ⟨0, 0, sz, false⟩) hd (Below.refl _ w) (fun h => by cases h) (fun id j x hx hne => by
    rcases hup id j x hx with ⟨e, _⟩ | e
    · exact absurd e hne
    · exact ⟨x, e, .inl rfl⟩) (fun b sz' xs' j x _ hx => by
    rcases hup d j x hx with ⟨_, e, _⟩ | e
    · exact e
    · rw [hd.1] at e; cases e) (fun L j x hx => by
    rcases hup d j x hx with ⟨_, rfl, rfl⟩ | e
    · exact ⟨rfl, by rw [setL_same], by simp, by rw [setL_same]; simp, fun j x h => by simp at h, fun h0 => by rw [setL_same] at h0; cases h0⟩
    · rw [hd.1] at e; cases e)
  exact ⟨_, h1, h2, ⟨A, 0, rfl, Nat.le_refl _, by rw [setL_same], fun h0 => by cases h0⟩, fun id hid => setL_other _ _ fun e => hid (by simp [e])⟩

theorem firstCells_of {sz n c : Nat} {A : Option Addr} {us : List Value} (hl : us.length = n * sz) (hA : A = none → n = 0) (hc : ∀ a, A = some a → ∀ j u, us[j]? = some u → w.cell? (a.add j) = some u) (len : Nat) :
    (Builtin.firstCells sz n (.slice A len c)).run P w = .ok us.toArray w := by
  cases A with
  | some a => exact run_firstCells_some w sz n a len c us hl (hc a rfl)
  | none =>
    obtain rfl := hA rfl
    simp at hl
    subst hl
    exact run_firstCells_none w sz 0 len c

/-- A new row: what was there, and what is appended. -/
theorem append_new (hM : MInv w0 lent wr0 m loc w) {d : Nat} (hd : Free m d) {t tx ty e : TypeId} {i : TypeInfo} {z : Value} (ht : P.underlying t = some (.slice e)) (hi : P.info? e = some i) (hz : i.zero = some z) (hzl : z.cells.size = i.size)
    {xs ys : List (List CV)} {us vs : List Value} {A : Option Addr} {c : Nat} (hxs : FlatRel w (WR m loc wr0) i.size xs us) (hys : FlatRel w (WR m loc wr0) i.size ys vs) (hA : A = none → xs.length = 0) (hc : ∀ a, A = some a → ∀ j u, us[j]? = some u → w.cell? (a.add j) = some u)
    {x : Value} (hs : Src P i.size tx x ys.length vs w) (hg : c < xs.length + ys.length) (hroom : room i.bytes (xs.length + ys.length) = true) {more : List (Key × Option MC)} (hmore : ∀ id j x, updM more m (id, j) = some x → ∃ y, m (id, j) = some y ∧ Tame y x) (rd : List Key) :
    ∃ v w', (Builtin.append_ #[t, tx] ty #[.slice A xs.length c, x]).run P w = .ok v w' ∧ OpOut w0 lent wr0 m loc w ⟨.own d 0 (xs.length + ys.length), ((d, 0), some (.vec true i.size (xs ++ ys))) :: more, [d], rd⟩ v w' := by
  obtain ⟨r1, r2, r3⟩ := room_ok hroom
  have hold := firstCells_of (P := P) (w := w.drew) (c := c) hxs.1 hA (by simpa using hc) xs.length
  have hrun := run_append_grow_src (P := P) w t tx ty e i z ht hi hz A xs.length c us hold x ys.length vs hs hg (by omega) (growslice_fits hg r2)
  have hle := grownCap_ge w (xs.length + ys.length) c e
  have hmx := grownCap_le_maxLen w (xs.length + ys.length) c e (by simp [maxLen]; omega)
  refine ⟨_, _, hrun, ?_⟩
  have := grow_vec (T := e) (arr := (us ++ vs).toArray ++ Builtin.zeroCells z.cells (grownCap w (xs.length + ys.length) c e - (xs.length + ys.length))) (w' := w.drew.alloc (.cells ((us ++ vs).toArray ++ Builtin.zeroCells z.cells (grownCap w (xs.length + ys.length) c e - (xs.length + ys.length))) e)) (xs := xs ++ ys) (sz := i.size) hM hd (cap := grownCap w (xs.length + ys.length) c e)
    ((Below.refl _ _).drew.alloc (by simp) _) (heap_alloc_new w.drew _) (by simpa using hle) hmx (hxs.append hys).2.1 (by
      have e1 : (Builtin.zeroCells z.cells (grownCap w (xs.length + ys.length) c e - (xs.length + ys.length))).size = (grownCap w (xs.length + ys.length) c e - (xs.length + ys.length)) * i.size := by simp [Builtin.zeroCells, hzl]
      rw [Array.size_append, e1]
      have e2 := (hxs.append hys).1
      simp only [List.length_append] at e2
      simp only [List.size_toArray, List.length_append, e2, ← Nat.add_mul]
      congr 1; omega) (fun j k y p hy hp => by
      obtain ⟨u, h1, h2⟩ := (hxs.append hys).2.2 j k y p hy hp
      refine ⟨u, ?_, h2⟩
      have hlt := (List.getElem?_eq_some_iff.1 h1).1
      rw [Array.getElem?_append_left (by simpa using hlt)]
      simpa using h1) hmore rd
  rw [List.length_append] at this
  exact this

theorem get_prefix {us : List Value} {arr : Array Value} {n off : Nat} {vs : List Value} (hus : us = arr.toList.take n) (hn : n = off) (hfit : off + vs.length ≤ arr.size) : ∀ (k : Nat) (u : Value), (us ++ vs)[k]? = some u → (put arr.toList off vs).toArray[k]? = some u := by
  intro k u h
  subst hus; subst hn
  have hl : (arr.toList.take n).length = n := by simp; omega
  rw [List.getElem?_toArray, get_put _ _ _ (by simpa using hfit)]
  rw [List.getElem?_append, hl] at h
  split at h
  · rw [if_pos ‹_›]; rw [List.getElem?_take, if_pos ‹_›] at h; exact h
  · have := (List.getElem?_eq_some_iff.1 h).1
    rw [if_neg ‹_›, if_pos (by omega)]; exact h

section
variable {ev : Operand → PV} {ρ : Operand → Value} (hev : EvOk w (WR m loc wr0) loc ev ρ)
include hev

/-- A row of one's own, appended to. -/
theorem append_own (hM : MInv w0 lent wr0 m loc w) {d : Nat} (hd : Free m d) {t tx ty e : TypeId} {i : TypeInfo} {z : Value} (ht : P.underlying t = some (.slice e)) (hi : P.info? e = some i) (hz : i.zero = some z) (hzl : z.cells.size = i.size)
    {s : Operand} {id : Nat} {xs ys : List (List CV)} {vs : List Value} (hs : ev s = .own id 0 xs.length) (hv : m (id, 0) = some (.vec true i.size xs)) (hys : FlatRel w (WR m loc wr0) i.size ys vs) {x : Value} (hsrc : Src P i.size tx x ys.length vs w) (hroom : room i.bytes (xs.length + ys.length) = true) (rd : List Key) :
    ∃ v w', (Builtin.append_ #[t, tx] ty #[ρ s, x]).run P w = .ok v w' ∧ OpOut w0 lent wr0 m loc w ⟨.own d 0 (xs.length + ys.length), [((d, 0), some (.vec true i.size (xs ++ ys))), ((id, 0), none)], [d], rd⟩ v w' := by
  have hne : id ≠ d := fun e => by rw [e, hd.1] at hv; cases hv
  have hx := hev s
  rw [hs] at hx
  obtain ⟨A, c, e1, hlc, hcap, hA⟩ := hx
  simp only [Nat.zero_add, Nat.zero_mul] at hcap hA
  have hm := hM.mem id 0 _ hv
  have hup : ∀ id' j x', updM [((d, 0), some (.vec true i.size (xs ++ ys))), ((id, 0), none)] m (id', j) = some x' → (id' = d ∧ j = 0 ∧ x' = .vec true i.size (xs ++ ys)) ∨ (id' ≠ d ∧ id' ≠ id ∧ m (id', j) = some x') := fun id' j x' hx => by
    simp only [updM] at hx
    split at hx
    · rename_i he
      obtain ⟨e1, e2⟩ := Prod.mk.inj he
      cases hx
      exact .inl ⟨e1.symm, e2.symm, rfl⟩
    · split at hx
      · cases hx
      · rename_i h1 h2
        refine .inr ⟨fun e => ?_, fun e => ?_, hx⟩
        · subst e; rw [hd.1] at hx; cases hx
        · subst e
          have := hM.excl id' _ _ _ j x' hv hx
          exact h2 (by rw [this])
  by_cases hroom2 : xs.length + ys.length ≤ c
  · by_cases hc0 : 0 < c
    · obtain ⟨hh, rfl⟩ := hA hc0
      obtain ⟨arr, T', a1, a2, a3⟩ := vec_flat hm (by omega)
      have hsz := hm.2.1
      have hfit : xs.length * i.size + vs.length ≤ arr.size := by
        rw [a2, hys.1, ← Nat.add_mul]; exact Nat.mul_le_mul_right _ (by omega)
      have hrun := run_append_here (P := P) w t tx ty e i ht hi hsrc hroom2 a1 hfit
      rw [e1]
      refine ⟨_, _, hrun, ?_⟩
      obtain ⟨h1, h2⟩ := hM.move (loc' := setL loc d (loc id)) (m' := updM [((d, 0), some (.vec true i.size (xs ++ ys))), ((id, 0), none)] m) hne hd.1 hd.2 hv (w' := w.setRow (loc id).g (put arr.toList (xs.length * i.size) vs).toArray) (by simp) rfl rfl rfl
        (fun g hg => setRow_other _ _ _ _ (hg hh)) (setL_same _ _ _) (fun id' h => setL_other _ _ h) (x1 := .vec true i.size (xs ++ ys)) hup (fun L => by
          refine mrel_vec (by rw [setL_same]; exact hsz) (by rw [setL_same]; simp; omega) (by rw [setL_same]; exact hm.2.2.2.1) ((a3.append hys).later L) (fun h0 => ?_) (T := T') (arr := (put arr.toList (xs.length * i.size) vs).toArray)
          rw [setL_same]
          refine ⟨hh, setRow_heap _ _ _ _ _ _ a1, ?_, get_prefix rfl rfl hfit⟩
          rw [List.size_toArray, length_put _ _ _ (by simpa using hfit)]
          simpa using a2)
      refine ⟨_, h1, h2, ⟨_, c, rfl, hroom2, by rw [setL_same]; simpa using hcap, fun _ => ⟨by rw [setL_same]; exact hh, by rw [setL_same]; simp⟩⟩, fun id' hid => setL_other _ _ fun e => hid (by simp [e])⟩
    · have hy0 : ys = [] := List.length_eq_zero_iff.1 (by omega)
      have hx0 : xs = [] := List.length_eq_zero_iff.1 (by omega)
      subst hy0; subst hx0
      have hvs : vs = [] := List.length_eq_zero_iff.1 (by have := hys.1; simpa using this)
      subst hvs
      have hrun := run_append_nothing (P := P) w t tx ty e i ht hi A 0 c (by omega) x (by simpa using hsrc)
      rw [e1]
      refine ⟨_, _, hrun, ?_⟩
      obtain ⟨h1, h2⟩ := hM.move (loc' := setL loc d (loc id)) (m' := updM [((d, 0), some (.vec true i.size ([] ++ []))), ((id, 0), none)] m) hne hd.1 hd.2 hv (w' := w) rfl rfl rfl rfl (fun g hg => rfl) (setL_same _ _ _) (fun id' h => setL_other _ _ h) (x1 := .vec true i.size []) hup (fun L => by
          refine mrel_vec (us := []) (by rw [setL_same]; exact hm.2.1) (by simp) (by rw [setL_same]; exact hm.2.2.2.1) (flat_nil _) (fun h0 => ?_) (T := 0) (arr := #[])
          rw [setL_same] at h0; omega)
      refine ⟨_, h1, h2, ⟨_, c, rfl, by simp, by rw [setL_same]; simpa using hcap, fun h0 => absurd h0 hc0⟩, fun id' hid => setL_other _ _ fun e => hid (by simp [e])⟩
  · obtain ⟨us, A', c', e2, hf, hA', hcell⟩ := rows_src hev hM (x := s) (sz := i.size) (ys := xs) (by rw [hs]; simp [rowsOf, vecC, hv, onO, MC.asVec])
    rw [e1] at e2
    cases e2
    rw [e1]
    have hmore : ∀ id' j x, updM [((id, 0), none)] m (id', j) = some x → ∃ y, m (id', j) = some y ∧ Tame y x := fun id' j x hx => by
      simp only [updM] at hx
      split at hx
      · cases hx
      · exact ⟨x, hx, .inl rfl⟩
    exact append_new hM hd ht hi hz hzl hf hys hA' hcell hsrc (by omega) hroom hmore rd

theorem o_append (hT : TabOk P T) (hM : MInv w0 lent wr0 m loc w) {o : Oper} {s x : Operand} {t u : TypeId} {te te' : TI} {d : Nat} {e : Eff} (hd : Free m d) (ho : o.op = .call ⟨.builtin .append, #[s, x], #[t, u]⟩) (ht : elemTI T t = some te) (hu : elemTI T u = some te') (h : appendRes te m d (ev s) (ev x) = some e) :
    OpDone P ρ o w (OpOut w0 lent wr0 m loc w e) := by
  obtain ⟨el, i, hut, hi, hsz, hby, ⟨z, hz, hzc⟩, hzl, _⟩ := elemTI_ok hT ht
  obtain ⟨el', i', hut', _⟩ := elemTI_ok hT hu
  have hz2 : z.cells.size = i.size := by rw [hsz, ← hzl, ← hzc]; simp
  obtain ⟨ys, hy, h⟩ := onO_eq_some h
  obtain ⟨vs, B, cx, ex, hfy, hBn, hBc⟩ := rows_src hev hM hy
  rw [← hsz] at hfy
  have hsrc : Src P i.size u (ρ x) ys.length vs w := by
    rw [ex]; exact src_mk hut' hfy.1 hfy.one hBn hBc
  have wrap : (∃ v w', (Builtin.append_ #[t, u] o.type #[ρ s, ρ x]).run P w = .ok v w' ∧ OpOut w0 lent wr0 m loc w e v w') → OpDone P ρ o w (OpOut w0 lent wr0 m loc w e) := by
    rintro ⟨v, w', hr, hout⟩
    exact done_value (by simp [execOp, ho, resolve, invoke, builtin, hr]) hout
  have zero : ∀ A : Option Addr, ρ s = .slice A 0 0 → room te.bytes ys.length = true → e = ⟨.own d 0 ys.length, [((d, 0), some (.vec true te.size ys))], [d], rdL (ev x)⟩ → OpDone P ρ o w (OpOut w0 lent wr0 m loc w e) := by
    intro A es hroom he
    subst he
    apply wrap
    rw [es]
    by_cases h0 : ys = []
    · subst h0
      have hvs : vs = [] := List.length_eq_zero_iff.1 (by have := hfy.1; simpa using this)
      subst hvs
      exact ⟨_, _, run_append_nothing (P := P) w t u o.type el i hut hi A 0 0 (by omega) _ (by simpa using hsrc), grow_none hM hd _ _ _⟩
    · have hpos : 0 < ys.length := List.length_pos_iff.2 h0
      have := append_new (xs := []) (us := []) (A := A) (c := 0) (ty := o.type) hM hd hut hi hz hz2 (flat_nil _) hfy (fun _ => rfl) (fun a _ j u hu => by simp at hu) hsrc (by simpa using hpos) (by rw [hby]; simpa using hroom) (more := []) (fun _ _ x hx => ⟨x, hx, .inl rfl⟩) (rdL (ev x))
      rw [← hsz]
      simpa using this
  generalize hs : ev s = p at h
  unfold appendTo at h
  split at h
  · rename_i id off len
    obtain ⟨⟨sz, xs⟩, hv0, hq⟩ := onO_eq_some h
    clear h
    have hv := rowC_some hv0
    clear hv0
    simp only [] at hq hv
    split at hq
    · rename_i hc
      obtain ⟨hc1, hc2, hc3, hc4⟩ := hc
      subst hc2; subst hc3
      have hq := Option.some.inj hq
      subst hq
      apply wrap
      rw [hc1, ← hsz] at hv
      rw [← hsz]
      exact append_own hev hM hd hut hi hz hz2 hs hv hfy hsrc (by rw [hby]; exact hc4) _
    · cases hq
  · split at h
    · rename_i hroom
      have hz := hev s
      rw [hs] at hz
      have hz : RelC w _ .z (ρ s) := hz
      generalize hvs : ρ s = v at hz
      cases hz with
      | z A => exact zero A hvs hroom (Option.some.inj h).symm
    · cases h
  · split at h
    · rename_i hroom
      exact zero none (ev_lit hev hs) hroom (Option.some.inj h).symm
    · cases h
  · cases h
end
end Go.PM
