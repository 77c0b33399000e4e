/- Rows of the pure machine: append, copy, make, a slice's literal, store. -/
import Derived.Test.YtmmipinjkbkkmaaPmOps34
import Derived.Deep.Upon
import Derived.Laws.AppendOwn
import Derived.Laws.MakeOwn
import Derived.Lib.AppendZerosOnto
set_option linter.unusedSimpArgs false
set_option linter.unusedVariables false
set_option linter.unusedSectionVars false
set_option linter.unnecessarySimpa false
namespace Go.PM
open Go.RowKit (Below)
variable {P : Program} {T : Tab} {w w0 : World} {wr lent wr0 : Nat → Prop} {loc : Locs} {m : Mem}

/-- Rows, one behind the other. -/
def FlatRel (w : World) (wr : Nat → Prop) (sz : Nat) (xs : List (List CV)) (us : List Value) : Prop :=
  us.length = xs.length * sz ∧ (∀ (j : Nat) (x : List CV), xs[j]? = some x → x.length = sz) ∧
  ∀ (j i : Nat) (x : List CV) (p : CV), xs[j]? = some x → x[i]? = some p → ∃ u, us[j * sz + i]? = some u ∧ u.oneCell' = true ∧ RelC w wr p u

theorem FlatRel.one {sz : Nat} {xs : List (List CV)} {us : List Value} (h : FlatRel w wr sz xs us) : ∀ u ∈ us, u.oneCell' = true := by
  intro u hu
  obtain ⟨k, hk⟩ := List.mem_iff_getElem?.1 hu
  have hlt := (List.getElem?_eq_some_iff.1 hk).1
  rw [h.1] at hlt
  have hs : 0 < sz := by
    rcases Nat.eq_zero_or_pos sz with e | e
    · subst e; simp at hlt
    · exact e
  have hj : k / sz < xs.length := Nat.div_lt_of_lt_mul (by rwa [Nat.mul_comm])
  have hi : k % sz < sz := Nat.mod_lt _ hs
  have hx := List.getElem?_eq_getElem hj
  have hl := h.2.1 _ _ hx
  have hp := List.getElem?_eq_getElem (l := xs[k / sz]) (i := k % sz) (by omega)
  obtain ⟨u', h1, h2, _⟩ := h.2.2 _ _ _ _ hx hp
  rw [show k / sz * sz + k % sz = k by rw [Nat.mul_comm]; exact Nat.div_add_mod k sz, hk] at h1
  cases h1
  exact h2

theorem FlatRel.append {sz : Nat} {xs ys : List (List CV)} {us vs : List Value} (h : FlatRel w wr sz xs us) (k : FlatRel w wr sz ys vs) : FlatRel w wr sz (xs ++ ys) (us ++ vs) := by
  refine ⟨by simp [h.1, k.1, Nat.add_mul], fun j x hx => ?_, fun j i x p hx hp => ?_⟩
  · rw [List.getElem?_append] at hx
    split at hx
    · exact h.2.1 j x hx
    · exact k.2.1 _ x hx
  · rw [List.getElem?_append] at hx
    split at hx
    · rename_i hj
      obtain ⟨u, h1, h2⟩ := h.2.2 j i x p hx hp
      exact ⟨u, by rw [List.getElem?_append_left (List.getElem?_eq_some_iff.1 h1).1]; exact h1, h2⟩
    · rename_i hj
      obtain ⟨u, h1, h2⟩ := k.2.2 _ i x p hx hp
      refine ⟨u, ?_, h2⟩
      have hjj : j * sz + i = us.length + ((j - xs.length) * sz + i) := by
        obtain ⟨n, rfl⟩ : ∃ n, j = xs.length + n := ⟨j - xs.length, by omega⟩
        rw [h.1, show xs.length + n - xs.length = n by omega, Nat.add_mul]; omega
      rw [hjj, List.getElem?_append_right (by omega), show us.length + ((j - xs.length) * sz + i) - us.length = (j - xs.length) * sz + i by omega]
      exact h1

theorem FlatRel.sub {sz : Nat} {xs : List (List CV)} {us : List Value} (h : FlatRel w wr sz xs us) (off len : Nat) (hle : off + len ≤ xs.length) : FlatRel w wr sz ((xs.drop off).take len) ((us.drop (off * sz)).take (len * sz)) := by
  refine ⟨?_, fun j x hx => ?_, fun j i x p hx hp => ?_⟩
  · have : off * sz + len * sz ≤ us.length := by rw [h.1, ← Nat.add_mul]; exact Nat.mul_le_mul_right _ hle
    have hl : ((xs.drop off).take len).length = len := by simp; omega
    rw [hl, List.length_take, List.length_drop]; omega
  · have hj : j < len := by have := (List.getElem?_eq_some_iff.1 hx).1; simp at this; omega
    rw [drop_take_get _ _ _ _ hj] at hx
    exact h.2.1 _ x hx
  · have hj : j < len := by have := (List.getElem?_eq_some_iff.1 hx).1; simp at this; omega
    rw [drop_take_get _ _ _ _ hj] at hx
    obtain ⟨u, h1, h2⟩ := h.2.2 _ i x p hx hp
    have hi : i < sz := by have := h.2.1 _ x hx; have := (List.getElem?_eq_some_iff.1 hp).1; omega
    refine ⟨u, ?_, h2⟩
    have hlt : j * sz + i < len * sz := by
      have := Nat.mul_le_mul_right sz (show j + 1 ≤ len from hj)
      rw [Nat.add_mul] at this; omega
    rw [drop_take_get _ _ _ _ hlt, show off * sz + (j * sz + i) = (off + j) * sz + i by rw [Nat.add_mul]; omega]
    exact h1

theorem FlatRel.put {sz : Nat} {xs ys : List (List CV)} {us vs : List Value} (h : FlatRel w wr sz xs us) (k : FlatRel w wr sz ys vs) {off : Nat} (hle : off + ys.length ≤ xs.length) : FlatRel w wr sz (PM.put xs off ys) (PM.put us (off * sz) vs) := by
  have hle' : off * sz + vs.length ≤ us.length := by rw [h.1, k.1, ← Nat.add_mul]; exact Nat.mul_le_mul_right _ hle
  refine ⟨by rw [length_put _ _ _ hle, length_put _ _ _ hle', h.1], fun j x hx => ?_, fun j i x p hx hp => ?_⟩
  · rw [get_put _ _ _ hle] at hx
    split at hx
    · exact h.2.1 _ _ hx
    · split at hx
      · exact k.2.1 _ _ hx
      · exact h.2.1 _ _ hx
  · rw [get_put _ _ _ hle] at hx
    rw [get_put _ _ _ hle', k.1]
    split at hx
    · rename_i hj
      obtain ⟨u, h1, h2⟩ := h.2.2 _ _ _ _ hx hp
      have hi : i < sz := by have := h.2.1 _ x hx; have := (List.getElem?_eq_some_iff.1 hp).1; omega
      have := Nat.mul_le_mul_right sz (show j + 1 ≤ off from hj)
      rw [Nat.add_mul] at this
      exact ⟨u, by rw [if_pos (by omega)]; exact h1, h2⟩
    · rename_i hj
      have hge := Nat.mul_le_mul_right sz (show off ≤ j by omega)
      split at hx
      · rename_i hj2
        obtain ⟨u, h1, h2⟩ := k.2.2 _ _ _ _ hx hp
        have hi : i < sz := by have := k.2.1 _ x hx; have := (List.getElem?_eq_some_iff.1 hp).1; omega
        have := Nat.mul_le_mul_right sz (show j + 1 ≤ off + ys.length from hj2)
        rw [Nat.add_mul, Nat.add_mul] at this
        refine ⟨u, ?_, h2⟩
        rw [if_neg (by omega), if_pos (by omega)]
        have : j * sz + i - off * sz = (j - off) * sz + i := by rw [Nat.sub_mul]; omega
        rw [this]; exact h1
      · rename_i hj2
        obtain ⟨u, h1, h2⟩ := h.2.2 _ _ _ _ hx hp
        have := Nat.mul_le_mul_right sz (show off + ys.length ≤ j by omega)
        rw [Nat.add_mul] at this
        exact ⟨u, by rw [if_neg (by omega), if_neg (by omega)]; exact h1, h2⟩

/-- The cells of a row of one's own. -/
theorem vec_flat {id sz j : Nat} {xs : List (List CV)} (h : MRel w wr loc id j (.vec true sz xs)) (hc : 0 < (loc id).cap) :
    ∃ (arr : Array Value) (T : TypeId), w.heap[(loc id).g]? = some (.cells arr T (0, 0)) ∧ arr.size = (loc id).cap * sz ∧ FlatRel w wr sz xs (arr.toList.take (xs.length * sz)) := by
  obtain ⟨_, h1, h2, h3, h4, h5⟩ := h
  obtain ⟨_, arr, T, a1, a2, a3⟩ := h5 hc
  refine ⟨arr, T, a1, a2, ?_, h4, fun j i x p hx hp => ?_⟩
  · have := Nat.mul_le_mul_right sz h2
    simp; omega
  · obtain ⟨u, b1, b2⟩ := a3 j i x p hx hp
    have hi : i < sz := by have := h4 _ x hx; have := (List.getElem?_eq_some_iff.1 hp).1; omega
    have hj := (List.getElem?_eq_some_iff.1 hx).1
    have := Nat.mul_le_mul_right sz (show j + 1 ≤ xs.length from hj)
    rw [Nat.add_mul] at this
    exact ⟨u, by rw [List.getElem?_take, if_pos (by omega)]; simpa using b1, b2⟩

theorem flat_nil (sz : Nat) : FlatRel w wr sz [] [] := ⟨by simp, fun j x h => by simp at h, fun j i x p h => by simp at h⟩

theorem src_mk {tx e' : TypeId} (hk : P.underlying tx = some (.slice e')) {sz n c : Nat} {A : Option Addr} {us : List Value} (hl : us.length = n * sz) (h1 : ∀ u ∈ us, u.oneCell' = true) (hA : A = none → n = 0) (hc : ∀ a, A = some a → ∀ j u, us[j]? = some u → w.cell? (a.add j) = some u) :
    Src P sz tx (.slice A n c) n us w := by
  cases A with
  | some a => exact Src.ofSlice w hk a n c us hl (hc a rfl) h1
  | none =>
    obtain rfl := hA rfl
    simp at hl
    subst hl
    exact Src.ofNil w hk c

section
variable {ev : Operand → PV} {ρ : Operand → Value} (hev : EvOk w (WR m loc wr0) loc ev ρ)
include hev

theorem rows_src (hM : MInv w0 lent wr0 m loc w) {x : Operand} {sz : Nat} {ys : List (List CV)} (h : rowsOf m sz (ev x) = some ys) :
    ∃ us A c, ρ x = .slice A ys.length c ∧ FlatRel w (WR m loc wr0) sz ys us ∧ (A = none → ys.length = 0) ∧ ∀ a, A = some a → ∀ j u, us[j]? = some u → w.cell? (a.add j) = some u := by
  have hx := hev x
  generalize ev x = p at h hx
  unfold rowsOf at h
  split at h
  · rename_i id off len
    obtain ⟨⟨s, xs⟩, hv, hq⟩ := onO_eq_some h
    clear h
    split at hq
    · rename_i hc
      obtain ⟨hs, hle⟩ := hc
      simp only [] at hle hs
      subst hs
      have hq := Option.some.inj hq
      simp only [] at hq
      subst hq
      obtain ⟨A, c, e, hlc, hcap, hA⟩ := hx
      have hm := vecC_mem hM hv
      have hlen : ((xs.drop off).take len).length = len := by simp; omega
      by_cases h0 : 0 < c
      · obtain ⟨arr, T, a1, a2, a3⟩ := vec_flat hm (by omega)
        obtain ⟨_, rfl⟩ := hA h0
        refine ⟨_, _, c, by rw [hlen]; exact e, a3.sub off len hle, (fun h => by cases h), fun a ha j u hu => ?_⟩
        cases ha
        have hj := (List.getElem?_eq_some_iff.1 hu).1
        have hj2 : j < len * s := by simp at hj; omega
        rw [drop_take_get _ _ _ _ hj2] at hu
        have hu2 : arr[off * s + j]? = some u := by
          rw [List.getElem?_take] at hu
          split at hu
          · simpa using hu
          · cases hu
        rw [add_mk, hm.2.1]
        exact cell_of_heap a1 hu2
      · have hl0 : len = 0 := by omega
        subst hl0
        exact ⟨[], A, c, by rw [hlen]; exact e, by simpa using flat_nil _, fun _ => hlen, fun a _ j u hu => by simp at hu⟩
    · cases hq
  · rename_i sz' xs
    split at h
    · rename_i hs
      subst hs
      cases h
      have hx : RelC w _ (.ro sz' ys) (ρ x) := hx
      generalize hv : ρ x = v at hx
      cases hx with
      | ro _ _ A c us hc hs' hA h1 hu' =>
        have hdm : ∀ j i, i < sz' → (j * sz' + i) / sz' = j ∧ (j * sz' + i) % sz' = i := fun j i hi => by
          have hp : 0 < sz' := by omega
          rw [Nat.mul_comm, Nat.mul_add_div hp, Nat.mul_add_mod, Nat.div_eq_of_lt hi, Nat.mod_eq_of_lt hi]
          exact ⟨by omega, rfl⟩
        refine ⟨(List.range (ys.length * sz')).map fun k => us (k / sz') (k % sz'), A, c, rfl, ⟨by simp, hs', fun j i x p hx hp => ?_⟩, fun e => ?_, fun a ha j u hu => ?_⟩
        · have hi : i < sz' := by have := hs' _ x hx; have := (List.getElem?_eq_some_iff.1 hp).1; omega
          have hj := (List.getElem?_eq_some_iff.1 hx).1
          have := Nat.mul_le_mul_right sz' (show j + 1 ≤ ys.length from hj)
          rw [Nat.add_mul] at this
          refine ⟨us j i, ?_, h1 _ _, hu' _ _ _ _ hx hp⟩
          rw [List.getElem?_map, List.getElem?_range (by omega), Option.map_some, (hdm j i hi).1, (hdm j i hi).2]
        · by_cases hn : ys = []
          · simp [hn]
          · obtain ⟨a, ha, _⟩ := hA hn
            rw [e] at ha; cases ha
        · have hj := (List.getElem?_eq_some_iff.1 hu).1
          have hj2 : j < ys.length * sz' := by simpa using hj
          have hn : ys ≠ [] := by intro e; subst e; simp at hj2
          obtain ⟨a', ha', _, _, hcell⟩ := hA hn
          rw [ha] at ha'; cases ha'
          have hp : 0 < sz' := by
            rcases Nat.eq_zero_or_pos sz' with e | e
            · subst e; simp at hj2
            · exact e
          rw [List.getElem?_map, List.getElem?_range hj2, Option.map_some] at hu
          cases hu
          have := hcell (j / sz') (j % sz') (Nat.div_lt_of_lt_mul (by rwa [Nat.mul_comm])) (Nat.mod_lt _ hp)
          rwa [show j / sz' * sz' + j % sz' = j by rw [Nat.mul_comm]; exact Nat.div_add_mod j sz'] at this
    · cases h
  · cases h
    have hx : RelC w _ .z (ρ x) := hx
    generalize hv : ρ x = v at hx
    cases hx with
    | z A => exact ⟨[], A, 0, rfl, flat_nil _, fun _ => rfl, fun a _ j u hu => by simp at hu⟩
  · cases h
    have hx : RelC w _ (.e _) (ρ x) := hx
    generalize hv : ρ x = v at hx
    cases hx with
    | e A c => exact ⟨[], A, c, rfl, flat_nil _, fun _ => rfl, fun a _ j u hu => by simp at hu⟩
  · cases h
    exact ⟨[], none, 0, rel_lit hx, flat_nil _, fun _ => rfl, fun a ha => by cases ha⟩
  · cases h
end

/-- 'append', the row has room. -/
theorem run_append_here (w : World) (t tx ty e : TypeId) (i : TypeInfo) (ht : P.underlying t = some (.slice e)) (hi : P.info? e = some i) {g len cap n : Nat} {x : Value} {news : List Value} (hs : Src P i.size tx x n news w) (hroom : len + n ≤ cap)
    {arr : Array Value} {T : TypeId} (hh : w.heap[g]? = some (.cells arr T (0, 0))) (hfit : len * i.size + news.length ≤ arr.size) :
    (Builtin.append_ #[t, tx] ty #[.slice (some ⟨g, 0, none⟩) len cap, x]).run P w = .ok (.slice (some ⟨g, 0, none⟩) (len + n) cap) (w.setRow g (put arr.toList (len * i.size) news).toArray) := by
  have hst := run_storeCells_at P g (len * i.size) T news 0 arr w hh (by simpa using hfit) hs.one
  simp only [Nat.add_zero] at hst
  rcases hs.kind with ⟨e', hk⟩ | hk <;> simp [Builtin.append_, run_underlying ht, run_underlying hk, sizeOf, typeInfo, hi, hs.len, hroom, hs.cells, add_mk, hst, put]

/-- What is appended: a slice's cells, or so many zeroes. -/
structure Src2 (P : Program) (i : TypeInfo) (z : Value) (tx : TypeId) (x : Value) (n : Nat) (news : List Value) (w : World) : Prop where
  kind : Src P i.size tx x n news w ∨ ∃ kn k, P.underlying tx = some (.int kn) ∧ x = .int k (n : Int) ∧ n * i.bytes ≤ 281474976710656 ∧ (n : Int) ≤ 9223372036854775807 ∧ 0 < i.size ∧ news = (Builtin.zeroCells z.cells n).toList
  newsLen : news.length = n * i.size
  one : ∀ u ∈ news, u.oneCell' = true
theorem Src.two {i : TypeInfo} {z : Value} {tx : TypeId} {x : Value} {n : Nat} {news : List Value} (h : Src P i.size tx x n news w) : Src2 P i z tx x n news w := ⟨.inl h, h.newsLen, h.one⟩

theorem run_append_here2 (w : World) (t tx ty e : TypeId) (i : TypeInfo) (z : Value) (ht : P.underlying t = some (.slice e)) (hi : P.info? e = some i) (hz : i.zero = some z) {g len cap n : Nat} {x : Value} {news : List Value} (hs : Src2 P i z tx x n news w) (hroom : len + n ≤ cap)
    {arr : Array Value} {T : TypeId} (hh : w.heap[g]? = some (.cells arr T (0, 0))) (hfit : len * i.size + news.length ≤ arr.size) :
    (Builtin.append_ #[t, tx] ty #[.slice (some ⟨g, 0, none⟩) len cap, x]).run P w = .ok (.slice (some ⟨g, 0, none⟩) (len + n) cap) (w.setRow g (put arr.toList (len * i.size) news).toArray) := by
  rcases hs.kind with h | ⟨kn, k, hk, rfl, h48, h63, hsz, hnews⟩
  · exact run_append_here w t tx ty e i ht hi h hroom hh hfit
  · have hst := run_storeCells_at P g (len * i.size) T news 0 arr w hh (by simpa using hfit) hs.one
    simp only [Nat.add_zero] at hst
    have hw : IntKind.i64.wrap (n : Int) = n := by rw [IntKind.wrap_i64]; omega
    have hneg : ¬ ((n : Int) < 0) := by omega
    have h48i : ¬ (281474976710656 < (n : Int) * (i.bytes : Int)) := by rw [← Int.natCast_mul]; omega
    by_cases h0 : n = 0
    · subst h0
      have hn : news = [] := List.length_eq_zero_iff.1 (by have := hs.newsLen; simpa using this)
      subst hn
      have hw0 : IntKind.i64.wrap (0 : Int) = 0 := by decide
      have hroom' : len ≤ cap := by omega
      simp [Builtin.append_, run_underlying ht, run_underlying hk, sizeOf, typeInfo, zeroValue, hi, hz, asInt, asIntOf, hw0, hroom', add_mk, hst, put]
    · have hns : ¬ (n * i.size = 0) := Nat.mul_ne_zero h0 (by omega)
      have hst' : Sem.run P (storeCells ⟨g, len * i.size, none⟩ (Builtin.zeroCells z.cells n).toList) w = _ := hnews ▸ hst
      simp [Builtin.append_, run_underlying ht, run_underlying hk, sizeOf, typeInfo, zeroValue, hi, hz, asInt, asIntOf, hw, h0, hneg, hns, h48i, hroom, add_mk, hst', put, hnews]

theorem run_append_nothing2 (w : World) (t tx ty e : TypeId) (i : TypeInfo) (z : Value) (ht : P.underlying t = some (.slice e)) (hi : P.info? e = some i) (hz : i.zero = some z) (base : Option Addr) (sLen sCap : Nat) (hle : sLen ≤ sCap) (x : Value) (hs : Src2 P i z tx x 0 [] w) :
    (Builtin.append_ #[t, tx] ty #[.slice base sLen sCap, x]).run P w = .ok (.slice base sLen sCap) w := by
  rcases hs.kind with h | ⟨kn, k, hk, rfl, h48, h63, hsz, hnews⟩
  · exact run_append_nothing w t tx ty e i ht hi base sLen sCap hle x h
  · have hw : IntKind.i64.wrap (0 : Int) = 0 := by decide
    cases base <;> simp [Builtin.append_, run_underlying ht, run_underlying hk, sizeOf, typeInfo, zeroValue, hi, hz, asInt, asIntOf, hw, hle, storeCells]

theorem run_append_grow2 (w : World) (t tx ty e : TypeId) (i : TypeInfo) (z : Value) (ht : P.underlying t = some (.slice e)) (hi : P.info? e = some i) (hz : i.zero = some z) (base : Option Addr) (sLen sCap : Nat) (olds : List Value)
    (hold : (Builtin.firstCells i.size sLen (.slice base sLen sCap)).run P w.drew = .ok olds.toArray w.drew) (x : Value) (n : Nat) (news : List Value) (hs : Src2 P i z tx x n news w) (hle : sLen ≤ sCap)
    (hg : sCap < sLen + n) (h63 : ((sLen + n : Nat) : Int) ≤ 9223372036854775807) (hfit : Builtin.nextslicecap (sLen + n) sCap * i.bytes ≤ 281474976710656) :
    (Builtin.append_ #[t, tx] ty #[.slice base sLen sCap, x]).run P w =
      .ok (.slice (some ⟨w.heap.size, 0, none⟩) (sLen + n) (grownCap w (sLen + n) sCap e))
        (w.drew.alloc (.cells ((olds ++ news).toArray ++ Builtin.zeroCells z.cells (grownCap w (sLen + n) sCap e - (sLen + n))) e)) := by
  rcases hs.kind with h | ⟨kn, k, hk, rfl, h48, h63', hsz, rfl⟩
  · exact run_append_grow_src w t tx ty e i z ht hi hz base sLen sCap olds hold x n news h hg h63 hfit
  · have := Go.Lib.run_append_grow_zeros w t tx ty e i z k kn ht hk hi hz base sLen sCap olds hold n (by omega) hsz hg h63 h48 hfit
    rw [this]
    congr 3
    apply Array.ext'
    simp
end Go.PM
