/- copy, store. -/
import Derived.Test.YtmmipinjkbkkmaaPmOps67
set_option linter.unusedSimpArgs false
set_option linter.unusedVariables false
set_option linter.unusedSectionVars false
set_option linter.unnecessarySimpa false
namespace Go.PM
open Go.RowKit (Below)
variable {P : Program} {T : Tab} {w w0 : World} {wr lent wr0 : Nat → Prop} {loc : Locs} {m : Mem}

theorem put_take {α : Type} (l vs : List α) (off n : Nat) (h : off + vs.length ≤ n) (hn : n ≤ l.length) : (put l off vs).take n = put (l.take n) off vs := by
  apply List.ext_getElem?
  intro k
  rw [List.getElem?_take, get_put _ _ _ (by omega), get_put _ _ _ (by simp; omega)]
  by_cases hk : k < n
  · simp only [if_pos hk, List.getElem?_take]
  · rw [if_neg hk, if_neg (by omega), if_neg (by omega), List.getElem?_take, if_neg hk]

theorem FlatRel.patch {sz i off : Nat} {xs : List (List CV)} {us vs : List Value} {el cs : List CV} (h : FlatRel w wr sz xs us) (hel : xs[i]? = some el) (hcs : CellsRel w wr loc (cs.map .c) vs) (hle : off + cs.length ≤ sz) :
    FlatRel w wr sz (xs.set i (PM.put el off cs)) (PM.put us (i * sz + off) vs) := by
  have hi := (List.getElem?_eq_some_iff.1 hel).1
  have hl := h.2.1 _ _ hel
  have hvl : vs.length = cs.length := by simpa using hcs.1
  have hfit : i * sz + off + vs.length ≤ us.length := by
    rw [h.1]
    have := Nat.mul_le_mul_right sz (show i + 1 ≤ xs.length from hi)
    rw [Nat.add_mul] at this; omega
  refine ⟨by rw [length_put _ _ _ hfit]; simpa using h.1, fun j x hx => ?_, fun j k x p hx hp => ?_⟩
  · rw [List.getElem?_set] at hx
    split at hx
    · cases hx; rw [length_put _ _ _ (by omega)]; exact hl
    · exact h.2.1 j x hx
  · rw [List.getElem?_set] at hx
    rw [get_put _ _ _ hfit]
    split at hx
    · rename_i hij
      subst hij
      cases hx
      rw [get_put _ _ _ (by omega)] at hp
      split at hp
      · obtain ⟨u, a, b⟩ := h.2.2 _ _ _ _ hel hp
        exact ⟨u, by rw [if_pos (by omega)]; exact a, b⟩
      · split at hp
        · rename_i hk1 hk2
          have hu : vs[k - off]? = some (vs[k - off]'(by omega)) := List.getElem?_eq_getElem _
          obtain ⟨a, b⟩ := hcs.2 (k - off) (.c p) _ (by simp [hp]) hu
          refine ⟨_, ?_, a, b⟩
          rw [if_neg (by omega), if_pos (by omega), show i * sz + k - (i * sz + off) = k - off by omega]
          exact hu
        · obtain ⟨u, a, b⟩ := h.2.2 _ _ _ _ hel hp
          exact ⟨u, by rw [if_neg (by omega), if_neg (by omega)]; exact a, b⟩
    · rename_i hij
      obtain ⟨u, a, b⟩ := h.2.2 _ _ _ _ hx hp
      have hk : k < sz := by have := h.2.1 _ _ hx; have := (List.getElem?_eq_some_iff.1 hp).1; omega
      refine ⟨u, ?_, b⟩
      rcases Nat.lt_or_gt_of_ne hij with hlt | hlt
      · have := Nat.mul_le_mul_right sz (show i + 1 ≤ j from hlt)
        rw [Nat.add_mul] at this
        rw [if_neg (by omega), if_neg (by omega)]; exact a
      · have := Nat.mul_le_mul_right sz (show j + 1 ≤ i from hlt)
        rw [Nat.add_mul] at this
        rw [if_pos (by omega)]; exact a

/-- A row of one's own is written. -/
theorem write_vec (hM : MInv w0 lent wr0 m loc w) {id sz : Nat} {xs ys : List (List CV)} (hv : m (id, 0) = some (.vec true sz xs)) (hlen : ys.length = xs.length) (hh : (loc id).here = true) {arr : Array Value} {T : TypeId} (a1 : w.heap[(loc id).g]? = some (.cells arr T (0, 0))) {arr' : Array Value} (hs : arr'.size = (loc id).cap * sz)
    (hf : FlatRel w (WR m loc wr0) sz ys (arr'.toList.take (xs.length * sz))) (v : PV) (u : Value) (hu : Later w (w.setRow (loc id).g arr') (WR m loc wr0) (WR (updM [((id, 0), some (.vec true sz ys))] m) loc wr0) → RelV (w.setRow (loc id).g arr') (WR (updM [((id, 0), some (.vec true sz ys))] m) loc wr0) loc v u) (rd : List Key) :
    OpOut w0 lent wr0 m loc w ⟨v, [((id, 0), some (.vec true sz ys))], [], rd⟩ u (w.setRow (loc id).g arr') := by
  have hm := hM.mem id 0 _ hv
  have hup : ∀ id' j, updM [((id, 0), some (.vec true sz ys))] m (id', j) = if id' = id ∧ j = 0 then some (.vec true sz ys) else m (id', j) := fun id' j => by
    simp only [updM]
    by_cases h : id' = id ∧ j = 0
    · obtain ⟨rfl, rfl⟩ := h; simp
    · rw [if_neg h, if_neg (fun e => h ⟨(Prod.mk.inj e).1.symm, (Prod.mk.inj e).2.symm⟩)]
  obtain ⟨h1, h2⟩ := hM.write id hh 0 _ hv rfl (m' := updM [((id, 0), some (.vec true sz ys))] m) (w' := w.setRow (loc id).g arr') (by simp) rfl rfl rfl (fun g hg => setRow_other _ _ _ _ hg) (fun id' j => by
      rw [hup]
      split
      · rename_i h; obtain ⟨rfl, rfl⟩ := h; rw [hv]; rfl
      · rfl) (fun id' j hne => by rw [hup, if_neg (fun e => hne e.1)]) (fun b sz' xs' j x _ hx => by
      rw [hup] at hx
      split at hx
      · rename_i h; exact h.2
      · exact hM.excl id _ _ _ j x hv hx) (fun L j x hx => by
      rw [hup] at hx
      split at hx
      · rename_i h
        obtain ⟨_, rfl⟩ := h
        cases hx
        exact mrel_vec hm.2.1 (by rw [hlen]; exact hm.2.2.1) hm.2.2.2.1 (hf.later L) (T := T) (arr := arr') fun _ => ⟨hh, setRow_heap _ _ _ _ _ _ a1, hs, fun k u hk => by
          rw [List.getElem?_take] at hk
          split at hk
          · simpa using hk
          · cases hk⟩
      · rename_i h
        exact absurd ⟨rfl, hM.excl id _ _ _ j x hv hx⟩ h)
  exact ⟨loc, h1, h2, hu h2, fun _ _ => rfl⟩

/-- A variable is written. -/
theorem write_box (hM : MInv w0 lent wr0 m loc w) {id off n : Nat} {l ps : List PV} {us : List Value} (hb : boxC m id off n = some l) (h0 : 0 < n) (hn : ps.length = n) (hrel : CellsRel w (WR m loc wr0) loc ps us) (rd : List Key) :
    ∃ arr T, w.heap[(loc id).g]? = some (.cells arr T (0, 0)) ∧ off + n ≤ arr.size ∧ OpOut w0 lent wr0 m loc w ⟨tupV, wrBox id off ps, [], rd⟩ undef (w.setRow (loc id).g (put arr.toList off us).toArray) := by
  obtain ⟨hl, hb⟩ := boxC_spec hb
  have hq0 : l[0]? = some (l[0]'(by omega)) := List.getElem?_eq_getElem _
  have hm0 := hb 0 _ hq0
  obtain ⟨hh, arr, T, u0, a1, a2, _⟩ := hM.mem id _ _ hm0
  have hcell : ∀ j p, m (id, j) = some (.cell p) → ∃ u, arr[j]? = some u ∧ u.oneCell' = true ∧ RelL w (WR m loc wr0) loc p u := fun j p hp => by
    obtain ⟨_, arr', T', u, b1, b2, b3, b4⟩ := hM.mem id _ _ hp
    rw [a1] at b1; cases b1
    exact ⟨u, b2, b3, b4⟩
  have hlast : l[n - 1]? = some (l[n - 1]'(by omega)) := List.getElem?_eq_getElem _
  obtain ⟨_, hu, _⟩ := hcell _ _ (hb _ _ hlast)
  have hfit : off + n ≤ arr.size := by have := (Array.getElem?_eq_some_iff.1 hu).1; omega
  have hvl : us.length = n := by rw [hrel.1, hn]
  have hfit' : off + us.length ≤ arr.toList.length := by simpa [hvl] using hfit
  have hup : ∀ id' j, updM (wrBox id off ps) m (id', j) = if id' = id ∧ off ≤ j ∧ j < off + ps.length then (ps[j - off]?).map .cell else m (id', j) := updM_box m id ps off
  have hin : ∀ j, off ≤ j → j < off + n → (m (id, j)).isSome = true := fun j h1 h2 => by
    have : l[j - off]? = some (l[j - off]'(by omega)) := List.getElem?_eq_getElem _
    have := hb _ _ this
    rw [show off + (j - off) = j by omega] at this
    simp [this]
  refine ⟨arr, T, a1, hfit, ?_⟩
  obtain ⟨h1, h2⟩ := hM.write id hh _ _ hm0 rfl (m' := updM (wrBox id off ps) m) (w' := w.setRow (loc id).g (put arr.toList off us).toArray) (by simp) rfl rfl rfl (fun g hg => setRow_other _ _ _ _ hg) (fun id' j => by
      rw [hup]
      split
      · rename_i h
        obtain ⟨rfl, h1, h2⟩ := h
        rw [hin j h1 (by omega), Option.isSome_map]
        rw [List.getElem?_eq_getElem (by omega)]; rfl
      · rfl) (fun id' j hne => by rw [hup, if_neg (fun e => hne e.1)]) (fun b sz' xs' j x hv hx => by
      rw [hup] at hv
      split at hv
      · simp only [Option.map_eq_some_iff] at hv
        obtain ⟨_, _, e⟩ := hv
        cases e
      · have := hM.excl id _ _ _ _ _ hv hm0
        rw [this, hv] at hm0; cases hm0) (fun L j x hx => by
      rw [hup] at hx
      split at hx
      · rename_i h
        simp only [Option.map_eq_some_iff] at hx
        obtain ⟨p, hp, rfl⟩ := hx
        have hu' : us[j - off]? = some (us[j - off]'(by omega)) := List.getElem?_eq_getElem _
        obtain ⟨c1, c2⟩ := hrel.2 _ _ _ hp hu'
        refine ⟨hh, _, T, _, setRow_heap _ _ _ _ _ _ a1, ?_, c1, c2.later L fun _ _ => rfl⟩
        rw [List.getElem?_toArray, get_put _ _ _ hfit', if_neg (by omega), if_pos (by omega)]
        exact hu'
      · rename_i h
        have hx0 := hM.mem id j x hx
        cases x with
        | cell p =>
          obtain ⟨u, b1, b2, b3⟩ := hcell j p hx
          refine ⟨hh, _, T, u, setRow_heap _ _ _ _ _ _ a1, ?_, b2, b3.later L fun _ _ => rfl⟩
          rw [List.getElem?_toArray, get_put _ _ _ hfit']
          by_cases hj : j < off
          · rw [if_pos hj]; simpa using b1
          · rw [if_neg hj, if_neg (by simp at h; omega)]; simpa using b1
        | vec b sz xs =>
          have hj0 := hx0.1
          subst hj0
          have := hM.excl id _ _ _ _ _ hx hm0
          rw [this, hx] at hm0; cases hm0)
  exact ⟨loc, h1, h2, RelC.lit _, fun _ _ => rfl⟩

section
variable {ev : Operand → PV} {ρ : Operand → Value} (hev : EvOk w (WR m loc wr0) loc ev ρ)
include hev

theorem o_store (hT : TabOk P T) (hM : MInv w0 lent wr0 m loc w) {o : Oper} {t : TypeId} {a v : Operand} {ti : TI} {e : Eff} (ho : o.op = .store t a v) (ht : T.get t = some ti) (h : storeRes m ti.size (ev v) (ev a) = some e) :
    OpDone P ρ o w (OpOut w0 lent wr0 m loc w e) := by
  obtain ⟨i, hi, hsz, _⟩ := hT.ok t ti ht
  have ha := hev a
  have hv := hev v
  generalize ev a = pa at h ha
  generalize ev v = pv at h hv
  unfold storeRes at h
  split at h
  · rename_i id off
    split at h
    · rename_i hc
      obtain ⟨hc1, hc2, hc3⟩ := hc
      obtain ⟨l, hl, h⟩ := onO_eq_some h
      cases h
      have hr := cells_rel hv hc3
      obtain ⟨arr, T', a1, a2, hout⟩ := write_box hM hl hc2 hc1 hr (keysB id off ti.size)
      obtain ⟨_, ha⟩ := ha
      have hvl : (ρ v).cells.toList.length = ti.size := by rw [hr.1, hc1]
      have hst := run_storeCells_at P (loc id).g off T' (ρ v).cells.toList 0 arr w a1 (by omega) hr.one
      simp only [Nat.add_zero] at hst
      refine done_skip ?_ hout
      have hvl2 : (ρ v).cells.size = ti.size := by simpa using hvl
      simp [execOp, ho, Instr.storeAt, ha, Instr.sureAddr, storeVar, sizeOf, typeInfo, hi, hsz, hvl2, hst, put]
    · cases h
  · rename_i id j off
    obtain ⟨⟨sz, xs⟩, hvec, hq⟩ := onO_eq_some h
    clear h
    have hvec := rowC_some hvec
    obtain ⟨el, hel, hq⟩ := onO_eq_some hq
    obtain ⟨cs, hcs, hq⟩ := onO_eq_some hq
    simp only [] at hel hq hvec
    split at hq
    · rename_i hc
      obtain ⟨hc1, hc2, hc3⟩ := hc
      have hq := Option.some.inj hq
      subst hq
      obtain ⟨hh, ha⟩ := ha
      have hm := hM.mem id 0 _ hvec
      have hj := (List.getElem?_eq_some_iff.1 hel).1
      have hcap0 := hm.2.2.1
      obtain ⟨arr, T', a1, a2, a3⟩ := vec_flat hm (by omega)
      have hr := cells_rel hv hc3
      have hcc := mapO_asC hcs
      have hvl : (ρ v).cells.toList.length = ti.size := by rw [hr.1, hcc]; simpa using hc1
      have hn : xs.length * sz ≤ arr.size := by rw [a2]; exact Nat.mul_le_mul_right _ hcap0
      have hn2 : xs.length * sz ≤ arr.toList.length := by simpa using hn
      have hfit : j * sz + off + ti.size ≤ xs.length * sz := by
        have := Nat.mul_le_mul_right sz (show j + 1 ≤ xs.length from hj)
        rw [Nat.add_mul] at this; omega
      have hst := run_storeCells_at P (loc id).g (j * sz + off) T' (ρ v).cells.toList 0 arr w a1 (by omega) hr.one
      simp only [Nat.add_zero] at hst
      have hvl2 : (ρ v).cells.size = ti.size := by simpa using hvl
      refine done_skip (w' := w.setRow (loc id).g (put arr.toList (j * sz + off) (ρ v).cells.toList).toArray) ?_ ?_
      · simp [execOp, ho, Instr.storeAt, ha, Instr.sureAddr, storeVar, sizeOf, typeInfo, hi, hsz, hvl2, hm.2.1, hst, put]
      · refine write_vec hM hvec (by simp) hh a1 (by rw [List.size_toArray, length_put _ _ _ (by omega)]; simpa using a2) ?_ _ _ (fun _ => rel_mk _) _
        rw [List.toList_toArray, put_take _ _ _ _ (by omega) (by simpa using hn)]
        exact a3.patch hel (hcc ▸ hr) (by omega)
    · cases hq
  · cases h

theorem o_copy (hT : TabOk P T) (hM : MInv w0 lent wr0 m loc w) {o : Oper} {s x : Operand} {t : TypeId} {ts : Array TypeId} {te : TI} {e : Eff} (ho : o.op = .call ⟨.builtin .copy, #[s, x], ts⟩) (hts : ts[0]? = some t) (ht : elemTI T t = some te) (h : copyRes te m (ev s) (ev x) = some e) :
    OpDone P ρ o w (OpOut w0 lent wr0 m loc w e) := by
  obtain ⟨el, i, hut, hi, hsz, _⟩ := elemTI_ok hT ht
  obtain ⟨ys, hy, h⟩ := onO_eq_some h
  obtain ⟨vs, B, cx, ex, hfy, hBn, hBc⟩ := rows_src hev hM hy
  have hs := hev s
  generalize ev s = p at h hs
  unfold copyTo at h
  split at h
  · rename_i id off len
    obtain ⟨⟨sz, xs⟩, hv0, hq⟩ := onO_eq_some h
    clear h
    have hv := rowC_some hv0
    clear hv0
    simp only [] at hq hv
    split at hq
    · rename_i hc
      obtain ⟨hc1, hle⟩ := hc
      have hq := Option.some.inj hq
      subst hq
      subst hc1
      obtain ⟨A, c, e1, hlc, hcap, hA⟩ := hs
      have hm := hM.mem id 0 _ hv
      let n := min ys.length len
      have hn1 : n ≤ ys.length := Nat.min_le_left _ _
      have hn2 : n ≤ len := Nat.min_le_right _ _
      have hsub := hfy.sub 0 n (by omega)
      simp only [List.drop_zero, Nat.zero_mul] at hsub
      have hfirst : (Builtin.firstCells te.size n (ρ x)).run P w = .ok (vs.take (n * te.size)).toArray w := by
        rw [ex]
        refine firstCells_of (by rw [hsub.1]; simp [Nat.min_eq_left hn1]) (fun e => by have := hBn e; omega) (fun a ha j u hu => ?_) _
        rw [List.getElem?_take] at hu
        split at hu
        · exact hBc a ha j u hu
        · cases hu
      have hyl : (ys.take n).length = n := by simp; omega
      by_cases h0 : n = 0
      · have hvs0 : vs.take (n * te.size) = [] := by simp [h0]
        have hput : put xs off (ys.take n) = xs := by rw [h0]; simp [put]
        have hwr : updM [((id, 0), some (.vec true te.size (put xs off (ys.take n))))] m = m := by
          rw [hput]
          funext k
          simp only [updM]
          split
          · rename_i e; rw [← e, hv]
          · rfl
        refine done_value (w' := w) (v := .int .i64 (n : Nat)) ?_ ⟨loc, ?_, ?_, RelC.lit _, fun _ _ => rfl⟩
        · rw [ex] at hfirst
          cases A <;> simp [execOp, ho, resolve, invoke, builtin, Builtin.copy_, hts, run_underlying hut, e1, ex, Builtin.lenOf, sizeOf, typeInfo, hi, hsz] <;>
            (rw [show ys.length.min len = n from rfl, hfirst]; simp [hvs0, storeCells, goInt])
        · show MInv w0 lent wr0 (updM [((id, 0), some (.vec true te.size (put xs off (ys.take n))))] m) loc w
          rw [hwr]; exact hM
        · show Later w w _ (WR (updM [((id, 0), some (.vec true te.size (put xs off (ys.take n))))] m) loc wr0)
          rw [hwr]; exact ⟨Nat.le_refl _, fun _ _ _ => rfl, fun _ _ h => h⟩
      · obtain ⟨hh, rfl⟩ := hA (by omega)
        obtain ⟨arr, T', a1, a2, a3⟩ := vec_flat hm (by omega)
        have hcap0 := hm.2.2.1
        have hnn : xs.length * te.size ≤ arr.size := by rw [a2]; exact Nat.mul_le_mul_right _ hcap0
        have hnn2 : xs.length * te.size ≤ arr.toList.length := by simpa using hnn
        have hvl : (vs.take (n * te.size)).length = n * te.size := by rw [hsub.1, hyl]
        have hfit : off * te.size + n * te.size ≤ xs.length * te.size := by
          rw [← Nat.add_mul]; exact Nat.mul_le_mul_right _ (by omega)
        have hst := run_storeCells_at P (loc id).g (off * te.size) T' (vs.take (n * te.size)) 0 arr w a1 (by omega) (fun u hu => hfy.one u (List.mem_of_mem_take hu))
        simp only [Nat.add_zero] at hst
        refine done_value (w' := w.setRow (loc id).g (put arr.toList (off * te.size) (vs.take (n * te.size))).toArray) (v := .int .i64 (n : Nat)) ?_ ?_
        · rw [ex] at hfirst
          simp [execOp, ho, resolve, invoke, builtin, Builtin.copy_, hts, run_underlying hut, e1, ex, Builtin.lenOf, sizeOf, typeInfo, hi, hsz]
          rw [show ys.length.min len = n from rfl, hfirst]
          simp [hm.2.1, hst, goInt, put]
        · refine write_vec hM hv (by rw [length_put]; rw [hyl]; omega) hh a1 (by rw [List.size_toArray, length_put _ _ _ (by omega)]; simpa using a2) ?_ _ _ (fun _ => rel_mk _) _
          rw [List.toList_toArray, put_take _ _ _ _ (by omega) (by simpa using hnn)]
          exact a3.put hsub (by rw [hyl]; omega)
    · cases hq
  · cases h
end
end Go.PM
