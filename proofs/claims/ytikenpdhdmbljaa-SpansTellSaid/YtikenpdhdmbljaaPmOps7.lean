/- make, a slice's literal, copy, store. -/
import Derived.Test.YtikenpdhdmbljaaPmOps6
set_option linter.unusedSimpArgs false
set_option linter.unusedVariables false
set_option linter.unusedSectionVars false
set_option linter.unnecessarySimpa false
namespace Go.PM
open Go.RowKit (Below)
variable {P : Program} {T : Tab} {w w0 : World} {wr lent wr0 : Nat → Prop} {loc : Locs} {m : Mem}

theorem zeros_flat {z : Array Value} {zero : List Value} {sz : Nat} (hz : z.toList = zero) (hl : zero.length = sz) (h1 : ∀ v ∈ zero, v.oneCell' = true) (n : Nat) : FlatRel w wr sz (List.replicate n (zero.map .lit)) (madeCells z (n * sz)).toList := by
  subst hz; subst hl
  refine ⟨by simp [size_madeCells], fun j x hx => ?_, fun j i x p hx hp => ?_⟩
  · rw [List.getElem?_replicate] at hx
    split at hx
    · cases hx; simp
    · cases hx
  · rw [List.getElem?_replicate] at hx
    split at hx
    · rename_i hj
      cases hx
      simp only [List.getElem?_map, Option.map_eq_some_iff] at hp
      obtain ⟨u, hu, rfl⟩ := hp
      have hi : i < z.toList.length := (List.getElem?_eq_some_iff.1 hu).1
      have := Nat.mul_le_mul_right z.toList.length (show j + 1 ≤ n from hj)
      rw [Nat.add_mul] at this
      refine ⟨u, ?_, h1 u (List.mem_of_getElem? hu), RelC.lit u⟩
      have hk : j * z.toList.length + i < n * z.toList.length := by omega
      have hmod : (j * z.toList.length + i) % z.size = i := by
        rw [show z.size = z.toList.length by simp, Nat.mul_comm, Nat.mul_add_mod, Nat.mod_eq_of_lt hi]
      simp only [Array.length_toList] at hk hi
      have : z[i]! = u := by
        rw [getElem!_pos z i hi]
        rw [List.getElem?_eq_getElem (by simpa using hi)] at hu
        simpa using hu
      simp only [Array.getElem?_toList, madeCells, Array.getElem?_map, Array.length_toList] at hmod ⊢
      rw [Array.getElem?_range, if_pos hk, Option.map_some, hmod, this]
    · cases hx

section
variable {ev : Operand → PV} {ρ : Operand → Value} (hev : EvOk w (WR m loc wr0) loc ev ρ)
include hev

theorem o_make (hT : TabOk P T) (hM : MInv w0 lent wr0 m loc w) {o : Oper} {t : TypeId} {l c : Operand} {te : TI} {d : Nat} {e : Eff} (hd : Free m d) (ho : o.op = .makeSlice t l c) (ht : elemTI T t = some te) (h : madeRes d te (ev l) (ev c) = some e) :
    OpDone P ρ o w (OpOut w0 lent wr0 m loc w e) := by
  obtain ⟨el, i, hut, hi, hsz, hby, ⟨z, hz, hzc⟩, hzl, h1⟩ := elemTI_ok hT ht
  obtain ⟨n, hn, h⟩ := onO_eq_some h
  obtain ⟨k, hk, h⟩ := onO_eq_some h
  split at h
  · rename_i hc
    obtain ⟨rfl, h0, hroom⟩ := hc
    cases h
    obtain ⟨r1, r2, r3⟩ := room_ok hroom
    obtain ⟨kl, zl, el1, hl0, hl1⟩ := natOf_rel hev hn
    obtain ⟨kc, zc, ec1, hc0, hc1⟩ := natOf_rel hev hk
    have hzz : zl = zc := by omega
    subst hzz
    have hb : (i.bytes : Int) * zl ≤ 281474976710656 := by
      have e1 : zl = ((n : Nat) : Int) := by omega
      rw [e1, ← Int.natCast_mul, hby]
      have : te.bytes * n ≤ 140737488355328 := by rw [Nat.mul_comm]; exact r2
      omega
    have hrun := run_make (P := P) w t el i z hut hi hz kl kc zl zl hl0 (Int.le_refl _) hb (by omega)
    rw [hl1, hsz] at hrun
    refine done_value (v := .slice (some ⟨w.heap.size, 0, none⟩) n n) (w' := w.alloc (.cells (madeCells z.cells (n * te.size)) el)) (by simp [execOp, ho, el1, ec1, hrun]) ?_
    have hf := zeros_flat (w := w) (wr := WR m loc wr0) hzc hzl h1 n
    have := grow_vec (more := []) hM hd (below_alloc w _) (heap_alloc_new w (.cells (madeCells z.cells (n * te.size)) el)) (xs := List.replicate n (te.zero.map .lit)) (sz := te.size) (cap := n) (by simp) (by simp [maxLen]; omega) hf.2.1 (by rw [size_madeCells]) (fun j i x p hx hp => by
      obtain ⟨u, a, b⟩ := hf.2.2 j i x p hx hp
      exact ⟨u, by simpa using a, b⟩) (fun _ _ x hx => ⟨x, hx, .inl rfl⟩) []
    simpa using this
  · cases h

omit hev in
theorem mapO_asC : ∀ {l : List PV} {cs : List CV}, mapO PV.asC l = some cs → l = cs.map .c
  | [], cs, h => by cases h; rfl
  | p :: l, cs, h => by
    obtain ⟨b, hb, h⟩ := onO_eq_some h
    obtain ⟨r, hr, h⟩ := onO_eq_some h
    cases h
    rw [mapO_asC hr]
    unfold PV.asC at hb
    split at hb
    · cases hb; rfl
    · cases hb

omit hev in
theorem set_put {α : Type} (l : List α) (i : Nat) (x : α) (h : i < l.length) : l.set i x = put l i [x] := by
  rw [List.set_eq_take_append_cons_drop, if_pos h]
  simp [put]

omit hev in
theorem flat_cells {cs : List CV} {us : List Value} (h : CellsRel w wr loc (cs.map .c) us) : FlatRel w wr cs.length [cs] us := by
  refine ⟨by simpa using h.1, fun j x hx => ?_, fun j i x p hx hp => ?_⟩
  · cases j with
    | zero => cases hx; rfl
    | succ j => simp at hx
  · cases j with
    | succ j => simp at hx
    | zero =>
      cases hx
      have hi := (List.getElem?_eq_some_iff.1 hp).1
      have hu : us[i]? = some (us[i]'(by have := h.1; simp at this; omega)) := List.getElem?_eq_getElem _
      obtain ⟨a, b⟩ := h.2 i (.c p) _ (by simp [hp]) hu
      exact ⟨_, by simpa using hu, a, b⟩

theorem fillE_rel {sz : Nat} : ∀ {parts : List (Nat × Operand)} {xs l : List (List CV)} {us : List Value}, FlatRel w (WR m loc wr0) sz xs us → fillE sz xs (parts.map fun x => (x.1, ev x.2)) = some l →
    ∃ vs, Instr.fill (fun i => some (i * sz, sz)) us.toArray (parts.map fun x => (x.1, ρ x.2)) = some vs ∧ FlatRel w (WR m loc wr0) sz l vs.toList
  | [], xs, l, us, h, hf => by
    cases hf
    exact ⟨us.toArray, rfl, by simpa using h⟩
  | (i, x) :: parts, xs, l, us, h, hf => by
    obtain ⟨cs, hcs, hf⟩ := onO_eq_some hf
    split at hf
    · rename_i hc
      obtain ⟨hc1, hc2, hc3⟩ := hc
      have hr := cells_rel (hev x) hc3
      rw [mapO_asC hcs] at hr
      have hfl := flat_cells hr
      rw [hc1] at hfl
      rw [set_put _ _ _ hc2] at hf
      obtain ⟨vs, hv, hrel⟩ := fillE_rel (h.put hfl (by simp; omega)) hf
      refine ⟨vs, ?_, hrel⟩
      have hl1 : (ρ x).cells.size = sz := by have := hr.1; simp at this; omega
      have hfit : i * sz + sz ≤ us.length := by
        rw [h.1]
        have := Nat.mul_le_mul_right sz (show i + 1 ≤ xs.length from hc2)
        rw [Nat.add_mul] at this; omega
      simp only [List.map_cons]
      rw [fill_cons rfl hl1 (by simp; omega)]
      exact hv
    · cases hf

theorem o_built (hT : TabOk P T) (hM : MInv w0 lent wr0 m loc w) {o : Oper} {t : TypeId} {len : Nat} {parts : Array (Nat × Operand)} {te : TI} {d : Nat} {e : Eff} (hd : Free m d) (ho : o.op = .buildSlice t len parts) (ht : elemTI T t = some te)
    (h : builtRes d te len (parts.toList.map fun x => (x.1, ev x.2)) = some e) : OpDone P ρ o w (OpOut w0 lent wr0 m loc w e) := by
  obtain ⟨el, i, hut, hi, hsz, hby, ⟨z, hz, hzc⟩, hzl, h1⟩ := elemTI_ok hT ht
  unfold builtRes at h
  split at h
  · cases h
  · rename_i hc
    obtain ⟨xs, hx, h⟩ := onO_eq_some h
    cases h
    have hs0 : te.size ≠ 0 := fun e => hc (.inl e)
    have hbig : ¬ 16777216 < len * te.size := fun e => hc (.inr e)
    obtain ⟨vs, hv, hf⟩ := fillE_rel hev (zeros_flat (w := w) (wr := WR m loc wr0) hzc hzl h1 len) hx
    have hxl : xs.length = len := by
      have : ∀ {parts : List (Nat × PV)} {xs l : List (List CV)}, fillE te.size xs parts = some l → l.length = xs.length := by
        intro parts
        induction parts with
        | nil => intro xs l h; cases h; rfl
        | cons y r ih =>
          intro xs l h
          obtain ⟨cs, _, h⟩ := onO_eq_some h
          split at h
          · rw [ih h]; simp
          · cases h
      rw [this hx]; simp
    have hvs : vs.size = len * te.size := by have := hf.1; rw [hxl] at this; simpa using this
    have hfill : Instr.fill (fun i => some (i * te.size, te.size)) (madeCells z.cells (len * te.size)) (parts.toList.map fun x => (x.1, ρ x.2)) = some vs := by
      rw [← hv]
    refine done_value (v := .slice (some ⟨w.heap.size, 0, none⟩) len len) (w' := w.alloc (.cells vs el)) ?_ ?_
    · by_cases hl0 : len = 0
      · subst hl0
        have hmm : madeCells z.cells (0 * te.size) = #[] := by simp [madeCells]
        rw [hmm] at hfill
        have hr0 : Array.map (fun _ : Nat => (default : Value)) (Array.range 0) = #[] := by simp
        simp [execOp, ho, Instr.buildSlice, run_underlying hut, sizeOf, typeInfo, hi, hsz, zeroValue, hz, newRow, hr0, hfill]
      · unfold madeCells at hfill
        have hne : ¬ len * te.size = 0 := fun e => by rcases Nat.mul_eq_zero.1 e with e | e <;> contradiction
        simp [execOp, ho, Instr.buildSlice, run_underlying hut, sizeOf, typeInfo, hi, hsz, zeroValue, hz, newRow, hbig, hne, hfill]
    · have := grow_vec (more := []) hM hd (below_alloc w _) (heap_alloc_new w (.cells vs el)) (xs := xs) (sz := te.size) (cap := len) (by omega) (by
          have : len ≤ len * te.size := Nat.le_mul_of_pos_right _ (Nat.pos_of_ne_zero hs0)
          simp [maxLen]; omega) hf.2.1 hvs (fun j i x p hx hp => by
        obtain ⟨u, a, b⟩ := hf.2.2 j i x p hx hp
        exact ⟨u, by simpa using a, b⟩) (fun _ _ x hx => ⟨x, hx, .inl rfl⟩) []
      rw [hxl] at this
      exact this
end
end Go.PM
