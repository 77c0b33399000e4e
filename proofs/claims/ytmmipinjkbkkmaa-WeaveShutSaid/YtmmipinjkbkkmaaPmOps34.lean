/- Operations of the pure machine that build values, and those that make or write memory. -/
import Derived.Test.YtmmipinjkbkkmaaPmOps2
set_option linter.unusedSimpArgs false
set_option linter.unusedVariables false
set_option linter.unusedSectionVars false
set_option linter.unnecessarySimpa false
namespace Go.PM
open Go.RowKit (Below)
variable {P : Program} {T : Tab} {w w0 : World} {wr lent wr0 : Nat → Prop} {loc : Locs} {m : Mem}

/-- Cells. -/
def CellsRel (w : World) (wr : Nat → Prop) (loc : Locs) (ps : List PV) (us : List Value) : Prop :=
  us.length = ps.length ∧ ∀ (i : Nat) (p : PV) (u : Value), ps[i]? = some p → us[i]? = some u → u.oneCell' = true ∧ RelL w wr loc p u

theorem CellsRel.one {ps : List PV} {us : List Value} (h : CellsRel w wr loc ps us) : ∀ u ∈ us, u.oneCell' = true := by
  intro u hu
  obtain ⟨i, hi⟩ := List.mem_iff_getElem?.1 hu
  have hlt := (List.getElem?_eq_some_iff.1 hi).1
  exact (h.2 i _ u (List.getElem?_eq_getElem (by rw [← h.1]; exact hlt)) hi).1

theorem oneCell_of_rel {p : PV} {v : Value} (hp : p.okCell = true) (h : RelL w wr loc p v) : v.oneCell' = true := by
  cases p with
  | undef => cases hp
  | c x =>
    cases x with
    | lit u => rw [relL_lit h]; exact hp
    | z => have h : RelC w wr .z v := h; cases h; rfl
    | e b => have h : RelC w wr (.e b) v := h; cases h; rfl
    | ro sz xs => have h : RelC w wr (.ro sz xs) v := h; cases h; rfl
  | agg cs => cases hp
  | tup cs => cases hp
  | fresh k sz xs => cases hp
  | own id off len => obtain ⟨A, c, rfl, _⟩ := h; rfl
  | bsl id off sz len => obtain ⟨A, c, rfl, _⟩ := h; rfl
  | ptr id off => obtain ⟨_, rfl⟩ := h; rfl
  | eptr id i off => obtain ⟨_, rfl⟩ := h; rfl
  | roptr cs => obtain ⟨a, us, rfl, _⟩ := h; rfl
  | clo f caps => obtain ⟨vs, rfl, _⟩ := h; rfl

theorem cells_one {v : Value} (h : v.oneCell' = true) : v.cells = #[v] := by
  cases v <;> first | rfl | cases h

theorem cells_rel {p : PV} {v : Value} (h : RelV w wr loc p v) (hok : p.cells.all PV.okCell = true) : CellsRel w wr loc p.cells v.cells.toList := by
  have key : ∀ q : PV, q.cells = [q] → RelL w wr loc q v → q.okCell = true → CellsRel w wr loc q.cells v.cells.toList := by
    intro q hq hr ho
    have h1 := oneCell_of_rel ho hr
    rw [hq, cells_one h1]
    refine ⟨rfl, fun i p u hp hu => ?_⟩
    cases i with
    | zero => cases hp; cases hu; exact ⟨h1, hr⟩
    | succ i => cases hp
  cases p with
  | agg cs =>
    obtain ⟨us, rfl, hl, hu⟩ := h
    exact ⟨by simpa [Value.cells, PV.cells] using hl, fun i p u hp hu' => hu i p u hp (by simpa [Value.cells] using hu')⟩
  | tup cs => simp [PV.cells, PV.okCell] at hok
  | undef => simp [PV.cells, PV.okCell] at hok
  | fresh k sz xs => simp [PV.cells, PV.okCell] at hok
  | _ => exact key _ rfl h (by simpa [PV.cells] using hok)

theorem length_put {α : Type} (l : List α) (off : Nat) (vs : List α) (h : off + vs.length ≤ l.length) : (put l off vs).length = l.length := by
  simp [put]; omega
theorem get_put {α : Type} (l : List α) (off : Nat) (vs : List α) (h : off + vs.length ≤ l.length) (i : Nat) : (put l off vs)[i]? = if i < off then l[i]? else if i < off + vs.length then vs[i - off]? else l[i]? := by
  unfold put
  rw [List.append_assoc, List.getElem?_append]
  have hl : (l.take off).length = off := by simp; omega
  rw [hl]
  split
  · rw [List.getElem?_take, if_pos ‹_›]
  · rw [List.getElem?_append]
    by_cases hi : i < off + vs.length
    · rw [if_pos (by omega), if_pos hi]
    · rw [if_neg (by omega), if_neg hi, List.getElem?_drop]
      congr 1; omega

theorem put_rel {ps qs : List PV} {us vs : List Value} {off : Nat} (h : CellsRel w wr loc ps us) (k : CellsRel w wr loc qs vs) (hle : off + qs.length ≤ ps.length) : CellsRel w wr loc (put ps off qs) (put us off vs) := by
  have hle' : off + vs.length ≤ us.length := by rw [h.1, k.1]; exact hle
  refine ⟨by rw [length_put _ _ _ hle, length_put _ _ _ hle', h.1], fun i p u hp hu => ?_⟩
  rw [get_put _ _ _ hle] at hp
  rw [get_put _ _ _ hle', k.1] at hu
  split at hp
  · rename_i hi
    rw [if_pos hi] at hu
    exact h.2 i p u hp hu
  · rename_i hi
    rw [if_neg hi] at hu
    split at hp
    · rename_i hi2
      rw [if_pos hi2] at hu
      exact k.2 _ p u hp hu
    · rename_i hi2
      rw [if_neg hi2] at hu
      exact h.2 i p u hp hu

theorem foldl_put : ∀ (vs : List Value) (k off : Nat) (cells : Array Value), off + k + vs.length ≤ cells.size →
    ((vs.zipIdx k).foldl (fun cs (x : Value × Nat) => cs.setIfInBounds (off + x.2) x.1) cells).toList = put cells.toList (off + k) vs
  | [], k, off, cells, _ => by simp [put]
  | v :: vs, k, off, cells, h => by
    simp only [List.zipIdx_cons, List.foldl_cons]
    rw [foldl_put vs (k + 1) off (cells.setIfInBounds (off + k) v) (by simp at h ⊢; omega)]
    apply List.ext_getElem?
    intro i
    rw [get_put _ _ _ (by simp at h ⊢; omega), get_put _ _ _ (by simp at h ⊢; omega)]
    simp only [Array.getElem?_toList, Array.getElem?_setIfInBounds, List.length_cons]
    simp at h
    by_cases h1 : i < off + k
    · rw [if_pos h1, if_pos (by omega), if_neg (by omega)]
    · rw [if_neg h1]
      by_cases h2 : i = off + k
      · subst h2
        rw [if_pos (by omega), if_pos rfl, if_pos (by omega), if_pos (by omega)]
        simp
      · rw [if_neg (by omega)]
        by_cases h3 : i < off + (k + 1) + vs.length
        · rw [if_pos h3, if_pos (by omega)]
          obtain ⟨n, rfl⟩ : ∃ n, i = off + k + (n + 1) := ⟨i - (off + k) - 1, by omega⟩
          rw [show off + k + (n + 1) - (off + (k + 1)) = n by omega, show off + k + (n + 1) - (off + k) = n + 1 by omega]
          rfl
        · rw [if_neg h3, if_neg (by omega), if_neg (by omega)]

theorem fill_cons {place : Nat → Option (Nat × Nat)} {cells : Array Value} {i off size : Nat} {v : Value} {rest : List (Nat × Value)} (hp : place i = some (off, size)) (h1 : v.cells.size = size) (h2 : off + v.cells.size ≤ cells.size) :
    Instr.fill place cells ((i, v) :: rest) = Instr.fill place (put cells.toList off v.cells.toList).toArray rest := by
  have hf := foldl_put v.cells.toList 0 off cells (by simpa using h2)
  have hf' : (v.cells.zipIdx.foldl (fun cs (x : Value × Nat) => cs.setIfInBounds (off + x.2) x.1) cells) = (put cells.toList off v.cells.toList).toArray := by
    apply Array.ext'
    rw [List.toList_toArray, ← Nat.add_zero off, ← hf, ← Array.foldl_toList]
    simp
  simp only [Instr.fill, hp]
  rw [if_neg (by simp [h1]; omega)]
  exact congrArg (fun x => Instr.fill place x rest) hf'

section
variable {ev : Operand → PV} {ρ : Operand → Value} (hev : EvOk w wr loc ev ρ)
include hev

theorem fillB_rel {fs : List (Nat × Nat)} {place : Nat → Option (Nat × Nat)} (hpl : ∀ (i o n : Nat), fs[i]? = some (o, n) → place i = some (o, n)) : ∀ {parts : List (Nat × Operand)} {cs l : List PV} {us : List Value}, CellsRel w wr loc cs us → fillB fs cs (parts.map fun x => (x.1, ev x.2)) = some l →
    ∃ vs, Instr.fill place us.toArray (parts.map fun x => (x.1, ρ x.2)) = some vs ∧ CellsRel w wr loc l vs.toList
  | [], cs, l, us, h, hf => by
    cases hf
    exact ⟨us.toArray, rfl, by simpa using h⟩
  | (i, x) :: parts, cs, l, us, h, hf => by
    obtain ⟨⟨o, n⟩, hy, hf⟩ := onO_eq_some hf
    simp only [] at hf
    split at hf
    · rename_i hc
      have hr := cells_rel (hev x) hc.2.2
      obtain ⟨hc1, hc2, hc3⟩ := hc
      subst hc1
      obtain ⟨vs, hv, hrel⟩ := fillB_rel hpl (put_rel h hr hc2) hf
      refine ⟨vs, ?_, hrel⟩
      simp only [List.map_cons]
      rw [fill_cons (hpl _ _ _ hy) (by have := hr.1; simp at this; omega) (by have h1 := hr.1; have h2 := h.1; simp at h1 ⊢; omega)]
      exact hv
    · cases hf

theorem zero_rel {z : List Value} (h1 : ∀ v ∈ z, v.oneCell' = true) : CellsRel w wr loc (z.map litP) z := by
  refine ⟨by simp, fun i p u hp hu => ?_⟩
  simp only [List.getElem?_map, Option.map_eq_some_iff] at hp
  obtain ⟨u', hu', rfl⟩ := hp
  rw [hu] at hu'; cases hu'
  exact ⟨h1 u (List.mem_of_getElem? hu), RelC.lit u⟩

omit hev in
theorem mapM_places {f : Field → Nat × Nat} : ∀ {l : List Field} , (∀ x ∈ l, ∃ j, P.info? x.type = some j ∧ f x = (x.offset, j.size)) →
    (l.mapM fun x : Field => Prod.mk x.offset <$> sizeOf x.type).run P w = .ok (l.map f) w
  | [], _ => by simp
  | x :: l, h => by
    obtain ⟨j, hj, hf⟩ := h x (by simp)
    have ih := mapM_places (l := l) fun y hy => h y (by simp [hy])
    have h1 : (Prod.mk x.offset <$> sizeOf x.type).run P w = .ok (f x) w := by simp [sizeOf, typeInfo, hj, hf]
    simp only [List.mapM_cons, Sem.run_bind, h1, Result.andThen_ok, ih]
    rfl

theorem q_build (hT : TabOk P T) {o : Oper} {t : TypeId} {parts : Array (Nat × Operand)} {ti : TI} {fs : List (Nat × Nat)} {l : List PV} (ho : o.op = .build t parts) (ht : T.get t = some ti) (hfs : ti.kind.fields = some fs)
    (h : fillB fs (ti.zero.map litP) (parts.toList.map fun x => (x.1, ev x.2)) = some l) : Quiet P w wr loc ρ o (.agg l) := by
  obtain ⟨fields, hu, hlen, hall⟩ := fields_ok hT ht hfs
  obtain ⟨i, hi, hsz, _, ⟨z, hz, hzc⟩, _, h1, _⟩ := hT.ok t ti ht
  let f : Field → Nat × Nat := fun x => (x.offset, ((P.info? x.type).map (·.size)).getD 0)
  have hm := mapM_places (P := P) (w := w) (f := f) (l := fields.toList) fun x hx => by
    obtain ⟨k, hk⟩ := List.mem_iff_getElem?.1 hx
    have hk' : k < fs.length := by have := (List.getElem?_eq_some_iff.1 hk).1; simp at this; omega
    obtain ⟨fd, j', h1, h2, h3, h4, _⟩ := hall k (fs[k]).1 (fs[k]).2 (List.getElem?_eq_getElem hk')
    rw [Array.getElem?_toList] at hk
    rw [hk] at h1; cases h1
    exact ⟨j', h3, by simp [f, h3]⟩
  have hpl : ∀ (i o n : Nat), fs[i]? = some (o, n) → (fields.toList.map f).toArray[i]? = some (o, n) := by
    intro k o n hk
    obtain ⟨fd, j', h1, h2, h3, h4, _⟩ := hall k o n hk
    simp [h1, f, h2, h3, h4]
  obtain ⟨vs, hv, hrel⟩ := fillB_rel hev (place := ((fields.toList.map f).toArray[·]?)) hpl (zero_rel (w := w) (wr := wr) (loc := loc) hev h1) h
  have hzz : z.cells = ti.zero.toArray := by rw [← hzc]
  refine ⟨.agg vs, ?_, vs.toList, by simp, hrel.1, hrel.2⟩
  have hm' : (fields.mapM fun x : Field => Prod.mk x.offset <$> sizeOf x.type).run P w = .ok (fields.toList.map f).toArray w := by
    rw [Array.mapM_eq_mapM_toList]
    simp only [Sem.run_map, hm]
    rfl
  simp only [execOp, ho, Instr.build, Sem.run_bind, zeroValue, typeInfo, run_underlying hu]
  simp at hv
  simp [hi, hz, hm', hzz, hv]
end
end Go.PM

/- Operations of the pure machine that make memory of their own. -/
namespace Go.PM
open Go.RowKit (Below)
variable {P : Program} {T : Tab} {w w0 : World} {wr lent wr0 : Nat → Prop} {loc : Locs} {m : Mem}

def updM : List (Key × Option MC) → Mem → Mem
  | [], m => m
  | (k, v) :: r, m => fun t => if k = t then v else updM r m t

theorem updM_lookM : ∀ (r : List (Key × Option MC)) (l : List (Key × Option MC)), lookM (r ++ l) = updM r (lookM l)
  | [], l => rfl
  | (k, v) :: r, l => by
    funext t
    simp only [List.cons_append, lookM, updM, updM_lookM r l]

theorem updM_box (m : Mem) (d : Nat) : ∀ (ps : List PV) (off id j : Nat), updM (wrBox d off ps) m (id, j) = if id = d ∧ off ≤ j ∧ j < off + ps.length then (ps[j - off]?).map .cell else m (id, j)
  | [], off, id, j => by
    simp only [wrBox, updM, List.length_nil]
    rw [if_neg (by omega)]
  | p :: r, off, id, j => by
    simp only [wrBox, updM]
    split
    · rename_i h
      obtain ⟨h1, h2⟩ := Prod.mk.inj h
      rw [if_pos (by simp; omega)]
      subst h2
      simp
    · rename_i h
      rw [updM_box m d r (off + 1) id j]
      by_cases hc : id = d ∧ off ≤ j ∧ j < off + (p :: r).length
      · have hj : j ≠ off := fun e => h (by rw [e, hc.1])
        rw [if_pos (by simp at hc ⊢; omega), if_pos hc]
        obtain ⟨n, rfl⟩ : ∃ n, j = off + (n + 1) := ⟨j - off - 1, by omega⟩
        rw [show off + (n + 1) - off = n + 1 by omega, show off + (n + 1) - (off + 1) = n by omega]
        rfl
      · rw [if_neg hc, if_neg (by simp at hc ⊢; omega)]

/-- Nothing that is there leads to the block. -/
def Free (m : Mem) (d : Nat) : Prop := (∀ j, m (d, j) = none) ∧ ∀ id j p, m (id, j) = some (.cell p) → d ∉ p.refs

def setL (loc : Locs) (d : Nat) (L : Loc) : Locs := fun id => if id = d then L else loc id
theorem setL_same (loc : Locs) (d : Nat) (L : Loc) : setL loc d L d = L := by simp [setL]
theorem setL_other (loc : Locs) {d id : Nat} (L : Loc) (h : id ≠ d) : setL loc d L id = loc id := by simp [setL, h]

theorem MInv.grow1 (h : MInv w0 lent wr0 m loc w) {d : Nat} (hd : Free m d) {w' : World} (hb : Below w.heap.size w w') {L : Loc} (hL : L.here = true → w.heap.size ≤ L.g ∧ L.g < w'.heap.size) {m' : Mem} (hold : ∀ id j x, m' (id, j) = some x → id ≠ d → ∃ y, m (id, j) = some y ∧ Tame y x)
    (hex : ∀ b sz xs j x, m' (d, 0) = some (.vec b sz xs) → m' (d, j) = some x → j = 0)
    (hnew : Later w w' (WR m loc wr0) (WR m' (setL loc d L) wr0) → ∀ j x, m' (d, j) = some x → MRel w' (WR m' (setL loc d L) wr0) (setL loc d L) d j x) :
    MInv w0 lent wr0 m' (setL loc d L) w' ∧ Later w w' (WR m loc wr0) (WR m' (setL loc d L) wr0) := by
  refine h.grow hb (· = d) hold (fun id hn => setL_other _ _ hn) (fun id j p hp r hr e => hd.2 id j p hp (e ▸ hr)) (fun id j x _ hid hh => ?_) (fun id j x id' j' x' _ _ e e' _ _ _ => by rw [e, e']) (fun id b sz xs j x hv hx e => by subst e; exact hex b sz xs j x hv hx) (fun L' id j x hx hid => ?_)
  · subst hid
    rw [setL_same] at hh ⊢
    exact hL hh
  · subst hid
    exact hnew L' j x hx

/-- What an operation has come to. -/
def OpOut (w0 : World) (lent wr0 : Nat → Prop) (m : Mem) (loc : Locs) (w : World) (e : Eff) (v : Value) (w' : World) : Prop :=
  ∃ loc', MInv w0 lent wr0 (updM e.wr m) loc' w' ∧ Later w w' (WR m loc wr0) (WR (updM e.wr m) loc' wr0) ∧ RelV w' (WR (updM e.wr m) loc' wr0) loc' e.val v ∧ ∀ id, id ∉ e.new → loc' id = loc id
def OpDone (P : Program) (ρ : Operand → Value) (o : Oper) (w : World) (R : Value → World → Prop) : Prop :=
  ∀ (a : Act) (next : Act → World → Prop) (Q : Exit → Act → World → Prop), a.eval = ρ → (∀ v w', R v w' → next (a.put o.dst v) w') → o.wp P a w next Q

theorem done_value {ρ : Operand → Value} {o : Oper} {R : Value → World → Prop} {v : Value} {w' : World} (h : (execOp ρ o).run P w = .ok (.value v) w') (hR : R v w') : OpDone P ρ o w R := by
  intro a next Q ha hn
  unfold Oper.wp
  rw [ha, h]
  exact hn _ _ hR
theorem done_skip {ρ : Operand → Value} {o : Oper} {R : Value → World → Prop} {w' : World} (h : (execOp ρ o).run P w = .ok .skip w') (hR : R undef w') : OpDone P ρ o w R := by
  intro a next Q ha hn
  unfold Oper.wp
  rw [ha, h]
  exact hn _ _ hR
theorem done_quiet {ρ : Operand → Value} {o : Oper} {p : PV} {rd : List Key} (hM : MInv w0 lent wr0 m loc w) (h : Quiet P w (WR m loc wr0) loc ρ o p) : OpDone P ρ o w (OpOut w0 lent wr0 m loc w ⟨p, [], [], rd⟩) := by
  obtain ⟨v, hr, hp⟩ := h
  exact done_value hr ⟨loc, hM, ⟨Nat.le_refl _, fun _ _ _ => rfl, fun _ _ hw => hw⟩, hp, fun _ _ => rfl⟩

theorem heap_alloc_new (w : World) (o : Obj) : (w.alloc o).heap[w.heap.size]? = some o := by
  show (w.heap.push o)[w.heap.size]? = some o
  simp
theorem below_alloc (w : World) (o : Obj) : Below w.heap.size w (w.alloc o) := (Below.refl _ _).alloc (Nat.le_refl _) o

/-- A new variable. -/
theorem grow_box (h : MInv w0 lent wr0 m loc w) {d : Nat} (hd : Free m d) {ps : List PV} {us : List Value} (hrel : CellsRel w (WR m loc wr0) loc ps us) (hps : ∀ p ∈ ps, d ∉ p.refs) (T : TypeId) (rd : List Key) :
    OpOut w0 lent wr0 m loc w ⟨.ptr d 0, wrBox d 0 ps, [d], rd⟩ (.pointer (some ⟨w.heap.size, 0, none⟩)) (w.alloc (.cells us.toArray T)) := by
  have hn := heap_alloc_new w (.cells us.toArray T)
  have hbox : ∀ id j, updM (wrBox d 0 ps) m (id, j) = if id = d ∧ j < ps.length then (ps[j]?).map .cell else m (id, j) := fun id j => by
    rw [updM_box]; simp
  obtain ⟨h1, h2⟩ := h.grow1 (m' := updM (wrBox d 0 ps) m) (L := ⟨w.heap.size, 0, 0, true⟩) hd (below_alloc w (.cells us.toArray T)) (fun _ => by simp) (fun id j x hx hne => by rw [hbox, if_neg (by simp [hne])] at hx; exact ⟨x, hx, .inl rfl⟩) (fun b sz xs j x hv _ => by
    rw [hbox] at hv
    split at hv
    · simp only [Option.map_eq_some_iff] at hv
      obtain ⟨_, _, h⟩ := hv
      cases h
    · rw [hd.1] at hv; cases hv) (fun L j x hx => by
    rw [hbox] at hx
    split at hx
    · rename_i hj
      simp only [Option.map_eq_some_iff] at hx
      obtain ⟨p, hp, rfl⟩ := hx
      have hu : us[j]? = some (us[j]'(by rw [hrel.1]; exact hj.2)) := List.getElem?_eq_getElem _
      obtain ⟨h1, h2⟩ := hrel.2 j p _ hp hu
      refine ⟨by rw [setL_same], us.toArray, T, _, by rw [setL_same]; exact hn, by simpa using hu, h1, h2.later L fun r hr => setL_other _ _ fun e => hps p (List.mem_of_getElem? hp) (e ▸ hr)⟩
    · rw [hd.1] at hx; cases hx)
  exact ⟨_, h1, h2, ⟨by rw [setL_same], by rw [setL_same]⟩, fun id hid => setL_other _ _ fun e => hid (by simp [e])⟩

/-- A new row. -/
theorem grow_vec (h : MInv w0 lent wr0 m loc w) {d : Nat} (hd : Free m d) {w' : World} (hb : Below w.heap.size w w') {sz cap : Nat} {xs : List (List CV)} {arr : Array Value} {T : TypeId} (hn : w'.heap[w.heap.size]? = some (.cells arr T (0, 0)))
    (hcap : xs.length ≤ cap) (hmax : cap ≤ maxLen) (hsz : ∀ (j : Nat) (x : List CV), xs[j]? = some x → x.length = sz) (harr : arr.size = cap * sz)
    (hrel : ∀ (j i : Nat) (x : List CV) (p : CV), xs[j]? = some x → x[i]? = some p → ∃ u, arr[j * sz + i]? = some u ∧ u.oneCell' = true ∧ RelC w (WR m loc wr0) p u)
    {more : List (Key × Option MC)} (hmore : ∀ id j x, updM more m (id, j) = some x → ∃ y, m (id, j) = some y ∧ Tame y x) (rd : List Key) :
    OpOut w0 lent wr0 m loc w ⟨.own d 0 xs.length, ((d, 0), some (.vec true sz xs)) :: more, [d], rd⟩ (.slice (some ⟨w.heap.size, 0, none⟩) xs.length cap) w' := by
  have hlt : w.heap.size < w'.heap.size := (Array.getElem?_eq_some_iff.1 hn).1
  have hup : ∀ id j x, updM (((d, 0), some (.vec true sz xs)) :: more) m (id, j) = some x → (id = d ∧ j = 0 ∧ x = .vec true sz xs) ∨ ∃ y, m (id, j) = some y ∧ Tame y x := fun id j x hx => by
    simp only [updM] at hx
    split at hx
    · rename_i he
      obtain ⟨e1, e2⟩ := Prod.mk.inj he
      cases hx
      exact .inl ⟨e1.symm, e2.symm, rfl⟩
    · exact .inr (hmore id j x hx)
  obtain ⟨h1, h2⟩ := h.grow1 (m' := updM (((d, 0), some (.vec true sz xs)) :: more) m) (L := ⟨w.heap.size, cap, sz, true⟩) hd hb (fun _ => ⟨Nat.le_refl _, hlt⟩) (fun id j x hx hne => by
    rcases hup id j x hx with ⟨e, _⟩ | e
    · exact absurd e hne
    · exact e) (fun b sz' xs' j x _ hx => by
    rcases hup d j x hx with ⟨_, e, _⟩ | ⟨y, e, _⟩
    · exact e
    · rw [hd.1] at e; cases e) (fun L j x hx => by
    rcases hup d j x hx with ⟨_, rfl, rfl⟩ | ⟨y, e, _⟩
    · refine ⟨rfl, by rw [setL_same], by rw [setL_same]; exact hcap, by rw [setL_same]; exact hmax, hsz, fun _ => ⟨by rw [setL_same], arr, T, by rw [setL_same]; exact hn, by rw [setL_same]; exact harr, fun j i x p hx hp => ?_⟩⟩
      obtain ⟨u, h1, h2, h3⟩ := hrel j i x p hx hp
      exact ⟨u, h1, h2, h3.later L⟩
    · rw [hd.1] at e; cases e)
  refine ⟨_, h1, h2, ⟨some ⟨w.heap.size, 0, none⟩, cap, rfl, hcap, by rw [setL_same]; simp, fun _ => ⟨by rw [setL_same], by rw [setL_same]; simp⟩⟩, fun id hid => setL_other _ _ fun e => hid (by simp [e])⟩

section
variable {ev : Operand → PV} {ρ : Operand → Value} (hev : EvOk w (WR m loc wr0) loc ev ρ)

theorem o_alloc (hT : TabOk P T) (hM : MInv w0 lent wr0 m loc w) {o : Oper} {t : TypeId} {ti : TI} {d : Nat} (hd : Free m d) (ho : o.op = .alloc t) (ht : T.get t = some ti) :
    OpDone P ρ o w (OpOut w0 lent wr0 m loc w ⟨.ptr d 0, wrBox d 0 (ti.zero.map litP), [d], []⟩) := by
  obtain ⟨i, hi, hsz, _, ⟨z, hz, hzc⟩, _, h1, _⟩ := hT.ok t ti ht
  have hr : CellsRel w (WR m loc wr0) loc (ti.zero.map litP) ti.zero := by
    refine ⟨by simp, fun i p u hp hu => ?_⟩
    simp only [List.getElem?_map, Option.map_eq_some_iff] at hp
    obtain ⟨u', hu', rfl⟩ := hp
    rw [hu] at hu'; cases hu'
    exact ⟨h1 u (List.mem_of_getElem? hu), RelC.lit u⟩
  refine done_value ?_ (grow_box hM hd hr (fun p hp => ?_) t [])
  · have hzz : z.cells = ti.zero.toArray := by rw [← hzc]
    simp [execOp, ho, Instr.alloc, zeroValue, typeInfo, hi, hz, newVar, newRow, hzz]
  · simp only [List.mem_map] at hp
    obtain ⟨u, _, rfl⟩ := hp
    simp [litP, PV.refs]

include hev
theorem cells_refs {p q : PV} (h : q ∈ p.cells) {r : Nat} (hr : r ∈ q.refs) : r ∈ p.refs := by
  cases p with
  | agg cs => simp only [PV.refs]; exact refsL_mem h hr
  | _ =>
    simp only [PV.cells, List.mem_singleton] at h
    subst h
    exact hr

theorem o_box (hM : MInv w0 lent wr0 m loc w) {o : Oper} {t : TypeId} {x : Operand} {d : Nat} {e : Eff} (hd : Free m d) (hcl : d ∉ (ev x).refs) (ho : o.op = .box t x) (h : boxRes d (ev x) = some e) :
    OpDone P ρ o w (OpOut w0 lent wr0 m loc w e) := by
  unfold boxRes at h
  split at h
  · rename_i hok
    cases h
    have hr := cells_rel (hev x) hok
    refine done_value ?_ (grow_box hM hd hr (fun p hp hc => hcl (cells_refs hev hp hc)) t [])
    simp [execOp, ho, Instr.box, newVar, newRow]
  · cases h
end
end Go.PM
