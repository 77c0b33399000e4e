/- A table of types, row by row. -/
import Derived.Test.YtmmipinjkbkkmaaPmFuns
set_option linter.unusedSimpArgs false
set_option linter.unusedVariables false
set_option linter.unusedSectionVars false
set_option linter.unnecessarySimpa false
namespace Go.PM
variable {P : Program}

structure RowOk (P : Program) (T : Tab) (t : TypeId) (ti : TI) : Prop where
  ok : ∃ i, P.info? t = some i ∧ i.size = ti.size ∧ i.bytes = ti.bytes ∧ (∃ z, i.zero = some z ∧ z.cells.toList = ti.zero) ∧ ti.zero.length = ti.size ∧ (∀ v ∈ ti.zero, v.oneCell' = true) ∧ KindOk P T t i ti
  eq : ti.eq = true → P.eqGuardType P.depth t = false ∧ ∀ (w : World) (xs ys : List Value) (b : Bool), eqCells (xs.map litP) (ys.map litP) = some b → xs.length = ti.size → ys.length = ti.size → (Op.equalIn 10000 t (.agg xs.toArray) (.agg ys.toArray)).run P w = .ok b w

theorem get_mem : ∀ {T : Tab} {t : TypeId} {ti : TI}, T.get t = some ti → (t, ti) ∈ T
  | [], t, ti, h => by cases h
  | (k, v) :: r, t, ti, h => by
    simp only [Tab.get] at h
    split at h
    · rename_i e; subst e; cases h; simp
    · exact List.mem_cons_of_mem _ (get_mem h)
theorem tab_ok {T : Tab} (h : ∀ x ∈ T, RowOk P T x.1 x.2) : TabOk P T :=
  ⟨fun t ti ht => (h _ (get_mem ht)).ok, fun t ti ht => (h _ (get_mem ht)).eq⟩

theorem lit_cell {v : Value} {p : PV} (h : litP v = p) : p = .c (.lit v) := h.symm
theorem eqCell_ints {x y : Value} {b : Bool} (h : eqCell (litP x) (litP y) = some b) : ∃ k m n, x = .int k m ∧ y = .int k n ∧ b = (m == n) := by
  unfold eqCell litP at h
  split at h
  · rename_i k a k' b' e1 e2
    cases e1; cases e2
    split at h
    · rename_i hk
      subst hk
      cases h
      exact ⟨_, _, _, rfl, rfl, rfl⟩
    · cases h
  · cases h

/-- A struct of whole numbers alone. -/
theorem eq_ints {t : TypeId} {fields : Array Field} (hu : P.underlying t = some (.struct (P.fieldsOf t))) (hf : P.fieldsOf t = fields) (hp : P.stoodInHeld t = false) (hall : ∀ (i : Nat) (f : Field), fields[i]? = some f → f.name ≠ "_" ∧ f.offset = i ∧ ∃ k, P.underlying f.type = some (.int k)) (w : World) (xs ys : List Value) (b : Bool)
    (h : eqCells (xs.map litP) (ys.map litP) = some b) (hx : xs.length = fields.size) (hy : ys.length = fields.size) : (Op.equalIn 10000 t (.agg xs.toArray) (.agg ys.toArray)).run P w = .ok b w := by
  rw [run_equalIn_struct w 9999 t xs.toArray ys.toArray hu hp, hf]
  have key : ∀ (fs : List Field) (o : Nat) (b : Bool), (∀ i f, fs[i]? = some f → fields[o + i]? = some f) → o + fs.length = fields.size → eqCells ((xs.drop o).map litP) ((ys.drop o).map litP) = some b → (Op.eqFields 9999 xs.toArray ys.toArray fs).run P w = .ok b w := by
    intro fs
    induction fs with
    | nil =>
      intro o b _ ho hb
      have h1 : xs.drop o = [] := List.drop_eq_nil_of_le (by simp at ho; omega)
      have h2 : ys.drop o = [] := List.drop_eq_nil_of_le (by simp at ho; omega)
      rw [h1, h2] at hb
      cases hb
      rfl
    | cons f fs ih =>
      intro o b hfs ho hb
      have hlt : o < fields.size := by simp at ho; omega
      obtain ⟨hn, hoff, k, hk⟩ := hall (o + 0) f (hfs 0 f rfl)
      have hx1 : xs.drop o = xs[o]'(by omega) :: xs.drop (o + 1) := List.drop_eq_getElem_cons _
      have hy1 : ys.drop o = ys[o]'(by omega) :: ys.drop (o + 1) := List.drop_eq_getElem_cons _
      rw [hx1, hy1] at hb
      simp only [List.map_cons, eqCells] at hb
      obtain ⟨b1, hb1, hb⟩ := onO_eq_some hb
      obtain ⟨b2, hb2, hb⟩ := onO_eq_some hb
      obtain ⟨k', m, n, ex, ey, rfl⟩ := eqCell_ints hb1
      have ih' := ih (o + 1) b2 (fun i f hi => by
        have := hfs (i + 1) f hi
        rwa [show o + (i + 1) = o + 1 + i by omega] at this) (by simp at ho; omega) hb2
      have hagg : (isAgg f.type).run P w = .ok false w := by simp [isAgg, run_underlying hk]
      have hgx : xs[o]? = some (.int k' m) := by rw [List.getElem?_eq_getElem (by omega), ex]
      have hgy : ys[o]? = some (.int k' n) := by rw [List.getElem?_eq_getElem (by omega), ey]
      have hpx : (part f.type xs.toArray f.offset).run P w = .ok (.int k' m) w := by
        simp [part, hagg, hoff, hgx]
      have hpy : (part f.type ys.toArray f.offset).run P w = .ok (.int k' n) w := by
        simp [part, hagg, hoff, hgy]
      have hq := run_equalIn_int (P := P) w 9998 f.type k' k m n hk
      simp only [Op.eqFields, if_pos hn, Sem.run_bind, hpx, hpy, Result.andThen_ok, hq, Sem.run_ite]
      cases hmn : (m == n)
      · rw [hmn] at hb
        simp at hb
        simp [← hb]
      · rw [hmn] at hb
        simp at hb
        simp [← hb, ih']
  exact key fields.toList 0 b (fun i f hi => by simpa using hi) (by simp) (by simpa using h)
end Go.PM
