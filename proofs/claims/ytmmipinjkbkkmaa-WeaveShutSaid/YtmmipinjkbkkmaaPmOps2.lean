/- Operations of the pure machine that read memory, and those that build. -/
import Derived.Test.YtmmipinjkbkkmaaPmOps
import Derived.Laws.CopyRow
import Derived.Deep.AppendSrc
set_option linter.unusedSimpArgs false
set_option linter.unusedVariables false
set_option linter.unusedSectionVars false
set_option linter.unnecessarySimpa false
namespace Go.PM
open Go.RowKit (Below)
variable {P : Program} {T : Tab} {w w0 : World} {wr lent wr0 : Nat → Prop} {loc : Locs} {m : Mem}

theorem exists_list {α : Type} {Q : Nat → α → Prop} : ∀ n, (∀ j, j < n → ∃ u, Q j u) → ∃ us : List α, us.length = n ∧ ∀ j u, us[j]? = some u → Q j u
  | 0, _ => ⟨[], rfl, fun j u h => by cases h⟩
  | n + 1, h => by
    obtain ⟨us, hl, hu⟩ := exists_list (Q := Q) n (fun j hj => h j (by omega))
    obtain ⟨u, hq⟩ := h n (by omega)
    refine ⟨us ++ [u], by simp [hl], fun j v hv => ?_⟩
    rw [List.getElem?_append] at hv
    split at hv
    · exact hu j v hv
    · have hj : j - us.length = 0 := by
        have := (List.getElem?_eq_some_iff.1 hv).1
        simp at this; exact this
      rw [hj] at hv
      cases hv
      have : j = n := by omega
      exact this ▸ hq

theorem boxC_spec : ∀ {n off : Nat} {l : List PV} {id : Nat}, boxC m id off n = some l → l.length = n ∧ ∀ (j : Nat) (q : PV), l[j]? = some q → m (id, off + j) = some (.cell q)
  | 0, off, l, id, h => by cases h; exact ⟨rfl, fun j q hq => by cases hq⟩
  | n + 1, off, l, id, h => by
    obtain ⟨p, hp, h⟩ := onO_eq_some h
    obtain ⟨x, hx, hp⟩ := onO_eq_some hp
    obtain ⟨r, hr, h⟩ := onO_eq_some h
    cases h
    obtain ⟨h1, h2⟩ := boxC_spec hr
    refine ⟨by simp [h1], fun j q hq => ?_⟩
    cases j with
    | zero =>
      cases hq
      unfold MC.asCell at hp
      split at hp
      · cases hp; exact hx
      · cases hp
    | succ j => rw [show off + (j + 1) = off + 1 + j by omega]; exact h2 j q hq

theorem cell_of_heap {g o : Nat} {arr : Array Value} {T : TypeId} {fz : Nat × Nat} {u : Value} (h : w.heap[g]? = some (.cells arr T fz)) (hu : arr[o]? = some u) : w.cell? ⟨g, o, none⟩ = some u := by
  simp [World.cell?, h, hu]

theorem loadC_rel (hM : MInv w0 lent wr0 m loc w) {p : PV} {n : Nat} {l : List PV} {v : Value} (hv : RelV w (WR m loc wr0) loc p v) (h : loadC m p n = some l) :
    ∃ (a : Addr) (us : List Value), v = .pointer (some a) ∧ l.length = n ∧ us.length = n ∧ (∀ j u, us[j]? = some u → w.cell? (a.add j) = some u) ∧ ∀ (j : Nat) (q : PV) (u : Value), l[j]? = some q → us[j]? = some u → u.oneCell' = true ∧ RelL w (WR m loc wr0) loc q u := by
  unfold loadC at h
  split at h
  · rename_i id off
    obtain ⟨hh, rfl⟩ := hv
    obtain ⟨hl, hb⟩ := boxC_spec h
    obtain ⟨us, hul, hus⟩ := exists_list (Q := fun j u => w.cell? ((⟨(loc id).g, off, none⟩ : Addr).add j) = some u ∧ ∀ q, l[j]? = some q → u.oneCell' = true ∧ RelL w (WR m loc wr0) loc q u) n (fun j hj => by
      have hq : l[j]? = some l[j] := List.getElem?_eq_getElem _
      obtain ⟨_, arr, T, u, h1, h2, h3, h4⟩ := hM.mem id _ _ (hb j _ hq)
      refine ⟨u, by rw [add_mk]; exact cell_of_heap h1 h2, fun q hq' => ?_⟩
      rw [hq] at hq'; cases hq'
      exact ⟨h3, h4⟩)
    exact ⟨_, us, rfl, hl, hul, fun j u hu => (hus j u hu).1, fun j q u hq hu => (hus j u hu).2 q hq⟩
  · rename_i id i off
    obtain ⟨hh, rfl⟩ := hv
    obtain ⟨⟨sz, xs⟩, hvec, h⟩ := onO_eq_some h
    split at h
    · rename_i hle
      obtain ⟨el, hel, h⟩ := onO_eq_some h
      cases h
      obtain ⟨_, h1, h2, h3, h4, h5⟩ := vecC_mem hM hvec
      have hlt := (List.getElem?_eq_some_iff.1 hel).1
      simp only [] at hel hle hlt h2 h1
      obtain ⟨_, arr, T, a1, a2, a3⟩ := h5 (by omega)
      have hlen := h4 _ _ hel
      obtain ⟨us, hul, hus⟩ := exists_list (Q := fun j u => w.cell? ((⟨(loc id).g, i * (loc id).sz + off, none⟩ : Addr).add j) = some u ∧ ∀ q, el[off + j]? = some q → u.oneCell' = true ∧ RelC w (WR m loc wr0) q u) n (fun j hj => by
        have hq : el[off + j]? = some el[off + j] := List.getElem?_eq_getElem _
        obtain ⟨u, b1, b2, b3⟩ := a3 i _ el _ hel hq
        refine ⟨u, by rw [add_mk, h1, Nat.add_assoc]; exact cell_of_heap a1 b1, fun q hq' => ?_⟩
        rw [hq] at hq'; cases hq'
        exact ⟨b2, b3⟩)
      refine ⟨_, us, rfl, by simp; omega, hul, fun j u hu => (hus j u hu).1, fun j q u hq hu => ?_⟩
      have hj : j < n := by have := (List.getElem?_eq_some_iff.1 hu).1; omega
      simp only [List.getElem?_map, drop_take_get _ _ _ _ hj, Option.map_eq_some_iff] at hq
      obtain ⟨x, hx, rfl⟩ := hq
      exact (hus j u hu).2 x hx
    · cases h
  · rename_i cs
    split at h
    · rename_i hle
      cases h
      obtain ⟨a, us, rfl, h2, h3, h4, h5, h6⟩ := hv
      refine ⟨a, (List.range n).map us, rfl, by simp; omega, by simp, fun j u hu => ?_, fun j q u hq hu => ?_⟩
      · have hj : j < n := by have := (List.getElem?_eq_some_iff.1 hu).1; simpa using this
        simp [hj] at hu
        exact hu ▸ h4 j (by omega)
      · have hj : j < n := by have := (List.getElem?_eq_some_iff.1 hu).1; simpa using this
        simp [hj] at hu
        simp only [List.getElem?_map, List.getElem?_take, if_pos hj, Option.map_eq_some_iff] at hq
        obtain ⟨x, hx, rfl⟩ := hq
        subst hu
        exact ⟨h5 j, h6 j x hx⟩
    · cases h
  · cases h

theorem agg_ok {t : TypeId} {ti : TI} (hT : TabOk P T) (h : T.get t = some ti) : (isAgg t).run P w = .ok ti.kind.agg w := by
  obtain ⟨i, hi, _, _, _, _, _, hk⟩ := hT.ok t ti h
  unfold KindOk at hk
  unfold TK.agg
  split at hk
  · rename_i e
    obtain ⟨d, hd, h1, h2, _⟩ := hk
    rw [e]
    simp only [isAgg, Sem.run_bind, run_underlying hd, Result.andThen_ok]
    cases d <;> first | rfl | exact absurd rfl (h1 _) | exact absurd rfl (h2 _ _)
  · rename_i e; rw [e]; simp [isAgg, run_underlying hk.1]
  · rename_i e; rw [e]; simp [isAgg, run_underlying hk.1]
  · rename_i e
    obtain ⟨d, hd, _⟩ := hk
    rw [e]; simp [isAgg, run_underlying hd]
  · rename_i e; rw [e]; simp [isAgg, run_underlying hk]
  · rename_i e; rw [e]; simp [isAgg, run_underlying hk.1]

section
variable {ev : Operand → PV} {ρ : Operand → Value} (hev : EvOk w (WR m loc wr0) loc ev ρ)
include hev

theorem q_load (hT : TabOk P T) (hM : MInv w0 lent wr0 m loc w) {o : Oper} {t : TypeId} {a : Operand} {ti : TI} {e : Eff} (ho : o.op = .load t a) (ht : T.get t = some ti) (h : loadRes m ti (ev a) = some e) :
    ∃ p r, e = ⟨p, [], [], r⟩ ∧ Quiet P w (WR m loc wr0) loc ρ o p := by
  obtain ⟨i, hi, hsz, _⟩ := hT.ok t ti ht
  have hagg := agg_ok (w := w) hT ht
  unfold loadRes at h
  split at h
  · rename_i ha
    obtain ⟨l, hl, h⟩ := onO_eq_some h
    cases h
    obtain ⟨ad, us, hv, h1, h2, h3, h4⟩ := loadC_rel hM (hev a) hl
    refine ⟨_, _, rfl, .agg us.toArray, ?_, us, rfl, by omega, h4⟩
    have hr := run_loadCells_list (P := P) w ad us h3
    rw [h2] at hr
    simp [execOp, ho, Instr.loadAt, hv, Instr.sureAddr, loadVar, hagg, ha, sizeOf, typeInfo, hi, hsz, hr]
  · rename_i ha
    obtain ⟨p, hp, h⟩ := onO_eq_some h
    obtain ⟨l, hl, hp⟩ := onO_eq_some hp
    cases h
    have hl1 : l = [p] := by
      unfold one at hp
      split at hp
      · cases hp; rfl
      · cases hp
    subst hl1
    obtain ⟨ad, us, hv, h1, h2, h3, h4⟩ := loadC_rel hM (hev a) hl
    match us, h2 with
    | [u], _ =>
      refine ⟨_, _, rfl, u, ?_, ?_⟩
      · have hc : w.cell? ad = some u := by simpa [Addr.add] using h3 0 u rfl
        simp [execOp, ho, Instr.loadAt, hv, Instr.sureAddr, loadVar, hagg, ha, hc]
      · have := (h4 0 p u rfl rfl).2
        cases p <;> first | exact this | exact this.elim

theorem lenOf_rel {x : Operand} {n : Nat} (h : lenOf (ev x) = some n) : ∃ A c, ρ x = .slice A n c := by
  have hx := hev x
  generalize ev x = p at h hx
  unfold lenOf at h
  split at h
  · cases h
    obtain ⟨A, c, e, _⟩ := hx
    exact ⟨A, c, e⟩
  · cases h
    obtain ⟨A, c, e, _⟩ := hx
    exact ⟨A, c, e⟩
  · cases h
    have hx : RelC w _ _ _ := hx
    generalize ρ x = v at hx
    cases hx
    exact ⟨_, _, rfl⟩
  · cases h
    have hx : RelC w _ _ _ := hx
    generalize ρ x = v at hx
    cases hx
    exact ⟨_, _, rfl⟩
  · cases h
    have hx : RelC w _ _ _ := hx
    generalize ρ x = v at hx
    cases hx
    exact ⟨_, _, rfl⟩
  · cases h
    exact ⟨_, _, rel_lit hx⟩
  · cases h

/-- What a builtin's arguments are. -/
theorem q_len {o : Oper} {x : Operand} {t : TypeId} {e : TypeId} {n : Nat} {us : Array TypeId} (hu : P.underlying t = some (.slice e)) (ho : o.op = .call ⟨.builtin .len, #[x], us⟩) (hus : us[0]? = some t) (h : lenOf (ev x) = some n) :
    Quiet P w (WR m loc wr0) loc ρ o (.c (.lit (.int .i64 (n : Nat)))) := by
  obtain ⟨A, c, e⟩ := lenOf_rel hev h
  exact ⟨_, by simp [execOp, ho, resolve, invoke, builtin, Builtin.len_, hus, e, run_underlying hu, goInt], rel_mk _⟩

theorem q_best {o : Oper} {big : Bool} {x y : Operand} {us : Array TypeId} {p : PV} (ho : o.op = .call ⟨.builtin (if big = true then .max else .min), #[x, y], us⟩) (h : bestOf big (ev x) (ev y) = some p) :
    Quiet P w (WR m loc wr0) loc ρ o p := by
  unfold bestOf at h
  split at h
  · rename_i k a k' b hx hy
    split at h
    · rename_i hk
      subst hk
      cases h
      have e1 := ev_lit hev hx
      have e2 := ev_lit hev hy
      cases big
      · exact ⟨_, by simp [execOp, ho, resolve, invoke, builtin, Builtin.min_, Builtin.min2, e1, e2], rel_mk _⟩
      · exact ⟨_, by simp [execOp, ho, resolve, invoke, builtin, Builtin.max_, Builtin.max2, e1, e2], rel_mk _⟩
    · cases h
  · cases h

theorem q_func {o : Oper} {f : FuncId} {first captured : Array Operand} {p : PV} (ho : o.op = .makeFunc (.func f) first captured) (hf : first.size = 0) (h : funcRes f (captured.toList.map ev) = some p) : Quiet P w (WR m loc wr0) loc ρ o p := by
  obtain rfl : first = #[] := Array.size_eq_zero_iff.1 hf
  unfold funcRes at h
  split at h
  · rename_i e
    cases h
    have : captured = #[] := by
      apply Array.ext'
      simpa using e
    subst this
    exact ⟨_, by simp [execOp, ho, Instr.makeFunc], rel_mk _⟩
  · split at h
    · rename_i hall
      cases h
      refine ⟨.func (.func f) #[] (captured.map ρ), by simp [execOp, ho, Instr.makeFunc], captured.toList.map ρ, by congr 1; apply Array.ext'; simp, by simp, fun i p u hp hu => ?_⟩
      simp only [List.getElem?_map, Option.map_eq_some_iff] at hp hu
      obtain ⟨x, hx, rfl⟩ := hp
      obtain ⟨x', hx', rfl⟩ := hu
      rw [hx] at hx'; cases hx'
      have h1 := List.all_eq_true.1 hall (ev x) (List.mem_map.2 ⟨x, List.mem_of_getElem? hx, rfl⟩)
      have h2 := hev x
      generalize ev x = q at h1 h2
      unfold PV.isPtr at h1
      split at h1
      · exact ⟨_, _, rfl, h2⟩
      · cases h1
    · cases h
end
end Go.PM
