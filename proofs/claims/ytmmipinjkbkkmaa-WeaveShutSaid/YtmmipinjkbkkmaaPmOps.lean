/- Each operation of the pure machine is the machine's own: those that write nothing. -/
import Derived.Test.YtmmipinjkbkkmaaPmRel
import Derived.Laws.Cells
import Derived.Laws.StructEq
import Derived.Lib.SliceRun
set_option linter.unusedSimpArgs false
set_option linter.unusedVariables false
set_option linter.unusedSectionVars false
set_option linter.unnecessarySimpa false
namespace Go.PM
open Go.RowKit (Below)

/-- What is asked of the table of types. -/
def KindOk (P : Program) (_T : Tab) (t : TypeId) (i : TypeInfo) (ti : TI) : Prop := match ti.kind with
  | .leaf => ∃ d, P.underlying t = some d ∧ (∀ f, d ≠ .struct f) ∧ (∀ n e, d ≠ .array n e) ∧ i.size = 1
  | .bool => P.underlying t = some .bool ∧ i.size = 1
  | .int k => P.underlying t = some (.int k) ∧ i.size = 1
  | .strct fs => ∃ fields, P.underlying t = some (.struct fields) ∧ fields.size = fs.length ∧ ∀ (j : Nat) (o n : Nat), fs[j]? = some (o, n) → ∃ f j', fields[j]? = some f ∧ f.offset = o ∧ P.info? f.type = some j' ∧ j'.size = n ∧ n ≠ 0 ∧
      ∃ d, P.underlying f.type = some d ∧ ((n != 1) = match d with | .struct _ => true | .array _ _ => true | _ => false)
  | .arr n e => P.underlying t = some (.array n e)
  | .slice e => P.underlying t = some (.slice e) ∧ i.size = 1
structure TabOk (P : Program) (T : Tab) : Prop where
  ok : ∀ t ti, T.get t = some ti → ∃ i, P.info? t = some i ∧ i.size = ti.size ∧ i.bytes = ti.bytes ∧ (∃ z, i.zero = some z ∧ z.cells.toList = ti.zero) ∧ ti.zero.length = ti.size ∧ (∀ v ∈ ti.zero, v.oneCell' = true) ∧ KindOk P T t i ti
  eq : ∀ t ti, T.get t = some ti → ti.eq = true → P.eqGuardType P.depth t = false ∧ ∀ (w : World) (xs ys : List Value) (b : Bool), eqCells (xs.map litP) (ys.map litP) = some b → xs.length = ti.size → ys.length = ti.size → (Op.equalIn 10000 t (.agg xs.toArray) (.agg ys.toArray)).run P w = .ok b w

variable {P : Program} {T : Tab} {w : World} {wr : Nat → Prop} {loc : Locs}

theorem onO_eq_some {α β : Type} {o : Option α} {f : α → Option β} {b : β} (h : onO o f = some b) : ∃ a, o = some a ∧ f a = some b := by
  cases o with
  | none => cases h
  | some a => exact ⟨a, rfl, h⟩
theorem ofO_eq_some {p : Option PV} {e : Eff} (h : ofO p = some e) : ∃ v, p = some v ∧ e = .v v := by
  obtain ⟨v, hv, he⟩ := onO_eq_some h
  exact ⟨v, hv, (Option.some.inj he).symm⟩

theorem rel_lit {v u : Value} (h : RelV w wr loc (.c (.lit u)) v) : v = u := by
  have h : RelC w wr (.lit u) v := h
  cases h; rfl
theorem rel_mk (u : Value) : RelV w wr loc (.c (.lit u)) u := RelC.lit u
theorem relL_lit {v u : Value} (h : RelL w wr loc (.c (.lit u)) v) : v = u := by
  have h : RelC w wr (.lit u) v := h
  cases h; rfl

def EvOk (w : World) (wr : Nat → Prop) (loc : Locs) (ev : Operand → PV) (ρ : Operand → Value) : Prop := ∀ x, RelV w wr loc (ev x) (ρ x)

theorem evOk_of {sl : Nat → PV} {a : Act} (h : SInv w wr loc sl fun t => a.tmps.getD t undef) : EvOk w wr loc (evOf sl) a.eval := by
  intro x
  cases x with
  | tmp t => exact h t
  | const v =>
    show RelV w wr loc (constPV v) v
    unfold constPV
    split
    · rename_i cs
      split
      · rename_i hall
        refine ⟨cs.toList, by simp, by simp, fun i p u hp hu => ?_⟩
        simp only [List.getElem?_map, Option.map_eq_some_iff] at hp
        obtain ⟨u', hu', rfl⟩ := hp
        rw [hu] at hu'
        cases hu'
        exact ⟨List.all_eq_true.1 hall u (List.mem_of_getElem? hu), RelC.lit u⟩
      · trivial
    · exact rel_mk v
  | global g => trivial
  | func f => exact rel_mk _

theorem intRes_run {op : BinOp} {k : IntKind} {a b : Int} {v : Value} {t : TypeId} (h : intRes op k a b = some v) : (binOp op t (.int k a) (.int k b)).run P w = .ok v w := by
  cases op <;> simp only [intRes] at h <;> try cases h
  all_goals first
    | (simp [binOp, Op.intArith, Op.intCmp]; done)
    | skip
  all_goals
    split at h
    · cases h
    · rename_i hb
      cases h
      simp [binOp, Op.intDiv, hb]


theorem boolRes_run {op : BinOp} {t : TypeId} {a b : Bool} {v : Value} (ht : P.underlying t = some .bool) (h : boolRes op a b = some v) : (binOp op t (.bool a) (.bool b)).run P w = .ok v w := by
  cases op <;> simp only [boolRes] at h <;> try cases h
  all_goals simp [binOp, Op.equal, Op.maxDepth, run_equalIn_bool' w 9999 t a b ht]

theorem eqGuard_slice {op : BinOp} {t : TypeId} {x y : Operand} {A B : Option Addr} {n c n' c' : Nat} : (eqGuard op t x y (.slice A n c) (.slice B n' c')).run P w = .ok () w := by
  unfold eqGuard
  cases op <;> simp
theorem isNilP_some {p : PV} (h : isNilP p = true) : p = .c (.lit (.slice none 0 0)) := by
  unfold isNilP at h
  split at h
  · rfl
  · cases h
theorem eqGuard_int {op : BinOp} {t : TypeId} {x y : Operand} {k k' : IntKind} {a b : Int} : (eqGuard op t x y (.int k a) (.int k' b)).run P w = .ok () w := by
  unfold eqGuard
  cases op <;> simp
theorem eqGuard_bool {op : BinOp} {t : TypeId} {x y : Operand} {a b : Bool} : (eqGuard op t x y (.bool a) (.bool b)).run P w = .ok () w := by
  unfold eqGuard
  cases op <;> simp

theorem agg_rel {p : PV} {cs : List PV} {v : Value} (e : p = .agg cs) (h : RelV w wr loc p v) : ∃ us : List Value, v = .agg us.toArray ∧ us.length = cs.length ∧ ∀ (i : Nat) (p : PV) (u : Value), cs[i]? = some p → us[i]? = some u → u.oneCell' = true ∧ RelL w wr loc p u := by
  subst e; exact h

/-- Cells that are compared are plain: the values are just these. -/
theorem eqCells_lits : ∀ {xs ys : List PV} {b : Bool} {us vs : List Value}, eqCells xs ys = some b → us.length = xs.length → vs.length = ys.length →
    (∀ (i : Nat) (p : PV) (u : Value), xs[i]? = some p → us[i]? = some u → u.oneCell' = true ∧ RelL w wr loc p u) → (∀ (i : Nat) (p : PV) (u : Value), ys[i]? = some p → vs[i]? = some u → u.oneCell' = true ∧ RelL w wr loc p u) →
    eqCells (us.map litP) (vs.map litP) = some b
  | [], [], b, us, vs, h, hu, hv, _, _ => by
    cases us <;> cases vs <;> simp_all
  | [], y :: ys, b, us, vs, h, _, _, _, _ => by cases h
  | x :: xs, [], b, us, vs, h, _, _, _, _ => by cases h
  | x :: xs, y :: ys, b, us, vs, h, hu, hv, ru, rv => by
    cases us with
    | nil => simp at hu
    | cons u us =>
      cases vs with
      | nil => simp at hv
      | cons v vs =>
        obtain ⟨t, ht, h⟩ := onO_eq_some h
        obtain ⟨t', ht', h⟩ := onO_eq_some h
        have ih := eqCells_lits ht' (by simpa using hu) (by simpa using hv) (fun i p z hp hz => ru (i + 1) p z (by simpa using hp) (by simpa using hz)) (fun i p z hp hz => rv (i + 1) p z (by simpa using hp) (by simpa using hz))
        have hx : litP u = x := by
          have := (ru 0 x u rfl rfl).2
          unfold eqCell at ht
          split at ht
          · rw [relL_lit this]; rfl
          · cases ht
        have hy : litP v = y := by
          have := (rv 0 y v rfl rfl).2
          unfold eqCell at ht
          split at ht
          · rw [relL_lit this]; rfl
          · cases ht
        simp only [List.map_cons, eqCells, hx, hy, ht, ih, onO]
        exact h

theorem eqCells_length : ∀ {xs ys : List PV} {b : Bool}, eqCells xs ys = some b → xs.length = ys.length
  | [], [], _, _ => rfl
  | [], _ :: _, _, h => by cases h
  | _ :: _, [], _, h => by cases h
  | x :: xs, y :: ys, b, h => by
    obtain ⟨t, ht, h⟩ := onO_eq_some h
    obtain ⟨t', ht', h⟩ := onO_eq_some h
    simp [eqCells_length ht']

section
variable {ev : Operand → PV} {ρ : Operand → Value} (hev : EvOk w wr loc ev ρ)
include hev

theorem ev_lit {x : Operand} {u : Value} (h : ev x = .c (.lit u)) : ρ x = u := rel_lit (h ▸ hev x)

/-- An operation that writes nothing: it has just this value. -/
def Quiet (P : Program) (w : World) (wr : Nat → Prop) (loc : Locs) (ρ : Operand → Value) (o : Oper) (p : PV) : Prop := ∃ v, (execOp ρ o).run P w = .ok (.value v) w ∧ RelV w wr loc p v

theorem q_move {o : Oper} {x : Operand} (ho : o.op = .move x ∨ o.op = .assign x) : Quiet P w wr loc ρ o (ev x) := by
  rcases ho with ho | ho <;> exact ⟨ρ x, by simp [execOp, ho], hev x⟩

theorem asBool_rel {x : Operand} {b : Bool} (h : (ev x).asBool = some b) : ρ x = .bool b := by
  have h2 : ev x = .c (.lit (.bool b)) := by
    generalize ev x = p at h
    unfold PV.asBool at h
    split at h
    · cases h; rfl
    · cases h
  exact ev_lit hev h2

theorem q_pick {o : Oper} {c a b : Operand} {p : PV} (ho : o.op = .pick c a b) (h : pickRes (ev c) (ev a) (ev b) = some p) : Quiet P w wr loc ρ o p := by
  obtain ⟨t, ht, hp⟩ := onO_eq_some h
  cases hp
  have hc := asBool_rel hev ht
  refine ⟨if t = true then ρ a else ρ b, by simp [execOp, ho, hc, asBool], ?_⟩
  cases t
  · exact hev b
  · exact hev a

theorem q_un {o : Oper} {op : UnOp} {t : TypeId} {x : Operand} {p : PV} (ho : o.op = .unOp op t x) (h : unRes op (ev x) = some p) : Quiet P w wr loc ρ o p := by
  generalize hx : ev x = q at h
  unfold unRes at h
  split at h
  · cases h
    exact ⟨_, by simp [execOp, ho, ev_lit hev hx, Op.unary], rel_mk _⟩
  · cases h
    exact ⟨_, by simp [execOp, ho, ev_lit hev hx, Op.unary, Op.intArith], rel_mk _⟩
  · cases h

theorem q_nilEff (hT : TabOk P T) {o : Oper} {op : BinOp} {t u : TypeId} {x y : Operand} {e : Eff} {b : Bool} (ho : o.op = .binOp op t x y u) (h : nilEff T op t b (ev y) = some e) (hx : ∃ A n c, ρ x = .slice A n c ∧ A.isNone = b) : ∃ p, e = .v p ∧ Quiet P w wr loc ρ o p := by
  unfold nilEff at h
  by_cases hc : op = .eql ∧ isNilP (ev y) = true
  · rw [if_pos hc] at h
    obtain ⟨rfl, hn⟩ := hc
    obtain ⟨ti, hti, h⟩ := onO_eq_some h
    obtain ⟨el, hk, h⟩ := onO_eq_some h
    cases h
    refine ⟨_, rfl, ?_⟩
    have hy := ev_lit hev (isNilP_some hn)
    obtain ⟨A, n, c, e1, e2⟩ := hx
    obtain ⟨i, _, _, _, _, _, _, hkind⟩ := hT.ok t ti hti
    have hu : P.underlying t = some (.slice el) := by
      unfold TK.elem at hk
      split at hk
      · rename_i e; cases hk; unfold KindOk at hkind; rw [e] at hkind; exact hkind.1
      · cases hk
    have hr := Go.Lib.run_eql_slice_nil (P := P) w t el A n c 0 0 hu
    rw [e2] at hr
    exact ⟨.bool b, by simp [execOp, ho, e1, hy, eqGuard_slice, hr], rel_mk _⟩
  · rw [if_neg hc] at h; cases h
theorem q_bin (hT : TabOk P T) {o : Oper} {op : BinOp} {t u : TypeId} {x y : Operand} {e : Eff} (ho : o.op = .binOp op t x y u) (h : binEff T op t (ev x) (ev y) = some e) : ∃ p, e = .v p ∧ Quiet P w wr loc ρ o p := by
  unfold binEff at h
  split at h
  · rename_i cs hx
    obtain ⟨ti, hti, h⟩ := onO_eq_some h
    split at h
    · rename_i heq
      obtain ⟨heq, hl⟩ := heq
      obtain ⟨p, hp, rfl⟩ := ofO_eq_some h
      refine ⟨p, rfl, ?_⟩
      rw [hx] at hp
      unfold aggEq at hp
      split at hp
      · rename_i xs ys hxs hys
        cases hxs
        obtain ⟨b, hbb, hp⟩ := onO_eq_some hp
        obtain ⟨us, eu, hul, hu⟩ := agg_rel hx (hev x)
        obtain ⟨vs, ev', hvl, hv⟩ := agg_rel hys (hev y)
        have hlit := eqCells_lits hbb hul hvl hu hv
        have hsz : us.length = ti.size := hul.trans hl
        have hlen := eqCells_length hbb
        obtain ⟨hg, hrun⟩ := hT.eq t ti hti heq
        have hr := hrun w us vs b hlit hsz (by omega)
        have hguard := run_eqGuard_agg (P := P) w op t x y us.toArray vs.toArray hg
        unfold aggRes at hp
        split at hp
        · cases hp
          exact ⟨.bool b, by simp [execOp, ho, eu, ev', hguard, run_eql_struct, hr], rel_mk _⟩
        · cases hp
          exact ⟨.bool (!b), by simp [execOp, ho, eu, ev', hguard, run_neq_struct, hr], rel_mk _⟩
        · cases hp
      · cases hp
    · cases h
  · rename_i a hx
    obtain ⟨ti, hti, h⟩ := onO_eq_some h
    obtain ⟨_, hk, h⟩ := onO_eq_some h
    obtain ⟨p, hp, rfl⟩ := ofO_eq_some h
    refine ⟨p, rfl, ?_⟩
    obtain ⟨i, _, _, _, _, _, _, hkind⟩ := hT.ok t ti hti
    have hbool : P.underlying t = some .bool := by
      unfold TK.isBool at hk
      split at hk
      · rename_i e; unfold KindOk at hkind; rw [e] at hkind; exact hkind.1
      · cases hk
    rw [hx] at hp
    generalize hy : ev y = q at hp
    unfold binRes at hp
    split at hp
    · rename_i e; cases e
    · rename_i a' b e
      cases e
      obtain ⟨v, hv, hp⟩ := onO_eq_some hp
      cases hp
      refine ⟨v, ?_, rel_mk _⟩
      simp [execOp, ho, ev_lit hev hx, ev_lit hev hy, eqGuard_bool, boolRes_run hbool hv]
    · cases hp
  · rename_i b hx
    refine q_nilEff hev hT ho h ?_
    have hr := hev x
    rw [hx] at hr
    have hr : RelC w wr (.e b) (ρ x) := hr
    generalize ρ x = v at hr
    cases hr
    exact ⟨_, _, _, rfl, rfl⟩
  · rename_i sz x0 r0 hx
    refine q_nilEff hev hT ho h ?_
    have hr := hev x
    rw [hx] at hr
    have hr : RelC w wr (.ro sz (x0 :: r0)) (ρ x) := hr
    generalize ρ x = v at hr
    cases hr with
    | ro _ _ A c us hc hs hA h1 hu =>
      obtain ⟨a, rfl, _⟩ := hA (by simp)
      exact ⟨_, _, _, rfl, rfl⟩
  · rename_i hna hnb _ _
    obtain ⟨p, hp, rfl⟩ := ofO_eq_some h
    refine ⟨p, rfl, ?_⟩
    unfold binRes at hp
    split at hp
    · rename_i k a k' b hx hy
      split at hp
      · rename_i hk
        subst hk
        obtain ⟨v, hv, hp⟩ := onO_eq_some hp
        cases hp
        refine ⟨v, ?_, rel_mk _⟩
        simp [execOp, ho, ev_lit hev hx, ev_lit hev hy, eqGuard_int, intRes_run hv]
      · cases hp
    · rename_i a b hx hy
      exact absurd hx (hnb a)
    · cases hp


end
theorem underlying_some {t : TypeId} {ti : TI} (hT : TabOk P T) (h : T.get t = some ti) : (P.underlying t).isSome = true := by
  obtain ⟨i, _, _, _, _, _, _, hk⟩ := hT.ok t ti h
  unfold KindOk at hk
  split at hk
  · obtain ⟨d, h, _⟩ := hk; simp [h]
  · simp [hk.1]
  · simp [hk.1]
  · obtain ⟨d, h, _⟩ := hk; simp [h]
  · simp [hk]
  · simp [hk.1]
theorem intK_ok {t : TypeId} {ti : TI} {k : IntKind} (hT : TabOk P T) (h : T.get t = some ti) (hk : ti.kind.intK = some k) : P.underlying t = some (.int k) := by
  obtain ⟨i, _, _, _, _, _, _, hkind⟩ := hT.ok t ti h
  unfold TK.intK at hk
  split at hk
  · rename_i e; cases hk; unfold KindOk at hkind; rw [e] at hkind; exact hkind.1
  · cases hk
theorem fields_ok {t : TypeId} {ti : TI} {fs : List (Nat × Nat)} (hT : TabOk P T) (h : T.get t = some ti) (hk : ti.kind.fields = some fs) : ∃ fields, P.underlying t = some (.struct fields) ∧ fields.size = fs.length ∧ ∀ (j : Nat) (o n : Nat), fs[j]? = some (o, n) → ∃ f j', fields[j]? = some f ∧ f.offset = o ∧ P.info? f.type = some j' ∧ j'.size = n ∧ n ≠ 0 ∧
      ∃ d, P.underlying f.type = some d ∧ ((n != 1) = match d with | .struct _ => true | .array _ _ => true | _ => false) := by
  obtain ⟨i, _, _, _, _, _, _, hkind⟩ := hT.ok t ti h
  unfold TK.fields at hk
  split at hk
  · rename_i e; cases hk; unfold KindOk at hkind; rw [e] at hkind; exact hkind
  · cases hk
theorem elem_ok {t : TypeId} {ti : TI} {e : TypeId} (hT : TabOk P T) (h : T.get t = some ti) (hk : ti.kind.elem = some e) : P.underlying t = some (.slice e) := by
  obtain ⟨i, _, _, _, _, _, _, hkind⟩ := hT.ok t ti h
  unfold TK.elem at hk
  split at hk
  · rename_i e; cases hk; unfold KindOk at hkind; rw [e] at hkind; exact hkind.1
  · cases hk

section
variable {ev : Operand → PV} {ρ : Operand → Value} (hev : EvOk w wr loc ev ρ)
include hev

theorem q_conv (hT : TabOk P T) {o : Oper} {s t : TypeId} {x : Operand} {k0 k : IntKind} {si ti : TI} {p : PV} (ho : o.op = .convert s t x) (hs : T.get s = some si) (_hs0 : si.kind.intK = some k0) (ht : T.get t = some ti) (hk : ti.kind.intK = some k)
    (h : convRes k (ev x) = some p) : Quiet P w wr loc ρ o p := by
  unfold convRes at h
  split at h
  · rename_i k1 n hx
    cases h
    have h1 := intK_ok hT hs _hs0
    have h2 := intK_ok hT ht hk
    refine ⟨.int k (k.wrap n), ?_, rel_mk _⟩
    simp [execOp, ho, ev_lit hev hx, convert, run_underlying h1, run_underlying h2, Conv.intToInt]
  · cases h

theorem q_nil {o : Oper} {x : Operand} {p : PV} (ho : o.op = .nilCheck x) (h : nilRes (ev x) = some p) : Quiet P w wr loc ρ o p := by
  have hx := hev x
  unfold nilRes at h
  split at h
  · rename_i id off e
    cases h
    rw [e] at hx
    obtain ⟨h1, h2⟩ := hx
    exact ⟨_, by simp [execOp, ho, h2], h1, rfl⟩
  · rename_i id i off e
    cases h
    rw [e] at hx
    obtain ⟨h1, h2⟩ := hx
    exact ⟨_, by simp [execOp, ho, h2], h1, rfl⟩
  · rename_i cs e
    cases h
    rw [e] at hx
    obtain ⟨a, us, h1, h2⟩ := hx
    exact ⟨_, by simp [execOp, ho, h1], a, us, rfl, h2⟩
  · cases h

end
theorem add_add (a : Addr) (h : a.spot = none) (m n : Nat) : (a.add m).add n = a.add (m + n) := by
  unfold Addr.add
  by_cases hm : m = 0 <;> by_cases hn : n = 0 <;> simp [hm, hn]
  omega
theorem add_mk (g o n : Nat) : (⟨g, o, none⟩ : Addr).add n = ⟨g, o + n, none⟩ := by
  unfold Addr.add; split <;> simp_all
theorem cell_spot {a : Addr} {v : Value} (h : w.cell? a = some v) : a.spot = none := by
  unfold World.cell? at h
  split at h
  · split at h
    · cases h
    · simpa using ‹¬ a.spot.isSome = true›
  · cases h
theorem add_spot {a : Addr} {n : Nat} (h : (a.add n).spot = none) : n = 0 → a.spot = none := by
  intro e; subst e; simpa [Addr.add] using h

theorem fieldPV_rel {p q : PV} {o : Nat} {v : Value} (h : RelV w wr loc p v) (hq : fieldPV o p = some q) : ∃ a : Addr, v = .pointer (some a) ∧ RelV w wr loc q (.pointer (some (a.add o))) := by
  unfold fieldPV at hq
  split at hq
  · cases hq
    obtain ⟨h1, h2⟩ := h
    exact ⟨_, h2, h1, by rw [add_mk]⟩
  · cases hq
    obtain ⟨h1, h2⟩ := h
    exact ⟨_, h2, h1, by rw [add_mk, Nat.add_assoc]⟩
  · rename_i cs
    split at hq
    · rename_i hle
      cases hq
      obtain ⟨a, us, h1, h2, h3, h4, h5, h6⟩ := h
      refine ⟨a, h1, a.add o, fun i => us (o + i), rfl, by rw [add_block]; exact h2, by rw [add_block]; exact h3, fun i hi => ?_, fun i => h5 _, fun i p hp => h6 (o + i) p (by simpa [List.getElem?_drop] using hp)⟩
      have hi' : o + i < cs.length := by simp at hi; omega
      have hs : a.spot = none := add_spot (cell_spot (h4 0 (by omega))) rfl
      rw [add_add a hs]
      exact h4 _ hi'
    · cases hq
  · cases hq

section
variable {ev : Operand → PV} {ρ : Operand → Value} (hev : EvOk w wr loc ev ρ)
include hev

theorem q_fieldAddr (hT : TabOk P T) {o : Oper} {t : TypeId} {x : Operand} {f : Nat} {ti : TI} {p : PV} (ho : o.op = .fieldAddr t x f) (ht : T.get t = some ti) (h : fieldAddrRes ti (ev x) f = some p) : Quiet P w wr loc ρ o p := by
  obtain ⟨fs, hfs, h⟩ := onO_eq_some h
  obtain ⟨⟨fo, fn⟩, hf, h⟩ := onO_eq_some h
  obtain ⟨fields, hu, _, hall⟩ := fields_ok hT ht hfs
  obtain ⟨fd, j', h1, h2, h3, h4, h5, _⟩ := hall f fo fn hf
  obtain ⟨a, e, hr⟩ := fieldPV_rel (hev x) h
  refine ⟨_, ?_, hr⟩
  simp [execOp, ho, Instr.fieldAt, run_underlying hu, h1, e, Instr.sureAddr, fieldPlace, sizeOf, typeInfo, h3, h4, h5, h2]

omit hev in
theorem drop_take_get {α : Type} (l : List α) (o n i : Nat) (hi : i < n) : ((l.drop o).take n)[i]? = l[o + i]? := by
  rw [List.getElem?_take, if_pos hi, List.getElem?_drop]

theorem q_field (hT : TabOk P T) {o : Oper} {t : TypeId} {x : Operand} {f : Nat} {ti : TI} {fs : List (Nat × Nat)} {y : Nat × Nat} {p : PV} (ho : o.op = .field t x f) (ht : T.get t = some ti) (hfs : ti.kind.fields = some fs) (hy : fs[f]? = some y)
    (h : partRes (y.2 != 1) y.1 y.2 (ev x) = some p) : Quiet P w wr loc ρ o p := by
  obtain ⟨fo, fn⟩ := y
  obtain ⟨fields, hu, _, hall⟩ := fields_ok hT ht hfs
  obtain ⟨fd, j', h1, h2, h3, h4, h5, d, hd, hagg⟩ := hall f fo fn hy
  generalize hx : ev x = q at h
  unfold partRes at h
  split at h
  · rename_i cs
    obtain ⟨us, eu, hlen, hus⟩ := agg_rel hx (hev x)
    have hisagg : (isAgg fd.type).run P w = .ok (fn != 1) w := by
      simp only [isAgg, Sem.run_bind, run_underlying hd, Result.andThen_ok, hagg]
      cases d <;> simp
    split at h
    · rename_i ha
      split at h
      · rename_i hle
        cases h
        refine ⟨.agg ((us.drop fo).take fn).toArray, ?_, (us.drop fo).take fn, rfl, by simp; omega, fun i p u hp hu => ?_⟩
        · simp only [] at ha hle
          have : (us.toArray.extract fo (fo + fn)) = ((us.drop fo).take fn).toArray := by
            simp
          simp [execOp, ho, Instr.field, run_underlying hu, h1, eu, asAgg, part, hisagg, ha, sizeOf, typeInfo, h3, h4, h2]
        · have hi : i < fn := by
            have := (List.getElem?_eq_some_iff.1 hp).1
            simp at this; omega
          rw [drop_take_get _ _ _ _ hi] at hp hu
          exact hus _ p u hp hu
      · cases h
    · rename_i ha
      have hlt := (List.getElem?_eq_some_iff.1 h).1
      obtain ⟨u, hu'⟩ : ∃ u, us[fo]? = some u := ⟨us[fo]'(by simp only [] at hlt; omega), List.getElem?_eq_getElem _⟩
      have hr := hus fo p u h hu'
      refine ⟨u, ?_, ?_⟩
      · simp only [] at ha
        simp [execOp, ho, Instr.field, run_underlying hu, h1, eu, asAgg, part, hisagg, ha, h2, hu']
      · have := hr.2
        cases p <;> first | exact this | exact this.elim
  · cases h

theorem q_extract {o : Oper} {x : Operand} {i : Nat} {p : PV} (ho : o.op = .extract x i) (h : extractRes i (ev x) = some p) : Quiet P w wr loc ρ o p := by
  have hx := hev x
  unfold extractRes at h
  split at h
  · rename_i vs e
    rw [e] at hx
    obtain ⟨us, eu, hlen, hus⟩ := hx
    have hlt := (List.getElem?_eq_some_iff.1 h).1
    obtain ⟨u, hu⟩ : ∃ u, us[i]? = some u := ⟨us[i]'(by omega), List.getElem?_eq_getElem _⟩
    refine ⟨u, by simp [execOp, ho, eu, Instr.extract, hu], ?_⟩
    have := hus i p u h hu
    cases p <;> first | exact this | exact this.elim
  · cases h


omit hev in
theorem vecC_some {m : Mem} {id : Nat} {v : Nat × List (List CV)} (h : vecC m id = some v) : ∃ b, m (id, 0) = some (.vec b v.1 v.2) := by
  obtain ⟨x, hx, hv⟩ := onO_eq_some h
  unfold MC.asVec at hv
  split at hv
  · cases hv; exact ⟨_, hx⟩
  · cases hv
omit hev in
theorem rowC_some {m : Mem} {id : Nat} {v : Nat × List (List CV)} (h : rowC m id = some v) : m (id, 0) = some (.vec true v.1 v.2) := by
  obtain ⟨x, hx, hv⟩ := onO_eq_some h
  unfold MC.asRow at hv
  split at hv
  · cases hv; exact hx
  · cases hv
omit hev in
theorem vecC_mem {w0 : World} {lent wr0 : Nat → Prop} {m : Mem} (hM : MInv w0 lent wr0 m loc w) {id : Nat} {v : Nat × List (List CV)} (h : vecC m id = some v) : MRel w (WR m loc wr0) loc id 0 (.vec true v.1 v.2) := by
  obtain ⟨b, hb⟩ := vecC_some h
  have := hM.mem id 0 _ hb
  exact this

theorem natOf_rel {x : Operand} {n : Nat} (h : natOf (ev x) = some n) : ∃ k z, ρ x = .int k z ∧ 0 ≤ z ∧ z.toNat = n := by
  generalize hx : ev x = q at h
  unfold natOf at h
  split at h
  · split at h
    · cases h
      exact ⟨_, _, ev_lit hev hx, ‹_›, rfl⟩
    · cases h
  · cases h

theorem q_indexAddr (hT : TabOk P T) {w0 : World} {lent wr0 : Nat → Prop} {m : Mem} (hM : MInv w0 lent wr0 m loc w) {o : Oper} {t : TypeId} {x i : Operand} {ti : TI} {n : Nat} {p : PV} (ho : o.op = .indexAddr t x i) (ht : T.get t = some ti) (hi : natOf (ev i) = some n)
    (h : indexRes T m ti (ev x) n = some p) : Quiet P w wr loc ρ o p := by
  obtain ⟨k, z, hz, hz0, rfl⟩ := natOf_rel hev hi
  obtain ⟨ii, hinfo, _, _, _, _, _, hkind⟩ := hT.ok t ti ht
  have hx := hev x
  unfold indexRes at h
  split at h
  · rename_i e hk
    obtain ⟨te, hte, h⟩ := onO_eq_some h
    obtain ⟨ie, hie, hsz, _⟩ := hT.ok e te hte
    have hu : P.underlying t = some (.slice e) := by unfold KindOk at hkind; rw [hk] at hkind; exact hkind.1
    have run : ∀ (a : Addr) (len cap : Nat), ρ x = .slice (some a) len cap → z.toNat < len → (execOp ρ o).run P w = .ok (.value (.pointer (some (a.add (z.toNat * te.size))))) w := by
      intro a len cap e1 hlt
      have h2 : z < (len : Int) := by omega
      simp [execOp, ho, Instr.indexAt, e1, hz, asIntOf, run_underlying hu, hz0, h2, sizeOf, typeInfo, hie, hsz]
    unfold indexSl at h
    split at h
    · rename_i id off len e1
      obtain ⟨v, hv, h⟩ := onO_eq_some h
      split at h
      · rename_i hc
        cases h
        rw [e1] at hx
        obtain ⟨A, c, e2, hle, hcap, hA⟩ := hx
        obtain ⟨hh, rfl⟩ := hA (by omega)
        have hm := vecC_mem hM hv
        refine ⟨_, run _ _ _ e2 hc.2, hh, ?_⟩
        rw [add_mk, hm.2.1, hc.1, Nat.add_zero, Nat.add_mul]
      · cases h
    · rename_i id off sz len e1
      split at h
      · rename_i hc
        cases h
        rw [e1] at hx
        obtain ⟨A, c, e2, hle, hh, hA⟩ := hx
        obtain rfl := hA (by omega)
        refine ⟨_, run _ _ _ e2 hc.2, hh, ?_⟩
        rw [add_mk, hc.1]
      · cases h
    · rename_i sz xs e1
      split at h
      · rename_i hs
        obtain ⟨el, hel, h⟩ := onO_eq_some h
        cases h
        rw [e1] at hx
        have hx : RelC w wr (.ro sz xs) (ρ x) := hx
        generalize hv : ρ x = v at hx
        cases hx with
        | ro _ _ A c us hc hs' hA h1 hu' =>
          have hlt := (List.getElem?_eq_some_iff.1 hel).1
          obtain ⟨a, rfl, hb, hn, hcell⟩ := hA (by intro e; subst e; simp at hlt)
          refine ⟨_, run _ _ _ hv hlt, a.add (z.toNat * te.size), fun i => us z.toNat i, rfl, by rw [add_block]; exact hb, by rw [add_block]; exact hn, fun i hi => ?_, fun i => h1 _ _, fun i p hp => hu' _ _ _ _ hel hp⟩
          have hlen := hs' _ _ hel
          have h0 := hcell z.toNat i hlt (by omega)
          have hsp : a.spot = none := by
            by_cases h00 : z.toNat * sz + i = 0
            · rw [h00] at h0; exact cell_spot h0
            · have hz' := hcell 0 0 (by omega) (by omega)
              simp [Addr.add] at hz'
              exact cell_spot hz'
          rw [add_add a hsp, ← hs]
          exact h0
      · cases h
    · cases h
  · rename_i n' e hk
    obtain ⟨te, hte, h⟩ := onO_eq_some h
    obtain ⟨ie, hie, hsz, _⟩ := hT.ok e te hte
    have hu : P.underlying t = some (.array n' e) := by unfold KindOk at hkind; rw [hk] at hkind; exact hkind
    unfold indexAr at h
    split at h
    · rename_i id off e1
      split at h
      · rename_i hlt
        cases h
        rw [e1] at hx
        obtain ⟨hh, e2⟩ := hx
        have h2 : z < (n' : Int) := by omega
        refine ⟨_, ?_, hh, rfl⟩
        simp [execOp, ho, Instr.indexAt, e2, hz, asIntOf, run_underlying hu, hz0, h2, sizeOf, typeInfo, hie, hsz, Instr.sureAddr, add_mk]
      · cases h
    · cases h
  · cases h


theorem bound_rel {y : Option Operand} {n0 n : Nat} (h : boundO (y.map ev) n0 = some n) : (y = none ∧ n = n0) ∨ ∃ x k z, y = some x ∧ ρ x = .int k z ∧ 0 ≤ z ∧ z.toNat = n := by
  cases y with
  | none => left; simp [boundO] at h; exact ⟨rfl, h.symm⟩
  | some x =>
    right
    have h : natOf (ev x) = some n := h
    obtain ⟨k, z, h1, h2, h3⟩ := natOf_rel hev h
    exact ⟨x, k, z, rfl, h1, h2, h3⟩

theorem bounds_run {lo hi : Option Operand} {b : Bool} {len cap l h : Nat} (hh : boundO (hi.map ev) len = some h) (hl : boundO (lo.map ev) 0 = some l) (hle : l ≤ h) (hn : h ≤ len) (hc : len ≤ cap) :
    (Instr.sliceBounds b len cap (lo.map ρ) (hi.map ρ) none).run P w = .ok (l, h, cap) w := by
  have hcap : h ≤ cap := by omega
  rcases bound_rel hev hh with ⟨rfl, rfl⟩ | ⟨x, k, z, rfl, hx, hz, rfl⟩ <;> rcases bound_rel hev hl with ⟨rfl, rfl⟩ | ⟨y, k', z', rfl, hy, hz', rfl⟩
  · simp [Instr.sliceBounds]
  · have : z' ≤ (h : Int) := by omega
    simp [Instr.sliceBounds, Instr.sliceBound, hy, asIntOf, hz', this]
  · have : z ≤ (cap : Int) := by omega
    simp [Instr.sliceBounds, Instr.sliceBound, hx, asIntOf, hz, this]
  · have h1 : z ≤ (cap : Int) := by omega
    have h2 : z' ≤ z := by omega
    have h4 : ((z.toNat : Nat) : Int) = z := Int.toNat_of_nonneg hz
    simp [Instr.sliceBounds, Instr.sliceBound, hx, hy, asIntOf, hz, hz', h1, h2, h4]

omit hev in
theorem take_drop_get {α : Type} (l : List α) (a h j : Nat) : ((l.take h).drop a)[j]? = if a + j < h then l[a + j]? else none := by
  rw [List.getElem?_drop, List.getElem?_take]

theorem q_slice (hT : TabOk P T) {w0 : World} {lent wr0 : Nat → Prop} {m : Mem} (hM : MInv w0 lent wr0 m loc w) {o : Oper} {t : TypeId} {x : Operand} {lo hi : Option Operand} {ti : TI} {p : PV} (ho : o.op = .slice t x lo hi none) (ht : T.get t = some ti)
    (h : sliceRes T m ti (ev x) (lo.map ev) (hi.map ev) = some p) : Quiet P w wr loc ρ o p := by
  obtain ⟨ii, hinfo, _, _, _, _, _, hkind⟩ := hT.ok t ti ht
  have hx := hev x
  unfold sliceRes at h
  split at h
  · rename_i e hk
    obtain ⟨te, hte, h⟩ := onO_eq_some h
    obtain ⟨n, hn, h⟩ := onO_eq_some h
    obtain ⟨b, hb, h⟩ := onO_eq_some h
    obtain ⟨l, hl, h⟩ := onO_eq_some h
    split at h
    · rename_i hle
      obtain ⟨ie, hie, hsz, _⟩ := hT.ok e te hte
      have hu : P.underlying t = some (.slice e) := by unfold KindOk at hkind; rw [hk] at hkind; exact hkind.1
      have run : ∀ (A : Option Addr) (cap : Nat), ρ x = .slice A n cap → n ≤ cap → (execOp ρ o).run P w = .ok (.value (.slice (if cap = l then A else A.map (·.add (l * te.size))) (b - l) (cap - l))) w := by
        intro A cap e1 hc
        have hbr := bounds_run (P := P) (b := true) (cap := cap) hev hb hl hle.1 hle.2 hc
        simp [execOp, ho, Instr.sliceAt, Instr.slice, e1, run_underlying hu, hbr, sizeOf, typeInfo, hie, hsz]
      unfold cutOf at h
      split at h
      · rename_i id off len e1
        obtain ⟨v, hv, h⟩ := onO_eq_some h
        split at h
        · rename_i hs
          cases h
          rw [e1] at hx hn
          cases hn
          obtain ⟨A, c, e2, hlc, hcap, hA⟩ := hx
          have hm := vecC_mem hM hv
          refine ⟨_, run A c e2 hlc, _, _, rfl, by omega, by omega, fun h0 => ?_⟩
          obtain ⟨hh, rfl⟩ := hA (by omega)
          refine ⟨hh, ?_⟩
          rw [if_neg (by omega), Option.map_some, add_mk, hm.2.1, hs, Nat.add_mul]
        · cases h
      · rename_i sz xs e1
        split at h
        · rename_i hs
          cases h
          rw [e1] at hx hn
          cases hn
          have hx : RelC w wr (.ro sz xs) (ρ x) := hx
          generalize hv : ρ x = v at hx
          cases hx with
          | ro _ _ A c us hc hs' hA h1 hu' =>
            have hlen : ((xs.take b).drop l).length = b - l := by simp; omega
            refine ⟨_, run A c hv hc, ?_⟩
            show RelC w wr (.ro sz ((xs.take b).drop l)) _
            rw [← hlen]
            refine .ro sz _ _ _ (fun j i => us (l + j) i) (by rw [hlen]; omega) (fun j y hy => ?_) (fun hne => ?_) (fun _ _ => h1 _ _) (fun j i y p hy hp => ?_)
            · rw [take_drop_get] at hy
              split at hy
              · exact hs' _ _ hy
              · cases hy
            · have hpos : 0 < b - l := by rw [← hlen]; exact List.length_pos_iff.2 hne
              obtain ⟨a, rfl, hb1, hb2, hcell⟩ := hA (by intro e0; subst e0; simp at hle; omega)
              refine ⟨a.add (l * te.size), by rw [if_neg (by omega)]; rfl, by rw [add_block]; exact hb1, by rw [add_block]; exact hb2, fun j i hj hi => ?_⟩
              have hj' : l + j < xs.length := by omega
              have h0 := hcell (l + j) i hj' hi
              have hsp : a.spot = none := by
                have hz' := hcell 0 0 (by omega) (by omega)
                simp [Addr.add] at hz'
                exact cell_spot hz'
              rw [add_add a hsp, ← hs, ← Nat.add_assoc, ← Nat.add_mul]
              exact h0
            · rw [take_drop_get] at hy
              split at hy
              · exact hu' _ _ _ _ hy hp
              · cases hy
        · cases h
      · rename_i e1
        cases h
        rw [e1] at hx hn
        cases hn
        have hx : RelC w wr .z (ρ x) := hx
        generalize hv : ρ x = v at hx
        cases hx with
        | z A =>
          have hb0 : b = 0 := by omega
          have hl0 : l = 0 := by omega
          subst hb0; subst hl0
          exact ⟨_, run A 0 hv (Nat.le_refl _), RelC.z _⟩
      · rename_i e1
        cases h
        have e2 := ev_lit hev e1
        rw [e1] at hn
        have hn0 : n = 0 := by simp [lenOf] at hn; exact hn.symm
        have hb0 : b = 0 := by omega
        have hl0 : l = 0 := by omega
        subst hn0; subst hb0; subst hl0
        exact ⟨_, run none 0 e2 (Nat.le_refl _), RelC.z _⟩
      · cases h
    · cases h
  · rename_i n e hk
    obtain ⟨te, hte, h⟩ := onO_eq_some h
    obtain ⟨b, hb, h⟩ := onO_eq_some h
    obtain ⟨l, hl, h⟩ := onO_eq_some h
    split at h
    · rename_i hle
      obtain ⟨ie, hie, hsz, _⟩ := hT.ok e te hte
      have hu : P.underlying t = some (.array n e) := by unfold KindOk at hkind; rw [hk] at hkind; exact hkind
      have hbr := bounds_run (P := P) (b := false) (cap := n) (w := w) hev hb hl hle.1 hle.2 (Nat.le_refl _)
      unfold cutArr at h
      split at h
      · rename_i id off e1
        cases h
        rw [e1] at hx
        obtain ⟨hh, e2⟩ := hx
        by_cases hln : n = l
        · have hbl : b - l = 0 := by omega
          refine ⟨.slice (some ⟨(loc id).g, off, none⟩) (b - l) (n - l), ?_, _, _, rfl, by omega, hh, fun h0 => by omega⟩
          refine Eq.trans (b := .ok (.value (.slice (some (if n = l then ⟨(loc id).g, off, none⟩ else (⟨(loc id).g, off, none⟩ : Addr).add (l * te.size))) (b - l) (n - l))) w) ?_ (by rw [if_pos hln])
          simp [execOp, ho, Instr.sliceAt, e2, run_underlying hu, Instr.sureAddr, hbr, sizeOf, typeInfo, hie, hsz]
        · refine ⟨.slice (some ⟨(loc id).g, off + l * te.size, none⟩) (b - l) (n - l), ?_, _, _, rfl, by omega, hh, fun _ => rfl⟩
          simp [execOp, ho, Instr.sliceAt, e2, run_underlying hu, Instr.sureAddr, hbr, sizeOf, typeInfo, hie, hsz, hln, add_mk]
      · cases h
    · cases h
  · cases h

end
end Go.PM
