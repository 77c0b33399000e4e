/- Regions whose operations come up in the text's order. -/
import Derived.Test.YtmmipinjkbkkmaaPmOp
set_option linter.unusedSimpArgs false
set_option linter.unusedVariables false
set_option linter.unusedSectionVars false
set_option linter.unnecessarySimpa false
namespace Go.PM
open Go.RowKit (Below)
variable {P : Program} {E : Env} {w0 : World} {lent wr0 : Nat → Prop} {n : Nat}

/-- How a state of the pure machine stands to a frame and the world. -/
structure Stands (w0 : World) (lent wr0 : Nat → Prop) (n : Nat) (sl : Nat → PV) (m : Mem) (a : Act) (w : World) : Prop where
  defers : a.defers = []
  size : a.tmps.size = n
  rel : ∃ loc, MInv w0 lent wr0 m loc w ∧ SInv w (WR m loc wr0) loc sl fun t => a.tmps.getD t undef
def St.stands (w0 : World) (lent wr0 : Nat → Prop) (n : Nat) (s : St) (a : Act) (w : World) : Prop := Stands w0 lent wr0 n s.slot s.at a w

def setS {α : Type} (sl : Nat → α) (dst : Option Nat) (p : α) : Nat → α := match dst with
  | some d => fun t => if d = t then p else sl t
  | none => sl

theorem slot_app (s : St) (dst : Option Nat) (e : Eff) : (s.app dst e).slot = setS s.slot dst e.val := by
  funext t
  cases dst <;> rfl
theorem at_app (s : St) (dst : Option Nat) (e : Eff) : (s.app dst e).at = updM e.wr s.at := by
  show lookM (e.wr ++ s.mem) = _
  rw [updM_lookM]; rfl
theorem slot_set (s : St) (t : Nat) (p : PV) (h : s.slot t = p) : (s.set t p).slot = s.slot := by
  funext u
  show (if t = u then p else s.slot u) = s.slot u
  split
  · rename_i e; rw [← h, e]
  · rfl

/-- Clean: nothing leads there. -/
def CleanF (sl : Nat → PV) (m : Mem) (id : Nat) : Prop := (∀ t, id ∉ (sl t).refs) ∧ Free m id

theorem cleanS_spec {id : Nat} : ∀ {l : List (Nat × PV)}, cleanS id l = true → ∀ x ∈ l, id ∉ x.2.refs
  | [], _, x, hx => by cases hx
  | (t, p) :: r, h, x, hx => by
    simp only [cleanS, Bool.and_eq_true, Bool.not_eq_true', List.contains_eq_mem, decide_eq_false_iff_not] at h
    cases hx with
    | head => exact h.1
    | tail _ hx => exact cleanS_spec h.2 x hx
theorem cleanM_spec {id : Nat} : ∀ {l : List (Key × Option MC)}, cleanM id l = true → ∀ x ∈ l, x.1.1 ≠ id ∧ id ∉ MC.refs x.2
  | [], _, x, hx => by cases hx
  | (k, v) :: r, h, x, hx => by
    simp only [cleanM, Bool.and_eq_true, Bool.not_eq_true', List.contains_eq_mem, decide_eq_false_iff_not, beq_eq_false_iff_ne] at h
    cases hx with
    | head => exact ⟨h.1, h.2.1⟩
    | tail _ hx => exact cleanM_spec h.2.2 x hx
theorem lookS_mem : ∀ {l : List (Nat × PV)} {t : Nat}, lookS l t = .undef ∨ (t, lookS l t) ∈ l
  | [], t => .inl rfl
  | (k, v) :: r, t => by
    simp only [lookS]
    split
    · rename_i h; subst h; exact .inr (by simp)
    · rcases lookS_mem (l := r) (t := t) with h | h
      · exact .inl h
      · exact .inr (List.mem_cons_of_mem _ h)
theorem lookM_mem : ∀ {l : List (Key × Option MC)} {t : Key} {x : MC}, lookM l t = some x → (t, some x) ∈ l
  | [], t, x, h => by cases h
  | (k, v) :: r, t, x, h => by
    simp only [lookM] at h
    split at h
    · rename_i e; subst e; subst h; simp
    · exact List.mem_cons_of_mem _ (lookM_mem h)

/-- Clean as lists: it stays so of every part. -/
def CleanL (s : St) (id : Nat) : Prop := (∀ x ∈ s.sl, id ∉ x.2.refs) ∧ ∀ x ∈ s.mem, x.1.1 ≠ id ∧ id ∉ MC.refs x.2
theorem clean_spec {s : St} {id : Nat} (h : s.clean id = true) : CleanL s id := by
  simp only [St.clean, Bool.and_eq_true] at h
  exact ⟨cleanS_spec h.1, cleanM_spec h.2⟩
theorem CleanL.f {s : St} {id : Nat} (h : CleanL s id) : CleanF s.slot s.at id := by
  refine ⟨fun t => ?_, fun j => ?_, fun i j p hp => ?_⟩
  · rcases lookS_mem (l := s.sl) (t := t) with e | e
    · show id ∉ (lookS s.sl t).refs
      rw [e]; simp [PV.refs]
    · exact h.1 _ e
  · cases hx : s.at (id, j) with
    | none => rfl
    | some x => exact absurd rfl (h.2 _ (lookM_mem hx)).1
  · exact (h.2 _ (lookM_mem hp)).2

theorem const_refs (v : Value) : (constPV v).refs = [] := by
  unfold constPV
  split
  · split
    · simp only [PV.refs]
      generalize Array.toList _ = l
      induction l with
      | nil => rfl
      | cons a r ih => simp only [List.map_cons, PV.refs.refsL, ih]; rfl
    · rfl
  · rfl
theorem ev_clean {sl : Nat → PV} {id : Nat} (h : ∀ t, id ∉ (sl t).refs) (x : Operand) : id ∉ (evOf sl x).refs := by
  cases x with
  | tmp t => exact h t
  | const v => simp [evOf, const_refs]
  | global g => simp [evOf, PV.refs]
  | func f => simp [evOf, PV.refs]

theorem getD_put {a : Act} {dst : Option Nat} {v : Value} (hd : ∀ d, dst = some d → d < a.tmps.size) (t : Nat) : (a.put dst v).tmps.getD t undef = setS (fun t => a.tmps.getD t undef) dst v t := by
  cases dst with
  | none => rfl
  | some d =>
    have := hd d rfl
    simp only [Act.put, setS, Array.getD_eq_getD_getElem?, Array.getElem?_setIfInBounds]
    split
    · rename_i e; subst e; simp [this]
    · rfl
theorem size_put {a : Act} {dst : Option Nat} {v : Value} : (a.put dst v).tmps.size = a.tmps.size := by
  cases dst <;> simp [Act.put]
theorem defers_put {a : Act} {dst : Option Nat} {v : Value} : (a.put dst v).defers = a.defers := by
  cases dst <;> rfl

/-- An operation is done. -/
theorem stands_op (hE : EnvOk P E) {sl : Nat → PV} {m : Mem} {a : Act} {w : World} (h : Stands w0 lent wr0 n sl m a w) {o : Oper} (hdst : ∀ d, o.dst = some d → d < n) {e : Eff} (he : evalOp E.T E.S (evOf sl) m (o.dst.getD 0) o.op = some e) (hc : ∀ id ∈ e.new, CleanF sl m id)
    {next : Act → World → Prop} {Q : Exit → Act → World → Prop} (hn : ∀ a' w', Stands w0 lent wr0 n (setS sl o.dst e.val) (updM e.wr m) a' w' → next a' w') : o.wp P a w next Q := by
  obtain ⟨h1, h2, loc, hM, hS⟩ := h
  have hev := evOk_of hS
  refine op_sound hev hE hM he (fun id hid => (hc id hid).2) (fun id hid x => ev_clean (hc id hid).1 x) (fun g hg => Nat.lt_of_lt_of_le (hM.wrlt g hg).1 hM.low.size) a next Q rfl fun v w' hout => hn _ _ ?_
  obtain ⟨loc', g1, g2, g3, g4⟩ := hout
  refine ⟨by rw [defers_put]; exact h1, by rw [size_put]; exact h2, loc', g1, fun t => ?_⟩
  show RelV w' _ loc' _ ((a.put o.dst v).tmps.getD t undef)
  rw [getD_put (fun d hd => by rw [h2]; exact hdst d hd)]
  have old : RelV w' (WR (updM e.wr m) loc' wr0) loc' (sl t) (a.tmps.getD t undef) := (hS t).later g2 fun id hid => g4 id fun hnew => (hc id hnew).1 t hid
  cases hd : o.dst with
  | none => exact old
  | some d =>
    simp only [setS]
    split
    · exact g3
    · exact old

/-- One is passed over. -/
theorem stands_skip {sl : Nat → PV} {m : Mem} {a : Act} {w : World} (h : Stands w0 lent wr0 n sl m a w) {dst : Option Nat} (hdst : ∀ d, dst = some d → d < n) : Stands w0 lent wr0 n (setS sl dst tupV) m (a.put dst undef) w := by
  obtain ⟨h1, h2, loc, hM, hS⟩ := h
  refine ⟨by rw [defers_put]; exact h1, by rw [size_put]; exact h2, loc, hM, fun t => ?_⟩
  show RelV w _ loc _ ((a.put dst undef).tmps.getD t undef)
  rw [getD_put (fun d hd => by rw [h2]; exact hdst d hd)]
  cases dst with
  | none => exact hS t
  | some d =>
    simp only [setS]
    split
    · exact rel_mk _
    · exact hS t

/-- What a guard's slot says. -/
theorem yields_bool {ops : Array Oper} {sl : Nat → PV} {m : Mem} {a : Act} {w : World} (h : Stands w0 lent wr0 n sl m a w) {j d : Nat} {b : Bool} (hj : (ops[j]?).bind (·.dst) = some d) (hd : d < n) (hs : sl d = .c (.lit (.bool b))) : yielded ops a.tmps j = some b := by
  obtain ⟨h1, h2, loc, hM, hS⟩ := h
  have hv := rel_lit (hs ▸ hS d)
  unfold yielded
  rw [hj]
  have hg : a.tmps[d]? = some (a.tmps.getD d undef) := by
    rw [Array.getD_eq_getD_getElem?, Array.getElem?_eq_getElem (by omega)]; rfl
  simp only [Option.bind_some, hg, hv]
theorem yields_none {ops : Array Oper} {sl : Nat → PV} {m : Mem} {a : Act} {w : World} (h : Stands w0 lent wr0 n sl m a w) {j d : Nat} {x : Array Value} (hj : (ops[j]?).bind (·.dst) = some d) (hd : d < n) (hs : sl d = .c (.lit (.tuple x))) : yielded ops a.tmps j = none := by
  obtain ⟨h1, h2, loc, hM, hS⟩ := h
  have hv := rel_lit (hs ▸ hS d)
  unfold yielded
  rw [hj]
  have hg : a.tmps[d]? = some (a.tmps.getD d undef) := by
    rw [Array.getD_eq_getD_getElem?, Array.getElem?_eq_getElem (by omega)]; rfl
  simp only [Option.bind_some, hg, hv]

/-- What is asked of a region's text. -/
def opOk (n : Nat) (dsts : List (Option Nat)) (o : Oper) : Bool :=
  (match o.dst with | some d => decide (d < n) | none => true) &&
  (match o.guard with | some (j, _) => (match dsts[j]? with | some (some d) => decide (d < n) | _ => false) | none => true)
def opsOk (n : Nat) (ops : List Oper) : Bool := ops.all (opOk n (ops.map (·.dst)))

theorem opOk_dst {dsts : List (Option Nat)} {o : Oper} (h : opOk n dsts o = true) : ∀ d, o.dst = some d → d < n := by
  intro d hd
  simp only [opOk, hd, Bool.and_eq_true, decide_eq_true_eq] at h
  exact h.1
theorem opOk_guard {dsts : List (Option Nat)} {o : Oper} (h : opOk n dsts o = true) {j : Nat} {x : Bool} (hg : o.guard = some (j, x)) : ∃ d, dsts[j]? = some (some d) ∧ d < n := by
  simp only [opOk, hg, Bool.and_eq_true] at h
  have h := h.2
  split at h
  · rename_i d hd; exact ⟨d, hd, by simpa using h⟩
  · cases h

theorem guardW_cases {p : PV} {x : Bool} {A B C : Prop} (h : guardW p x A B C) : (p = .c (.lit (.bool x)) ∧ A) ∨ (p = .c (.lit (.bool (!x))) ∧ B) ∨ (∃ v, p = .c (.lit (.tuple v)) ∧ C) := by
  unfold guardW at h
  split at h
  · rename_i b
    by_cases hb : b = x
    · exact .inl ⟨by rw [hb], h.1 hb⟩
    · have hb : b = !x := by cases b <;> cases x <;> simp_all
      exact .inr (.inl ⟨by rw [hb], h.2 hb⟩)
  · exact .inr (.inr ⟨_, rfl, h⟩)
  · exact h.elim

theorem reg_sound (hE : EnvOk P E) {ops : Array Oper} {Q : Exit → Act → World → Prop} {K : Acc → St → Prop} (hK : ∀ acc s a w, K acc s → s.stands w0 lent wr0 n a w → Q .normal a w) :
    ∀ (l : List Oper), (∀ o ∈ l, opOk n (ops.toList.map (·.dst)) o = true) → ∀ (acc : Acc) (s : St) (a : Act) (w : World), wpOpsP E (ops.toList.map (·.dst)) l K acc s → s.stands w0 lent wr0 n a w → wpList P ops Q l a w
  | [], _, acc, s, a, w, h, hs => hK acc s a w h hs
  | o :: l, hok, acc, s, a, w, h, hs => by
    have ho := hok o (by simp)
    have ih := reg_sound hE hK l (fun o ho => hok o (by simp [ho]))
    have hdst := opOk_dst ho
    have done : ∀ (s1 : St) (e : Eff), s1.slot = s.slot → s1.at = s.at → doesOp E s1 o = some e → (e.new.all s1.clean) = true → wpOpsP E (ops.toList.map (·.dst)) l K (e.acc :: acc) (s1.app o.dst e) → o.wp P a w (wpList P ops Q l) Q := by
      intro s1 e e1 e2 hd hc hrest
      refine stands_op hE hs hdst (e := e) (by rw [← e1, ← e2]; exact hd) (fun id hid => by rw [← e1, ← e2]; exact (clean_spec (List.all_eq_true.1 hc id hid)).f) fun a' w' hst => ih _ _ a' w' hrest ?_
      show Stands w0 lent wr0 n (s1.app o.dst e).slot (s1.app o.dst e).at a' w'
      rw [slot_app, at_app, e1, e2]
      exact hst
    have skip : ∀ (s1 : St), s1.slot = s.slot → s1.at = s.at → wpOpsP E (ops.toList.map (·.dst)) l K (none :: acc) (skipped s1 o.dst) → wpList P ops Q l (a.put o.dst undef) w := by
      intro s1 e1 e2 hrest
      refine ih _ _ _ _ hrest ?_
      show Stands w0 lent wr0 n (skipped s1 o.dst).slot (skipped s1 o.dst).at _ w
      unfold skipped
      rw [slot_app, at_app, e1, e2]
      exact stands_skip hs hdst
    unfold wpList
    simp only [wpOpsP] at h
    cases hg : o.guard with
    | none =>
      rw [hg] at h
      simp only [] at h
      rw [if_pos (by simp [Region.wanted, hg])]
      cases he : doesOp E s o with
      | none => rw [he] at h; exact h.elim
      | some e =>
        rw [he] at h
        exact .inl (done s e rfl rfl he h.1 h.2)
    | some g =>
      obtain ⟨j, x⟩ := g
      rw [hg] at h
      simp only [] at h
      obtain ⟨d, hd, hdn⟩ := opOk_guard ho hg
      have hbind : (ops[j]?).bind (·.dst) = some d := by
        rw [List.getElem?_map] at hd
        rw [← Array.getElem?_toList]
        cases hq : ops.toList[j]? with
        | none => rw [hq] at hd; cases hd
        | some q => rw [hq] at hd; simpa using hd
      simp only [hd, Option.getD_some] at h
      rcases guardW_cases h with ⟨hp, h⟩ | ⟨hp, h⟩ | ⟨v, hp, h⟩
      · have hy := yields_bool hs hbind hdn hp
        rw [if_pos (by simp [Region.wanted, hg, hy])]
        cases he : doesOp E (s.set d (.c (.lit (.bool x)))) o with
        | none => rw [he] at h; exact h.elim
        | some e =>
          rw [he] at h
          exact .inl (done _ e (slot_set s d _ hp) rfl he h.1 h.2)
      · have hy := yields_bool hs hbind hdn hp
        rw [if_neg (by simp [Region.wanted, hg, hy])]
        exact skip _ (slot_set s d _ hp) rfl h
      · have hy := yields_none hs hbind hdn hp
        rw [if_neg (by simp [Region.wanted, hg, hy])]
        exact skip s rfl rfl h
end Go.PM
