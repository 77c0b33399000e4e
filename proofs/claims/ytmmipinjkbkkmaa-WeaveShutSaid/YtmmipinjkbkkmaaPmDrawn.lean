/- Regions whose order is drawn: if no two operations meet that may come up in either order, the text's order tells all. -/
import Derived.Test.YtmmipinjkbkkmaaPmLocal
import Derived.Orders
set_option linter.unusedSimpArgs false
set_option linter.unusedVariables false
set_option linter.unusedSectionVars false
set_option linter.unnecessarySimpa false
namespace Go.PM
variable {P : Program} {E : Env} {w0 : World} {lent wr0 : Nat → Prop} {n : Nat}

abbrev SM := (Nat → PV) × Mem
def stepF (o : Oper) (e : Option Eff) (x : SM) : SM := match e with
  | some e => (setS x.1 o.dst e.val, updM e.wr x.2)
  | none => (setS x.1 o.dst tupV, x.2)
/-- What stands when those of D are done: the text's last writer among them. -/
def runD (D : Nat → Bool) : Nat → List (Oper × Option Eff) → SM → SM
  | _, [], x => x
  | i, (o, e) :: r, x => runD D (i + 1) r (if D i = true then stepF o e x else x)

def keysE : Option Eff → List Key
  | some e => e.wr.map (·.1)
  | none => []

theorem updM_hit : ∀ {r : List (Key × Option MC)} {m m' : Mem} {k : Key}, k ∈ r.map (·.1) → updM r m k = updM r m' k
  | (k0, v) :: r, m, m', k, h => by
    simp only [updM]
    split
    · rfl
    · rename_i hne
      simp only [List.map_cons, List.mem_cons] at h
      exact updM_hit (h.resolve_left (fun e => hne e.symm))
theorem updM_miss : ∀ {r : List (Key × Option MC)} {m : Mem} {k : Key}, k ∉ r.map (·.1) → updM r m k = m k
  | [], m, k, h => rfl
  | (k0, v) :: r, m, k, h => by
    simp only [List.map_cons, List.mem_cons, not_or] at h
    simp only [updM]
    rw [if_neg (fun e => h.1 e.symm), updM_miss h.2]

theorem step_slot {o : Oper} {e : Option Eff} {x x' : SM} {t : Nat} (h : o.dst ≠ some t → x.1 t = x'.1 t) : (stepF o e x).1 t = (stepF o e x').1 t := by
  have key : ∀ p : PV, setS x.1 o.dst p t = setS x'.1 o.dst p t := fun p => by
    cases hd : o.dst with
    | none => exact h (by rw [hd]; simp)
    | some d =>
      simp only [setS]
      split
      · rfl
      · rename_i hne; exact h (by rw [hd]; simpa using hne)
  cases e <;> exact key _
theorem step_slot_other {o : Oper} {e : Option Eff} {x : SM} {t : Nat} (h : o.dst ≠ some t) : (stepF o e x).1 t = x.1 t := by
  have key : ∀ p : PV, setS x.1 o.dst p t = x.1 t := fun p => by
    cases hd : o.dst with
    | none => rfl
    | some d =>
      simp only [setS]
      rw [if_neg (fun e => h (by rw [hd, e]))]
  cases e <;> exact key _
theorem step_mem {o : Oper} {e : Option Eff} {x x' : SM} {k : Key} (h : k ∉ keysE e → x.2 k = x'.2 k) : (stepF o e x).2 k = (stepF o e x').2 k := by
  cases e with
  | none => exact h (by simp [keysE])
  | some e =>
    show updM e.wr x.2 k = updM e.wr x'.2 k
    by_cases hk : k ∈ e.wr.map (·.1)
    · exact updM_hit hk
    · rw [updM_miss hk, updM_miss hk]; exact h hk
theorem step_mem_other {o : Oper} {e : Option Eff} {x : SM} {k : Key} (h : k ∉ keysE e) : (stepF o e x).2 k = x.2 k := by
  cases e with
  | none => rfl
  | some e => exact updM_miss h

theorem run_slot : ∀ {tr : List (Oper × Option Eff)} {i : Nat} {D D' : Nat → Bool} {x x' : SM} {t : Nat}, (∀ k o e, tr[k]? = some (o, e) → o.dst = some t → D (i + k) = D' (i + k)) → x.1 t = x'.1 t → (runD D i tr x).1 t = (runD D' i tr x').1 t
  | [], _, _, _, _, _, _, _, h => h
  | (o, e) :: r, i, D, D', x, x', t, hD, h => by
    simp only [runD]
    refine run_slot (fun k o' e' hk hd => ?_) ?_
    · have := hD (k + 1) o' e' hk hd
      rwa [show i + (k + 1) = i + 1 + k by omega] at this
    · by_cases hd : o.dst = some t
      · have := hD 0 o e rfl hd
        simp only [Nat.add_zero] at this
        rw [this]
        split
        · exact step_slot fun h' => absurd hd h'
        · exact h
      · split <;> split <;> first | exact h | (simp only [step_slot_other hd]; exact h)
theorem run_mem : ∀ {tr : List (Oper × Option Eff)} {i : Nat} {D D' : Nat → Bool} {x x' : SM} {k : Key}, (∀ j o e, tr[j]? = some (o, e) → k ∈ keysE e → D (i + j) = D' (i + j)) → x.2 k = x'.2 k → (runD D i tr x).2 k = (runD D' i tr x').2 k
  | [], _, _, _, _, _, _, _, h => h
  | (o, e) :: r, i, D, D', x, x', k, hD, h => by
    simp only [runD]
    refine run_mem (fun j o' e' hj hd => ?_) ?_
    · have := hD (j + 1) o' e' hj hd
      rwa [show i + (j + 1) = i + 1 + j by omega] at this
    · by_cases hd : k ∈ keysE e
      · have := hD 0 o e rfl hd
        simp only [Nat.add_zero] at this
        rw [this]
        split
        · exact step_mem fun h' => absurd hd h'
        · exact h
      · split <;> split <;> first | exact h | (simp only [step_mem_other hd]; exact h)

/-- Two that do not meet: either way. -/
def Far (o : Oper) (e : Option Eff) (o' : Oper) (e' : Option Eff) : Prop := (∀ t, o.dst = some t → o'.dst ≠ some t) ∧ ∀ k, k ∈ keysE e → k ∉ keysE e'

theorem step_comm {o o' : Oper} {e e' : Option Eff} (h : Far o e o' e') (x : SM) : stepF o' e' (stepF o e x) = stepF o e (stepF o' e' x) := by
  refine Prod.ext (funext fun t => ?_) (funext fun k => ?_)
  · by_cases h1 : o.dst = some t
    · rw [step_slot_other (h.1 t h1)]
      exact step_slot fun h' => absurd h1 h'
    · rw [step_slot_other h1]
      exact step_slot fun _ => step_slot_other h1
  · by_cases h1 : k ∈ keysE e
    · rw [step_mem_other (h.2 k h1)]
      exact step_mem fun h' => absurd h1 h'
    · rw [step_mem_other h1]
      exact step_mem fun _ => step_mem_other h1

theorem run_comm {o : Oper} {e : Option Eff} : ∀ {tr : List (Oper × Option Eff)} {i : Nat} {D : Nat → Bool} {x : SM}, (∀ k o' e', tr[k]? = some (o', e') → D (i + k) = true → Far o e o' e') → runD D i tr (stepF o e x) = stepF o e (runD D i tr x)
  | [], _, _, _, _ => rfl
  | (o', e') :: r, i, D, x, h => by
    simp only [runD]
    have ih := run_comm (o := o) (e := e) (tr := r) (i := i + 1) (D := D) (x := if D i = true then stepF o' e' x else x) fun k o2 e2 hk hD => h (k + 1) o2 e2 hk (by rwa [show i + (k + 1) = i + 1 + k by omega])
    rw [← ih]
    split
    · rename_i hD
      rw [step_comm (h 0 o' e' rfl (by simpa using hD))]
    · rfl

/-- One more is done. -/
theorem run_insert {j : Nat} {o : Oper} {e : Option Eff} {D D' : Nat → Bool} (hD' : ∀ i, i ≠ j → D' i = D i) (hj : D' j = true) (hjD : D j = false) : ∀ {tr : List (Oper × Option Eff)} {i : Nat} {x : SM}, i ≤ j → tr[j - i]? = some (o, e) → (∀ k o' e', tr[k]? = some (o', e') → j < i + k → D (i + k) = true → Far o e o' e') →
    runD D' i tr x = stepF o e (runD D i tr x)
  | [], i, x, _, h, _ => by simp at h
  | (o', e') :: r, i, x, hle, h, hfar => by
    simp only [runD]
    by_cases hij : i = j
    · subst hij
      simp only [Nat.sub_self, List.getElem?_cons_zero, Option.some.injEq, Prod.mk.injEq] at h
      obtain ⟨rfl, rfl⟩ := h
      rw [if_pos hj, if_neg (by rw [hjD]; simp)]
      have : ∀ (tr : List (Oper × Option Eff)) (i0 : Nat) (x : SM), i < i0 → runD D' i0 tr x = runD D i0 tr x := by
        intro tr
        induction tr with
        | nil => intro _ _ _; rfl
        | cons y r ih =>
          intro i0 x hlt
          obtain ⟨o2, e2⟩ := y
          simp only [runD]
          rw [ih _ _ (by omega), hD' i0 (by omega)]
      rw [this _ _ _ (by omega)]
      exact run_comm fun k o2 e2 hk hD => hfar (k + 1) o2 e2 hk (by omega) (by rwa [show i + (k + 1) = i + 1 + k by omega])
    · rw [hD' i hij]
      refine run_insert hD' hj hjD (by omega) ?_ fun k o2 e2 hk hlt hD => hfar (k + 1) o2 e2 hk (by omega) (by rwa [show i + (k + 1) = i + 1 + k by omega])
      rw [show j - i = (j - (i + 1)) + 1 by omega] at h
      exact h

/-- What an operation leaves that leads somewhere. -/
def Mentions (o : Oper) (e : Option Eff) (id : Nat) : Prop := ∃ e', e = some e' ∧ ((o.dst ≠ none ∧ id ∈ e'.val.refs) ∨ ∃ x ∈ e'.wr, x.1.1 = id ∨ id ∈ MC.refs x.2)

theorem step_clean {o : Oper} {e : Option Eff} {x : SM} {id : Nat} (h : CleanF x.1 x.2 id) (hm : ¬ Mentions o e id) : CleanF (stepF o e x).1 (stepF o e x).2 id := by
  have hsl : ∀ p : PV, (o.dst ≠ none → id ∉ p.refs) → ∀ t, id ∉ (setS x.1 o.dst p t).refs := fun p hp t => by
    cases hd : o.dst with
    | none => exact h.1 t
    | some d =>
      simp only [setS]
      split
      · exact hp (by rw [hd]; simp)
      · exact h.1 t
  cases e with
  | none => exact ⟨hsl tupV (fun _ => by simp [tupV, PV.refs]), h.2⟩
  | some e =>
    have look : ∀ i j y, updM e.wr x.2 (i, j) = some y → ((i, j), some y) ∈ e.wr ∨ x.2 (i, j) = some y := fun i j y hy => by
      rcases updM_cases e.wr x.2 (i, j) with ⟨v, h1, h2⟩ | ⟨_, h2⟩
      · rw [hy] at h2; subst h2; exact .inl h1
      · rw [hy] at h2; exact .inr h2.symm
    refine ⟨hsl e.val (fun hd hid => hm ⟨e, rfl, .inl ⟨hd, hid⟩⟩), fun j => ?_, fun i j p hp hid => ?_⟩
    · cases hq : updM e.wr x.2 (id, j) with
      | none => exact hq
      | some y =>
        rcases look id j y hq with h1 | h1
        · exact absurd ⟨e, rfl, .inr ⟨_, h1, .inl rfl⟩⟩ hm
        · rw [h.2.1 j] at h1; cases h1
    · rcases look i j _ hp with h1 | h1
      · exact hm ⟨e, rfl, .inr ⟨_, h1, .inr hid⟩⟩
      · exact h.2.2 i j p h1 hid
theorem run_clean {id : Nat} : ∀ {tr : List (Oper × Option Eff)} {i : Nat} {D : Nat → Bool} {x : SM}, CleanF x.1 x.2 id → (∀ k o e, tr[k]? = some (o, e) → D (i + k) = true → ¬ Mentions o e id) → CleanF (runD D i tr x).1 (runD D i tr x).2 id
  | [], _, _, _, h, _ => h
  | (o, e) :: r, i, D, x, h, hm => by
    simp only [runD]
    refine run_clean ?_ fun k o2 e2 hk hD => hm (k + 1) o2 e2 hk (by rwa [show i + (k + 1) = i + 1 + k by omega])
    split
    · rename_i hD
      exact step_clean h (hm 0 o e rfl (by simpa using hD))
    · exact h

/-- What holds of an operation where it comes up. -/
def OpAt (E : Env) (dsts : List (Option Nat)) (x : SM) (o : Oper) : Option Eff → Prop
  | some e => (∀ j b, o.guard = some (j, b) → ∃ d, dsts[j]? = some (some d) ∧ x.1 d = .c (.lit (.bool b))) ∧ evalOp E.T E.S (evOf x.1) x.2 (o.dst.getD 0) o.op = some e
  | none => ∃ j b d, o.guard = some (j, b) ∧ dsts[j]? = some (some d) ∧ (x.1 d = .c (.lit (.bool (!b))) ∨ ∃ v, x.1 d = .c (.lit (.tuple v)))

theorem op_at_congr {dsts : List (Option Nat)} {x x' : SM} {o : Oper} {e : Option Eff} (h : OpAt E dsts x o e) (hs : ∀ t ∈ slotsOf dsts o, x.1 t = x'.1 t) (hm : ∀ e', e = some e' → ∀ k ∈ e'.rd, x.2 k = x'.2 k) : OpAt E dsts x' o e := by
  have guard : ∀ j b d, o.guard = some (j, b) → dsts[j]? = some (some d) → x.1 d = x'.1 d := fun j b d hg hd => hs d (by
    unfold slotsOf
    refine List.mem_append_right _ ?_
    rw [hg]
    simp [hd])
  cases e with
  | some e =>
    refine ⟨fun j b hg => ?_, ?_⟩
    · obtain ⟨d, hd, hx⟩ := h.1 j b hg
      exact ⟨d, hd, by rw [← guard j b d hg hd]; exact hx⟩
    · have h1 : evalOp E.T E.S (evOf x'.1) x.2 (o.dst.getD 0) o.op = some e := by
        rw [← h.2]
        refine (eval_ev fun y hy => ?_).symm
        cases y with
        | tmp t => exact hs t (by
            unfold slotsOf
            exact List.mem_append_left _ (List.mem_filterMap.2 ⟨.tmp t, Array.mem_toList_iff.2 hy, rfl⟩))
        | const v => rfl
        | global g => rfl
        | func f => rfl
      exact eval_local h1 (hm e rfl)
  | none =>
    obtain ⟨j, b, d, hg, hd, hx⟩ := h
    exact ⟨j, b, d, hg, hd, by rw [← guard j b d hg hd]; exact hx⟩
end Go.PM

/- Regions whose order is drawn: the text's order tells all. -/
namespace Go.PM
open Go.RowKit (Below)
variable {P : Program} {E : Env} {w0 : World} {lent wr0 : Nat → Prop} {n : Nat}

def appE (s : St) (o : Oper) : Option Eff → St
  | some e => s.app o.dst e
  | none => skipped s o.dst
theorem appE_F (s : St) (o : Oper) (e : Option Eff) : ((appE s o e).slot, (appE s o e).at) = stepF o e (s.slot, s.at) := by
  cases e with
  | some e => exact Prod.ext (slot_app _ _ _) (at_app _ _ _)
  | none => exact Prod.ext (slot_app _ _ _) (at_app _ _ _)
theorem appE_clean {s : St} {o : Oper} {e : Option Eff} {id : Nat} (h : CleanL (appE s o e) id) : CleanL s id ∧ ¬ Mentions o e id := by
  have key : ∀ f : Eff, CleanL (s.app o.dst f) id → CleanL s id ∧ (o.dst ≠ none → id ∉ f.val.refs) ∧ ∀ x ∈ f.wr, x.1.1 ≠ id ∧ id ∉ MC.refs x.2 := by
    intro f h
    obtain ⟨h1, h2⟩ := h
    have h2 : ∀ x ∈ f.wr ++ s.mem, x.1.1 ≠ id ∧ id ∉ MC.refs x.2 := h2
    refine ⟨⟨fun x hx => ?_, fun x hx => h2 x (List.mem_append_right _ hx)⟩, fun hd => ?_, fun x hx => h2 x (List.mem_append_left _ hx)⟩
    · refine h1 x ?_
      unfold St.app
      cases o.dst with
      | none => exact hx
      | some d => exact List.mem_cons_of_mem _ hx
    · unfold St.app at h1
      cases hq : o.dst with
      | none => exact absurd hq hd
      | some d =>
        rw [hq] at h1
        exact h1 (d, f.val) (by simp)
  cases e with
  | some e =>
    obtain ⟨a, b, c⟩ := key e h
    refine ⟨a, ?_⟩
    rintro ⟨e', he, hm⟩
    cases he
    rcases hm with ⟨h1, h2⟩ | ⟨x, hx, hh⟩
    · exact b h1 h2
    · rcases hh with hh | hh
      · exact (c x hx).1 hh
      · exact (c x hx).2 hh
  | none =>
    refine ⟨(key _ h).1, ?_⟩
    rintro ⟨e', he, _⟩
    cases he

def TrOk (E : Env) (dsts : List (Option Nat)) : List Oper → List (Option Eff) → St → St → Prop
  | [], [], s, s' => s = s'
  | o :: os, e :: es, s, s' => ∃ s1 : St, s1.slot = s.slot ∧ s1.at = s.at ∧ (∀ id, CleanL s1 id → CleanL s id) ∧ OpAt E dsts (s.slot, s.at) o e ∧ (∀ e', e = some e' → ∀ id ∈ e'.new, CleanL s1 id) ∧ TrOk E dsts os es (appE s1 o e) s'
  | _, _, _, _ => False

theorem trace_of {dsts : List (Option Nat)} {K : Acc → St → Prop} : ∀ (l : List Oper), (∀ o ∈ l, opOk n dsts o = true) → ∀ (acc : Acc) (s : St), wpOpsP E dsts l K acc s → ∃ es s', TrOk E dsts l es s s' ∧ K ((es.map fun e => e.map Eff.foot).reverse ++ acc) s'
  | [], _, acc, s, h => ⟨[], s, rfl, by simpa [wpOpsP] using h⟩
  | o :: l, hok, acc, s, h => by
    have ho := hok o (by simp)
    have ih := trace_of (K := K) l (fun o ho => hok o (by simp [ho]))
    simp only [wpOpsP] at h
    cases hg : o.guard with
    | none =>
      rw [hg] at h
      simp only [] at h
      cases he : doesOp E s o with
      | none => rw [he] at h; exact h.elim
      | some e =>
        rw [he] at h
        obtain ⟨hc, h⟩ := h
        obtain ⟨es, s', h1, h2⟩ := ih _ _ h
        refine ⟨some e :: es, s', ⟨s, rfl, rfl, fun _ h => h, ⟨(fun j b hj => by rw [hg] at hj; cases hj), he⟩, fun e' he' id hid => ?_, h1⟩, ?_⟩
        · cases he'; exact clean_spec (List.all_eq_true.1 hc id hid)
        · simpa [Eff.acc] using h2
    | some g =>
      obtain ⟨j, x⟩ := g
      rw [hg] at h
      simp only [] at h
      obtain ⟨d, hd, hdn⟩ := opOk_guard ho hg
      simp only [hd, Option.getD_some] at h
      have hcl : ∀ p : PV, ∀ id, CleanL (s.set d p) id → CleanL s id := fun p id hc => ⟨fun y hy => hc.1 y (List.mem_cons_of_mem _ hy), hc.2⟩
      rcases guardW_cases h with ⟨hp, h⟩ | ⟨hp, h⟩ | ⟨v, hp, h⟩
      · have hs := slot_set s d _ hp
        cases he : doesOp E (s.set d (.c (.lit (.bool x)))) o with
        | none => rw [he] at h; exact h.elim
        | some e =>
          rw [he] at h
          obtain ⟨hc, h⟩ := h
          obtain ⟨es, s', h1, h2⟩ := ih _ _ h
          refine ⟨some e :: es, s', ⟨s.set d (.c (.lit (.bool x))), hs, rfl, hcl _, ⟨fun j' b hj => ?_, ?_⟩, fun e' he' id hid => ?_, h1⟩, ?_⟩
          · rw [hg] at hj
            cases hj
            exact ⟨d, hd, hp⟩
          · have he : evalOp E.T E.S (evOf (s.set d _).slot) _ _ _ = some e := he
            rw [hs] at he
            exact he
          · cases he'; exact clean_spec (List.all_eq_true.1 hc id hid)
          · simpa [Eff.acc] using h2
      · have hs := slot_set s d _ hp
        obtain ⟨es, s', h1, h2⟩ := ih _ _ h
        exact ⟨none :: es, s', ⟨s.set d (.c (.lit (.bool (!x)))), hs, rfl, hcl _, ⟨j, x, d, hg, hd, .inl hp⟩, (fun e' he' => by cases he'), h1⟩, by simpa using h2⟩
      · obtain ⟨es, s', h1, h2⟩ := ih _ _ h
        exact ⟨none :: es, s', ⟨s, rfl, rfl, fun _ h => h, ⟨j, x, d, hg, hd, .inr ⟨v, hp⟩⟩, (fun e' he' => by cases he'), h1⟩, by simpa using h2⟩

theorem tr_len {dsts : List (Option Nat)} : ∀ {l : List Oper} {es : List (Option Eff)} {s s' : St}, TrOk E dsts l es s s' → es.length = l.length
  | [], [], _, _, _ => rfl
  | [], _ :: _, _, _, h => h.elim
  | _ :: _, [], _, _, h => h.elim
  | o :: l, e :: es, s, s', ⟨s1, _, _, _, _, _, h⟩ => by simp [tr_len h]

theorem run_none {D : Nat → Bool} : ∀ {tr : List (Oper × Option Eff)} {i : Nat} {x : SM}, (∀ k, i ≤ k → D k = false) → runD D i tr x = x
  | [], _, _, _ => rfl
  | (o, e) :: r, i, x, h => by
    simp only [runD]
    rw [if_neg (by rw [h i (Nat.le_refl _)]; simp)]
    exact run_none fun k hk => h k (by omega)

theorem tr_at {dsts : List (Option Nat)} : ∀ {l : List Oper} {es : List (Option Eff)} {s s' : St} (i0 : Nat), TrOk E dsts l es s s' → ∀ j o e, (l.zip es)[j]? = some (o, e) → OpAt E dsts (runD (fun i => decide (i < i0 + j)) i0 (l.zip es) (s.slot, s.at)) o e
  | [], [], _, _, _, _, j, o, e, h => by simp at h
  | [], _ :: _, _, _, _, h, _, _, _, _ => h.elim
  | _ :: _, [], _, _, _, h, _, _, _, _ => h.elim
  | o1 :: l, e1 :: es, s, s', i0, ⟨s1, a1, a2, _, a4, _, a6⟩, j, o, e, h => by
    cases j with
    | zero =>
      simp only [List.zip_cons_cons, List.getElem?_cons_zero, Option.some.injEq, Prod.mk.injEq] at h
      obtain ⟨rfl, rfl⟩ := h
      rw [run_none fun k hk => by simp; omega]
      exact a4
    | succ j =>
      have ih := tr_at (i0 + 1) a6 j o e h
      simp only [List.zip_cons_cons, runD]
      rw [if_pos (by simp)]
      rw [appE_F, a1, a2] at ih
      simpa [show i0 + (j + 1) = i0 + 1 + j by omega] using ih

theorem tr_end {dsts : List (Option Nat)} {D : Nat → Bool} : ∀ {l : List Oper} {es : List (Option Eff)} {s s' : St} (i0 : Nat), TrOk E dsts l es s s' → (∀ k, k < i0 + l.length → D k = true) → (s'.slot, s'.at) = runD D i0 (l.zip es) (s.slot, s.at)
  | [], [], _, _, _, h, _ => by cases h; rfl
  | [], _ :: _, _, _, _, h, _ => h.elim
  | _ :: _, [], _, _, _, h, _ => h.elim
  | o1 :: l, e1 :: es, s, s', i0, ⟨s1, a1, a2, _, a4, _, a6⟩, hD => by
    have ih := tr_end (D := D) (i0 + 1) a6 fun k hk => hD k (by simp; omega)
    simp only [List.zip_cons_cons, runD]
    rw [if_pos (hD i0 (by simp)), ih, appE_F, a1, a2]

theorem tr_clean {dsts : List (Option Nat)} : ∀ {l : List Oper} {es : List (Option Eff)} {s s' : St}, TrOk E dsts l es s s' → ∀ (j : Nat) (o : Oper) (e : Eff), (l.zip es)[j]? = some (o, some e) → ∀ id ∈ e.new, CleanL s id ∧ ∀ (i : Nat) (o' : Oper) (e' : Option Eff), i < j → (l.zip es)[i]? = some (o', e') → ¬ Mentions o' e' id
  | [], [], _, _, _, j, o, e, h => by simp at h
  | [], _ :: _, _, _, h, _, _, _, _ => h.elim
  | _ :: _, [], _, _, h, _, _, _, _ => h.elim
  | o1 :: l, e1 :: es, s, s', ⟨s1, a1, a2, a3, _, a5, a6⟩, j, o, e, h => by
    intro id hid
    cases j with
    | zero =>
      simp only [List.zip_cons_cons, List.getElem?_cons_zero, Option.some.injEq, Prod.mk.injEq] at h
      exact ⟨a3 id (a5 e h.2 id hid), fun i _ _ hi => absurd hi (by omega)⟩
    | succ j =>
      obtain ⟨h1, h2⟩ := tr_clean a6 j o e h id hid
      obtain ⟨h3, h4⟩ := appE_clean h1
      refine ⟨a3 id h3, fun i o' e' hi hi' => ?_⟩
      cases i with
      | zero =>
        simp only [List.zip_cons_cons, List.getElem?_cons_zero, Option.some.injEq, Prod.mk.injEq] at hi'
        obtain ⟨rfl, rfl⟩ := hi'
        exact h4
      | succ i => exact h2 i o' e' (by omega) hi'

/-! Which must come ahead of which. -/
inductive Reach (ops : List Oper) : Nat → Nat → Prop
  | edge {j : Nat} {o : Oper} {e : Edge} (ho : ops[j]? = some o) (he : e ∈ o.after.toList) (hb : Region.binds .any e = true) : Reach ops j e.on
  | trans {j i : Nat} {o : Oper} {e : Edge} (ho : ops[j]? = some o) (he : e ∈ o.after.toList) (hb : Region.binds .any e = true) (h : Reach ops e.on i) : Reach ops j i

theorem fold_bits {acc : List Nat} {i : Nat} : ∀ (es : List Edge) (n : Nat), (es.foldl (fun n e => if Region.binds .any e then n ||| 2 ^ e.on ||| acc.getD e.on 0 else n) n).testBit i = true → n.testBit i = true ∨ ∃ e ∈ es, Region.binds .any e = true ∧ (e.on = i ∨ (acc.getD e.on 0).testBit i = true)
  | [], n, h => .inl h
  | e :: es, n, h => by
    simp only [List.foldl_cons] at h
    rcases fold_bits es _ h with h | ⟨e', he', hb⟩
    · split at h
      · rename_i hb
        simp only [Nat.testBit_or, Bool.or_eq_true, Nat.testBit_two_pow, decide_eq_true_eq] at h
        rcases h with (h | h) | h
        · exact .inl h
        · exact .inr ⟨e, by simp, hb, .inl h⟩
        · exact .inr ⟨e, by simp, hb, .inr h⟩
      · exact .inl h
    · exact .inr ⟨e', List.mem_cons_of_mem _ he', hb⟩

theorem befores_acc {ops : List Oper} : ∀ (l : List Oper) (acc : List Nat), (∀ k, l[k]? = ops[acc.length + k]?) → (∀ j i, (acc.getD j 0).testBit i = true → Reach ops j i) → ∀ j i, ((befores l acc).getD j 0).testBit i = true → Reach ops j i
  | [], acc, _, h, j, i, hb => h j i hb
  | o :: r, acc, hl, h, j, i, hb => by
    refine befores_acc r _ (fun k => ?_) (fun j i hb => ?_) j i hb
    · have := hl (k + 1)
      simpa [show acc.length + (k + 1) = acc.length + 1 + k by omega] using this
    · rw [List.getD_eq_getElem?_getD, List.getElem?_append] at hb
      split at hb
      · rename_i hj
        exact h j i (by rw [List.getD_eq_getElem?_getD]; exact hb)
      · rename_i hj
        by_cases hj0 : j = acc.length
        · subst hj0
          simp only [Nat.sub_self, List.getElem?_cons_zero, Option.getD_some] at hb
          have ho : ops[acc.length]? = some o := by simpa using (hl 0).symm
          rcases fold_bits _ _ hb with hz | ⟨e, he, hbi, hcase⟩
          · simp at hz
          · rcases hcase with rfl | hcase
            · exact .edge ho he hbi
            · exact .trans ho he hbi (h _ _ hcase)
        · have : ([((o.after.toList.foldl (fun n e => if Region.binds .any e then n ||| 2 ^ e.on ||| acc.getD e.on 0 else n) 0))] : List Nat)[j - acc.length]? = none := by
            rw [List.getElem?_eq_none_iff]; simp; omega
          rw [this] at hb
          simp at hb

theorem befores_reach {ops : List Oper} {j i : Nat} (h : ((befores ops []).getD j 0).testBit i = true) : Reach ops j i :=
  befores_acc ops [] (fun k => by simp) (fun j i hb => by simp at hb) j i h

def ClosedD (ops : List Oper) (D : Nat → Bool) : Prop := ∀ j o e, D j = true → ops[j]? = some o → e ∈ o.after.toList → Region.binds .any e = true → D e.on = true
theorem Reach.closed {ops : List Oper} {D : Nat → Bool} (hD : ClosedD ops D) {j i : Nat} (h : Reach ops j i) (hj : ∀ o e, ops[j]? = some o → e ∈ o.after.toList → Region.binds .any e = true → D e.on = true) : D i = true := by
  induction h with
  | edge ho he hb => exact hj _ _ ho he hb
  | trans ho he hb h ih => exact ih fun o' e' ho' he' hb' => hD _ _ _ (hj _ _ ho he hb) ho' he' hb'
end Go.PM

/- A region whose order is drawn. -/
namespace Go.PM
open Go.RowKit (Below)
variable {P : Program} {E : Env} {w0 : World} {lent wr0 : Nat → Prop} {n : Nat}

theorem meets_spec {a b : List Key} (h : meets a b = false) {k : Key} (ha : k ∈ a) (hb : k ∈ b) : False := by
  have : meets a b = true := List.any_eq_true.2 ⟨k, ha, List.any_eq_true.2 ⟨k, hb, by simp⟩⟩
  rw [h] at this; cases this
theorem hits_spec {a b : List Nat} (h : hits a b = false) {k : Nat} (ha : k ∈ a) (hb : k ∈ b) : False := by
  have : hits a b = true := List.any_eq_true.2 ⟨k, ha, by simpa using hb⟩
  rw [h] at this; cases this

theorem mentions_refs {o : Oper} {e : Eff} {id : Nat} (h : Mentions o (some e) id) : id ∈ e.foot.refs := by
  obtain ⟨e', he, h⟩ := h
  cases he
  rcases h with ⟨_, h⟩ | ⟨x, hx, h⟩
  · exact List.mem_append_left _ h
  · refine List.mem_append_right _ (List.mem_flatMap.2 ⟨x, hx, ?_⟩)
    rcases h with h | h
    · simp [h]
    · exact List.mem_cons_of_mem _ h

structure Apart (dsts : List (Option Nat)) (o : Oper) (e : Option Eff) (o' : Oper) (e' : Option Eff) : Prop where
  a1 : ∀ t, o.dst = some t → t ∉ slotsOf dsts o'
  a2 : ∀ t, o.dst = some t → o'.dst ≠ some t
  a3 : ∀ t, o'.dst = some t → t ∉ slotsOf dsts o
  a4 : ∀ k ∈ keysE e, k ∉ keysE e' ∧ ∀ f, e' = some f → k ∉ f.rd
  a5 : ∀ k ∈ keysE e', ∀ f, e = some f → k ∉ f.rd
  a6 : ∀ f, e = some f → ∀ id ∈ f.new, ¬ Mentions o' e' id
  a7 : ∀ f, e' = some f → ∀ id ∈ f.new, ¬ Mentions o e id

theorem apart_of {dsts : List (Option Nat)} {o o' : Oper} {e e' : Option Eff} (h : apart dsts o o' (e.map Eff.foot) (e'.map Eff.foot) = true) : Apart dsts o e o' e' := by
  simp only [apart, Bool.and_eq_true] at h
  obtain ⟨⟨h1, h2⟩, h3⟩ := h
  have b1 : ∀ t, o.dst = some t → t ∉ slotsOf dsts o' ∧ o'.dst ≠ some t := fun t ht => by
    rw [ht] at h1
    simp only [Bool.and_eq_true, Bool.not_eq_true', List.contains_eq_mem, decide_eq_false_iff_not, beq_eq_false_iff_ne] at h1
    exact h1
  have b2 : ∀ t, o'.dst = some t → t ∉ slotsOf dsts o := fun t ht => by
    rw [ht] at h2
    simpa using h2
  cases e with
  | none => exact ⟨fun t h => (b1 t h).1, fun t h => (b1 t h).2, b2, fun k hk => (by cases hk), fun k hk f hf => (by cases hf), fun f hf => (by cases hf), fun f hf id hid hm => by obtain ⟨_, he, _⟩ := hm; cases he⟩
  | some e =>
    cases e' with
    | none => exact ⟨fun t h => (b1 t h).1, fun t h => (b1 t h).2, b2, fun k hk => ⟨(fun h => by cases h), fun f hf => by cases hf⟩, fun k hk => (by cases hk), fun f hf id hid hm => (by obtain ⟨_, he, _⟩ := hm; cases he), fun f hf => by cases hf⟩
    | some e' =>
      simp only [Option.map_some, Bool.and_eq_true, Bool.not_eq_true'] at h3
      obtain ⟨⟨⟨c1, c2⟩, c3⟩, c4⟩ := h3
      refine ⟨fun t h => (b1 t h).1, fun t h => (b1 t h).2, b2, fun k hk => ⟨fun h => meets_spec c1 hk (List.mem_append_right _ h), fun f hf h => ?_⟩, fun k hk f hf h => ?_, fun f hf id hid hm => ?_, fun f hf id hid hm => ?_⟩
      · cases hf; exact meets_spec c1 hk (List.mem_append_left _ h)
      · cases hf; exact meets_spec c2 hk h
      · cases hf; exact hits_spec c3 hid (mentions_refs hm)
      · cases hf; exact hits_spec c4 hid (mentions_refs hm)

theorem count_lt {p q : Nat → Bool} (h : ∀ x, q x = true → p x = true) : ∀ {l : List Nat} {i : Nat}, i ∈ l → p i = true → q i = false → (l.filter q).length < (l.filter p).length
  | x :: r, i, hi, hp, hq => by
    have hle : (r.filter q).length ≤ (r.filter p).length := by
      clear hi
      induction r with
      | nil => simp
      | cons y r ih =>
        cases hqy : q y
        · cases hpy : p y
          · simpa [List.filter_cons, hqy, hpy] using ih
          · simp [List.filter_cons, hqy, hpy]; omega
        · simpa [List.filter_cons, hqy, h y hqy] using ih
    rcases List.mem_cons.1 hi with rfl | hi
    · simp [List.filter_cons, hq, hp]; omega
    · have ih := count_lt h hi hp hq
      cases hqx : q x
      · cases hpx : p x
        · simpa [List.filter_cons, hqx, hpx] using ih
        · simp [List.filter_cons, hqx, hpx]; omega
      · simpa [List.filter_cons, hqx, h x hqx] using ih

theorem drew_stands {sl : Nat → PV} {m : Mem} {a : Act} {w : World} (h : Stands w0 lent wr0 n sl m a w) : Stands w0 lent wr0 n sl m a { w with drawn := w.drawn + 1 } := by
  obtain ⟨h1, h2, loc, hM, hS⟩ := h
  obtain ⟨g1, g2⟩ := hM.grow (m' := m) (loc' := loc) (w' := w.drew) (Below.refl _ w).drew (fun _ => False) (fun id j x hx _ => ⟨x, hx, .inl rfl⟩) (fun _ _ => rfl) (fun _ _ _ _ _ _ h => h) (fun _ _ _ _ h => h.elim) (fun _ _ _ _ _ _ _ _ h => h.elim) (fun _ _ _ _ _ _ _ _ h => h.elim) (fun _ _ _ _ _ h => h.elim)
  exact ⟨h1, h2, loc, g1, hS.later g2 fun _ _ _ => rfl⟩

theorem draw_sound (hE : EnvOk P E) (hmix : P.follows .mixedOrders = true) {id : Nat} {ops : Array Oper} {live : Option Live} {Q : Exit → Act → World → Prop} {Q' : Post} {s : St} {a : Act} {w : World} (hok : opsOk n ops.toList = true)
    (h : wpOpsP E (ops.toList.map (·.dst)) ops.toList (Post.draw ops.toList live Q') [] s) (hs : s.stands w0 lent wr0 n a w) (hQ : ∀ (s' : St) a' w', Q' .normal (s'.prune live) → s'.stands w0 lent wr0 n a' w' → Q .normal a' w') : (Code.region id ops true).wp P Q a w := by
  have hok' : ∀ o ∈ ops.toList, opOk n (ops.toList.map (·.dst)) o = true := List.all_eq_true.1 hok
  obtain ⟨es, s', htr, hK⟩ := trace_of ops.toList hok' [] s h
  obtain ⟨hb, hQ'⟩ := hK
  rw [List.append_nil, List.reverse_reverse, Bool.and_eq_true] at hb
  obtain ⟨hedge, hpair⟩ := hb
  have hlen := tr_len htr
  have hzip : ∀ k o e, (ops.toList.zip es)[k]? = some (o, e) ↔ ops[k]? = some o ∧ es[k]? = some e := fun k o e => by
    rw [List.getElem?_zip_eq_some, Array.getElem?_toList]
  have edge : ∀ j o e, ops[j]? = some o → e ∈ o.after.toList → Region.binds .any e = true → e.on < j := by
    intro j o e ho he hb
    have hj : j < ops.toList.length := by have := (Array.getElem?_eq_some_iff.1 ho).1; simpa using this
    have := List.all_eq_true.1 hedge j (List.mem_range.2 hj)
    rw [Array.getElem?_toList, ho] at this
    have := List.all_eq_true.1 this e he
    simpa [hb] using this
  have pair : ∀ i j o e o' e', i < j → (ops.toList.zip es)[i]? = some (o, e) → (ops.toList.zip es)[j]? = some (o', e') → Reach ops.toList j i ∨ Apart (ops.toList.map (·.dst)) o e o' e' := by
    intro i j o e o' e' hij hi hj
    rw [hzip] at hi hj
    have hjl : j < ops.toList.length := by have := (Array.getElem?_eq_some_iff.1 hj.1).1; simpa using this
    have h1 := List.all_eq_true.1 hpair j (List.mem_range.2 hjl)
    have h2 := List.all_eq_true.1 h1 i (List.mem_range.2 hij)
    rw [Bool.or_eq_true] at h2
    rcases h2 with h2 | h2
    · exact .inl (befores_reach h2)
    · right
      rw [Array.getElem?_toList, Array.getElem?_toList, hi.1, hj.1] at h2
      simp only [List.getElem?_map, hi.2, hj.2, Option.map_some, Option.getD_some] at h2
      exact apart_of h2
  refine wp_region_any hmix ?_
  have main : ∀ (fuel : Nat) (listed : Array Bool) (a : Act) (w : World), listed.size = ops.size → ((List.range ops.size).filter fun i => !listed.getD i false).length ≤ fuel → ClosedD ops.toList (fun i => listed.getD i false) →
      Stands w0 lent wr0 n (runD (fun i => listed.getD i false) 0 (ops.toList.zip es) (s.slot, s.at)).1 (runD (fun i => listed.getD i false) 0 (ops.toList.zip es) (s.slot, s.at)).2 a w → wpAny P .any ops Q fuel listed a w := by
    have fin : ∀ (listed : Array Bool) (a : Act) (w : World), (∀ k, k < ops.size → listed.getD k false = true) → Stands w0 lent wr0 n (runD (fun i => listed.getD i false) 0 (ops.toList.zip es) (s.slot, s.at)).1 (runD (fun i => listed.getD i false) 0 (ops.toList.zip es) (s.slot, s.at)).2 a w → Q .normal a w := by
      intro listed a w hall hst
      have he := tr_end (D := fun i => listed.getD i false) 0 htr (fun k hk => hall k (by simpa using hk))
      refine hQ s' a w hQ' ?_
      rw [← he] at hst
      exact hst
    have all : ∀ (listed : Array Bool), listed.size = ops.size → Region.ready .any ops listed = [] → ∀ k, k < ops.size → listed.getD k false = true := by
      intro listed hsz hr k
      induction k using Nat.strongRecOn with
      | _ k ihk =>
        intro hk
        cases hq : listed.getD k false with
        | true => rfl
        | false =>
          have hlk : listed[k]? = some false := by
            rw [Array.getD_eq_getD_getElem?, Array.getElem?_eq_getElem (by omega)] at hq
            rw [Array.getElem?_eq_getElem (by omega)]
            simpa using hq
          have : k ∈ Region.ready .any ops listed := by
            unfold Region.ready
            refine List.mem_filter.2 ⟨List.mem_range.2 hk, ?_⟩
            rw [Array.getD_eq_getD_getElem?, hlk, Array.getElem?_eq_getElem hk]
            simp only [Option.getD_some, Bool.not_false, Bool.true_and, Option.map_some]
            rw [Array.all_eq_true_iff_forall_mem]
            intro e he
            cases hb : Region.binds .any e with
            | false => rfl
            | true =>
              have hlt := edge k _ e (Array.getElem?_eq_getElem hk) (Array.mem_toList_iff.2 he) hb
              simpa using ihk _ hlt (by omega)
          rw [hr] at this
          cases this
    intro fuel
    induction fuel with
    | zero =>
      intro listed a w hsz hcnt hcl hst
      have hnil : ∀ k, k < ops.size → listed.getD k false = true := by
        intro k hk
        have := List.length_eq_zero_iff.1 (Nat.le_zero.1 hcnt)
        rw [List.filter_eq_nil_iff] at this
        simpa using this k (List.mem_range.2 hk)
      refine ⟨?_, fin listed a w hnil hst⟩
      unfold Region.ready
      rw [List.filter_eq_nil_iff]
      intro k hk
      have h1 := hnil k (List.mem_range.1 hk)
      have hk' := List.mem_range.1 hk
      rw [Array.getD_eq_getD_getElem?, Array.getElem?_eq_getElem (by omega)] at h1 ⊢
      simp only [Option.getD_some] at h1 ⊢
      simp [h1]
    | succ fuel ih =>
      intro listed a w hsz hcnt hcl hst
      refine ⟨fun hr => fin listed a w (all listed hsz hr) hst, fun i hi => ?_⟩
      unfold Region.ready at hi
      obtain ⟨hi1, hi2⟩ := List.mem_filter.1 hi
      have hisz := List.mem_range.1 hi1
      rw [Bool.and_eq_true] at hi2
      obtain ⟨hi3, hi4⟩ := hi2
      have hDi : listed.getD i false = false := by
        rw [Array.getD_eq_getD_getElem?, Array.getElem?_eq_getElem (by omega)] at hi3 ⊢
        simpa using hi3
      obtain ⟨o, ho⟩ : ∃ o, ops[i]? = some o := ⟨_, Array.getElem?_eq_getElem hisz⟩
      obtain ⟨e, he⟩ : ∃ e, es[i]? = some e := ⟨es[i]'(by rw [hlen]; simpa using hisz), List.getElem?_eq_getElem _⟩
      have htri := (hzip i o e).2 ⟨ho, he⟩
      have hedges : ∀ o' e', ops.toList[i]? = some o' → e' ∈ o'.after.toList → Region.binds .any e' = true → listed.getD e'.on false = true := by
        intro o' e' ho' he' hb'
        rw [Array.getElem?_toList] at ho'
        rw [ho'] at hi4
        simp only [Option.map_some, Option.getD_some] at hi4
        rw [Array.all_eq_true_iff_forall_mem] at hi4
        have := hi4 e' (Array.mem_toList_iff.1 he')
        simpa [hb'] using this
      -- those ahead that are not done, and those behind that are: apart
      have ahead : ∀ k o' e', k < i → (ops.toList.zip es)[k]? = some (o', e') → listed.getD k false = false → Apart (ops.toList.map (·.dst)) o' e' o e := by
        intro k o' e' hk hz hD
        rcases pair k i o' e' o e hk hz htri with hr | hr
        · have := hr.closed (D := fun i => listed.getD i false) hcl hedges
          simp only [hD] at this
          cases this
        · exact hr
      have behind : ∀ k o' e', i < k → (ops.toList.zip es)[k]? = some (o', e') → listed.getD k false = true → Apart (ops.toList.map (·.dst)) o e o' e' := by
        intro k o' e' hk hz hD
        rcases pair i k o e o' e' hk htri hz with hr | hr
        · have := hr.closed (D := fun i => listed.getD i false) hcl fun o2 e2 ho2 he2 hb2 => hcl k o2 e2 hD ho2 he2 hb2
          simp only [hDi] at this
          cases this
        · exact hr
      have hat0 := tr_at 0 htr i o e htri
      have hat : OpAt E (ops.toList.map (·.dst)) (runD (fun i => listed.getD i false) 0 (ops.toList.zip es) (s.slot, s.at)) o e := by
        refine op_at_congr hat0 (fun t ht => run_slot (fun k o' e' hz hd => ?_) rfl) (fun f hf key hkey => run_mem (fun k o' e' hz hd => ?_) rfl)
        · simp only [Nat.zero_add]
          rcases Nat.lt_trichotomy k i with hlt | heq | hgt
          · cases hD : listed.getD k false with
            | true => simp [hlt]
            | false => exact absurd ht ((ahead k o' e' hlt hz hD).a1 t hd)
          · subst heq; simp [hDi]
          · cases hD : listed.getD k false with
            | false => simp; omega
            | true => exact absurd ht ((behind k o' e' hgt hz hD).a3 t hd)
        · simp only [Nat.zero_add]
          rcases Nat.lt_trichotomy k i with hlt | heq | hgt
          · cases hD : listed.getD k false with
            | true => simp [hlt]
            | false => exact absurd hkey (((ahead k o' e' hlt hz hD).a4 key hd).2 f hf)
          · subst heq; simp [hDi]
          · cases hD : listed.getD k false with
            | false => simp; omega
            | true => exact absurd hkey ((behind k o' e' hgt hz hD).a5 key hd f hf)
      have hsz' : (listed.setIfInBounds i true).size = ops.size := by simpa using hsz
      have hget : ∀ k, (listed.setIfInBounds i true).getD k false = if k = i then true else listed.getD k false := by
        intro k
        rw [Array.getD_eq_getD_getElem?, Array.getElem?_setIfInBounds]
        by_cases hk : i = k
        · subst hk; rw [if_pos rfl, if_pos (by omega), if_pos rfl]; rfl
        · rw [if_neg hk, if_neg (fun e => hk e.symm), Array.getD_eq_getD_getElem?]
      have hins : runD (fun k => (listed.setIfInBounds i true).getD k false) 0 (ops.toList.zip es) (s.slot, s.at) = stepF o e (runD (fun k => listed.getD k false) 0 (ops.toList.zip es) (s.slot, s.at)) :=
        run_insert (j := i) (fun k hk => by simp only [hget, if_neg hk]) (by simp [hget]) hDi (Nat.zero_le _) (by simpa using htri) fun k o' e' hz hlt hD => by
          simp only [Nat.zero_add] at hlt hD
          have := behind k o' e' hlt hz hD
          exact ⟨this.a2, fun key hk => (this.a4 key hk).1⟩
      have hcl' : ClosedD ops.toList (fun k => (listed.setIfInBounds i true).getD k false) := by
        intro j o' e' hj ho' he' hb'
        simp only [hget] at hj ⊢
        split
        · rfl
        · split at hj
          · rename_i hji; subst hji; exact hedges o' e' ho' he' hb'
          · exact hcl j o' e' hj ho' he' hb'
      have hcnt' : ((List.range ops.size).filter fun k => !(listed.setIfInBounds i true).getD k false).length ≤ fuel := by
        have := count_lt (p := fun k => !listed.getD k false) (q := fun k => !(listed.setIfInBounds i true).getD k false) (fun k hk => by
          simp only [hget] at hk
          split at hk
          · cases hk
          · exact hk) (List.mem_range.2 hisz) (by simp [hDi]) (by simp [hget])
        omega
      have go : ∀ a' w', Stands w0 lent wr0 n (stepF o e (runD (fun k => listed.getD k false) 0 (ops.toList.zip es) (s.slot, s.at))).1 (stepF o e (runD (fun k => listed.getD k false) 0 (ops.toList.zip es) (s.slot, s.at))).2 a' w' → wpAny P .any ops Q fuel (listed.setIfInBounds i true) a' w' := fun a' w' hst' =>
        ih _ a' w' hsz' hcnt' hcl' (by rw [hins]; exact hst')
      have hoko := hok' o (by rw [← Array.getElem?_toList] at ho; exact List.mem_of_getElem? ho)
      have hdst := opOk_dst hoko
      have hbind : ∀ (j : Nat) (d : Nat), (ops.toList.map fun x : Oper => x.dst)[j]? = some (some d) → (ops[j]?).bind (fun x : Oper => x.dst) = some d := by
        intro j d hd
        rw [List.getElem?_map] at hd
        rw [← Array.getElem?_toList]
        cases hq : ops.toList[j]? with
        | none => rw [hq] at hd; cases hd
        | some q => rw [hq] at hd; simpa using hd
      have hguard : ∀ (j : Nat) (b : Bool) (d : Nat), o.guard = some (j, b) → (ops.toList.map fun x : Oper => x.dst)[j]? = some (some d) → d < n := by
        intro j b d hg hd
        obtain ⟨d', hd', hn⟩ := opOk_guard hoko hg
        rw [hd] at hd'
        cases hd'
        exact hn
      unfold wpOp
      simp only [ho]
      cases e with
      | some e =>
        have hw : Region.wanted o (yielded ops a.tmps) = true := by
          unfold Region.wanted
          cases hg : o.guard with
          | none => rfl
          | some g =>
            obtain ⟨j, b⟩ := g
            obtain ⟨d, hd, hx⟩ := hat.1 j b hg
            simp [yields_bool hst (hbind j d hd) (hguard j b d hg hd) hx]
        rw [if_pos hw]
        left
        refine stands_op hE hst hdst hat.2 (fun id hid => ?_) fun a' w' hst' => go a' w' hst'
        obtain ⟨c1, c2⟩ := tr_clean htr i o e htri id hid
        refine run_clean c1.f fun k o' e' hz hD hm => ?_
        simp only [Nat.zero_add] at hD
        rcases Nat.lt_trichotomy k i with hlt | heq | hgt
        · exact c2 k o' e' hlt hz hm
        · subst heq; rw [hDi] at hD; cases hD
        · exact (behind k o' e' hgt hz hD).a6 e rfl id hid hm
      | none =>
        obtain ⟨j, b, d, hg, hd, hx⟩ := hat
        have hw : ¬ Region.wanted o (yielded ops a.tmps) = true := by
          unfold Region.wanted
          rw [hg]
          rcases hx with hx | ⟨v, hx⟩
          · simp [yields_bool hst (hbind j d hd) (hguard j b d hg hd) hx]
          · simp [yields_none hst (hbind j d hd) (hguard j b d hg hd) hx]
        rw [if_neg hw]
        exact go _ _ (stands_skip hst hdst)
  refine main ops.size _ a _ (by simp) ?_ (fun j o e hj => ?_) ?_
  · exact Nat.le_trans (List.length_filter_le _ _) (by simp)
  · have : (Array.replicate ops.size false).getD j false = false := by
      simp [Array.getD_eq_getD_getElem?, Array.getElem?_replicate]
      split <;> rfl
    simp only [this] at hj
    cases hj
  · have : (fun i => (Array.replicate ops.size false).getD i false) = fun _ => false := by
      funext i
      simp [Array.getD_eq_getD_getElem?, Array.getElem?_replicate]
      split <;> rfl
    rw [this, run_none fun _ _ => rfl]
    exact drew_stands hs
end Go.PM
