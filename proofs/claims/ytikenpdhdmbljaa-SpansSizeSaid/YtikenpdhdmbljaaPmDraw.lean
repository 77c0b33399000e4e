/- Regions whose order is drawn: if no two operations meet that may come up in either order, the text's order tells all. -/
import Derived.Test.YtikenpdhdmbljaaPmLocal
import Derived.Orders
set_option linter.unusedSimpArgs false
set_option linter.unusedVariables false
set_option linter.unusedSectionVars false
set_option linter.unnecessarySimpa false
namespace Go.PM
variable {P : Program} {E : Env} {w0 : World} {lent wr0 : Nat → Prop} {n : Nat}

abbrev SM := (Nat → PV) × Mem
def stepF (o : Oper) (e : Option Eff) (x : SM) : SM := match e with
  | some e => (setS x.1 o.dst e.val, updM e.wr x.2)
  | none => (setS x.1 o.dst tupV, x.2)
/-- What stands when those of D are done: the text's last writer among them. -/
def runD (D : Nat → Bool) : Nat → List (Oper × Option Eff) → SM → SM
  | _, [], x => x
  | i, (o, e) :: r, x => runD D (i + 1) r (if D i = true then stepF o e x else x)

def keysE : Option Eff → List Key
  | some e => e.wr.map (·.1)
  | none => []

theorem updM_hit : ∀ {r : List (Key × Option MC)} {m m' : Mem} {k : Key}, k ∈ r.map (·.1) → updM r m k = updM r m' k
  | (k0, v) :: r, m, m', k, h => by
    simp only [updM]
    split
    · rfl
    · rename_i hne
      simp only [List.map_cons, List.mem_cons] at h
      exact updM_hit (h.resolve_left (fun e => hne e.symm))
theorem updM_miss : ∀ {r : List (Key × Option MC)} {m : Mem} {k : Key}, k ∉ r.map (·.1) → updM r m k = m k
  | [], m, k, h => rfl
  | (k0, v) :: r, m, k, h => by
    simp only [List.map_cons, List.mem_cons, not_or] at h
    simp only [updM]
    rw [if_neg (fun e => h.1 e.symm), updM_miss h.2]

theorem step_slot {o : Oper} {e : Option Eff} {x x' : SM} {t : Nat} (h : o.dst ≠ some t → x.1 t = x'.1 t) : (stepF o e x).1 t = (stepF o e x').1 t := by
  have key : ∀ p : PV, setS x.1 o.dst p t = setS x'.1 o.dst p t := fun p => by
    cases hd : o.dst with
    | none => exact h (by rw [hd]; simp)
    | some d =>
      simp only [setS]
      split
      · rfl
      · rename_i hne; exact h (by rw [hd]; simpa using hne)
  cases e <;> exact key _
theorem step_slot_other {o : Oper} {e : Option Eff} {x : SM} {t : Nat} (h : o.dst ≠ some t) : (stepF o e x).1 t = x.1 t := by
  have key : ∀ p : PV, setS x.1 o.dst p t = x.1 t := fun p => by
    cases hd : o.dst with
    | none => rfl
    | some d =>
      simp only [setS]
      rw [if_neg (fun e => h (by rw [hd, e]))]
  cases e <;> exact key _
theorem step_mem {o : Oper} {e : Option Eff} {x x' : SM} {k : Key} (h : k ∉ keysE e → x.2 k = x'.2 k) : (stepF o e x).2 k = (stepF o e x').2 k := by
  cases e with
  | none => exact h (by simp [keysE])
  | some e =>
    show updM e.wr x.2 k = updM e.wr x'.2 k
    by_cases hk : k ∈ e.wr.map (·.1)
    · exact updM_hit hk
    · rw [updM_miss hk, updM_miss hk]; exact h hk
theorem step_mem_other {o : Oper} {e : Option Eff} {x : SM} {k : Key} (h : k ∉ keysE e) : (stepF o e x).2 k = x.2 k := by
  cases e with
  | none => rfl
  | some e => exact updM_miss h

theorem run_slot : ∀ {tr : List (Oper × Option Eff)} {i : Nat} {D D' : Nat → Bool} {x x' : SM} {t : Nat}, (∀ k o e, tr[k]? = some (o, e) → o.dst = some t → D (i + k) = D' (i + k)) → x.1 t = x'.1 t → (runD D i tr x).1 t = (runD D' i tr x').1 t
  | [], _, _, _, _, _, _, _, h => h
  | (o, e) :: r, i, D, D', x, x', t, hD, h => by
    simp only [runD]
    refine run_slot (fun k o' e' hk hd => ?_) ?_
    · have := hD (k + 1) o' e' hk hd
      rwa [show i + (k + 1) = i + 1 + k by omega] at this
    · by_cases hd : o.dst = some t
      · have := hD 0 o e rfl hd
        simp only [Nat.add_zero] at this
        rw [this]
        split
        · exact step_slot fun h' => absurd hd h'
        · exact h
      · split <;> split <;> first | exact h | (simp only [step_slot_other hd]; exact h)
theorem run_mem : ∀ {tr : List (Oper × Option Eff)} {i : Nat} {D D' : Nat → Bool} {x x' : SM} {k : Key}, (∀ j o e, tr[j]? = some (o, e) → k ∈ keysE e → D (i + j) = D' (i + j)) → x.2 k = x'.2 k → (runD D i tr x).2 k = (runD D' i tr x').2 k
  | [], _, _, _, _, _, _, _, h => h
  | (o, e) :: r, i, D, D', x, x', k, hD, h => by
    simp only [runD]
    refine run_mem (fun j o' e' hj hd => ?_) ?_
    · have := hD (j + 1) o' e' hj hd
      rwa [show i + (j + 1) = i + 1 + j by omega] at this
    · by_cases hd : k ∈ keysE e
      · have := hD 0 o e rfl hd
        simp only [Nat.add_zero] at this
        rw [this]
        split
        · exact step_mem fun h' => absurd hd h'
        · exact h
      · split <;> split <;> first | exact h | (simp only [step_mem_other hd]; exact h)

/-- Two that do not meet: either way. -/
def Far (o : Oper) (e : Option Eff) (o' : Oper) (e' : Option Eff) : Prop := (∀ t, o.dst = some t → o'.dst ≠ some t) ∧ ∀ k, k ∈ keysE e → k ∉ keysE e'

theorem step_comm {o o' : Oper} {e e' : Option Eff} (h : Far o e o' e') (x : SM) : stepF o' e' (stepF o e x) = stepF o e (stepF o' e' x) := by
  refine Prod.ext (funext fun t => ?_) (funext fun k => ?_)
  · by_cases h1 : o.dst = some t
    · rw [step_slot_other (h.1 t h1)]
      exact step_slot fun h' => absurd h1 h'
    · rw [step_slot_other h1]
      exact step_slot fun _ => step_slot_other h1
  · by_cases h1 : k ∈ keysE e
    · rw [step_mem_other (h.2 k h1)]
      exact step_mem fun h' => absurd h1 h'
    · rw [step_mem_other h1]
      exact step_mem fun _ => step_mem_other h1

theorem run_comm {o : Oper} {e : Option Eff} : ∀ {tr : List (Oper × Option Eff)} {i : Nat} {D : Nat → Bool} {x : SM}, (∀ k o' e', tr[k]? = some (o', e') → D (i + k) = true → Far o e o' e') → runD D i tr (stepF o e x) = stepF o e (runD D i tr x)
  | [], _, _, _, _ => rfl
  | (o', e') :: r, i, D, x, h => by
    simp only [runD]
    have ih := run_comm (o := o) (e := e) (tr := r) (i := i + 1) (D := D) (x := if D i = true then stepF o' e' x else x) fun k o2 e2 hk hD => h (k + 1) o2 e2 hk (by rwa [show i + (k + 1) = i + 1 + k by omega])
    rw [← ih]
    split
    · rename_i hD
      rw [step_comm (h 0 o' e' rfl (by simpa using hD))]
    · rfl

/-- One more is done. -/
theorem run_insert {j : Nat} {o : Oper} {e : Option Eff} {D D' : Nat → Bool} (hD' : ∀ i, i ≠ j → D' i = D i) (hj : D' j = true) (hjD : D j = false) : ∀ {tr : List (Oper × Option Eff)} {i : Nat} {x : SM}, i ≤ j → tr[j - i]? = some (o, e) → (∀ k o' e', tr[k]? = some (o', e') → j < i + k → D (i + k) = true → Far o e o' e') →
    runD D' i tr x = stepF o e (runD D i tr x)
  | [], i, x, _, h, _ => by simp at h
  | (o', e') :: r, i, x, hle, h, hfar => by
    simp only [runD]
    by_cases hij : i = j
    · subst hij
      simp only [Nat.sub_self, List.getElem?_cons_zero, Option.some.injEq, Prod.mk.injEq] at h
      obtain ⟨rfl, rfl⟩ := h
      rw [if_pos hj, if_neg (by rw [hjD]; simp)]
      have : ∀ (tr : List (Oper × Option Eff)) (i0 : Nat) (x : SM), i < i0 → runD D' i0 tr x = runD D i0 tr x := by
        intro tr
        induction tr with
        | nil => intro _ _ _; rfl
        | cons y r ih =>
          intro i0 x hlt
          obtain ⟨o2, e2⟩ := y
          simp only [runD]
          rw [ih _ _ (by omega), hD' i0 (by omega)]
      rw [this _ _ _ (by omega)]
      exact run_comm fun k o2 e2 hk hD => hfar (k + 1) o2 e2 hk (by omega) (by rwa [show i + (k + 1) = i + 1 + k by omega])
    · rw [hD' i hij]
      refine run_insert hD' hj hjD (by omega) ?_ fun k o2 e2 hk hlt hD => hfar (k + 1) o2 e2 hk (by omega) (by rwa [show i + (k + 1) = i + 1 + k by omega])
      rw [show j - i = (j - (i + 1)) + 1 by omega] at h
      exact h

/-- What an operation leaves that leads somewhere. -/
def Mentions (o : Oper) (e : Option Eff) (id : Nat) : Prop := ∃ e', e = some e' ∧ ((o.dst ≠ none ∧ id ∈ e'.val.refs) ∨ ∃ x ∈ e'.wr, x.1.1 = id ∨ id ∈ MC.refs x.2)

theorem step_clean {o : Oper} {e : Option Eff} {x : SM} {id : Nat} (h : CleanF x.1 x.2 id) (hm : ¬ Mentions o e id) : CleanF (stepF o e x).1 (stepF o e x).2 id := by
  have hsl : ∀ p : PV, (o.dst ≠ none → id ∉ p.refs) → ∀ t, id ∉ (setS x.1 o.dst p t).refs := fun p hp t => by
    cases hd : o.dst with
    | none => exact h.1 t
    | some d =>
      simp only [setS]
      split
      · exact hp (by rw [hd]; simp)
      · exact h.1 t
  cases e with
  | none => exact ⟨hsl tupV (fun _ => by simp [tupV, PV.refs]), h.2⟩
  | some e =>
    have look : ∀ i j y, updM e.wr x.2 (i, j) = some y → ((i, j), some y) ∈ e.wr ∨ x.2 (i, j) = some y := fun i j y hy => by
      rcases updM_cases e.wr x.2 (i, j) with ⟨v, h1, h2⟩ | ⟨_, h2⟩
      · rw [hy] at h2; subst h2; exact .inl h1
      · rw [hy] at h2; exact .inr h2.symm
    refine ⟨hsl e.val (fun hd hid => hm ⟨e, rfl, .inl ⟨hd, hid⟩⟩), fun j => ?_, fun i j p hp hid => ?_⟩
    · cases hq : updM e.wr x.2 (id, j) with
      | none => exact hq
      | some y =>
        rcases look id j y hq with h1 | h1
        · exact absurd ⟨e, rfl, .inr ⟨_, h1, .inl rfl⟩⟩ hm
        · rw [h.2.1 j] at h1; cases h1
    · rcases look i j _ hp with h1 | h1
      · exact hm ⟨e, rfl, .inr ⟨_, h1, .inr hid⟩⟩
      · exact h.2.2 i j p h1 hid
theorem run_clean {id : Nat} : ∀ {tr : List (Oper × Option Eff)} {i : Nat} {D : Nat → Bool} {x : SM}, CleanF x.1 x.2 id → (∀ k o e, tr[k]? = some (o, e) → D (i + k) = true → ¬ Mentions o e id) → CleanF (runD D i tr x).1 (runD D i tr x).2 id
  | [], _, _, _, h, _ => h
  | (o, e) :: r, i, D, x, h, hm => by
    simp only [runD]
    refine run_clean ?_ fun k o2 e2 hk hD => hm (k + 1) o2 e2 hk (by rwa [show i + (k + 1) = i + 1 + k by omega])
    split
    · rename_i hD
      exact step_clean h (hm 0 o e rfl (by simpa using hD))
    · exact h

/-- What holds of an operation where it comes up. -/
def OpAt (E : Env) (dsts : List (Option Nat)) (x : SM) (o : Oper) : Option Eff → Prop
  | some e => (∀ j b, o.guard = some (j, b) → ∃ d, dsts[j]? = some (some d) ∧ x.1 d = .c (.lit (.bool b))) ∧ evalOp E.T E.S (evOf x.1) x.2 (o.dst.getD 0) o.op = some e
  | none => ∃ j b d, o.guard = some (j, b) ∧ dsts[j]? = some (some d) ∧ (x.1 d = .c (.lit (.bool (!b))) ∨ ∃ v, x.1 d = .c (.lit (.tuple v)))

theorem op_at_congr {dsts : List (Option Nat)} {x x' : SM} {o : Oper} {e : Option Eff} (h : OpAt E dsts x o e) (hs : ∀ t ∈ slotsOf dsts o, x.1 t = x'.1 t) (hm : ∀ e', e = some e' → ∀ k ∈ e'.rd, x.2 k = x'.2 k) : OpAt E dsts x' o e := by
  have guard : ∀ j b d, o.guard = some (j, b) → dsts[j]? = some (some d) → x.1 d = x'.1 d := fun j b d hg hd => hs d (by
    unfold slotsOf
    refine List.mem_append_right _ ?_
    rw [hg]
    simp [hd])
  cases e with
  | some e =>
    refine ⟨fun j b hg => ?_, ?_⟩
    · obtain ⟨d, hd, hx⟩ := h.1 j b hg
      exact ⟨d, hd, by rw [← guard j b d hg hd]; exact hx⟩
    · have h1 : evalOp E.T E.S (evOf x'.1) x.2 (o.dst.getD 0) o.op = some e := by
        rw [← h.2]
        refine (eval_ev fun y hy => ?_).symm
        cases y with
        | tmp t => exact hs t (by
            unfold slotsOf
            exact List.mem_append_left _ (List.mem_filterMap.2 ⟨.tmp t, Array.mem_toList_iff.2 hy, rfl⟩))
        | const v => rfl
        | global g => rfl
        | func f => rfl
      exact eval_local h1 (hm e rfl)
  | none =>
    obtain ⟨j, b, d, hg, hd, hx⟩ := h
    exact ⟨j, b, d, hg, hd, by rw [← guard j b d hg hd]; exact hx⟩
end Go.PM
