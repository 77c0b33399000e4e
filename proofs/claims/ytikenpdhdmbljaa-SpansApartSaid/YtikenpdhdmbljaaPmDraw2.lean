/- Regions whose order is drawn: the text's order tells all. -/
import Derived.Test.YtikenpdhdmbljaaPmDraw
set_option linter.unusedSimpArgs false
set_option linter.unusedVariables false
set_option linter.unusedSectionVars false
set_option linter.unnecessarySimpa false
namespace Go.PM
open Go.RowKit (Below)
variable {P : Program} {E : Env} {w0 : World} {lent wr0 : Nat → Prop} {n : Nat}

def appE (s : St) (o : Oper) : Option Eff → St
  | some e => s.app o.dst e
  | none => skipped s o.dst
theorem appE_F (s : St) (o : Oper) (e : Option Eff) : ((appE s o e).slot, (appE s o e).at) = stepF o e (s.slot, s.at) := by
  cases e with
  | some e => exact Prod.ext (slot_app _ _ _) (at_app _ _ _)
  | none => exact Prod.ext (slot_app _ _ _) (at_app _ _ _)
theorem appE_clean {s : St} {o : Oper} {e : Option Eff} {id : Nat} (h : CleanL (appE s o e) id) : CleanL s id ∧ ¬ Mentions o e id := by
  have key : ∀ f : Eff, CleanL (s.app o.dst f) id → CleanL s id ∧ (o.dst ≠ none → id ∉ f.val.refs) ∧ ∀ x ∈ f.wr, x.1.1 ≠ id ∧ id ∉ MC.refs x.2 := by
    intro f h
    obtain ⟨h1, h2⟩ := h
    have h2 : ∀ x ∈ f.wr ++ s.mem, x.1.1 ≠ id ∧ id ∉ MC.refs x.2 := h2
    refine ⟨⟨fun x hx => ?_, fun x hx => h2 x (List.mem_append_right _ hx)⟩, fun hd => ?_, fun x hx => h2 x (List.mem_append_left _ hx)⟩
    · refine h1 x ?_
      unfold St.app
      cases o.dst with
      | none => exact hx
      | some d => exact List.mem_cons_of_mem _ hx
    · unfold St.app at h1
      cases hq : o.dst with
      | none => exact absurd hq hd
      | some d =>
        rw [hq] at h1
        exact h1 (d, f.val) (by simp)
  cases e with
  | some e =>
    obtain ⟨a, b, c⟩ := key e h
    refine ⟨a, ?_⟩
    rintro ⟨e', he, hm⟩
    cases he
    rcases hm with ⟨h1, h2⟩ | ⟨x, hx, hh⟩
    · exact b h1 h2
    · rcases hh with hh | hh
      · exact (c x hx).1 hh
      · exact (c x hx).2 hh
  | none =>
    refine ⟨(key _ h).1, ?_⟩
    rintro ⟨e', he, _⟩
    cases he

def TrOk (E : Env) (dsts : List (Option Nat)) : List Oper → List (Option Eff) → St → St → Prop
  | [], [], s, s' => s = s'
  | o :: os, e :: es, s, s' => ∃ s1 : St, s1.slot = s.slot ∧ s1.at = s.at ∧ (∀ id, CleanL s1 id → CleanL s id) ∧ OpAt E dsts (s.slot, s.at) o e ∧ (∀ e', e = some e' → ∀ id ∈ e'.new, CleanL s1 id) ∧ TrOk E dsts os es (appE s1 o e) s'
  | _, _, _, _ => False

theorem trace_of {dsts : List (Option Nat)} {K : Acc → St → Prop} : ∀ (l : List Oper), (∀ o ∈ l, opOk n dsts o = true) → ∀ (acc : Acc) (s : St), wpOpsP E dsts l K acc s → ∃ es s', TrOk E dsts l es s s' ∧ K ((es.map fun e => e.map Eff.foot).reverse ++ acc) s'
  | [], _, acc, s, h => ⟨[], s, rfl, by simpa [wpOpsP] using h⟩
  | o :: l, hok, acc, s, h => by
    have ho := hok o (by simp)
    have ih := trace_of (K := K) l (fun o ho => hok o (by simp [ho]))
    simp only [wpOpsP] at h
    cases hg : o.guard with
    | none =>
      rw [hg] at h
      simp only [] at h
      cases he : doesOp E s o with
      | none => rw [he] at h; exact h.elim
      | some e =>
        rw [he] at h
        obtain ⟨hc, h⟩ := h
        obtain ⟨es, s', h1, h2⟩ := ih _ _ h
        refine ⟨some e :: es, s', ⟨s, rfl, rfl, fun _ h => h, ⟨(fun j b hj => by rw [hg] at hj; cases hj), he⟩, fun e' he' id hid => ?_, h1⟩, ?_⟩
        · cases he'; exact clean_spec (List.all_eq_true.1 hc id hid)
        · simpa [Eff.acc] using h2
    | some g =>
      obtain ⟨j, x⟩ := g
      rw [hg] at h
      simp only [] at h
      obtain ⟨d, hd, hdn⟩ := opOk_guard ho hg
      simp only [hd, Option.getD_some] at h
      have hcl : ∀ p : PV, ∀ id, CleanL (s.set d p) id → CleanL s id := fun p id hc => ⟨fun y hy => hc.1 y (List.mem_cons_of_mem _ hy), hc.2⟩
      rcases guardW_cases h with ⟨hp, h⟩ | ⟨hp, h⟩ | ⟨v, hp, h⟩
      · have hs := slot_set s d _ hp
        cases he : doesOp E (s.set d (.c (.lit (.bool x)))) o with
        | none => rw [he] at h; exact h.elim
        | some e =>
          rw [he] at h
          obtain ⟨hc, h⟩ := h
          obtain ⟨es, s', h1, h2⟩ := ih _ _ h
          refine ⟨some e :: es, s', ⟨s.set d (.c (.lit (.bool x))), hs, rfl, hcl _, ⟨fun j' b hj => ?_, ?_⟩, fun e' he' id hid => ?_, h1⟩, ?_⟩
          · rw [hg] at hj
            cases hj
            exact ⟨d, hd, hp⟩
          · have he : evalOp E.T E.S (evOf (s.set d _).slot) _ _ _ = some e := he
            rw [hs] at he
            exact he
          · cases he'; exact clean_spec (List.all_eq_true.1 hc id hid)
          · simpa [Eff.acc] using h2
      · have hs := slot_set s d _ hp
        obtain ⟨es, s', h1, h2⟩ := ih _ _ h
        exact ⟨none :: es, s', ⟨s.set d (.c (.lit (.bool (!x)))), hs, rfl, hcl _, ⟨j, x, d, hg, hd, .inl hp⟩, (fun e' he' => by cases he'), h1⟩, by simpa using h2⟩
      · obtain ⟨es, s', h1, h2⟩ := ih _ _ h
        exact ⟨none :: es, s', ⟨s, rfl, rfl, fun _ h => h, ⟨j, x, d, hg, hd, .inr ⟨v, hp⟩⟩, (fun e' he' => by cases he'), h1⟩, by simpa using h2⟩

theorem tr_len {dsts : List (Option Nat)} : ∀ {l : List Oper} {es : List (Option Eff)} {s s' : St}, TrOk E dsts l es s s' → es.length = l.length
  | [], [], _, _, _ => rfl
  | [], _ :: _, _, _, h => h.elim
  | _ :: _, [], _, _, h => h.elim
  | o :: l, e :: es, s, s', ⟨s1, _, _, _, _, _, h⟩ => by simp [tr_len h]

theorem run_none {D : Nat → Bool} : ∀ {tr : List (Oper × Option Eff)} {i : Nat} {x : SM}, (∀ k, i ≤ k → D k = false) → runD D i tr x = x
  | [], _, _, _ => rfl
  | (o, e) :: r, i, x, h => by
    simp only [runD]
    rw [if_neg (by rw [h i (Nat.le_refl _)]; simp)]
    exact run_none fun k hk => h k (by omega)

theorem tr_at {dsts : List (Option Nat)} : ∀ {l : List Oper} {es : List (Option Eff)} {s s' : St} (i0 : Nat), TrOk E dsts l es s s' → ∀ j o e, (l.zip es)[j]? = some (o, e) → OpAt E dsts (runD (fun i => decide (i < i0 + j)) i0 (l.zip es) (s.slot, s.at)) o e
  | [], [], _, _, _, _, j, o, e, h => by simp at h
  | [], _ :: _, _, _, _, h, _, _, _, _ => h.elim
  | _ :: _, [], _, _, _, h, _, _, _, _ => h.elim
  | o1 :: l, e1 :: es, s, s', i0, ⟨s1, a1, a2, _, a4, _, a6⟩, j, o, e, h => by
    cases j with
    | zero =>
      simp only [List.zip_cons_cons, List.getElem?_cons_zero, Option.some.injEq, Prod.mk.injEq] at h
      obtain ⟨rfl, rfl⟩ := h
      rw [run_none fun k hk => by simp; omega]
      exact a4
    | succ j =>
      have ih := tr_at (i0 + 1) a6 j o e h
      simp only [List.zip_cons_cons, runD]
      rw [if_pos (by simp)]
      rw [appE_F, a1, a2] at ih
      simpa [show i0 + (j + 1) = i0 + 1 + j by omega] using ih

theorem tr_end {dsts : List (Option Nat)} {D : Nat → Bool} : ∀ {l : List Oper} {es : List (Option Eff)} {s s' : St} (i0 : Nat), TrOk E dsts l es s s' → (∀ k, k < i0 + l.length → D k = true) → (s'.slot, s'.at) = runD D i0 (l.zip es) (s.slot, s.at)
  | [], [], _, _, _, h, _ => by cases h; rfl
  | [], _ :: _, _, _, _, h, _ => h.elim
  | _ :: _, [], _, _, _, h, _ => h.elim
  | o1 :: l, e1 :: es, s, s', i0, ⟨s1, a1, a2, _, a4, _, a6⟩, hD => by
    have ih := tr_end (D := D) (i0 + 1) a6 fun k hk => hD k (by simp; omega)
    simp only [List.zip_cons_cons, runD]
    rw [if_pos (hD i0 (by simp)), ih, appE_F, a1, a2]

theorem tr_clean {dsts : List (Option Nat)} : ∀ {l : List Oper} {es : List (Option Eff)} {s s' : St}, TrOk E dsts l es s s' → ∀ (j : Nat) (o : Oper) (e : Eff), (l.zip es)[j]? = some (o, some e) → ∀ id ∈ e.new, CleanL s id ∧ ∀ (i : Nat) (o' : Oper) (e' : Option Eff), i < j → (l.zip es)[i]? = some (o', e') → ¬ Mentions o' e' id
  | [], [], _, _, _, j, o, e, h => by simp at h
  | [], _ :: _, _, _, h, _, _, _, _ => h.elim
  | _ :: _, [], _, _, h, _, _, _, _ => h.elim
  | o1 :: l, e1 :: es, s, s', ⟨s1, a1, a2, a3, _, a5, a6⟩, j, o, e, h => by
    intro id hid
    cases j with
    | zero =>
      simp only [List.zip_cons_cons, List.getElem?_cons_zero, Option.some.injEq, Prod.mk.injEq] at h
      exact ⟨a3 id (a5 e h.2 id hid), fun i _ _ hi => absurd hi (by omega)⟩
    | succ j =>
      obtain ⟨h1, h2⟩ := tr_clean a6 j o e h id hid
      obtain ⟨h3, h4⟩ := appE_clean h1
      refine ⟨a3 id h3, fun i o' e' hi hi' => ?_⟩
      cases i with
      | zero =>
        simp only [List.zip_cons_cons, List.getElem?_cons_zero, Option.some.injEq, Prod.mk.injEq] at hi'
        obtain ⟨rfl, rfl⟩ := hi'
        exact h4
      | succ i => exact h2 i o' e' (by omega) hi'

/-! Which must come ahead of which. -/
inductive Reach (ops : List Oper) : Nat → Nat → Prop
  | edge {j : Nat} {o : Oper} {e : Edge} (ho : ops[j]? = some o) (he : e ∈ o.after.toList) (hb : Region.binds .any e = true) : Reach ops j e.on
  | trans {j i : Nat} {o : Oper} {e : Edge} (ho : ops[j]? = some o) (he : e ∈ o.after.toList) (hb : Region.binds .any e = true) (h : Reach ops e.on i) : Reach ops j i

theorem fold_bits {acc : List Nat} {i : Nat} : ∀ (es : List Edge) (n : Nat), (es.foldl (fun n e => if Region.binds .any e then n ||| 2 ^ e.on ||| acc.getD e.on 0 else n) n).testBit i = true → n.testBit i = true ∨ ∃ e ∈ es, Region.binds .any e = true ∧ (e.on = i ∨ (acc.getD e.on 0).testBit i = true)
  | [], n, h => .inl h
  | e :: es, n, h => by
    simp only [List.foldl_cons] at h
    rcases fold_bits es _ h with h | ⟨e', he', hb⟩
    · split at h
      · rename_i hb
        simp only [Nat.testBit_or, Bool.or_eq_true, Nat.testBit_two_pow, decide_eq_true_eq] at h
        rcases h with (h | h) | h
        · exact .inl h
        · exact .inr ⟨e, by simp, hb, .inl h⟩
        · exact .inr ⟨e, by simp, hb, .inr h⟩
      · exact .inl h
    · exact .inr ⟨e', List.mem_cons_of_mem _ he', hb⟩

theorem befores_acc {ops : List Oper} : ∀ (l : List Oper) (acc : List Nat), (∀ k, l[k]? = ops[acc.length + k]?) → (∀ j i, (acc.getD j 0).testBit i = true → Reach ops j i) → ∀ j i, ((befores l acc).getD j 0).testBit i = true → Reach ops j i
  | [], acc, _, h, j, i, hb => h j i hb
  | o :: r, acc, hl, h, j, i, hb => by
    refine befores_acc r _ (fun k => ?_) (fun j i hb => ?_) j i hb
    · have := hl (k + 1)
      simpa [show acc.length + (k + 1) = acc.length + 1 + k by omega] using this
    · rw [List.getD_eq_getElem?_getD, List.getElem?_append] at hb
      split at hb
      · rename_i hj
        exact h j i (by rw [List.getD_eq_getElem?_getD]; exact hb)
      · rename_i hj
        by_cases hj0 : j = acc.length
        · subst hj0
          simp only [Nat.sub_self, List.getElem?_cons_zero, Option.getD_some] at hb
          have ho : ops[acc.length]? = some o := by simpa using (hl 0).symm
          rcases fold_bits _ _ hb with hz | ⟨e, he, hbi, hcase⟩
          · simp at hz
          · rcases hcase with rfl | hcase
            · exact .edge ho he hbi
            · exact .trans ho he hbi (h _ _ hcase)
        · have : ([((o.after.toList.foldl (fun n e => if Region.binds .any e then n ||| 2 ^ e.on ||| acc.getD e.on 0 else n) 0))] : List Nat)[j - acc.length]? = none := by
            rw [List.getElem?_eq_none_iff]; simp; omega
          rw [this] at hb
          simp at hb

theorem befores_reach {ops : List Oper} {j i : Nat} (h : ((befores ops []).getD j 0).testBit i = true) : Reach ops j i :=
  befores_acc ops [] (fun k => by simp) (fun j i hb => by simp at hb) j i h

def ClosedD (ops : List Oper) (D : Nat → Bool) : Prop := ∀ j o e, D j = true → ops[j]? = some o → e ∈ o.after.toList → Region.binds .any e = true → D e.on = true
theorem Reach.closed {ops : List Oper} {D : Nat → Bool} (hD : ClosedD ops D) {j i : Nat} (h : Reach ops j i) (hj : ∀ o e, ops[j]? = some o → e ∈ o.after.toList → Region.binds .any e = true → D e.on = true) : D i = true := by
  induction h with
  | edge ho he hb => exact hj _ _ ho he hb
  | trans ho he hb h ih => exact ih fun o' e' ho' he' hb' => hD _ _ _ (hj _ _ ho he hb) ho' he' hb'
end Go.PM
