/- Each operation of the pure machine is the machine's own. -/
import Derived.Test.YtmmipinjkbkkmaaPmCall
import Derived.Test.YtmmipinjkbkkmaaPmOps9
set_option linter.unusedSimpArgs false
set_option linter.unusedVariables false
set_option linter.unusedSectionVars false
set_option linter.unnecessarySimpa false
namespace Go.PM
open Go.RowKit (Below)
variable {P : Program} {E : Env} {w w0 : World} {wr lent wr0 : Nat → Prop} {loc : Locs} {m : Mem}

theorem array_eq {α : Type} {a : Array α} {l : List α} (h : a.toList = l) : a = l.toArray := by rw [← h]

theorem op_sound {ev : Operand → PV} {ρ : Operand → Value} (hev : EvOk w (WR m loc wr0) loc ev ρ) (hE : EnvOk P E) (hM : MInv w0 lent wr0 m loc w) {o : Oper} {d : Nat} {e : Eff} (h : evalOp E.T E.S ev m d o.op = some e)
    (hd : ∀ n ∈ e.new, Free m n) (hcl : ∀ n ∈ e.new, ∀ x, n ∉ (ev x).refs) (hwr : ∀ g, wr0 g → g < w.heap.size) : OpDone P ρ o w (OpOut w0 lent wr0 m loc w e) := by
  have hT := hE.tab
  have quiet : ∀ p rd, Quiet P w (WR m loc wr0) loc ρ o p → e = ⟨p, [], [], rd⟩ → OpDone P ρ o w (OpOut w0 lent wr0 m loc w e) := by
    intro p rd hq he
    subst he
    exact done_quiet hM hq
  have ofo : ∀ p : Option PV, ofO p = some e → ∃ v, p = some v ∧ e = ⟨v, [], [], []⟩ := fun p hp => ofO_eq_some hp
  generalize ho : o.op = op at h
  unfold evalOp at h
  split at h
  · exact quiet _ _ (q_move hev (.inl ho)) (Option.some.inj h).symm
  · exact quiet _ _ (q_move hev (.inr ho)) (Option.some.inj h).symm
  · obtain ⟨v, hv, he⟩ := ofo _ h
    exact quiet _ _ (q_pick hev ho hv) he
  · obtain ⟨ti, ht, h⟩ := onO_eq_some h
    cases h
    exact o_alloc hT hM (hd d (by simp)) ho ht
  · rename_i v
    have hh := h
    unfold boxRes at hh
    split at hh
    · have hn : e.new = [d] := by cases hh; rfl
      exact o_box hev hM (hd d (by rw [hn]; simp)) (hcl d (by rw [hn]; simp) v) ho h
    · cases hh
  · obtain ⟨ti, ht, h⟩ := onO_eq_some h
    obtain ⟨fs, hfs, h⟩ := onO_eq_some h
    obtain ⟨cs, hcs, h⟩ := onO_eq_some h
    exact quiet _ _ (q_build hev hT ho ht hfs hcs) (Option.some.inj h).symm
  · obtain ⟨te, ht, h⟩ := onO_eq_some h
    have hh := h
    unfold builtRes at hh
    split at hh
    · cases hh
    · obtain ⟨xs, _, hh⟩ := onO_eq_some hh
      exact o_built hev hT hM (hd d (by rw [← Option.some.inj hh]; simp)) ho ht h
  · obtain ⟨ti, ht, h⟩ := onO_eq_some h
    obtain ⟨p, r, he, hq⟩ := q_load hev hT hM ho ht h
    exact quiet _ _ hq he
  · obtain ⟨ti, ht, h⟩ := onO_eq_some h
    exact o_store hev hT hM ho ht h
  · obtain ⟨v, hv, he⟩ := ofo _ h
    exact quiet _ _ (q_nil hev ho hv) he
  · obtain ⟨p, he, hq⟩ := q_bin hev hT ho h
    exact quiet _ _ hq he
  · obtain ⟨v, hv, he⟩ := ofo _ h
    exact quiet _ _ (q_un hev ho hv) he
  · rename_i s t x
    by_cases hc : s = t ∧ u8Sl E.T s = true
    · rw [if_pos hc] at h
      obtain ⟨rfl, hu⟩ := hc
      exact o_const hev hT hM ho hu h
    · rw [if_neg hc] at h
      obtain ⟨k0, hk0, h⟩ := onO_eq_some h
      obtain ⟨si, hs, hk0⟩ := onO_eq_some hk0
      obtain ⟨k, hk, h⟩ := onO_eq_some h
      obtain ⟨ti, ht, hk⟩ := onO_eq_some hk
      obtain ⟨v, hv, he⟩ := ofo _ h
      exact quiet _ _ (q_conv hev hT ho hs hk0 ht hk hv) he
  · split at h
    · rename_i hf
      obtain ⟨v, hv, he⟩ := ofo _ h
      exact quiet _ _ (q_func hev ho hf hv) he
    · cases h
  · obtain ⟨te, ht, h⟩ := onO_eq_some h
    have hh := h
    obtain ⟨n, _, hh⟩ := onO_eq_some hh
    obtain ⟨k, _, hh⟩ := onO_eq_some hh
    split at hh
    · exact o_make hev hT hM (hd d (by rw [← Option.some.inj hh]; simp)) ho ht h
    · cases hh
  · obtain ⟨ti, ht, h⟩ := onO_eq_some h
    obtain ⟨p, hp, h⟩ := onO_eq_some h
    exact quiet _ _ (q_slice hev hT hM ho ht hp) (Option.some.inj h).symm
  · obtain ⟨ti, ht, h⟩ := onO_eq_some h
    obtain ⟨v, hv, he⟩ := ofo _ h
    exact quiet _ _ (q_fieldAddr hev hT ho ht hv) he
  · obtain ⟨ti, ht, h⟩ := onO_eq_some h
    obtain ⟨fs, hfs, h⟩ := onO_eq_some h
    obtain ⟨y, hy, h⟩ := onO_eq_some h
    obtain ⟨v, hv, he⟩ := ofo _ h
    exact quiet _ _ (q_field hev hT ho ht hfs hy hv) he
  · obtain ⟨ti, ht, h⟩ := onO_eq_some h
    obtain ⟨n, hn, h⟩ := onO_eq_some h
    obtain ⟨p, hp, h⟩ := onO_eq_some h
    exact quiet _ _ (q_indexAddr hev hT hM ho ht hn hp) (Option.some.inj h).symm
  · obtain ⟨v, hv, he⟩ := ofo _ h
    exact quiet _ _ (q_extract hev ho hv) he
  · rename_i b args ts
    unfold builtinRes at h
    split at h
    · rename_i x t r ha ht
      obtain ⟨te, hte, h⟩ := onO_eq_some h
      obtain ⟨n, hn, hq⟩ := onO_eq_some h
      clear h
      obtain ⟨a, hargs, rfl⟩ : ∃ a, args.toList = [a] ∧ ev a = x := by
        match hl : args.toList, ha with
        | [a], ha => exact ⟨a, rfl, by simpa [hl] using ha⟩
      have := array_eq hargs
      subst this
      obtain ⟨el, i, hu, _⟩ := elemTI_ok hT hte
      have hts : ts[0]? = some t := by rw [← Array.getElem?_toList, ht]; rfl
      exact quiet _ _ (q_len hev hu ho hts hn) (Option.some.inj hq).symm
    · rename_i ts' x y ha
      obtain ⟨v, hv, he⟩ := ofo _ h
      obtain ⟨a, b, hargs, rfl, rfl⟩ : ∃ a b, args.toList = [a, b] ∧ ev a = x ∧ ev b = y := by
        match hl : args.toList, ha with
        | [a, b], ha => simp [hl] at ha; exact ⟨a, b, rfl, ha.1, ha.2⟩
      have := array_eq hargs
      subst this
      exact quiet _ _ (q_best (big := false) hev ho hv) he
    · rename_i ts' x y ha
      obtain ⟨v, hv, he⟩ := ofo _ h
      obtain ⟨a, b, hargs, rfl, rfl⟩ : ∃ a b, args.toList = [a, b] ∧ ev a = x ∧ ev b = y := by
        match hl : args.toList, ha with
        | [a, b], ha => simp [hl] at ha; exact ⟨a, b, rfl, ha.1, ha.2⟩
      have := array_eq hargs
      subst this
      exact quiet _ _ (q_best (big := true) hev ho hv) he
    · rename_i x y t u ha ht
      obtain ⟨te, hte, h⟩ := onO_eq_some h
      obtain ⟨ui, hui, h⟩ := onO_eq_some h
      obtain ⟨a, b, hargs, rfl, rfl⟩ : ∃ a b, args.toList = [a, b] ∧ ev a = x ∧ ev b = y := by
        match hl : args.toList, ha with
        | [a, b], ha => simp [hl] at ha; exact ⟨a, b, rfl, ha.1, ha.2⟩
      have e1 := array_eq hargs
      have e2 := array_eq ht
      subst e1; subst e2
      have hnw : ∀ {ys : List (List CV)} {rd : List Key}, appendTo te m d ys rd (ev a) = some e → e.new = [d] := by
        intro ys rd hh
        unfold appendTo at hh
        split at hh
        · obtain ⟨v, _, hh⟩ := onO_eq_some hh
          split at hh
          · cases hh; rfl
          · cases hh
        · split at hh
          · cases hh; rfl
          · cases hh
        · split at hh
          · cases hh; rfl
          · cases hh
        · cases hh
      by_cases hint : ui.kind.isInt = true
      · rw [if_pos hint] at h
        have hnew : e.new = [d] := by
          unfold appendN at h
          obtain ⟨n, _, hh⟩ := onO_eq_some h
          split at hh
          · exact hnw hh
          · cases hh
        exact o_appendN hev hT hM (hd d (by rw [hnew]; simp)) ho hte hui hint h
      · rw [if_neg hint] at h
        obtain ⟨te', hte', h⟩ := onO_eq_some h
        have hnew : e.new = [d] := by
          obtain ⟨ys, _, hh⟩ := onO_eq_some h
          exact hnw hh
        exact o_append hev hT hM (hd d (by rw [hnew]; simp)) ho hte hte' h
    · rename_i x y t r ha ht
      obtain ⟨te, hte, h⟩ := onO_eq_some h
      obtain ⟨a, b, hargs, rfl, rfl⟩ : ∃ a b, args.toList = [a, b] ∧ ev a = x ∧ ev b = y := by
        match hl : args.toList, ha with
        | [a, b], ha => simp [hl] at ha; exact ⟨a, b, rfl, ha.1, ha.2⟩
      have := array_eq hargs
      subst this
      have hts : ts[0]? = some t := by rw [← Array.getElem?_toList, ht]; rfl
      exact o_copy hev hT hM ho hts hte h
    · cases h
  · exact o_call hev hE hM ho h hd hwr
  · cases h
end Go.PM
