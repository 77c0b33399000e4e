/- A constant's bytes: the conversion to its own type that the translator lays behind the row. -/
import Derived.Test.YtmmipinjkbkkmaaPmOps8
import Derived.Test.YtmmipinjkbkkmaaPmCall
set_option linter.unusedSimpArgs false
set_option linter.unusedVariables false
set_option linter.unusedSectionVars false
set_option linter.unnecessarySimpa false
namespace Go.PM
open Go.RowKit (Below)
variable {P : Program} {T : Tab} {w w0 : World} {wr lent wr0 : Nat → Prop} {loc : Locs} {m : Mem}

/-- A row of one's own is let go: what stood in its block may have turned. -/
theorem MInv.lose {m' : Mem} (h : MInv w0 lent wr0 m loc w) {id0 : Nat} {sz0 : Nat} {xs0 : List (List CV)} (hm0 : m (id0, 0) = some (.vec true sz0 xs0)) {w' : World} (hsz : w'.heap.size = w.heap.size) (hos : w'.os = w.os) (htape : w'.tape = w.tape) (hout : w'.output = w.output)
    (hother : ∀ g, ((loc id0).here = true → g ≠ (loc id0).g) → w'.heap[g]? = w.heap[g]?) (hm' : ∀ id j x, m' (id, j) = some x → id ≠ id0 ∧ m (id, j) = some x) :
    MInv w0 lent wr0 m' loc w' ∧ Later w w' (WR m loc wr0) (WR m' loc wr0) := by
  have L : Later w w' (WR m loc wr0) (WR m' loc wr0) := ⟨by omega, fun g _ hn => hother g (fun hh e => hn (.inr ⟨id0, 0, _, hm0, rfl, hh, e.symm⟩)), fun g _ hw => by
    rcases hw with hw | ⟨id, j, x, hx, hr, hh, e⟩
    · exact .inl hw
    · exact .inr ⟨id, j, x, (hm' id j x hx).2, hr, hh, e⟩⟩
  have far : ∀ id j x, m (id, j) = some x → id ≠ id0 → (loc id).here = true → w'.heap[(loc id).g]? = w.heap[(loc id).g]? := fun id j x hx hn hh =>
    hother _ fun hh0 e => hn (h.inj id j x id0 0 _ hx hm0 hh hh0 e)
  refine ⟨⟨⟨hos.trans h.low.os, htape.trans h.low.tape, hout.trans h.low.output, by rw [hsz]; exact h.low.size, fun k hk => absurd hk (Nat.not_lt_zero _)⟩, fun g hg hn => ?_, h.wrlt, fun id j x hx => ?_, fun id j x id' j' x' hx hx' hh hh' e => ?_, fun id j x hx hh => ?_, fun id b sz xs j x hv hx => ?_⟩, L⟩
  · refine (hother g fun hh e => ?_).trans (h.keep g hg hn)
    rcases (h.place id0 0 _ hm0 hh).2 with p | p
    · omega
    · exact hn (e ▸ p)
  · obtain ⟨hn, hx'⟩ := hm' id j x hx
    exact (h.mem id j x hx').later L rfl (fun _ _ _ _ => rfl) (far id j x hx' hn)
  · exact h.inj id j x id' j' x' (hm' id j x hx).2 (hm' id' j' x' hx').2 hh hh' e
  · rw [hsz]; exact h.place id j x (hm' id j x hx).2 hh
  · exact h.excl id b sz xs j x (hm' id 0 _ hv).2 (hm' id j x hx).2

theorem freeze_heap {w : World} {g k : Nat} {arr : Array Value} {ty : TypeId} (h : w.heap[g]? = some (.cells arr ty (0, 0))) : (w.freeze ⟨g, k, none⟩ 1).heap[g]? = some (.cells arr ty (k, k + 1)) := by
  unfold World.freeze
  rw [if_neg (by decide)]
  simp [Array.getElem?_modify, h]
theorem freeze_other {w : World} {g k g' : Nat} (h : g' ≠ g) : (w.freeze ⟨g, k, none⟩ 1).heap[g']? = w.heap[g']? := by
  unfold World.freeze
  rw [if_neg (by decide)]
  simp [Array.getElem?_modify, Ne.symm h]
theorem freeze_size {w : World} {g k : Nat} : (w.freeze ⟨g, k, none⟩ 1).heap.size = w.heap.size := by
  unfold World.freeze
  rw [if_neg (by decide)]
  simp

section
variable {ev : Operand → PV} {ρ : Operand → Value} (hev : EvOk w (WR m loc wr0) loc ev ρ)
include hev
theorem o_const (hT : TabOk P T) (hM : MInv w0 lent wr0 m loc w) {o : Oper} {t : TypeId} {x : Operand} {e : Eff} (ho : o.op = .convert t t x) (ht : u8Sl T t = true) (h : constRow m (ev x) = some e) :
    OpDone P ρ o w (OpOut w0 lent wr0 m loc w e) := by
  unfold u8Sl at ht
  cases hti : elemTI T t with
  | none => rw [hti] at ht; cases ht
  | some te =>
  rw [hti] at ht
  simp only at ht
  obtain ⟨el, i, hut, hi, hsz, hby, _⟩ := elemTI_ok hT hti
  have he : P.underlying el = some (.int .u8) := by
    obtain ⟨ti, ht1, h2⟩ := onO_eq_some hti
    obtain ⟨el2, hk, h3⟩ := onO_eq_some h2
    have e1 := elem_ok hT ht1 hk
    rw [hut] at e1
    cases e1
    obtain ⟨i', _, _, _, _, _, _, hkind⟩ := hT.ok el te h3
    cases hkk : te.kind with
    | int k =>
      rw [hkk] at ht
      simp only [TK.isU8, decide_eq_true_eq] at ht
      subst ht
      unfold KindOk at hkind
      rw [hkk] at hkind
      exact hkind.1
    | _ => rw [hkk] at ht; cases ht
  have hx := hev x
  generalize ev x = p at h hx
  unfold constRow at h
  split at h
  · rename_i id off len
    obtain ⟨⟨sz, xs⟩, hv0, hq⟩ := onO_eq_some h
    clear h
    have hv := rowC_some hv0
    clear hv0
    simp only [] at hq hv
    by_cases hc : off = 0 ∧ len = xs.length ∧ 0 < len
    · rw [if_pos hc] at hq
      obtain ⟨rfl, rfl, hpos⟩ := hc
      have hq := Option.some.inj hq
      subst hq
      obtain ⟨A, c, e1, hlc, hcap, hA⟩ := hx
      have hm := hM.mem id 0 _ hv
      obtain ⟨hh, rfl⟩ := hA (by omega)
      obtain ⟨arr, ty, a1, a2, a3⟩ := vec_flat hm (by omega)
      simp only [Nat.zero_mul] at e1
      have hsh : w.shape? (loc id).g = some (ty, arr.size) := by unfold World.shape?; rw [a1]
      have hrun : (convert t t (ρ x)).run P w = .ok (ρ x) (w.freeze ⟨(loc id).g, arr.size, none⟩ 1) := by
        rw [e1]
        simp [convert, run_underlying hut, run_underlying he, markStringish, hsh]
      refine done_value (v := ρ x) (w' := w.freeze ⟨(loc id).g, arr.size, none⟩ 1) (by simp [execOp, ho, hrun]) ?_
      obtain ⟨h1, h2⟩ := hM.lose (m' := updM [((id, 0), none)] m) hv (w' := w.freeze ⟨(loc id).g, arr.size, none⟩ 1) freeze_size (by unfold World.freeze; rw [if_neg (by decide)]) (by unfold World.freeze; rw [if_neg (by decide)]) (by unfold World.freeze; rw [if_neg (by decide)]) (fun g hg => freeze_other (hg hh)) (fun id' j x' hx' => by
        simp only [updM] at hx'
        split at hx'
        · cases hx'
        · rename_i hne
          refine ⟨fun e => ?_, hx'⟩
          subst e
          exact hne (by rw [hM.excl id' _ _ _ j x' hv hx']))
      refine ⟨loc, h1, h2, ?_, fun _ _ => rfl⟩
      rw [e1]
      have hf := a3.later h2
      have hnw : ¬ WR (updM [((id, 0), none)] m) loc wr0 (loc id).g := by
        rintro (hw | ⟨id', j, x', hx', hr, hh', e⟩)
        · obtain ⟨k1, k2⟩ := hM.wrlt _ hw
          rcases (hM.place id 0 _ hv hh).2 with q | q
          · omega
          · exact k2 q
        · simp only [updM] at hx'
          split at hx'
          · cases hx'
          · rename_i hne
            have := hM.inj id' j x' id 0 _ hx' hv hh' hh e
            subst this
            exact hne (by rw [hM.excl id' _ _ _ j x' hv hx'])
      refine rel_ro hlc hf fun hne => ⟨_, rfl, ?_, hnw, fun j u hu => ?_⟩
      · show (loc id).g < _
        rw [freeze_size]
        exact (hM.place id 0 _ hv hh).1
      · rw [Addr.add_lit, Nat.zero_add]
        unfold World.cell?
        simp only [freeze_heap a1]
        rw [List.getElem?_take] at hu
        split at hu
        · simpa using hu
        · cases hu
    · rw [if_neg hc] at hq; cases hq
  · cases h
end
end Go.PM
