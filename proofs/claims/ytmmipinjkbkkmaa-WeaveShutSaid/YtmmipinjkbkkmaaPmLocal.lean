/- What an operation does depends on its operands and on what it reads. -/
import Derived.Test.YtmmipinjkbkkmaaPmReg
set_option linter.unusedSimpArgs false
set_option linter.unusedVariables false
set_option linter.unusedSectionVars false
set_option linter.unnecessarySimpa false
namespace Go.PM
variable {T : Tab} {S : FuncId → Spec} {m m' : Mem}

theorem eval_ev {ev ev' : Operand → PV} {d : Nat} {op : Op} (h : ∀ x ∈ op.operands, ev x = ev' x) : evalOp T S ev m d op = evalOp T S ev' m d op := by
  have pairs : ∀ ps : Array (Nat × Operand), (∀ x ∈ ps.toList.map (·.2), ev x = ev' x) → (ps.toList.map fun x => (x.1, ev x.2)) = ps.toList.map fun x => (x.1, ev' x.2) := fun ps hp =>
    List.map_congr_left fun x hx => by rw [hp x.2 (List.mem_map.2 ⟨x, hx, rfl⟩)]
  have all : ∀ as : Array Operand, (∀ x ∈ as, ev x = ev' x) → as.toList.map ev = as.toList.map ev' := fun as hp =>
    List.map_congr_left fun x hx => hp x (Array.mem_toList_iff.1 hx)
  cases op <;> simp only [Op.operands] at h <;> simp only [evalOp]
  case build t ps => rw [pairs ps fun x hx => h x (by simpa using hx)]
  case buildSlice t n ps => rw [pairs ps fun x hx => h x (by simpa using hx)]
  case makeFunc fn first captured =>
    have := all captured fun x hx => h x (by simp [hx])
    cases fn <;> simp only [evalOp, this]
  case slice t x lo hi mx =>
    have hx := h x (by simp)
    have hlo : lo.map ev = lo.map ev' := by
      cases lo with
      | none => rfl
      | some a => simp [h a (by simp)]
    have hhi : hi.map ev = hi.map ev' := by
      cases hi with
      | none => rfl
      | some a => simp [h a (by simp)]
    cases mx <;> simp only [evalOp, hx, hlo, hhi]
  case call c =>
    obtain ⟨callee, args, ts⟩ := c
    have ha := all args fun x hx => h x (by simp [Call.operands, hx])
    cases callee with
    | builtin b => simp only [evalOp, ha]
    | value f => simp only [evalOp, ha, h f (by simp [Call.operands])]
    | invoke r n => rfl
  all_goals (first | rfl | (simp_all; done))

theorem boxC_local {id : Nat} : ∀ {n off : Nat} {l : List PV}, boxC m id off n = some l → (∀ k ∈ keysB id off n, m k = m' k) → boxC m' id off n = some l
  | 0, off, l, h, _ => h
  | n + 1, off, l, h, hk => by
    obtain ⟨p, hp, h⟩ := onO_eq_some h
    obtain ⟨x, hx, hp⟩ := onO_eq_some hp
    obtain ⟨r, hr, h⟩ := onO_eq_some h
    have ih := boxC_local hr fun k hk' => hk k (by simp [keysB, hk'])
    rw [hk (id, off) (by simp [keysB])] at hx
    simp only [boxC, hx, onO, hp, ih]
    exact h
theorem vecC_local {id : Nat} (h : m (id, 0) = m' (id, 0)) : vecC m' id = vecC m id := by simp [vecC, h]
theorem rowC_local {id : Nat} (h : m (id, 0) = m' (id, 0)) : rowC m' id = rowC m id := by simp [rowC, h]

theorem loadC_local {p : PV} {n : Nat} {l : List PV} (h : loadC m p n = some l) (hk : ∀ k ∈ rdC p n, m k = m' k) : loadC m' p n = some l := by
  unfold loadC at h ⊢
  split at h
  · exact boxC_local h hk
  · rename_i id i off
    rw [vecC_local (hk (id, 0) (by simp [rdC]))]
    exact h
  · exact h
  · cases h

theorem rowsOf_local {p : PV} {sz : Nat} {ys : List (List CV)} (h : rowsOf m sz p = some ys) (hk : ∀ k ∈ rdL p, m k = m' k) : rowsOf m' sz p = some ys := by
  unfold rowsOf at h ⊢
  split at h
  · rename_i id off len
    rw [vecC_local (hk (id, 0) (by simp [rdL]))]
    exact h
  · exact h
  · exact h
  · exact h
  · exact h
  · cases h

theorem viewL_local {p q : PV} (h : viewL m p = some q) (hk : ∀ k ∈ rdL p, m k = m' k) : viewL m' p = some q := by
  unfold viewL at h ⊢
  split at h
  · rename_i id off len
    rw [vecC_local (hk (id, 0) (by simp [rdL]))]
    exact h
  · rename_i id off sz len
    split at h
    · rename_i h0
      obtain ⟨l, hl, h⟩ := onO_eq_some h
      have := boxC_local hl hk
      simp only [if_pos h0, this, onO]
      exact h
    · cases h
  · exact h
  · cases h
theorem mapO_local {α β : Type} {f g : α → Option β} : ∀ {l : List α} {r : List β}, mapO f l = some r → (∀ a ∈ l, ∀ b, f a = some b → g a = some b) → mapO g l = some r
  | [], r, h, _ => h
  | c :: l, r, h, hk => by
    obtain ⟨b, hb, h⟩ := onO_eq_some h
    obtain ⟨l', hl', h⟩ := onO_eq_some h
    have h1 := hk c (by simp) b hb
    have h2 := mapO_local hl' fun a ha => hk a (by simp [ha])
    simp only [mapO, h1, h2, onO]
    exact h
theorem view_local {p q : PV} (h : view m p = some q) (hk : ∀ k ∈ rdV p, m k = m' k) : view m' p = some q := by
  unfold view at h ⊢
  split at h
  · rename_i cs
    obtain ⟨l, hl, h⟩ := onO_eq_some h
    have := mapO_local (g := viewL m') hl fun a ha b hb => viewL_local hb fun k hk' => hk k (by simp only [rdV]; exact List.mem_flatMap.2 ⟨a, ha, hk'⟩)
    simp only [this, onO]
    exact h
  · rename_i hna
    have : rdV p = rdL p := by cases p <;> first | rfl | exact absurd rfl (hna _)
    exact viewL_local h (this ▸ hk)

theorem ownL_rd {q p : PV} (hp : p ∈ q.leaves) {id : Nat} (hid : id ∈ ownL p) : (id, 0) ∈ rdV q := by
  have h1 : (id, 0) ∈ rdL p := by
    unfold ownL at hid
    split at hid
    · simp only [List.mem_singleton] at hid; subst hid; simp [rdL]
    · cases hid
  cases q with
  | agg cs => exact List.mem_flatMap.2 ⟨p, hp, h1⟩
  | _ =>
    simp only [PV.leaves, List.mem_singleton] at hp
    subst hp
    exact h1

theorem cut_local {te : TI} {x p : PV} {l b : Nat} (hp : cutOf m te l b x = some p) (hk : ∀ k ∈ rdO x, m k = m' k) : cutOf m' te l b x = some p := by
  unfold cutOf at hp ⊢
  split at hp
  · rename_i id off len
    rw [vecC_local (hk (id, 0) (by simp [rdO]))]
    exact hp
  · exact hp
  · exact hp
  · exact hp
  · cases hp
theorem slice_local {ti : TI} {x p : PV} {lo hi : Option PV} (hp : sliceRes T m ti x lo hi = some p) (hk : ∀ k ∈ rdO x, m k = m' k) : sliceRes T m' ti x lo hi = some p := by
  unfold sliceRes at hp ⊢
  split at hp
  · obtain ⟨te, h1, hp⟩ := onO_eq_some hp
    obtain ⟨n, h2, hp⟩ := onO_eq_some hp
    obtain ⟨b, h3, hp⟩ := onO_eq_some hp
    obtain ⟨l, h4, hp⟩ := onO_eq_some hp
    simp only [h1, h2, h3, h4, onO]
    split at hp
    · rename_i hc
      rw [if_pos hc]
      exact cut_local hp hk
    · cases hp
  · exact hp
  · cases hp
theorem isl_local {te : TI} {x p : PV} {n : Nat} (hp : indexSl m te n x = some p) (hk : ∀ k ∈ rdO x, m k = m' k) : indexSl m' te n x = some p := by
  unfold indexSl at hp ⊢
  split at hp
  · rename_i id off len
    rw [vecC_local (hk (id, 0) (by simp [rdO]))]
    exact hp
  · exact hp
  · exact hp
  · cases hp
theorem index_local {ti : TI} {x p : PV} {n : Nat} (hp : indexRes T m ti x n = some p) (hk : ∀ k ∈ rdO x, m k = m' k) : indexRes T m' ti x n = some p := by
  unfold indexRes at hp ⊢
  split at hp
  · obtain ⟨te, h1, hp⟩ := onO_eq_some hp
    simp only [h1, onO]
    exact isl_local hp hk
  · exact hp
  · cases hp
theorem appendTo_local {ti : TI} {d : Nat} {ys : List (List CV)} {rd : List Key} {x : PV} {e : Eff} (h : appendTo ti m d ys rd x = some e) (hm : ∀ k ∈ e.rd, m k = m' k) : appendTo ti m' d ys rd x = some e := by
  unfold appendTo at h ⊢
  split at h
  · rename_i id off len
    obtain ⟨v, _, hq⟩ := onO_eq_some h
    split at hq
    · rw [rowC_local (hm (id, 0) (by rw [← Option.some.inj hq]; simp))]
      exact h
    · cases hq
  · exact h
  · exact h
  · cases h
theorem appendTo_rd {ti : TI} {d : Nat} {ys : List (List CV)} {rd : List Key} {x : PV} {e : Eff} (h : appendTo ti m d ys rd x = some e) : ∀ k ∈ rd, k ∈ e.rd := by
  unfold appendTo at h
  split at h
  · obtain ⟨v, _, hq⟩ := onO_eq_some h
    split at hq
    · intro k hk; rw [← Option.some.inj hq]; exact List.mem_cons_of_mem _ hk
    · cases hq
  · split at h
    · intro k hk; rw [← Option.some.inj h]; exact hk
    · cases h
  · split at h
    · intro k hk; rw [← Option.some.inj h]; exact hk
    · cases h
  · cases h
theorem append_local {ti : TI} {d : Nat} {x y : PV} {e : Eff} (h : appendRes ti m d x y = some e) (hm : ∀ k ∈ e.rd, m k = m' k) : appendRes ti m' d x y = some e := by
  obtain ⟨ys, hy, h⟩ := onO_eq_some h
  have := rowsOf_local hy fun k hk => hm k (appendTo_rd h k hk)
  simp only [appendRes, this, onO]
  exact appendTo_local h hm
theorem copyTo_local {ti : TI} {ys : List (List CV)} {rd : List Key} {x : PV} {e : Eff} (h : copyTo ti m ys rd x = some e) (hm : ∀ k ∈ e.rd, m k = m' k) : copyTo ti m' ys rd x = some e := by
  unfold copyTo at h ⊢
  split at h
  · rename_i id off len
    obtain ⟨v, _, hq⟩ := onO_eq_some h
    split at hq
    · rw [rowC_local (hm (id, 0) (by rw [← Option.some.inj hq]; simp))]
      exact h
    · cases hq
  · cases h
theorem copyTo_rd {ti : TI} {ys : List (List CV)} {rd : List Key} {x : PV} {e : Eff} (h : copyTo ti m ys rd x = some e) : ∀ k ∈ rd, k ∈ e.rd := by
  unfold copyTo at h
  split at h
  · obtain ⟨v, _, hq⟩ := onO_eq_some h
    split at hq
    · intro k hk; rw [← Option.some.inj hq]; exact List.mem_cons_of_mem _ hk
    · cases hq
  · cases h
theorem copy_local {ti : TI} {x y : PV} {e : Eff} (h : copyRes ti m x y = some e) (hm : ∀ k ∈ e.rd, m k = m' k) : copyRes ti m' x y = some e := by
  obtain ⟨ys, hy, h⟩ := onO_eq_some h
  have := rowsOf_local hy fun k hk => hm k (copyTo_rd h k hk)
  simp only [copyRes, this, onO]
  exact copyTo_local h hm

theorem eval_local {ev : Operand → PV} {d : Nat} {op : Op} {e : Eff} (h : evalOp T S ev m d op = some e) (hm : ∀ k ∈ e.rd, m k = m' k) : evalOp T S ev m' d op = some e := by
  unfold evalOp at h ⊢
  split at h
  case h_8 =>
    obtain ⟨ti, ht, h⟩ := onO_eq_some h
    simp only [ht, onO]
    unfold loadRes at h ⊢
    split at h
    · rename_i ha
      obtain ⟨l, hl, h⟩ := onO_eq_some h
      rw [if_pos ha]
      have := loadC_local hl fun k hk => hm k (by rw [← Option.some.inj h]; exact hk)
      simp only [this, onO]; exact h
    · rename_i ha
      obtain ⟨p, hp, h⟩ := onO_eq_some h
      obtain ⟨l, hl, hp⟩ := onO_eq_some hp
      rw [if_neg ha]
      have := loadC_local hl fun k hk => hm k (by rw [← Option.some.inj h]; exact hk)
      simp only [this, onO, hp]; exact h
  case h_9 =>
    obtain ⟨ti, ht, h⟩ := onO_eq_some h
    simp only [ht, onO]
    unfold storeRes at h ⊢
    split at h
    · split at h
      · rename_i hc
        obtain ⟨l, hl, h⟩ := onO_eq_some h
        rw [if_pos hc]
        have := boxC_local hl fun k hk => hm k (by rw [← Option.some.inj h]; exact hk)
        simp only [this, onO]; exact h
      · cases h
    · rename_i id i off _
      obtain ⟨v, hv, hq⟩ := onO_eq_some h
      have hk : m (id, 0) = m' (id, 0) := by
        obtain ⟨el, _, hq⟩ := onO_eq_some hq
        obtain ⟨cs, _, hq⟩ := onO_eq_some hq
        split at hq
        · exact hm _ (by rw [← Option.some.inj hq]; simp)
        · cases hq
      rw [rowC_local hk]
      exact h
    · cases h
  case h_13 =>
    rename_i s t x
    by_cases hc : s = t ∧ u8Sl T s = true
    · rw [if_pos hc] at h ⊢
      unfold constRow at h ⊢
      split at h
      · rename_i id off len _
        obtain ⟨v, hv, hq⟩ := onO_eq_some h
        have hk : m (id, 0) = m' (id, 0) := by
          split at hq
          · exact hm _ (by rw [← Option.some.inj hq]; simp)
          · cases hq
        rw [rowC_local hk]
        exact h
      · cases h
    · rw [if_neg hc] at h ⊢
      exact h
  case h_16 =>
    obtain ⟨ti, ht, h⟩ := onO_eq_some h
    obtain ⟨p, hp, h⟩ := onO_eq_some h
    simp only [ht, onO, slice_local hp fun k hk => hm k (by rw [← Option.some.inj h]; exact hk)]
    exact h
  case h_19 =>
    obtain ⟨ti, ht, h⟩ := onO_eq_some h
    obtain ⟨n, hn, h⟩ := onO_eq_some h
    obtain ⟨p, hp, h⟩ := onO_eq_some h
    simp only [ht, hn, onO, index_local hp fun k hk => hm k (by rw [← Option.some.inj h]; exact hk)]
    exact h
  case h_21 =>
    unfold builtinRes at h ⊢
    split at h
    · exact h
    · exact h
    · exact h
    · obtain ⟨te, h1, h⟩ := onO_eq_some h
      obtain ⟨ui, h2, h⟩ := onO_eq_some h
      by_cases hint : ui.kind.isInt = true
      · rw [if_pos hint] at h
        simp only [h1, h2, onO, if_pos hint]
        unfold appendN at h ⊢
        obtain ⟨n, hn, h⟩ := onO_eq_some h
        simp only [hn, onO]
        split at h
        · rename_i hc
          rw [if_pos hc]
          exact appendTo_local h hm
        · cases h
      · rw [if_neg hint] at h
        obtain ⟨te', h3, h⟩ := onO_eq_some h
        simp only [h1, h2, h3, onO, if_neg hint, append_local h hm]
    · obtain ⟨te, h1, h⟩ := onO_eq_some h
      simp only [h1, onO, copy_local h hm]
    · cases h
  case h_22 =>
    rename_i f args ts
    obtain ⟨g, hg, h⟩ := onO_eq_some h
    obtain ⟨vs, hvs, h⟩ := onO_eq_some h
    obtain ⟨r, hr, h⟩ := onO_eq_some h
    have hrd : e.rd = (args.toList.map ev).flatMap rdV := by
      unfold callEff at h
      split at h
      · rw [← Option.some.inj h]
      · split at h
        · rw [← Option.some.inj h]
        · cases h
    have hv := mapO_local (g := view m') hvs fun a ha b hb => view_local hb fun k hk => hm k (by rw [hrd]; exact List.mem_flatMap.2 ⟨a, ha, hk⟩)
    have hfr : ((((args.toList.map ev).flatMap PV.leaves).flatMap ownL).map (freezeW m)) = ((((args.toList.map ev).flatMap PV.leaves).flatMap ownL).map (freezeW m')) :=
      List.map_congr_left fun id hid => by
        obtain ⟨p, hp, hid⟩ := List.mem_flatMap.1 hid
        obtain ⟨q, hq, hp⟩ := List.mem_flatMap.1 hp
        unfold freezeW
        rw [vecC_local (hm (id, 0) (by rw [hrd]; exact List.mem_flatMap.2 ⟨q, hq, ownL_rd hp hid⟩))]
    simp only [callRes, hg, hv, hr, onO]
    unfold callEff at h ⊢
    rw [← hfr]
    exact h
  all_goals exact h
end Go.PM
