/- Code, and functions. -/
import Derived.Test.YtmmipinjkbkkmaaPmDrawn
import Derived.Deep.LoopGhost
import Derived.Scope
set_option linter.unusedSimpArgs false
set_option linter.unusedVariables false
set_option linter.unusedSectionVars false
set_option linter.unnecessarySimpa false
namespace Go.PM
open Go.RowKit (Below)
variable {P : Program} {E : Env} {w0 : World} {lent wr0 : Nat → Prop} {n : Nat}

def codeOk (n : Nat) : Code → Bool
  | .region _ ops _ => opsOk n ops.toList
  | .seq a b => codeOk n a && codeOk n b
  | .cond _ a b => codeOk n a && codeOk n b
  | .block _ b => codeOk n b
  | .loop b => codeOk n b
  | .scope b => codeOk n b
  | _ => true

theorem nodupB_iff : ∀ {l : List Nat}, nodupB l = true → l.Nodup
  | [], _ => List.nodup_nil
  | x :: r, h => by
    simp only [nodupB, Bool.and_eq_true, Bool.not_eq_true', List.contains_eq_mem, decide_eq_false_iff_not] at h
    exact List.nodup_cons.2 ⟨h.1, nodupB_iff h.2⟩
theorem renI_mem : ∀ {ρ : Ren} {a j : Nat}, renI ρ a = some j → ∃ n, (a, j, n) ∈ ρ
  | [], _, _, h => by cases h
  | (x, y, n) :: r, a, j, h => by
    simp only [renI] at h
    split at h
    · rename_i e; subst e; cases h; exact ⟨n, by simp⟩
    · obtain ⟨n, h⟩ := renI_mem h
      exact ⟨n, List.mem_cons_of_mem _ h⟩
theorem mem_renI : ∀ {ρ : Ren}, (ρ.map (·.1)).Nodup → ∀ {a j n : Nat}, (a, j, n) ∈ ρ → renI ρ a = some j
  | [], _, _, _, _, h => by cases h
  | (x, y, m) :: r, hn, a, j, n, h => by
    simp only [List.map_cons, List.nodup_cons] at hn
    simp only [renI]
    rcases List.mem_cons.1 h with e | h
    · cases e; rw [if_pos rfl]
    · have hne : ¬ x = a := fun e => hn.1 (by rw [e]; exact List.mem_map.2 ⟨_, h, rfl⟩)
      rw [if_neg hne]
      exact mem_renI hn.2 h
theorem pair_of_snd : ∀ {ρ : Ren}, (ρ.map (·.2.1)).Nodup → ∀ {a a' j n n' : Nat}, (a, j, n) ∈ ρ → (a', j, n') ∈ ρ → a = a'
  | [], _, _, _, _, _, _, h, _ => by cases h
  | (x, y, m) :: r, hn, a, a', j, n, n', h, h' => by
    simp only [List.map_cons, List.nodup_cons] at hn
    rcases List.mem_cons.1 h with e | h1 <;> rcases List.mem_cons.1 h' with e' | h2
    · cases e; cases e'; rfl
    · cases e; exact absurd (List.mem_map.2 ⟨_, h2, rfl⟩) hn.1
    · cases e'; exact absurd (List.mem_map.2 ⟨_, h1, rfl⟩) hn.1
    · exact pair_of_snd hn.2 h1 h2

/-- Where what has a new name lies. -/
def invI : Ren → Nat → Option Nat
  | [], _ => none
  | (a, b, _) :: r, j => if b = j then some a else invI r j
def nilI : Nils → Nat → Option Nat
  | [], _ => none
  | (_, b, sz) :: r, j => if b = some j then some sz else nilI r j
def renLoc (ρ : Ren) (ns : Nils) (loc : Locs) (j : Nat) : Loc := match nilI ns j with
  | some sz => ⟨0, 0, sz, false⟩
  | none => match invI ρ j with
    | some a => loc a
    | none => loc j
theorem ids_cons {u sz : Nat} {b : Option Nat} {r : Nils} {j : Nat} : j ∈ Nils.ids ((u, b, sz) :: r) ↔ b = some j ∨ j ∈ Nils.ids r := by
  cases b <;> simp [Nils.ids, eq_comm]
theorem ids_mem {ns : Nils} {u b sz : Nat} (h : (u, some b, sz) ∈ ns) : b ∈ ns.ids := by
  induction ns with
  | nil => cases h
  | cons x r ih =>
    obtain ⟨u', b', sz'⟩ := x
    rw [ids_cons]
    rcases List.mem_cons.1 h with e | h
    · cases e; exact .inl rfl
    · exact .inr (ih h)
theorem nilI_none : ∀ {ns : Nils} {j : Nat}, j ∉ ns.ids → nilI ns j = none
  | [], _, _ => rfl
  | (_, b, _) :: r, j, h => by
    rw [ids_cons, not_or] at h
    simp only [nilI, if_neg h.1]
    exact nilI_none h.2
theorem nilI_mem : ∀ {ns : Nils}, ns.ids.Nodup → ∀ {u b sz : Nat}, (u, some b, sz) ∈ ns → nilI ns b = some sz
  | [], _, _, _, _, h => by cases h
  | (u', b', sz') :: r, hn, u, b, sz, h => by
    have hn2 : (Nils.ids r).Nodup := by
      cases b' with
      | none => exact hn
      | some b' => exact (List.nodup_cons.1 hn).2
    simp only [nilI]
    rcases List.mem_cons.1 h with e | h
    · cases e; rw [if_pos rfl]
    · have hne : b' ≠ some b := fun e => by rw [e] at hn; exact (List.nodup_cons.1 hn).1 (ids_mem h)
      rw [if_neg hne]
      exact nilI_mem hn2 h
theorem invI_mem : ∀ {ρ : Ren}, (ρ.map (·.2.1)).Nodup → ∀ {a j n : Nat}, (a, j, n) ∈ ρ → invI ρ j = some a
  | [], _, _, _, _, h => by cases h
  | (x, y, m) :: r, hn, a, j, n, h => by
    simp only [List.map_cons, List.nodup_cons] at hn
    simp only [invI]
    rcases List.mem_cons.1 h with e | h
    · cases e; rw [if_pos rfl]
    · rw [if_neg (fun e => hn.1 (by rw [e]; exact List.mem_map.2 ⟨_, h, rfl⟩))]
      exact invI_mem hn.2 h

section
variable {w : World} {wr : Nat → Prop} {loc loc' : Locs} {ρ : Ren}
theorem renL_get : ∀ {cs : List PV} {i : Nat}, (PV.ren.renL ρ cs)[i]? = cs[i]?.map (PV.ren ρ)
  | [], i => by simp [PV.ren.renL]
  | p :: r, 0 => by simp [PV.ren.renL]
  | p :: r, i + 1 => by simp [PV.ren.renL, renL_get]
theorem renL_length : ∀ {cs : List PV}, (PV.ren.renL ρ cs).length = cs.length
  | [] => rfl
  | p :: r => by simp [PV.ren.renL, renL_length]
theorem RelL.ren (hl : ∀ a j, renI ρ a = some j → loc' j = loc a) {p : PV} {v : Value} (h : RelL w wr loc p v) : RelL w wr loc' (p.ren ρ) v := by
  cases p with
  | own id off len =>
    simp only [PV.ren]
    cases hr : renI ρ id with
    | none => trivial
    | some j => simp only [orUndef, RelL] at h ⊢; rw [hl _ _ hr]; exact h
  | bsl id off sz len =>
    simp only [PV.ren]
    cases hr : renI ρ id with
    | none => trivial
    | some j => simp only [orUndef, RelL] at h ⊢; rw [hl _ _ hr]; exact h
  | ptr id off =>
    simp only [PV.ren]
    cases hr : renI ρ id with
    | none => trivial
    | some j => simp only [orUndef, RelL] at h ⊢; rw [hl _ _ hr]; exact h
  | eptr id i off =>
    simp only [PV.ren]
    cases hr : renI ρ id with
    | none => trivial
    | some j => simp only [orUndef, RelL] at h ⊢; rw [hl _ _ hr]; exact h
  | clo f caps =>
    simp only [PV.ren]
    split
    · rename_i hall
      obtain ⟨vs, e, hlen, h⟩ := h
      refine ⟨vs, e, by rw [renL_length]; exact hlen, fun i p u hp hu => ?_⟩
      rw [renL_get] at hp
      obtain ⟨q, hq, rfl⟩ := Option.map_eq_some_iff.1 hp
      obtain ⟨id, off, rfl, h1, h2⟩ := h i q u hq hu
      have hm : PV.isPtr ((PV.ptr id off).ren ρ) = true := List.all_eq_true.1 hall _ (List.mem_of_getElem? (i := i) (by rw [renL_get, hq]; rfl))
      simp only [PV.ren] at hm ⊢
      cases hr : renI ρ id with
      | none => rw [hr] at hm; cases hm
      | some j => exact ⟨j, off, rfl, by rw [hl _ _ hr]; exact h1, by rw [hl _ _ hr]; exact h2⟩
    · trivial
  | agg cs => exact h.elim
  | tup cs => exact h.elim
  | fresh k sz xs => exact h.elim
  | undef => trivial
  | c x => exact h
  | roptr cs => exact h
theorem RelA.ren (hl : ∀ a j, renI ρ a = some j → loc' j = loc a) {p : PV} {v : Value} (h : RelA w wr loc p v) : RelA w wr loc' (p.ren ρ) v := by
  by_cases hp : ∃ cs, p = .agg cs
  · obtain ⟨cs, rfl⟩ := hp
    obtain ⟨us, e, hlen, h⟩ := h
    refine ⟨us, e, by rw [renL_length]; exact hlen, fun i p u hp hu => ?_⟩
    rw [renL_get] at hp
    obtain ⟨q, hq, rfl⟩ := Option.map_eq_some_iff.1 hp
    exact ⟨(h i q u hq hu).1, (h i q u hq hu).2.ren hl⟩
  · rw [RelA_of_L (fun cs e => hp ⟨cs, e⟩)] at h
    have := h.ren hl
    cases p <;> first | exact absurd ⟨_, rfl⟩ hp | (simp only [PV.ren] at this ⊢; first | exact this | (revert this; unfold orUndef; split <;> exact id) | (revert this; split <;> exact id))
theorem RelV.ren (hl : ∀ a j, renI ρ a = some j → loc' j = loc a) {p : PV} {v : Value} (h : RelV w wr loc p v) : RelV w wr loc' (p.ren ρ) v := by
  by_cases hp : ∃ cs, p = .tup cs
  · obtain ⟨cs, rfl⟩ := hp
    obtain ⟨us, e, hlen, h⟩ := h
    refine ⟨us, e, by rw [renL_length]; exact hlen, fun i p u hp hu => ?_⟩
    rw [renL_get] at hp
    obtain ⟨q, hq, rfl⟩ := Option.map_eq_some_iff.1 hp
    exact (h i q u hq hu).ren hl
  · rw [RelV_of_A (fun cs e => hp ⟨cs, e⟩)] at h
    have := h.ren hl
    cases p <;> first | exact absurd ⟨_, rfl⟩ hp | (simp only [PV.ren] at this ⊢; first | exact this | (revert this; unfold orUndef; split <;> exact id) | (revert this; split <;> exact id))
theorem MC.ren_rw (x : MC) : (x.ren ρ).rw = x.rw := by cases x <;> rfl
theorem MRel.ren (hl : ∀ a j, renI ρ a = some j → loc' j = loc a) {a j i : Nat} (hj : loc' j = loc a) {x : MC} (h : MRel w wr loc a i x) : MRel w wr loc' j i (x.ren ρ) := by
  cases x with
  | cell p =>
    obtain ⟨hh, arr, T, u, h1, h2, h3, h4⟩ := h
    simp only [MC.ren, MRel, hj]
    exact ⟨hh, arr, T, u, h1, h2, h3, h4.ren hl⟩
  | vec b sz xs =>
    simp only [MC.ren, MRel, hj]
    exact h
end

theorem lookM_append : ∀ {l l' : List (Key × Option MC)} {k : Key} {x : MC}, lookM (l ++ l') k = some x → lookM l k = some x ∨ lookM l' k = some x
  | [], _, _, _, h => .inr h
  | (k0, v) :: r, l', k, x, h => by
    simp only [List.cons_append, lookM] at h ⊢
    split at h
    · rename_i e; rw [if_pos e]; exact .inl h
    · rename_i e; rw [if_neg e]; exact lookM_append h
theorem keepC_spec {ρ : Ren} {m : Mem} {a b : Nat} : ∀ {n i0 : Nat} {j i : Nat} {x : MC}, lookM (keepC ρ m a b i0 n) (j, i) = some x → j = b ∧ ∃ y, m (a, i) = some y ∧ x = y.ren ρ
  | 0, _, _, _, _, h => by cases h
  | n + 1, i0, j, i, x, h => by
    simp only [keepC] at h
    cases hm : m (a, i0) with
    | none => rw [hm] at h; exact keepC_spec h
    | some y =>
      rw [hm] at h
      have h2 : lookM (((b, i0), some (y.ren ρ)) :: keepC ρ m a b (i0 + 1) n) (j, i) = some x := h
      clear h
      rw [lookM] at h2
      split at h2
      · rename_i e
        simp only [Prod.mk.injEq] at e
        obtain ⟨rfl, rfl⟩ := e
        exact ⟨rfl, y, hm, (Option.some.inj h2).symm⟩
      · exact keepC_spec h2
theorem keepM_spec {ρ : Ren} {m : Mem} : ∀ {l : Ren} {j i : Nat} {x : MC}, lookM (keepM ρ m l) (j, i) = some x → ∃ a n y, (a, j, n) ∈ l ∧ m (a, i) = some y ∧ x = y.ren ρ
  | [], j, i, x, h => by cases h
  | (a, b, n) :: r, j, i, x, h => by
    rcases lookM_append (l := keepC ρ m a b 0 n) (l' := keepM ρ m r) h with h | h
    · obtain ⟨rfl, y, h1, h2⟩ := keepC_spec h
      exact ⟨a, n, y, by simp, h1, h2⟩
    · obtain ⟨a', n', y, h1, h2⟩ := keepM_spec h
      exact ⟨a', n', y, List.mem_cons_of_mem _ h1, h2⟩
theorem keepN_spec {s : St} : ∀ {ns : Nils} {j i : Nat} {x : MC}, lookM (keepN s ns) (j, i) = some x → ∃ u sz, (u, some j, sz) ∈ ns ∧ i = 0 ∧ x = .vec true sz []
  | [], j, i, x, h => by cases h
  | (u, b, sz) :: r, j, i, x, h => by
    simp only [keepN] at h
    have tl : lookM (keepN s r) (j, i) = some x → ∃ u' sz', (u', some j, sz') ∈ (u, b, sz) :: r ∧ i = 0 ∧ x = .vec true sz' [] := fun h => by
      obtain ⟨u', sz', h1, h2⟩ := keepN_spec h
      exact ⟨u', sz', List.mem_cons_of_mem _ h1, h2⟩
    split at h
    · cases b with
      | none => exact tl h
      | some b =>
        have h2 : lookM (((b, 0), some (MC.vec true sz [])) :: keepN s r) (j, i) = some x := h
        clear h
        rw [lookM] at h2
        split at h2
        · rename_i e
          simp only [Prod.mk.injEq] at e
          obtain ⟨rfl, rfl⟩ := e
          exact ⟨u, sz, by simp, rfl, (Option.some.inj h2).symm⟩
        · exact tl h2
    · exact tl h
theorem isNil_rel {w : World} {wr : Nat → Prop} {loc : Locs} {p : PV} {v : Value} (hp : p.isNil = true) (h : RelV w wr loc p v) : ∃ A, v = .slice A 0 0 := by
  unfold PV.isNil at hp
  split at hp
  · exact ⟨none, rel_lit h⟩
  · have h : RelC w wr .z v := h
    cases h with
    | z A => exact ⟨A, rfl⟩
  · cases hp
theorem keep_slot (s : St) (f : Nat → PV → PV) : ∀ (l : List Nat) (t : Nat), lookS (l.map fun t => (t, f t (s.slot t))) t = .undef ∨ lookS (l.map fun t => (t, f t (s.slot t))) t = f t (s.slot t)
  | [], t => .inl rfl
  | u :: r, t => by
    simp only [List.map_cons, lookS]
    split
    · rename_i e; subst e; exact .inr rfl
    · exact keep_slot s f r t

theorem MInv.ren {s : St} {loc : Locs} {w : World} (h : MInv w0 lent wr0 s.at loc w) {ρ : Ren} {ns : Nils} (hok : renOk ρ ns = true) {sl : List (Nat × PV)} :
    MInv w0 lent wr0 (St.at ⟨sl, keepM ρ s.at ρ ++ keepN s ns⟩) (renLoc ρ ns loc) w ∧ (∀ g, g < w.heap.size → WR (St.at ⟨sl, keepM ρ s.at ρ ++ keepN s ns⟩) (renLoc ρ ns loc) wr0 g → WR s.at loc wr0 g) ∧ (∀ a j, renI ρ a = some j → renLoc ρ ns loc j = loc a) ∧ ∀ u b sz, (u, some b, sz) ∈ ns → renLoc ρ ns loc b = ⟨0, 0, sz, false⟩ := by
  simp only [renOk, Bool.and_eq_true] at hok
  have hn := nodupB_iff hok.2
  have hn1 := nodupB_iff hok.1
  have hn2 : (ρ.map (·.2.1)).Nodup := (List.nodup_append.1 hn).1
  have hn3 : ns.ids.Nodup := (List.nodup_append.1 hn).2.1
  have hdis : ∀ j, j ∈ ρ.map (·.2.1) → j ∉ ns.ids := fun j h1 h2 => (List.nodup_append.1 hn).2.2 j h1 j h2 rfl
  have hA : ∀ a j, renI ρ a = some j → renLoc ρ ns loc j = loc a := fun a j hr => by
    obtain ⟨n, hm⟩ := renI_mem hr
    have h1 := nilI_none (hdis j (List.mem_map.2 ⟨_, hm, rfl⟩))
    have h2 := invI_mem hn2 hm
    simp only [renLoc, h1, h2]
  have hB : ∀ u b sz, (u, some b, sz) ∈ ns → renLoc ρ ns loc b = ⟨0, 0, sz, false⟩ := fun u b sz hm => by
    simp only [renLoc, nilI_mem hn3 hm]
  have back : ∀ j i x, St.at ⟨sl, keepM ρ s.at ρ ++ keepN s ns⟩ (j, i) = some x → (∃ a y, renI ρ a = some j ∧ s.at (a, i) = some y ∧ x = y.ren ρ) ∨ (∃ u sz, (u, some j, sz) ∈ ns ∧ i = 0 ∧ x = .vec true sz []) := fun j i x hx => by
    rcases lookM_append (show lookM (keepM ρ s.at ρ ++ keepN s ns) (j, i) = some x from hx) with hx | hx
    · obtain ⟨a, n, y, h1, h3, h4⟩ := keepM_spec hx
      exact .inl ⟨a, y, mem_renI hn1 h1, h3, h4⟩
    · exact .inr (keepN_spec hx)
  have hwr : ∀ g, g < w.heap.size → WR (St.at ⟨sl, keepM ρ s.at ρ ++ keepN s ns⟩) (renLoc ρ ns loc) wr0 g → WR s.at loc wr0 g := fun g _ hg => by
    rcases hg with hg | ⟨j, i, x, hx, hr, hh, rfl⟩
    · exact .inl hg
    · rcases back j i x hx with ⟨a, y, h1, h2, rfl⟩ | ⟨u, sz, h1, _, _⟩
      · rw [hA a j h1] at hh ⊢
        exact .inr ⟨a, i, y, h2, by rw [← MC.ren_rw (ρ := ρ)]; exact hr, hh, rfl⟩
      · rw [hB _ _ _ h1] at hh; cases hh
  have L : Later w w (WR s.at loc wr0) (WR (St.at ⟨sl, keepM ρ s.at ρ ++ keepN s ns⟩) (renLoc ρ ns loc) wr0) := ⟨Nat.le_refl _, fun _ _ _ => rfl, hwr⟩
  refine ⟨⟨h.low, h.keep, h.wrlt, fun j i x hx => ?_, fun j i x j' i' x' hx hx' hh hh' e => ?_, fun j i x hx hh => ?_, fun j b sz xs i x hv hx => ?_⟩, hwr, hA, hB⟩
  · rcases back j i x hx with ⟨a, y, h1, h2, rfl⟩ | ⟨u, sz, h1, rfl, rfl⟩
    · have := (h.mem a i y h2).later L (loc' := loc) rfl (fun _ _ _ _ => rfl) (fun _ => rfl)
      exact this.ren hA (hA a j h1)
    · show _ ∧ _
      rw [hB _ _ _ h1]
      exact ⟨rfl, rfl, Nat.le_refl _, Nat.zero_le _, fun _ _ h => (by simp at h), fun h => absurd h (Nat.lt_irrefl _)⟩
  · rcases back j i x hx with ⟨a, y, h1, h2, rfl⟩ | ⟨u, sz, h1, _, _⟩
    · rcases back j' i' x' hx' with ⟨a', y', h1', h2', rfl⟩ | ⟨u, sz, h1', _, _⟩
      · rw [hA a j h1] at hh e
        rw [hA a' j' h1'] at hh' e
        have := h.inj a i y a' i' y' h2 h2' hh hh' e
        subst this
        rw [h1] at h1'
        cases h1'; rfl
      · rw [hB _ _ _ h1'] at hh'; cases hh'
    · rw [hB _ _ _ h1] at hh; cases hh
  · rcases back j i x hx with ⟨a, y, h1, h2, rfl⟩ | ⟨u, sz, h1, _, _⟩
    · rw [hA a j h1] at hh ⊢
      exact h.place a i y h2 hh
    · rw [hB _ _ _ h1] at hh; cases hh
  · rcases back j i x hx with ⟨a, y, h1, h2, rfl⟩ | ⟨u, sz', h1, h2, _⟩
    · rcases back j 0 _ hv with ⟨a', y', h1', h2', e⟩ | ⟨u, sz', h1', _, _⟩
      · have := pair_of_snd hn2 (renI_mem h1).choose_spec (renI_mem h1').choose_spec
        subst this
        cases y' with
        | cell p => cases e
        | vec b' sz' xs' => exact h.excl a b' sz' xs' i y h2' h2
      · exact absurd (ids_mem h1') (hdis j (List.mem_map.2 ⟨_, (renI_mem h1).choose_spec, rfl⟩))
    · exact h2

theorem keepP_rel {w : World} {wr : Nat → Prop} {loc loc' : Locs} {ρ : Ren} (hA : ∀ a j, renI ρ a = some j → loc' j = loc a) {t : Nat} {p : PV} {v : Value} (h : RelV w wr loc p v) : ∀ {ns : Nils}, (∀ u b sz, (u, some b, sz) ∈ ns → loc' b = ⟨0, 0, sz, false⟩) → RelV w wr loc' (keepP ρ ns t p) v
  | [], _ => h.ren hA
  | (u, b, sz) :: r, hB => by
    simp only [keepP]
    split
    · split
      · rename_i hn
        obtain ⟨A, rfl⟩ := isNil_rel hn h
        cases b with
        | some b =>
          show RelV w wr loc' (.own b 0 0) (.slice A 0 0)
          have hb : loc' b = ⟨0, 0, sz, false⟩ := hB u b sz (by simp)
          refine ⟨A, 0, rfl, Nat.le_refl _, ?_, fun h => absurd h (Nat.lt_irrefl _)⟩
          rw [hb]
        | none =>
          exact RelC.ro sz [] A 0 (fun _ _ => .bool false) (Nat.le_refl _) (fun _ _ h => by simp at h) (fun h => absurd rfl h) (fun _ _ => rfl) (fun _ _ _ _ h => by simp at h)
      · exact h.ren hA
    · exact keepP_rel hA h fun u' b' sz' hm => hB u' b' sz' (List.mem_cons_of_mem _ hm)

theorem prune_stands {s : St} {a : Act} {w : World} (live : Option Live) (h : s.stands w0 lent wr0 n a w) : (s.prune live).stands w0 lent wr0 n a w := by
  cases live with
  | none => exact h
  | some l =>
    obtain ⟨sl, ρ, ns⟩ := l
    obtain ⟨h1, h2, loc, hM, hS⟩ := h
    show (s.keep (sl, ρ, ns)).stands w0 lent wr0 n a w
    unfold St.keep
    split
    · rename_i hok
      obtain ⟨g1, g2, hA, hB⟩ := hM.ren (sl := sl.map fun t => (t, keepP ρ ns t (s.slot t))) (show renOk ρ ns = true from hok)
      refine ⟨h1, h2, _, g1, fun t => ?_⟩
      show RelV w _ _ (lookS (sl.map fun t => (t, keepP ρ ns t (s.slot t))) t) _
      rcases keep_slot s (keepP ρ ns) sl t with e | e
      · rw [e]; trivial
      · rw [e]
        exact keepP_rel hA ((hS t).later (loc' := loc) ⟨Nat.le_refl _, fun _ _ _ => rfl, g2⟩ fun _ _ => rfl) hB
    · refine ⟨h1, h2, loc, ?_, fun t => trivial⟩
      exact { low := hM.low, keep := hM.keep, wrlt := hM.wrlt, mem := fun _ _ _ h => (by cases h), inj := fun _ _ _ _ _ _ h => (by cases h), place := fun _ _ _ h => (by cases h), excl := fun _ _ _ _ _ _ h => (by cases h) }

theorem wpC_sound (hE : EnvOk P E) (hmix : P.follows .mixedOrders = true) : ∀ (c : Code) {Q' : Post} {Q : Exit → Act → World → Prop} {s : St} {a : Act} {w : World}, codeOk n c = true → wpC E c Q' s → s.stands w0 lent wr0 n a w → (∀ ex (s' : St) a' w', Q' ex s' → s'.stands w0 lent wr0 n a' w' → Q ex a' w') → c.wp P Q a w := by
  intro c
  induction c with
  | skip => intro Q' Q s a w _ h hs hQ; exact wp_skip (hQ _ _ _ _ h hs)
  | region id ops draw =>
    intro Q' Q s a w hok h hs hQ
    cases draw with
    | false => exact wp_region_list (reg_sound hE (fun acc s' a' w' hK hst => hQ _ _ _ _ hK (prune_stands _ hst)) ops.toList (List.all_eq_true.1 hok) [] s a w h hs)
    | true => exact draw_sound hE hmix hok h hs fun s' a' w' hq hst => hQ _ _ _ _ hq (prune_stands _ hst)
  | seq x y ihx ihy =>
    intro Q' Q s a w hok h hs hQ
    simp only [codeOk, Bool.and_eq_true] at hok
    refine wp_seq (ihx hok.1 h hs fun ex s' a' w' hq hst => ?_)
    cases ex with
    | normal => exact ihy hok.2 hq hst hQ
    | exit id => exact hQ _ _ _ _ hq hst
    | goto l => exact hQ _ _ _ _ hq hst
    | ret => exact hQ _ _ _ _ hq hst
    | panic ch => exact hQ _ _ _ _ hq hst
    | outgrown => exact hQ _ _ _ _ hq hst
  | cond c x y ihx ihy =>
    intro Q' Q s a w hok h hs hQ
    simp only [codeOk, Bool.and_eq_true] at hok
    have h : condW (s.ev c) (wpC E x Q' s) (wpC E y Q' s) := h
    unfold condW at h
    split at h
    · rename_i b hb
      obtain ⟨h1, h2, loc, hM, hS⟩ := id hs
      have hev : RelV w (WR s.at loc wr0) loc (s.ev c) (a.eval c) := evOk_of hS c
      rw [hb] at hev
      have hc : a.eval c = .bool b := rel_lit hev
      exact wp_cond_split hc (fun ht => ihx hok.1 (h.1 ht) hs hQ) (fun hf => ihy hok.2 (h.2 hf) hs hQ)
    · exact h.elim
  | block id body ih =>
    intro Q' Q s a w hok h hs hQ
    refine wp_block (ih hok h hs fun ex s' a' w' hq hst => ?_)
    cases ex with
    | exit i =>
      have hq : (if i = id then Q' .normal s' else Q' (.exit i) s') := hq
      show (if i = id then Q .normal a' w' else Q (.exit i) a' w')
      split
      · rw [if_pos ‹_›] at hq; exact hQ _ _ _ _ hq hst
      · rw [if_neg ‹_›] at hq; exact hQ _ _ _ _ hq hst
    | normal => exact hQ _ _ _ _ hq hst
    | goto l => exact hQ _ _ _ _ hq hst
    | ret => exact hQ _ _ _ _ hq hst
    | panic ch => exact hQ _ _ _ _ hq hst
    | outgrown => exact hQ _ _ _ _ hq hst
  | loop body ih =>
    intro Q' Q s a w hok h hs hQ
    obtain ⟨I, ⟨n0, h0⟩, hround⟩ := h
    refine wp_loop_ghost (fun k a w => ∃ s, I k s ∧ s.stands w0 lent wr0 n a w) n0 ⟨s, h0, hs⟩ fun k a w hI => ?_
    obtain ⟨s1, hI1, hs1⟩ := hI
    refine ih hok (hround k s1 hI1) hs1 fun ex s' a' w' hq hst => ?_
    cases ex with
    | normal =>
      obtain ⟨k', hlt, hI'⟩ := hq
      exact ⟨k', hlt, s', hI', hst⟩
    | exit id => exact hQ _ _ _ _ hq hst
    | goto l => exact hQ _ _ _ _ hq hst
    | ret => exact hQ _ _ _ _ hq hst
    | panic ch => exact hQ _ _ _ _ hq hst
    | outgrown => exact hQ _ _ _ _ hq hst
  | scope body ih =>
    intro Q' Q s a w hok h hs hQ
    refine wp_scope_straight (ih hok h hs fun ex s' a' w' hq hst => ?_)
    cases ex with
    | goto l => exact hq.elim
    | normal => exact hQ _ _ _ _ hq hst
    | exit id => exact hQ _ _ _ _ hq hst
    | ret => exact hQ _ _ _ _ hq hst
    | panic ch => exact hQ _ _ _ _ hq hst
    | outgrown => exact hQ _ _ _ _ hq hst
  | label l => intro Q' Q s a w _ h hs hQ; exact wp_label (hQ _ _ _ _ h hs)
  | ret => intro Q' Q s a w _ h hs hQ; exact wp_ret (hQ _ _ _ _ h hs)
  | exit id => intro Q' Q s a w _ h hs hQ; exact wp_exit (hQ _ _ _ _ h hs)
  | goto l => intro Q' Q s a w _ h; exact h.elim
  | rangeFunc f ps as b _ _ => intro Q' Q s a w _ h; exact h.elim
  | refuse why => intro Q' Q s a w _ h; exact h.elim
end Go.PM
