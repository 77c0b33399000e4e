/- A region whose order is drawn. -/
import Derived.Test.YtikenpdhdmbljaaPmDraw2
set_option linter.unusedSimpArgs false
set_option linter.unusedVariables false
set_option linter.unusedSectionVars false
set_option linter.unnecessarySimpa false
namespace Go.PM
open Go.RowKit (Below)
variable {P : Program} {E : Env} {w0 : World} {lent wr0 : Nat → Prop} {n : Nat}

theorem meets_spec {a b : List Key} (h : meets a b = false) {k : Key} (ha : k ∈ a) (hb : k ∈ b) : False := by
  have : meets a b = true := List.any_eq_true.2 ⟨k, ha, List.any_eq_true.2 ⟨k, hb, by simp⟩⟩
  rw [h] at this; cases this
theorem hits_spec {a b : List Nat} (h : hits a b = false) {k : Nat} (ha : k ∈ a) (hb : k ∈ b) : False := by
  have : hits a b = true := List.any_eq_true.2 ⟨k, ha, by simpa using hb⟩
  rw [h] at this; cases this

theorem mentions_refs {o : Oper} {e : Eff} {id : Nat} (h : Mentions o (some e) id) : id ∈ e.foot.refs := by
  obtain ⟨e', he, h⟩ := h
  cases he
  rcases h with ⟨_, h⟩ | ⟨x, hx, h⟩
  · exact List.mem_append_left _ h
  · refine List.mem_append_right _ (List.mem_flatMap.2 ⟨x, hx, ?_⟩)
    rcases h with h | h
    · simp [h]
    · exact List.mem_cons_of_mem _ h

structure Apart (dsts : List (Option Nat)) (o : Oper) (e : Option Eff) (o' : Oper) (e' : Option Eff) : Prop where
  a1 : ∀ t, o.dst = some t → t ∉ slotsOf dsts o'
  a2 : ∀ t, o.dst = some t → o'.dst ≠ some t
  a3 : ∀ t, o'.dst = some t → t ∉ slotsOf dsts o
  a4 : ∀ k ∈ keysE e, k ∉ keysE e' ∧ ∀ f, e' = some f → k ∉ f.rd
  a5 : ∀ k ∈ keysE e', ∀ f, e = some f → k ∉ f.rd
  a6 : ∀ f, e = some f → ∀ id ∈ f.new, ¬ Mentions o' e' id
  a7 : ∀ f, e' = some f → ∀ id ∈ f.new, ¬ Mentions o e id

theorem apart_of {dsts : List (Option Nat)} {o o' : Oper} {e e' : Option Eff} (h : apart dsts o o' (e.map Eff.foot) (e'.map Eff.foot) = true) : Apart dsts o e o' e' := by
  simp only [apart, Bool.and_eq_true] at h
  obtain ⟨⟨h1, h2⟩, h3⟩ := h
  have b1 : ∀ t, o.dst = some t → t ∉ slotsOf dsts o' ∧ o'.dst ≠ some t := fun t ht => by
    rw [ht] at h1
    simp only [Bool.and_eq_true, Bool.not_eq_true', List.contains_eq_mem, decide_eq_false_iff_not, beq_eq_false_iff_ne] at h1
    exact h1
  have b2 : ∀ t, o'.dst = some t → t ∉ slotsOf dsts o := fun t ht => by
    rw [ht] at h2
    simpa using h2
  cases e with
  | none => exact ⟨fun t h => (b1 t h).1, fun t h => (b1 t h).2, b2, fun k hk => (by cases hk), fun k hk f hf => (by cases hf), fun f hf => (by cases hf), fun f hf id hid hm => by obtain ⟨_, he, _⟩ := hm; cases he⟩
  | some e =>
    cases e' with
    | none => exact ⟨fun t h => (b1 t h).1, fun t h => (b1 t h).2, b2, fun k hk => ⟨(fun h => by cases h), fun f hf => by cases hf⟩, fun k hk => (by cases hk), fun f hf id hid hm => (by obtain ⟨_, he, _⟩ := hm; cases he), fun f hf => by cases hf⟩
    | some e' =>
      simp only [Option.map_some, Bool.and_eq_true, Bool.not_eq_true'] at h3
      obtain ⟨⟨⟨c1, c2⟩, c3⟩, c4⟩ := h3
      refine ⟨fun t h => (b1 t h).1, fun t h => (b1 t h).2, b2, fun k hk => ⟨fun h => meets_spec c1 hk (List.mem_append_right _ h), fun f hf h => ?_⟩, fun k hk f hf h => ?_, fun f hf id hid hm => ?_, fun f hf id hid hm => ?_⟩
      · cases hf; exact meets_spec c1 hk (List.mem_append_left _ h)
      · cases hf; exact meets_spec c2 hk h
      · cases hf; exact hits_spec c3 hid (mentions_refs hm)
      · cases hf; exact hits_spec c4 hid (mentions_refs hm)

theorem count_lt {p q : Nat → Bool} (h : ∀ x, q x = true → p x = true) : ∀ {l : List Nat} {i : Nat}, i ∈ l → p i = true → q i = false → (l.filter q).length < (l.filter p).length
  | x :: r, i, hi, hp, hq => by
    have hle : (r.filter q).length ≤ (r.filter p).length := by
      clear hi
      induction r with
      | nil => simp
      | cons y r ih =>
        cases hqy : q y
        · cases hpy : p y
          · simpa [List.filter_cons, hqy, hpy] using ih
          · simp [List.filter_cons, hqy, hpy]; omega
        · simpa [List.filter_cons, hqy, h y hqy] using ih
    rcases List.mem_cons.1 hi with rfl | hi
    · simp [List.filter_cons, hq, hp]; omega
    · have ih := count_lt h hi hp hq
      cases hqx : q x
      · cases hpx : p x
        · simpa [List.filter_cons, hqx, hpx] using ih
        · simp [List.filter_cons, hqx, hpx]; omega
      · simpa [List.filter_cons, hqx, h x hqx] using ih

theorem drew_stands {sl : Nat → PV} {m : Mem} {a : Act} {w : World} (h : Stands w0 lent wr0 n sl m a w) : Stands w0 lent wr0 n sl m a { w with drawn := w.drawn + 1 } := by
  obtain ⟨h1, h2, loc, hM, hS⟩ := h
  obtain ⟨g1, g2⟩ := hM.grow (m' := m) (loc' := loc) (w' := w.drew) (Below.refl _ w).drew (fun _ => False) (fun id j x hx _ => ⟨x, hx, .inl rfl⟩) (fun _ _ => rfl) (fun _ _ _ _ _ _ h => h) (fun _ _ _ _ h => h.elim) (fun _ _ _ _ _ _ _ _ h => h.elim) (fun _ _ _ _ _ _ _ _ h => h.elim) (fun _ _ _ _ _ h => h.elim)
  exact ⟨h1, h2, loc, g1, hS.later g2 fun _ _ _ => rfl⟩

theorem draw_sound (hE : EnvOk P E) (hmix : P.follows .mixedOrders = true) {id : Nat} {ops : Array Oper} {live : Option Live} {Q : Exit → Act → World → Prop} {Q' : Post} {s : St} {a : Act} {w : World} (hok : opsOk n ops.toList = true)
    (h : wpOpsP E (ops.toList.map (·.dst)) ops.toList (Post.draw ops.toList live Q') [] s) (hs : s.stands w0 lent wr0 n a w) (hQ : ∀ (s' : St) a' w', Q' .normal (s'.prune live) → s'.stands w0 lent wr0 n a' w' → Q .normal a' w') : (Code.region id ops true).wp P Q a w := by
  have hok' : ∀ o ∈ ops.toList, opOk n (ops.toList.map (·.dst)) o = true := List.all_eq_true.1 hok
  obtain ⟨es, s', htr, hK⟩ := trace_of ops.toList hok' [] s h
  obtain ⟨hb, hQ'⟩ := hK
  rw [List.append_nil, List.reverse_reverse, Bool.and_eq_true] at hb
  obtain ⟨hedge, hpair⟩ := hb
  have hlen := tr_len htr
  have hzip : ∀ k o e, (ops.toList.zip es)[k]? = some (o, e) ↔ ops[k]? = some o ∧ es[k]? = some e := fun k o e => by
    rw [List.getElem?_zip_eq_some, Array.getElem?_toList]
  have edge : ∀ j o e, ops[j]? = some o → e ∈ o.after.toList → Region.binds .any e = true → e.on < j := by
    intro j o e ho he hb
    have hj : j < ops.toList.length := by have := (Array.getElem?_eq_some_iff.1 ho).1; simpa using this
    have := List.all_eq_true.1 hedge j (List.mem_range.2 hj)
    rw [Array.getElem?_toList, ho] at this
    have := List.all_eq_true.1 this e he
    simpa [hb] using this
  have pair : ∀ i j o e o' e', i < j → (ops.toList.zip es)[i]? = some (o, e) → (ops.toList.zip es)[j]? = some (o', e') → Reach ops.toList j i ∨ Apart (ops.toList.map (·.dst)) o e o' e' := by
    intro i j o e o' e' hij hi hj
    rw [hzip] at hi hj
    have hjl : j < ops.toList.length := by have := (Array.getElem?_eq_some_iff.1 hj.1).1; simpa using this
    have h1 := List.all_eq_true.1 hpair j (List.mem_range.2 hjl)
    have h2 := List.all_eq_true.1 h1 i (List.mem_range.2 hij)
    rw [Bool.or_eq_true] at h2
    rcases h2 with h2 | h2
    · exact .inl (befores_reach h2)
    · right
      rw [Array.getElem?_toList, Array.getElem?_toList, hi.1, hj.1] at h2
      simp only [List.getElem?_map, hi.2, hj.2, Option.map_some, Option.getD_some] at h2
      exact apart_of h2
  refine wp_region_any hmix ?_
  have main : ∀ (fuel : Nat) (listed : Array Bool) (a : Act) (w : World), listed.size = ops.size → ((List.range ops.size).filter fun i => !listed.getD i false).length ≤ fuel → ClosedD ops.toList (fun i => listed.getD i false) →
      Stands w0 lent wr0 n (runD (fun i => listed.getD i false) 0 (ops.toList.zip es) (s.slot, s.at)).1 (runD (fun i => listed.getD i false) 0 (ops.toList.zip es) (s.slot, s.at)).2 a w → wpAny P .any ops Q fuel listed a w := by
    have fin : ∀ (listed : Array Bool) (a : Act) (w : World), (∀ k, k < ops.size → listed.getD k false = true) → Stands w0 lent wr0 n (runD (fun i => listed.getD i false) 0 (ops.toList.zip es) (s.slot, s.at)).1 (runD (fun i => listed.getD i false) 0 (ops.toList.zip es) (s.slot, s.at)).2 a w → Q .normal a w := by
      intro listed a w hall hst
      have he := tr_end (D := fun i => listed.getD i false) 0 htr (fun k hk => hall k (by simpa using hk))
      refine hQ s' a w hQ' ?_
      rw [← he] at hst
      exact hst
    have all : ∀ (listed : Array Bool), listed.size = ops.size → Region.ready .any ops listed = [] → ∀ k, k < ops.size → listed.getD k false = true := by
      intro listed hsz hr k
      induction k using Nat.strongRecOn with
      | _ k ihk =>
        intro hk
        cases hq : listed.getD k false with
        | true => rfl
        | false =>
          have hlk : listed[k]? = some false := by
            rw [Array.getD_eq_getD_getElem?, Array.getElem?_eq_getElem (by omega)] at hq
            rw [Array.getElem?_eq_getElem (by omega)]
            simpa using hq
          have : k ∈ Region.ready .any ops listed := by
            unfold Region.ready
            refine List.mem_filter.2 ⟨List.mem_range.2 hk, ?_⟩
            rw [Array.getD_eq_getD_getElem?, hlk, Array.getElem?_eq_getElem hk]
            simp only [Option.getD_some, Bool.not_false, Bool.true_and, Option.map_some]
            rw [Array.all_eq_true_iff_forall_mem]
            intro e he
            cases hb : Region.binds .any e with
            | false => rfl
            | true =>
              have hlt := edge k _ e (Array.getElem?_eq_getElem hk) (Array.mem_toList_iff.2 he) hb
              simpa using ihk _ hlt (by omega)
          rw [hr] at this
          cases this
    intro fuel
    induction fuel with
    | zero =>
      intro listed a w hsz hcnt hcl hst
      have hnil : ∀ k, k < ops.size → listed.getD k false = true := by
        intro k hk
        have := List.length_eq_zero_iff.1 (Nat.le_zero.1 hcnt)
        rw [List.filter_eq_nil_iff] at this
        simpa using this k (List.mem_range.2 hk)
      refine ⟨?_, fin listed a w hnil hst⟩
      unfold Region.ready
      rw [List.filter_eq_nil_iff]
      intro k hk
      have h1 := hnil k (List.mem_range.1 hk)
      have hk' := List.mem_range.1 hk
      rw [Array.getD_eq_getD_getElem?, Array.getElem?_eq_getElem (by omega)] at h1 ⊢
      simp only [Option.getD_some] at h1 ⊢
      simp [h1]
    | succ fuel ih =>
      intro listed a w hsz hcnt hcl hst
      refine ⟨fun hr => fin listed a w (all listed hsz hr) hst, fun i hi => ?_⟩
      unfold Region.ready at hi
      obtain ⟨hi1, hi2⟩ := List.mem_filter.1 hi
      have hisz := List.mem_range.1 hi1
      rw [Bool.and_eq_true] at hi2
      obtain ⟨hi3, hi4⟩ := hi2
      have hDi : listed.getD i false = false := by
        rw [Array.getD_eq_getD_getElem?, Array.getElem?_eq_getElem (by omega)] at hi3 ⊢
        simpa using hi3
      obtain ⟨o, ho⟩ : ∃ o, ops[i]? = some o := ⟨_, Array.getElem?_eq_getElem hisz⟩
      obtain ⟨e, he⟩ : ∃ e, es[i]? = some e := ⟨es[i]'(by rw [hlen]; simpa using hisz), List.getElem?_eq_getElem _⟩
      have htri := (hzip i o e).2 ⟨ho, he⟩
      have hedges : ∀ o' e', ops.toList[i]? = some o' → e' ∈ o'.after.toList → Region.binds .any e' = true → listed.getD e'.on false = true := by
        intro o' e' ho' he' hb'
        rw [Array.getElem?_toList] at ho'
        rw [ho'] at hi4
        simp only [Option.map_some, Option.getD_some] at hi4
        rw [Array.all_eq_true_iff_forall_mem] at hi4
        have := hi4 e' (Array.mem_toList_iff.1 he')
        simpa [hb'] using this
      -- those ahead that are not done, and those behind that are: apart
      have ahead : ∀ k o' e', k < i → (ops.toList.zip es)[k]? = some (o', e') → listed.getD k false = false → Apart (ops.toList.map (·.dst)) o' e' o e := by
        intro k o' e' hk hz hD
        rcases pair k i o' e' o e hk hz htri with hr | hr
        · have := hr.closed (D := fun i => listed.getD i false) hcl hedges
          simp only [hD] at this
          cases this
        · exact hr
      have behind : ∀ k o' e', i < k → (ops.toList.zip es)[k]? = some (o', e') → listed.getD k false = true → Apart (ops.toList.map (·.dst)) o e o' e' := by
        intro k o' e' hk hz hD
        rcases pair i k o e o' e' hk htri hz with hr | hr
        · have := hr.closed (D := fun i => listed.getD i false) hcl fun o2 e2 ho2 he2 hb2 => hcl k o2 e2 hD ho2 he2 hb2
          simp only [hDi] at this
          cases this
        · exact hr
      have hat0 := tr_at 0 htr i o e htri
      have hat : OpAt E (ops.toList.map (·.dst)) (runD (fun i => listed.getD i false) 0 (ops.toList.zip es) (s.slot, s.at)) o e := by
        refine op_at_congr hat0 (fun t ht => run_slot (fun k o' e' hz hd => ?_) rfl) (fun f hf key hkey => run_mem (fun k o' e' hz hd => ?_) rfl)
        · simp only [Nat.zero_add]
          rcases Nat.lt_trichotomy k i with hlt | heq | hgt
          · cases hD : listed.getD k false with
            | true => simp [hlt]
            | false => exact absurd ht ((ahead k o' e' hlt hz hD).a1 t hd)
          · subst heq; simp [hDi]
          · cases hD : listed.getD k false with
            | false => simp; omega
            | true => exact absurd ht ((behind k o' e' hgt hz hD).a3 t hd)
        · simp only [Nat.zero_add]
          rcases Nat.lt_trichotomy k i with hlt | heq | hgt
          · cases hD : listed.getD k false with
            | true => simp [hlt]
            | false => exact absurd hkey (((ahead k o' e' hlt hz hD).a4 key hd).2 f hf)
          · subst heq; simp [hDi]
          · cases hD : listed.getD k false with
            | false => simp; omega
            | true => exact absurd hkey ((behind k o' e' hgt hz hD).a5 key hd f hf)
      have hsz' : (listed.setIfInBounds i true).size = ops.size := by simpa using hsz
      have hget : ∀ k, (listed.setIfInBounds i true).getD k false = if k = i then true else listed.getD k false := by
        intro k
        rw [Array.getD_eq_getD_getElem?, Array.getElem?_setIfInBounds]
        by_cases hk : i = k
        · subst hk; rw [if_pos rfl, if_pos (by omega), if_pos rfl]; rfl
        · rw [if_neg hk, if_neg (fun e => hk e.symm), Array.getD_eq_getD_getElem?]
      have hins : runD (fun k => (listed.setIfInBounds i true).getD k false) 0 (ops.toList.zip es) (s.slot, s.at) = stepF o e (runD (fun k => listed.getD k false) 0 (ops.toList.zip es) (s.slot, s.at)) :=
        run_insert (j := i) (fun k hk => by simp only [hget, if_neg hk]) (by simp [hget]) hDi (Nat.zero_le _) (by simpa using htri) fun k o' e' hz hlt hD => by
          simp only [Nat.zero_add] at hlt hD
          have := behind k o' e' hlt hz hD
          exact ⟨this.a2, fun key hk => (this.a4 key hk).1⟩
      have hcl' : ClosedD ops.toList (fun k => (listed.setIfInBounds i true).getD k false) := by
        intro j o' e' hj ho' he' hb'
        simp only [hget] at hj ⊢
        split
        · rfl
        · split at hj
          · rename_i hji; subst hji; exact hedges o' e' ho' he' hb'
          · exact hcl j o' e' hj ho' he' hb'
      have hcnt' : ((List.range ops.size).filter fun k => !(listed.setIfInBounds i true).getD k false).length ≤ fuel := by
        have := count_lt (p := fun k => !listed.getD k false) (q := fun k => !(listed.setIfInBounds i true).getD k false) (fun k hk => by
          simp only [hget] at hk
          split at hk
          · cases hk
          · exact hk) (List.mem_range.2 hisz) (by simp [hDi]) (by simp [hget])
        omega
      have go : ∀ a' w', Stands w0 lent wr0 n (stepF o e (runD (fun k => listed.getD k false) 0 (ops.toList.zip es) (s.slot, s.at))).1 (stepF o e (runD (fun k => listed.getD k false) 0 (ops.toList.zip es) (s.slot, s.at))).2 a' w' → wpAny P .any ops Q fuel (listed.setIfInBounds i true) a' w' := fun a' w' hst' =>
        ih _ a' w' hsz' hcnt' hcl' (by rw [hins]; exact hst')
      have hoko := hok' o (by rw [← Array.getElem?_toList] at ho; exact List.mem_of_getElem? ho)
      have hdst := opOk_dst hoko
      have hbind : ∀ (j : Nat) (d : Nat), (ops.toList.map fun x : Oper => x.dst)[j]? = some (some d) → (ops[j]?).bind (fun x : Oper => x.dst) = some d := by
        intro j d hd
        rw [List.getElem?_map] at hd
        rw [← Array.getElem?_toList]
        cases hq : ops.toList[j]? with
        | none => rw [hq] at hd; cases hd
        | some q => rw [hq] at hd; simpa using hd
      have hguard : ∀ (j : Nat) (b : Bool) (d : Nat), o.guard = some (j, b) → (ops.toList.map fun x : Oper => x.dst)[j]? = some (some d) → d < n := by
        intro j b d hg hd
        obtain ⟨d', hd', hn⟩ := opOk_guard hoko hg
        rw [hd] at hd'
        cases hd'
        exact hn
      unfold wpOp
      simp only [ho]
      cases e with
      | some e =>
        have hw : Region.wanted o (yielded ops a.tmps) = true := by
          unfold Region.wanted
          cases hg : o.guard with
          | none => rfl
          | some g =>
            obtain ⟨j, b⟩ := g
            obtain ⟨d, hd, hx⟩ := hat.1 j b hg
            simp [yields_bool hst (hbind j d hd) (hguard j b d hg hd) hx]
        rw [if_pos hw]
        left
        refine stands_op hE hst hdst hat.2 (fun id hid => ?_) fun a' w' hst' => go a' w' hst'
        obtain ⟨c1, c2⟩ := tr_clean htr i o e htri id hid
        refine run_clean c1.f fun k o' e' hz hD hm => ?_
        simp only [Nat.zero_add] at hD
        rcases Nat.lt_trichotomy k i with hlt | heq | hgt
        · exact c2 k o' e' hlt hz hm
        · subst heq; rw [hDi] at hD; cases hD
        · exact (behind k o' e' hgt hz hD).a6 e rfl id hid hm
      | none =>
        obtain ⟨j, b, d, hg, hd, hx⟩ := hat
        have hw : ¬ Region.wanted o (yielded ops a.tmps) = true := by
          unfold Region.wanted
          rw [hg]
          rcases hx with hx | ⟨v, hx⟩
          · simp [yields_bool hst (hbind j d hd) (hguard j b d hg hd) hx]
          · simp [yields_none hst (hbind j d hd) (hguard j b d hg hd) hx]
        rw [if_neg hw]
        exact go _ _ (stands_skip hst hdst)
  refine main ops.size _ a _ (by simp) ?_ (fun j o e hj => ?_) ?_
  · exact Nat.le_trans (List.length_filter_le _ _) (by simp)
  · have : (Array.replicate ops.size false).getD j false = false := by
      simp [Array.getD_eq_getD_getElem?, Array.getElem?_replicate]
      split <;> rfl
    simp only [this] at hj
    cases hj
  · have : (fun i => (Array.replicate ops.size false).getD i false) = fun _ => false := by
      funext i
      simp [Array.getD_eq_getD_getElem?, Array.getElem?_replicate]
      split <;> rfl
    rw [this, run_none fun _ _ => rfl]
    exact drew_stands hs
end Go.PM
