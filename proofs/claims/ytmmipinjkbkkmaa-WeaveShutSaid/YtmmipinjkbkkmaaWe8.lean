/- The plain laws of weaves: what Put makes. -/
import Derived.Test.YtmmipinjkbkkmaaWe7
set_option linter.unusedSimpArgs false
set_option linter.unusedVariables false
set_option linter.unusedSectionVars false
set_option linter.unnecessarySimpa false
namespace Go.Proofs.We
open Go.PM Go.Proofs

def endL : Int → List S → Int
  | a, [] => a
  | _, s :: r => endL s.u r
theorem upto_end (w : Wv) : uptoN w = endL w.base w.got := by
  have : ∀ (l : List S) (a : Int), endL a l = match l.getLast? with | none => a | some x => x.u := by
    intro l
    induction l with
    | nil => intro a; rfl
    | cons x r ih =>
      intro a
      rw [endL, ih]
      cases r with
      | nil => rfl
      | cons y t =>
        rw [List.getLast?_cons_cons]
        cases h : (y :: t).getLast? with
        | none => simp at h
        | some z => rfl
  rw [this]; rfl
theorem getD_put (R v : List Int) (k j : Nat) (h : k + v.length ≤ R.length) : (PM.put R k v).getD j 0 = if k ≤ j ∧ j < k + v.length then v.getD (j - k) 0 else R.getD j 0 := by
  simp only [PM.put, List.getD_eq_getElem?_getD]
  rw [List.append_assoc, List.getElem?_append]
  simp only [List.length_take, Nat.min_eq_left (show k ≤ R.length by omega)]
  by_cases h1 : j < k
  · rw [if_pos h1, if_neg (by omega), List.getElem?_take, if_pos h1]
  · rw [if_neg h1, List.getElem?_append]
    by_cases h2 : j - k < v.length
    · rw [if_pos h2, if_pos (by omega)]
    · rw [if_neg h2, if_neg (by omega), List.getElem?_drop]
      congr 2
      omega
theorem getD_seg (b : List Int) {lo hi : Int} (h0 : 0 ≤ lo) (j : Nat) (hj : (j : Int) < hi - lo) : (seg b lo hi).getD j 0 = b.getD (lo.toNat + j) 0 := by
  simp only [seg, List.getD_eq_getElem?_getD, List.getElem?_drop, List.getElem?_take]
  rw [if_pos (by omega)]
theorem seg_length {b : List Int} {lo hi : Int} (h0 : 0 ≤ lo) (h1 : lo ≤ hi) (h2 : hi ≤ b.length) : (seg b lo hi).length = (hi - lo).toNat := by
  simp [seg]; omega
theorem step_get {w : Wv} {R : List Int} {s : S} (h1 : w.base ≤ s.f) (h2 : s.f < s.u) (h3 : s.u ≤ w.base + w.b.length) (h4 : w.b.length ≤ R.length) (j : Nat) : (step9 w R s).getD j 0 = if ins s (w.base + j) = true then w.b.getD j 0 else R.getD j 0 := by
  have hl := seg_length (b := w.b) (lo := s.f - w.base) (hi := s.u - w.base) (by omega) (by omega) (by omega)
  rw [step9, getD_put _ _ _ _ (by omega)]
  by_cases h : ins s (w.base + j) = true
  · have h' := ins_iff.1 h
    rw [if_pos h, if_pos (by omega), getD_seg _ (by omega) _ (by omega)]
    congr 1; omega
  · rw [if_neg h, if_neg (fun hx => h (ins_iff.2 (by omega)))]
theorem step_len {w : Wv} {R : List Int} {s : S} (h1 : w.base ≤ s.f) (h2 : s.f < s.u) (h3 : s.u ≤ w.base + w.b.length) (h4 : w.b.length ≤ R.length) : (step9 w R s).length = R.length := by
  have hl := seg_length (b := w.b) (lo := s.f - w.base) (hi := s.u - w.base) (by omega) (by omega) (by omega)
  rw [step9, PM.put]; simp; omega
theorem fold_get {w : Wv} : ∀ {l : List S} {R : List Int}, (∀ x ∈ l, w.base ≤ x.f ∧ x.f < x.u ∧ x.u ≤ w.base + w.b.length) → w.b.length ≤ R.length →
    (l.foldl (step9 w) R).length = R.length ∧ ∀ j, (l.foldl (step9 w) R).getD j 0 = if inn l (w.base + j) = true then w.b.getD j 0 else R.getD j 0
  | [], R, _, _ => ⟨rfl, fun j => by simp [inn_nil]⟩
  | x :: r, R, h, hR => by
    obtain ⟨h1, h2, h3⟩ := h x (by simp)
    have hl := step_len h1 h2 h3 hR
    obtain ⟨i1, i2⟩ := fold_get (l := r) (R := step9 w R x) (fun y hy => h y (by simp [hy])) (by omega)
    refine ⟨by rw [List.foldl_cons, i1, hl], fun j => ?_⟩
    rw [List.foldl_cons, i2, inn_cons, step_get h1 h2 h3 hR]
    cases ins x (w.base + j) <;> cases inn r (w.base + j) <;> simp

theorem anyN_seg {b : List Int} {lo hi : Int} (h0 : 0 ≤ lo) (h2 : hi ≤ b.length) : anyN (seg b lo hi) = false ↔ ∀ j : Nat, lo ≤ j → (j : Int) < hi → b.getD j 0 = 0 := by
  rw [anyN, List.any_eq_false]
  constructor
  · intro h j h1 hj
    have hlt : j - lo.toNat < (seg b lo hi).length := by simp [seg]; omega
    have := h _ (List.getElem_mem hlt)
    have e := getD_seg b h0 (j - lo.toNat) (by omega) (hi := hi)
    rw [List.getD_eq_getElem?_getD, List.getElem?_eq_getElem hlt] at e
    have e2 : lo.toNat + (j - lo.toNat) = j := by omega
    rw [e2] at e
    rw [← e]
    simpa using this
  · intro h x hx
    obtain ⟨i, hi', rfl⟩ := List.getElem_of_mem hx
    have hl : i < (seg b lo hi).length := hi'
    have hlen : (seg b lo hi).length ≤ (hi - lo).toNat := by simp [seg]; omega
    have e := getD_seg b h0 i (by omega) (hi := hi)
    rw [List.getD_eq_getElem?_getD, List.getElem?_eq_getElem hl] at e
    have := h (lo.toNat + i) (by omega) (by omega)
    rw [← e] at this
    simpa using this
theorem inn_chain : ∀ {l : List S} {hi a n : Int}, chain hi a l → inn l n = true → a ≤ n ∧ n < endL a l
  | [], _, _, _, _, h => by cases h
  | x :: r, hi, a, n, ⟨h1, h2, h3, h4⟩, h => by
    have hle : ∀ {l : List S} {a : Int}, chain hi a l → a ≤ endL a l := by
      intro l
      induction l with
      | nil => intro a _; exact Int.le_refl _
      | cons y t ih => intro a hc; obtain ⟨c1, c2, c3, c4⟩ := hc; have := ih c4; rw [endL]; omega
    have hx := hle h4
    rw [inn_cons, Bool.or_eq_true] at h
    rw [endL]
    rcases h with h | h
    · have := ins_iff.1 h; omega
    · have := inn_chain h4 h; omega
theorem blank_iff {base : Int} {b : List Int} : ∀ {l : List S} {a : Int}, base ≤ a → chain (base + b.length) a l → (blank' base b a l = true ↔ ∀ j : Nat, a ≤ base + j → base + j < endL a l → inn l (base + j) = false → b.getD j 0 = 0)
  | [], a, ha, _ => by
    simp only [blank', endL, true_iff]
    intro j h1 h2; omega
  | s :: r, a, ha, ⟨h1, h2, h3, h4⟩ => by
    have ih := blank_iff (l := r) (a := s.u) (by omega) h4
    rw [blank', endL]
    have hse := anyN_seg (b := b) (lo := a - base) (hi := s.f - base) (by omega) (by omega)
    cases hany : anyN (seg b (a - base) (s.f - base)) with
    | true =>
      simp only [if_pos, Bool.false_eq_true, false_iff]
      intro hall
      have : anyN (seg b (a - base) (s.f - base)) = false := hse.2 fun j j1 j2 => by
        refine hall j (by omega) ?_ ?_
        · have := (inn_chain (hi := base + b.length) (a := a) (l := s :: r) (n := s.f) ⟨h1, h2, h3, h4⟩ (by rw [inn_cons, ins_iff.2 (by omega)]; rfl)).2
          rw [endL] at this; omega
        · rw [inn_cons]
          cases hi1 : ins s (base + j) with
          | true => have := ins_iff.1 hi1; omega
          | false =>
            cases hi2 : inn r (base + j) with
            | true => have := (inn_chain h4 hi2).1; omega
            | false => rfl
      rw [hany] at this; cases this
    | false =>
      simp only [Bool.false_eq_true, if_false]
      rw [ih]
      constructor
      · intro hall j j1 j2 j3
        rw [inn_cons, Bool.or_eq_false_iff] at j3
        by_cases hj : base + j < s.f
        · exact hse.1 hany j (by omega) (by omega)
        · have hn : ¬ (s.f ≤ base + j ∧ base + j < s.u) := fun hx => by rw [ins_iff.2 hx] at j3; exact absurd j3.1 (by simp)
          exact hall j (by omega) j2 j3.2
      · intro hall j j1 j2 j3
        refine hall j (by omega) j2 ?_
        rw [inn_cons, j3]
        cases hi1 : ins s (base + j) with
        | true => have := ins_iff.1 hi1; omega
        | false => rfl
theorem blankN_iff {w : Wv} (h1 : ok1 w) (h2 : ok2 w) : blankN w = true ↔ ∀ j : Nat, j < w.b.length → inn w.got (w.base + j) = false → w.b.getD j 0 = 0 := by
  have hc := (preB_of h1 h2).2.2.2
  rw [blankN, blank_iff (Int.le_refl _) hc, ← upto_end]
  have := h2.2.2
  constructor
  · intro h j hj hi; exact h j (by omega) (by omega) hi
  · intro h j _ hj hi; exact h j (by omega) hi

theorem putW_w0 (at' : Int) (b : List Int) : (putW w0 at' b).2.1 = 0 := by
  unfold putW
  split
  · rfl
  · split
    · rfl
    · split
      · rfl
      · rename_i h1 h2 h3
        exfalso
        apply h3
        have : edgeN w0 = 0 := by decide
        unfold highN lowN
        rw [this]
        show min _ 0 ≤ max at' 0
        omega
/-- What Put makes, where it makes something. -/
structure Made (w : Wv) (at' : Int) (b : List Int) : Prop where
  may : mayW (newW w at' b)
  upto : uptoN (newW w at' b) = max (uptoN w) (highN w at' b)
  inn : ∀ n, inn (newW w at' b).got n = (inn w.got n || ins ⟨lowN w at', highN w at' b⟩ n)
  len : (newW w at' b).got.length ≤ w.got.length + 1
  get : ∀ j : Nat, (newW w at' b).b.getD j 0 = if Go.Proofs.We.inn w.got (w.base + j) = true then w.b.getD j 0 else if ins ⟨lowN w at', highN w at' b⟩ (w.base + j) = true then b.getD (w.base + j - at').toNat 0 else w.b.getD j 0
  size : 0 ≤ size (newG w at' b) - size w.got ∧ size (newG w at' b) - size w.got ≤ highN w at' b - lowN w at'
theorem ext_get (w : Wv) (U : Int) (j : Nat) : (extB w U).getD j 0 = w.b.getD j 0 := by
  simp only [extB, List.getD_eq_getElem?_getD, List.getElem?_append]
  split
  · rfl
  · rw [List.getElem?_replicate]
    rw [List.getElem?_eq_none (by omega)]
    split <;> rfl
theorem made {w : Wv} {at' : Int} {b : List Int} (hm : mayW w) (h0 : 0 ≤ at') (h1 : at' ≤ 2305843009213693952) (h2 : ¬ (w.fin ≠ -1 ∧ w.fin < at' + b.length)) (h5 : ¬ highN w at' b ≤ lowN w at') (hl5 : w.got.length ≤ 500) : Made w at' b := by
  obtain ⟨k1, k2, k3, k4⟩ := hm
  have ed := edge_eq k1
  have ⟨a1, a2, a3, a4, a5⟩ := k1
  have ⟨b1, b2, b3⟩ := k2
  have bl := base_le k1 k2
  have lo1 : w.base ≤ lowN w at' := by unfold lowN; omega
  have lo2 : at' ≤ lowN w at' := by unfold lowN; omega
  have hi1 : highN w at' b ≤ edgeN w := by unfold highN; omega
  have hi2 : highN w at' b ≤ at' + b.length := by unfold highN; omega
  have hs : one ⟨lowN w at', highN w at' b⟩ = true := one_iff.2 ⟨by show 0 ≤ lowN w at'; omega, by show lowN w at' < highN w at' b; omega, by show highN w at' b ≤ _; omega⟩
  obtain ⟨ha, m1, n1, k5⟩ := addP_ok a5 hs (by omega)
  have hG : addN w.got ⟨lowN w at', highN w at' b⟩ = newG w at' b := rfl
  rw [hG] at ha m1 n1 k5
  have hU : uptoN (newW w at' b) = max (uptoN w) (highN w at' b) := upto_add (w := w) (w' := newW w at' b) a5 hs hl5 (by show w.base < highN w at' b; omega) rfl
  generalize hUe : max (uptoN w) (highN w at' b) = U at hU
  have U1 : w.base + w.b.length ≤ U := by omega
  have xl : ((extB w U).length : Int) = U - w.base := by simp [extB]; omega
  have sl := seg_length (b := b) (lo := lowN w at' - at') (hi := highN w at' b - at') (by omega) (by omega) (by omega)
  have hF : (first9 w at' b (lowN w at') (highN w at' b) U).length = (extB w U).length := by
    rw [first9, PM.put]; simp [sl]; omega
  have hch := (preB_of k1 k2).2.2.2
  have hall : ∀ x ∈ w.got, w.base ≤ x.f ∧ x.f < x.u ∧ x.u ≤ w.base + w.b.length := fun x hx => chain_mem hch x hx
  obtain ⟨f1, f2⟩ := fold_get (w := w) (l := w.got) (R := first9 w at' b (lowN w at') (highN w at' b) U) hall (by omega)
  have hB : (newW w at' b).b = w.got.foldl (step9 w) (first9 w at' b (lowN w at') (highN w at' b) U) := by rw [newW, putB, hUe]
  rw [← hB] at f1 f2
  have hfirst : ∀ j : Nat, (first9 w at' b (lowN w at') (highN w at' b) U).getD j 0 = if ins ⟨lowN w at', highN w at' b⟩ (w.base + j) = true then b.getD (w.base + j - at').toNat 0 else w.b.getD j 0 := by
    intro j
    rw [first9, getD_put _ _ _ _ (by omega)]
    by_cases h : ins ⟨lowN w at', highN w at' b⟩ (w.base + j) = true
    · have h' := ins_iff.1 h
      simp only at h'
      rw [if_pos h, if_pos (by omega), getD_seg _ (by omega) _ (by omega)]
      congr 1; omega
    · rw [if_neg h, if_neg (fun hx => h (ins_iff.2 (by simp only; omega))), ext_get]
  have hget : ∀ j : Nat, (newW w at' b).b.getD j 0 = if Go.Proofs.We.inn w.got (w.base + j) = true then w.b.getD j 0 else if ins ⟨lowN w at', highN w at' b⟩ (w.base + j) = true then b.getD (w.base + j - at').toNat 0 else w.b.getD j 0 := fun j => by rw [f2, hfirst]
  have hlen : ((newW w at' b).b.length : Int) = U - w.base := by rw [f1, hF, xl]
  have o1 : ok1 (newW w at' b) := ⟨a1, a2, a3, a4, m1⟩
  have o2 : ok2 (newW w at' b) := by
    refine ⟨fun x hx => ?_, by rw [hU]; show U ≤ edgeN w; omega, by rw [hU]; exact hlen⟩
    have hmem : x ∈ newG w at' b := List.mem_of_head? hx
    have hone := one_iff.1 (may'_mem (may_iff.1 m1).1 x hmem).2
    have : inn (newG w at' b) x.f = true := inn_iff.2 ⟨x, hmem, by omega, by omega⟩
    rw [n1, Bool.or_eq_true] at this
    rcases this with h | h
    · exact (inn_chain hch h).1
    · have := ins_iff.1 h
      show w.base ≤ x.f
      simp only at this; omega
  refine ⟨⟨o1, o2, ?_, (blankN_iff o1 o2).2 fun j hj hi => ?_⟩, by rw [hUe]; exact hU, n1, k5, hget, ?_⟩
  · rcases k3 with h | h
    · exact .inl h
    · by_cases hf : w.fin = -1
      · exact .inl hf
      · refine .inr ?_
        rw [hU]
        show U ≤ w.fin
        omega
  · have hi : inn (newG w at' b) (w.base + j) = false := hi
    rw [n1, Bool.or_eq_false_iff] at hi
    rw [hget, hi.1, hi.2]
    simp only [Bool.false_eq_true, if_false]
    by_cases hjl : j < w.b.length
    · exact (blankN_iff k1 k2).1 k4 j hjl hi.1
    · rw [List.getD_eq_getElem?_getD, List.getElem?_eq_none (by omega)]; rfl
  · obtain ⟨both, c1, c2, c3, _⟩ := len_add_cut hs (may_iff.1 a5).1
    rw [size_may m1, size_may a5]
    rw [hG] at c3
    simp only at c2 c3
    omega
end Go.Proofs.We
