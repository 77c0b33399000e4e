/- The plain laws: gaps, and how many. -/
import Derived.Test.YtmmipinjkbkkmaaWsMath
set_option linter.unusedSimpArgs false
set_option linter.unusedVariables false
set_option linter.unusedSectionVars false
set_option linter.unnecessarySimpa false
namespace Go.Proofs.We
open Go

theorem may_iff {l : List S} : may l = true ↔ may' (-1) l = true ∧ l.length ≤ 1000 := by simp [may]
theorem gap'_far : ∀ {l : List S} {last n : Int}, may' last l = true → n ≤ last → gap' n l = n
  | [], _, _, _, _ => rfl
  | x :: r, last, n, h, hn => by
    have h' := may'_cons.1 h
    have hx := one_iff.1 h'.1
    rw [gap', if_neg (by omega)]
    exact gap'_far h'.2.2 (by omega)
theorem gap'_eq : ∀ {l : List S} {last n : Int}, may' last l = true → gap' n l = gapR' n l
  | [], _, _, _ => rfl
  | x :: r, last, n, h => by
    have h' := may'_cons.1 h
    rw [gap', gapR']
    split
    · exact gap'_far h'.2.2 (Int.le_refl _)
    · exact gap'_eq h'.2.2
theorem gap_eq (l : List S) (n : Int) : gap l n = gapR l n := by
  unfold gap gapR
  split
  · rename_i h
    rw [gap'_eq (may_iff.1 h).1]
  · rfl
theorem gapR'_spec : ∀ {l : List S} {last n : Int}, may' last l = true → n ≤ gapR' n l ∧ (∀ m, n ≤ m → m < gapR' n l → inn l m = true) ∧ inn l (gapR' n l) = false ∧ (gapR' n l = n ∨ last < gapR' n l) ∧ (n ≤ 4611686018427387904 → gapR' n l ≤ 4611686018427387904)
  | [], last, n, _ => ⟨Int.le_refl _, fun m h1 h2 => by simp only [gapR'] at h2; omega, rfl, .inl rfl, fun h => h⟩
  | x :: r, last, n, h => by
    have h' := may'_cons.1 h
    have hx := one_iff.1 h'.1
    rw [gapR']
    split
    · rename_i hc
      refine ⟨by omega, fun m h1 h2 => ?_, ?_, .inr (by omega), fun _ => hx.2.2⟩
      · rw [inn_cons, ins_iff.2 (by omega)]; rfl
      · rw [inn_cons]
        have h1 : ins x x.u = false := by simp [ins]
        have h2 : inn r x.u = false := by
          cases hq : inn r x.u with
          | false => rfl
          | true => have := may'_inn h'.2.2 hq; omega
        rw [h1, h2]; rfl
    · rename_i hc
      obtain ⟨i1, i2, i3, i4, i5⟩ := gapR'_spec (n := n) h'.2.2
      refine ⟨i1, fun m h1 h2 => ?_, ?_, ?_, i5⟩
      · rw [inn_cons, i2 m h1 h2]; simp
      · rw [inn_cons, i3, Bool.or_false]
        cases hq : ins x (gapR' n r) with
        | false => rfl
        | true =>
          have hq := ins_iff.1 hq
          rcases i4 with e | e
          · rw [e] at hq; exact absurd hq hc
          · omega
      · rcases i4 with e | e
        · exact .inl e
        · right; omega
theorem gap_spec {l : List S} {n : Int} (h : may l = true) (hn : 0 ≤ n) : n ≤ gap l n ∧ (∀ m, n ≤ m → m < gap l n → inn l m = true) ∧ inn l (gap l n) = false ∧ (n ≤ 4611686018427387904 → gap l n ≤ 4611686018427387904) := by
  have h1 := (may_iff.1 h).1
  have e : gap l n = gapR' n l := by rw [gap_eq, gapR, if_pos h, if_neg (by omega)]
  rw [e]
  obtain ⟨i1, i2, i3, _, i5⟩ := gapR'_spec (n := n) h1
  exact ⟨i1, i2, i3, i5⟩
theorem has_iff {l : List S} {s : S} (h : may l = true) (hs : one s = true) : has l s = true ↔ ∀ m, s.f ≤ m → m < s.u → inn l m = true := by
  have hs' := one_iff.1 hs
  obtain ⟨i1, i2, i3, _⟩ := gap_spec (n := s.f) h hs'.1
  simp only [has, h, hs, Bool.true_and, decide_eq_true_eq]
  constructor
  · intro hg m h1 h2
    exact i2 m h1 (by omega)
  · intro hall
    by_cases hlt : gap l s.f < s.u
    · rw [hall _ i1 hlt] at i3; cases i3
    · omega
theorem has_one {l : List S} {n : Int} (h : may l = true) (h0 : 0 ≤ n) (h1 : n < 4611686018427387904) : has l ⟨n, n + 1⟩ = inn l n := by
  have hs : one ⟨n, n + 1⟩ = true := one_iff.2 (by simp only []; omega)
  rw [Bool.eq_iff_iff, has_iff h hs]
  constructor
  · intro hall; exact hall n (Int.le_refl _) (by simp only []; omega)
  · intro hn m h1 h2
    simp only [] at h1 h2
    have : m = n := by omega
    rw [this]; exact hn
theorem hasR'_eq : ∀ {l : List S} {s : S} {last : Int}, s.f < s.u → may' last l = true → hasR' l s = decide (gapR' s.f l ≥ s.u)
  | [], s, last, hs, _ => by simp [hasR', gapR']; omega
  | x :: r, s, last, hs, h => by
    have h' := may'_cons.1 h
    have hx := one_iff.1 h'.1
    have e : hasR' (x :: r) s = ((decide (x.f ≤ s.f) && decide (s.u ≤ x.u)) || hasR' r s) := rfl
    rw [e, gapR']
    split
    · rename_i hc
      have : hasR' r s = false := by
        cases hq : hasR' r s with
        | false => rfl
        | true =>
          simp only [hasR', List.any_eq_true, Bool.and_eq_true, decide_eq_true_eq] at hq
          obtain ⟨y, hy, h1, h2⟩ := hq
          have := (may'_mem h'.2.2 y hy).1
          omega
      rw [this, Bool.or_false, Bool.eq_iff_iff]
      simp only [Bool.and_eq_true, decide_eq_true_eq]
      omega
    · rename_i hc
      have : (decide (x.f ≤ s.f) && decide (s.u ≤ x.u)) = false := by
        rw [Bool.eq_false_iff]
        simp only [ne_eq, Bool.and_eq_true, decide_eq_true_eq]
        omega
      rw [this, Bool.false_or]
      exact hasR'_eq hs h'.2.2
theorem has_eq (l : List S) (s : S) : has l s = hasR l s := by
  unfold has hasR
  cases h : may l
  · rfl
  · cases hs : one s
    · rfl
    · have hs' := one_iff.1 hs
      rw [hasR'_eq (by omega) (may_iff.1 h).1, gap_eq, gapR, if_pos h, if_neg (by omega)]
      rfl

/-! How many numbers -/
def lenL : List S → Int
  | [] => 0
  | x :: r => (x.u - x.f) + lenL r
theorem w64_id {n : Int} (h0 : -9223372036854775808 ≤ n) (h1 : n ≤ 9223372036854775807) : w64 n = n := by
  unfold w64
  rw [IntKind.wrap_i64]; omega
theorem lenL_le : ∀ {l : List S} {last : Int}, may' last l = true → 0 ≤ lenL l ∧ lenL l + last + 1 ≤ 4611686018427387904 ∨ l = []
  | [], _, _ => .inr rfl
  | x :: r, last, h => by
    have h' := may'_cons.1 h
    have hx := one_iff.1 h'.1
    left
    rcases lenL_le h'.2.2 with ih | ih
    · simp only [lenL]; omega
    · subst ih; simp only [lenL]; omega
theorem lenL_range {l : List S} (h : may' (-1) l = true) : 0 ≤ lenL l ∧ lenL l ≤ 4611686018427387904 := by
  rcases lenL_le h with h | h
  · omega
  · subst h; simp [lenL]
theorem size'_eq : ∀ {l : List S} {last n : Int}, may' last l = true → 0 ≤ n → n + lenL l ≤ 4611686018427387904 → size' n l = n + lenL l
  | [], _, n, _, _, _ => by simp [size', lenL]
  | x :: r, last, n, h, h0, hn => by
    have h' := may'_cons.1 h
    have hx := one_iff.1 h'.1
    have hr : 0 ≤ lenL r := by
      rcases lenL_le h'.2.2 with h | h
      · exact h.1
      · subst h; simp [lenL]
    simp only [lenL] at hn ⊢
    rw [size', w64_id (n := x.u - x.f) (by omega) (by omega), w64_id (n := n + (x.u - x.f)) (by omega) (by omega), size'_eq h'.2.2 (by omega) (by omega)]
    omega
theorem sizeR'_eq : ∀ {l : List S} {last n : Int}, may' last l = true → 0 ≤ n → n + lenL l ≤ 4611686018427387904 → sizeR' n l = n + lenL l
  | [], _, n, _, _, _ => by simp [sizeR', lenL]
  | x :: r, last, n, h, h0, hn => by
    have h' := may'_cons.1 h
    have hx := one_iff.1 h'.1
    have hr : 0 ≤ lenL r := by
      rcases lenL_le h'.2.2 with h | h
      · exact h.1
      · subst h; simp [lenL]
    simp only [lenL] at hn ⊢
    rw [sizeR', w64_id (n := n + x.u) (by omega) (by omega), w64_id (n := n + x.u - x.f) (by omega) (by omega), sizeR'_eq h'.2.2 (by omega) (by omega)]
    omega
theorem size_may {l : List S} (h : may l = true) : size l = lenL l := by
  have h' := (may_iff.1 h).1
  have := lenL_range h'
  rw [size, if_pos h, size'_eq h' (Int.le_refl _) (by omega)]
  omega
theorem size_eq (l : List S) : size l = sizeR l := by
  cases h : may l with
  | false => simp [size, sizeR, h]
  | true =>
    have h' := (may_iff.1 h).1
    have := lenL_range h'
    rw [size_may h, sizeR, if_pos h, sizeR'_eq h' (Int.le_refl _) (by omega)]
    omega
def cnt (f : Int → Bool) : Nat → Int
  | 0 => 0
  | k + 1 => cnt f k + (if f k = true then 1 else 0)
theorem cnt_congr {f g : Int → Bool} (h : ∀ n, f n = g n) : ∀ k, cnt f k = cnt g k
  | 0 => rfl
  | k + 1 => by rw [cnt, cnt, cnt_congr h k, h]
theorem cnt_or (f g : Int → Bool) : ∀ k, cnt (fun n => f n || g n) k + cnt (fun n => f n && g n) k = cnt f k + cnt g k
  | 0 => rfl
  | k + 1 => by
    have ih := cnt_or f g k
    simp only [cnt]
    by_cases hf : f k = true <;> by_cases hg : g k = true <;> simp [hf, hg] <;> omega
theorem cnt_diff (f g : Int → Bool) : ∀ k, cnt (fun n => f n && !g n) k + cnt (fun n => f n && g n) k = cnt f k
  | 0 => rfl
  | k + 1 => by
    have ih := cnt_diff f g k
    simp only [cnt]
    by_cases hf : f k = true <;> by_cases hg : g k = true <;> simp [hf, hg] <;> omega
theorem cnt_and (f g : Int → Bool) : ∀ k, 0 ≤ cnt (fun n => f n && g n) k ∧ cnt (fun n => f n && g n) k ≤ cnt g k
  | 0 => by simp [cnt]
  | k + 1 => by
    have ih := cnt_and f g k
    simp only [cnt]
    by_cases hf : f k = true <;> by_cases hg : g k = true <;> simp [hf, hg] <;> omega
theorem cnt_none {f : Int → Bool} (h : ∀ n, f n = false) : ∀ k, cnt f k = 0
  | 0 => rfl
  | k + 1 => by rw [cnt, cnt_none h k, h]; rfl
theorem cnt_ins {s : S} (h0 : 0 ≤ s.f) (h1 : s.f ≤ s.u) : ∀ k : Nat, cnt (ins s) k = min (k : Int) s.u - min (k : Int) s.f
  | 0 => by simp only [cnt]; omega
  | k + 1 => by
    rw [cnt, cnt_ins h0 h1 k]
    have : (ins s k = true) ↔ (s.f ≤ k ∧ (k : Int) < s.u) := ins_iff
    by_cases h : s.f ≤ k ∧ (k : Int) < s.u
    · rw [if_pos (this.2 h)]; omega
    · rw [if_neg (fun e => h (this.1 e))]; omega
theorem cnt_inn {k : Nat} (hk : (4611686018427387904 : Int) ≤ k) : ∀ {l : List S} {last : Int}, may' last l = true → cnt (inn l) k = lenL l
  | [], _, _ => cnt_none (fun n => rfl) k
  | x :: r, last, h => by
    have h' := may'_cons.1 h
    have hx := one_iff.1 h'.1
    have e := cnt_or (ins x) (inn r) k
    have e0 : cnt (fun n => ins x n && inn r n) k = 0 := cnt_none (fun n => by
      rw [Bool.eq_false_iff]
      intro hq
      simp only [Bool.and_eq_true] at hq
      have h1 := ins_iff.1 hq.1
      have h2 := may'_inn h'.2.2 hq.2
      omega) k
    have e1 := cnt_ins (s := x) (by omega) (by omega) k
    have e2 := cnt_inn hk h'.2.2
    have e3 : cnt (inn (x :: r)) k = cnt (fun n => ins x n || inn r n) k := cnt_congr (fun n => inn_cons x r n) k
    simp only [lenL]
    omega
/-- What a span that is put, or taken out, changes. -/
theorem len_add_cut {l : List S} {s : S} (hs : one s = true) (h : may' (-1) l = true) : ∃ both : Int, 0 ≤ both ∧ both ≤ s.u - s.f ∧ lenL (addN l s) = lenL l + (s.u - s.f) - both ∧ lenL (cutN l s) = lenL l - both := by
  have hs' := one_iff.1 hs
  obtain ⟨k, hk⟩ : ∃ k : Nat, (4611686018427387904 : Int) ≤ k := ⟨4611686018427387904, Int.le_refl _⟩
  obtain ⟨a1, a2, _⟩ := addM_spec hs h (by omega)
  obtain ⟨b1, b2⟩ := cutN_spec hs h
  rw [← addN_eq hs h] at a1 a2
  refine ⟨cnt (fun n => inn l n && ins s n) k, (cnt_and _ _ k).1, ?_, ?_, ?_⟩
  · have := (cnt_and (inn l) (ins s) k).2
    rw [cnt_ins (by omega) (by omega)] at this
    omega
  · rw [← cnt_inn hk a1, ← cnt_inn hk h, cnt_congr a2 k]
    have := cnt_or (inn l) (ins s) k
    rw [cnt_ins (s := s) (by omega) (by omega)] at this
    omega
  · rw [← cnt_inn hk b1, ← cnt_inn hk h, cnt_congr b2 k]
    have := cnt_diff (inn l) (ins s) k
    omega

/-! What is told -/
theorem outN_good {l : List S} {s : S} {o : List S} (h : may l = true) (hs : one s = true) (ho : o.length ≤ 1000) : outN l s o = (o, 0) := by
  rw [outN, if_pos (by simp [h, hs]), if_neg (by omega)]
theorem outN_bad {l : List S} {s : S} {o : List S} (h : ¬ (may l = true ∧ one s = true)) : outN l s o = ([], 1) := by
  rw [outN, if_neg (by simpa using h)]
theorem addP_eq (l : List S) (s : S) : addP l s = addR l s := by
  unfold addP addR
  by_cases h : may l = true ∧ one s = true
  · rw [madeN_add h.2 (may_iff.1 h.1).1]
  · rw [outN_bad h, outN_bad h]
theorem cutP_eq (l : List S) (s : S) : cutP l s = cutR l s := by
  unfold cutP cutR
  by_cases h : may l = true ∧ one s = true
  · rw [madeN_cut h.2 (may_iff.1 h.1).1]
  · rw [outN_bad h, outN_bad h]
/-- A list of some spans, with one put, or taken out. -/
theorem addP_ok {l : List S} {s : S} (h : may l = true) (hs : one s = true) (hl : l.length < 1000) : addP l s = (addN l s, 0) ∧ may (addN l s) = true ∧ (∀ n, inn (addN l s) n = (inn l n || ins s n)) ∧ (addN l s).length ≤ l.length + 1 := by
  have h' := may_iff.1 h
  have hs' := one_iff.1 hs
  obtain ⟨a1, a2, a3⟩ := addM_spec hs h'.1 (by omega)
  rw [← addN_eq hs h'.1] at a1 a2 a3
  exact ⟨outN_good h hs (by omega), may_iff.2 ⟨a1, by omega⟩, a2, a3⟩
theorem cutP_ok {l : List S} {s : S} (h : may l = true) (hs : one s = true) (hl : l.length < 1000) : cutP l s = (cutN l s, 0) ∧ may (cutN l s) = true ∧ (∀ n, inn (cutN l s) n = (inn l n && !ins s n)) ∧ (cutN l s).length ≤ l.length + 1 := by
  have h' := may_iff.1 h
  obtain ⟨a1, a2⟩ := cutN_spec hs h'.1
  have a3 := cutN_length hs h'.1
  exact ⟨outN_good h hs (by omega), may_iff.2 ⟨a1, by omega⟩, a2, a3⟩
theorem may_ext {l m : List S} (hl : may l = true) (hm : may m = true) (h : ∀ n, inn l n = inn m n) : l = m := may_unique (may_iff.1 hl).1 (may_iff.1 hm).1 h
end Go.Proofs.We
