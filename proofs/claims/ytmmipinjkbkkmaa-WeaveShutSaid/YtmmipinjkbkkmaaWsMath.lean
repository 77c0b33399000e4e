/- The plain laws of lists of spans. -/
import Derived.Test.YtmmipinjkbkkmaaWsCut2
set_option linter.unusedSimpArgs false
set_option linter.unusedVariables false
set_option linter.unusedSectionVars false
set_option linter.unnecessarySimpa false
namespace Go.Proofs.We

def ins (s : S) (n : Int) : Bool := decide (s.f ≤ n) && decide (n < s.u)
theorem ins_iff {s : S} {n : Int} : ins s n = true ↔ s.f ≤ n ∧ n < s.u := by simp [ins]
theorem inn_cons (x : S) (l : List S) (n : Int) : inn (x :: l) n = (ins x n || inn l n) := by simp [inn, ins]
theorem inn_nil (n : Int) : inn [] n = false := rfl
theorem inn_append (a b : List S) (n : Int) : inn (a ++ b) n = (inn a n || inn b n) := by simp [inn]
theorem inn_iff {l : List S} {n : Int} : inn l n = true ↔ ∃ x ∈ l, x.f ≤ n ∧ n < x.u := by simp [inn]
theorem one_iff {s : S} : one s = true ↔ 0 ≤ s.f ∧ s.f < s.u ∧ s.u ≤ 4611686018427387904 := by simp [one]
theorem may'_cons {last : Int} {x : S} {r : List S} : may' last (x :: r) = true ↔ one x = true ∧ last < x.f ∧ may' x.u r = true := by
  simp [may']
theorem may'_weak {a b : Int} (h : b ≤ a) : ∀ {l : List S}, may' a l = true → may' b l = true
  | [], _ => rfl
  | x :: r, hm => by
    rw [may'_cons] at hm ⊢
    exact ⟨hm.1, by omega, hm.2.2⟩
theorem may'_mem : ∀ {l : List S} {last : Int}, may' last l = true → ∀ x ∈ l, last < x.f ∧ one x = true
  | [], _, _, x, hx => by cases hx
  | y :: r, last, hm, x, hx => by
    rw [may'_cons] at hm
    have h1 := one_iff.1 hm.1
    rcases List.mem_cons.1 hx with rfl | hx
    · exact ⟨hm.2.1, hm.1⟩
    · have := may'_mem hm.2.2 x hx
      exact ⟨by omega, this.2⟩
theorem may'_inn {l : List S} {last n : Int} (h : may' last l = true) (hn : inn l n = true) : last < n := by
  obtain ⟨x, hx, h1, h2⟩ := inn_iff.1 hn
  have := (may'_mem h x hx).1
  omega
theorem may'_range {l : List S} {last n : Int} (h : may' last l = true) (hn : inn l n = true) : 0 ≤ n ∧ n < 4611686018427387904 := by
  obtain ⟨x, hx, h1, h2⟩ := inn_iff.1 hn
  have := one_iff.1 (may'_mem h x hx).2
  omega
/-- A list of spans that may be is known by its numbers. -/
theorem may_unique : ∀ {l m : List S} {a b : Int}, may' a l = true → may' b m = true → (∀ n, inn l n = inn m n) → l = m
  | [], [], _, _, _, _, _ => rfl
  | [], y :: q, a, b, _, hm, h => by
    have hy := one_iff.1 (may'_cons.1 hm).1
    have := h y.f
    rw [inn_cons, ins_iff.2 (by omega)] at this
    simp [inn_nil] at this
  | x :: r, [], a, b, hl, _, h => by
    have hx := one_iff.1 (may'_cons.1 hl).1
    have := h x.f
    rw [inn_cons, ins_iff.2 (by omega)] at this
    simp [inn_nil] at this
  | x :: r, y :: q, a, b, hl, hm, h => by
    have hl' := may'_cons.1 hl
    have hm' := may'_cons.1 hm
    have hx := one_iff.1 hl'.1
    have hy := one_iff.1 hm'.1
    have low : ∀ (z : S) (l : List S) (n : Int), one z = true → may' z.u l = true → inn (z :: l) n = true → z.f ≤ n := by
      intro z l n hz hzl hn
      rw [inn_cons, Bool.or_eq_true] at hn
      rcases hn with hn | hn
      · exact (ins_iff.1 hn).1
      · have := may'_inn hzl hn
        have := one_iff.1 hz
        omega
    have hf : x.f = y.f := by
      have h1 := low y q x.f hm'.1 hm'.2.2 (by rw [← h, inn_cons, ins_iff.2 (by omega)]; rfl)
      have h2 := low x r y.f hl'.1 hl'.2.2 (by rw [h, inn_cons, ins_iff.2 (by omega)]; rfl)
      omega
    have out : ∀ (z : S) (l : List S), may' z.u l = true → inn (z :: l) z.u = false := by
      intro z l hzl
      rw [inn_cons]
      have h1 : ins z z.u = false := by simp [ins]
      have h2 : inn l z.u = false := by
        cases hq : inn l z.u with
        | false => rfl
        | true => have := may'_inn hzl hq; omega
      rw [h1, h2]; rfl
    have hu : x.u = y.u := by
      rcases Int.lt_trichotomy x.u y.u with hlt | heq | hgt
      · have := out x r hl'.2.2
        rw [h, inn_cons, ins_iff.2 (by omega)] at this
        cases this
      · exact heq
      · have := out y q hm'.2.2
        rw [← h, inn_cons, ins_iff.2 (by omega)] at this
        cases this
    have hxy : x = y := S.ext' hf hu
    subst hxy
    have hrq : r = q := may_unique hl'.2.2 hm'.2.2 fun n => by
      have hn := h n
      rw [inn_cons, inn_cons] at hn
      cases hi : ins x n with
      | false => rw [hi] at hn; simpa using hn
      | true =>
        have hlt := (ins_iff.1 hi).2
        have h1 : inn r n = false := by
          cases hq : inn r n with
          | false => rfl
          | true => have := may'_inn hl'.2.2 hq; omega
        have h2 : inn q n = false := by
          cases hq : inn q n with
          | false => rfl
          | true => have := may'_inn hm'.2.2 hq; omega
        rw [h1, h2]
    rw [hrq]

/-! Add -/
def addM : List S → S → List S
  | [], s => [s]
  | x :: r, s => if x.u < s.f then x :: addM r s else if s.u < x.f then s :: x :: r else addM r ⟨mn s.f x.f, mx s.u x.u⟩
theorem mn_le (a b : Int) : mn a b = min a b := by unfold mn; split <;> omega
theorem mx_le (a b : Int) : mx a b = max a b := by unfold mx; split <;> omega
theorem addL_far : ∀ {l : List S} {s : S} {a b : List S}, s.f < s.u → may' s.u l = true → addL l s a b = (a, s, b ++ l)
  | [], s, a, b, _, _ => by simp [addL]
  | x :: r, s, a, b, hs, hm => by
    have hm' := may'_cons.1 hm
    have hx := one_iff.1 hm'.1
    rw [addL, if_neg (by omega), if_pos (by omega), addL_far hs (may'_weak (by omega) hm'.2.2)]
    simp
theorem addL_addM : ∀ {l : List S} {s : S} {a : List S} {last : Int}, s.f < s.u → may' last l = true → (addL l s a []).1 ++ ((addL l s a []).2.1 :: (addL l s a []).2.2) = a ++ addM l s
  | [], s, a, last, _, _ => by simp [addL, addM]
  | x :: r, s, a, last, hs, hm => by
    have hm' := may'_cons.1 hm
    have hx := one_iff.1 hm'.1
    rw [addL, addM]
    split
    · rw [addL_addM hs hm'.2.2]; simp
    · split
      · rw [addL_far hs (may'_weak (by omega) hm'.2.2)]; simp
      · exact addL_addM (by simp only [mn_le, mx_le]; omega) hm'.2.2
theorem addM_spec : ∀ {l : List S} {s : S} {last : Int}, one s = true → may' last l = true → last < s.f → may' last (addM l s) = true ∧ (∀ n, inn (addM l s) n = (inn l n || ins s n)) ∧ (addM l s).length ≤ l.length + 1
  | [], s, last, hs, _, hl => by
    refine ⟨may'_cons.2 ⟨hs, hl, rfl⟩, fun n => ?_, Nat.le_refl _⟩
    rw [addM, inn_cons, inn_nil]; simp
  | x :: r, s, last, hs, hm, hl => by
    have hm' := may'_cons.1 hm
    have hx := one_iff.1 hm'.1
    have hs' := one_iff.1 hs
    rw [addM]
    split
    · rename_i h1
      obtain ⟨i1, i2, i3⟩ := addM_spec hs hm'.2.2 h1
      refine ⟨may'_cons.2 ⟨hm'.1, hm'.2.1, i1⟩, fun n => ?_, by simp; omega⟩
      rw [inn_cons, i2, inn_cons, Bool.or_assoc]
    · split
      · rename_i h1 h2
        refine ⟨may'_cons.2 ⟨hs, hl, may'_cons.2 ⟨hm'.1, by omega, hm'.2.2⟩⟩, fun n => ?_, by simp⟩
        rw [inn_cons, Bool.or_comm]
      · rename_i h1 h2
        have hs1 : one ⟨mn s.f x.f, mx s.u x.u⟩ = true := one_iff.2 (by simp only [mn_le, mx_le]; omega)
        obtain ⟨i1, i2, i3⟩ := addM_spec (l := r) (last := last) hs1 (may'_weak (by omega) hm'.2.2) (by simp only [mn_le]; omega)
        refine ⟨i1, fun n => ?_, by simp; omega⟩
        rw [i2, inn_cons]
        have : ins ⟨mn s.f x.f, mx s.u x.u⟩ n = (ins x n || ins s n) := by
          rw [Bool.eq_iff_iff, Bool.or_eq_true, ins_iff, ins_iff, ins_iff]
          simp only [mn_le, mx_le]
          omega
        rw [this]
        cases ins x n <;> cases inn r n <;> rfl
theorem addN_eq {l : List S} {s : S} {last : Int} (hs : one s = true) (h : may' last l = true) : addN l s = addM l s := by
  have hs' := one_iff.1 hs
  exact addL_addM (a := []) (by omega) h

/-! Cut -/
theorem cutN_cons (x : S) (r : List S) (s : S) : cutN (x :: r) s = (lefts s x).map (·.1) ++ ((rights s x).map (·.1) ++ cutN r s) := by simp [cutN, partsN]
theorem cutN_spec : ∀ {l : List S} {s : S} {last : Int}, one s = true → may' last l = true → may' last (cutN l s) = true ∧ ∀ n, inn (cutN l s) n = (inn l n && !ins s n)
  | [], s, last, hs, _ => ⟨rfl, fun n => rfl⟩
  | x :: r, s, last, hs, hm => by
    have hm' := may'_cons.1 hm
    have hx := one_iff.1 hm'.1
    have hs' := one_iff.1 hs
    obtain ⟨i1, i2⟩ := cutN_spec hs hm'.2.2
    have key : ∀ n, ((decide (x.f < mn x.u s.f) && ins ⟨x.f, mn x.u s.f⟩ n) || (decide (mx x.f s.u < x.u) && ins ⟨mx x.f s.u, x.u⟩ n)) = (ins x n && !ins s n) := by
      intro n
      rw [Bool.eq_iff_iff]
      simp only [Bool.or_eq_true, Bool.and_eq_true, decide_eq_true_eq, ins_iff, Bool.not_eq_true', Bool.eq_false_iff, ne_eq, mn_le, mx_le]
      omega
    have memkey : ∀ n, inn (cutN (x :: r) s) n = (inn (x :: r) n && !ins s n) := by
      intro n
      rw [cutN_cons, inn_append, inn_append, i2, inn_cons, Bool.and_or_distrib_right, ← key n]
      have e1 : inn ((lefts s x).map (·.1)) n = (decide (x.f < mn x.u s.f) && ins ⟨x.f, mn x.u s.f⟩ n) := by
        by_cases hc : x.f < mn x.u s.f
        · rw [lefts, if_pos hc]; simp [inn_cons, inn_nil, hc]
        · rw [lefts, if_neg hc]; simp only [List.map_nil, inn_nil, hc, decide_false, Bool.false_and]
      have e2 : inn ((rights s x).map (·.1)) n = (decide (mx x.f s.u < x.u) && ins ⟨mx x.f s.u, x.u⟩ n) := by
        by_cases hc : mx x.f s.u < x.u
        · rw [rights, if_pos hc]; simp [inn_cons, inn_nil, hc]
        · rw [rights, if_neg hc]; simp only [List.map_nil, inn_nil, hc, decide_false, Bool.false_and]
      rw [e1, e2, Bool.or_assoc]
    refine ⟨?_, memkey⟩
    rw [cutN_cons]
    unfold lefts rights
    simp only [mn_le, mx_le]
    split <;> split <;> simp only [List.map_cons, List.map_nil, List.cons_append, List.nil_append, may'_cons, one_iff]
    · refine ⟨by omega, by omega, by omega, by omega, i1⟩
    · exact ⟨by omega, by omega, may'_weak (by omega) i1⟩
    · exact ⟨by omega, by omega, i1⟩
    · exact may'_weak (by omega) i1
theorem cutN_length_far {s : S} : ∀ {l : List S}, (∀ x ∈ l, s.f ≤ x.f) → (cutN l s).length ≤ l.length
  | [], _ => Nat.le_refl _
  | x :: r, h => by
    have ih := cutN_length_far (s := s) fun y hy => h y (List.mem_cons_of_mem _ hy)
    have h1 : lefts s x = [] := if_neg (by have := h x (by simp); simp only [mn_le]; omega)
    have h2 := rights_length s x
    rw [cutN_cons, h1]
    simp
    omega
theorem cutN_length {s : S} (hs : one s = true) : ∀ {l : List S} {last : Int}, may' last l = true → (cutN l s).length ≤ l.length + 1
  | [], _, _ => by simp [cutN, partsN]
  | x :: r, last, hm => by
    have hm' := may'_cons.1 hm
    have hs' := one_iff.1 hs
    rw [cutN_cons]
    have h1 := lefts_length s x
    have h2 := rights_length s x
    by_cases hb : (lefts s x).length = 1 ∧ (rights s x).length = 1
    · have hr : mx x.f s.u < x.u := by
        by_cases hq : mx x.f s.u < x.u
        · exact hq
        · have := hb.2; rw [rights, if_neg hq] at this; simp at this
      have := cutN_length_far (s := s) (l := r) fun y hy => by
        have := (may'_mem hm'.2.2 y hy).1
        simp only [mx_le] at hr
        omega
      simp
      omega
    · have ih := cutN_length hs hm'.2.2
      simp
      omega

/-! The reference: ends, rising, each once -/
theorem atOf_cons (x : Int) (r : List Int) (n : Int) : ∀ k, k ≤ r.length → atOf (x :: r) n (k + 1) = if 0 < atOf r n k then atOf r n k + 1 else (if x > n then 0 else 1)
  | 0, _ => by simp [atOf]
  | k + 1, h => by
    have ih := atOf_cons x r n k (by omega)
    rw [atOf, show (x :: r).getD (k + 1) 0 = r.getD k 0 by simp]
    rw [show atOf r n (k + 1) = if r.getD k 0 > n then atOf r n k else k + 1 from rfl]
    split
    · rw [ih]
    · simp
theorem atOf_pos {l : List Int} {n : Int} : ∀ {k : Nat}, 0 < atOf l n k → l.getD (atOf l n k - 1) 0 ≤ n
  | 0, h => by simp [atOf] at h
  | k + 1, h => by
    rw [atOf] at h ⊢
    split
    · rename_i hc; rw [if_pos hc] at h; exact atOf_pos h
    · rename_i hc; simp only [Nat.add_sub_cancel]; omega
def Rise (l : List Int) : Prop := l.Pairwise (· < ·)
theorem putN_cons {x : Int} {r : List Int} {n : Int} (h : Rise (x :: r)) : putN (x :: r) n = if n < x then n :: x :: r else if n = x then x :: r else x :: putN r n := by
  have hc := atOf_cons x r n r.length (Nat.le_refl _)
  have hle := atOf_le r n r.length
  unfold putN
  simp only [List.length_cons, hc]
  by_cases hp : 0 < atOf r n r.length
  · have hk : r.getD (atOf r n r.length - 1) 0 ≤ n := atOf_pos hp
    have hx : x < r.getD (atOf r n r.length - 1) 0 := by
      have hlt : atOf r n r.length - 1 < r.length := by omega
      have : r.getD (atOf r n r.length - 1) 0 = r[atOf r n r.length - 1] := by simp [hlt]
      rw [this]
      exact (List.pairwise_cons.1 h).1 _ (List.getElem_mem hlt)
    rw [if_pos hp, if_neg (show ¬ n < x by omega), if_neg (show ¬ n = x by omega)]
    generalize atOf r n r.length = k at *
    obtain ⟨j, rfl⟩ : ∃ j, k = j + 1 := ⟨k - 1, by omega⟩
    simp only [Nat.add_sub_cancel, List.getD_cons_succ, List.take_succ_cons, List.drop_succ_cons, List.cons_append] at *
    by_cases he : r.getD j 0 = n
    · rw [if_pos ⟨by omega, he⟩, if_pos ⟨by omega, he⟩]
    · rw [if_neg (fun h => he h.2), if_neg (fun h => he h.2)]
  · have h0 : atOf r n r.length = 0 := by omega
    rw [if_neg hp, h0]
    by_cases hx : x > n
    · rw [if_pos hx, if_pos (show n < x by omega)]
      simp
    · rw [if_neg hx, if_neg (show ¬ n < x by omega)]
      by_cases he : n = x
      · subst he; simp
      · rw [if_neg he, if_neg (by simp; omega)]
        simp
theorem putN_nil (n : Int) : putN [] n = [n] := rfl
theorem putN_mem {n m : Int} : ∀ {l : List Int}, Rise l → (m ∈ putN l n ↔ m = n ∨ m ∈ l)
  | [], _ => by simp [putN_nil]
  | x :: r, h => by
    rw [putN_cons h]
    split
    · simp
    · split
      · rename_i e; subst e; simp
      · rw [List.mem_cons, putN_mem (List.pairwise_cons.1 h).2, List.mem_cons]
        constructor <;> (rintro (h | h | h) <;> simp [h])
theorem putN_rise {n : Int} : ∀ {l : List Int}, Rise l → Rise (putN l n)
  | [], _ => List.pairwise_singleton _ _
  | x :: r, h => by
    rw [putN_cons h]
    have h' := List.pairwise_cons.1 h
    split
    · rename_i hlt
      refine List.pairwise_cons.2 ⟨fun y hy => ?_, h⟩
      rcases List.mem_cons.1 hy with rfl | hy
      · exact hlt
      · have := h'.1 y hy; omega
    · split
      · exact h
      · rename_i h1 h2
        refine List.pairwise_cons.2 ⟨fun y hy => ?_, putN_rise h'.2⟩
        rcases (putN_mem h'.2).1 hy with rfl | hy
        · omega
        · exact h'.1 y hy
theorem ends'_spec : ∀ (l : List S) (o : List Int), Rise o → Rise (ends' o l) ∧ ∀ m, m ∈ ends' o l ↔ m ∈ o ∨ ∃ x ∈ l, m = x.f ∨ m = x.u
  | [], o, h => ⟨h, fun m => by simp [ends']⟩
  | x :: r, o, h => by
    have h1 := putN_rise (n := x.f) h
    obtain ⟨i1, i2⟩ := ends'_spec r (putN (putN o x.f) x.u) (putN_rise h1)
    refine ⟨i1, fun m => ?_⟩
    rw [ends', i2, putN_mem h1, putN_mem h]
    constructor
    · rintro ((h | h | h) | ⟨y, hy, h⟩)
      · exact .inr ⟨x, by simp, .inr h⟩
      · exact .inr ⟨x, by simp, .inl h⟩
      · exact .inl h
      · exact .inr ⟨y, by simp [hy], h⟩
    · rintro (h | ⟨y, hy, h⟩)
      · exact .inl (.inr (.inr h))
      · rcases List.mem_cons.1 hy with rfl | hy
        · rcases h with h | h
          · exact .inl (.inr (.inl h))
          · exact .inl (.inl h)
        · exact .inr ⟨y, hy, h⟩
theorem endsN_spec (l : List S) : Rise (endsN l) ∧ ∀ m, m ∈ endsN l ↔ ∃ x ∈ l, m = x.f ∨ m = x.u := by
  obtain ⟨h1, h2⟩ := ends'_spec l [] List.Pairwise.nil
  exact ⟨h1, fun m => by rw [endsN, h2]; simp⟩

/-! The reference: the spans between two ends -/
/-- Spans, from the last one on: that may be, and end at a number at most. -/
def RC : List S → Int → Prop
  | [], _ => True
  | x :: r, a => one x = true ∧ x.u ≤ a ∧ RC r (x.f - 1)
theorem RC.mono : ∀ {o : List S} {a b : Int}, RC o a → a ≤ b → RC o b
  | [], _, _, _, _ => trivial
  | x :: r, a, b, h, hab => ⟨h.1, by have := h.2.1; omega, h.2.2⟩
theorem RC.step {o : List S} {a b : Int} (h : RC o a) (ha : 0 ≤ a) (hab : a < b) (hb : b ≤ 4611686018427387904) : RC (stepR a b o) b ∧ ∀ n, inn (stepR a b o) n = (inn o n || (decide (a ≤ n) && decide (n < b))) := by
  cases o with
  | nil => exact ⟨⟨one_iff.2 ⟨ha, hab, hb⟩, Int.le_refl _, trivial⟩, fun n => by simp [stepR, inn]⟩
  | cons x r =>
    obtain ⟨h1, h2, h3⟩ := h
    have hx := one_iff.1 h1
    rw [show stepR a b (x :: r) = if x.u = a then ⟨x.f, b⟩ :: r else ⟨a, b⟩ :: x :: r from rfl]
    split
    · rename_i e
      refine ⟨⟨one_iff.2 ⟨hx.1, by show x.f < b; omega, hb⟩, Int.le_refl _, h3⟩, fun n => ?_⟩
      rw [inn_cons, inn_cons]
      have : ins ⟨x.f, b⟩ n = (ins x n || (decide (a ≤ n) && decide (n < b))) := by
        rw [Bool.eq_iff_iff]
        simp only [Bool.or_eq_true, Bool.and_eq_true, decide_eq_true_eq, ins_iff]
        omega
      rw [this]
      cases ins x n <;> cases inn r n <;> cases (decide (a ≤ n) && decide (n < b)) <;> rfl
    · rename_i e
      refine ⟨⟨one_iff.2 ⟨ha, hab, hb⟩, Int.le_refl _, h1, by show x.u ≤ a - 1; omega, h3⟩, fun n => ?_⟩
      rw [inn_cons, Bool.or_comm]
      rfl
theorem madeR_spec (l : List S) (s : S) (w : Bool) : ∀ (e : List Int) (o : List S) (a : Int) (r : List Int), e = a :: r → Rise e → 0 ≤ a → (∀ x ∈ e, x ≤ 4611686018427387904) → RC o a →
    (∀ (b c : Int) (p q : List Int), e = p ++ b :: c :: q → ∀ n, b ≤ n → n < c → keepB w (inn l n) (inn [s] n) = keepB w (inn l b) (inn [s] b)) →
    ∃ z, RC (madeR l s w e o) z ∧ ∀ n, inn (madeR l s w e o) n = (inn o n || ((decide (a ≤ n) && decide (n < (a :: r).getLast (by simp))) && keepB w (inn l n) (inn [s] n))) := by
  intro e
  induction e with
  | nil => intro o a r h; cases h
  | cons a e ih =>
    intro o a' r he hrise ha hmax hrc hcond
    simp only [List.cons.injEq] at he
    obtain ⟨rfl, rfl⟩ := he
    cases e with
    | nil =>
      refine ⟨a, hrc, fun n => ?_⟩
      have : (decide (a ≤ n) && decide (n < a)) = false := by
        rw [Bool.eq_false_iff]; simp
      show inn o n = (inn o n || ((decide (a ≤ n) && decide (n < a)) && _))
      rw [this, Bool.false_and, Bool.or_false]
    | cons b q =>
      have hr := List.pairwise_cons.1 hrise
      have hab : a < b := hr.1 b (by simp)
      have hlast : b ≤ (b :: q).getLast (by simp) := by
        cases q with
        | nil => simp
        | cons c q =>
          have := (List.pairwise_cons.1 hr.2).1 ((b :: c :: q).getLast (by simp)) (by rw [List.getLast_cons (by simp)]; exact List.getLast_mem _)
          omega
      have hst := hrc.step ha hab (hmax b (by simp))
      rw [madeR]
      have hrc' : RC (if keepB w (inn l a) (inn [s] a) = true then stepR a b o else o) b := by
        split
        · exact hst.1
        · exact hrc.mono (by omega)
      obtain ⟨z, h1, h2⟩ := ih (if keepB w (inn l a) (inn [s] a) = true then stepR a b o else o) b q rfl hr.2 (by omega) (fun x hx => hmax x (List.mem_cons_of_mem _ hx)) hrc' fun b' c p q' e' => hcond b' c (a :: p) q' (by rw [e']; rfl)
      refine ⟨z, h1, fun n => ?_⟩
      have hc := hcond a b [] q rfl n
      rw [h2, List.getLast_cons (show b :: q ≠ [] by simp)]
      have hin : inn (if keepB w (inn l a) (inn [s] a) = true then stepR a b o else o) n = (inn o n || ((decide (a ≤ n) && decide (n < b)) && keepB w (inn l n) (inn [s] n))) := by
        have hkd : (decide (a ≤ n) && decide (n < b)) = true → keepB w (inn l n) (inn [s] n) = keepB w (inn l a) (inn [s] a) := fun hd => by
          simp only [Bool.and_eq_true, decide_eq_true_eq] at hd
          exact hc hd.1 hd.2
        generalize hD : (decide (a ≤ n) && decide (n < b)) = D at hkd
        cases hk : keepB w (inn l a) (inn [s] a) with
        | true =>
          rw [if_pos rfl, hst.2, hD]
          cases D with
          | true => rw [hkd rfl, hk]; rfl
          | false => rw [Bool.false_and]
        | false =>
          rw [if_neg (by simp)]
          cases D with
          | true => rw [hkd rfl, hk]; simp
          | false => simp
      rw [hin]
      generalize hG : (b :: q).getLast (by simp) = G at hlast ⊢
      have hsplit : (decide (a ≤ n) && decide (n < G)) = ((decide (a ≤ n) && decide (n < b)) || (decide (b ≤ n) && decide (n < G))) := by
        rw [Bool.eq_iff_iff]
        simp only [Bool.or_eq_true, Bool.and_eq_true, decide_eq_true_eq]
        omega
      rw [hsplit]
      cases inn o n <;> cases (decide (a ≤ n) && decide (n < b)) <;> cases (decide (b ≤ n) && decide (n < G)) <;> cases keepB w (inn l n) (inn [s] n) <;> rfl
theorem may'_snoc : ∀ {m : List S} {x : S} {last : Int}, may' last m = true → one x = true → last < x.f → (∀ y ∈ m, y.u < x.f) → may' last (m ++ [x]) = true
  | [], x, last, _, hx, hl, _ => may'_cons.2 ⟨hx, hl, rfl⟩
  | y :: r, x, last, hm, hx, hl, h => by
    have hm' := may'_cons.1 hm
    exact may'_cons.2 ⟨hm'.1, hm'.2.1, may'_snoc hm'.2.2 hx (h y (by simp)) fun z hz => h z (List.mem_cons_of_mem _ hz)⟩
theorem RC.mem : ∀ {o : List S} {a : Int}, RC o a → ∀ x ∈ o, x.u ≤ a ∧ 0 ≤ x.f
  | [], _, _, x, hx => by cases hx
  | y :: r, a, h, x, hx => by
    have hy := one_iff.1 h.1
    have := h.2.1
    rcases List.mem_cons.1 hx with rfl | hx
    · exact ⟨h.2.1, hy.1⟩
    · have := h.2.2.mem x hx
      omega
theorem RC.may : ∀ {o : List S} {a : Int}, RC o a → may' (-1) o.reverse = true
  | [], _, _ => rfl
  | x :: r, a, h => by
    have hx := one_iff.1 h.1
    rw [List.reverse_cons]
    refine may'_snoc h.2.2.may h.1 (by omega) fun y hy => ?_
    have := h.2.2.mem y (by simpa using hy)
    omega
theorem inn_reverse (l : List S) (n : Int) : inn l.reverse n = inn l n := by simp [inn]
theorem inn_single (s : S) (n : Int) : inn [s] n = ins s n := by simp [inn, ins]
theorem rise_between {e p q : List Int} {b c : Int} (he : e = p ++ b :: c :: q) (h : Rise e) : ∀ x ∈ e, x ≤ b ∨ c ≤ x := by
  intro x hx
  rw [he] at hx h
  obtain ⟨_, h2, h3⟩ := List.pairwise_append.1 h
  have h4 := List.pairwise_cons.1 h2
  have h5 := List.pairwise_cons.1 h4.2
  rcases List.mem_append.1 hx with hx | hx
  · left; have := h3 x hx b (by simp); omega
  · rcases List.mem_cons.1 hx with rfl | hx
    · left; omega
    · rcases List.mem_cons.1 hx with rfl | hx
      · right; omega
      · right; have := h5.1 x hx; omega
theorem madeN_spec {l : List S} {s : S} {w : Bool} (hs : one s = true) (h : may' (-1) l = true) : may' (-1) (madeN l s w) = true ∧ ∀ n, inn (madeN l s w) n = keepB w (inn l n) (ins s n) := by
  obtain ⟨hr, hmem⟩ := endsN_spec (l ++ [s])
  have hs' := one_iff.1 hs
  have hall : ∀ x ∈ l ++ [s], one x = true := fun x hx => by
    rcases List.mem_append.1 hx with hx | hx
    · exact (may'_mem h x hx).2
    · rw [List.mem_singleton] at hx; rw [hx]; exact hs
  have hne : endsN (l ++ [s]) ≠ [] := fun e => by
    have := (hmem s.f).2 ⟨s, by simp, .inl rfl⟩
    rw [e] at this; cases this
  have hF : ∀ x ∈ l ++ [s], x.f ∈ endsN (l ++ [s]) := fun x hx => (hmem _).2 ⟨x, hx, .inl rfl⟩
  have hU : ∀ x ∈ l ++ [s], x.u ∈ endsN (l ++ [s]) := fun x hx => (hmem _).2 ⟨x, hx, .inr rfl⟩
  have hrange : ∀ m ∈ endsN (l ++ [s]), 0 ≤ m ∧ m ≤ 4611686018427387904 := fun m hm => by
    obtain ⟨x, hx, h⟩ := (hmem m).1 hm
    have := one_iff.1 (hall x hx)
    omega
  unfold madeN
  generalize endsN (l ++ [s]) = e at *
  cases e with
  | nil => exact absurd rfl hne
  | cons a r =>
    obtain ⟨z, h1, h2⟩ := madeR_spec l s w (a :: r) [] a r rfl hr (hrange a (by simp)).1 (fun x hx => (hrange x hx).2) trivial fun b c p q he n hb hc => by
      have hbet := rise_between he hr
      have same : ∀ x ∈ l ++ [s], ins x n = ins x b := fun x hx => by
        rw [Bool.eq_iff_iff, ins_iff, ins_iff]
        have h1 := hbet _ (hF x hx)
        have h2 := hbet _ (hU x hx)
        omega
      have e1 : inn l n = inn l b := by
        rw [Bool.eq_iff_iff, inn_iff, inn_iff]
        constructor
        · rintro ⟨x, hx, h⟩
          exact ⟨x, hx, ins_iff.1 ((same x (by simp [hx])).symm.trans (ins_iff.2 h))⟩
        · rintro ⟨x, hx, h⟩
          exact ⟨x, hx, ins_iff.1 ((same x (by simp [hx])).trans (ins_iff.2 h))⟩
      rw [e1, inn_single, inn_single, same s (by simp)]
    refine ⟨h1.may, fun n => ?_⟩
    rw [inn_reverse, h2, inn_nil, inn_single]
    cases hk : keepB w (inn l n) (ins s n) with
    | false => simp
    | true =>
      have hin : ∃ x ∈ l ++ [s], x.f ≤ n ∧ n < x.u := by
        unfold keepB at hk
        split at hk
        · simp only [Bool.and_eq_true] at hk
          obtain ⟨x, hx, h⟩ := inn_iff.1 hk.1
          exact ⟨x, by simp [hx], h⟩
        · simp only [Bool.or_eq_true] at hk
          rcases hk with hk | hk
          · obtain ⟨x, hx, h⟩ := inn_iff.1 hk
            exact ⟨x, by simp [hx], h⟩
          · exact ⟨s, by simp, ins_iff.1 hk⟩
      obtain ⟨x, hx, h3, h4⟩ := hin
      have lo : a ≤ x.f := by
        rcases List.mem_cons.1 (hF x hx) with e | e
        · omega
        · have := (List.pairwise_cons.1 hr).1 _ e; omega
      have hi : x.u ≤ (a :: r).getLast (by simp) := by
        have : ∀ (e : List Int) (hne : e ≠ []), Rise e → ∀ y ∈ e, y ≤ e.getLast hne := by
          intro e
          induction e with
          | nil => intro h; exact absurd rfl h
          | cons c e ih =>
            intro _ hr y hy
            have hr' := List.pairwise_cons.1 hr
            cases e with
            | nil => simp at hy; subst hy; simp
            | cons d e =>
              rw [List.getLast_cons (by simp)]
              rcases List.mem_cons.1 hy with rfl | hy
              · have := hr'.1 _ (List.getLast_mem (show d :: e ≠ [] by simp)); omega
              · exact ih (by simp) hr'.2 y hy
        exact this _ _ hr _ (hU x hx)
      simp only [Bool.false_or, Bool.and_true, Bool.and_eq_true, decide_eq_true_eq]
      omega
theorem madeN_add {l : List S} {s : S} (hs : one s = true) (h : may' (-1) l = true) : madeN l s false = addN l s := by
  have hs' := one_iff.1 hs
  obtain ⟨a1, a2⟩ := madeN_spec (w := false) hs h
  obtain ⟨b1, b2, _⟩ := addM_spec hs h (by omega)
  rw [addN_eq hs h]
  exact may_unique a1 b1 fun n => by rw [a2, b2]; rfl
theorem madeN_cut {l : List S} {s : S} (hs : one s = true) (h : may' (-1) l = true) : madeN l s true = cutN l s := by
  obtain ⟨a1, a2⟩ := madeN_spec (w := true) hs h
  obtain ⟨b1, b2⟩ := cutN_spec hs h
  exact may_unique a1 b1 fun n => by rw [a2, b2]; rfl
end Go.Proofs.We
