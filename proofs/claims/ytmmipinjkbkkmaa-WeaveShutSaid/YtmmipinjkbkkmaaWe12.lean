/- The plain law of Read: what is left may be. -/
import Derived.Test.YtmmipinjkbkkmaaWe11
set_option linter.unusedSimpArgs false
set_option linter.unusedVariables false
set_option linter.unusedSectionVars false
set_option linter.unnecessarySimpa false
namespace Go.Proofs.We
open Go.PM Go.Proofs

/-- What Read leaves, where it reads. -/
structure Left (w : Wv) (k : Int) : Prop where
  may : mayW (readV w k)
  inn : ∀ n, inn (readV w k).got n = (inn w.got n && !ins ⟨w.base, w.base + k⟩ n)
  len : (readV w k).got.length ≤ w.got.length + 1
  upto : uptoN (readV w k) = uptoN w
theorem left {w : Wv} {k : Int} (hm : mayW w) (h0 : 0 < k) (h1 : k ≤ readyN w) (hl5 : w.got.length ≤ 500) : Left w k := by
  obtain ⟨k1, k2, k3, k4⟩ := hm
  have hm : mayW w := ⟨k1, k2, k3, k4⟩
  have rr := ready_range hm
  have ra := ready_at hm
  have ed := edge_eq k1
  have ⟨a1, a2, a3, a4, a5⟩ := k1
  have ⟨b1, b2, b3⟩ := k2
  have bl := base_le k1 k2
  have rg := upto_range k1
  have hs : one ⟨w.base, w.base + k⟩ = true := one_iff.2 ⟨a3, by show w.base < w.base + k; omega, by show w.base + k ≤ _; omega⟩
  obtain ⟨_, m1, n1, c1⟩ := cutP_ok a5 hs (by omega)
  have hch := (preB_of k1 k2).2.2.2
  have hu : uptoN (readV w k) = uptoN w := by
    rcases upto_cases (readV w k) with ⟨e, h⟩ | ⟨y, hy, h⟩
    · -- nothing is left
      rw [h]
      show w.base + k = uptoN w
      by_cases hc : w.base + k = uptoN w
      · exact hc
      · exfalso
        rcases upto_cases w with ⟨e2, h2⟩ | ⟨z, hz, h2⟩
        · omega
        · have hi := last_inn (may_iff.1 a5).1 hz
          have := n1 (z.u - 1)
          rw [show cutN w.got ⟨w.base, w.base + k⟩ = [] from e, inn_nil, hi] at this
          cases hj : ins ⟨w.base, w.base + k⟩ (z.u - 1) with
          | true => have := ins_iff.1 hj; simp only at this; omega
          | false => rw [hj] at this; cases this
    · have hi : inn (cutN w.got ⟨w.base, w.base + k⟩) (y.u - 1) = true := last_inn (may_iff.1 m1).1 hy
      rw [n1, Bool.and_eq_true] at hi
      have q1 := (inn_chain hch hi.1).2
      rw [← upto_end] at q1
      rcases upto_cases w with ⟨e2, h2⟩ | ⟨z, hz, h2⟩
      · rw [e2] at hi; cases hi.1
      · have q2 := last_inn (may_iff.1 a5).1 hz
        by_cases hc : z.u - 1 < w.base + k
        · -- the last place is read: then nothing is left
          exfalso
          have q3 := (inn_chain hch hi.1).1
          have : ins ⟨w.base, w.base + k⟩ (y.u - 1) = true := ins_iff.2 ⟨q3, by show y.u - 1 < w.base + k; omega⟩
          rw [this] at hi; simp at hi
        · have q4 : inn (cutN w.got ⟨w.base, w.base + k⟩) (z.u - 1) = true := by
            rw [n1, q2]
            cases hj : ins ⟨w.base, w.base + k⟩ (z.u - 1) with
            | true => have := ins_iff.1 hj; simp only at this; omega
            | false => rfl
          obtain ⟨t, ht, hlt⟩ := upto_last (may_iff.1 m1).1 q4
          have hy' : (cutN w.got ⟨w.base, w.base + k⟩).getLast? = some y := hy
          rw [hy'] at ht
          cases ht
          omega
  have hlen : ((readV w k).b.length : Int) = w.b.length - k := by
    show ((w.b.drop k.toNat).length : Int) = _
    simp; omega
  have o1 : ok1 (readV w k) := ⟨a1, a2, by show 0 ≤ w.base + k; omega, by show w.base + k ≤ _; omega, m1⟩
  have ed2 := edge_eq o1
  have hb : (readV w k).base = w.base + k := rfl
  have hcap : (readV w k).cap = w.cap := rfl
  have o2 : ok2 (readV w k) := by
    refine ⟨fun x hx => ?_, by rw [hu, ed2, hb, hcap]; omega, by rw [hu, hb]; omega⟩
    have hmem : x ∈ cutN w.got ⟨w.base, w.base + k⟩ := List.mem_of_head? hx
    have hone := one_iff.1 (may'_mem (may_iff.1 m1).1 x hmem).2
    have hi : inn (cutN w.got ⟨w.base, w.base + k⟩) x.f = true := inn_iff.2 ⟨x, hmem, by omega, by omega⟩
    rw [n1, Bool.and_eq_true] at hi
    have q := (inn_chain hch hi.1).1
    show w.base + k ≤ x.f
    by_cases hc : x.f < w.base + k
    · have : ins ⟨w.base, w.base + k⟩ x.f = true := ins_iff.2 ⟨q, hc⟩
      rw [this] at hi; simp at hi
    · omega
  refine ⟨⟨o1, o2, ?_, (blankN_iff o1 o2).2 fun j hj hi => ?_⟩, n1, c1, hu⟩
  · rcases k3 with h | h
    · exact .inl h
    · exact .inr (by rw [hu]; exact h)
  · have hi : inn (cutN w.got ⟨w.base, w.base + k⟩) (w.base + k + j) = false := hi
    rw [n1] at hi
    have hni : ins ⟨w.base, w.base + k⟩ (w.base + k + j) = false := by
      cases hj : ins ⟨w.base, w.base + k⟩ (w.base + k + j) with
      | true => have := ins_iff.1 hj; simp only at this; omega
      | false => rfl
    rw [hni, Bool.not_false, Bool.and_true] at hi
    have := (blankN_iff k1 k2).1 k4 (k.toNat + j) (by omega) (by rw [← hi]; congr 1; omega)
    show (w.b.drop k.toNat).getD j 0 = 0
    rw [List.getD_eq_getElem?_getD, List.getElem?_drop, ← List.getD_eq_getElem?_getD]
    exact this
/-- Where an end is told, the weave may be as it was. -/
theorem shut_may {w : Wv} {at' : Int} (hm : mayW w) (h : uptoN w ≤ at') : mayW { w with fin := at' } := by
  obtain ⟨k1, k2, k3, k4⟩ := hm
  exact ⟨k1, k2, .inr h, k4⟩
end Go.Proofs.We
