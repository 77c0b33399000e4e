/- What the statements' arguments are. -/
import Derived.Test.YtikenpdhdmbljaaSpLaw
import Derived.Test.YtikenpdhdmbljaaPmOpen
import Derived.WideShapes
set_option linter.unusedSimpArgs false
set_option linter.unusedVariables false
set_option linter.unusedSectionVars false
set_option linter.unnecessarySimpa false
namespace Go.Proofs.Sp
open Go.PM Go.Proofs

theorem opens3 : Opens Try.prog 3 1 fun pcs => ∃ n, pcs = [.lit (.int .i64 n)] ∧ (Lit.int .i64 n).wf = true := opens_int Try.underlying3 (by kernel_rfl)
theorem opens24 : Opens Try.prog 24 2 fun pcs => ∃ s : S, pcs = encS s := by
  refine (opens_struct (l := [(1, fun pcs => ∃ n, pcs = [.lit (.int .i64 n)] ∧ (Lit.int .i64 n).wf = true), (1, fun pcs => ∃ n, pcs = [.lit (.int .i64 n)] ∧ (Lit.int .i64 n).wf = true)]) Try.underlying24 (by kernel_rfl) rfl ?_).mono ?_ ?_
  · intro i f x hf hx
    match i, hf, hx with
    | 0, hf, hx => cases hf; cases hx; exact ⟨opens3, rfl⟩
    | 1, hf, hx => cases hf; cases hx; exact ⟨opens3, rfl⟩
  · rintro pcs ⟨a, b, rfl, ⟨n, rfl, _⟩, c, d, rfl, ⟨m, rfl, _⟩, rfl⟩
    exact ⟨⟨n, m⟩, rfl⟩
  · rintro pcs ⟨s, rfl⟩; rfl
theorem list_enc : ∀ {xs : List (List CV)}, (∀ x ∈ xs, ∃ s : S, x = encS s) → ∃ l : List S, xs = l.map encS
  | [], _ => ⟨[], rfl⟩
  | x :: r, h => by
    obtain ⟨s, rfl⟩ := h x (by simp)
    obtain ⟨l, rfl⟩ := list_enc fun y hy => h y (List.mem_cons_of_mem _ hy)
    exact ⟨s :: l, rfl⟩
theorem opens22 : Opens Try.prog 22 1 fun pcs => ∃ l : List S, pcs = [.ro 2 (l.map encS)] := by
  refine (opens_slice Try.underlying22 (by kernel_rfl) opens24 (by decide)).mono ?_ ?_
  · rintro pcs ⟨xs, rfl, h, _⟩
    obtain ⟨l, rfl⟩ := list_enc h
    exact ⟨l, rfl⟩
  · rintro pcs ⟨l, rfl⟩; rfl
section
variable {H : Type} {enc : TypeId × Value → H} {W : World} {b0 : Nat} {v : Value} {d : DataW H} {p : List MemPlace}
theorem arg22 (hval : Value.okWide Try.prog W .any b0 22 v) (h : DataW.Trod enc Try.prog W 0 (fun _ => true) true 22 v d p) : ∃ l : List S, ∀ loc, RelA W NoWr loc (pL l) v := by
  obtain ⟨a, len, cap, rfl⟩ := WideShapes.okWide_slice Try.underlying22 hval
  obtain ⟨fuel, hf⟩ := h
  obtain ⟨pcs, ⟨l, rfl⟩, hr⟩ := opens22.2.2 H enc W fuel _ _ hf
  exact ⟨l, fun _ => (hr.2 0 _ _ rfl rfl).2⟩
theorem arg24 (hval : Value.okWide Try.prog W .any b0 24 v) (h : DataW.Trod enc Try.prog W 0 (fun _ => true) true 24 v d p) : ∃ s : S, ∀ loc, RelA W NoWr loc (pS s) v := by
  simp only [Value.okWide, Try.underlying24] at hval
  obtain ⟨cs, rfl, _⟩ := hval
  obtain ⟨fuel, hf⟩ := h
  obtain ⟨pcs, ⟨s, rfl⟩, hr⟩ := opens24.2.2 H enc W fuel _ _ hf
  refine ⟨s, fun _ => ⟨cs.toList, by simp, hr.1, fun i p u hp hu => ?_⟩⟩
  match i, hp with
  | 0, hp => cases hp; exact hr.2 0 _ u rfl hu
  | 1, hp => cases hp; exact hr.2 1 _ u rfl hu
theorem arg3 (hval : Value.okWide Try.prog W .any b0 3 v) (h : DataW.Trod enc Try.prog W 0 (fun _ => true) true 3 v d p) : ∃ n : Int, ∀ loc, RelA W NoWr loc (pI n) v := by
  obtain ⟨n, rfl⟩ := WideShapes.okWide_int Try.underlying3 hval
  exact ⟨n, fun _ => RelC.lit _⟩
end
end Go.Proofs.Sp
