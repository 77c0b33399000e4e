/- What the statements' arguments are. -/
import Derived.Test.YtmmipinjkbkkmaaWe1
import Derived.Test.YtmmipinjkbkkmaaPmOpen
import Derived.WideShapes
set_option linter.unusedSimpArgs false
set_option linter.unusedVariables false
set_option linter.unusedSectionVars false
set_option linter.unnecessarySimpa false
namespace Go.Proofs.We
open Go.PM Go.Proofs

theorem opens3 : Opens Try.prog 3 1 fun pcs => ∃ n, pcs = [.lit (.int .i64 n)] ∧ (Lit.int .i64 n).wf = true := opens_int Try.underlying3 (by kernel_rfl)
theorem opens5 : Opens Try.prog 5 1 fun pcs => ∃ n : Int, pcs = encB n := by
  refine (opens_int (k := .u8) Try.underlying5 (by kernel_rfl)).mono ?_ ?_
  · rintro pcs ⟨n, rfl, _⟩; exact ⟨n, rfl⟩
  · rintro pcs ⟨n, rfl⟩; rfl
theorem opens50 : Opens Try.prog 50 2 fun pcs => ∃ s : S, pcs = encS s := by
  refine (opens_struct (l := [(1, fun pcs => ∃ n, pcs = [.lit (.int .i64 n)] ∧ (Lit.int .i64 n).wf = true), (1, fun pcs => ∃ n, pcs = [.lit (.int .i64 n)] ∧ (Lit.int .i64 n).wf = true)]) Try.underlying50 (by kernel_rfl) rfl ?_).mono ?_ ?_
  · intro i f x hf hx
    match i, hf, hx with
    | 0, hf, hx => cases hf; cases hx; exact ⟨opens3, rfl⟩
    | 1, hf, hx => cases hf; cases hx; exact ⟨opens3, rfl⟩
  · rintro pcs ⟨a, b, rfl, ⟨n, rfl, _⟩, c, d, rfl, ⟨m, rfl, _⟩, rfl⟩
    exact ⟨⟨n, m⟩, rfl⟩
  · rintro pcs ⟨s, rfl⟩; rfl
theorem list_encS : ∀ {xs : List (List CV)}, (∀ x ∈ xs, ∃ s : S, x = encS s) → ∃ l : List S, xs = l.map encS
  | [], _ => ⟨[], rfl⟩
  | x :: r, h => by
    obtain ⟨s, rfl⟩ := h x (by simp)
    obtain ⟨l, rfl⟩ := list_encS fun y hy => h y (List.mem_cons_of_mem _ hy)
    exact ⟨s :: l, rfl⟩
theorem list_encB : ∀ {xs : List (List CV)}, (∀ x ∈ xs, ∃ s : Int, x = encB s) → ∃ l : List Int, xs = l.map encB
  | [], _ => ⟨[], rfl⟩
  | x :: r, h => by
    obtain ⟨s, rfl⟩ := h x (by simp)
    obtain ⟨l, rfl⟩ := list_encB fun y hy => h y (List.mem_cons_of_mem _ hy)
    exact ⟨s :: l, rfl⟩
theorem opens23 : Opens Try.prog 23 1 fun pcs => ∃ l : List S, pcs = [.ro 2 (l.map encS)] := by
  refine (opens_slice Try.underlying23 (by kernel_rfl) opens50 (by decide)).mono ?_ ?_
  · rintro pcs ⟨xs, rfl, h, _⟩
    obtain ⟨l, rfl⟩ := list_encS h
    exact ⟨l, rfl⟩
  · rintro pcs ⟨l, rfl⟩; rfl
theorem opens22 : Opens Try.prog 22 1 fun pcs => ∃ l : List Int, pcs = [.ro 1 (l.map encB)] := by
  refine (opens_slice Try.underlying22 (by kernel_rfl) opens5 (by decide)).mono ?_ ?_
  · rintro pcs ⟨xs, rfl, h, _⟩
    obtain ⟨l, rfl⟩ := list_encB h
    exact ⟨l, rfl⟩
  · rintro pcs ⟨l, rfl⟩; rfl
def encW (w : Wv) : List CV := [.lit (.int .i64 w.base), .ro 1 (w.b.map encB), .ro 2 (w.got.map encS), .lit (.int .i64 w.cap), .lit (.int .i64 w.fin)]
theorem opens25 : Opens Try.prog 25 5 fun pcs => ∃ w : Wv, pcs = encW w := by
  refine (opens_struct (l := [(1, fun pcs => ∃ n, pcs = [.lit (.int .i64 n)] ∧ (Lit.int .i64 n).wf = true), (1, fun pcs => ∃ l : List Int, pcs = [.ro 1 (l.map encB)]), (1, fun pcs => ∃ l : List S, pcs = [.ro 2 (l.map encS)]), (1, fun pcs => ∃ n, pcs = [.lit (.int .i64 n)] ∧ (Lit.int .i64 n).wf = true), (1, fun pcs => ∃ n, pcs = [.lit (.int .i64 n)] ∧ (Lit.int .i64 n).wf = true)]) Try.underlying25 (by kernel_rfl) rfl ?_).mono ?_ ?_
  · intro i f x hf hx
    match i, hf, hx with
    | 0, hf, hx => cases hf; cases hx; exact ⟨opens3, rfl⟩
    | 1, hf, hx => cases hf; cases hx; exact ⟨opens22, rfl⟩
    | 2, hf, hx => cases hf; cases hx; exact ⟨opens23, rfl⟩
    | 3, hf, hx => cases hf; cases hx; exact ⟨opens3, rfl⟩
    | 4, hf, hx => cases hf; cases hx; exact ⟨opens3, rfl⟩
  · rintro pcs ⟨a, b, rfl, ⟨n, rfl, _⟩, c, d, rfl, ⟨l, rfl⟩, e, f, rfl, ⟨g, rfl⟩, h, i, rfl, ⟨m, rfl, _⟩, j, k, rfl, ⟨o, rfl, _⟩, rfl⟩
    exact ⟨⟨n, l, g, m, o⟩, rfl⟩
  · rintro pcs ⟨w, rfl⟩; rfl
section
variable {H : Type} {enc : TypeId × Value → H} {W : World} {b0 : Nat} {v : Value} {d : DataW H} {p : List MemPlace}
theorem argBy (hval : Value.okWide Try.prog W .any b0 22 v) (h : DataW.Trod enc Try.prog W 0 (fun _ => true) true 22 v d p) : ∃ l : List Int, ∀ loc, RelA W NoWr loc (pBy l) v := by
  obtain ⟨a, len, cap, rfl⟩ := WideShapes.okWide_slice Try.underlying22 hval
  obtain ⟨fuel, hf⟩ := h
  obtain ⟨pcs, ⟨l, rfl⟩, hr⟩ := opens22.2.2 H enc W fuel _ _ hf
  exact ⟨l, fun _ => (hr.2 0 _ _ rfl rfl).2⟩
theorem argW (hval : Value.okWide Try.prog W .any b0 25 v) (h : DataW.Trod enc Try.prog W 0 (fun _ => true) true 25 v d p) : ∃ w : Wv, ∀ loc, RelA W NoWr loc (pW w) v := by
  simp only [Value.okWide, Try.underlying25] at hval
  obtain ⟨cs, rfl, _⟩ := hval
  obtain ⟨fuel, hf⟩ := h
  obtain ⟨pcs, ⟨s, rfl⟩, hr⟩ := opens25.2.2 H enc W fuel _ _ hf
  refine ⟨s, fun _ => ⟨cs.toList, by simp, hr.1, fun i p u hp hu => ?_⟩⟩
  match i, hp with
  | 0, hp => cases hp; exact hr.2 0 _ u rfl hu
  | 1, hp => cases hp; exact hr.2 1 _ u rfl hu
  | 2, hp => cases hp; exact hr.2 2 _ u rfl hu
  | 3, hp => cases hp; exact hr.2 3 _ u rfl hu
  | 4, hp => cases hp; exact hr.2 4 _ u rfl hu
theorem arg3 (hval : Value.okWide Try.prog W .any b0 3 v) (h : DataW.Trod enc Try.prog W 0 (fun _ => true) true 3 v d p) : ∃ n : Int, ∀ loc, RelA W NoWr loc (pI n) v := by
  obtain ⟨n, rfl⟩ := WideShapes.okWide_int Try.underlying3 hval
  exact ⟨n, fun _ => RelC.lit _⟩
end
end Go.Proofs.We
