/- The seat's table of types. -/
import Derived.Test.YtikenpdhdmbljaaPmTab
import Derived.Test.YtikenpdhdmbljaaPmSimp
import Derived.KernelRfl
import Derived.Test.YtikenpdhdmbljaaProg
set_option linter.unusedSimpArgs false
set_option linter.unusedVariables false
set_option linter.unusedSectionVars false
set_option linter.unnecessarySimpa false
namespace Go.Proofs.Sp
open Go.PM Go.Proofs

def li (n : Int) : CV := .lit (.int .i64 n)
def iz : Value := .int .i64 0
def tT : Tab := [(3, ⟨.int .i64, 1, 8, [iz], false⟩), (4, ⟨.bool, 1, 1, [.bool false], false⟩), (24, ⟨.strct [(0, 1), (1, 1)], 2, 16, [iz, iz], true⟩), (22, ⟨.slice 24, 1, 24, [.slice none 0 0], false⟩), (26, ⟨.int .i64, 1, 8, [iz], false⟩), (44, ⟨.slice 3, 1, 24, [.slice none 0 0], false⟩)]

theorem one_i : ∀ v ∈ [iz], v.oneCell' = true := by intro v h; simp at h; subst h; rfl
theorem one_ii : ∀ v ∈ [iz, iz], v.oneCell' = true := by intro v h; simp at h; subst h; rfl
theorem one_b : ∀ v ∈ [Value.bool false], v.oneCell' = true := by intro v h; simp at h; subst h; rfl
theorem one_s : ∀ v ∈ [Value.slice none 0 0], v.oneCell' = true := by intro v h; simp at h; subst h; rfl

theorem tT_ok : TabOk Try.prog tT := by
  refine tab_ok fun x hx => ?_
  simp only [tT, List.mem_cons, List.not_mem_nil, or_false] at hx
  rcases hx with rfl | rfl | rfl | rfl | rfl | rfl
  · exact ⟨⟨Try.t3, by kernel_rfl, rfl, rfl, ⟨_, rfl, rfl⟩, rfl, one_i, Try.underlying3, rfl⟩, fun h => by cases h⟩
  · exact ⟨⟨Try.t4, by kernel_rfl, rfl, rfl, ⟨_, rfl, rfl⟩, rfl, one_b, Try.underlying4, rfl⟩, fun h => by cases h⟩
  · refine ⟨⟨Try.t24, by kernel_rfl, rfl, rfl, ⟨_, rfl, rfl⟩, rfl, one_ii, _, Try.underlying24, rfl, fun j o n hj => ?_⟩, fun _ => ⟨Try.eqGuardType24, fun w xs ys b h hx hy => ?_⟩⟩
    · match j, hj with
      | 0, hj => cases hj; exact ⟨_, Try.t3, rfl, rfl, by kernel_rfl, rfl, by decide, _, Try.underlying3, rfl⟩
      | 1, hj => cases hj; exact ⟨_, Try.t3, rfl, rfl, by kernel_rfl, rfl, by decide, _, Try.underlying3, rfl⟩
      | j + 2, hj => simp at hj
    · refine eq_ints (fields := #[{ name := "From", type := 3, offset := 0, embedded := false, tag := "", pkgPath := "", byteOffset := 0 }, { name := "Upto", type := 3, offset := 1, embedded := false, tag := "", pkgPath := "", byteOffset := 8 }]) (by kernel_rfl) (by kernel_rfl) (by kernel_rfl) (fun i f hi => ?_) w xs ys b h (by simpa using hx) (by simpa using hy)
      match i, hi with
      | 0, hi => cases hi; exact ⟨by decide, rfl, _, Try.underlying3⟩
      | 1, hi => cases hi; exact ⟨by decide, rfl, _, Try.underlying3⟩
      | i + 2, hi => simp at hi
  · exact ⟨⟨Try.t22, by kernel_rfl, rfl, rfl, ⟨_, rfl, rfl⟩, rfl, one_s, Try.underlying22, rfl⟩, fun h => by cases h⟩
  · exact ⟨⟨Try.t26, by kernel_rfl, rfl, rfl, ⟨_, rfl, rfl⟩, rfl, one_i, Try.underlying26, rfl⟩, fun h => by cases h⟩
  · exact ⟨⟨Try.t44, by kernel_rfl, rfl, rfl, ⟨_, rfl, rfl⟩, rfl, one_s, Try.underlying44, rfl⟩, fun h => by cases h⟩
theorem mixed : Try.prog.follows .mixedOrders = true := by kernel_rfl
end Go.Proofs.Sp
