/- The seat's table of types. -/
import Derived.Test.YtmmipinjkbkkmaaPmTab
import Derived.Test.YtmmipinjkbkkmaaPmSimp
import Derived.KernelRfl
import Derived.Test.YtmmipinjkbkkmaaProg
import Derived.Test.YtmmipinjkbkkmaaPmSpec
import Derived.Test.YtmmipinjkbkkmaaPmSet
set_option linter.unusedSimpArgs false
set_option linter.unusedVariables false
set_option linter.unusedSectionVars false
set_option linter.unnecessarySimpa false
namespace Go.Proofs.We
open Go.PM Go.Proofs

def li (n : Int) : CV := .lit (.int .i64 n)
def iz : Value := .int .i64 0
def sz0 : Value := .slice none 0 0
def tT : Tab := [(3, ⟨.int .i64, 1, 8, [iz], false⟩), (4, ⟨.bool, 1, 1, [.bool false], false⟩), (50, ⟨.strct [(0, 1), (1, 1)], 2, 16, [iz, iz], true⟩), (23, ⟨.slice 50, 1, 24, [.slice none 0 0], false⟩), (28, ⟨.int .i64, 1, 8, [iz], false⟩), (35, ⟨.slice 3, 1, 24, [.slice none 0 0], false⟩),
  (5, ⟨.int .u8, 1, 1, [.int .u8 0], false⟩), (22, ⟨.slice 5, 1, 24, [.slice none 0 0], false⟩), (25, ⟨.strct [(0, 1), (1, 1), (2, 1), (3, 1), (4, 1)], 5, 72, [.int .i64 0, .slice none 0 0, .slice none 0 0, .int .i64 0, .int .i64 0], false⟩), (38, ⟨.arr 2 3, 2, 16, [.int .i64 0, .int .i64 0], false⟩), (34, ⟨.slice 38, 1, 24, [.slice none 0 0], false⟩)]

theorem one_i : ∀ v ∈ [iz], v.oneCell' = true := by intro v h; simp at h; subst h; rfl
theorem one_ii : ∀ v ∈ [iz, iz], v.oneCell' = true := by intro v h; simp at h; subst h; rfl
theorem one_b : ∀ v ∈ [Value.bool false], v.oneCell' = true := by intro v h; simp at h; subst h; rfl
theorem one_u : ∀ v ∈ [Value.int .u8 0], v.oneCell' = true := by intro v h; simp at h; subst h; rfl
theorem one_s : ∀ v ∈ [Value.slice none 0 0], v.oneCell' = true := by intro v h; simp at h; subst h; rfl
theorem one_w : ∀ v ∈ [Value.int .i64 0, .slice none 0 0, .slice none 0 0, .int .i64 0, .int .i64 0], v.oneCell' = true := by
  intro v h
  simp only [List.mem_cons, List.not_mem_nil, or_false] at h
  rcases h with rfl | rfl | rfl | rfl | rfl <;> rfl

theorem tT_ok : TabOk Try.prog tT := by
  refine tab_ok fun x hx => ?_
  simp only [tT, List.mem_cons, List.not_mem_nil, or_false] at hx
  rcases hx with rfl | rfl | rfl | rfl | rfl | rfl | rfl | rfl | rfl | rfl | rfl
  · exact ⟨⟨Try.t3, by kernel_rfl, rfl, rfl, ⟨_, rfl, rfl⟩, rfl, one_i, Try.underlying3, rfl⟩, fun h => by cases h⟩
  · exact ⟨⟨Try.t4, by kernel_rfl, rfl, rfl, ⟨_, rfl, rfl⟩, rfl, one_b, Try.underlying4, rfl⟩, fun h => by cases h⟩
  · refine ⟨⟨Try.t50, by kernel_rfl, rfl, rfl, ⟨_, rfl, rfl⟩, rfl, one_ii, _, Try.underlying50, rfl, fun j o n hj => ?_⟩, fun _ => ⟨Try.eqGuardType50, fun w xs ys b h hx hy => ?_⟩⟩
    · match j, hj with
      | 0, hj => cases hj; exact ⟨_, Try.t3, rfl, rfl, by kernel_rfl, rfl, by decide, _, Try.underlying3, rfl⟩
      | 1, hj => cases hj; exact ⟨_, Try.t3, rfl, rfl, by kernel_rfl, rfl, by decide, _, Try.underlying3, rfl⟩
      | j + 2, hj => simp at hj
    · refine eq_ints (fields := #[{ name := "From", type := 3, offset := 0, embedded := false, tag := "", pkgPath := "", byteOffset := 0 }, { name := "Upto", type := 3, offset := 1, embedded := false, tag := "", pkgPath := "", byteOffset := 8 }]) (by kernel_rfl) (by kernel_rfl) (by kernel_rfl) (fun i f hi => ?_) w xs ys b h (by simpa using hx) (by simpa using hy)
      match i, hi with
      | 0, hi => cases hi; exact ⟨by decide, rfl, _, Try.underlying3⟩
      | 1, hi => cases hi; exact ⟨by decide, rfl, _, Try.underlying3⟩
      | i + 2, hi => simp at hi
  · exact ⟨⟨Try.t23, by kernel_rfl, rfl, rfl, ⟨_, rfl, rfl⟩, rfl, one_s, Try.underlying23, rfl⟩, fun h => by cases h⟩
  · exact ⟨⟨Try.t28, by kernel_rfl, rfl, rfl, ⟨_, rfl, rfl⟩, rfl, one_i, Try.underlying28, rfl⟩, fun h => by cases h⟩
  · exact ⟨⟨Try.t35, by kernel_rfl, rfl, rfl, ⟨_, rfl, rfl⟩, rfl, one_s, Try.underlying35, rfl⟩, fun h => by cases h⟩
  · exact ⟨⟨Try.t5, by kernel_rfl, rfl, rfl, ⟨_, rfl, rfl⟩, rfl, one_u, Try.underlying5, rfl⟩, fun h => by cases h⟩
  · exact ⟨⟨Try.t22, by kernel_rfl, rfl, rfl, ⟨_, rfl, rfl⟩, rfl, one_s, Try.underlying22, rfl⟩, fun h => by cases h⟩
  · refine ⟨⟨Try.t25, by kernel_rfl, rfl, rfl, ⟨_, rfl, rfl⟩, rfl, one_w, _, Try.underlying25, rfl, fun j o n hj => ?_⟩, fun h => by cases h⟩
    match j, hj with
    | 0, hj => cases hj; exact ⟨_, Try.t3, rfl, rfl, by kernel_rfl, rfl, by decide, _, Try.underlying3, rfl⟩
    | 1, hj => cases hj; exact ⟨_, Try.t22, rfl, rfl, by kernel_rfl, rfl, by decide, _, Try.underlying22, rfl⟩
    | 2, hj => cases hj; exact ⟨_, Try.t23, rfl, rfl, by kernel_rfl, rfl, by decide, _, Try.underlying23, rfl⟩
    | 3, hj => cases hj; exact ⟨_, Try.t3, rfl, rfl, by kernel_rfl, rfl, by decide, _, Try.underlying3, rfl⟩
    | 4, hj => cases hj; exact ⟨_, Try.t3, rfl, rfl, by kernel_rfl, rfl, by decide, _, Try.underlying3, rfl⟩
    | j + 5, hj => simp at hj
  · exact ⟨⟨Try.t38, by kernel_rfl, rfl, rfl, ⟨_, rfl, rfl⟩, rfl, one_ii, Try.underlying38⟩, fun h => by cases h⟩
  · exact ⟨⟨Try.t34, by kernel_rfl, rfl, rfl, ⟨_, rfl, rfl⟩, rfl, one_s, Try.underlying34, rfl⟩, fun h => by cases h⟩
theorem mixed : Try.prog.follows .mixedOrders = true := by kernel_rfl
end Go.Proofs.We

/- What the Spans seat's texts share. -/
namespace Go.Proofs.We
open Go.PM Go.Proofs

structure S where
  f : Int
  u : Int
def encS (s : S) : List CV := [li s.f, li s.u]
def pS (s : S) : PV := .agg [.c (li s.f), .c (li s.u)]
def pB (b : Bool) : PV := .c (.lit (.bool b))
def pI (n : Int) : PV := .c (.lit (.int .i64 n))
def pL (l : List S) : PV := .c (.ro 2 (l.map encS))
theorem S.ext' {a b : S} (h : a.f = b.f) (k : a.u = b.u) : a = b := by cases a; cases b; simp_all
theorem pS_inj {a b : S} (h : pS a = pS b) : a = b := by
  simp only [pS, li, PV.agg.injEq, List.cons.injEq, PV.c.injEq, CV.lit.injEq, Value.int.injEq, and_true, true_and] at h
  exact S.ext' h.1 h.2
theorem encS_inj {a b : S} (h : encS a = encS b) : a = b := by
  simp only [encS, li, List.cons.injEq, CV.lit.injEq, Value.int.injEq, and_true, true_and] at h
  exact S.ext' h.1 h.2
theorem encL_inj : ∀ {a b : List S}, a.map encS = b.map encS → a = b
  | [], [], _ => rfl
  | [], _ :: _, h => by cases h
  | _ :: _, [], h => by cases h
  | x :: a, y :: b, h => by
    simp only [List.map_cons, List.cons.injEq] at h
    rw [encS_inj h.1, encL_inj h.2]
theorem pL_inj {a b : List S} (h : pL a = pL b) : a = b := by
  simp only [pL, PV.c.injEq, CV.ro.injEq, true_and] at h
  exact encL_inj h
def pN (l : List Int) : PV := .c (.ro 1 (l.map fun n => [li n]))
def encI (n : Int) : List CV := [li n]
theorem pN_inj {a b : List Int} (h : pN a = pN b) : a = b := by
  simp only [pN, PV.c.injEq, CV.ro.injEq, true_and] at h
  refine (List.map_inj_right (f := fun n => [li n]) ?_).1 h
  intro x y h
  simpa [li] using h
theorem pI_inj {a b : Int} (h : pI a = pI b) : a = b := by
  simpa [pI] using h

def mkE (S : FuncId → PM.Spec) (live : List (Nat × Live)) : Env := ⟨tT, S, liveAt live⟩
section
variable (S : FuncId → PM.Spec) (live : List (Nat × Live))
theorem mkE_T : (mkE S live).T = tT := rfl
theorem mkE_S : (mkE S live).S = S := rfl
theorem mkE_live : (mkE S live).live = liveAt live := rfl
end
theorem tT_3 : tT.get 3 = some ⟨.int .i64, 1, 8, [.int .i64 0], false⟩ := rfl
theorem tT_4 : tT.get 4 = some ⟨.bool, 1, 1, [.bool false], false⟩ := rfl
theorem tT_24 : tT.get 50 = some ⟨.strct [(0, 1), (1, 1)], 2, 16, [.int .i64 0, .int .i64 0], true⟩ := rfl
theorem tT_22 : tT.get 23 = some ⟨.slice 50, 1, 24, [.slice none 0 0], false⟩ := rfl
theorem tT_26 : tT.get 28 = some ⟨.int .i64, 1, 8, [.int .i64 0], false⟩ := rfl
theorem tT_44 : tT.get 35 = some ⟨.slice 3, 1, 24, [.slice none 0 0], false⟩ := rfl
theorem take_map_len {α β : Type} (f : α → β) (l : List α) : List.take l.length (l.map f) = l.map f := List.take_of_length_le (by simp)
attribute [go_sem] take_map_len mkE_T mkE_S mkE_live tT_3 tT_4 tT_24 tT_22 tT_26 tT_44 specAt_cons
theorem fs_nil : ∀ x ∈ ([] : List (FuncId × PM.Spec)), ∀ vs r, x.2 vs = some r → SoundAt Try.prog x.1 vs r := fun _ h => by cases h
theorem fs_cons {k : FuncId} {s : PM.Spec} {r : List (FuncId × PM.Spec)} (h : ∀ vs v, s vs = some v → SoundAt Try.prog k vs v) (hr : ∀ x ∈ r, ∀ vs v, x.2 vs = some v → SoundAt Try.prog x.1 vs v) : ∀ x ∈ (k, s) :: r, ∀ vs v, x.2 vs = some v → SoundAt Try.prog x.1 vs v := by
  intro x hx
  rcases List.mem_cons.1 hx with rfl | hx
  · exact h
  · exact hr x hx
theorem wrap_nat {n : Nat} (h : n ≤ 4611686018427387904) : IntKind.i64.wrap ((n : Int) + 1) = ((n + 1 : Nat) : Int) := by
  rw [IntKind.wrap_i64]; omega

/-- May one be? -/
def one (s : S) : Bool := decide (s.f ≥ 0) && (decide (s.f < s.u) && decide (s.u ≤ 4611686018427387904))
def may' : Int → List S → Bool
  | _, [] => true
  | last, s :: r => one s && (!decide (s.f ≤ last) && may' s.u r)
def may (l : List S) : Bool := may' (-1) l && decide (l.length ≤ 1000)
end Go.Proofs.We
