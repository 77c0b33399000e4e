/- Contracts, given by what is put in and what comes out. -/
import Derived.Test.YtmmipinjkbkkmaaPmFuns
set_option linter.unusedSimpArgs false
set_option linter.unusedVariables false
set_option linter.unusedSectionVars false
set_option linter.unnecessarySimpa false
namespace Go.PM
variable {P : Program}

open Classical in
noncomputable def specOf {A : Type} (arg : A → List PV) (pre : A → Prop) (res : A → PV) : Spec := fun vs => if h : ∃ a, arg a = vs ∧ pre a then some (res h.choose) else none
theorem specOf_at {A : Type} {arg : A → List PV} {pre : A → Prop} {res : A → PV} (hinj : ∀ a b, arg a = arg b → a = b) {a : A} (h : pre a) : specOf arg pre res (arg a) = some (res a) := by
  have hx : ∃ b, arg b = arg a ∧ pre b := ⟨a, rfl, h⟩
  unfold specOf
  rw [dif_pos hx, hinj _ _ hx.choose_spec.1]
theorem specOf_sound {A : Type} {arg : A → List PV} {pre : A → Prop} {res : A → PV} {f : FuncId} (h : ∀ a, pre a → SoundAt P f (arg a) (res a)) : ∀ vs r, specOf arg pre res vs = some r → SoundAt P f vs r := by
  intro vs r hr
  unfold specOf at hr
  split at hr
  · rename_i hx
    cases hr
    have := h _ hx.choose_spec.2
    rwa [hx.choose_spec.1] at this
  · cases hr

def specAt : List (FuncId × Spec) → FuncId → Spec
  | [], _, _ => none
  | (k, s) :: r, f, vs => if k = f then s vs else specAt r f vs
theorem specAt_cons (k : FuncId) (s : Spec) (r : List (FuncId × Spec)) (f : FuncId) (vs : List PV) : specAt ((k, s) :: r) f vs = if k = f then s vs else specAt r f vs := rfl
theorem env_ok {T : Tab} (hT : TabOk P T) {Fs : List (FuncId × Spec)} (h : ∀ x ∈ Fs, ∀ vs r, x.2 vs = some r → SoundAt P x.1 vs r) (live : Nat → Option Live) : EnvOk P ⟨T, specAt Fs, live⟩ := by
  refine ⟨hT, fun f vs r hr => ?_⟩
  replace hr : specAt Fs f vs = some r := hr
  clear live hT
  induction Fs with
  | nil => cases hr
  | cons x rest ih =>
    obtain ⟨k, s⟩ := x
    rw [specAt_cons] at hr
    split at hr
    · rename_i e; subst e; exact h (k, s) (by simp) vs r hr
    · exact ih (fun y hy => h y (by simp [hy])) hr
/-! What is handed back, part by part. -/
section
variable {m : Mem} {ks : List Nat}
theorem m_cov {x y : CV} (h : Cov x y) : matchL m ks (.c x) (.c y) := ⟨⟨_, rfl, h⟩, rfl, rfl⟩
theorem m_c {x y : CV} (h : x = y) : matchL m ks (.c x) (.c y) := m_cov (.inl h)
theorem m_own {id off len sz : Nat} {b : Bool} {xs ys : List (List CV)} (h : m (id, 0) = some (.vec b sz xs)) (hle : off + len ≤ xs.length) (e : ys = (xs.drop off).take len) (hk : ks.contains id = false) : matchL m ks (.c (.ro sz ys)) (.own id off len) := by
  subst e
  refine ⟨⟨_, ?_, .refl _⟩, by simp only [ownL, List.all_cons, List.all_nil, hk]; rfl, rfl⟩
  simp only [viewL, vecC, h, onO, MC.asVec, if_pos hle]
theorem m_fresh {k id len sz : Nat} {xs ys : List (List CV)} (h : m (id, 0) = some (.vec true sz xs)) (hk : ks[k]? = some id) (hlen : len = ys.length) (e : ys = xs) : matchL m ks (.fresh k sz ys) (.own id 0 len) := by
  subst e; subst hlen
  have hd : ks.getD k 0 = id := by rw [List.getD_eq_getElem?_getD, hk]; rfl
  exact ⟨by rw [hd], by rw [hd]; exact h, (List.getElem?_eq_some_iff.1 hk).1⟩
theorem mA_of_L {r p : PV} (hr : ∀ cs, r ≠ .agg cs) (h : matchL m ks r p) : matchA m ks r p := by
  cases r <;> first | exact absurd rfl (hr _) | (cases p <;> exact h)
theorem mA_c {x : CV} {p : PV} (h : matchL m ks (.c x) p) : matchA m ks (.c x) p := mA_of_L (fun _ e => by cases e) h
theorem mA_fresh {k sz : Nat} {xs : List (List CV)} {p : PV} (h : matchL m ks (.fresh k sz xs) p) : matchA m ks (.fresh k sz xs) p := mA_of_L (fun _ e => by cases e) h
theorem mA_agg {rs ps : List PV} (h : matchLs m ks rs ps) : matchA m ks (.agg rs) (.agg ps) := h
theorem mLs_nil : matchLs m ks [] [] := trivial
theorem mLs_cons {r p : PV} {rs ps : List PV} (h : matchL m ks r p) (t : matchLs m ks rs ps) : matchLs m ks (r :: rs) (p :: ps) := ⟨h, t⟩
theorem mAs_nil : matchAs m ks [] [] := trivial
theorem mAs_cons {r p : PV} {rs ps : List PV} (h : matchA m ks r p) (t : matchAs m ks rs ps) : matchAs m ks (r :: rs) (p :: ps) := ⟨h, t⟩
theorem matchF_A {r p : PV} (hr : ∀ vs, r ≠ .tup vs) (h : matchA m ks r p) : matchF m ks r p := by
  cases r <;> first | exact absurd rfl (hr _) | (cases p <;> exact h)
/-- One result. -/
theorem got1 (ks : List Nat) (hk : ks.Nodup) {r p : PV} (hr : ∀ vs, r ≠ .tup vs) (h : matchA m ks r p) : Got (some [p]) fun ps => ∃ ks : List Nat, ks.Nodup ∧ matchF m ks r (pack ps) := ⟨ks, hk, matchF_A hr h⟩
/-- More than one. -/
theorem gots (ks : List Nat) (hk : ks.Nodup) {rs : List PV} {p q : PV} {ps : List PV} (h : matchAs m ks rs (p :: q :: ps)) : Got (some (p :: q :: ps)) fun ps => ∃ ks : List Nat, ks.Nodup ∧ matchF m ks (.tup rs) (pack ps) := ⟨ks, hk, h⟩
/-- One plain result. -/
theorem got_c {x y : CV} (h : x = y) : Got (some [PV.c x]) fun ps => ∃ ks : List Nat, ks.Nodup ∧ matchF m ks (.c y) (pack ps) :=
  got1 [] (by simp) (fun _ e => by cases e) (mA_c (m_c h.symm))
/-- One row, of one's own, that is handed back to be read. -/
theorem got_own {id off len sz : Nat} {b : Bool} {xs ys : List (List CV)} (h : m (id, 0) = some (.vec b sz xs)) (hle : off + len ≤ xs.length) (e : ys = (xs.drop off).take len) : Got (some [PV.own id off len]) fun ps => ∃ ks : List Nat, ks.Nodup ∧ matchF m ks (.c (.ro sz ys)) (pack ps) :=
  got1 [] (by simp) (fun _ e => by cases e) (mA_c (m_own h hle e rfl))
theorem m_own0 {id len sz : Nat} {b : Bool} {xs ys : List (List CV)} (h : m (id, 0) = some (.vec b sz xs)) (hlen : len = xs.length) (e : ys = xs) (hk : ks.contains id = false) : matchL m ks (.c (.ro sz ys)) (.own id 0 len) :=
  m_own h (by omega) (by rw [e, hlen]; simp) hk
theorem got_own0 {id len sz : Nat} {b : Bool} {xs ys : List (List CV)} (h : m (id, 0) = some (.vec b sz xs)) (hlen : len = xs.length) (e : ys = xs) : Got (some [PV.own id 0 len]) fun ps => ∃ ks : List Nat, ks.Nodup ∧ matchF m ks (.c (.ro sz ys)) (pack ps) :=
  got1 [] (by simp) (fun _ e => by cases e) (mA_c (m_own0 h hlen e rfl))
end
end Go.PM
