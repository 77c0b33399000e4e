/- Functions: from the pure machine to a contract. -/
import Derived.Test.YtikenpdhdmbljaaPmCode
import Derived.Conc.MuLone
set_option linter.unusedSimpArgs false
set_option linter.unusedVariables false
set_option linter.unusedSectionVars false
set_option linter.unnecessarySimpa false
namespace Go.PM
open Go.RowKit (Below)
variable {P : Program} {E : Env} {w0 : World} {lent wr0 : Nat → Prop} {n : Nat}

def noTup : PV → Option PV
  | .tup _ => none
  | p => some p
def resP (T : Tab) (s : St) : ResultVar → Option PV
  | .tmp t => noTup (s.slot t)
  | .cell a t => onO (T.get t) fun ti => onO (loadRes s.at ti (s.slot a)) fun e => noTup e.val
theorem noTup_some {p q : PV} (h : noTup p = some q) : p = q ∧ ∀ vs, q ≠ .tup vs := by
  unfold noTup at h
  split at h
  · cases h
  · rename_i hn; cases h; exact ⟨rfl, fun vs e => hn vs e⟩
def pack : List PV → PV
  | [p] => p
  | ps => .tup ps

/-- A row of nothing may be handed back as nil, too. -/
def Cov (x y : CV) : Prop := x = y ∨ ∃ sz, x = .ro sz [] ∧ (y = .lit (.slice none 0 0) ∨ y = .z)
theorem Cov.refl (x : CV) : Cov x x := .inl rfl
theorem Cov.nil (sz : Nat) : Cov (.ro sz []) (.lit (.slice none 0 0)) := .inr ⟨sz, rfl, .inl rfl⟩
theorem Cov.z (sz : Nat) : Cov (.ro sz []) .z := .inr ⟨sz, rfl, .inr rfl⟩
theorem Cov.rel {w : World} {wr : Nat → Prop} {x y : CV} (h : Cov x y) {v : Value} (hv : RelC w wr y v) : RelC w wr x v := by
  rcases h with rfl | ⟨sz, rfl, h⟩
  · exact hv
  · have : ∃ A, v = .slice A 0 0 := by
      rcases h with rfl | rfl
      · cases hv; exact ⟨none, rfl⟩
      · cases hv with
        | z A => exact ⟨A, rfl⟩
    obtain ⟨A, rfl⟩ := this
    exact .ro sz [] A 0 (fun _ _ => .bool false) (Nat.le_refl _) (fun _ _ h => by simp at h) (fun h => absurd rfl h) (fun _ _ => rfl) (fun _ _ _ _ h => by simp at h)
/-- Is what stands there what was to be handed back? ks: which rows of one's own are the new ones. -/
def matchL (m : Mem) (ks : List Nat) : PV → PV → Prop
  | .fresh k sz xs, p => p = .own (ks.getD k 0) 0 xs.length ∧ m (ks.getD k 0, 0) = some (.vec true sz xs) ∧ k < ks.length
  | .c x, p => (∃ y, viewL m p = some (.c y) ∧ Cov x y) ∧ (ownL p).all (fun id => !ks.contains id) = true ∧ boxL p = []
  | _, _ => False
def matchLs (m : Mem) (ks : List Nat) : List PV → List PV → Prop
  | [], [] => True
  | r :: rs, p :: ps => matchL m ks r p ∧ matchLs m ks rs ps
  | _, _ => False
def matchA (m : Mem) (ks : List Nat) : PV → PV → Prop
  | .agg rs, .agg ps => matchLs m ks rs ps
  | .agg _, _ => False
  | r, p => matchL m ks r p
def matchAs (m : Mem) (ks : List Nat) : List PV → List PV → Prop
  | [], [] => True
  | r :: rs, p :: ps => matchA m ks r p ∧ matchAs m ks rs ps
  | _, _ => False
def matchF (m : Mem) (ks : List Nat) : PV → PV → Prop
  | .tup rs, .tup ps => matchAs m ks rs ps
  | .tup _, _ => False
  | r, p => matchA m ks r p

def Post.ret (T : Tab) (rs : List ResultVar) (r : PV) : Post
  | .normal, s | .ret, s => Got (mapO (resP T s) rs) fun ps => ∃ ks : List Nat, ks.Nodup ∧ matchF s.at ks r (pack ps)
  | _, _ => False

def startS (vs : List PV) : St := ⟨vs.zipIdx.map fun x => (x.2, x.1), []⟩

theorem start_slot : ∀ (vs : List PV) (k t : Nat), lookS ((vs.zipIdx k).map fun x => (x.2, x.1)) t = if k ≤ t then (vs[t - k]?).getD .undef else .undef
  | [], k, t => by simp [lookS]
  | p :: r, k, t => by
    simp only [List.zipIdx_cons, List.map_cons, lookS]
    split
    · rename_i e; subst e; simp
    · rename_i e
      rw [start_slot r (k + 1) t]
      by_cases h : k ≤ t
      · rw [if_pos (by omega), if_pos h, show t - k = (t - (k + 1)) + 1 by omega]
        rfl
      · rw [if_neg (by omega), if_neg h]

section
variable {m : Mem} {loc : Locs} {w : World}

theorem matchLs_get {ks : List Nat} : ∀ {rs ps : List PV}, matchLs m ks rs ps → rs.length = ps.length ∧ ∀ (i : Nat) (r : PV), rs[i]? = some r → ∃ p, ps[i]? = some p ∧ matchL m ks r p
  | [], [], _ => ⟨rfl, fun i r h => by cases h⟩
  | [], _ :: _, h => h.elim
  | _ :: _, [], h => h.elim
  | r :: rs, p :: ps, ⟨h1, h2⟩ => by
    obtain ⟨i1, i2⟩ := matchLs_get h2
    refine ⟨by simp [i1], fun i q hq => ?_⟩
    cases i with
    | zero => cases hq; exact ⟨p, rfl, h1⟩
    | succ i => exact i2 i q hq
theorem matchAs_get {ks : List Nat} : ∀ {rs ps : List PV}, matchAs m ks rs ps → rs.length = ps.length ∧ ∀ (i : Nat) (r : PV), rs[i]? = some r → ∃ p, ps[i]? = some p ∧ matchA m ks r p
  | [], [], _ => ⟨rfl, fun i r h => by cases h⟩
  | [], _ :: _, h => h.elim
  | _ :: _, [], h => h.elim
  | r :: rs, p :: ps, ⟨h1, h2⟩ => by
    obtain ⟨i1, i2⟩ := matchAs_get h2
    refine ⟨by simp [i1], fun i q hq => ?_⟩
    cases i with
    | zero => cases hq; exact ⟨p, rfl, h1⟩
    | succ i => exact i2 i q hq

theorem matchA_leaves {ks : List Nat} {r p : PV} (h : matchA m ks r p) (hr : ∀ vs, r ≠ .tup vs) : ∀ q ∈ r.leaves, ∃ p', matchL m ks q p' := by
  intro q hq
  unfold matchA at h
  split at h
  · obtain ⟨i, hi⟩ := List.mem_iff_getElem?.1 hq
    obtain ⟨p', _, hm⟩ := (matchLs_get h).2 i q hi
    exact ⟨p', hm⟩
  · exact h.elim
  · rename_i hna _
    have hl : r.leaves = [r] := by
      cases r <;> first | rfl | exact absurd rfl (hna _)
    rw [hl, List.mem_singleton] at hq
    subst hq
    exact ⟨_, h⟩
theorem matchF_leaves {ks : List Nat} {r p : PV} (h : matchF m ks r p) : ∀ q ∈ r.leavesF, ∃ p', matchL m ks q p' := by
  intro q hq
  unfold matchF at h
  split at h
  · obtain ⟨x, hx, hq⟩ := List.mem_flatMap.1 hq
    obtain ⟨i, hi⟩ := List.mem_iff_getElem?.1 hx
    obtain ⟨p', _, hm⟩ := (matchAs_get h).2 i x hi
    refine matchA_leaves hm (fun vs e => ?_) q hq
    subst e
    cases p' <;> exact hm.elim
  · exact h.elim
  · rename_i hna _
    have hl : r.leavesF = r.leaves := by cases r <;> first | rfl | exact absurd rfl (hna _)
    exact matchA_leaves h hna q (hl ▸ hq)

/-- What is handed back is as the contract says. -/
theorem res_ok {w : World} (hM : MInv w0 (fun _ => False) wr0 m loc w) {ks : List Nat} (hks : ks.Nodup) {r p : PV} {v : Value} (hm : matchF m ks r p) (hv : RelV w (WR m loc wr0) loc p v) : ResOk w0 w wr0 (fun k => loc (ks.getD k 0)) r v := by
  have hleaf := matchF_leaves hm
  have hfresh : ∀ x ∈ r.fresh', m (ks.getD x.1 0, 0) = some (.vec true x.2.1 x.2.2) ∧ x.1 < ks.length := by
    intro x hx
    obtain ⟨q, hq, hxq⟩ := List.mem_flatMap.1 hx
    obtain ⟨p', hp'⟩ := hleaf q hq
    unfold freshL at hxq
    split at hxq
    · simp only [List.mem_singleton] at hxq
      subst hxq
      exact ⟨hp'.2.1, hp'.2.2⟩
    · cases hxq
  have hsub : ∀ g, g < w.heap.size → wrF wr0 (fun k => loc (ks.getD k 0)) r g → WR m loc wr0 g := by
    intro g _ hg
    rcases hg with hg | ⟨x, hx, hh, rfl⟩
    · exact .inl hg
    · exact .inr ⟨_, 0, _, (hfresh x hx).1, rfl, hh, rfl⟩
  have low : ∀ id j x, m (id, j) = some x → (loc id).here = true → w0.heap.size ≤ (loc id).g := fun id j x hx hh => by
    rcases (hM.place id j x hx hh).2 with h | h
    · exact h
    · exact h.elim
  have leaf : ∀ (q p' : PV) (u : Value), matchL m ks q p' → RelL w (WR m loc wr0) loc p' u → RelL w (wrF wr0 (fun k => loc (ks.getD k 0)) r) (fun k => loc (ks.getD k 0)) (openKL q) u := by
    intro q p' u hq hu
    cases q with
    | fresh k sz xs =>
      obtain ⟨rfl, hk, _⟩ := hq
      exact hu
    | c x =>
      obtain ⟨⟨y, h1, hcov⟩, h2, h3⟩ := hq
      obtain ⟨x', hx', hr⟩ := viewL_rel hM hu h1 hsub (fun id hid hh hw => by
        rw [h3, List.append_nil] at hid
        obtain ⟨b, sz, xs, hk⟩ := own_key h1 hid
        have hnk : id ∉ ks := by
          have := List.all_eq_true.1 h2 id hid
          simpa using this
        rcases hw with hw | ⟨y, hy, hh', eg⟩
        · have := (hM.wrlt _ hw).1
          have := low id 0 _ hk hh
          omega
        · obtain ⟨hy1, hy2⟩ := hfresh y hy
          have := hM.inj _ 0 _ id 0 _ hy1 hk hh' hh eg
          apply hnk
          rw [← this, List.getD_eq_getElem?_getD, List.getElem?_eq_getElem hy2]
          exact List.getElem_mem hy2)
      cases hx'
      exact hcov.rel hr
    | _ => exact hq.elim
  have aggr : ∀ (q p' : PV) (u : Value), matchA m ks q p' → RelA w (WR m loc wr0) loc p' u → RelA w (wrF wr0 (fun k => loc (ks.getD k 0)) r) (fun k => loc (ks.getD k 0)) (openKV q) u := by
    intro q p' u hq hu
    unfold matchA at hq
    split at hq
    · rename_i rs ps
      obtain ⟨us, rfl, hl, hus⟩ := hu
      obtain ⟨i1, i2⟩ := matchLs_get hq
      refine ⟨us, rfl, by simp; omega, fun i z u hz hui => ?_⟩
      simp only [List.getElem?_map, Option.map_eq_some_iff] at hz
      obtain ⟨z', hz', rfl⟩ := hz
      obtain ⟨p', hp', hmm⟩ := i2 i z' hz'
      obtain ⟨o1, o2⟩ := hus i p' u hp' hui
      exact ⟨o1, leaf z' p' u hmm o2⟩
    · exact hq.elim
    · rename_i hna _
      cases q with
      | agg cs => exact absurd rfl (hna _)
      | c x =>
        refine leaf (.c x) p' u hq ?_
        cases p' <;> first | exact hu | (obtain ⟨⟨_, h1, _⟩, _⟩ := hq; cases h1)
      | fresh k sz xs =>
        obtain ⟨rfl, h2⟩ := hq
        exact leaf (.fresh k sz xs) _ u ⟨rfl, h2⟩ hu
      | _ => exact hq.elim
  refine ⟨?_, fun x hx => ?_, fun x hx y hy hh hh' eg => ?_, List.all_eq_true.2 fun q hq => ?_⟩
  · unfold matchF at hm
    split at hm
    · obtain ⟨us, rfl, hl, hus⟩ := hv
      obtain ⟨i1, i2⟩ := matchAs_get hm
      refine ⟨us, rfl, by simp; omega, fun i z u hz hui => ?_⟩
      simp only [List.getElem?_map, Option.map_eq_some_iff] at hz
      obtain ⟨z', hz', rfl⟩ := hz
      obtain ⟨p', hp', hmm⟩ := i2 i z' hz'
      exact aggr z' p' u hmm (hus i p' u hp' hui)
    · exact hm.elim
    · rename_i hna _
      have e1 : openKF r = openKV r := by cases r <;> first | rfl | exact absurd rfl (hna _)
      have hv' : RelA w (WR m loc wr0) loc p v := by
        cases p with
        | tup ps =>
          exfalso
          cases r <;> simp [matchA, matchL, viewL] at hm
        | _ => exact hv
      have h5 := aggr r p v hm hv'
      rw [e1]
      cases r <;> first | exact h5 | exact absurd rfl (hna _)
  · obtain ⟨h1, h2⟩ := hfresh x hx
    refine ⟨?_, fun hh => ⟨low _ 0 _ h1 hh, (hM.place _ 0 _ h1 hh).1⟩⟩
    obtain ⟨_, r1, r2, r3, r4, r5⟩ := hM.mem _ 0 _ h1
    refine ⟨rfl, r1, r2, r3, r4, fun h0 => ?_⟩
    obtain ⟨a0, arr, T, a1, a2, a3⟩ := r5 h0
    refine ⟨a0, arr, T, a1, a2, fun j i x p hx hp => ?_⟩
    obtain ⟨u, b1, b2, b3⟩ := a3 j i x p hx hp
    exact ⟨u, b1, b2, b3.less hsub⟩
  · obtain ⟨h1, h2⟩ := hfresh x hx
    obtain ⟨h3, h4⟩ := hfresh y hy
    have := hM.inj _ 0 _ _ 0 _ h1 h3 hh hh' eg
    rw [List.getD_eq_getElem?_getD, List.getD_eq_getElem?_getD, List.getElem?_eq_getElem h2, List.getElem?_eq_getElem h4] at this
    simp only [Option.getD_some] at this
    have hp := List.pairwise_iff_getElem.1 hks
    rcases Nat.lt_trichotomy x.1 y.1 with hl | hl | hl
    · exact absurd this (hp _ _ h2 h4 hl)
    · exact hl
    · exact absurd this.symm (hp _ _ h4 h2 hl)
  · obtain ⟨p', hp'⟩ := hleaf q hq
    cases q <;> first | rfl | exact hp'.elim
end
end Go.PM
