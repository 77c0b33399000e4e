/- Functions: from the pure machine to a contract. -/
import Derived.Test.YtmmipinjkbkkmaaPmCode
import Derived.Conc.MuLone
set_option linter.unusedSimpArgs false
set_option linter.unusedVariables false
set_option linter.unusedSectionVars false
set_option linter.unnecessarySimpa false
namespace Go.PM
open Go.RowKit (Below)
variable {P : Program} {E : Env} {w0 : World} {lent wr0 : Nat → Prop} {n : Nat}

def noTup : PV → Option PV
  | .tup _ => none
  | p => some p
def resP (T : Tab) (s : St) : ResultVar → Option PV
  | .tmp t => noTup (s.slot t)
  | .cell a t => onO (T.get t) fun ti => onO (loadRes s.at ti (s.slot a)) fun e => noTup e.val
theorem noTup_some {p q : PV} (h : noTup p = some q) : p = q ∧ ∀ vs, q ≠ .tup vs := by
  unfold noTup at h
  split at h
  · cases h
  · rename_i hn; cases h; exact ⟨rfl, fun vs e => hn vs e⟩
def pack : List PV → PV
  | [p] => p
  | ps => .tup ps

/-- A row of nothing may be handed back as nil, too. -/
def Cov (x y : CV) : Prop := x = y ∨ ∃ sz, x = .ro sz [] ∧ (y = .lit (.slice none 0 0) ∨ y = .z)
theorem Cov.refl (x : CV) : Cov x x := .inl rfl
theorem Cov.nil (sz : Nat) : Cov (.ro sz []) (.lit (.slice none 0 0)) := .inr ⟨sz, rfl, .inl rfl⟩
theorem Cov.z (sz : Nat) : Cov (.ro sz []) .z := .inr ⟨sz, rfl, .inr rfl⟩
theorem Cov.rel {w : World} {wr : Nat → Prop} {x y : CV} (h : Cov x y) {v : Value} (hv : RelC w wr y v) : RelC w wr x v := by
  rcases h with rfl | ⟨sz, rfl, h⟩
  · exact hv
  · have : ∃ A, v = .slice A 0 0 := by
      rcases h with rfl | rfl
      · cases hv; exact ⟨none, rfl⟩
      · cases hv with
        | z A => exact ⟨A, rfl⟩
    obtain ⟨A, rfl⟩ := this
    exact .ro sz [] A 0 (fun _ _ => .bool false) (Nat.le_refl _) (fun _ _ h => by simp at h) (fun h => absurd rfl h) (fun _ _ => rfl) (fun _ _ _ _ h => by simp at h)
/-- Is what stands there what was to be handed back? ks: which rows of one's own are the new ones. -/
def matchL (m : Mem) (ks : List Nat) : PV → PV → Prop
  | .fresh k sz xs, p => p = .own (ks.getD k 0) 0 xs.length ∧ m (ks.getD k 0, 0) = some (.vec true sz xs) ∧ k < ks.length
  | .c x, p => (∃ y, viewL m p = some (.c y) ∧ Cov x y) ∧ (ownL p).all (fun id => !ks.contains id) = true ∧ boxL p = []
  | _, _ => False
def matchLs (m : Mem) (ks : List Nat) : List PV → List PV → Prop
  | [], [] => True
  | r :: rs, p :: ps => matchL m ks r p ∧ matchLs m ks rs ps
  | _, _ => False
def matchA (m : Mem) (ks : List Nat) : PV → PV → Prop
  | .agg rs, .agg ps => matchLs m ks rs ps
  | .agg _, _ => False
  | r, p => matchL m ks r p
def matchAs (m : Mem) (ks : List Nat) : List PV → List PV → Prop
  | [], [] => True
  | r :: rs, p :: ps => matchA m ks r p ∧ matchAs m ks rs ps
  | _, _ => False
def matchF (m : Mem) (ks : List Nat) : PV → PV → Prop
  | .tup rs, .tup ps => matchAs m ks rs ps
  | .tup _, _ => False
  | r, p => matchA m ks r p

def Post.ret (T : Tab) (rs : List ResultVar) (r : PV) : Post
  | .normal, s | .ret, s => Got (mapO (resP T s) rs) fun ps => ∃ ks : List Nat, ks.Nodup ∧ matchF s.at ks r (pack ps)
  | _, _ => False

def startS (vs : List PV) : St := ⟨vs.zipIdx.map fun x => (x.2, x.1), []⟩

theorem start_slot : ∀ (vs : List PV) (k t : Nat), lookS ((vs.zipIdx k).map fun x => (x.2, x.1)) t = if k ≤ t then (vs[t - k]?).getD .undef else .undef
  | [], k, t => by simp [lookS]
  | p :: r, k, t => by
    simp only [List.zipIdx_cons, List.map_cons, lookS]
    split
    · rename_i e; subst e; simp
    · rename_i e
      rw [start_slot r (k + 1) t]
      by_cases h : k ≤ t
      · rw [if_pos (by omega), if_pos h, show t - k = (t - (k + 1)) + 1 by omega]
        rfl
      · rw [if_neg (by omega), if_neg h]

section
variable {m : Mem} {loc : Locs} {w : World}

theorem matchLs_get {ks : List Nat} : ∀ {rs ps : List PV}, matchLs m ks rs ps → rs.length = ps.length ∧ ∀ (i : Nat) (r : PV), rs[i]? = some r → ∃ p, ps[i]? = some p ∧ matchL m ks r p
  | [], [], _ => ⟨rfl, fun i r h => by cases h⟩
  | [], _ :: _, h => h.elim
  | _ :: _, [], h => h.elim
  | r :: rs, p :: ps, ⟨h1, h2⟩ => by
    obtain ⟨i1, i2⟩ := matchLs_get h2
    refine ⟨by simp [i1], fun i q hq => ?_⟩
    cases i with
    | zero => cases hq; exact ⟨p, rfl, h1⟩
    | succ i => exact i2 i q hq
theorem matchAs_get {ks : List Nat} : ∀ {rs ps : List PV}, matchAs m ks rs ps → rs.length = ps.length ∧ ∀ (i : Nat) (r : PV), rs[i]? = some r → ∃ p, ps[i]? = some p ∧ matchA m ks r p
  | [], [], _ => ⟨rfl, fun i r h => by cases h⟩
  | [], _ :: _, h => h.elim
  | _ :: _, [], h => h.elim
  | r :: rs, p :: ps, ⟨h1, h2⟩ => by
    obtain ⟨i1, i2⟩ := matchAs_get h2
    refine ⟨by simp [i1], fun i q hq => ?_⟩
    cases i with
    | zero => cases hq; exact ⟨p, rfl, h1⟩
    | succ i => exact i2 i q hq

theorem matchA_leaves {ks : List Nat} {r p : PV} (h : matchA m ks r p) (hr : ∀ vs, r ≠ .tup vs) : ∀ q ∈ r.leaves, ∃ p', matchL m ks q p' := by
  intro q hq
  unfold matchA at h
  split at h
  · obtain ⟨i, hi⟩ := List.mem_iff_getElem?.1 hq
    obtain ⟨p', _, hm⟩ := (matchLs_get h).2 i q hi
    exact ⟨p', hm⟩
  · exact h.elim
  · rename_i hna _
    have hl : r.leaves = [r] := by
      cases r <;> first | rfl | exact absurd rfl (hna _)
    rw [hl, List.mem_singleton] at hq
    subst hq
    exact ⟨_, h⟩
theorem matchF_leaves {ks : List Nat} {r p : PV} (h : matchF m ks r p) : ∀ q ∈ r.leavesF, ∃ p', matchL m ks q p' := by
  intro q hq
  unfold matchF at h
  split at h
  · obtain ⟨x, hx, hq⟩ := List.mem_flatMap.1 hq
    obtain ⟨i, hi⟩ := List.mem_iff_getElem?.1 hx
    obtain ⟨p', _, hm⟩ := (matchAs_get h).2 i x hi
    refine matchA_leaves hm (fun vs e => ?_) q hq
    subst e
    cases p' <;> exact hm.elim
  · exact h.elim
  · rename_i hna _
    have hl : r.leavesF = r.leaves := by cases r <;> first | rfl | exact absurd rfl (hna _)
    exact matchA_leaves h hna q (hl ▸ hq)

/-- What is handed back is as the contract says. -/
theorem res_ok {w : World} (hM : MInv w0 (fun _ => False) wr0 m loc w) {ks : List Nat} (hks : ks.Nodup) {r p : PV} {v : Value} (hm : matchF m ks r p) (hv : RelV w (WR m loc wr0) loc p v) : ResOk w0 w wr0 (fun k => loc (ks.getD k 0)) r v := by
  have hleaf := matchF_leaves hm
  have hfresh : ∀ x ∈ r.fresh', m (ks.getD x.1 0, 0) = some (.vec true x.2.1 x.2.2) ∧ x.1 < ks.length := by
    intro x hx
    obtain ⟨q, hq, hxq⟩ := List.mem_flatMap.1 hx
    obtain ⟨p', hp'⟩ := hleaf q hq
    unfold freshL at hxq
    split at hxq
    · simp only [List.mem_singleton] at hxq
      subst hxq
      exact ⟨hp'.2.1, hp'.2.2⟩
    · cases hxq
  have hsub : ∀ g, g < w.heap.size → wrF wr0 (fun k => loc (ks.getD k 0)) r g → WR m loc wr0 g := by
    intro g _ hg
    rcases hg with hg | ⟨x, hx, hh, rfl⟩
    · exact .inl hg
    · exact .inr ⟨_, 0, _, (hfresh x hx).1, rfl, hh, rfl⟩
  have low : ∀ id j x, m (id, j) = some x → (loc id).here = true → w0.heap.size ≤ (loc id).g := fun id j x hx hh => by
    rcases (hM.place id j x hx hh).2 with h | h
    · exact h
    · exact h.elim
  have leaf : ∀ (q p' : PV) (u : Value), matchL m ks q p' → RelL w (WR m loc wr0) loc p' u → RelL w (wrF wr0 (fun k => loc (ks.getD k 0)) r) (fun k => loc (ks.getD k 0)) (openKL q) u := by
    intro q p' u hq hu
    cases q with
    | fresh k sz xs =>
      obtain ⟨rfl, hk, _⟩ := hq
      exact hu
    | c x =>
      obtain ⟨⟨y, h1, hcov⟩, h2, h3⟩ := hq
      obtain ⟨x', hx', hr⟩ := viewL_rel hM hu h1 hsub (fun id hid hh hw => by
        rw [h3, List.append_nil] at hid
        obtain ⟨b, sz, xs, hk⟩ := own_key h1 hid
        have hnk : id ∉ ks := by
          have := List.all_eq_true.1 h2 id hid
          simpa using this
        rcases hw with hw | ⟨y, hy, hh', eg⟩
        · have := (hM.wrlt _ hw).1
          have := low id 0 _ hk hh
          omega
        · obtain ⟨hy1, hy2⟩ := hfresh y hy
          have := hM.inj _ 0 _ id 0 _ hy1 hk hh' hh eg
          apply hnk
          rw [← this, List.getD_eq_getElem?_getD, List.getElem?_eq_getElem hy2]
          exact List.getElem_mem hy2)
      cases hx'
      exact hcov.rel hr
    | _ => exact hq.elim
  have aggr : ∀ (q p' : PV) (u : Value), matchA m ks q p' → RelA w (WR m loc wr0) loc p' u → RelA w (wrF wr0 (fun k => loc (ks.getD k 0)) r) (fun k => loc (ks.getD k 0)) (openKV q) u := by
    intro q p' u hq hu
    unfold matchA at hq
    split at hq
    · rename_i rs ps
      obtain ⟨us, rfl, hl, hus⟩ := hu
      obtain ⟨i1, i2⟩ := matchLs_get hq
      refine ⟨us, rfl, by simp; omega, fun i z u hz hui => ?_⟩
      simp only [List.getElem?_map, Option.map_eq_some_iff] at hz
      obtain ⟨z', hz', rfl⟩ := hz
      obtain ⟨p', hp', hmm⟩ := i2 i z' hz'
      obtain ⟨o1, o2⟩ := hus i p' u hp' hui
      exact ⟨o1, leaf z' p' u hmm o2⟩
    · exact hq.elim
    · rename_i hna _
      cases q with
      | agg cs => exact absurd rfl (hna _)
      | c x =>
        refine leaf (.c x) p' u hq ?_
        cases p' <;> first | exact hu | (obtain ⟨⟨_, h1, _⟩, _⟩ := hq; cases h1)
      | fresh k sz xs =>
        obtain ⟨rfl, h2⟩ := hq
        exact leaf (.fresh k sz xs) _ u ⟨rfl, h2⟩ hu
      | _ => exact hq.elim
  refine ⟨?_, fun x hx => ?_, fun x hx y hy hh hh' eg => ?_, List.all_eq_true.2 fun q hq => ?_⟩
  · unfold matchF at hm
    split at hm
    · obtain ⟨us, rfl, hl, hus⟩ := hv
      obtain ⟨i1, i2⟩ := matchAs_get hm
      refine ⟨us, rfl, by simp; omega, fun i z u hz hui => ?_⟩
      simp only [List.getElem?_map, Option.map_eq_some_iff] at hz
      obtain ⟨z', hz', rfl⟩ := hz
      obtain ⟨p', hp', hmm⟩ := i2 i z' hz'
      exact aggr z' p' u hmm (hus i p' u hp' hui)
    · exact hm.elim
    · rename_i hna _
      have e1 : openKF r = openKV r := by cases r <;> first | rfl | exact absurd rfl (hna _)
      have hv' : RelA w (WR m loc wr0) loc p v := by
        cases p with
        | tup ps =>
          exfalso
          cases r <;> simp [matchA, matchL, viewL] at hm
        | _ => exact hv
      have h5 := aggr r p v hm hv'
      rw [e1]
      cases r <;> first | exact h5 | exact absurd rfl (hna _)
  · obtain ⟨h1, h2⟩ := hfresh x hx
    refine ⟨?_, fun hh => ⟨low _ 0 _ h1 hh, (hM.place _ 0 _ h1 hh).1⟩⟩
    obtain ⟨_, r1, r2, r3, r4, r5⟩ := hM.mem _ 0 _ h1
    refine ⟨rfl, r1, r2, r3, r4, fun h0 => ?_⟩
    obtain ⟨a0, arr, T, a1, a2, a3⟩ := r5 h0
    refine ⟨a0, arr, T, a1, a2, fun j i x p hx hp => ?_⟩
    obtain ⟨u, b1, b2, b3⟩ := a3 j i x p hx hp
    exact ⟨u, b1, b2, b3.less hsub⟩
  · obtain ⟨h1, h2⟩ := hfresh x hx
    obtain ⟨h3, h4⟩ := hfresh y hy
    have := hM.inj _ 0 _ _ 0 _ h1 h3 hh hh' eg
    rw [List.getD_eq_getElem?_getD, List.getD_eq_getElem?_getD, List.getElem?_eq_getElem h2, List.getElem?_eq_getElem h4] at this
    simp only [Option.getD_some] at this
    have hp := List.pairwise_iff_getElem.1 hks
    rcases Nat.lt_trichotomy x.1 y.1 with hl | hl | hl
    · exact absurd this (hp _ _ h2 h4 hl)
    · exact hl
    · exact absurd this.symm (hp _ _ h4 h2 hl)
  · obtain ⟨p', hp'⟩ := hleaf q hq
    cases q <;> first | rfl | exact hp'.elim
end
end Go.PM

/- Functions: from the pure machine to a contract. -/
namespace Go.PM
open Go.RowKit (Below)
variable {P : Program} {E : Env} {w0 : World} {lent wr0 : Nat → Prop} {n : Nat}

theorem resP_run {T : Tab} (hT : TabOk P T) {s : St} {loc : Locs} {w : World} {a : Act} (hM : MInv w0 lent wr0 s.at loc w) (hS : SInv w (WR s.at loc wr0) loc s.slot fun t => a.tmps.getD t undef) {x : ResultVar} {p : PV} (h : resP T s x = some p) :
    ∃ v, ((match x with | .tmp t => pure (a.tmps.getD t undef) | .cell ad t => do loadVar t (← asAddr (a.tmps.getD ad undef)) : Sem Value)).run P w = .ok v w ∧ RelV w (WR s.at loc wr0) loc p v ∧ ∀ vs, p ≠ .tup vs := by
  cases x with
  | tmp t => obtain ⟨rfl, hn⟩ := noTup_some h; exact ⟨_, rfl, hS t, hn⟩
  | cell ad t =>
    obtain ⟨ti, ht, h⟩ := onO_eq_some h
    obtain ⟨e, he, h⟩ := onO_eq_some h
    obtain ⟨rfl, hn⟩ := noTup_some h
    let ρ : Operand → Value := a.eval
    have hev : EvOk w (WR s.at loc wr0) loc (evOf s.slot) a.eval := evOk_of hS
    obtain ⟨p', r, he', v, hr, hp⟩ := q_load hev hT hM (o := ⟨none, .load t (.tmp ad), 0, "", #[], none⟩) rfl ht he
    subst he'
    refine ⟨v, ?_, hp, hn⟩
    have hq : RelV w (WR s.at loc wr0) loc (s.slot ad) (a.tmps.getD ad undef) := hS ad
    have hr' : (do let v ← Instr.loadAt t (a.tmps.getD ad undef); pure (Next.value v)).run P w = .ok (.value v) w := hr
    have : ∃ q, a.tmps.getD ad undef = .pointer (some q) := by
      cases hv : a.tmps.getD ad undef with
      | pointer q =>
        cases q with
        | some q => exact ⟨q, rfl⟩
        | none => rw [hv] at hr'; simp [Instr.loadAt, Instr.sureAddr] at hr'
      | _ => rw [hv] at hr'; simp [Instr.loadAt, Instr.sureAddr] at hr'
    obtain ⟨q, hq⟩ := this
    rw [hq] at hr'
    show (do loadVar t (← asAddr (a.tmps.getD ad undef)) : Sem Value).run P w = .ok v w
    rw [hq]
    simp only [Instr.loadAt, Instr.sureAddr, Sem.run_bind, Sem.run_pure, Result.andThen_ok] at hr'
    simp only [asAddr, Sem.run_bind, Sem.run_pure, Result.andThen_ok]
    cases hl : (loadVar t q).run P w with
    | ok u w' => rw [hl] at hr'; simp at hr'; obtain ⟨rfl, rfl⟩ := hr'; rfl
    | halt h w' => rw [hl] at hr'; simp at hr'

theorem results_run {T : Tab} (hT : TabOk P T) {s : St} {loc : Locs} {w : World} {a : Act} (hM : MInv w0 lent wr0 s.at loc w) (hS : SInv w (WR s.at loc wr0) loc s.slot fun t => a.tmps.getD t undef) {fn : Func} {ps : List PV} (h : mapO (resP T s) fn.results.toList = some ps) :
    ∃ v, (results fn a.tmps).run P w = .ok v w ∧ RelV w (WR s.at loc wr0) loc (pack ps) v := by
  have key : ∀ (l : List ResultVar) (ps : List PV), mapO (resP T s) l = some ps → ∃ vs : List Value, (l.mapM fun (x : ResultVar) => ((match x with | .tmp t => pure (a.tmps.getD t undef) | .cell ad t => do loadVar t (← asAddr (a.tmps.getD ad undef)) : Sem Value))).run P w = .ok vs w ∧ vs.length = ps.length ∧
      ∀ (i : Nat) (p : PV) (u : Value), ps[i]? = some p → vs[i]? = some u → RelV w (WR s.at loc wr0) loc p u ∧ ∀ vs, p ≠ .tup vs := by
    intro l
    induction l with
    | nil => intro ps h; cases h; exact ⟨[], rfl, rfl, fun i p u h => by cases h⟩
    | cons x r ih =>
      intro ps h
      obtain ⟨p, hp, h⟩ := onO_eq_some h
      obtain ⟨ps', hps, h⟩ := onO_eq_some h
      cases h
      obtain ⟨v, hv, hr⟩ := resP_run hT hM hS hp
      obtain ⟨vs, h1, h2, h3⟩ := ih _ hps
      refine ⟨v :: vs, ?_, by simp [h2], fun i q u hq hu => ?_⟩
      · rw [List.mapM_cons]
        simp only [Sem.run_bind, hv, Result.andThen_ok, h1]
        rfl
      · cases i with
        | zero => cases hq; cases hu; exact hr
        | succ i => exact h3 i q u hq hu
  obtain ⟨vs, h1, h2, h3⟩ := key _ _ h
  have hm : (fn.results.mapM fun (x : ResultVar) => ((match x with | .tmp t => pure (a.tmps.getD t undef) | .cell ad t => do loadVar t (← asAddr (a.tmps.getD ad undef)) : Sem Value))).run P w = .ok vs.toArray w := by
    rw [Array.mapM_eq_mapM_toList]
    simp only [Sem.run_map, h1]
    rfl
  refine ⟨if h : vs.toArray.size = 1 then vs.toArray[0] else .tuple vs.toArray, ?_, ?_⟩
  · unfold results
    rw [Sem.run_bind]
    exact congrArg (fun r => Result.andThen r _) hm
  · by_cases h1 : vs.length = 1
    · match vs, ps, h1, h2, h3 with
      | [v], [p], _, _, h3 =>
        obtain ⟨hr, hn⟩ := h3 0 p v rfl rfl
        exact hr
    · rw [dif_neg (by simpa using h1)]
      have hpk : pack ps = .tup ps := by
        match ps, h2 with
        | [], _ => rfl
        | [_], h2 => exact absurd h2 h1
        | _ :: _ :: _, _ => rfl
      rw [hpk]
      refine ⟨vs, rfl, h2, fun i p u hp hu => ?_⟩
      obtain ⟨hr, hn⟩ := h3 i p u hp hu
      cases p <;> first | exact hr | exact absurd rfl (hn _)

/-- A function's contract, of the pure machine's walk through it. -/
theorem sound_fun (hE : EnvOk P E) (hmix : P.follows .mixedOrders = true) {f : FuncId} {fn : Func} {c : Code} {vs : List PV} {r : PV} (hf : P.funcs[f]? = some fn) (hname : (fn.name == "runtime.NumGoroutine") = false) (hb : fn.body = some c) (hn : vs.length ≤ fn.ntmps)
    (hok : codeOk fn.ntmps c = true) (h : wpC E c (Post.ret E.T fn.results.toList r) (startS vs)) : SoundAt P f vs r := by
  have hname' : fn.name ≠ "runtime.NumGoroutine" := by simpa using hname
  refine ⟨fun args w => by simp [callFunc, hf, hname', hb], fun w wr args hwr hargs => ?_⟩
  refine calls_of_wp hf hb ?_
  have hsz : args.length = vs.length := hargs.1
  refine wpC_sound (w0 := w) (lent := fun _ => False) (wr0 := wr) (n := fn.ntmps) hE hmix c hok h ?_ ?_
  · have hM0 : MInv w (fun _ => False) wr (startS vs).at (fun _ => ⟨0, 0, 0, false⟩) w :=
      { low := Below.refl _ w, keep := fun _ _ _ => rfl, wrlt := fun g hg => ⟨hwr g hg, fun h => h⟩, mem := fun _ _ _ h => (by cases h), inj := fun _ _ _ _ _ _ h => (by cases h), place := fun _ _ _ h => (by cases h), excl := fun _ _ _ _ _ _ h => (by cases h) }
    refine ⟨rfl, by simp; omega, fun _ => ⟨0, 0, 0, false⟩, hM0, fun t => ?_⟩
    show RelV w _ _ (lookS (vs.zipIdx.map fun x => (x.2, x.1)) t) _
    rw [start_slot vs 0 t, if_pos (Nat.zero_le _), Nat.sub_zero]
    cases hp : vs[t]? with
    | none => trivial
    | some p =>
      have hlt := (List.getElem?_eq_some_iff.1 hp).1
      have hu : args[t]? = some (args[t]'(by omega)) := List.getElem?_eq_getElem _
      obtain ⟨hc, hr⟩ := hargs.2 t p _ hp hu
      have hget : (args.toArray ++ Array.replicate (fn.ntmps - args.toArray.size) undef).getD t undef = args[t]'(by omega) := by
        rw [Array.getD_eq_getD_getElem?, Array.getElem?_append_left (by simp; omega)]
        simp [hu]
      have hr' := (hr fun _ => ⟨0, 0, 0, false⟩).later (wr' := WR (startS vs).at (fun _ => ⟨0, 0, 0, false⟩) wr) (loc' := fun _ => ⟨0, 0, 0, false⟩) (w' := w) ⟨Nat.le_refl _, fun _ _ _ => rfl, fun g _ hg => by
        rcases hg with hg | ⟨_, _, _, h, _⟩
        · exact hg
        · cases h⟩ (fun _ _ => rfl)
      rw [← hget] at hr'
      show RelV w _ _ p _
      cases p <;> first | exact hr' | cases hc
  · intro ex s' a' w' hq hst
    obtain ⟨hd, hsz', loc, hM, hS⟩ := hst
    have fin : (Got (mapO (resP E.T s') fn.results.toList) fun ps => ∃ ks : List Nat, ks.Nodup ∧ matchF s'.at ks r (pack ps)) → a'.defers = [] ∧ ∃ v, (results fn a'.tmps).run P w' = .ok v w' ∧ (Below w.heap.size w w' ∧ ∃ fl, ResOk w w' wr fl r v) := by
      intro hg
      cases hp : mapO (resP E.T s') fn.results.toList with
      | none => rw [hp] at hg; exact hg.elim
      | some ps =>
        rw [hp] at hg
        obtain ⟨ks, hks, hmatch⟩ := hg
        obtain ⟨v, hr, hv⟩ := results_run hE.tab hM hS hp
        refine ⟨hd, v, hr, ⟨hM.low.os, hM.low.tape, hM.low.output, hM.low.size, fun k hk => hM.keep k hk fun h => h⟩, _, res_ok hM hks hmatch hv⟩
    cases ex with
    | normal => exact fin hq
    | ret => exact fin hq
    | exit id => exact hq.elim
    | goto l => exact hq.elim
    | panic ch => exact hq.elim
    | outgrown => exact hq.elim
end Go.PM
