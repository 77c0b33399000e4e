/- Functions: from the pure machine to a contract. -/
import Derived.Test.YtikenpdhdmbljaaPmFun
set_option linter.unusedSimpArgs false
set_option linter.unusedVariables false
set_option linter.unusedSectionVars false
set_option linter.unnecessarySimpa false
namespace Go.PM
open Go.RowKit (Below)
variable {P : Program} {E : Env} {w0 : World} {lent wr0 : Nat → Prop} {n : Nat}

theorem resP_run {T : Tab} (hT : TabOk P T) {s : St} {loc : Locs} {w : World} {a : Act} (hM : MInv w0 lent wr0 s.at loc w) (hS : SInv w (WR s.at loc wr0) loc s.slot fun t => a.tmps.getD t undef) {x : ResultVar} {p : PV} (h : resP T s x = some p) :
    ∃ v, ((match x with | .tmp t => pure (a.tmps.getD t undef) | .cell ad t => do loadVar t (← asAddr (a.tmps.getD ad undef)) : Sem Value)).run P w = .ok v w ∧ RelV w (WR s.at loc wr0) loc p v ∧ ∀ vs, p ≠ .tup vs := by
  cases x with
  | tmp t => obtain ⟨rfl, hn⟩ := noTup_some h; exact ⟨_, rfl, hS t, hn⟩
  | cell ad t =>
    obtain ⟨ti, ht, h⟩ := onO_eq_some h
    obtain ⟨e, he, h⟩ := onO_eq_some h
    obtain ⟨rfl, hn⟩ := noTup_some h
    let ρ : Operand → Value := a.eval
    have hev : EvOk w (WR s.at loc wr0) loc (evOf s.slot) a.eval := evOk_of hS
    obtain ⟨p', r, he', v, hr, hp⟩ := q_load hev hT hM (o := ⟨none, .load t (.tmp ad), 0, "", #[], none⟩) rfl ht he
    subst he'
    refine ⟨v, ?_, hp, hn⟩
    have hq : RelV w (WR s.at loc wr0) loc (s.slot ad) (a.tmps.getD ad undef) := hS ad
    have hr' : (do let v ← Instr.loadAt t (a.tmps.getD ad undef); pure (Next.value v)).run P w = .ok (.value v) w := hr
    have : ∃ q, a.tmps.getD ad undef = .pointer (some q) := by
      cases hv : a.tmps.getD ad undef with
      | pointer q =>
        cases q with
        | some q => exact ⟨q, rfl⟩
        | none => rw [hv] at hr'; simp [Instr.loadAt, Instr.sureAddr] at hr'
      | _ => rw [hv] at hr'; simp [Instr.loadAt, Instr.sureAddr] at hr'
    obtain ⟨q, hq⟩ := this
    rw [hq] at hr'
    show (do loadVar t (← asAddr (a.tmps.getD ad undef)) : Sem Value).run P w = .ok v w
    rw [hq]
    simp only [Instr.loadAt, Instr.sureAddr, Sem.run_bind, Sem.run_pure, Result.andThen_ok] at hr'
    simp only [asAddr, Sem.run_bind, Sem.run_pure, Result.andThen_ok]
    cases hl : (loadVar t q).run P w with
    | ok u w' => rw [hl] at hr'; simp at hr'; obtain ⟨rfl, rfl⟩ := hr'; rfl
    | halt h w' => rw [hl] at hr'; simp at hr'

theorem results_run {T : Tab} (hT : TabOk P T) {s : St} {loc : Locs} {w : World} {a : Act} (hM : MInv w0 lent wr0 s.at loc w) (hS : SInv w (WR s.at loc wr0) loc s.slot fun t => a.tmps.getD t undef) {fn : Func} {ps : List PV} (h : mapO (resP T s) fn.results.toList = some ps) :
    ∃ v, (results fn a.tmps).run P w = .ok v w ∧ RelV w (WR s.at loc wr0) loc (pack ps) v := by
  have key : ∀ (l : List ResultVar) (ps : List PV), mapO (resP T s) l = some ps → ∃ vs : List Value, (l.mapM fun (x : ResultVar) => ((match x with | .tmp t => pure (a.tmps.getD t undef) | .cell ad t => do loadVar t (← asAddr (a.tmps.getD ad undef)) : Sem Value))).run P w = .ok vs w ∧ vs.length = ps.length ∧
      ∀ (i : Nat) (p : PV) (u : Value), ps[i]? = some p → vs[i]? = some u → RelV w (WR s.at loc wr0) loc p u ∧ ∀ vs, p ≠ .tup vs := by
    intro l
    induction l with
    | nil => intro ps h; cases h; exact ⟨[], rfl, rfl, fun i p u h => by cases h⟩
    | cons x r ih =>
      intro ps h
      obtain ⟨p, hp, h⟩ := onO_eq_some h
      obtain ⟨ps', hps, h⟩ := onO_eq_some h
      cases h
      obtain ⟨v, hv, hr⟩ := resP_run hT hM hS hp
      obtain ⟨vs, h1, h2, h3⟩ := ih _ hps
      refine ⟨v :: vs, ?_, by simp [h2], fun i q u hq hu => ?_⟩
      · rw [List.mapM_cons]
        simp only [Sem.run_bind, hv, Result.andThen_ok, h1]
        rfl
      · cases i with
        | zero => cases hq; cases hu; exact hr
        | succ i => exact h3 i q u hq hu
  obtain ⟨vs, h1, h2, h3⟩ := key _ _ h
  have hm : (fn.results.mapM fun (x : ResultVar) => ((match x with | .tmp t => pure (a.tmps.getD t undef) | .cell ad t => do loadVar t (← asAddr (a.tmps.getD ad undef)) : Sem Value))).run P w = .ok vs.toArray w := by
    rw [Array.mapM_eq_mapM_toList]
    simp only [Sem.run_map, h1]
    rfl
  refine ⟨if h : vs.toArray.size = 1 then vs.toArray[0] else .tuple vs.toArray, ?_, ?_⟩
  · unfold results
    rw [Sem.run_bind]
    exact congrArg (fun r => Result.andThen r _) hm
  · by_cases h1 : vs.length = 1
    · match vs, ps, h1, h2, h3 with
      | [v], [p], _, _, h3 =>
        obtain ⟨hr, hn⟩ := h3 0 p v rfl rfl
        exact hr
    · rw [dif_neg (by simpa using h1)]
      have hpk : pack ps = .tup ps := by
        match ps, h2 with
        | [], _ => rfl
        | [_], h2 => exact absurd h2 h1
        | _ :: _ :: _, _ => rfl
      rw [hpk]
      refine ⟨vs, rfl, h2, fun i p u hp hu => ?_⟩
      obtain ⟨hr, hn⟩ := h3 i p u hp hu
      cases p <;> first | exact hr | exact absurd rfl (hn _)

/-- A function's contract, of the pure machine's walk through it. -/
theorem sound_fun (hE : EnvOk P E) (hmix : P.follows .mixedOrders = true) {f : FuncId} {fn : Func} {c : Code} {vs : List PV} {r : PV} (hf : P.funcs[f]? = some fn) (hname : (fn.name == "runtime.NumGoroutine") = false) (hb : fn.body = some c) (hn : vs.length ≤ fn.ntmps)
    (hok : codeOk fn.ntmps c = true) (h : wpC E c (Post.ret E.T fn.results.toList r) (startS vs)) : SoundAt P f vs r := by
  have hname' : fn.name ≠ "runtime.NumGoroutine" := by simpa using hname
  refine ⟨fun args w => by simp [callFunc, hf, hname', hb], fun w wr args hwr hargs => ?_⟩
  refine calls_of_wp hf hb ?_
  have hsz : args.length = vs.length := hargs.1
  refine wpC_sound (w0 := w) (lent := fun _ => False) (wr0 := wr) (n := fn.ntmps) hE hmix c hok h ?_ ?_
  · have hM0 : MInv w (fun _ => False) wr (startS vs).at (fun _ => ⟨0, 0, 0, false⟩) w :=
      { low := Below.refl _ w, keep := fun _ _ _ => rfl, wrlt := fun g hg => ⟨hwr g hg, fun h => h⟩, mem := fun _ _ _ h => (by cases h), inj := fun _ _ _ _ _ _ h => (by cases h), place := fun _ _ _ h => (by cases h), excl := fun _ _ _ _ _ _ h => (by cases h) }
    refine ⟨rfl, by simp; omega, fun _ => ⟨0, 0, 0, false⟩, hM0, fun t => ?_⟩
    show RelV w _ _ (lookS (vs.zipIdx.map fun x => (x.2, x.1)) t) _
    rw [start_slot vs 0 t, if_pos (Nat.zero_le _), Nat.sub_zero]
    cases hp : vs[t]? with
    | none => trivial
    | some p =>
      have hlt := (List.getElem?_eq_some_iff.1 hp).1
      have hu : args[t]? = some (args[t]'(by omega)) := List.getElem?_eq_getElem _
      obtain ⟨hc, hr⟩ := hargs.2 t p _ hp hu
      have hget : (args.toArray ++ Array.replicate (fn.ntmps - args.toArray.size) undef).getD t undef = args[t]'(by omega) := by
        rw [Array.getD_eq_getD_getElem?, Array.getElem?_append_left (by simp; omega)]
        simp [hu]
      have hr' := (hr fun _ => ⟨0, 0, 0, false⟩).later (wr' := WR (startS vs).at (fun _ => ⟨0, 0, 0, false⟩) wr) (loc' := fun _ => ⟨0, 0, 0, false⟩) (w' := w) ⟨Nat.le_refl _, fun _ _ _ => rfl, fun g _ hg => by
        rcases hg with hg | ⟨_, _, _, h, _⟩
        · exact hg
        · cases h⟩ (fun _ _ => rfl)
      rw [← hget] at hr'
      show RelV w _ _ p _
      cases p <;> first | exact hr' | cases hc
  · intro ex s' a' w' hq hst
    obtain ⟨hd, hsz', loc, hM, hS⟩ := hst
    have fin : (Got (mapO (resP E.T s') fn.results.toList) fun ps => ∃ ks : List Nat, ks.Nodup ∧ matchF s'.at ks r (pack ps)) → a'.defers = [] ∧ ∃ v, (results fn a'.tmps).run P w' = .ok v w' ∧ (Below w.heap.size w w' ∧ ∃ fl, ResOk w w' wr fl r v) := by
      intro hg
      cases hp : mapO (resP E.T s') fn.results.toList with
      | none => rw [hp] at hg; exact hg.elim
      | some ps =>
        rw [hp] at hg
        obtain ⟨ks, hks, hmatch⟩ := hg
        obtain ⟨v, hr, hv⟩ := results_run hE.tab hM hS hp
        refine ⟨hd, v, hr, ⟨hM.low.os, hM.low.tape, hM.low.output, hM.low.size, fun k hk => hM.keep k hk fun h => h⟩, _, res_ok hM hks hmatch hv⟩
    cases ex with
    | normal => exact fin hq
    | ret => exact fin hq
    | exit id => exact hq.elim
    | goto l => exact hq.elim
    | panic ch => exact hq.elim
    | outgrown => exact hq.elim
end Go.PM
