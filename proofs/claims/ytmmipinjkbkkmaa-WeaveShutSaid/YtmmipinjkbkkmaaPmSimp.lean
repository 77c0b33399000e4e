/- The pure machine, reckoned by simp: one equation for each kind of operation and value. -/
import Derived.Test.YtmmipinjkbkkmaaPmFuns
set_option linter.unusedSimpArgs false
set_option linter.unusedVariables false
set_option linter.unusedSectionVars false
set_option linter.unnecessarySimpa false
namespace Go.PM
section
variable (E : Env) (Q : Post) (s : St)
theorem wpC_skip : wpC E .skip Q s = Q .normal s := rfl
theorem wpC_region (id : Nat) (l : List Oper) : wpC E (.region id l.toArray false) Q s = wpOpsP E (l.map (·.dst)) l (Post.reg (E.live id) Q) [] s := rfl
theorem wpC_draw (id : Nat) (l : List Oper) : wpC E (.region id l.toArray true) Q s = wpOpsP E (l.map (·.dst)) l (Post.draw l (E.live id) Q) [] s := rfl
theorem wpC_seq (a b : Code) : wpC E (.seq a b) Q s = wpC E a (Post.seq (wpC E b Q) Q) s := rfl
/-- A loop: an invariant that bears a number, which each round lowers. -/
theorem loop_intro {E : Env} {b : Code} {Q : Post} {s : St} (I : Nat → St → Prop) (n : Nat) (h : I n s) (r : ∀ n s, I n s → wpC E b (Post.round I n Q) s) : wpC E (.loop b) Q s := ⟨I, ⟨n, h⟩, r⟩
theorem wpC_block (id : Nat) (b : Code) : wpC E (.block id b) Q s = wpC E b (Post.blk id Q) s := rfl
theorem wpC_exit (id : Nat) : wpC E (.exit id) Q s = Q (.exit id) s := rfl
theorem wpC_scope (b : Code) : wpC E (.scope b) Q s = wpC E b (Post.scope Q) s := rfl
theorem wpC_label (l : Nat) : wpC E (.label l) Q s = Q .normal s := rfl
theorem wpC_ret : wpC E .ret Q s = Q .ret s := rfl
theorem Post.reg_at (live : Option Live) (a : Acc) : Post.reg live Q a s = Q .normal (s.prune live) := rfl
theorem Post.draw_at (ops : List Oper) (live : Option Live) (a : Acc) : Post.draw ops live Q a s = ((edgesOk ops && pairsOk ops a.reverse) = true ∧ Q .normal (s.prune live)) := rfl
theorem Post.seq_normal (next : St → Prop) : Post.seq next Q .normal s = next s := rfl
theorem Post.seq_exit (next : St → Prop) (i : Nat) : Post.seq next Q (.exit i) s = Q (.exit i) s := rfl
theorem Post.seq_ret (next : St → Prop) : Post.seq next Q .ret s = Q .ret s := rfl
theorem Post.blk_exit (id i : Nat) : Post.blk id Q (.exit i) s = if i = id then Q .normal s else Q (.exit i) s := rfl
theorem Post.blk_normal (id : Nat) : Post.blk id Q .normal s = Q .normal s := rfl
theorem Post.blk_ret (id : Nat) : Post.blk id Q .ret s = Q .ret s := rfl
theorem Post.round_normal (I : Nat → St → Prop) (n : Nat) : Post.round I n Q .normal s = ∃ m, m < n ∧ I m s := rfl
theorem Post.round_exit (I : Nat → St → Prop) (n i : Nat) : Post.round I n Q (.exit i) s = Q (.exit i) s := rfl
theorem Post.round_ret (I : Nat → St → Prop) (n : Nat) : Post.round I n Q .ret s = Q .ret s := rfl
theorem Post.scope_normal : Post.scope Q .normal s = Q .normal s := rfl
theorem Post.scope_exit (i : Nat) : Post.scope Q (.exit i) s = Q (.exit i) s := rfl
theorem Post.scope_ret : Post.scope Q .ret s = Q .ret s := rfl
end
@[congr] theorem Post.reg_congr {l : Option Live} {Q : Post} {a a' : Acc} {s s' : St} (g : a = a') (h : s = s') : Post.reg l Q a s = Post.reg l Q a' s' := by rw [g, h]
@[congr] theorem Post.draw_congr {o : List Oper} {l : Option Live} {Q : Post} {a a' : Acc} {s s' : St} (g : a = a') (h : s = s') : Post.draw o l Q a s = Post.draw o l Q a' s' := by rw [g, h]
@[congr] theorem Post.seq_congr {n : St → Prop} {Q : Post} {e : Exit} {s s' : St} (h : s = s') : Post.seq n Q e s = Post.seq n Q e s' := by rw [h]
@[congr] theorem Post.blk_congr {i : Nat} {Q : Post} {e : Exit} {s s' : St} (h : s = s') : Post.blk i Q e s = Post.blk i Q e s' := by rw [h]
@[congr] theorem Post.round_congr {I : Nat → St → Prop} {n : Nat} {Q : Post} {e : Exit} {s s' : St} (h : s = s') : Post.round I n Q e s = Post.round I n Q e s' := by rw [h]
@[congr] theorem Post.scope_congr {Q : Post} {e : Exit} {s s' : St} (h : s = s') : Post.scope Q e s = Post.scope Q e s' := by rw [h]
/-- Behind an operation, by what it did; s: the state ahead of it; s': the same, the guard's slot known. -/
def opsE (E : Env) (d : List (Option Nat)) (os : List Oper) (K : Acc → St → Prop) (acc : Acc) (s s' : St) (dst : Option Nat) (x : Option Eff) : Prop :=
  Got x fun e => (e.new.all s.clean) = true ∧ wpOpsP E d os K (e.acc :: acc) (s'.app dst e)
def opsG (E : Env) (d : List (Option Nat)) (os : List Oper) (K : Acc → St → Prop) (acc : Acc) (s : St) (o : Oper) (g : Nat) (w : Bool) (p : PV) : Prop :=
  guardW p w (opsE E d os K acc s (s.set g (.c (.lit (.bool w)))) o.dst (doesOp E (s.set g (.c (.lit (.bool w)))) o)) (wpOpsP E d os K (none :: acc) (skipped (s.set g (.c (.lit (.bool (!w))))) o.dst)) (wpOpsP E d os K (none :: acc) (skipped s o.dst))
def condC (E : Env) (x y : Code) (Q : Post) (s : St) (p : PV) : Prop := condW p (wpC E x Q s) (wpC E y Q s)
section
variable (E : Env) (x y : Code) (Q : Post) (s : St)
theorem wpC_cond (c : Operand) : wpC E (.cond c x y) Q s = condC E x y Q s (s.ev c) := rfl
theorem cnd_true : condC E x y Q s (.c (.lit (.bool true))) = wpC E x Q s := Ways_tt _ _
theorem cnd_false : condC E x y Q s (.c (.lit (.bool false))) = wpC E y Q s := Ways_ft _ _
theorem cond_intro {b : Bool} (h : b = true → wpC E x Q s) (h' : b = false → wpC E y Q s) : condC E x y Q s (.c (.lit (.bool b))) := ⟨h, h'⟩
end
section
variable (E : Env) (d : List (Option Nat)) (K : Acc → St → Prop) (acc : Acc) (s : St) (dst : Option Nat) (op : Op) (ty : TypeId) (pos : String) (after : Array Edge) (os : List Oper)
theorem ops_nil : wpOpsP E d [] K acc s = K acc s := rfl
theorem ops_cons : wpOpsP E d (⟨dst, op, ty, pos, after, none⟩ :: os) K acc s = opsE E d os K acc s s dst (doesOp E s ⟨dst, op, ty, pos, after, none⟩) := rfl
theorem ops_guard (j : Nat) (w : Bool) : wpOpsP E d (⟨dst, op, ty, pos, after, some (j, w)⟩ :: os) K acc s = opsG E d os K acc s ⟨dst, op, ty, pos, after, none⟩ (((d[j]?).getD none).getD 0) w (s.slot (((d[j]?).getD none).getD 0)) := rfl
theorem opsE_some (s' : St) (e : Eff) : opsE E d os K acc s s' dst (some e) = ((e.new.all s.clean) = true ∧ wpOpsP E d os K (e.acc :: acc) (s'.app dst e)) := rfl
theorem opsG_tup (o : Oper) (g : Nat) (w : Bool) (l : Array Value) : opsG E d os K acc s o g w (.c (.lit (.tuple l))) = wpOpsP E d os K (none :: acc) (skipped s o.dst) := rfl
theorem opsG_tt (o : Oper) (g : Nat) : opsG E d os K acc s o g true (.c (.lit (.bool true))) = opsE E d os K acc s (s.set g (.c (.lit (.bool true)))) o.dst (doesOp E (s.set g (.c (.lit (.bool true)))) o) := Ways_tt _ _
theorem opsG_ff (o : Oper) (g : Nat) : opsG E d os K acc s o g false (.c (.lit (.bool false))) = opsE E d os K acc s (s.set g (.c (.lit (.bool false)))) o.dst (doesOp E (s.set g (.c (.lit (.bool false)))) o) := Ways_ff _ _
theorem opsG_tf (o : Oper) (g : Nat) : opsG E d os K acc s o g false (.c (.lit (.bool true))) = wpOpsP E d os K (none :: acc) (skipped (s.set g (.c (.lit (.bool true)))) o.dst) := Ways_tf _ _
theorem opsG_ft (o : Oper) (g : Nat) : opsG E d os K acc s o g true (.c (.lit (.bool false))) = wpOpsP E d os K (none :: acc) (skipped (s.set g (.c (.lit (.bool false)))) o.dst) := Ways_ft _ _
/-- The two ways of a guard that is not known. -/
theorem opsG_intro {o : Oper} {g : Nat} {w b : Bool} (h : b = w → opsG E d os K acc s o g w (.c (.lit (.bool w)))) (h' : b = (!w) → opsG E d os K acc s o g w (.c (.lit (.bool (!w))))) : opsG E d os K acc s o g w (.c (.lit (.bool b))) := by
  cases b <;> cases w <;> first | exact h rfl | exact h' rfl
end
section
variable (E : Env) (s : St) (dst : Option Nat) (ty : TypeId) (pos : String) (after : Array Edge) (g : Option (Nat × Bool))
theorem d_move (x : Operand) : doesOp E s ⟨dst, .move x, ty, pos, after, g⟩ = some ⟨s.ev x, [], [], []⟩ := rfl
theorem d_assign (x : Operand) : doesOp E s ⟨dst, .assign x, ty, pos, after, g⟩ = some ⟨s.ev x, [], [], []⟩ := rfl
theorem d_pick (c a b : Operand) : doesOp E s ⟨dst, .pick c a b, ty, pos, after, g⟩ = ofO (pickRes (s.ev c) (s.ev a) (s.ev b)) := rfl
theorem d_alloc (t : TypeId) : doesOp E s ⟨dst, .alloc t, ty, pos, after, g⟩ = onO (E.T.get t) fun ti => some ⟨.ptr (dst.getD 0) 0, wrBox (dst.getD 0) 0 (ti.zero.map litP), [dst.getD 0], []⟩ := rfl
theorem d_box (t : TypeId) (v : Operand) : doesOp E s ⟨dst, .box t v, ty, pos, after, g⟩ = boxRes (dst.getD 0) (s.ev v) := rfl
theorem d_load (t : TypeId) (a : Operand) : doesOp E s ⟨dst, .load t a, ty, pos, after, g⟩ = onO (E.T.get t) fun ti => loadRes s.at ti (s.ev a) := rfl
theorem d_store (t : TypeId) (a v : Operand) : doesOp E s ⟨dst, .store t a v, ty, pos, after, g⟩ = onO (E.T.get t) fun ti => storeRes s.at ti.size (s.ev v) (s.ev a) := rfl
theorem d_nil (x : Operand) : doesOp E s ⟨dst, .nilCheck x, ty, pos, after, g⟩ = ofO (nilRes (s.ev x)) := rfl
theorem d_bin (op : BinOp) (t u : TypeId) (x y : Operand) : doesOp E s ⟨dst, .binOp op t x y u, ty, pos, after, g⟩ = binEff E.T op t (s.ev x) (s.ev y) := rfl
theorem d_un (op : UnOp) (t : TypeId) (x : Operand) : doesOp E s ⟨dst, .unOp op t x, ty, pos, after, g⟩ = ofO (unRes op (s.ev x)) := rfl
theorem d_conv (t u : TypeId) (x : Operand) : doesOp E s ⟨dst, .convert t u x, ty, pos, after, g⟩ = if t = u ∧ u8Sl E.T t = true then constRow s.at (s.ev x) else onO (onO (E.T.get t) fun si => si.kind.intK) fun _ => onO (onO (E.T.get u) fun ti => ti.kind.intK) fun k => ofO (convRes k (s.ev x)) := rfl
theorem d_fieldAddr (t : TypeId) (x : Operand) (f : Nat) : doesOp E s ⟨dst, .fieldAddr t x f, ty, pos, after, g⟩ = onO (E.T.get t) fun ti => ofO (fieldAddrRes ti (s.ev x) f) := rfl
theorem d_field (t : TypeId) (x : Operand) (f : Nat) : doesOp E s ⟨dst, .field t x f, ty, pos, after, g⟩ = onO (E.T.get t) fun ti => onO ti.kind.fields fun fs => onO (fs[f]?) fun y => ofO (partRes (y.2 != 1) y.1 y.2 (s.ev x)) := rfl
theorem d_indexAddr (t : TypeId) (x i : Operand) : doesOp E s ⟨dst, .indexAddr t x i, ty, pos, after, g⟩ = onO (E.T.get t) fun ti => onO (natOf (s.ev i)) fun n => onO (indexRes E.T s.at ti (s.ev x) n) fun p => some ⟨p, [], [], rdO (s.ev x)⟩ := rfl
theorem d_extract (x : Operand) (i : Nat) : doesOp E s ⟨dst, .extract x i, ty, pos, after, g⟩ = ofO (extractRes i (s.ev x)) := rfl
theorem d_build (t : TypeId) (l : List (Nat × Operand)) : doesOp E s ⟨dst, .build t l.toArray, ty, pos, after, g⟩ = onO (E.T.get t) fun ti => onO ti.kind.fields fun fs => onO (fillB fs (ti.zero.map litP) (l.map fun x => (x.1, s.ev x.2))) fun cs => some ⟨.agg cs, [], [], []⟩ := rfl
theorem d_buildSlice (t : TypeId) (len : Nat) (l : List (Nat × Operand)) : doesOp E s ⟨dst, .buildSlice t len l.toArray, ty, pos, after, g⟩ = onO (elemTI E.T t) fun te => builtRes (dst.getD 0) te len (l.map fun x => (x.1, s.ev x.2)) := rfl
theorem d_makeSlice (t : TypeId) (l c : Operand) : doesOp E s ⟨dst, .makeSlice t l c, ty, pos, after, g⟩ = onO (elemTI E.T t) fun te => madeRes (dst.getD 0) te (s.ev l) (s.ev c) := rfl
theorem d_makeFunc (f : FuncId) (l : List Operand) : doesOp E s ⟨dst, .makeFunc (.func f) #[] l.toArray, ty, pos, after, g⟩ = ofO (funcRes f (l.map s.ev)) := rfl
theorem d_slice (t : TypeId) (x : Operand) (lo hi : Option Operand) : doesOp E s ⟨dst, .slice t x lo hi none, ty, pos, after, g⟩ = onO (E.T.get t) fun ti => onO (sliceRes E.T s.at ti (s.ev x) (lo.map s.ev) (hi.map s.ev)) fun p => some ⟨p, [], [], rdO (s.ev x)⟩ := rfl
theorem d_builtin (b : Builtin) (args : List Operand) (ts : List TypeId) : doesOp E s ⟨dst, .call ⟨.builtin b, args.toArray, ts.toArray⟩, ty, pos, after, g⟩ = builtinRes E.T s.at (dst.getD 0) b ts (args.map s.ev) := rfl
theorem d_call (f : Operand) (args : List Operand) (ts : Array TypeId) : doesOp E s ⟨dst, .call ⟨.value f, args.toArray, ts⟩, ty, pos, after, g⟩ = callRes E.S s.at (dst.getD 0) (s.ev f) (args.map s.ev) := rfl
end
section
variable (s : St) (T : Tab) (m : Mem) (d n i sz id off len o : Nat) (ti : TI) (x y p q : PV) (xs : List (List CV)) (cs : List CV) (ps qs : List PV) (k : IntKind) (a b : Int) (u v : Bool)
theorem ev_tmp (t : Nat) : s.ev (.tmp t) = s.slot t := rfl
theorem ev_int (k : IntKind) (n : Int) : s.ev (.const (.int k n)) = .c (.lit (.int k n)) := rfl
theorem ev_bool (b : Bool) : s.ev (.const (.bool b)) = .c (.lit (.bool b)) := rfl
theorem ev_slice (a : Option Addr) (n c : Nat) : s.ev (.const (.slice a n c)) = .c (.lit (.slice a n c)) := rfl
theorem ev_string (b : ByteArray) : s.ev (.const (.string b)) = .c (.lit (.string b)) := rfl
theorem ev_agg (l : List Value) : s.ev (.const (.agg l.toArray)) = if l.all (·.oneCell') = true then .agg (l.map litP) else .undef := rfl
theorem litP_mk (w : Value) : litP w = .c (.lit w) := rfl
theorem ev_func (f : FuncId) : s.ev (.func f) = .c (.lit (.func (.func f) #[] #[])) := rfl
theorem slot_mk (sl : List (Nat × PV)) (mem : List (Key × Option MC)) (t : Nat) : St.slot ⟨sl, mem⟩ t = lookS sl t := rfl
theorem at_mk (sl : List (Nat × PV)) (mem : List (Key × Option MC)) (k : Key) : St.at ⟨sl, mem⟩ k = lookM mem k := rfl
theorem lookS_cons (k : Nat) (v : PV) (r : List (Nat × PV)) (t : Nat) : lookS ((k, v) :: r) t = if k = t then v else lookS r t := rfl
theorem lookS_hit (k : Nat) (v : PV) (r : List (Nat × PV)) : lookS ((k, v) :: r) k = v := if_pos rfl
theorem lookS_nil (t : Nat) : lookS [] t = .undef := rfl
theorem lookM_cons (a b : Nat) (v : Option MC) (r : List (Key × Option MC)) (c d : Nat) : lookM (((a, b), v) :: r) (c, d) = if a = c ∧ b = d then v else lookM r (c, d) := by
  simp only [lookM, Prod.mk.injEq]
theorem lookM_nil (k : Key) : lookM [] k = none := rfl
theorem app_some (sl : List (Nat × PV)) (mem : List (Key × Option MC)) (d : Nat) (v : PV) (wr : List (Key × Option MC)) (n : List Nat) (rd : List Key) : St.app ⟨sl, mem⟩ (some d) ⟨v, wr, n, rd⟩ = ⟨(d, v) :: sl, wr ++ mem⟩ := rfl
theorem app_none (sl : List (Nat × PV)) (mem : List (Key × Option MC)) (v : PV) (wr : List (Key × Option MC)) (n : List Nat) (rd : List Key) : St.app ⟨sl, mem⟩ none ⟨v, wr, n, rd⟩ = ⟨sl, wr ++ mem⟩ := rfl
theorem acc_mk (v : PV) (wr : List (Key × Option MC)) (n : List Nat) (rd : List Key) : Eff.acc ⟨v, wr, n, rd⟩ = some ⟨rd, wr.map (·.1), n, v.refs ++ wr.flatMap fun x => x.1.1 :: MC.refs x.2⟩ := rfl
theorem set_mk (sl : List (Nat × PV)) (mem : List (Key × Option MC)) (t : Nat) (p : PV) : St.set ⟨sl, mem⟩ t p = ⟨(t, p) :: sl, mem⟩ := rfl
theorem skipped_some (sl : List (Nat × PV)) (mem : List (Key × Option MC)) (d : Nat) : skipped ⟨sl, mem⟩ (some d) = ⟨(d, .c (.lit (.tuple #[]))) :: sl, mem⟩ := rfl
theorem skipped_none (sl : List (Nat × PV)) (mem : List (Key × Option MC)) : skipped ⟨sl, mem⟩ none = ⟨sl, mem⟩ := rfl
theorem live_nil (t : Nat) : liveAt [] t = none := rfl
theorem live_cons (k : Nat) (v : Live) (r : List (Nat × Live)) (t : Nat) : liveAt ((k, v) :: r) t = if k = t then some v else liveAt r t := rfl
theorem prune_none : s.prune none = s := rfl
theorem prune_some (l : Live) : s.prune (some l) = s.keep l := rfl
theorem key_beq (a b c e : Nat) : ((a, b) == (c, e)) = (a == c && b == e) := rfl
theorem keep_mk (sl : List (Nat × PV)) (mem : List (Key × Option MC)) (a : List Nat) (b : Ren) (c : Nils) : St.keep ⟨sl, mem⟩ (a, b, c) = if renOk b c = true then ⟨a.map fun t => (t, keepP b c t (lookS sl t)), keepM b (lookM mem) b ++ keepN ⟨sl, mem⟩ c⟩ else ⟨[], []⟩ := rfl
theorem renOk_mk (b : Ren) (c : Nils) : renOk b c = (nodupB (b.map (·.1)) && nodupB (b.map (·.2.1) ++ c.ids)) := rfl
theorem nodupB_nil : nodupB [] = true := rfl
theorem nodupB_cons (x : Nat) (r : List Nat) : nodupB (x :: r) = (!r.contains x && nodupB r) := rfl
theorem renI_nil (t : Nat) : renI [] t = none := rfl
theorem renI_cons (a b n : Nat) (r : Ren) (t : Nat) : renI ((a, b, n) :: r) t = if a = t then some b else renI r t := rfl
theorem keepM_nil (ρ : Ren) (m : Mem) : keepM ρ m [] = [] := rfl
theorem keepM_cons (ρ : Ren) (m : Mem) (a b n : Nat) (r : Ren) : keepM ρ m ((a, b, n) :: r) = keepC ρ m a b 0 n ++ keepM ρ m r := rfl
theorem keepC_0 (ρ : Ren) (m : Mem) (a b i : Nat) : keepC ρ m a b i 0 = [] := rfl
theorem keepC_succ (ρ : Ren) (m : Mem) (a b i n : Nat) : keepC ρ m a b i (n + 1) = keepE ρ b i (keepC ρ m a b (i + 1) n) (m (a, i)) := rfl
theorem keepE_none (ρ : Ren) (b i : Nat) (r : List (Key × Option MC)) : keepE ρ b i r none = r := rfl
theorem keepE_some (ρ : Ren) (b i : Nat) (r : List (Key × Option MC)) (x : MC) : keepE ρ b i r (some x) = ((b, i), some (x.ren ρ)) :: r := rfl
theorem keepP_nil (ρ : Ren) (t : Nat) (p : PV) : keepP ρ [] t p = p.ren ρ := rfl
theorem keepP_cons (ρ : Ren) (u sz : Nat) (b : Option Nat) (r : Nils) (t : Nat) (p : PV) : keepP ρ ((u, b, sz) :: r) t p = if u = t then (if p.isNil = true then nilP sz b else p.ren ρ) else keepP ρ r t p := rfl
theorem nilP_some (sz b : Nat) : nilP sz (some b) = .own b 0 0 := rfl
theorem nilP_none (sz : Nat) : nilP sz none = .c (.ro sz []) := rfl
theorem nilN_some (sz b : Nat) : nilN sz (some b) = [((b, 0), some (.vec true sz []))] := rfl
theorem nilN_none (sz : Nat) : nilN sz none = [] := rfl
theorem ids_nil : Nils.ids [] = [] := rfl
theorem ids_some (u b sz : Nat) (r : Nils) : Nils.ids ((u, some b, sz) :: r) = b :: Nils.ids r := rfl
theorem ids_none (u sz : Nat) (r : Nils) : Nils.ids ((u, none, sz) :: r) = Nils.ids r := rfl
theorem keepN_nil : keepN s [] = [] := rfl
theorem keepN_cons (u sz : Nat) (b : Option Nat) (r : Nils) : keepN s ((u, b, sz) :: r) = if (s.slot u).isNil = true then nilN sz b ++ keepN s r else keepN s r := rfl
theorem isNil_nil : PV.isNil (.c (.lit (.slice none 0 0))) = true := rfl
theorem isNil_z : PV.isNil (.c .z) = true := rfl
theorem isNil_own (id off len : Nat) : PV.isNil (.own id off len) = false := rfl
theorem isNil_ro (sz : Nat) (xs : List (List CV)) : PV.isNil (.c (.ro sz xs)) = false := rfl
section
variable (ρ : Ren) (id off len sz i : Nat) (p : PV) (cs : List PV)
theorem ren_undef : PV.ren ρ .undef = .undef := rfl
theorem ren_c (x : CV) : PV.ren ρ (.c x) = .c x := rfl
theorem ren_roptr (l : List CV) : PV.ren ρ (.roptr l) = .roptr l := rfl
theorem ren_agg : PV.ren ρ (.agg cs) = .agg (PV.ren.renL ρ cs) := rfl
theorem ren_tup : PV.ren ρ (.tup cs) = .tup (PV.ren.renL ρ cs) := rfl
theorem ren_clo (f : FuncId) : PV.ren ρ (.clo f cs) = if (PV.ren.renL ρ cs).all PV.isPtr = true then .clo f (PV.ren.renL ρ cs) else .undef := rfl
theorem ren_own : PV.ren ρ (.own id off len) = orUndef (renI ρ id) fun j => .own j off len := rfl
theorem ren_bsl : PV.ren ρ (.bsl id off sz len) = orUndef (renI ρ id) fun j => .bsl j off sz len := rfl
theorem ren_ptr : PV.ren ρ (.ptr id off) = orUndef (renI ρ id) fun j => .ptr j off := rfl
theorem ren_eptr : PV.ren ρ (.eptr id i off) = orUndef (renI ρ id) fun j => .eptr j i off := rfl
theorem rnL_nil : PV.ren.renL ρ [] = [] := rfl
theorem rnL_cons : PV.ren.renL ρ (p :: cs) = p.ren ρ :: PV.ren.renL ρ cs := rfl
theorem orU_some (j : Nat) (f : Nat → PV) : orUndef (some j) f = f j := rfl
theorem orU_none (f : Nat → PV) : orUndef none f = .undef := rfl
theorem mren_cell : MC.ren ρ (.cell p) = .cell (p.ren ρ) := rfl
theorem mren_vec (b : Bool) (xs : List (List CV)) : MC.ren ρ (.vec b sz xs) = .vec b sz xs := rfl
end
theorem ofO_some : ofO (some x) = some ⟨x, [], [], []⟩ := rfl
theorem ofO_none : ofO none = none := rfl
theorem asBool_lit : PV.asBool (.c (.lit (.bool u))) = some u := rfl
theorem pick_mk : pickRes (.c (.lit (.bool u))) x y = some (if u = true then x else y) := rfl
theorem get_cons (k : TypeId) (v : TI) (r : Tab) (t : TypeId) : Tab.get ((k, v) :: r) t = if k = t then some v else Tab.get r t := rfl
theorem elemTI_mk (t : TypeId) : elemTI T t = onO (T.get t) fun ti => onO ti.kind.elem T.get := rfl
theorem k_fields (fs : List (Nat × Nat)) : TK.fields (.strct fs) = some fs := rfl
theorem k_elem (e : TypeId) : TK.elem (.slice e) = some e := rfl
theorem k_int : TK.intK (.int k) = some k := rfl
theorem agg_strct (fs : List (Nat × Nat)) : TK.agg (.strct fs) = true := rfl
theorem agg_int : TK.agg (.int k) = false := rfl
theorem agg_leaf : TK.agg .leaf = false := rfl
theorem agg_slice (e : TypeId) : TK.agg (.slice e) = false := rfl
theorem agg_arr (e : TypeId) : TK.agg (.arr n e) = true := rfl
theorem fp_ptr : fieldPV o (.ptr id off) = some (.ptr id (off + o)) := rfl
theorem fp_eptr : fieldPV o (.eptr id i off) = some (.eptr id i (off + o)) := rfl
theorem fp_roptr : fieldPV o (.roptr cs) = if o ≤ cs.length then some (.roptr (cs.drop o)) else none := rfl
theorem fa_mk (f : Nat) : fieldAddrRes ti x f = onO ti.kind.fields fun fs => onO (fs[f]?) fun y => fieldPV y.1 x := rfl
theorem part_agg : partRes true o n (.agg ps) = if o + n ≤ ps.length then some (.agg ((ps.drop o).take n)) else none := rfl
theorem part_leaf : partRes false o n (.agg ps) = ps[o]? := rfl
theorem lc_ptr : loadC m (.ptr id off) n = boxC m id off n := rfl
theorem lc_roptr : loadC m (.roptr cs) n = if n ≤ cs.length then some ((cs.take n).map .c) else none := rfl
theorem lc_eptr : loadC m (.eptr id i off) n = onO (vecC m id) fun v => if off + n ≤ v.1 then onO (v.2[i]?) fun el => some (((el.drop off).take n).map .c) else none := rfl
theorem bc_0 : boxC m id off 0 = some [] := rfl
theorem bc_succ : boxC m id off (n + 1) = onO (onO (m (id, off)) MC.asCell) fun p => onO (boxC m id (off + 1) n) fun l => some (p :: l) := rfl
theorem vc_mk : vecC m id = onO (m (id, 0)) MC.asVec := rfl
theorem asCell_mk : MC.asCell (.cell x) = some x := rfl
theorem asVec_mk (w : Bool) : MC.asVec (.vec w sz xs) = some (sz, xs) := rfl
theorem asRow_mk : MC.asRow (.vec true sz xs) = some (sz, xs) := rfl
theorem rc_mk : rowC m id = onO (m (id, 0)) MC.asRow := rfl
theorem kb_0 : keysB id off 0 = [] := rfl
theorem kb_succ : keysB id off (n + 1) = (id, off) :: keysB id (off + 1) n := rfl
theorem rdC_ptr : rdC (.ptr id off) n = keysB id off n := rfl
theorem rdC_eptr : rdC (.eptr id i off) n = [(id, 0)] := rfl
theorem rdC_roptr : rdC (.roptr cs) n = [] := rfl
theorem load_mk : loadRes m ti x = if ti.kind.agg = true then onO (loadC m x ti.size) fun l => some ⟨.agg l, [], [], rdC x ti.size⟩
  else onO (onO (loadC m x 1) one) fun p => some ⟨p, [], [], rdC x 1⟩ := rfl
theorem one_mk : one [x] = some x := rfl
theorem bin_int (op : BinOp) : binRes op (.c (.lit (.int k a))) (.c (.lit (.int k b))) = onO (intRes op k a b) fun v => some (.c (.lit v)) := by simp [binRes]
theorem bin_bool (op : BinOp) : binRes op (.c (.lit (.bool u))) (.c (.lit (.bool v))) = onO (boolRes op u v) fun v => some (.c (.lit v)) := rfl
theorem bin_agg (op : BinOp) (t : TypeId) : binEff T op t (.agg ps) (.agg qs) = onO (T.get t) fun ti => if ti.eq = true ∧ ps.length = ti.size then ofO (onO (eqCells ps qs) (aggRes op)) else none := rfl
theorem bin_i (op : BinOp) (t : TypeId) : binEff T op t (.c (.lit (.int k a))) y = ofO (binRes op (.c (.lit (.int k a))) y) := rfl
theorem bin_b (op : BinOp) (t : TypeId) : binEff T op t (.c (.lit (.bool u))) y = onO (T.get t) fun ti => onO ti.kind.isBool fun _ => ofO (binRes op (.c (.lit (.bool u))) y) := rfl
theorem k_bool : TK.isBool .bool = some () := rfl
theorem agg_bool : TK.agg .bool = false := rfl
theorem ir_add : intRes .add k a b = some (.int k (k.wrap (a + b))) := rfl
theorem ir_sub : intRes .sub k a b = some (.int k (k.wrap (a - b))) := rfl
theorem ir_mul : intRes .mul k a b = some (.int k (k.wrap (a * b))) := rfl
theorem ir_quo : intRes .quo k a b = if b = 0 then none else some (.int k (k.wrap (a.tdiv b))) := rfl
theorem ir_rem : intRes .rem k a b = if b = 0 then none else some (.int k (a.tmod b)) := rfl
theorem ir_eql : intRes .eql k a b = some (.bool (a == b)) := rfl
theorem ir_neq : intRes .neq k a b = some (.bool (a != b)) := rfl
theorem ir_lss : intRes .lss k a b = some (.bool (decide (a < b))) := rfl
theorem ir_leq : intRes .leq k a b = some (.bool (decide (a ≤ b))) := rfl
theorem ir_gtr : intRes .gtr k a b = some (.bool (decide (a > b))) := rfl
theorem ir_geq : intRes .geq k a b = some (.bool (decide (a ≥ b))) := rfl
theorem br_eql : boolRes .eql u v = some (.bool (u == v)) := rfl
theorem br_neq : boolRes .neq u v = some (.bool (!(u == v))) := rfl
theorem ar_eql : aggRes .eql u = some (.c (.lit (.bool u))) := rfl
theorem ar_neq : aggRes .neq u = some (.c (.lit (.bool (!u)))) := rfl
theorem eqc_int : eqCell (.c (.lit (.int k a))) (.c (.lit (.int k b))) = some (a == b) := by simp [eqCell]
theorem eqcs_nil : eqCells [] [] = some true := rfl
theorem eqcs_cons : eqCells (x :: ps) (y :: qs) = onO (eqCell x y) fun t => onO (eqCells ps qs) fun u => some (t && u) := rfl
theorem bin_e (nl : Bool) (op : BinOp) (t : TypeId) : binEff T op t (.c (.e nl)) y = nilEff T op t nl y := rfl
theorem bin_ro (op : BinOp) (t : TypeId) (x0 : List CV) (r0 : List (List CV)) : binEff T op t (.c (.ro sz (x0 :: r0))) y = nilEff T op t false y := rfl
theorem nile_mk (nl : Bool) (t : TypeId) : nilEff T .eql t nl (.c (.lit (.slice none 0 0))) = onO (T.get t) fun ti => onO ti.kind.elem fun _ => some ⟨.c (.lit (.bool nl)), [], [], []⟩ := by simp [nilEff, isNilP, Eff.v]
theorem len_e (nl : Bool) : lenOf (.c (.e nl)) = some 0 := rfl
theorem rows_e (nl : Bool) : rowsOf m sz (.c (.e nl)) = some [] := rfl
theorem ok_e (nl : Bool) : PV.okCell (.c (.e nl)) = true := rfl
theorem u8_mk (t : TypeId) : u8Sl T t = (elemTI T t).any fun te => te.kind.isU8 := by unfold u8Sl; cases elemTI T t <;> rfl
theorem k_elem_int (k : IntKind) : TK.elem (.int k) = none := rfl
theorem isU8_int : TK.isU8 (.int .u8) = true := rfl
theorem isU8_i64 : TK.isU8 (.int .i64) = false := rfl
theorem cr_own : constRow m (.own id off len) = onO (rowC m id) fun v => if off = 0 ∧ len = v.2.length ∧ 0 < len then some ⟨.c (.ro v.1 v.2), [((id, 0), none)], [], [(id, 0)]⟩ else none := rfl
theorem un_not : unRes .not (.c (.lit (.bool u))) = some (.c (.lit (.bool (!u)))) := rfl
theorem un_neg : unRes .neg (.c (.lit (.int k a))) = some (.c (.lit (.int k (k.wrap (0 - a))))) := rfl
theorem conv_int (k' : IntKind) : convRes k (.c (.lit (.int k' a))) = some (.c (.lit (.int k (k.wrap a)))) := rfl
theorem cells_agg : PV.cells (.agg ps) = ps := rfl
theorem cells_c (x : CV) : PV.cells (.c x) = [.c x] := rfl
theorem cells_own : PV.cells (.own id off len) = [.own id off len] := rfl
theorem cells_ptr : PV.cells (.ptr id off) = [.ptr id off] := rfl
theorem cells_undef : PV.cells .undef = [.undef] := rfl
theorem cells_clo (f : FuncId) : PV.cells (.clo f ps) = [.clo f ps] := rfl
theorem boxr_mk : boxRes d x = if x.cells.all PV.okCell = true then some ⟨.ptr d 0, wrBox d 0 x.cells, [d], []⟩ else none := rfl
theorem ok_int : PV.okCell (.c (.lit (.int k a))) = true := rfl
theorem ok_bool : PV.okCell (.c (.lit (.bool u))) = true := rfl
theorem ok_slice (A : Option Addr) (n c : Nat) : PV.okCell (.c (.lit (.slice A n c))) = true := rfl
theorem ok_string (b : ByteArray) : PV.okCell (.c (.lit (.string b))) = true := rfl
theorem ok_ro : PV.okCell (.c (.ro sz xs)) = true := rfl
theorem ok_z : PV.okCell (.c .z) = true := rfl
theorem ok_own : PV.okCell (.own id off len) = true := rfl
theorem ok_ptr : PV.okCell (.ptr id off) = true := rfl
theorem ok_clo (f : FuncId) : PV.okCell (.clo f ps) = true := rfl
theorem wb_nil : wrBox id off [] = [] := rfl
theorem wb_cons : wrBox id off (x :: ps) = ((id, off), some (.cell x)) :: wrBox id (off + 1) ps := rfl
theorem store_ptr : storeRes m n x (.ptr id off) = if x.cells.length = n ∧ 0 < n ∧ x.cells.all PV.okCell = true then onO (boxC m id off n) fun _ => some ⟨.c (.lit (.tuple #[])), wrBox id off x.cells, [], keysB id off n⟩ else none := rfl
theorem store_eptr : storeRes m n x (.eptr id i off) = onO (rowC m id) fun w => onO (w.2[i]?) fun el => onO (mapO PV.asC x.cells) fun cs =>
      if cs.length = n ∧ off + n ≤ w.1 ∧ x.cells.all PV.okCell = true then some ⟨.c (.lit (.tuple #[])), [((id, 0), some (.vec true w.1 (w.2.set i (put el off cs))))], [], [(id, 0)]⟩ else none := rfl
theorem nil_ptr : nilRes (.ptr id off) = some (.ptr id off) := rfl
theorem nil_eptr : nilRes (.eptr id i off) = some (.eptr id i off) := rfl
theorem mo_nil {α β : Type} (f : α → Option β) : mapO f [] = some [] := rfl
theorem mo_cons {α β : Type} (f : α → Option β) (z : α) (r : List α) : mapO f (z :: r) = onO (f z) fun b => onO (mapO f r) fun l => some (b :: l) := rfl
theorem asC_c (x : CV) : PV.asC (.c x) = some x := rfl
theorem natOf_int : natOf (.c (.lit (.int k a))) = if 0 ≤ a then some a.toNat else none := rfl
theorem nato_lit (n : Nat) : natOf (.c (.lit (.int k (OfNat.ofNat n)))) = some n := rfl
theorem len_own : lenOf (.own id off len) = some len := rfl
theorem len_bsl : lenOf (.bsl id off sz len) = some len := rfl
theorem len_ro : lenOf (.c (.ro sz xs)) = some xs.length := rfl
theorem len_z : lenOf (.c .z) = some 0 := rfl
theorem len_nil : lenOf (.c (.lit (.slice none 0 0))) = some 0 := rfl
theorem rows_own : rowsOf m sz (.own id off len) = onO (vecC m id) fun v => if v.1 = sz ∧ off + len ≤ v.2.length then some ((v.2.drop off).take len) else none := rfl
theorem rows_ro : rowsOf m sz (.c (.ro sz xs)) = some xs := if_pos rfl
theorem rows_z : rowsOf m sz (.c .z) = some [] := rfl
theorem rows_nil : rowsOf m sz (.c (.lit (.slice none 0 0))) = some [] := rfl
theorem ap_mk : appendRes ti m d x y = onO (rowsOf m ti.size y) fun ys => appendTo ti m d ys (rdL y) x := rfl
theorem ap_own (ys : List (List CV)) (rd : List Key) : appendTo ti m d ys rd (.own id off len) = onO (rowC m id) fun v =>
      if v.1 = ti.size ∧ off = 0 ∧ len = v.2.length ∧ room ti.bytes (v.2.length + ys.length) = true then
        some ⟨.own d 0 (v.2.length + ys.length), [((d, 0), some (.vec true ti.size (v.2 ++ ys))), ((id, 0), none)], [d], (id, 0) :: rd⟩
      else none := rfl
theorem ap_z (ys : List (List CV)) (rd : List Key) : appendTo ti m d ys rd (.c .z) = if room ti.bytes ys.length = true then some ⟨.own d 0 ys.length, [((d, 0), some (.vec true ti.size ys))], [d], rd⟩ else none := rfl
theorem ap_nil (ys : List (List CV)) (rd : List Key) : appendTo ti m d ys rd (.c (.lit (.slice none 0 0))) = if room ti.bytes ys.length = true then some ⟨.own d 0 ys.length, [((d, 0), some (.vec true ti.size ys))], [d], rd⟩ else none := rfl
theorem cp_mk : copyRes ti m x y = onO (rowsOf m ti.size y) fun ys => copyTo ti m ys (rdL y) x := rfl
theorem cp_own (ys : List (List CV)) (rd : List Key) : copyTo ti m ys rd (.own id off len) = onO (rowC m id) fun v =>
      if v.1 = ti.size ∧ off + len ≤ v.2.length then
        some ⟨.c (.lit (.int .i64 (min ys.length len : Nat))), [((id, 0), some (.vec true ti.size (put v.2 off (ys.take (min ys.length len)))))], [], (id, 0) :: rd⟩
      else none := rfl
theorem rdL_own : rdL (.own id off len) = [(id, 0)] := rfl
theorem rdL_bsl : rdL (.bsl id off sz len) = keysB id off (sz * len) := rfl
theorem rdL_c (x : CV) : rdL (.c x) = [] := rfl
theorem rdV_agg : rdV (.agg ps) = ps.flatMap rdL := rfl
theorem rdV_c (x : CV) : rdV (.c x) = [] := rfl
theorem rdV_own : rdV (.own id off len) = [(id, 0)] := rfl
theorem rdV_bsl : rdV (.bsl id off sz len) = keysB id off (sz * len) := rfl
theorem vl_own : viewL m (.own id off len) = onO (vecC m id) fun v => if off + len ≤ v.2.length then some (.c (.ro v.1 ((v.2.drop off).take len))) else none := rfl
theorem vl_bsl : viewL m (.bsl id off sz len) = if 0 < sz then onO (boxC m id off (sz * len)) fun l => onO (mapO PV.asC l) fun cs => some (.c (.ro sz (chunks sz len cs))) else none := rfl
theorem vl_c (x : CV) : viewL m (.c x) = some (.c x) := rfl
theorem vw_agg : view m (.agg ps) = onO (mapO (viewL m) ps) fun l => some (.agg l) := rfl
theorem vw_c (x : CV) : view m (.c x) = some (.c x) := rfl
theorem vw_own : view m (.own id off len) = onO (vecC m id) fun v => if off + len ≤ v.2.length then some (.c (.ro v.1 ((v.2.drop off).take len))) else none := rfl
theorem vw_bsl : view m (.bsl id off sz len) = if 0 < sz then onO (boxC m id off (sz * len)) fun l => onO (mapO PV.asC l) fun cs => some (.c (.ro sz (chunks sz len cs))) else none := rfl
theorem rdO_own : rdO (.own id off len) = [(id, 0)] := rfl
theorem rdO_c (x : CV) : rdO (.c x) = [] := rfl
theorem rdO_ptr : rdO (.ptr id off) = [] := rfl
theorem rdO_bsl : rdO (.bsl id off sz len) = [] := rfl
theorem ix_sl (e : TypeId) (sz' by' : Nat) (z : List Value) (q' : Bool) : indexRes T m ⟨.slice e, sz', by', z, q'⟩ x i = onO (T.get e) fun te => indexSl m te i x := rfl
theorem ix_arr (e : TypeId) (sz' by' : Nat) (z : List Value) (q' : Bool) : indexRes T m ⟨.arr n e, sz', by', z, q'⟩ x i = onO (T.get e) fun te => indexAr n te.size i x := rfl
theorem is_own : indexSl m ti i (.own id off len) = onO (vecC m id) fun v => if v.1 = ti.size ∧ i < len then some (.eptr id (off + i) 0) else none := rfl
theorem is_bsl : indexSl m ti i (.bsl id off sz len) = if sz = ti.size ∧ i < len then some (.ptr id (off + i * sz)) else none := rfl
theorem is_ro : indexSl m ti i (.c (.ro sz xs)) = if sz = ti.size then onO (xs[i]?) fun el => some (.roptr el) else none := rfl
theorem ia_ptr : indexAr n sz i (.ptr id off) = if i < n then some (.ptr id (off + i * sz)) else none := rfl
theorem sl_sl (e : TypeId) (sz' by' : Nat) (z : List Value) (q' : Bool) (lo hi : Option PV) : sliceRes T m ⟨.slice e, sz', by', z, q'⟩ x lo hi = onO (T.get e) fun te => onO (lenOf x) fun n => onO (boundO hi n) fun h => onO (boundO lo 0) fun l => if l ≤ h ∧ h ≤ n then cutOf m te l h x else none := rfl
theorem sl_arr (e : TypeId) (sz' by' : Nat) (z : List Value) (q' : Bool) (lo hi : Option PV) : sliceRes T m ⟨.arr n e, sz', by', z, q'⟩ x lo hi = onO (T.get e) fun te => onO (boundO hi n) fun h => onO (boundO lo 0) fun l => if l ≤ h ∧ h ≤ n then cutArr te l h x else none := rfl
theorem bo_none : boundO none n = some n := rfl
theorem bo_some : boundO (some x) n = natOf x := rfl
theorem cut_own (l h : Nat) : cutOf m ti l h (.own id off len) = onO (vecC m id) fun v => if v.1 = ti.size then some (.own id (off + l) (h - l)) else none := rfl
theorem cut_ro (l h : Nat) : cutOf m ti l h (.c (.ro sz xs)) = if sz = ti.size then some (.c (.ro sz ((xs.take h).drop l))) else none := rfl
theorem cut_z (l h : Nat) : cutOf m ti l h (.c .z) = some (.c .z) := rfl
theorem cut_nil (l h : Nat) : cutOf m ti l h (.c (.lit (.slice none 0 0))) = some (.c .z) := rfl
theorem cut_arr (l h : Nat) : cutArr ti l h (.ptr id off) = some (.bsl id (off + l * ti.size) ti.size (h - l)) := rfl
theorem ext_tup : extractRes i (.tup ps) = ps[i]? := rfl
theorem best_int (w : Bool) : bestOf w (.c (.lit (.int k a))) (.c (.lit (.int k b))) = some (.c (.lit (.int k (if w = true then (if b > a then b else a) else (if b < a then b else a))))) := if_pos rfl
theorem bi_len (t : TypeId) (ts : List TypeId) : builtinRes T m d .len (t :: ts) [x] = onO (elemTI T t) fun _ => onO (lenOf x) fun n => some ⟨.c (.lit (.int .i64 (n : Nat))), [], [], []⟩ := rfl
theorem bi_min (ts : List TypeId) : builtinRes T m d .min ts [x, y] = ofO (bestOf false x y) := by cases ts <;> rfl
theorem bi_max (ts : List TypeId) : builtinRes T m d .max ts [x, y] = ofO (bestOf true x y) := by cases ts <;> rfl
theorem bi_append (t w : TypeId) : builtinRes T m d .append [t, w] [x, y] = onO (elemTI T t) fun te => onO (T.get w) fun ui => if ui.kind.isInt = true then appendN te m d x y else onO (elemTI T w) fun _ => appendRes te m d x y := rfl
theorem isInt_int (k : IntKind) : TK.isInt (.int k) = true := rfl
theorem isInt_sl (e : TypeId) : TK.isInt (.slice e) = false := rfl
theorem apn_mk : appendN ti m d x y = onO (natOf y) fun n => if ti.size ≠ 0 ∧ room ti.bytes n = true then appendTo ti m d (List.replicate n (ti.zero.map .lit)) [] x else none := rfl
theorem bi_copy (t : TypeId) (ts : List TypeId) : builtinRes T m d .copy (t :: ts) [x, y] = onO (elemTI T t) fun te => copyRes te m x y := rfl
theorem fb_nil (fs : List (Nat × Nat)) : fillB fs ps [] = some ps := rfl
theorem fb_cons (fs : List (Nat × Nat)) (r : List (Nat × PV)) : fillB fs ps ((i, x) :: r) = onO (fs[i]?) fun y => if x.cells.length = y.2 ∧ y.1 + y.2 ≤ ps.length ∧ x.cells.all PV.okCell = true then fillB fs (put ps y.1 x.cells) r else none := rfl
theorem fe_nil : fillE sz xs [] = some xs := rfl
theorem fe_cons (r : List (Nat × PV)) : fillE sz xs ((i, x) :: r) = onO (mapO PV.asC x.cells) fun cs => if cs.length = sz ∧ i < xs.length ∧ x.cells.all PV.okCell = true then fillE sz (xs.set i cs) r else none := rfl
theorem built_mk (r : List (Nat × PV)) : builtRes d ti len r = if ti.size = 0 ∨ len * ti.size > 16777216 then none else onO (fillE ti.size (List.replicate len (ti.zero.map .lit)) r) fun xs =>
    some ⟨.own d 0 len, [((d, 0), some (.vec true ti.size xs))], [d], []⟩ := rfl
theorem made_mk : madeRes d ti x y = onO (natOf x) fun n => onO (natOf y) fun k =>
  if n = k ∧ ti.size ≠ 0 ∧ room ti.bytes n = true then some ⟨.own d 0 n, [((d, 0), some (.vec true ti.size (List.replicate n (ti.zero.map .lit))))], [d], []⟩ else none := rfl
theorem call_mk (S : FuncId → Spec) (f : FuncId) : callRes S m d (.c (.lit (.func (.func f) #[] #[]))) ps = onO (mapO (view m) ps) fun vs => onO (S f vs) fun r => callEff m d ps r := rfl
theorem func_nil (f : FuncId) : funcRes f [] = some (.c (.lit (.func (.func f) #[] #[]))) := rfl
theorem func_cons (f : FuncId) : funcRes f (x :: ps) = if (x :: ps).all PV.isPtr = true then some (.clo f (x :: ps)) else none := rfl
theorem isPtr_mk : PV.isPtr (.ptr id off) = true := rfl
theorem ce_mk (r : PV) : callEff m d ps r = if r.leavesF.all PV.plain = true then
    some ⟨openF d r, (r.leavesF.flatMap freshL).map (fun x => ((fid d x.1, 0), some (.vec true x.2.1 x.2.2))), (r.leavesF.flatMap freshL).map (fun x => fid d x.1), ps.flatMap rdV⟩
  else if ((ps.flatMap PV.leaves).flatMap boxL).isEmpty = true then
    some ⟨openF d r, (r.leavesF.flatMap freshL).map (fun x => ((fid d x.1, 0), some (.vec true x.2.1 x.2.2))) ++ ((ps.flatMap PV.leaves).flatMap ownL).map (freezeW m), (r.leavesF.flatMap freshL).map (fun x => fid d x.1), ps.flatMap rdV⟩
  else none := rfl
theorem fz_mk : freezeW m id = ((id, 0), onO (vecC m id) fun v => some (.vec false v.1 v.2)) := rfl
theorem lvF_tup : PV.leavesF (.tup ps) = ps.flatMap PV.leaves := rfl
theorem lvF_agg : PV.leavesF (.agg ps) = ps := rfl
theorem lvF_c (x : CV) : PV.leavesF (.c x) = [.c x] := rfl
theorem lvF_fresh (k : Nat) : PV.leavesF (.fresh k sz xs) = [.fresh k sz xs] := rfl
theorem lv_agg : PV.leaves (.agg ps) = ps := rfl
theorem lv_c (x : CV) : PV.leaves (.c x) = [.c x] := rfl
theorem lv_own : PV.leaves (.own id off len) = [.own id off len] := rfl
theorem lv_bsl : PV.leaves (.bsl id off sz len) = [.bsl id off sz len] := rfl
theorem lv_fresh (k : Nat) : PV.leaves (.fresh k sz xs) = [.fresh k sz xs] := rfl
theorem pl_lit (w : Value) : PV.plain (.c (.lit w)) = true := rfl
theorem pl_ro : PV.plain (.c (.ro sz xs)) = false := rfl
theorem pl_z : PV.plain (.c .z) = false := rfl
theorem pl_fresh (k : Nat) : PV.plain (.fresh k sz xs) = allLit xs := rfl
theorem fr_fresh (k : Nat) : freshL (.fresh k sz xs) = [(k, sz, xs)] := rfl
theorem fr_c (x : CV) : freshL (.c x) = [] := rfl
theorem bl_bsl : boxL (.bsl id off sz len) = [id] := rfl
theorem bl_own : boxL (.own id off len) = [] := rfl
theorem bl_c (x : CV) : boxL (.c x) = [] := rfl
theorem ol_own : ownL (.own id off len) = [id] := rfl
theorem ol_bsl : ownL (.bsl id off sz len) = [] := rfl
theorem ol_c (x : CV) : ownL (.c x) = [] := rfl
theorem of_tup : openF d (.tup ps) = .tup (ps.map (openV d)) := rfl
theorem of_agg : openF d (.agg ps) = .agg (ps.map (openL d)) := rfl
theorem of_c (x : CV) : openF d (.c x) = .c x := rfl
theorem of_fresh (k : Nat) : openF d (.fresh k sz xs) = .own (fid d k) 0 xs.length := rfl
theorem ov_agg : openV d (.agg ps) = .agg (ps.map (openL d)) := rfl
theorem ov_c (x : CV) : openV d (.c x) = .c x := rfl
theorem ov_fresh (k : Nat) : openV d (.fresh k sz xs) = .own (fid d k) 0 xs.length := rfl
theorem oL_c (x : CV) : openL d (.c x) = .c x := rfl
theorem oL_fresh (k : Nat) : openL d (.fresh k sz xs) = .own (fid d k) 0 xs.length := rfl
theorem fid_mk (k : Nat) : fid d k = 1000 * (d + 1) + k := rfl
theorem clean_mk (sl : List (Nat × PV)) (mem : List (Key × Option MC)) (id : Nat) : St.clean ⟨sl, mem⟩ id = (cleanS id sl && cleanM id mem) := rfl
theorem cs_nil : cleanS id [] = true := rfl
theorem cs_cons (t : Nat) (r : List (Nat × PV)) : cleanS id ((t, x) :: r) = (!x.refs.contains id && cleanS id r) := rfl
theorem cm_nil : cleanM id [] = true := rfl
theorem cm_cons (k j : Nat) (w : Option MC) (r : List (Key × Option MC)) : cleanM id (((k, j), w) :: r) = (!(k == id) && (!(MC.refs w).contains id && cleanM id r)) := rfl
theorem mr_cell : MC.refs (some (.cell x)) = x.refs := rfl
theorem mr_vec (w : Bool) : MC.refs (some (.vec w sz xs)) = [] := rfl
theorem mr_none : MC.refs none = [] := rfl
theorem refs_c (x : CV) : PV.refs (.c x) = [] := rfl
theorem refs_undef : PV.refs .undef = [] := rfl
theorem refs_agg : PV.refs (.agg ps) = PV.refs.refsL ps := rfl
theorem refs_tup : PV.refs (.tup ps) = PV.refs.refsL ps := rfl
theorem refs_clo (f : FuncId) : PV.refs (.clo f ps) = PV.refs.refsL ps := rfl
theorem refs_own : PV.refs (.own id off len) = [id] := rfl
theorem refs_bsl : PV.refs (.bsl id off sz len) = [id] := rfl
theorem refs_ptr : PV.refs (.ptr id off) = [id] := rfl
theorem refs_eptr : PV.refs (.eptr id i off) = [id] := rfl
theorem refs_roptr : PV.refs (.roptr cs) = [] := rfl
theorem rL_nil : PV.refs.refsL [] = [] := rfl
theorem rL_cons : PV.refs.refsL (x :: ps) = x.refs ++ PV.refs.refsL ps := rfl
theorem put_mk {α : Type} (l w : List α) : put l off w = l.take off ++ w ++ l.drop (off + w.length) := rfl
theorem room_mk (by' : Nat) : room by' n = (decide (0 < by') && decide (n * by' ≤ 140737488355328)) := rfl
theorem ret_normal (rs : List ResultVar) (r : PV) : Post.ret T rs r .normal s = Got (mapO (resP T s) rs) fun ps => ∃ ks : List Nat, ks.Nodup ∧ matchF s.at ks r (pack ps) := rfl
theorem ret_ret (rs : List ResultVar) (r : PV) : Post.ret T rs r .ret s = Got (mapO (resP T s) rs) fun ps => ∃ ks : List Nat, ks.Nodup ∧ matchF s.at ks r (pack ps) := rfl
theorem resP_tmp (t : Nat) : resP T s (.tmp t) = noTup (s.slot t) := rfl
theorem resP_cell (a' : Nat) (t : TypeId) : resP T s (.cell a' t) = onO (T.get t) fun ti => onO (loadRes s.at ti (s.slot a')) fun e => noTup e.val := rfl
theorem nt_c (x : CV) : noTup (.c x) = some (.c x) := rfl
theorem nt_own : noTup (.own id off len) = some (.own id off len) := rfl
theorem nt_agg : noTup (.agg ps) = some (.agg ps) := rfl
theorem pack_one : pack [x] = x := rfl
theorem pack_more (y' : PV) : pack (x :: y' :: ps) = .tup (x :: y' :: ps) := rfl
end
end Go.PM
