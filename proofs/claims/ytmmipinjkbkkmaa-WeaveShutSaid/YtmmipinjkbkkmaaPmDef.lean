/- The pure machine: values, states, what an operation does, and the weakest precondition over the loaded code on pure states. -/
import Derived.Below
set_option linter.unusedSimpArgs false
set_option linter.unusedVariables false
set_option linter.unusedSectionVars false
set_option linter.unnecessarySimpa false
namespace Go.PM

/-- A closed value: it leads to nothing that may still be written. -/
inductive CV where
  | lit (v : Value)
  | ro (sz : Nat) (xs : List (List CV))
  | z
  | e (nil : Bool)

/-- A value of a frame's slot, or of a cell. -/
inductive PV where
  | undef
  | c (x : CV)
  | agg (cs : List PV)
  | tup (vs : List PV)
  | own (id off len : Nat)
  | bsl (id off sz len : Nat)
  | ptr (id off : Nat)
  | eptr (id i off : Nat)
  | roptr (cs : List CV)
  | clo (f : FuncId) (caps : List PV)
  | fresh (k sz : Nat) (xs : List (List CV))

/-- What a place of memory holds: one cell of a variable, or a whole row (rw: may it still be written?). -/
inductive MC where
  | cell (p : PV)
  | vec (rw : Bool) (sz : Nat) (xs : List (List CV))

abbrev Key := Nat × Nat
abbrev Mem := Key → Option MC

inductive TK where
  | leaf
  | bool
  | int (k : IntKind)
  | strct (fs : List (Nat × Nat))
  | arr (n : Nat) (e : TypeId)
  | slice (e : TypeId)

structure TI where
  kind : TK
  size : Nat
  bytes : Nat
  zero : List Value
  eq : Bool

abbrev Tab := List (TypeId × TI)
def Tab.get : Tab → TypeId → Option TI
  | [], _ => none
  | (k, v) :: r, t => if k = t then some v else Tab.get r t

structure St where
  sl : List (Nat × PV)
  mem : List (Key × Option MC)

def lookS : List (Nat × PV) → Nat → PV
  | [], _ => .undef
  | (k, v) :: r, t => if k = t then v else lookS r t
def lookM : List (Key × Option MC) → Key → Option MC
  | [], _ => none
  | (k, v) :: r, t => if k = t then v else lookM r t

def St.slot (s : St) (t : Nat) : PV := lookS s.sl t
def St.at (s : St) (k : Key) : Option MC := lookM s.mem k

def litP (v : Value) : PV := .c (.lit v)
def constPV : Value → PV
  | .agg cs => if cs.toList.all (·.oneCell') = true then .agg (cs.toList.map litP) else .undef
  | v => .c (.lit v)

def evOf (sl : Nat → PV) : Operand → PV
  | .tmp t => sl t
  | .const v => constPV v
  | .func f => .c (.lit (.func (.func f) #[] #[]))
  | .global _ => .undef
def St.ev (s : St) : Operand → PV := evOf s.slot

/-! What is done where there is something: names that simp does not look behind before it knows. -/
def onO {α β : Type} (o : Option α) (f : α → Option β) : Option β := match o with
  | some a => f a
  | none => none
@[congr] theorem onO_congr {α β : Type} {o o' : Option α} {f : α → Option β} (h : o = o') : onO o f = onO o' f := by rw [h]
theorem onO_some {α β : Type} (a : α) (f : α → Option β) : onO (some a) f = f a := rfl
theorem onO_none {α β : Type} (f : α → Option β) : onO none f = none := rfl
def Got {α : Type} (o : Option α) (f : α → Prop) : Prop := match o with
  | some a => f a
  | none => False
@[congr] theorem Got_congr {α : Type} {o o' : Option α} {f : α → Prop} (h : o = o') : Got o f = Got o' f := by rw [h]
theorem Got_some {α : Type} (a : α) (f : α → Prop) : Got (some a) f = f a := rfl

def mapO {α β : Type} (f : α → Option β) : List α → Option (List β)
  | [] => some []
  | a :: r => onO (f a) fun b => onO (mapO f r) fun l => some (b :: l)

/-- The cells of a value. -/
def PV.cells : PV → List PV
  | .agg cs => cs
  | p => [p]

def PV.asC : PV → Option CV
  | .c x => some x
  | _ => none
def MC.asCell : MC → Option PV
  | .cell p => some p
  | _ => none
def MC.asVec : MC → Option (Nat × List (List CV))
  | .vec _ sz xs => some (sz, xs)
  | _ => none
def MC.asRow : MC → Option (Nat × List (List CV))
  | .vec true sz xs => some (sz, xs)
  | _ => none
def PV.asBool : PV → Option Bool
  | .c (.lit (.bool b)) => some b
  | _ => none
def natOf : PV → Option Nat
  | .c (.lit (.int _ n)) => if 0 ≤ n then some n.toNat else none
  | _ => none

/-- May it lie in a cell? -/
def PV.okCell : PV → Bool
  | .undef => false
  | .c (.lit v) => v.oneCell'
  | .c _ => true
  | .agg _ => false
  | .tup _ => false
  | .fresh _ _ _ => false
  | _ => true

def tupV : PV := .c (.lit (.tuple #[]))

/-- n cells of a variable, from an offset on. -/
def boxC (m : Mem) (id : Nat) : Nat → Nat → Option (List PV)
  | _, 0 => some []
  | off, n + 1 => onO (onO (m (id, off)) MC.asCell) fun p => onO (boxC m id (off + 1) n) fun l => some (p :: l)
def vecC (m : Mem) (id : Nat) : Option (Nat × List (List CV)) := onO (m (id, 0)) MC.asVec
/-- A row that may be written. -/
def rowC (m : Mem) (id : Nat) : Option (Nat × List (List CV)) := onO (m (id, 0)) MC.asRow
def keysB (id : Nat) : Nat → Nat → List Key
  | _, 0 => []
  | off, n + 1 => (id, off) :: keysB id (off + 1) n

/-- n cells, from an address on. -/
def loadC (m : Mem) : PV → Nat → Option (List PV)
  | .ptr id off, n => boxC m id off n
  | .eptr id i off, n => onO (vecC m id) fun v => if off + n ≤ v.1 then onO (v.2[i]?) fun el => some (((el.drop off).take n).map .c) else none
  | .roptr cs, n => if n ≤ cs.length then some ((cs.take n).map .c) else none
  | _, _ => none
def rdC : PV → Nat → List Key
  | .ptr id off, n => keysB id off n
  | .eptr id _ _, _ => [(id, 0)]
  | _, _ => []

def chunks (sz : Nat) : Nat → List CV → List (List CV)
  | 0, _ => []
  | n + 1, l => l.take sz :: chunks sz n (l.drop sz)

/-- A value as a callee sees it: closed. -/
def viewL (m : Mem) : PV → Option PV
  | .own id off len => onO (vecC m id) fun v => if off + len ≤ v.2.length then some (.c (.ro v.1 ((v.2.drop off).take len))) else none
  | .bsl id off sz len => if 0 < sz then onO (boxC m id off (sz * len)) fun l => onO (mapO PV.asC l) fun cs => some (.c (.ro sz (chunks sz len cs))) else none
  | .c x => some (.c x)
  | _ => none
def view (m : Mem) : PV → Option PV
  | .agg cs => onO (mapO (viewL m) cs) fun l => some (.agg l)
  | p => viewL m p
def rdL : PV → List Key
  | .own id _ _ => [(id, 0)]
  | .bsl id off sz len => keysB id off (sz * len)
  | _ => []
def rdV : PV → List Key
  | .agg cs => cs.flatMap rdL
  | p => rdL p

/-- What an operation does: its value, what it writes, what it makes, what it read. -/
structure Eff where
  val : PV
  wr : List (Key × Option MC)
  new : List Nat
  rd : List Key

def Eff.v (p : PV) : Eff := ⟨p, [], [], []⟩
def ofO (p : Option PV) : Option Eff := onO p fun v => some (.v v)

def intRes (op : BinOp) (k : IntKind) (a b : Int) : Option Value :=
  match op with
  | .add => some (.int k (k.wrap (a + b)))
  | .sub => some (.int k (k.wrap (a - b)))
  | .mul => some (.int k (k.wrap (a * b)))
  | .quo => if b = 0 then none else some (.int k (k.wrap (a.tdiv b)))
  | .rem => if b = 0 then none else some (.int k (a.tmod b))
  | .eql => some (.bool (a == b))
  | .neq => some (.bool (a != b))
  | .lss => some (.bool (decide (a < b)))
  | .leq => some (.bool (decide (a ≤ b)))
  | .gtr => some (.bool (decide (a > b)))
  | .geq => some (.bool (decide (a ≥ b)))
  | _ => none
def boolRes (op : BinOp) (a b : Bool) : Option Value :=
  match op with
  | .eql => some (.bool (a == b))
  | .neq => some (.bool (!(a == b)))
  | _ => none
/-- Cells of whole numbers, compared. -/
def eqCell : PV → PV → Option Bool
  | .c (.lit (.int k a)), .c (.lit (.int k' b)) => if k = k' then some (a == b) else none
  | _, _ => none
def eqCells : List PV → List PV → Option Bool
  | [], [] => some true
  | a :: r, b :: q => onO (eqCell a b) fun t => onO (eqCells r q) fun u => some (t && u)
  | _, _ => none
def aggRes (op : BinOp) (t : Bool) : Option PV :=
  match op with
  | .eql => some (.c (.lit (.bool t)))
  | .neq => some (.c (.lit (.bool (!t))))
  | _ => none

def binRes (op : BinOp) (x y : PV) : Option PV :=
  match x, y with
  | .c (.lit (.int k a)), .c (.lit (.int k' b)) => if k = k' then onO (intRes op k a b) fun v => some (.c (.lit v)) else none
  | .c (.lit (.bool a)), .c (.lit (.bool b)) => onO (boolRes op a b) fun v => some (.c (.lit v))
  | _, _ => none
def aggEq (op : BinOp) (x y : PV) : Option PV := match x, y with
  | .agg xs, .agg ys => onO (eqCells xs ys) (aggRes op)
  | _, _ => none
def TK.isBool : TK → Option Unit
  | .bool => some ()
  | _ => none
def TK.elem : TK → Option TypeId
  | .slice e => some e
  | _ => none
def isNilP : PV → Bool
  | .c (.lit (.slice none 0 0)) => true
  | _ => false
/-- A slice against nil. -/
def nilEff (T : Tab) (op : BinOp) (t : TypeId) (b : Bool) (y : PV) : Option Eff :=
  if op = .eql ∧ isNilP y = true then (onO (T.get t) fun ti => onO ti.kind.elem fun _ => some (.v (.c (.lit (.bool b))))) else none
def binEff (T : Tab) (op : BinOp) (t : TypeId) (x y : PV) : Option Eff := match x with
  | .agg xs => onO (T.get t) fun ti => if ti.eq = true ∧ xs.length = ti.size then ofO (aggEq op x y) else none
  | .c (.lit (.bool _)) => onO (T.get t) fun ti => onO ti.kind.isBool fun _ => ofO (binRes op x y)
  | .c (.e b) => nilEff T op t b y
  | .c (.ro _ (_ :: _)) => nilEff T op t false y
  | _ => ofO (binRes op x y)

def unRes (op : UnOp) (x : PV) : Option PV :=
  match op, x with
  | .not, .c (.lit (.bool b)) => some (.c (.lit (.bool (!b))))
  | .neg, .c (.lit (.int k a)) => some (.c (.lit (.int k (k.wrap (0 - a)))))
  | _, _ => none

def put {α : Type} (l : List α) (off : Nat) (vs : List α) : List α := l.take off ++ vs ++ l.drop (off + vs.length)

def wrBox (id : Nat) : Nat → List PV → List (Key × Option MC)
  | _, [] => []
  | off, p :: r => ((id, off), some (.cell p)) :: wrBox id (off + 1) r

def lenOf : PV → Option Nat
  | .own _ _ len => some len
  | .bsl _ _ _ len => some len
  | .c (.ro _ xs) => some xs.length
  | .c .z => some 0
  | .c (.e _) => some 0
  | .c (.lit (.slice none 0 0)) => some 0
  | _ => none

/-- What is appended, or copied: rows of closed cells. -/
def rowsOf (m : Mem) (sz : Nat) : PV → Option (List (List CV))
  | .own id off len => onO (vecC m id) fun v => if v.1 = sz ∧ off + len ≤ v.2.length then some ((v.2.drop off).take len) else none
  | .c (.ro sz' xs) => if sz' = sz then some xs else none
  | .c .z => some []
  | .c (.e _) => some []
  | .c (.lit (.slice none 0 0)) => some []
  | _ => none

def room (bytes n : Nat) : Bool := decide (0 < bytes) && decide (n * bytes ≤ 140737488355328)

def appendTo (ti : TI) (m : Mem) (d : Nat) (ys : List (List CV)) (rd : List Key) : PV → Option Eff
  | .own id off len => onO (rowC m id) fun v =>
      if v.1 = ti.size ∧ off = 0 ∧ len = v.2.length ∧ room ti.bytes (v.2.length + ys.length) = true then
        some ⟨.own d 0 (v.2.length + ys.length), [((d, 0), some (.vec true ti.size (v.2 ++ ys))), ((id, 0), none)], [d], (id, 0) :: rd⟩
      else none
  | .c .z => if room ti.bytes ys.length = true then some ⟨.own d 0 ys.length, [((d, 0), some (.vec true ti.size ys))], [d], rd⟩ else none
  | .c (.lit (.slice none 0 0)) => if room ti.bytes ys.length = true then some ⟨.own d 0 ys.length, [((d, 0), some (.vec true ti.size ys))], [d], rd⟩ else none
  | _ => none
def appendRes (ti : TI) (m : Mem) (d : Nat) (s x : PV) : Option Eff := onO (rowsOf m ti.size x) fun ys => appendTo ti m d ys (rdL x) s

def appendN (ti : TI) (m : Mem) (d : Nat) (s x : PV) : Option Eff := onO (natOf x) fun n => if ti.size ≠ 0 ∧ room ti.bytes n = true then appendTo ti m d (List.replicate n (ti.zero.map .lit)) [] s else none
def TK.isInt : TK → Bool
  | .int _ => true
  | _ => false

def copyTo (ti : TI) (m : Mem) (ys : List (List CV)) (rd : List Key) : PV → Option Eff
  | .own id off len => onO (rowC m id) fun v =>
      if v.1 = ti.size ∧ off + len ≤ v.2.length then
        some ⟨.c (.lit (.int .i64 (min ys.length len : Nat))), [((id, 0), some (.vec true ti.size (put v.2 off (ys.take (min ys.length len)))))], [], (id, 0) :: rd⟩
      else none
  | _ => none
def copyRes (ti : TI) (m : Mem) (dst x : PV) : Option Eff := onO (rowsOf m ti.size x) fun ys => copyTo ti m ys (rdL x) dst

def boundO (p : Option PV) (n : Nat) : Option Nat := match p with
  | some v => natOf v
  | none => some n

def rdO : PV → List Key
  | .own id _ _ => [(id, 0)]
  | _ => []
def cutOf (m : Mem) (te : TI) (l h : Nat) : PV → Option PV
  | .own id off _ => onO (vecC m id) fun v => if v.1 = te.size then some (.own id (off + l) (h - l)) else none
  | .c (.ro sz xs) => if sz = te.size then some (.c (.ro sz ((xs.take h).drop l))) else none
  | .c .z => some (.c .z)
  | .c (.lit (.slice none 0 0)) => some (.c .z)
  | _ => none
def cutArr (te : TI) (l h : Nat) : PV → Option PV
  | .ptr id off => some (.bsl id (off + l * te.size) te.size (h - l))
  | _ => none
def sliceRes (T : Tab) (m : Mem) (ti : TI) (x : PV) (lo hi : Option PV) : Option PV :=
  match ti.kind with
  | .slice e => onO (T.get e) fun te => onO (lenOf x) fun n => onO (boundO hi n) fun h => onO (boundO lo 0) fun l => if l ≤ h ∧ h ≤ n then cutOf m te l h x else none
  | .arr n e => onO (T.get e) fun te => onO (boundO hi n) fun h => onO (boundO lo 0) fun l => if l ≤ h ∧ h ≤ n then cutArr te l h x else none
  | _ => none

def indexSl (m : Mem) (te : TI) (i : Nat) : PV → Option PV
  | .own id off len => onO (vecC m id) fun v => if v.1 = te.size ∧ i < len then some (.eptr id (off + i) 0) else none
  | .bsl id off sz len => if sz = te.size ∧ i < len then some (.ptr id (off + i * sz)) else none
  | .c (.ro sz xs) => if sz = te.size then onO (xs[i]?) fun el => some (.roptr el) else none
  | _ => none
def indexAr (n sz i : Nat) : PV → Option PV
  | .ptr id off => if i < n then some (.ptr id (off + i * sz)) else none
  | _ => none
def indexRes (T : Tab) (m : Mem) (ti : TI) (x : PV) (i : Nat) : Option PV :=
  match ti.kind with
  | .slice e => onO (T.get e) fun te => indexSl m te i x
  | .arr n e => onO (T.get e) fun te => indexAr n te.size i x
  | _ => none

def TK.fields : TK → Option (List (Nat × Nat))
  | .strct fs => some fs
  | _ => none
def TK.intK : TK → Option IntKind
  | .int k => some k
  | _ => none
def TK.agg : TK → Bool
  | .strct _ => true
  | .arr _ _ => true
  | _ => false
def elemTI (T : Tab) (t : TypeId) : Option TI := onO (T.get t) fun ti => onO ti.kind.elem T.get

def fieldPV (o : Nat) : PV → Option PV
  | .ptr id off => some (.ptr id (off + o))
  | .eptr id i off => some (.eptr id i (off + o))
  | .roptr cs => if o ≤ cs.length then some (.roptr (cs.drop o)) else none
  | _ => none
def fieldAddrRes (ti : TI) (x : PV) (f : Nat) : Option PV := onO ti.kind.fields fun fs => onO (fs[f]?) fun y => fieldPV y.1 x
def partRes (agg : Bool) (o n : Nat) : PV → Option PV
  | .agg cs => if agg then (if o + n ≤ cs.length then some (.agg ((cs.drop o).take n)) else none) else cs[o]?
  | _ => none

def fillB (fs : List (Nat × Nat)) : List PV → List (Nat × PV) → Option (List PV)
  | cs, [] => some cs
  | cs, (i, v) :: r => onO (fs[i]?) fun y => if v.cells.length = y.2 ∧ y.1 + y.2 ≤ cs.length ∧ v.cells.all PV.okCell = true then fillB fs (put cs y.1 v.cells) r else none
def fillE (sz : Nat) : List (List CV) → List (Nat × PV) → Option (List (List CV))
  | xs, [] => some xs
  | xs, (i, v) :: r => onO (mapO PV.asC v.cells) fun cs => if cs.length = sz ∧ i < xs.length ∧ v.cells.all PV.okCell = true then fillE sz (xs.set i cs) r else none

def extractRes (i : Nat) : PV → Option PV
  | .tup vs => vs[i]?
  | _ => none
def pickRes (c a b : PV) : Option PV := onO c.asBool fun t => some (if t = true then a else b)

def bestOf (big : Bool) : PV → PV → Option PV
  | .c (.lit (.int k a)), .c (.lit (.int k' b)) => if k = k' then some (.c (.lit (.int k (if big = true then (if b > a then b else a) else (if b < a then b else a))))) else none
  | _, _ => none

def storeRes (m : Mem) (n : Nat) (v : PV) : PV → Option Eff
  | .ptr id off => if v.cells.length = n ∧ 0 < n ∧ v.cells.all PV.okCell = true then onO (boxC m id off n) fun _ => some ⟨tupV, wrBox id off v.cells, [], keysB id off n⟩ else none
  | .eptr id i off => onO (rowC m id) fun w => onO (w.2[i]?) fun el => onO (mapO PV.asC v.cells) fun cs =>
      if cs.length = n ∧ off + n ≤ w.1 ∧ v.cells.all PV.okCell = true then some ⟨tupV, [((id, 0), some (.vec true w.1 (w.2.set i (put el off cs))))], [], [(id, 0)]⟩ else none
  | _ => none

def nilRes : PV → Option PV
  | .ptr id off => some (.ptr id off)
  | .eptr id i off => some (.eptr id i off)
  | .roptr cs => some (.roptr cs)
  | _ => none
def convRes (k : IntKind) : PV → Option PV
  | .c (.lit (.int _ n)) => some (.c (.lit (.int k (k.wrap n))))
  | _ => none
def one : List PV → Option PV
  | [p] => some p
  | _ => none
def loadRes (m : Mem) (ti : TI) (a : PV) : Option Eff :=
  if ti.kind.agg = true then onO (loadC m a ti.size) fun l => some ⟨.agg l, [], [], rdC a ti.size⟩
  else onO (onO (loadC m a 1) one) fun p => some ⟨p, [], [], rdC a 1⟩
def boxRes (d : Nat) (v : PV) : Option Eff := if v.cells.all PV.okCell = true then some ⟨.ptr d 0, wrBox d 0 v.cells, [d], []⟩ else none
def PV.isPtr : PV → Bool
  | .ptr _ _ => true
  | _ => false
def funcRes (f : FuncId) (caps : List PV) : Option PV := match caps with
  | [] => some (.c (.lit (.func (.func f) #[] #[])))
  | _ => if caps.all PV.isPtr = true then some (.clo f caps) else none
def builtRes (d : Nat) (te : TI) (len : Nat) (ps : List (Nat × PV)) : Option Eff :=
  if te.size = 0 ∨ len * te.size > 16777216 then none else onO (fillE te.size (List.replicate len (te.zero.map .lit)) ps) fun xs =>
    some ⟨.own d 0 len, [((d, 0), some (.vec true te.size xs))], [d], []⟩
def madeRes (d : Nat) (te : TI) (l c : PV) : Option Eff := onO (natOf l) fun n => onO (natOf c) fun k =>
  if n = k ∧ te.size ≠ 0 ∧ room te.bytes n = true then some ⟨.own d 0 n, [((d, 0), some (.vec true te.size (List.replicate n (te.zero.map .lit))))], [d], []⟩ else none

def TK.isU8 : TK → Bool
  | .int k => decide (k = .u8)
  | _ => false
def u8Sl (T : Tab) (t : TypeId) : Bool := match elemTI T t with
  | some te => te.kind.isU8
  | none => false
/-- A constant's row: it is read from now on. -/
def constRow (m : Mem) : PV → Option Eff
  | .own id off len => onO (rowC m id) fun v => if off = 0 ∧ len = v.2.length ∧ 0 < len then some ⟨.c (.ro v.1 v.2), [((id, 0), none)], [], [(id, 0)]⟩ else none
  | _ => none

def builtinRes (T : Tab) (m : Mem) (d : Nat) (b : Builtin) (ts : List TypeId) (as : List PV) : Option Eff :=
  match b, as, ts with
  | .len, [x], t :: _ => onO (elemTI T t) fun _ => onO (lenOf x) fun n => some (.v (.c (.lit (.int .i64 (n : Nat)))))
  | .min, [x, y], _ => ofO (bestOf false x y)
  | .max, [x, y], _ => ofO (bestOf true x y)
  | .append, [s, x], [t, u] => onO (elemTI T t) fun te => onO (T.get u) fun ui => if ui.kind.isInt = true then appendN te m d s x else onO (elemTI T u) fun _ => appendRes te m d s x
  | .copy, [s, x], t :: _ => onO (elemTI T t) fun te => copyRes te m s x
  | _, _, _ => none

/-- A contract: what a function is known to hand back, of closed arguments. -/
abbrev Spec := List PV → Option PV

/-! What is kept behind a region: which slots; which ids, under which new name, and how many cells of them; which slots that hold nil are rows of length 0: the slot; the row's id, if it is one of one's own; its element's cells. -/
abbrev Ren := List (Nat × Nat × Nat)
abbrev Nils := List (Nat × Option Nat × Nat)
abbrev Live := List Nat × Ren × Nils
def liveAt : List (Nat × Live) → Nat → Option Live
  | [], _ => none
  | (k, v) :: r, t => if k = t then some v else liveAt r t

structure Env where
  T : Tab
  S : FuncId → Spec
  live : Nat → Option Live

/-! A result's fresh rows become rows of one's own. -/
def fid (d k : Nat) : Nat := 1000 * (d + 1) + k
def openL (d : Nat) : PV → PV
  | .fresh k _ xs => .own (fid d k) 0 xs.length
  | p => p
def openV (d : Nat) : PV → PV
  | .agg cs => .agg (cs.map (openL d))
  | p => openL d p
def openF (d : Nat) : PV → PV
  | .tup vs => .tup (vs.map (openV d))
  | p => openV d p
def PV.leaves : PV → List PV
  | .agg cs => cs
  | p => [p]
def PV.leavesF : PV → List PV
  | .tup vs => vs.flatMap PV.leaves
  | p => p.leaves
def freshL : PV → List (Nat × Nat × List (List CV))
  | .fresh k sz xs => [(k, sz, xs)]
  | _ => []
def CV.plain : CV → Bool
  | .lit _ => true
  | .z => false
  | .e _ => false
  | .ro _ _ => false
def allLit (xs : List (List CV)) : Bool := xs.all fun x => x.all CV.plain
def PV.plain : PV → Bool
  | .c x => x.plain
  | .fresh _ _ xs => allLit xs
  | _ => false
def ownL : PV → List Nat
  | .own id _ _ => [id]
  | _ => []
def boxL : PV → List Nat
  | .bsl id _ _ _ => [id]
  | _ => []

def freezeW (m : Mem) (id : Nat) : Key × Option MC := ((id, 0), onO (vecC m id) fun v => some (.vec false v.1 v.2))
def callEff (m : Mem) (d : Nat) (as : List PV) (r : PV) : Option Eff :=
  if r.leavesF.all PV.plain = true then
    some ⟨openF d r, (r.leavesF.flatMap freshL).map (fun x => ((fid d x.1, 0), some (.vec true x.2.1 x.2.2))), (r.leavesF.flatMap freshL).map (fun x => fid d x.1), as.flatMap rdV⟩
  else if ((as.flatMap PV.leaves).flatMap boxL).isEmpty = true then
    some ⟨openF d r, (r.leavesF.flatMap freshL).map (fun x => ((fid d x.1, 0), some (.vec true x.2.1 x.2.2))) ++ ((as.flatMap PV.leaves).flatMap ownL).map (freezeW m), (r.leavesF.flatMap freshL).map (fun x => fid d x.1), as.flatMap rdV⟩
  else none

def asFunc : PV → Option FuncId
  | .c (.lit (.func (.func g) first captured)) => if first.size = 0 ∧ captured.size = 0 then some g else none
  | _ => none
def callRes (S : FuncId → Spec) (m : Mem) (d : Nat) (f : PV) (as : List PV) : Option Eff :=
  onO (asFunc f) fun g => onO (mapO (view m) as) fun vs => onO (S g vs) fun r => callEff m d as r

/-- What an operation does. d: the slot that it writes. -/
def evalOp (T : Tab) (S : FuncId → Spec) (ev : Operand → PV) (m : Mem) (d : Nat) (op : Op) : Option Eff :=
  match op with
  | .move x => some (.v (ev x))
  | .assign x => some (.v (ev x))
  | .pick c a b => ofO (pickRes (ev c) (ev a) (ev b))
  | .alloc t => onO (T.get t) fun ti => some ⟨.ptr d 0, wrBox d 0 (ti.zero.map litP), [d], []⟩
  | .box _ v => boxRes d (ev v)
  | .build t parts => onO (T.get t) fun ti => onO ti.kind.fields fun fs => onO (fillB fs (ti.zero.map litP) (parts.toList.map fun x => (x.1, ev x.2))) fun cs => some (.v (.agg cs))
  | .buildSlice t len parts => onO (elemTI T t) fun te => builtRes d te len (parts.toList.map fun x => (x.1, ev x.2))
  | .load t a => onO (T.get t) fun ti => loadRes m ti (ev a)
  | .store t a v => onO (T.get t) fun ti => storeRes m ti.size (ev v) (ev a)
  | .nilCheck x => ofO (nilRes (ev x))
  | .binOp op t x y _ => binEff T op t (ev x) (ev y)
  | .unOp op _ x => ofO (unRes op (ev x))
  | .convert s t x => if s = t ∧ u8Sl T s = true then constRow m (ev x) else onO (onO (T.get s) fun si => si.kind.intK) fun _ => onO (onO (T.get t) fun ti => ti.kind.intK) fun k => ofO (convRes k (ev x))
  | .makeFunc (.func f) first captured => if first.size = 0 then ofO (funcRes f (captured.toList.map ev)) else none
  | .makeSlice t l c => onO (elemTI T t) fun te => madeRes d te (ev l) (ev c)
  | .slice t x lo hi none => onO (T.get t) fun ti => onO (sliceRes T m ti (ev x) (lo.map ev) (hi.map ev)) fun p => some ⟨p, [], [], rdO (ev x)⟩
  | .fieldAddr t x f => onO (T.get t) fun ti => ofO (fieldAddrRes ti (ev x) f)
  | .field t x f => onO (T.get t) fun ti => onO ti.kind.fields fun fs => onO (fs[f]?) fun y => ofO (partRes (y.2 != 1) y.1 y.2 (ev x))
  | .indexAddr t x i => onO (T.get t) fun ti => onO (natOf (ev i)) fun n => onO (indexRes T m ti (ev x) n) fun p => some ⟨p, [], [], rdO (ev x)⟩
  | .extract x i => ofO (extractRes i (ev x))
  | .call ⟨.builtin b, args, ts⟩ => builtinRes T m d b ts.toList (args.toList.map ev)
  | .call ⟨.value f, args, _⟩ => callRes S m d (ev f) (args.toList.map ev)
  | _ => none

/-- The blocks that a value leads to. -/
def PV.refs : PV → List Nat
  | .agg cs | .tup cs | .clo _ cs => refsL cs
  | .own id _ _ | .bsl id _ _ _ | .ptr id _ | .eptr id _ _ => [id]
  | _ => []
where refsL : List PV → List Nat
  | [] => []
  | p :: r => p.refs ++ refsL r

def MC.refs : Option MC → List Nat
  | some (.cell p) => p.refs
  | _ => []
def cleanS (id : Nat) : List (Nat × PV) → Bool
  | [] => true
  | (_, p) :: r => !p.refs.contains id && cleanS id r
def cleanM (id : Nat) : List (Key × Option MC) → Bool
  | [] => true
  | (k, v) :: r => !(k.1 == id) && (!(MC.refs v).contains id && cleanM id r)
def St.clean (s : St) (id : Nat) : Bool := cleanS id s.sl && cleanM id s.mem

def St.app (s : St) (dst : Option Nat) (e : Eff) : St :=
  { sl := (match dst with | some d => (d, e.val) :: s.sl | none => s.sl), mem := e.wr ++ s.mem }
def St.set (s : St) (t : Nat) (p : PV) : St := { s with sl := (t, p) :: s.sl }
def skipped (s : St) (dst : Option Nat) : St := s.app dst (.v tupV)

def doesOp (E : Env) (s : St) (o : Oper) : Option Eff := evalOp E.T E.S s.ev s.at (o.dst.getD 0) o.op

/-- A test: known, or both ways. -/
def Ways (b w : Bool) (A B : Prop) : Prop := (b = w → A) ∧ (b = (!w) → B)
@[congr] theorem Ways_congr {b b' w : Bool} {A B : Prop} (h : b = b') : Ways b w A B = Ways b' w A B := by rw [h]
theorem Ways_tt (A B : Prop) : Ways true true A B = A := by simp [Ways]
theorem Ways_ff (A B : Prop) : Ways false false A B = A := by simp [Ways]
theorem Ways_tf (A B : Prop) : Ways true false A B = B := by simp [Ways]
theorem Ways_ft (A B : Prop) : Ways false true A B = B := by simp [Ways]
theorem Ways.intro {b w : Bool} {A B : Prop} (h : b = w → A) (k : b = (!w) → B) : Ways b w A B := ⟨h, k⟩

/-- A guarded operation, by what its guard's slot holds. -/
def guardW (p : PV) (w : Bool) (A B C : Prop) : Prop := match p with
  | .c (.lit (.bool b)) => Ways b w A B
  | .c (.lit (.tuple _)) => C
  | _ => False

/-- What an operation has met: what it read, what it wrote, what it made, what it leads to. -/
structure Foot where
  rd : List Key
  wr : List Key
  new : List Nat
  refs : List Nat
def Eff.foot (e : Eff) : Foot := ⟨e.rd, e.wr.map (·.1), e.new, e.val.refs ++ e.wr.flatMap fun x => x.1.1 :: MC.refs x.2⟩
/-- What was done in a region so far (none: passed over). -/
abbrev Acc := List (Option Foot)
def Eff.acc (e : Eff) : Option Foot := some e.foot

/-- A region's operations, in the text's order; dsts: the slots that they write. -/
def wpOpsP (E : Env) (dsts : List (Option Nat)) : List Oper → (Acc → St → Prop) → Acc → St → Prop
  | [], K, acc, s => K acc s
  | o :: os, K, acc, s =>
    match o.guard with
    | none => Got (doesOp E s o) fun e => (e.new.all s.clean) = true ∧ wpOpsP E dsts os K (e.acc :: acc) (s.app o.dst e)
    | some (j, w) =>
      guardW (s.slot (((dsts[j]?).getD none).getD 0)) w
        (Got (doesOp E (s.set (((dsts[j]?).getD none).getD 0) (.c (.lit (.bool w)))) o) fun e => (e.new.all s.clean) = true ∧
          wpOpsP E dsts os K (e.acc :: acc) ((s.set (((dsts[j]?).getD none).getD 0) (.c (.lit (.bool w)))).app o.dst e))
        (wpOpsP E dsts os K (none :: acc) (skipped (s.set (((dsts[j]?).getD none).getD 0) (.c (.lit (.bool (!w))))) o.dst))
        (wpOpsP E dsts os K (none :: acc) (skipped s o.dst))
@[congr] theorem wpOpsP_congr {E : Env} {d : List (Option Nat)} {l : List Oper} {K : Acc → St → Prop} {a a' : Acc} {s s' : St} (g : a = a') (h : s = s') : wpOpsP E d l K a s = wpOpsP E d l K a' s' := by rw [g, h]

/-- Which operations must come ahead of each: bits. -/
def befores : List Oper → List Nat → List Nat
  | [], acc => acc
  | o :: r, acc => befores r (acc ++ [o.after.toList.foldl (fun n e => if Region.binds .any e then n ||| 2 ^ e.on ||| acc.getD e.on 0 else n) 0])
def slotsOf (dsts : List (Option Nat)) (o : Oper) : List Nat :=
  (o.op.operands.toList.filterMap fun | .tmp t => some t | _ => none) ++ (match o.guard with | some (j, _) => [((dsts[j]?).getD none).getD 0] | none => [])
def meets (a b : List Key) : Bool := a.any fun k => b.any fun j => k.1 == j.1 && k.2 == j.2
/-- May two operations come up in either order? -/
def hits (a b : List Nat) : Bool := a.any b.contains
def apart (dsts : List (Option Nat)) (x y : Oper) (ax ay : Option Foot) : Bool :=
  (match x.dst with | some d => !(slotsOf dsts y).contains d && !(y.dst == some d) | none => true) &&
  (match y.dst with | some d => !(slotsOf dsts x).contains d | none => true) &&
  (match ax, ay with
    | some a, some b => !meets a.wr (b.rd ++ b.wr) && !meets b.wr a.rd && !hits a.new b.refs && !hits b.new a.refs
    | _, _ => true)
def pairsOk (ops : List Oper) (acc : Acc) : Bool :=
  let b := befores ops []
  (List.range ops.length).all fun j => (List.range j).all fun i =>
    (b.getD j 0).testBit i || (match ops[i]?, ops[j]? with
      | some x, some y => apart (ops.map (·.dst)) x y ((acc[i]?).getD none) ((acc[j]?).getD none)
      | _, _ => false)
def edgesOk (ops : List Oper) : Bool :=
  (List.range ops.length).all fun j => match ops[j]? with
    | some o => o.after.toList.all fun e => !Region.binds .any e || decide (e.on < j)
    | none => false

def renI : Ren → Nat → Option Nat
  | [], _ => none
  | (a, b, _) :: r, id => if a = id then some b else renI r id
def orUndef (o : Option Nat) (f : Nat → PV) : PV := match o with
  | some j => f j
  | none => .undef
def PV.ren (ρ : Ren) : PV → PV
  | .agg cs => .agg (renL cs)
  | .tup cs => .tup (renL cs)
  | .clo f cs => if (renL cs).all PV.isPtr = true then .clo f (renL cs) else .undef
  | .own id off len => orUndef (renI ρ id) fun j => .own j off len
  | .bsl id off sz len => orUndef (renI ρ id) fun j => .bsl j off sz len
  | .ptr id off => orUndef (renI ρ id) fun j => .ptr j off
  | .eptr id i off => orUndef (renI ρ id) fun j => .eptr j i off
  | p => p
where renL : List PV → List PV
  | [] => []
  | p :: r => p.ren ρ :: renL r
def MC.ren (ρ : Ren) : MC → MC
  | .cell p => .cell (p.ren ρ)
  | x => x
def PV.isNil : PV → Bool
  | .c (.lit (.slice none 0 0)) => true
  | .c .z => true
  | _ => false
def keepE (ρ : Ren) (b i : Nat) (r : List (Key × Option MC)) : Option MC → List (Key × Option MC)
  | none => r
  | some x => ((b, i), some (x.ren ρ)) :: r
def keepC (ρ : Ren) (m : Mem) (a b : Nat) : Nat → Nat → List (Key × Option MC)
  | _, 0 => []
  | i, n + 1 => keepE ρ b i (keepC ρ m a b (i + 1) n) (m (a, i))
def keepM (ρ : Ren) (m : Mem) : Ren → List (Key × Option MC)
  | [] => []
  | (a, b, n) :: r => keepC ρ m a b 0 n ++ keepM ρ m r
def nilP (sz : Nat) : Option Nat → PV
  | some b => .own b 0 0
  | none => .c (.ro sz [])
def nilN (sz : Nat) : Option Nat → List (Key × Option MC)
  | some b => [((b, 0), some (.vec true sz []))]
  | none => []
def keepP (ρ : Ren) : Nils → Nat → PV → PV
  | [], _, p => p.ren ρ
  | (u, b, sz) :: r, t, p => if u = t then (if p.isNil = true then nilP sz b else p.ren ρ) else keepP ρ r t p
def keepN (s : St) : Nils → List (Key × Option MC)
  | [] => []
  | (u, b, sz) :: r => if (s.slot u).isNil = true then nilN sz b ++ keepN s r else keepN s r
def Nils.ids : Nils → List Nat
  | [] => []
  | (_, some b, _) :: r => b :: Nils.ids r
  | (_, none, _) :: r => Nils.ids r
def nodupB : List Nat → Bool
  | [] => true
  | x :: r => !r.contains x && nodupB r
def renOk (ρ : Ren) (ns : Nils) : Bool := nodupB (ρ.map (·.1)) && nodupB (ρ.map (·.2.1) ++ ns.ids)
/-- What is not needed any more is forgotten; the rest may have new names. -/
def St.keep (s : St) (l : Live) : St :=
  if renOk l.2.1 l.2.2 = true then { sl := l.1.map fun t => (t, keepP l.2.1 l.2.2 t (s.slot t)), mem := keepM l.2.1 s.at l.2.1 ++ keepN s l.2.2 } else ⟨[], []⟩
def St.prune (s : St) : Option Live → St
  | none => s
  | some l => s.keep l

/-! What follows a region; what follows in a sequence, behind a block, a round, a scope: behind names. -/
abbrev Post := Exit → St → Prop
def Post.reg (live : Option Live) (Q : Post) (_ : Acc) (s : St) : Prop := Q .normal (s.prune live)
def Post.draw (ops : List Oper) (live : Option Live) (Q : Post) (acc : Acc) (s : St) : Prop := (edgesOk ops && pairsOk ops acc.reverse) = true ∧ Q .normal (s.prune live)
def Post.seq (next : St → Prop) (Q : Post) : Post
  | .normal, s => next s
  | e, s => Q e s
def Post.blk (id : Nat) (Q : Post) : Post
  | .exit i, s => if i = id then Q .normal s else Q (.exit i) s
  | e, s => Q e s
def Post.round (I : Nat → St → Prop) (n : Nat) (Q : Post) : Post
  | .normal, s => ∃ m, m < n ∧ I m s
  | e, s => Q e s
def Post.scope (Q : Post) : Post
  | .goto _, _ => False
  | e, s => Q e s
def condW (p : PV) (A B : Prop) : Prop := match p with
  | .c (.lit (.bool b)) => Ways b true A B
  | _ => False
@[congr] theorem condW_congr {p p' : PV} {A B : Prop} (h : p = p') : condW p A B = condW p' A B := by rw [h]
theorem condW_bool (b : Bool) (A B : Prop) : condW (.c (.lit (.bool b))) A B = Ways b true A B := rfl

def wpC (E : Env) : Code → Post → St → Prop
  | .skip, Q, s => Q .normal s
  | .region id ops draw, Q, s => wpOpsP E (ops.toList.map (·.dst)) ops.toList (match draw with | false => Post.reg (E.live id) Q | true => Post.draw ops.toList (E.live id) Q) [] s
  | .seq a b, Q, s => wpC E a (Post.seq (wpC E b Q) Q) s
  | .cond c x y, Q, s => condW (s.ev c) (wpC E x Q s) (wpC E y Q s)
  | .block id body, Q, s => wpC E body (Post.blk id Q) s
  | .loop body, Q, s => ∃ I : Nat → St → Prop, (∃ n, I n s) ∧ ∀ n s, I n s → wpC E body (Post.round I n Q) s
  | .exit id, Q, s => Q (.exit id) s
  | .scope body, Q, s => wpC E body (Post.scope Q) s
  | .label _, Q, s => Q .normal s
  | .ret, Q, s => Q .ret s
  | _, _, _ => False
@[congr] theorem wpC_congr {E : Env} {c : Code} {Q : Post} {s s' : St} (h : s = s') : wpC E c Q s = wpC E c Q s' := by rw [h]

end Go.PM
