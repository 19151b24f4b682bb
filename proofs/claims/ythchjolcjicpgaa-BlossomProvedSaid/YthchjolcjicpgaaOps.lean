/- What is asked of one operation, in the operands' values and the heap's cells. -/
import Derived.Test.YthchjolcjicpgaaCode
namespace Go.HW

structure TI where
  desc : TypeDesc
  size : Nat
  bytes : Nat
  zero : Array Value

abbrev TT := TypeId → Option TI

def TOK (P : Program) (T : TT) : Prop := ∀ t x, T t = some x → P.underlying t = some x.desc ∧
  ∃ i z, P.info? t = some i ∧ i.size = x.size ∧ i.bytes = x.bytes ∧ i.zero = some z ∧ z.cells = x.zero ∧ P.stoodInHeld t = false

def PV {α : Type} (r : Option α) (K : α → Prop) : Prop := match r with
  | some z => K z
  | none => False
theorem PV.out {α : Type} {r : Option α} {K : α → Prop} (h : PV r K) : ∃ z, r = some z ∧ K z := by
  cases r with
  | none => exact h.elim
  | some z => exact ⟨z, rfl, h⟩
theorem PV.mk {α : Type} {r : Option α} {K : α → Prop} {z : α} (e : r = some z) (k : K z) : PV r K := by rw [e]; exact k
theorem PV.mono {α : Type} {r : Option α} {K K' : α → Prop} (h : PV r K) (hk : ∀ z, K z → K' z) : PV r K' := let ⟨_, e, k⟩ := h.out; PV.mk e (hk _ k)
@[simp] theorem PV_some {α : Type} (z : α) (K : α → Prop) : PV (some z) K ↔ K z := Iff.rfl
@[simp] theorem PV_none {α : Type} (K : α → Prop) : PV none K ↔ False := Iff.rfl

def aggD : TypeDesc → Bool
  | .struct _ | .array _ _ => true
  | _ => false

def cellsL (h : Heap) (a : Addr) : Nat → Nat → Option (List Value)
  | _, 0 => some []
  | i, n + 1 => match h.at (a.add i), cellsL h a (i + 1) n with
    | some v, some l => some (v :: l)
    | _, _ => none

def Heap.canB (h : Heap) (b i : Nat) : Bool := match h.info b with | some (_, n) => decide (i < n) | none => false
theorem Heap.can_of {h : Heap} {b i : Nat} (e : h.canB b i = true) : h.can b i := by
  unfold canB at e
  split at e
  · next t n hi => exact ⟨t, n, hi, by simpa using e⟩
  · cases e

def setL (h : Heap) (a : Addr) : Nat → List Value → Option Heap
  | _, [] => some h
  | i, v :: r => if oneVal v = true ∧ (a.add i).spot = none ∧ h.canB (a.add i).block (a.add i).off = true then
      setL (h.set (a.add i).block (a.add i).off v) a (i + 1) r else none

def ldV (T : TT) (t : TypeId) (x : Value) (h : Heap) : Option Value :=
  match T t, x with
  | some ti, .pointer (some a) => if aggD ti.desc = true then (cellsL h a 0 ti.size).map fun l => .agg l.toArray else h.at a
  | _, _ => none

def stV (T : TT) (t : TypeId) (x v : Value) (h : Heap) : Option Heap :=
  match T t, x with
  | some ti, .pointer (some a) => if v.cells.size = ti.size then setL h a 0 v.cells.toList else none
  | _, _ => none

def nilV : Value → Option Value
  | .pointer (some a) => some (.pointer (some a))
  | .iface t v => some (.iface t v)
  | _ => none

def fldV (T : TT) (s : TypeId) (x : Value) (f : Nat) : Option Value :=
  match T s, x with
  | some ⟨.struct fs, _, _, _⟩, .pointer (some a) =>
    match fs[f]? with
    | some fd => match T fd.type with
      | some ti => if ti.size = 0 then none else some (.pointer (some (a.add fd.offset)))
      | none => none
    | none => none
  | _, _ => none

def ixV (T : TT) (t : TypeId) (x i : Value) : Option Value :=
  match T t, x, i with
  | some ⟨.slice e, _, _, _⟩, .slice (some a) len _, .int _ n =>
    match T e with
    | some te => if 0 ≤ n ∧ n < len then some (.pointer (some (a.add (n.toNat * te.size)))) else none
    | none => none
  | some ⟨.array len e, _, _, _⟩, .pointer (some a), .int _ n =>
    match T e with
    | some te => if 0 ≤ n ∧ n < len then some (.pointer (some (a.add (n.toNat * te.size)))) else none
    | none => none
  | _, _, _ => none

/-- Are two structs of whole numbers the same? -/
def eqL (T : TT) : List Field → Array Value → Array Value → Option Bool
  | [], _, _ => some true
  | f :: r, xs, ys => match T f.type, xs[f.offset]?, ys[f.offset]? with
    | some ⟨.int _, _, _, _⟩, some (.int k a), some (.int k' b) => if k = k' then (eqL T r xs ys).map fun t => (f.name == "_" || a == b) && t else none
    | _, _, _ => none

def binV (T : TT) (op : BinOp) (t : TypeId) (x y : Value) : Option Value :=
  match x, y with
  | .int k a, .int k' b =>
    if k = k' then
      match op with
      | .add => some (.int k (k.wrap (a + b)))
      | .sub => some (.int k (k.wrap (a - b)))
      | .mul => some (.int k (k.wrap (a * b)))
      | .quo => if b = 0 then none else some (.int k (k.wrap (a.tdiv b)))
      | .rem => if b = 0 then none else some (.int k (a.tmod b))
      | .and => some (.int k (k.wrap (BitVec.ofInt k.bits a &&& BitVec.ofInt k.bits b).toNat))
      | .shl => if b < 0 then none else some (.int k (k.wrap (a * 2 ^ (min b.toNat k.bits))))
      | .shr => if b < 0 then none else some (.int k (a.fdiv (2 ^ (min b.toNat k.bits))))
      | .eql => some (.bool (a == b))
      | .neq => some (.bool (a != b))
      | .lss => some (.bool (decide (a < b)))
      | .leq => some (.bool (decide (a ≤ b)))
      | .gtr => some (.bool (decide (a > b)))
      | .geq => some (.bool (decide (a ≥ b)))
      | _ => none
    else none
  | .bool a, .bool b =>
    match T t with
    | some ⟨.bool, _, _, _⟩ =>
      match op with
      | .eql => some (.bool (a == b))
      | .neq => some (.bool (!(a == b)))
      | _ => none
    | _ => none
  | .agg xs, .agg ys =>
    match T t with
    | some ⟨.struct fs, _, _, _⟩ =>
      match op with
      | .eql => (eqL T fs.toList xs ys).map Value.bool
      | .neq => (eqL T fs.toList xs ys).map fun b => Value.bool !b
      | _ => none
    | _ => none
  | _, _ => none

def unV (op : UnOp) (x : Value) : Option Value :=
  match op, x with
  | .neg, .int k n => some (.int k (k.wrap (0 - n)))
  | .not, .bool b => some (.bool !b)
  | _, _ => none

def cvV (T : TT) (s d : TypeId) (x : Value) : Option Value :=
  match T s, T d, x with
  | some _, some ⟨.int k, _, _, _⟩, .int _ n => some (.int k (k.wrap n))
  | _, _, _ => none

def partV (ti : TI) (cs : Array Value) (off : Nat) : Option Value :=
  if aggD ti.desc = true then some (.agg (cs.extract off (off + ti.size))) else cs[off]?

def fieldV (T : TT) (t : TypeId) (x : Value) (f : Nat) : Option Value :=
  match T t, x with
  | some ⟨.struct fs, _, _, _⟩, .agg cs =>
    match fs[f]? with
    | some fd => match T fd.type with
      | some ti => partV ti cs fd.offset
      | none => none
    | none => none
  | _, _ => none

def indexV (T : TT) (t : TypeId) (x i : Value) : Option Value :=
  match T t, x, i with
  | some ⟨.array len e, _, _, _⟩, .agg cs, .int _ n =>
    match T e with
    | some te => if 0 ≤ n ∧ n < len then partV te cs (n.toNat * te.size) else none
    | none => none
  | _, _, _ => none

def extV (x : Value) (i : Nat) : Option Value :=
  match x with
  | .tuple vs => vs[i]?
  | _ => none

def pickV (c a b : Value) : Option Value :=
  match c with
  | .bool t => some (if t = true then a else b)
  | _ => none

def mkiV (T : TT) (t : TypeId) (x : Value) : Option Value :=
  match T t with
  | some ⟨.interface _, _, _, _⟩ => none
  | some _ => some (.iface t x)
  | none => none

def placesV (T : TT) : List Field → Option (List (Nat × Nat))
  | [] => some []
  | f :: r => match T f.type, placesV T r with
    | some ti, some l => some ((f.offset, ti.size) :: l)
    | _, _ => none

def buildV (T : TT) (t : TypeId) (parts : Array (Nat × Value)) : Option Value :=
  match T t with
  | some ⟨.struct fs, _, _, z⟩ =>
    match placesV T fs.toList with
    | some l => (Instr.fill (l.toArray[·]?) z parts.toList).map Value.agg
    | none => none
  | some ⟨.array _ e, _, _, z⟩ =>
    match T e with
    | some te => (Instr.fill (fun i => some (i * te.size, te.size)) z parts.toList).map Value.agg
    | none => none
  | _ => none

def boundV (x : Option Value) (y d : Nat) : Option Nat :=
  match x with
  | none => some d
  | some (.int _ n) => if 0 ≤ n ∧ n ≤ y then some n.toNat else none
  | _ => none

def slV (T : TT) (t : TypeId) (x : Value) (lo hi mx : Option Value) : Option Value :=
  match T t, x, mx with
  | some ⟨.slice e, _, _, _⟩, .slice a len cap, none =>
    match T e, boundV hi cap len with
    | some te, some hh =>
      match boundV lo hh 0 with
      | some l => some (.slice (if cap = l then a else a.map (·.add (l * te.size))) (hh - l) (cap - l))
      | none => none
    | _, _ => none
  | _, _, _ => none

def min2V : Value → Value → Option Value
  | .int k x, .int _ y => some (.int k (if y < x then y else x))
  | _, _ => none
def max2V : Value → Value → Option Value
  | .int k x, .int _ y => some (.int k (if y > x then y else x))
  | _, _ => none

def lenV (T : TT) (t : TypeId) (x : Value) : Option Value :=
  match T t, x with
  | some ⟨.slice _, _, _, _⟩, .slice _ n _ => some (.int .i64 n)
  | some ⟨.array n _, _, _, _⟩, _ => some (.int .i64 n)
  | _, _ => none

def zrow (z : Array Value) (n : Nat) : Array Value := (Array.range n).map fun i => z[i % z.size]!

def asN : Value → Option Nat
  | .int _ n => if 0 ≤ n ∧ n ≤ 9223372036854775807 then some n.toNat else none
  | _ => none

def bslV (T : TT) (t : TypeId) (len : Nat) (parts : Array (Nat × Value)) : Option (TypeId × Array Value) :=
  match T t with
  | some ⟨.slice e, _, _, _⟩ =>
    match T e with
    | some te => if len * te.size ≤ 16777216 then
        (Instr.fill (fun i => some (i * te.size, te.size)) (if len * te.size = 0 then #[] else zrow te.zero (len * te.size)) parts.toList).map fun cs => (e, cs) else none
    | none => none
  | _ => none

abbrev AlT := (Nat → Value) × Array Value × TypeId
def msV (T : TT) (t : TypeId) (l c : Value) : Option AlT :=
  match T t, asN l, asN c with
  | some ⟨.slice e, _, _, _⟩, some n, some m =>
    match T e with
    | some te => if n ≤ m ∧ te.bytes * m ≤ 281474976710656 then some (fun r => .slice (some ⟨r, 0, none⟩) n m, zrow te.zero (m * te.size), e) else none
    | none => none
  | _, _, _ => none
def bsV (T : TT) (t : TypeId) (len : Nat) (parts : Array (Nat × Value)) : Option AlT :=
  (bslV T t len parts).map fun x => (fun r => .slice (some ⟨r, 0, none⟩) len len, x.2, x.1)

/-- Operations that make one block: what they yield, the block's cells and its elements' type. -/
def alV (T : TT) (tm : Tm) : Op → Option AlT
  | .alloc t => (T t).map fun ti => (fun r => .pointer (some ⟨r, 0, none⟩), ti.zero, t)
  | .box t x => some (fun r => .pointer (some ⟨r, 0, none⟩), (ev tm x).cells, t)
  | .makeSlice t l c => msV T t (ev tm l) (ev tm c)
  | .buildSlice t len parts => bsV T t len (parts.map fun p => (p.1, ev tm p.2))
  | _ => none
/-- A new block. -/
def alF (r : Option AlT) (h : Heap) (K : Value → Heap → Prop) : Prop := PV r fun x => ∀ r, h.fresh r → K (x.1 r) (h.new r x.2.1 x.2.2)
def isAl : Op → Bool
  | .alloc _ | .box .. | .makeSlice .. | .buildSlice .. => true
  | _ => false

/-- A block of which the first cells are known. -/
def Heap.newP (h : Heap) (r : Nat) (c : List Value) (t : TypeId) (n : Nat) : Heap :=
  ⟨fun b i => if b = r then c[i]? else h.cell b i, fun b => if b = r then some (t, n) else h.info b⟩

def srcV (h : Heap) (size : Nat) : Value → Option (Nat × List Value)
  | .slice none n _ => if n = 0 then some (0, []) else none
  | .slice (some a) n _ => (cellsL h a 0 (n * size)).map fun l => (n, l)
  | _ => none

def elemT (T : TT) (t : TypeId) : Option (TypeId × TI) := match T t with
  | some ⟨.slice e, _, _, _⟩ => (T e).map fun te => (e, te)
  | _ => none

def AP (T : TT) (t : TypeId) (s x : Value) (K : Value → Heap → Prop) (h : Heap) : Prop :=
  PV (elemT T t) fun (e, te) => match s with
    | .slice A len cap => PV (srcV h te.size x) fun (m, xs) => te.zero.size = te.size ∧ 0 < te.bytes ∧ (cap < len + m → Builtin.nextslicecap (len + m) cap * te.bytes ≤ 281474976710656) ∧
      (len + m ≤ cap → match A with
        | some a => PV (setL h (a.add (len * te.size)) 0 xs) fun h' => K (.slice (some a) (len + m) cap) h'
        | none => K (.slice none (len + m) cap) h) ∧
      (cap < len + m → PV (srcV h te.size s) fun (_, old) => ∀ r c, h.fresh r → len + m ≤ c → K (.slice (some ⟨r, 0, none⟩) (len + m) c) (h.newP r (old ++ xs) e (c * te.size)))
    | _ => False

/-- The builtin copy of a whole slice. -/
def CP (T : TT) (t : TypeId) (d x : Value) (K : Value → Heap → Prop) (h : Heap) : Prop :=
  PV (elemT T t) fun (_, te) => match d with
    | .slice A len _ => PV (srcV h te.size x) fun (m, xs) => m ≤ len ∧ match A with
        | some a => PV (setL h a 0 xs) fun h' => K (.int .i64 m) h'
        | none => K (.int .i64 m) h
    | _ => False

def entersB (P : Program) (f : FuncId) : Prop := ∃ fn, P.funcs[f]? = some fn ∧ (fn.name == "runtime.NumGoroutine") = false ∧ fn.body.isNone = false

def endR (K : Value → Heap → Prop) (E : List PanicEntry → Heap → Prop) : Ending → Heap → Prop
  | .returned v, h' => K v h'
  | .panicked ch, h' => E ch h'
  | .outgrown, _ => False

/-- A call. -/
def CALL (P : Program) (f : FuncId) (args : Array Value) (h : Heap) (K : Value → Heap → Prop) (E : List PanicEntry → Heap → Prop) : Prop := entersB P f ∧ HCalls P f args h (endR K E)

def CL (P : Program) (x : Value) (args : Array Value) (K : Value → Heap → Prop) (E : List PanicEntry → Heap → Prop) (h : Heap) : Prop :=
  match x with
  | .func (.func f) first captured => CALL P f (first ++ args ++ captured) h K E
  | _ => False

def INV (P : Program) (x : Value) (name : String) (args : Array Value) (K : Value → Heap → Prop) (E : List PanicEntry → Heap → Prop) (h : Heap) : Prop :=
  match x with
  | .iface t v => ∃ f r, (∀ Q E h, Q (f, r) h → hwp P (method (P.types.size + Made.depth) t v name) Q E h) ∧ CALL P f (#[r] ++ args) h K E
  | _ => False

def pureC (T : TT) (tm : Tm) : Call → Option Value
  | ⟨.builtin .len, ⟨[x]⟩, ⟨[t]⟩⟩ => lenV T t (ev tm x)
  | ⟨.builtin .min, ⟨[x, y]⟩, _⟩ => min2V (ev tm x) (ev tm y)
  | ⟨.builtin .max, ⟨[x, y]⟩, _⟩ => max2V (ev tm x) (ev tm y)
  | _ => none
def isPureC : Call → Bool
  | ⟨.builtin .len, ⟨[_]⟩, ⟨[_]⟩⟩ => true
  | ⟨.builtin .min, ⟨[_, _]⟩, _⟩ => true
  | ⟨.builtin .max, ⟨[_, _]⟩, _⟩ => true
  | _ => false

/-- The values that an operation without calls, memory of its own and writes yields. -/
def pureV (T : TT) (tm : Tm) (h : Heap) : Op → Option Value
  | .move x | .assign x => some (ev tm x)
  | .pick c a b => pickV (ev tm c) (ev tm a) (ev tm b)
  | .load t a => ldV T t (ev tm a) h
  | .nilCheck x => nilV (ev tm x)
  | .fieldAddr s x f => fldV T s (ev tm x) f
  | .indexAddr t x i => ixV T t (ev tm x) (ev tm i)
  | .binOp op t x y _ => binV T op t (ev tm x) (ev tm y)
  | .unOp op _ x => unV op (ev tm x)
  | .convert s d x => cvV T s d (ev tm x)
  | .makeInterface t x => mkiV T t (ev tm x)
  | .makeFunc fn first captured => some (.func fn (first.map (ev tm)) (captured.map (ev tm)))
  | .field t x f => fieldV T t (ev tm x) f
  | .index t x i => indexV T t (ev tm x) (ev tm i)
  | .extract x i => extV (ev tm x) i
  | .build t parts => buildV T t (parts.map fun p => (p.1, ev tm p.2))
  | .slice t x lo hi mx => slV T t (ev tm x) (lo.map (ev tm)) (hi.map (ev tm)) (mx.map (ev tm))
  | .call c => pureC T tm c
  | _ => none

/-- Does 'pureV' serve? -/
def isPure : Op → Bool
  | .move _ | .assign _ | .pick .. | .load .. | .nilCheck _ | .fieldAddr .. | .indexAddr .. | .binOp .. | .unOp .. | .convert .. | .makeInterface .. | .makeFunc .. | .field .. | .index ..
  | .extract .. | .build .. | .slice .. => true
  | .call c => isPureC c
  | _ => false

/-- Writes, append, calls. -/
def effF (P : Program) (T : TT) (n : Nat) (Q : QT) (o : Oper) (tm : Tm) (k : Value → Heap → Prop) (h : Heap) : Op → Prop
  | .store t a x => PV (stV T t (ev tm a) (ev tm x) h) fun h' => k undef h'
  | .call { callee := .builtin .append, args := ⟨[s, x]⟩, argTypes := ⟨[t, t']⟩ } => (t = t') ∧ AP T t (ev tm s) (ev tm x) k h
  | .call { callee := .builtin .copy, args := ⟨[s, x]⟩, argTypes := ⟨[t, _]⟩ } => CP T t (ev tm s) (ev tm x) k h
  | .call { callee := .value f, args, .. } => CL P (ev tm f) (args.map (ev tm)) k (fun ch h' => Q (.panic ch) tm h') h
  | .call { callee := .invoke r name, args, .. } => INV P (ev tm r) name (args.map (ev tm)) k (fun ch h' => Q (.panic ch) tm h') h
  | .panic x => match ev tm x with
    | .iface t v => Q (.panic [{ v := .iface t v, recovered := false }]) tm h
    | _ => False
  | _ => False

def isMv : Op → Bool
  | .move _ | .assign _ | .makeFunc .. => true
  | _ => false
/-- As 'PV'; where the value stands written out it falls away by sight. -/
def PVm {α : Type} (b : Bool) (r : Option α) (K : α → Prop) : Prop := match b with
  | true => (match r with
    | some z => K z
    | none => False)
  | false => PV r K
theorem PVm_eq {α : Type} (b : Bool) (r : Option α) (K : α → Prop) : PVm b r K = PV r K := by cases b <;> rfl

/-- What is asked of one operation. -/
def opF (P : Program) (T : TT) (n : Nat) (Q : QT) (o : Oper) (tm : Tm) (K : KT) (h : Heap) : Prop :=
  if isPure o.op = true then PVm (isMv o.op) (pureV T tm h o.op) fun v => K (put n tm o.dst v) h
  else if isAl o.op = true then alF (alV T tm o.op) h fun v h' => K (put n tm o.dst v) h'
  else effF P T n Q o tm (fun v h' => K (put n tm o.dst v) h') h o.op

end Go.HW
