/-
  THE SMALL FORM OF A WALK: what a piece of code asks for, said of the heap alone, without the frame's slots. Definitions; the proofs that it serves stand in the next text.
-/
import Derived.WalkKit
import Derived.OrdersHeld
namespace Go.Proofs.Ytfijmoofdafoiaa
open Go
namespace Am

abbrev Hp := Array Obj
abbrev Env := List (Nat × Value)

/-- Nothing but the heap and the count of draws has turned. -/
def Stay (w w' : World) : Prop := w'.tape = w.tape ∧ w'.os = w.os ∧ w'.output = w.output

/-- The blocks that stood in `h` are in `h'` as they were. -/
def Keep (h h' : Hp) : Prop := ∀ b, b < h.size → h'[b]? = h[b]?

/-- The call of function `f`: it returns, and what is asked holds of its result and of the heap behind it. -/
def Run (P : Program) (f : FuncId) (args : Array Value) (h : Hp) (K : Value → Hp → Prop) : Prop :=
  ∀ w : World, w.heap = h → Calls P f args w fun e w' => ∃ v, e = .returned v ∧ Stay w w' ∧ K v w'.heap

/-- What a walk is told of the program: which functions have a body, and which methods a dynamic type has. -/
structure Ctx where
  P : Program
  ok : List Nat
  meths : List (TypeId × String × FuncId)

structure Ctx.Good (C : Ctx) : Prop where
  call : ∀ f, C.ok.contains f = true → ∀ (args : Array Value) (w : World), (callFunc f args).run C.P w = .ok (.enter f args) w
  meth : ∀ t n f, (t, n, f) ∈ C.meths → ∀ (v : Value) (w : World), (method (C.P.types.size + Made.depth) t v n).run C.P w = .ok (f, v) w
  mixed : C.P.follows .mixedOrders = true

/-! ### Memory -/

def cellH (h : Hp) (a : Addr) : Option Value :=
  match h[a.block]? with
  | some (.cells c _ _) => if a.spot.isSome then none else c[a.off]?
  | _ => none

/-- A row of n cells; of none, whatever the address. -/
def rowH (h : Hp) (a : Addr) (n : Nat) : Option (Array Value) :=
  if n = 0 then some #[] else match h[a.block]? with
  | some (.cells c _ _) => if a.spot.isNone && Nat.ble (a.off + n) c.size then some (c.extract a.off (a.off + n)) else none
  | _ => none

def setB (h : Hp) (g : Nat) (cs : Array Value) : Hp :=
  h.modify g fun
    | .cells _ e fr => .cells cs e fr
    | o => o

def splice (c : Array Value) (o : Nat) (vs : Array Value) : Array Value :=
  (c.toList.take o ++ vs.toList ++ c.toList.drop (o + vs.size)).toArray

def ld1 (h : Hp) (a : Addr) (K : Value → Prop) : Prop := ∃ v, cellH h a = some v ∧ K v
def ldI (h : Hp) (a : Addr) (k : IntKind) (K : Int → Prop) : Prop := ∃ n, cellH h a = some (.int k n) ∧ K n
def ldB (h : Hp) (a : Addr) (K : Bool → Prop) : Prop := ∃ b, cellH h a = some (.bool b) ∧ K b
def ldP (h : Hp) (a : Addr) (K : Option Addr → Prop) : Prop := ∃ p, cellH h a = some (.pointer p) ∧ K p
def ldS (h : Hp) (a : Addr) (K : Option Addr → Nat → Nat → Prop) : Prop := ∃ p l c, cellH h a = some (.slice p l c) ∧ K p l c
def ldR (h : Hp) (a : Addr) (n : Nat) (K : Array Value → Prop) : Prop := ∃ vs, rowH h a n = some vs ∧ K vs

def st (h : Hp) (a : Addr) (vs : Array Value) (K : Hp → Prop) : Prop :=
  ∃ c e, h[a.block]? = some (.cells c e (0, 0)) ∧ a.spot = none ∧ a.off + vs.size ≤ c.size ∧ (∀ v ∈ vs.toList, v.oneCell' = true) ∧ K (setB h a.block (splice c a.off vs))

/-! ### Values -/

def onPtr (v : Value) (K : Addr → Prop) : Prop := match v with | .pointer (some a) => K a | _ => False
def onP (v : Value) (K : Option Addr → Prop) : Prop := match v with | .pointer p => K p | _ => False
def onI (k : IntKind) (v : Value) (K : Int → Prop) : Prop := match v with | .int k' n => if k' = k then K n else False | _ => False
def onAny (v : Value) (K : Int → Prop) : Prop := match v with | .int _ n => K n | _ => False
def onB (v : Value) (K : Bool → Prop) : Prop := match v with | .bool b => K b | _ => False
def onS (v : Value) (K : ByteArray → Prop) : Prop := match v with | .string s => K s | _ => False
def bsel (b : Bool) (A B : Prop) : Prop := match b with | true => A | false => B
def onBool (v : Value) (A B : Prop) : Prop := match v with | .bool b => bsel b A B | _ => False
def onG (v : Value) (A B S : Prop) : Prop := match v with | .bool b => bsel b A B | .tuple _ => S | _ => False
def onSl (v : Value) (K : Option Addr → Nat → Nat → Prop) : Prop := match v with | .slice a l c => K a l c | _ => False
def onTup (i : Nat) (v : Value) (K : Value → Prop) : Prop := match v with | .tuple vs => (match vs[i]? with | some x => K x | none => False) | _ => False
def onAgg (v : Value) (K : Array Value → Prop) : Prop := match v with | .agg cs => K cs | _ => False
def szIs (n m : Nat) (Q : Prop) : Prop := if n = m then Q else False
def wv (o : Option Value) (K : Value → Prop) : Prop := match o with | some v => K v | none => False
def onO {α : Type} (o : Option α) (K : α → Prop) : Prop := match o with | some v => K v | none => False

def Env.get : Env → Nat → Option Value
  | [], _ => none
  | (k, v) :: r, t => bif Nat.beq k t then some v else Env.get r t

def Env.put (e : Env) (dst : Option Tmp) (v : Value) : Env := match dst with | some d => (d, v) :: e | none => e

def ev (e : Env) : Operand → Option Value
  | .tmp t => Env.get e t
  | .const v => some v
  | .global g => some (.pointer (some ⟨g, 0, none⟩))
  | .func f => some (.func (.func f) #[] #[])

def evs (e : Env) : List Operand → List Value → (List Value → Prop) → Prop
  | [], acc, K => K acc.reverse
  | x :: r, acc, K => wv (ev e x) fun v => evs e r (v :: acc) K

/-! ### The program's table -/

def szOf (P : Program) (t : TypeId) : Nat := match P.info? t with | some i => i.size | none => 0
def szOk (P : Program) (t : TypeId) : Bool := match P.info? t with | some i => !Nat.beq i.size 0 | none => false
def byOf (P : Program) (t : TypeId) : Nat := match P.info? t with | some i => i.bytes | none => 0
def zeroOf (P : Program) (t : TypeId) : Array Value := match P.info? t with | some i => (match i.zero with | some z => z.cells | none => #[]) | none => #[]
def hasZero (P : Program) (t : TypeId) : Bool := match P.info? t with | some i => i.zero.isSome | none => false
def fieldOf (P : Program) (t : TypeId) (f : Nat) : Option Field := match P.underlying t with | some (.struct fs) => fs[f]? | _ => none

/-- A value of a type, taken apart as far as the type tells. -/
def typed (P : Program) (t : TypeId) (v : Value) (K : Value → Prop) : Prop :=
  match P.underlying t with
  | some (.int k) => onI k v fun n => K (.int k n)
  | some .bool => onB v fun b => K (.bool b)
  | some (.pointer _) => onP v fun p => K (.pointer p)
  | some (.slice _) => onSl v fun a l c => K (.slice a l c)
  | some .string => onS v fun s => K (.string s)
  | some (.struct _) | some (.array ..) => onAgg v fun c => K (.agg c)
  | _ => K v

/-! ### Operations -/

/-- A literal's cells: the zero value's, with the parts laid over it. -/
def fillL (cells : List Value) : List (Nat × Nat × Value) → Option (List Value)
  | [] => some cells
  | (o, n, v) :: r => if v.cells.size = n ∧ o + n ≤ cells.length then fillL (cells.take o ++ v.cells.toList ++ cells.drop (o + n)) r else none

/-- Where the parts of a literal lie. -/
def fplaces (P : Program) (fs : Array Field) : List (Nat × Value) → Option (List (Nat × Nat × Value))
  | [] => some []
  | (i, v) :: r => match fs[i]?, fplaces P fs r with
    | some f, some l => if szOk P f.type then some ((f.offset, szOf P f.type, v) :: l) else none
    | _, _ => none

def zerosN (z : Array Value) (n : Nat) : Array Value := (Array.range n).map (z[· % z.size]!)

def xorN (k : IntKind) (n : Int) : Int := k.wrap ((BitVec.ofInt k.bits (if k.signed then -1 else k.max) ^^^ BitVec.ofInt k.bits n).toNat : Nat)

/-- Two structs of whole numbers: are they the same? -/
def eqInts : List Value → List Value → Option Bool
  | [], [] => some true
  | .int k a :: r, .int k' b :: s => if k = k' then (match eqInts r s with | some x => some (decide (a = b) && x) | none => none) else none
  | _, _ => none

/-- A struct's fields are whole numbers, one cell each, in order. -/
def flatInts (P : Program) : Nat → List Field → Bool
  | _, [] => true
  | o, f :: r => Nat.beq f.offset o && (match P.underlying f.type with | some (.int _) => true | _ => false) && !(f.name == "_") && flatInts P (o + 1) r

def bop (P : Program) (op : BinOp) (t : TypeId) (x y : Value) (K : Value → Prop) : Prop :=
  match P.underlying t with
  | some (.int k) => onI k x fun a => onI k y fun b => match op with
    | .add => K (.int k (k.wrap (a + b)))
    | .sub => K (.int k (k.wrap (a - b)))
    | .mul => K (.int k (k.wrap (a * b)))
    | .quo => if b = 0 then False else K (.int k (k.wrap (a.tdiv b)))
    | .rem => if b = 0 then False else K (.int k (a.tmod b))
    | .eql => K (.bool (decide (a = b)))
    | .neq => K (.bool (!decide (a = b)))
    | .lss => K (.bool (decide (a < b)))
    | .leq => K (.bool (decide (a ≤ b)))
    | .gtr => K (.bool (decide (b < a)))
    | .geq => K (.bool (decide (b ≤ a)))
    | _ => False
  | some .bool => onB x fun a => onB y fun b => match op with
    | .eql => K (.bool (a == b))
    | .neq => K (.bool (!(a == b)))
    | _ => False
  | some .string => onS x fun a => onS y fun b => match op with
    | .eql => K (.bool (a.toList == b.toList))
    | _ => False
  | some (.pointer _) => onP x fun p => onP y fun q => (p = none ∨ q = none) ∧ (match op with
    | .eql => K (.bool (p.isNone && q.isNone))
    | .neq => K (.bool (!(p.isNone && q.isNone)))
    | _ => False)
  | some (.struct fs) => if flatInts P 0 fs.toList && !P.stoodInHeld t && !P.eqGuardType P.depth t then onAgg x fun a => onAgg y fun b => a.size = fs.size ∧ b.size = fs.size ∧ ∃ r, eqInts a.toList b.toList = some r ∧ (match op with
      | .eql => K (.bool r)
      | .neq => K (.bool (!r))
      | _ => False) else False
  | _ => False

def uop (op : UnOp) (x : Value) (k : Option IntKind) (K : Value → Prop) : Prop :=
  match op with
  | .not => onB x fun b => K (.bool !b)
  | .xor => onO k fun k => onI k x fun n => K (.int k (xorN k n))
  | _ => False

/-- The bytes of a slice as a string. -/
def b2s (h : Hp) (v : Value) (K : ByteArray → Prop) : Prop :=
  onSl v fun a n _ => match a with
    | none => K .empty
    | some a => ∃ bs : List UInt8, bs.length = n ∧ (∀ j b, bs[j]? = some b → cellH h (a.add j) = some (.int .u8 b.toNat)) ∧ K ⟨bs.toArray⟩

def slHi (cap len : Nat) (hi : Option Value) (K : Nat → Prop) : Prop :=
  match hi with
  | none => K len
  | some v => onAny v fun i => (0 ≤ i ∧ i ≤ cap) ∧ K i.toNat

def slLo (h : Nat) (lo : Option Value) (K : Nat → Prop) : Prop :=
  match lo with
  | none => K 0
  | some v => onAny v fun i => (0 ≤ i ∧ i ≤ h) ∧ K i.toNat

def slAddr (a : Option Addr) (l m size : Nat) : Option Addr := if m = l then a else a.map (·.add (l * size))

def evO (e : Env) (o : Option Operand) (K : Option Value → Prop) : Prop := match o with | none => K none | some x => wv (ev e x) fun v => K (some v)

/-- append: in place where there is room; else a new block of whatever capacity. -/
def apnd (elem size bytes : Nat) (zero : Array Value) (s x : Value) (h : Hp) (K : Value → Hp → Prop) : Prop :=
  onSl s fun base len cap => onSl x fun xb n _ =>
    ∃ new : Array Value, (match xb with | none => new = #[] ∧ n = 0 | some a => rowH h a (n * size) = some new) ∧
      (len + n ≤ cap → (match base with
        | none => K (.slice none (len + n) cap) h
        | some a => st h (a.add (len * size)) new fun h' => K (.slice base (len + n) cap) h')) ∧
      (cap < len + n → (Builtin.nextslicecap (len + n) cap * bytes ≤ 2 ^ 48 ∧ bytes ≠ 0) ∧
        ∃ old : Array Value, (match base with | none => old = #[] ∧ len = 0 | some a => rowH h a (len * size) = some old) ∧
          ∀ c : Nat, len + n ≤ c → K (.slice (some ⟨h.size, 0, none⟩) (len + n) c) (h.push (.cells (old ++ new ++ Builtin.zeroCells zero (c - (len + n))) elem)))

def cpy (size : Nat) (dst src : Value) (h : Hp) (K : Value → Hp → Prop) : Prop :=
  onSl dst fun base dl _ => onSl src fun sb sl _ =>
    ∃ vs : Array Value, (match sb with | none => vs = #[] | some a => rowH h a (Nat.min sl dl * size) = some vs) ∧
      (match base with
        | none => K (.int .i64 (Nat.min sl dl : Nat)) h
        | some a => st h a vs fun h' => K (.int .i64 (Nat.min sl dl : Nat)) h')

def mkSl (elem size bytes : Nat) (zero : Array Value) (l c : Value) (h : Hp) (K : Value → Hp → Prop) : Prop :=
  onI .i64 l fun l => onI .i64 c fun c => (0 ≤ l ∧ l ≤ c ∧ c ≤ IntKind.i64.max ∧ bytes * c ≤ 2 ^ 48) ∧
    K (.slice (some ⟨h.size, 0, none⟩) l.toNat c.toNat) (h.push (.cells (if c.toNat * size = 0 then #[] else zerosN zero (c.toNat * size)) elem))

def callV (C : Ctx) (v : Value) (args : Array Value) (h : Hp) (K : Value → Hp → Prop) : Prop :=
  match v with
  | .func (.func f) first captured => if C.ok.contains f then Run C.P f (first ++ args ++ captured) h K else False
  | _ => False

def methOf (C : Ctx) (t : TypeId) (n : String) : Option FuncId := (C.meths.find? fun m => Nat.beq m.1 t && m.2.1 == n).map (·.2.2)

def invk (C : Ctx) (v : Value) (name : String) (args : Array Value) (h : Hp) (K : Value → Hp → Prop) : Prop :=
  match v with
  | .iface t x => onO (methOf C t name) fun f => if C.ok.contains f then Run C.P f (#[x] ++ args) h K else False
  | _ => False

/-- An operation that looks at memory, if at anything; it turns nothing. -/
def qop (C : Ctx) (e : Env) (h : Hp) (o : Oper) (K : Value → Prop) : Prop :=
  match o.op with
  | .move x | .assign x => wv (ev e x) K
  | .pick c a b => wv (ev e c) fun c => wv (ev e a) fun a => wv (ev e b) fun b => onBool c (K a) (K b)
  | .nilCheck x => wv (ev e x) fun v => onPtr v fun a => K (.pointer (some a))
  | .binOp op t x y _ => wv (ev e x) fun x => wv (ev e y) fun y => bop C.P op t x y K
  | .unOp op t x => wv (ev e x) fun x => uop op x (match C.P.underlying t with | some (.int k) => some k | _ => none) K
  | .convert src dst x => match C.P.underlying src, C.P.underlying dst with
    | some _, some (.int k) => wv (ev e x) fun x => onAny x fun n => K (.int k (k.wrap n))
    | _, _ => False
  | .makeInterface t x => match C.P.underlying t with
    | some (.pointer _) => wv (ev e x) fun x => K (.iface t x)
    | _ => False
  | .makeFunc fn first captured => evs e first.toList [] fun a => evs e captured.toList [] fun b => K (.func fn a.toArray b.toArray)
  | .fieldAddr s x f => onO (fieldOf C.P s f) fun fd => if szOk C.P fd.type then wv (ev e x) fun x => onPtr x fun a => K (.pointer (some (a.add fd.offset))) else False
  | .indexAddr t x i => match C.P.underlying t with
    | some (.array len elem) => if szOk C.P elem then wv (ev e x) fun x => wv (ev e i) fun i => onPtr x fun a => onAny i fun n => (0 ≤ n ∧ n < (len : Int)) ∧ K (.pointer (some (a.add (n.toNat * szOf C.P elem)))) else False
    | some (.slice elem) => if szOk C.P elem then wv (ev e x) fun x => wv (ev e i) fun i => onSl x fun a len _ => onAny i fun n => (0 ≤ n ∧ n < (len : Int)) ∧ onO a fun a => K (.pointer (some (a.add (n.toNat * szOf C.P elem)))) else False
    | _ => False
  | .extract x i => wv (ev e x) fun x => onTup i x fun v => typed C.P o.type v K
  | .load t x => match C.P.underlying t with
    | some (.struct _) | some (.array ..) => if szOk C.P t then wv (ev e x) fun x => onPtr x fun a => ldR h a (szOf C.P t) fun vs => K (.agg vs) else False
    | some (.int k) => wv (ev e x) fun x => onPtr x fun a => ldI h a k fun n => K (.int k n)
    | some .bool => wv (ev e x) fun x => onPtr x fun a => ldB h a fun b => K (.bool b)
    | some (.pointer _) => wv (ev e x) fun x => onPtr x fun a => ldP h a fun p => K (.pointer p)
    | some (.slice _) => wv (ev e x) fun x => onPtr x fun a => ldS h a fun p l c => K (.slice p l c)
    | some _ => wv (ev e x) fun x => onPtr x fun a => ld1 h a K
    | none => False
  | .slice t x lo hi none => match C.P.underlying t with
    | some (.array n elem) => if !szOk C.P elem then False else wv (ev e x) fun x => evO e lo fun lo => evO e hi fun hi => onPtr x fun a => slHi n n hi fun hh => slLo hh lo fun l => K (.slice (slAddr (some a) l n (szOf C.P elem)) (hh - l) (n - l))
    | some (.slice elem) => if !szOk C.P elem then False else wv (ev e x) fun x => evO e lo fun lo => evO e hi fun hi => onSl x fun a len cap => slHi cap len hi fun hh => slLo hh lo fun l => K (.slice (slAddr a l cap (szOf C.P elem)) (hh - l) (cap - l))
    | _ => False
  | .build t parts => match C.P.underlying t with
    | some (.struct fs) => if hasZero C.P t && fs.toList.all (fun f => szOk C.P f.type) then evs e (parts.toList.map (·.2)) [] fun vs => onO (fplaces C.P fs ((parts.toList.map (·.1)).zip vs)) fun pl => onO (fillL (zeroOf C.P t).toList pl) fun cs => K (.agg cs.toArray) else False
    | _ => False
  | .call { callee := .builtin .len, args, argTypes } => match argTypes.toList, args.toList with
    | [t], [x] => (match C.P.underlying t with | some (.slice _) => wv (ev e x) fun x => onSl x fun _ n _ => K (.int .i64 n) | _ => False)
    | _, _ => False
  | .call { callee := .builtin .min, args, .. } => match args.toList with
    | [x, y] => wv (ev e x) fun x => wv (ev e y) fun y => onI .i64 x fun a => onI .i64 y fun b => K (.int .i64 (if b < a then b else a))
    | _ => False
  | .call { callee := .builtin .max, args, .. } => match args.toList with
    | [x, y] => wv (ev e x) fun x => wv (ev e y) fun y => onI .i64 x fun a => onI .i64 y fun b => K (.int .i64 (if a < b then b else a))
    | _ => False
  | _ => False

/-- Does it look at memory? Is it one of those that turn nothing? -/
inductive Srt where | pure | read | act
  deriving DecidableEq

def sortOf (C : Ctx) (o : Oper) : Srt :=
  match o.op with
  | .move _ | .assign _ | .pick .. | .nilCheck _ | .unOp .. | .makeInterface .. | .makeFunc .. | .fieldAddr .. | .indexAddr .. | .extract .. | .slice .. | .build .. | .binOp .. => .pure
  | .convert _ d _ => match C.P.underlying d with | some .string => .act | _ => .pure
  | .load .. => .read
  | .call { callee := .builtin .len, .. } | .call { callee := .builtin .min, .. } | .call { callee := .builtin .max, .. } => .pure
  | _ => .act

/-- An operation that acts. -/
def aop (C : Ctx) (e : Env) (h : Hp) (o : Oper) (K : Value → Hp → Prop) : Prop :=
  match o.op with
  | .alloc t => if hasZero C.P t then K (.pointer (some ⟨h.size, 0, none⟩)) (h.push (.cells (zeroOf C.P t) t)) else False
  | .box t x => wv (ev e x) fun v => K (.pointer (some ⟨h.size, 0, none⟩)) (h.push (.cells v.cells t))
  | .buildSlice t n parts => match C.P.underlying t with
    | some (.slice elem) => if hasZero C.P elem && !Nat.beq (n * szOf C.P elem) 0 && Nat.ble (n * szOf C.P elem) 16777216 then
        evs e (parts.toList.map (·.2)) [] fun vs => onO (fillL (zerosN (zeroOf C.P elem) (n * szOf C.P elem)).toList (((parts.toList.map (·.1)).zip vs).map fun p => (p.1 * szOf C.P elem, szOf C.P elem, p.2))) fun cs =>
          K (.slice (some ⟨h.size, 0, none⟩) n n) (h.push (.cells cs.toArray elem)) else False
    | _ => False
  | .store t a x => if !szOk C.P t then False else wv (ev e a) fun a => wv (ev e x) fun x => onPtr a fun a => szIs x.cells.size (szOf C.P t) (st h a x.cells fun h' => K undef h')
  | .makeSlice t l c => match C.P.underlying t with
    | some (.slice elem) => if hasZero C.P elem then wv (ev e l) fun l => wv (ev e c) fun c => mkSl elem (szOf C.P elem) (byOf C.P elem) (zeroOf C.P elem) l c h K else False
    | _ => False
  | .convert src dst x => match C.P.underlying src, C.P.underlying dst with
    | some (.slice el), some .string => (match C.P.underlying el with | some (.int .u8) => wv (ev e x) fun x => b2s h x fun s => K (.string s) h | _ => False)
    | _, _ => False
  | .call { callee := .builtin .append, args, argTypes } => match argTypes.toList, args.toList with
    | [t, u], [s, x] => (match C.P.underlying t, C.P.underlying u with
      | some (.slice elem), some (.slice _) => if hasZero C.P elem then wv (ev e s) fun s => wv (ev e x) fun x => apnd elem (szOf C.P elem) (byOf C.P elem) (zeroOf C.P elem) s x h K else False
      | _, _ => False)
    | _, _ => False
  | .call { callee := .builtin .copy, args, argTypes } => match argTypes.toList, args.toList with
    | [t, _], [d, x] => (match C.P.underlying t with
      | some (.slice elem) => if !szOk C.P elem then False else wv (ev e d) fun d => wv (ev e x) fun x => cpy (szOf C.P elem) d x h K
      | _ => False)
    | _, _ => False
  | .call { callee := .value (.func f), args, .. } => if C.ok.contains f then evs e args.toList [] fun vs => Run C.P f vs.toArray h fun v h' => typed C.P o.type v fun v => K v h' else False
  | .call { callee := .value (.tmp t), args, .. } => wv (Env.get e t) fun v => evs e args.toList [] fun vs => callV C v vs.toArray h fun v h' => typed C.P o.type v fun v => K v h'
  | .call { callee := .invoke x name, args, .. } => wv (ev e x) fun v => evs e args.toList [] fun vs => invk C v name vs.toArray h fun v h' => typed C.P o.type v fun v => K v h'
  | _ => False

/-- One operation, whatever its kind. -/
def cop (C : Ctx) (e : Env) (h : Hp) (o : Oper) (K : Value → Hp → Prop) : Prop :=
  match sortOf C o with
  | .act => aop C e h o K
  | _ => qop C e h o fun v => K v h

/-! ### Regions -/

/-- The guard of an operation: carried out, or passed over. -/
def gd (ops : Array Oper) (o : Oper) (e : Env) (A B : Env → Prop) : Prop :=
  match o.guard with
  | none => A e
  | some (j, want) => onO ((ops[j]?).bind (·.dst)) fun d => wv (Env.get e d) fun v => match want with
    | true => onG v (A ((d, .bool true) :: e)) (B ((d, .bool false) :: e)) (B e)
    | false => onG v (B ((d, .bool true) :: e)) (A ((d, .bool false) :: e)) (B e)

def cops (C : Ctx) (ops : Array Oper) : List Oper → Env → Hp → (Env → Hp → Prop) → Prop
  | [], e, h, N => N e h
  | o :: r, e, h, N => gd ops o e (fun e => cop C e h o fun v h' => cops C ops r (Env.put e o.dst v) h' N) (fun e => cops C ops r (Env.put e o.dst undef) h N)

def dstOk (n : Nat) (ops : List Oper) : Bool := ops.all fun o => match o.dst with | some d => Nat.blt d n | none => true

/-- A region whose order is drawn, in one order that serves for all: what looks at memory looks at it as it was when the last turning operation was over. -/
def cdraw (C : Ctx) (ops : Array Oper) (nS : List Nat) : List Nat → Hp → Env → Hp → (Env → Hp → Prop) → Prop
  | [], _, e, h, N => N e h
  | i :: r, hs, e, h, N => onO ops[i]? fun o => match sortOf C o with
    | .act => gd ops o e (fun e => aop C e h o fun v h' => if nS.contains i then Keep hs h' ∧ cdraw C ops nS r hs (Env.put e o.dst v) h' N else cdraw C ops nS r h' (Env.put e o.dst v) h' N)
        (fun e => if nS.contains i then cdraw C ops nS r hs (Env.put e o.dst undef) h N else cdraw C ops nS r h (Env.put e o.dst undef) h N)
    | _ => gd ops o e (fun e => qop C e hs o fun v => cdraw C ops nS r hs (Env.put e o.dst v) h N) (fun e => cdraw C ops nS r hs (Env.put e o.dst undef) h N)

/-- Behind operation j the blocks still stand as they stood. -/
def nSof (C : Ctx) (ops : Array Oper) (nS : List Nat) (j : Nat) : Bool :=
  match ops[j]? with
  | none => true
  | some o => (match sortOf C o with | .act => nS.contains j | _ => true)

/-- The operations on which one waits, as a mask. -/
def pm (o : Oper) : Nat := o.after.toList.foldl (fun s ed => bif Region.binds .any ed then Nat.lor s (2 ^ ed.on) else s) 0
def subM (a b : Nat) : Bool := Nat.beq (Nat.land a b) a

/-- All that can come while operation i has not. -/
def closM : List Oper → Nat → Nat → Nat → Nat → Nat
  | [], _, _, _, S => S
  | o :: r, j, i, L, S => closM r (j + 1) i L (bif Nat.testBit L j || (!Nat.beq j i && subM (pm o) S) then Nat.lor S (2 ^ j) else S)

/-- Is it closed? -/
def closedM : List Oper → Nat → Nat → Nat → Nat → Bool
  | [], _, _, _, _ => true
  | o :: r, j, i, L, S => (!Nat.testBit L j || Nat.testBit S j) && (Nat.beq j i || !subM (pm o) S || Nat.testBit S j) && closedM r (j + 1) i L S

/-- Whatever may come ahead of operation i goes with it. -/
def freeM (C : Ctx) (ops : Array Oper) (nS : List Nat) (oi : Oper) (rd : Bool) : List Oper → Nat → Nat → Nat → Bool
  | [], _, _, _ => true
  | o :: r, j, L, S => (!Nat.testBit S j || Nat.testBit L j || (oi.apart ops o && (!rd || nSof C ops nS j))) && freeM C ops nS oi rd r (j + 1) L S

/-- No other may come. -/
def onlyM : List Oper → Nat → Nat → Nat → Bool
  | [], _, _, _ => true
  | o :: r, j, i, L => (Nat.beq j i || Nat.testBit L j || !subM (pm o) L) && onlyM r (j + 1) i L

def allM : List Oper → Nat → Nat → Bool
  | [], _, _ => true
  | _ :: r, j, L => Nat.testBit L j && allM r (j + 1) L

def ordOk (C : Ctx) (ops : Array Oper) (nS : List Nat) : List Nat → Nat → Bool
  | [], L => allM ops.toList 0 L
  | i :: r, L => (match ops[i]? with
    | none => false
    | some o => !Nat.testBit L i && subM (pm o) L && (match sortOf C o with
      | .act => onlyM ops.toList 0 i L
      | k => let S := closM ops.toList 0 i L 0
        !Nat.testBit S i && closedM ops.toList 0 i L S && freeM C ops nS o (match k with | .read => true | _ => false) ops.toList 0 L S)) && ordOk C ops nS r (Nat.lor L (2 ^ i))

/-! ### Code -/

inductive Ty where | ti (k : IntKind) | tb | tp | ts | tv

def Ty.T : Ty → Type
  | .ti _ => Int
  | .tb => Bool
  | .tp => Option Addr
  | .ts => Option Addr × Nat × Nat
  | .tv => Value
def Ty.val : (t : Ty) → t.T → Value
  | .ti k, n => .int k n
  | .tb, b => .bool b
  | .tp, a => .pointer a
  | .ts, x => .slice x.1 x.2.1 x.2.2
  | .tv, v => v
def Ty.on : (t : Ty) → Value → (t.T → Prop) → Prop
  | .ti k, v, K => onI k v K
  | .tb, v, K => onB v K
  | .tp, v, K => onP v K
  | .ts, v, K => onSl v fun a l c => K (a, l, c)
  | .tv, v, K => K v

/-- The slots that a loop or a cut keeps. -/
abbrev Slots := List (Nat × Ty)
def Tup : Slots → Type
  | [] => Unit
  | x :: r => x.2.T × Tup r
def Tup.env : (ts : Slots) → Tup ts → Env
  | [], _ => []
  | x :: r, s => (x.1, x.2.val s.1) :: Tup.env r s.2
def Tup.of : (ts : Slots) → Env → (Tup ts → Prop) → Prop
  | [], _, K => K ()
  | x :: r, e, K => wv (Env.get e x.1) fun v => x.2.on v fun y => Tup.of r e fun s => K (y, s)

def LoopI {σ : Type} (body : σ → Hp → (σ → Hp → Prop) → Prop) (s : σ) (h : Hp) : Prop :=
  ∃ (I : σ → Hp → Prop) (μ : σ → Hp → Nat), I s h ∧ ∀ s h, I s h → body s h fun s' h' => I s' h' ∧ μ s' h' < μ s h

def Cut {σ : Type} (rest : σ → Hp → Prop) (use : (σ → Hp → Prop) → Prop) : Prop :=
  ∃ J : σ → Hp → Prop, (∀ s h, J s h → rest s h) ∧ use J

structure Hints where
  loops : List (Nat × Slots) := []
  cuts : List (Nat × Slots) := []
  draws : List (Nat × List Nat × List Nat) := []

def assoc {α : Type} : List (Nat × α) → Nat → Option α
  | [], _ => none
  | (k, v) :: r, t => bif Nat.beq k t then some v else assoc r t

/-- The number of the first region of a piece of code. -/
def first : Code → Option Nat
  | .region id _ _ => some id
  | .seq a b => match first a with | some i => some i | none => first b
  | .cond _ a b => match first a with | some i => some i | none => first b
  | .block _ c => first c
  | .loop c => first c
  | _ => none

/-- The slots that a piece of code writes. -/
def wr : Code → List Nat
  | .region _ ops _ => ops.toList.filterMap (·.dst)
  | .seq a b => wr a ++ wr b
  | .cond _ a b => wr a ++ wr b
  | .block _ c => wr c
  | .loop c => wr c
  | _ => []

def memN : List Nat → Nat → Bool
  | [], _ => false
  | x :: r, t => bif Nat.beq x t then true else memN r t

/-- What is known of slots that are not written. -/
def keepE (ws : List Nat) : Env → Env
  | [] => []
  | x :: r => bif memN ws x.1 then keepE ws r else x :: keepE ws r

def hintOf {α : Type} (l : List (Nat × α)) (c : Code) : Option α := match l with | [] => none | l => (match first c with | some i => assoc l i | none => none)

def cwp (C : Ctx) (H : Hints) (n : Nat) : Code → Env → Hp → (Env → Hp → Prop) → (Nat → Env → Hp → Prop) → (Env → Hp → Prop) → Prop
  | .skip, e, h, N, _, _ => N e h
  | .ret, e, h, _, _, R => R e h
  | .exit id, e, h, _, E, _ => E id e h
  | .region id ops draw, e, h, N, _, _ => if dstOk n ops.toList then (match draw with
      | false => cops C ops ops.toList e h N
      | true => (match assoc H.draws id with
        | some (ord, nS) => if ordOk C ops nS ord 0 && Region.noSelect ops && Nat.ble ord.length ops.size then cdraw C ops nS ord h e h N else False
        | none => False)) else False
  | .seq a b, e, h, N, E, R => match hintOf H.cuts b with
      | some ts => Cut (fun st h => cwp C H n b (Tup.env ts st ++ keepE (wr a) e) h N E R) fun J => cwp C H n a e h (fun e' h' => Tup.of ts e' fun st => J st h') E R
      | none => cwp C H n a e h (fun e' h' => cwp C H n b e' h' N E R) E R
  | .cond c a b, e, h, N, E, R => wv (ev e c) fun v => onBool v (cwp C H n a e h N E R) (cwp C H n b e h N E R)
  | .block id c, e, h, N, E, R => cwp C H n c e h N (fun i e h => bif Nat.beq i id then N e h else E i e h) R
  | .loop c, e, h, _, E, R => match hintOf H.loops c with
      | some ts => Tup.of ts e fun st0 => LoopI (fun st h K => cwp C H n c (Tup.env ts st ++ keepE (wr c) e) h (fun e' h' => Tup.of ts e' fun st' => K st' h') E R) st0 h
      | none => False
  | _, _, _, _, _, _ => False

def resK (P : Program) : List ResultVar → Env → Hp → List Value → (List Value → Prop) → Prop
  | [], _, _, acc, K => K acc.reverse
  | .tmp t :: r, e, h, acc, K => wv (Env.get e t) fun v => resK P r e h (v :: acc) K
  | .cell a t :: r, e, h, acc, K => match P.underlying t with
    | some (.struct _) | some (.array ..) => if !szOk P t then False else wv (Env.get e a) fun x => onPtr x fun a => ldR h a (szOf P t) fun v => resK P r e h (.agg v :: acc) K
    | some _ => wv (Env.get e a) fun x => onPtr x fun a => ld1 h a fun v => resK P r e h (v :: acc) K
    | none => False

def tupOf : List Value → Value
  | [v] => v
  | vs => .tuple vs.toArray

def env0 : List Value → Nat → Env
  | [], _ => []
  | v :: r, i => (i, v) :: env0 r (i + 1)

def cwpF (C : Ctx) (H : Hints) (fn : Func) (args : Array Value) (h : Hp) (K : Value → Hp → Prop) : Prop :=
  match fn.body with
  | none => False
  | some c => if Nat.ble args.size fn.ntmps then cwp C H fn.ntmps c (env0 args.toList 0) h (fun e h => resK C.P fn.results.toList e h [] fun vs => K (tupOf vs) h) (fun _ _ _ => False) (fun e h => resK C.P fn.results.toList e h [] fun vs => K (tupOf vs) h) else False

end Am
end Go.Proofs.Ytfijmoofdafoiaa
