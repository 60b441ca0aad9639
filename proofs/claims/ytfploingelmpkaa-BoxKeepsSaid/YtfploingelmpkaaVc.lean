/-
  The conditions (VC) of a piece of code, as plain functions on the model: over any program.
-/
import Derived.WalkKit
import Derived.Laws.StructEq
import Derived.Laws.Tables
namespace Go.Vc

abbrev Env := Nat → Value

def ev (g : Env) : Operand → Value
  | .tmp t => g t
  | .const v => v
  | .global k => .pointer (some ⟨k, 0, none⟩)
  | .func f => .func (.func f) #[] #[]

def put (g : Env) (d : Nat) (v : Value) : Env := fun t => match Nat.beq t d with | true => v | false => g t
def putO (g : Env) (d : Option Nat) (v : Value) : Env := match d with | some d => put g d v | none => g

/-! the small words of a condition -/
def kindEq (a b : IntKind) : Bool := decide (a = b)
def TInt (k : IntKind) (v : Value) (C : Int → Prop) : Prop := match v with
  | .int k' n => (match kindEq k' k with | true => C n | false => False)
  | _ => False
def TBool (v : Value) (C : Bool → Prop) : Prop := match v with | .bool b => C b | _ => False
def TStr (v : Value) (C : ByteArray → Prop) : Prop := match v with | .string s => C s | _ => False
def TPtr (v : Value) (C : Option Addr → Prop) : Prop := match v with | .pointer a => C a | _ => False
def TSl (v : Value) (C : Option Addr → Nat → Nat → Prop) : Prop := match v with | .slice a l c => C a l c | _ => False
def TAgg (v : Value) (C : Array Value → Prop) : Prop := match v with | .agg cs => C cs | _ => False
def TMap (v : Value) (C : Option Nat → Prop) : Prop := match v with | .map r => C r | _ => False
def TChan (v : Value) (C : Option Nat → Prop) : Prop := match v with | .chan r => C r | _ => False
def TV1 (P : Program) (t : TypeId) (v : Value) (C : Value → Prop) : Prop :=
  match P.underlying t with
  | some (.int k) => TInt k v fun n => C (.int k n)
  | some .bool => TBool v fun b => C (.bool b)
  | some .string => TStr v fun s => C (.string s)
  | some (.pointer _) => TPtr v fun a => C (.pointer a)
  | some (.slice _) => TSl v fun a l c => C (.slice a l c)
  | some (.struct _) => TAgg v fun cs => C (.agg cs)
  | some (.array _ _) => TAgg v fun cs => C (.agg cs)
  | some (.map _ _) => TMap v fun r => C (.map r)
  | some (.chan _ _) => TChan v fun r => C (.chan r)
  | _ => C v
def T2 (v : Value) (C : Value → Value → Prop) : Prop := match v with
  | .tuple vs => (match vs.toList with | [x, y] => C x y | _ => False)
  | _ => False
def T3 (v : Value) (C : Value → Value → Value → Prop) : Prop := match v with
  | .tuple vs => (match vs.toList with | [x, y, z] => C x y z | _ => False)
  | _ => False
def T4 (v : Value) (C : Value → Value → Value → Value → Prop) : Prop := match v with
  | .tuple vs => (match vs.toList with | [x, y, z, u] => C x y z u | _ => False)
  | _ => False
def TV (P : Program) (t : TypeId) (v : Value) (C : Value → Prop) : Prop :=
  match P.underlying t with
  | some (.tuple ts) => (match ts.toList with
    | [] => C v
    | [a, b] => T2 v fun x y => TV1 P a x fun x => TV1 P b y fun y => C (.tuple #[x, y])
    | [a, b, c] => T3 v fun x y z => TV1 P a x fun x => TV1 P b y fun y => TV1 P c z fun z => C (.tuple #[x, y, z])
    | [a, b, c, d] => T4 v fun x y z u => TV1 P a x fun x => TV1 P b y fun y => TV1 P c z fun z => TV1 P d u fun u => C (.tuple #[x, y, z, u])
    | _ => False)
  | _ => TV1 P t v C

def BS (b : Bool) (A B : Prop) : Prop := match b with | true => A | false => B
def Req (b : Bool) (C : Prop) : Prop := match b with | true => C | false => False
def TSome (o : Option Addr) (C : Addr → Prop) : Prop := match o with | some a => C a | none => False
def TCell (cs : Array Value) (i : Nat) (C : Value → Prop) : Prop := match cs[i]? with | some v => C v | none => False
def TByte (s : ByteArray) (i : Nat) (C : Int → Prop) : Prop := match s[i]? with | some b => C (b.toNat : Int) | none => False
def LoadC (w : World) (a : Addr) (C : Value → Prop) : Prop := match w.cell? a with | some v => C v | none => False
def LoadA (w : World) (a : Addr) (n : Nat) (C : Array Value → Prop) : Prop :=
  ∃ cs : Array Value, (cs.size = n ∧ ∀ i, i < n → w.cell? (a.add i) = cs[i]?) ∧ C cs
def oneCellB : Value → Bool
  | .agg _ | .tuple _ => false
  | _ => true
def StoreC (w : World) (a : Addr) (v : Value) (C : World → Prop) : Prop :=
  ((w.cell? a).isSome = true ∧ w.frozen? a = false) ∧ C (w.setCell a v)
def AllocC (w : World) (o : Obj) (C : Nat → World → Prop) : Prop := C w.heap.size (w.alloc o)
def DrewC (w : World) (C : World → Prop) : Prop := C w.drew
def RunV (P : Program) (s : Sem Value) (w : World) (C : Value → World → Prop) : Prop :=
  match s.run P w with | .ok v w' => C v w' | .halt _ _ => False
def RunU (P : Program) (s : Sem Unit) (w : World) (C : World → Prop) : Prop :=
  match s.run P w with | .ok _ w' => C w' | .halt _ _ => False
def CallV (P : Program) (f : FuncId) (args : Array Value) (w : World) (C : Value → World → Prop) : Prop :=
  Calls P f args w fun e w' => ∃ v, e = .returned v ∧ C v w'
/-- a function of no body: the model's own entry -/
def ExtV (P : Program) (f : FuncId) (args : Array Value) (w : World) (C : Value → World → Prop) : Prop := ∃ v w', (callFunc f args).run P w = .ok (.value v) w' ∧ C v w'
def EqA (P : Program) (o : BinOp) (t : TypeId) (x y : Operand) (a b : Value) (C : Bool → Prop) : Prop :=
  ∃ r : Bool, (∀ w, (do eqGuard o t x y a b; binOp o t a b : Sem Value).run P w = .ok (.bool r) w) ∧ C r

/-! operations that look at no memory -/
def bitsV (op : BinOp) (k : IntKind) (a b : Int) : Int :=
  match op with
  | .and => k.wrap (BitVec.ofInt k.bits a &&& BitVec.ofInt k.bits b).toNat
  | .or => k.wrap (BitVec.ofInt k.bits a ||| BitVec.ofInt k.bits b).toNat
  | .xor => k.wrap (BitVec.ofInt k.bits a ^^^ BitVec.ofInt k.bits b).toNat
  | _ => k.wrap (BitVec.ofInt k.bits a &&& ~~~BitVec.ofInt k.bits b).toNat
def shlV (k : IntKind) (a b : Int) : Int := k.wrap (a * 2 ^ min b.toNat k.bits)
def shrV (k : IntKind) (a b : Int) : Int := a.fdiv (2 ^ min b.toNat k.bits)
def intK (op : BinOp) (k : IntKind) (a : Int) (k' : IntKind) (b : Int) (K : Value → Prop) : Prop :=
  match op with
  | .shl => Req (decide (0 ≤ b)) (K (.int k (shlV k a b)))
  | .shr => Req (decide (0 ≤ b)) (K (.int k (shrV k a b)))
  | op => match kindEq k k' with
    | false => False
    | true => match op with
      | .add => K (.int k (k.wrap (a + b)))
      | .sub => K (.int k (k.wrap (a - b)))
      | .mul => K (.int k (k.wrap (a * b)))
      | .quo => Req (!decide (b = 0)) (K (.int k (k.wrap (a.tdiv b))))
      | .rem => Req (!decide (b = 0)) (K (.int k (a.tmod b)))
      | .and => K (.int k (bitsV .and k a b))
      | .or => K (.int k (bitsV .or k a b))
      | .xor => K (.int k (bitsV .xor k a b))
      | .andNot => K (.int k (bitsV .andNot k a b))
      | .eql => K (.bool (a == b))
      | .neq => K (.bool (a != b))
      | .lss => K (.bool (decide (a < b)))
      | .leq => K (.bool (decide (a ≤ b)))
      | .gtr => K (.bool (decide (a > b)))
      | .geq => K (.bool (decide (a ≥ b)))
      | _ => False
def strEq (x y : ByteArray) : Bool := x.toList == y.toList
def strLt (x y : ByteArray) : Bool := Op.bytesLess x.toList y.toList
def strK (op : BinOp) (x y : ByteArray) (K : Value → Prop) : Prop :=
  match op with
  | .add => Req (decide (x.size + y.size ≤ 9223372036854775807)) (K (.string (x ++ y)))
  | .eql => K (.bool (strEq x y))
  | .neq => K (.bool (!strEq x y))
  | .lss => K (.bool (strLt x y))
  | .leq => K (.bool (strLt x y || strEq x y))
  | .gtr => K (.bool (!(strLt x y || strEq x y)))
  | .geq => K (.bool (!strLt x y))
  | _ => False
def isBoolT (P : Program) (t : TypeId) : Bool := match P.underlying t with | some .bool => true | _ => false
def isPtrT (P : Program) (t : TypeId) : Bool := match P.underlying t with | some (.pointer _) => true | _ => false
def isSliceT (P : Program) (t : TypeId) : Bool := match P.underlying t with | some (.slice _) => true | _ => false
def isStrT (P : Program) (t : TypeId) : Bool := match P.underlying t with | some .string => true | _ => false
def binK (P : Program) (op : BinOp) (t : TypeId) (x y : Operand) (a b : Value) (K : Value → Prop) : Prop :=
  match a, b with
  | .int k m, .int k' n => intK op k m k' n K
  | .string m, .string n => strK op m n K
  | .bool m, .bool n => (match isBoolT P t, op with
    | true, .eql => K (.bool (m == n))
    | true, .neq => K (.bool (!(m == n)))
    | _, _ => False)
  | .pointer m, .pointer none => (match isPtrT P t, op with
    | true, .eql => K (.bool m.isNone)
    | true, .neq => K (.bool (!m.isNone))
    | _, _ => False)
  | .slice m _ _, .slice none 0 0 => (match isSliceT P t, op with
    | true, .eql => K (.bool m.isNone)
    | true, .neq => K (.bool (!m.isNone))
    | _, _ => False)
  | .agg m, .agg n => (match op with
    | .eql => EqA P .eql t x y (.agg m) (.agg n) fun r => K (.bool r)
    | .neq => EqA P .neq t x y (.agg m) (.agg n) fun r => K (.bool r)
    | _ => False)
  | _, _ => False
def unK (op : UnOp) (a : Value) (K : Value → Prop) : Prop :=
  match op, a with
  | .not, .bool b => K (.bool !b)
  | .neg, .int k n => K (.int k (k.wrap (0 - n)))
  | .xor, .int k n => K (.int k (bitsV .xor k (if k.signed then -1 else k.max) n))
  | _, _ => False
def pickV (b : Bool) (x y : Value) : Value :=
  match x, y with
  | .bool p, .bool q => .bool (cond b p q)
  | x, y => match b with | true => x | false => y
/-- where a field lies: 'none' for one of no cells -/
def fieldOff (P : Program) (s : TypeId) (f : Nat) : Option Nat :=
  match P.underlying s with
  | some (.struct fs) => (match fs[f]? with
    | some fd => (match P.info? fd.type with
      | some i => (match Nat.beq i.size 0 with | true => none | false => some fd.offset)
      | none => none)
    | none => none)
  | _ => none
def isAggB (P : Program) (t : TypeId) : Option Bool := match P.underlying t with
  | some (.struct _) => some true
  | some (.array _ _) => some true
  | some _ => some false
  | none => none
def sizeB (P : Program) (t : TypeId) : Option Nat := match P.info? t with | some i => some i.size | none => none
/-- a part of a struct or an array -/
def partK (P : Program) (t : TypeId) (cs : Array Value) (off : Nat) (K : Value → Prop) : Prop :=
  match isAggB P t with
  | some true => (match sizeB P t with | some n => K (.agg (cs.extract off (off + n))) | none => False)
  | some false => TCell cs off fun v => TV1 P t v K
  | none => False
def fieldK (P : Program) (s : TypeId) (v : Value) (f : Nat) (K : Value → Prop) : Prop :=
  match P.underlying s, v with
  | some (.struct fs), .agg cs => (match fs[f]? with | some fd => partK P fd.type cs fd.offset K | none => False)
  | _, _ => False
def bnd (i : Int) (n : Nat) : Bool := decide (0 ≤ i ∧ i < (n : Int))
def bndle (i : Int) (n : Nat) : Bool := decide (0 ≤ i ∧ i ≤ (n : Int))
def indexAddrK (P : Program) (t : TypeId) (x i : Value) (K : Value → Prop) : Prop :=
  match i with
  | .int _ i => (match P.underlying t, x with
    | some (.array n e), .pointer (some a) => (match sizeB P e with | some z => Req (bnd i n) (K (.pointer (some (a.add (i.toNat * z))))) | none => False)
    | some (.slice e), .slice o l _ => (match sizeB P e with | some z => Req (bnd i l) (TSome o fun a => K (.pointer (some (a.add (i.toNat * z))))) | none => False)
    | _, _ => False)
  | _ => False
def indexK (P : Program) (t : TypeId) (x i : Value) (K : Value → Prop) : Prop :=
  match i with
  | .int _ i => (match P.underlying t, x with
    | some (.array n e), .agg cs => (match sizeB P e with | some z => Req (bnd i n) (partK P e cs (i.toNat * z) K) | none => False)
    | some .string, .string s => Req (bnd i s.size) (TByte s i.toNat fun b => K (.int .u8 b))
    | _, _ => False)
  | _ => False
def slBase (o : Option Addr) (m l z : Nat) : Option Addr := if m = l then o else o.map fun a => a.add (l * z)
def slice3K (P : Program) (t : TypeId) (x : Value) (lo hi : Option Value) (mv : Value) (K : Value → Prop) : Prop :=
  match P.underlying t, x with
  | some (.slice e), .slice o _ cap => (match sizeB P e, lo, hi, mv with
    | some z, some (.int _ l), some (.int _ h), .int _ m => Req (bndle m cap) (Req (bndle h m.toNat) (Req (bndle l h.toNat) (K (.slice (slBase o m.toNat l.toNat z) (h.toNat - l.toNat) (m.toNat - l.toNat)))))
    | _, _, _, _ => False)
  | _, _ => False
def sliceK (P : Program) (t : TypeId) (x : Value) (lo hi mx : Option Value) (K : Value → Prop) : Prop :=
  match mx with
  | some mv => slice3K P t x lo hi mv K
  | none => match P.underlying t, x with
    | some .string, .string s => (match lo, hi with
      | none, none => K (.string (s.extract 0 s.size))
      | none, some (.int _ h) => Req (bndle h s.size) (K (.string (s.extract 0 h.toNat)))
      | some (.int _ l), none => Req (bndle l s.size) (K (.string (s.extract l.toNat s.size)))
      | some (.int _ l), some (.int _ h) => Req (bndle h s.size) (Req (bndle l h.toNat) (K (.string (s.extract l.toNat h.toNat))))
      | _, _ => False)
    | some (.slice e), .slice o len cap => (match sizeB P e with
      | none => False
      | some z => (match lo, hi with
        | none, none => K (.slice (slBase o cap 0 z) (len - 0) (cap - 0))
        | none, some (.int _ h) => Req (bndle h cap) (K (.slice (slBase o cap 0 z) (h.toNat - 0) (cap - 0)))
        | some (.int _ l), none => Req (bndle l len) (K (.slice (slBase o cap l.toNat z) (len - l.toNat) (cap - l.toNat)))
        | some (.int _ l), some (.int _ h) => Req (bndle h cap) (Req (bndle l h.toNat) (K (.slice (slBase o cap l.toNat z) (h.toNat - l.toNat) (cap - l.toNat))))
        | _, _ => False))
    | some (.array n e), .pointer (some a) => (match sizeB P e with
      | none => False
      | some z => (match lo, hi with
        | none, none => K (.slice (slBase (some a) n 0 z) (n - 0) (n - 0))
        | none, some (.int _ h) => Req (bndle h n) (K (.slice (slBase (some a) n 0 z) (h.toNat - 0) (n - 0)))
        | some (.int _ l), none => Req (bndle l n) (K (.slice (slBase (some a) n l.toNat z) (n - l.toNat) (n - l.toNat)))
        | some (.int _ l), some (.int _ h) => Req (bndle h n) (Req (bndle l h.toNat) (K (.slice (slBase (some a) n l.toNat z) (h.toNat - l.toNat) (n - l.toNat))))
        | _, _ => False))
    | _, _ => False
def nilK (v : Value) (K : Value → Prop) : Prop :=
  match v with
  | .pointer o => TSome o fun a => K (.pointer (some a))
  | .func (.func f) x c => K (.func (.func f) x c)
  | _ => False
def convK (P : Program) (s t : TypeId) (v : Value) (K : Value → Prop) : Prop :=
  match P.underlying s, P.underlying t, v with
  | some (.int _), some (.int k), .int _ n => K (.int k (k.wrap n))
  | some .string, some .string, .string x => K (.string x)
  | _, _, _ => False
/-- a conversion that looks at no memory -/
def convPure (P : Program) (s t : TypeId) : Bool :=
  match P.underlying s, P.underlying t with
  | some (.int _), some (.int _) => true
  | some .string, some .string => true
  | _, _ => false
def lenPure (P : Program) (ts : Array TypeId) : Bool :=
  match ts[0]? with
  | some t => (match P.underlying t with | some .string => true | some (.slice _) => true | some (.array _ _) => true | _ => false)
  | none => false
def lenK (P : Program) (ts : Array TypeId) (vs : Array Value) (K : Value → Prop) : Prop :=
  match ts[0]?, vs[0]? with
  | some t, some v => (match P.underlying t, v with
    | some .string, .string s => K (.int .i64 (s.size : Int))
    | some (.slice _), .slice _ l _ => K (.int .i64 (l : Int))
    | some (.array n _), _ => K (.int .i64 (n : Int))
    | _, _ => False)
  | _, _ => False
def maxK (mx : Bool) (vs : Array Value) (K : Value → Prop) : Prop :=
  match vs.toList with
  | [.int k a, .int k' b] => (match kindEq k k', mx with
    | true, true => K (.int k (max a b))
    | true, false => K (.int k (min a b))
    | _, _ => False)
  | _ => False
def extractK (v : Value) (i : Nat) (K : Value → Prop) : Prop :=
  match v with
  | .tuple vs => TCell vs i K
  | _ => False
abbrev OptP (o : Option Addr) (C : Addr → Prop) : Prop := match o with | some a => C a | none => False
def arrPtrK (P : Program) (t : TypeId) (v : Value) (K : Value → Prop) : Prop :=
  match P.underlying t, v with
  | some (.array n _), .slice o l _ => Req (decide (n ≤ l)) (OptP o fun a => K (.pointer (some a)))
  | _, _ => False
def buildCells (P : Program) (t : TypeId) (parts : List (Nat × Value)) : Option (Array Value) := P.built t parts
def TCells (o : Option (Array Value)) (C : Array Value → Prop) : Prop := match o with | some cs => C cs | none => False
def concreteB (P : Program) (t : TypeId) : Bool := match P.underlying t with | some (.interface _) => false | some _ => true | none => false

def isPure (P : Program) : Op → Bool
  | .move _ | .assign _ | .pick .. | .binOp .. | .unOp .. | .fieldAddr .. | .field .. | .indexAddr .. | .index .. | .extract ..
  | .nilCheck _ | .slice .. | .makeInterface .. | .makeFunc .. | .build .. | .sliceToArrayPointer .. => true
  | .convert s t _ => convPure P s t
  | .call c => (match c.callee with | .builtin .len => lenPure P c.argTypes | .builtin .cap => false | .builtin .max => true | .builtin .min => true | _ => false)
  | _ => false

def pureK (P : Program) (g : Env) (o : Op) (K : Value → Prop) : Prop :=
  match o with
  | .move x => K (ev g x)
  | .assign x => K (ev g x)
  | .pick c a b => (match ev g c with | .bool t => K (pickV t (ev g a) (ev g b)) | _ => False)
  | .binOp op t x y _ => binK P op t x y (ev g x) (ev g y) K
  | .unOp op _ x => unK op (ev g x) K
  | .convert s t x => convK P s t (ev g x) K
  | .fieldAddr s x f => (match fieldOff P s f, ev g x with
    | some n, .pointer (some a) => K (.pointer (some (a.add n)))
    | _, _ => False)
  | .field s x f => fieldK P s (ev g x) f K
  | .indexAddr t x i => indexAddrK P t (ev g x) (ev g i) K
  | .index t x i => indexK P t (ev g x) (ev g i) K
  | .extract x i => extractK (ev g x) i K
  | .nilCheck x => nilK (ev g x) K
  | .slice t x lo hi mx => sliceK P t (ev g x) (lo.map (ev g)) (hi.map (ev g)) (mx.map (ev g)) K
  | .makeInterface t x => (match concreteB P t with | true => K (.iface t (ev g x)) | false => False)
  | .makeFunc fn first captured => K (.func fn (first.map (ev g)) (captured.map (ev g)))
  | .build t parts => TCells (buildCells P t (parts.toList.map fun p => (p.1, ev g p.2))) fun cs => K (.agg cs)
  | .sliceToArrayPointer t x => arrPtrK P t (ev g x) K
  | .call c => (match c.callee with
    | .builtin .len => lenK P c.argTypes (c.args.map (ev g)) K
    | .builtin .max => maxK true (c.args.map (ev g)) K
    | .builtin .min => maxK false (c.args.map (ev g)) K
    | _ => False)
  | _ => False

/-! operations that look at memory, write it, or call -/
def sliceCells (P : Program) (t : TypeId) (len : Nat) (parts : List (Nat × Value)) : Option (TypeId × Array Value) :=
  match P.underlying t with
  | some (.slice e) => (match P.info? e with
    | some i => (match Nat.ble (len * i.size) 16777216 with
      | true => (match Nat.beq (len * i.size) 0 with
        | true => (match Instr.fill (fun k => some (k * i.size, i.size)) #[] parts with | some cs => some (e, cs) | none => none)
        | false => (match i.zero with
          | some z => (match Instr.fill (fun k => some (k * i.size, i.size)) ((Array.range (len * i.size)).map fun k => z.cells[k % z.cells.size]!) parts with
            | some cs => some (e, cs)
            | none => none)
          | none => none))
      | false => none)
    | none => none)
  | _ => none
def TElems (o : Option (TypeId × Array Value)) (C : TypeId → Array Value → Prop) : Prop := match o with | some x => C x.1 x.2 | none => False
/-- a slice literal of one element: its cells are the element's own -/
def buildSliceK (P : Program) (t : TypeId) (len : Nat) (parts : List (Nat × Value)) (w : World) (K : Value → World → Prop) : Prop :=
  match Nat.beq len 1, parts with
  | true, [(0, v)] => (match P.underlying t with
    | some (.slice e) => (match P.info? e with
      | some i => (match i.zero with
        | some _ => Req (Nat.beq v.cells.size i.size && (Nat.ble 1 i.size && Nat.ble i.size 16777216)) (AllocC w (.cells v.cells e) fun b w' => K (.slice (some ⟨b, 0, none⟩) 1 1) w')
        | none => False)
      | none => False)
    | _ => False)
  | _, _ => TElems (sliceCells P t len parts) fun e cs => AllocC w (.cells cs e) fun b w' => K (.slice (some ⟨b, 0, none⟩) len len) w'
def zeroB (P : Program) (t : TypeId) : Option Value := match P.info? t with | some i => i.zero | none => none
def builtinV (b : Builtin) (ts : Array TypeId) (t : TypeId) (vs : Array Value) : Sem Value :=
  match b with
  | .append => Builtin.append_ ts t vs
  | .cap => Builtin.cap_ ts t vs
  | .clear => Builtin.clear_ ts t vs
  | .copy => Builtin.copy_ ts t vs
  | .delete => Builtin.delete_ ts t vs
  | .len => Builtin.len_ ts t vs
  | _ => stuck ""
def builtinOk : Builtin → Bool
  | .append | .cap | .clear | .copy | .delete | .len => true
  | _ => false
def hasBody (P : Program) (f : FuncId) : Bool := match P.funcs[f]? with
  | some fn => (match fn.body with | some _ => true | none => false)
  | none => false
def isRead (P : Program) : Op → Bool
  | .load _ _ => true
  | .convert s t _ => (match P.underlying s, P.underlying t with
    | some (.slice e), some .string => (match P.underlying e with | some (.int .u8) => true | _ => false)
    | _, _ => false)
  | _ => false
def ReadV (P : Program) (s : Sem Value) (w : World) (C : Value → Prop) : Prop := ∃ v, s.run P w = .ok v w ∧ C v
def effK (P : Program) (g : Env) (o : Oper) (K : Value → World → Prop) (w : World) : Prop :=
  match o.op with
  | .load t x => (match ev g x with
    | .pointer (some a) => (match isAggB P t with
      | some true => (match sizeB P t with | some n => LoadA w a n fun cs => K (.agg cs) w | none => False)
      | some false => LoadC w a fun v => TV1 P t v fun v => K v w
      | none => False)
    | _ => False)
  | .store t x v => (match ev g x with
    | .pointer (some a) => (match isAggB P t with
      | some true => RunU P (storeVar t a (ev g v)) w fun w' => K undef w'
      | some false => (match sizeB P t with
        | some n => (match Nat.beq n 1 with
          | true => Req (oneCellB (ev g v)) (StoreC w a (ev g v) fun w' => K undef w')
          | false => False)
        | none => False)
      | none => False)
    | _ => False)
  | .alloc t => (match zeroB P t with | some z => AllocC w (.cells z.cells t) fun b w' => K (.pointer (some ⟨b, 0, none⟩)) w' | none => False)
  | .box t x => AllocC w (.cells (ev g x).cells t) fun b w' => K (.pointer (some ⟨b, 0, none⟩)) w'
  | .buildSlice t len parts => buildSliceK P t len (parts.toList.map fun p => (p.1, ev g p.2)) w K
  | .convert s t x => (match isRead P (.convert s t x) with
    | true => ReadV P (convert s t (ev g x)) w fun v => TV P t v fun v => K v w
    | false => RunV P (convert s t (ev g x)) w fun v w' => TV P t v fun v => K v w')
  | .makeSlice t l c => RunV P (Instr.makeSlice t (ev g l) (ev g c)) w fun v w' => TV P t v fun v => K v w'
  | .makeChan t n => RunV P (Instr.makeChan t (ev g n)) w fun v w' => TV P t v fun v => K v w'
  | .makeMap t r => RunV P (Instr.makeMap t (r.map (ev g))) w fun v w' => TV P t v fun v => K v w'
  | .lookup t x i ok => RunV P (Instr.lookup t (ev g x) (ev g i) ok) w fun v w' => TV P o.type v fun v => K v w'
  | .mapUpdate t m k x => RunU P (Instr.mapUpdate t (ev g m) (ev g k) (ev g x)) w fun w' => K undef w'
  | .range t x => RunV P (Instr.range t (ev g x)) w K
  | .next it s => RunV P (Instr.next (ev g it) s o.type) w K
  | .typeAssert x t a ok => RunV P (Instr.typeAssert (ev g x) t a ok) w fun v w' => TV P o.type v fun v => K v w'
  | .call c => (match c.callee with
    | .builtin b => (match builtinOk b with
      | true => RunV P (builtinV b c.argTypes o.type (c.args.map (ev g))) w fun v w' => TV P o.type v fun v => K v w'
      | false => False)
    | .value f => (match ev g f with
      | .func (.func fid) first captured => (match hasBody P fid with
        | true => CallV P fid (first ++ c.args.map (ev g) ++ captured) w fun v w' => TV P o.type v fun v => K v w'
        | false => ExtV P fid (first ++ c.args.map (ev g) ++ captured) w fun v w' => TV P o.type v fun v => K v w')
      | _ => False)
    | .invoke _ _ => False)
  | _ => False

def opK (P : Program) (g : Env) (o : Oper) (K : Value → World → Prop) (w : World) : Prop :=
  match isPure P o.op with
  | true => pureK P g o.op fun v => K v w
  | false => effK P g o K w

def gslot (ops : List Oper) (j : Nat) : Option Nat := match ops[j]? with | some o => o.dst | none => none
def stepG (P : Program) (ops : List Oper) (o : Oper) (K : Env → World → Prop) (g : Env) (w : World) : Prop :=
  match o.guard with
  | none => opK P g o (fun v w' => K (putO g o.dst v) w') w
  | some (j, want) => match gslot ops j with
    | none => False
    | some d => match g d with
      | .bool b => BS b
          (match want with
            | true => opK P (put g d (.bool true)) o (fun v w' => K (putO (put g d (.bool true)) o.dst v) w') w
            | false => K (putO (put g d (.bool true)) o.dst undef) w)
          (match want with
            | false => opK P (put g d (.bool false)) o (fun v w' => K (putO (put g d (.bool false)) o.dst v) w') w
            | true => K (putO (put g d (.bool false)) o.dst undef) w)
      | _ => K (putO g o.dst undef) w
def wpOpsG (P : Program) (ops : List Oper) (K : Env → World → Prop) : List Oper → Env → World → Prop
  | [], g, w => K g w
  | o :: r, g, w => stepG P ops o (wpOpsG P ops K r) g w

/-! a statement that leaves its order open: what is easy (looks at memory at most) is done as soon as it can be; of the others each that can be next is looked at;
behind each of them what was read ahead of it, and need not have been, must read as before -/
def isEasy (P : Program) (o : Op) : Bool := isPure P o || isRead P o
def edgeMask : List Edge → Nat
  | [] => 0
  | e :: r => match Region.binds .any e with | true => 2 ^ e.on ||| edgeMask r | false => edgeMask r
def readyB (L i : Nat) (o : Oper) : Bool := !Nat.testBit L i && Nat.beq (Nat.land (edgeMask o.after.toList) L) (edgeMask o.after.toList)
def firstEasy (P : Program) (L : Nat) : Nat → List Oper → Option Nat
  | _, [] => none
  | i, o :: r => match readyB L i o && isEasy P o.op with | true => some i | false => firstEasy P L (i + 1) r
def readyEffs (P : Program) (L : Nat) : Nat → List Oper → List Nat
  | _, [] => []
  | i, o :: r => match readyB L i o && !isEasy P o.op with | true => i :: readyEffs P L (i + 1) r | false => readyEffs P L (i + 1) r
def maskOf (acc : List Nat) : List Edge → Nat
  | [] => 0
  | e :: r => match Region.binds .any e with
    | true => 2 ^ e.on ||| (acc.getD e.on 0 ||| maskOf acc r)
    | false => maskOf acc r
def masks : List Oper → List Nat → List Nat
  | [], acc => acc
  | o :: r, acc => masks r (acc ++ [maskOf acc o.after.toList])
/-- what has been read, and need not have been, ahead of an operation whose forerunners are 'm' -/
def toCheck (P : Program) (L m : Nat) : Nat → List Oper → List Oper
  | _, [] => []
  | i, o :: r => match Nat.testBit L i && !Nat.testBit m i && isRead P o.op with | true => o :: toCheck P L m (i + 1) r | false => toCheck P L m (i + 1) r
def StableC (w : World) (a : Addr) (v : Value) : Prop := w.cell? a = some v
def StableA (w : World) (a : Addr) (n : Nat) (v : Value) : Prop := match v with | .agg cs => cs.size = n ∧ ∀ i, i < n → w.cell? (a.add i) = cs[i]? | _ => False
def StableV (P : Program) (s : Sem Value) (w : World) (v : Value) : Prop := s.run P w = .ok v w
/-- a read, once more -/
def chkGo (P : Program) (o : Oper) (g : Env) (w : World) (d : Nat) (C : Prop) : Prop :=
  match o.op with
  | .load t x => (match ev g x with
    | .pointer (some a) => (match isAggB P t with
      | some true => (match sizeB P t with | some n => StableA w a n (g d) ∧ C | none => False)
      | some false => StableC w a (g d) ∧ C
      | none => False)
    | _ => False)
  | .convert s t x => StableV P (convert s t (ev g x)) w (g d) ∧ C
  | _ => False
def chk1 (P : Program) (ops : List Oper) (o : Oper) (g : Env) (w : World) (C : Prop) : Prop :=
  match o.dst with
  | none => False
  | some d => match o.guard with
    | none => chkGo P o g w d C
    | some (j, want) => match gslot ops j with
      | none => False
      | some e => match g e with
        | .bool b => (match want with | true => BS b (chkGo P o g w d C) C | false => BS b C (chkGo P o g w d C))
        | _ => C
def chks (P : Program) (ops : List Oper) : List Oper → Env → World → Prop → Prop
  | [], _, _, C => C
  | o :: r, g, w, C => chk1 P ops o g w (chks P ops r g w C)
def allK (X : Nat → Prop) : List Nat → Prop
  | [] => True
  | [e] => X e
  | e :: r => X e ∧ allK X r
def drawK (P : Program) (ops : List Oper) (ms : List Nat) (K : Env → World → Prop) : Nat → Nat → Env → World → Prop
  | 0, _, _, _ => False
  | n + 1, L, g, w => match firstEasy P L 0 ops with
    | some i => (match ops[i]? with | some o => stepG P ops o (drawK P ops ms K n (L ||| 2 ^ i)) g w | none => False)
    | none => match readyEffs P L 0 ops with
      | [] => K g w
      | es => allK (fun e => match ops[e]? with
        | some o => stepG P ops o (fun g' w' => chks P ops (toCheck P L (ms.getD e 0) 0 ops) g' w' (drawK P ops ms K n (L ||| 2 ^ e) g' w')) g w
        | none => False) es

/-! code -/
def TVs (P : Program) : List (Nat × TypeId) → Env → (List Value → Prop) → Prop
  | [], _, C => C []
  | (s, t) :: r, g, C => TV1 P t (g s) fun v => TVs P r g fun vs => C (v :: vs)
def allV (P : Program) : List (Nat × TypeId) → (List Value → Prop) → Prop
  | [], C => C []
  | (_, t) :: r, C => match P.underlying t with
    | some (.int k) => ∀ n : Int, allV P r fun vs => C (.int k n :: vs)
    | some .bool => ∀ b : Bool, allV P r fun vs => C (.bool b :: vs)
    | some .string => ∀ s : ByteArray, allV P r fun vs => C (.string s :: vs)
    | some (.pointer _) => ∀ a : Option Addr, allV P r fun vs => C (.pointer a :: vs)
    | some (.slice _) => ∀ (a : Option Addr) (l c : Nat), allV P r fun vs => C (.slice a l c :: vs)
    | some (.struct _) => ∀ cs : Array Value, allV P r fun vs => C (.agg cs :: vs)
    | some (.array _ _) => ∀ cs : Array Value, allV P r fun vs => C (.agg cs :: vs)
    | some (.map _ _) => ∀ a : Option Nat, allV P r fun vs => C (.map a :: vs)
    | some (.chan _ _) => ∀ a : Option Nat, allV P r fun vs => C (.chan a :: vs)
    | _ => ∀ v : Value, allV P r fun vs => C (v :: vs)
def memB (l : List Nat) (t : Nat) : Bool := match l with | [] => false | x :: r => (match Nat.beq t x with | true => true | false => memB r t)
def lookV (l : List (Nat × TypeId)) (vs : List Value) (t : Nat) (d : Value) : Value :=
  match l, vs with
  | (s, _) :: r, v :: vs => (match Nat.beq t s with | true => v | false => lookV r vs t d)
  | _, _ => d
/-- the slots at a loop's head: the listed ones hold 'vs', the others that the round writes hold anything -/
def headEnv (g h : Env) (D : List Nat) (L : List (Nat × TypeId)) (vs : List Value) : Env :=
  fun t => lookV L vs t (match memB D t with | true => h t | false => g t)
def opsWrites : List Oper → List Nat
  | [] => []
  | o :: r => match o.dst with | some d => d :: opsWrites r | none => opsWrites r
def writes : Code → List Nat
  | .region _ ops _ => opsWrites ops.toList
  | .seq a b => writes a ++ writes b
  | .cond _ a b => writes a ++ writes b
  | .block _ c => writes c
  | .loop c => writes c
  | .scope c => writes c
  | _ => []
/-- the first region of a piece of code: the name of a loop -/
def firstRegion : Code → Option Nat
  | .region id _ _ => some id
  | .seq a b => (match firstRegion a with | some i => some i | none => firstRegion b)
  | .cond _ a b => (match firstRegion a with | some i => some i | none => firstRegion b)
  | .block _ c => firstRegion c
  | .loop c => firstRegion c
  | .scope c => firstRegion c
  | _ => none
abbrev Ann := List (Nat × List (Nat × TypeId))
def annOf (A : Ann) (i : Option Nat) : List (Nat × TypeId) :=
  match i with
  | none => []
  | some i => match A with | [] => [] | (j, l) :: r => (match Nat.beq i j with | true => l | false => annOf r (some i))
abbrev Exits := List (Nat × (Env → World → Prop))
def exitK (X : Exits) (id : Nat) : Env → World → Prop :=
  match X with | [] => fun _ _ => False | (j, k) :: r => (match Nat.beq id j with | true => k | false => exitK r id)

def wpC (P : Program) (A : Ann) : Code → (Env → World → Prop) → Exits → (Env → World → Prop) → Env → World → Prop
  | .skip, kn, _, _, g, w => kn g w
  | .region _ ops draw, kn, _, _, g, w => (match draw with
    | false => wpOpsG P ops.toList kn ops.toList g w
    | true => DrewC w fun w => drawK P ops.toList (masks ops.toList []) kn (ops.toList.length + 1) 0 g w)
  | .seq a b, kn, X, kr, g, w => wpC P A a (fun g w => wpC P A b kn X kr g w) X kr g w
  | .cond c a b, kn, X, kr, g, w => (match ev g c with | .bool t => BS t (wpC P A a kn X kr g w) (wpC P A b kn X kr g w) | _ => False)
  | .block id c, kn, X, kr, g, w => wpC P A c kn ((id, kn) :: X) kr g w
  | .loop c, _, X, kr, g, w =>
    TVs P (annOf A (firstRegion c)) g fun vs0 =>
      ∃ (I : List Value → World → Prop) (μ : List Value → World → Nat), I vs0 w ∧
        ∀ (h : Env) (w : World), allV P (annOf A (firstRegion c)) fun vs => I vs w →
          wpC P A c (fun g' w' => TVs P (annOf A (firstRegion c)) g' fun vs' => I vs' w' ∧ μ vs' w' < μ vs w) X kr
            (headEnv g h (writes c) (annOf A (firstRegion c)) vs) w
  | .exit id, _, X, _, g, w => exitK X id g w
  | .ret, _, _, kr, g, w => kr g w
  | _, _, _, _, _, _ => False

/-- what a function hands back -/
def resK (P : Program) : List ResultVar → Env → World → (List Value → Prop) → Prop
  | [], _, _, C => C []
  | .tmp t :: r, g, w, C => resK P r g w fun vs => C (g t :: vs)
  | .cell x t :: r, g, w, C => match g x with
    | .pointer (some a) => (match isAggB P t with
      | some true => (match sizeB P t with | some n => LoadA w a n fun cs => resK P r g w fun vs => C (.agg cs :: vs) | none => False)
      | some false => LoadC w a fun v => TV1 P t v fun v => resK P r g w fun vs => C (v :: vs)
      | none => False)
    | _ => False
def retV (vs : List Value) : Value := match vs with | [v] => v | vs => .tuple vs.toArray
def argEnv (args : List Value) : Env := fun t => args.getD t undef
def wpF (P : Program) (A : Ann) (fn : Func) (c : Code) (args : List Value) (w : World) (R : Value → World → Prop) : Prop :=
  wpC P A c (fun g w => resK P fn.results.toList g w fun vs => R (retV vs) w) []
    (fun g w => resK P fn.results.toList g w fun vs => R (retV vs) w) (argEnv args) w
end Go.Vc
