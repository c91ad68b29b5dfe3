/-
  The frame of this seat's proofs: a reading of the program's code as nested conditions on memory ('comp'), and that a call comes to what the reading asks ('calls_of_comp'). No condition.
-/
import Derived.Test.YtllgjjldnnmjkaaDoorRows
import Derived.WalkKit
import Derived.Deep.QuietTactic
import Derived.ProofKit
set_option maxRecDepth 100000
namespace Go.Proofs.YtllgjjldnnmjkaaDoor
open Go.RowKit

/-- A condition on memory. -/
abbrev PT := World → Prop
/-- The frame: what each temporary holds. -/
abbrev Fr := Nat → Value

def bad : PT := fun _ => False
/-- Nothing panics. -/
def Z0 : List PanicEntry → PT := fun _ => bad
/-- A condition on values alone. -/
def cnd (c : Prop) (K : PT) : PT := fun w => c ∧ K w
def put (ρ : Fr) (d : Nat) (v : Value) : Fr := fun j => bif Nat.beq j d then v else ρ j
def putO (ρ : Fr) (d : Option Nat) (v : Value) : Fr := match d with | some d => put ρ d v | none => ρ
def ev (ρ : Fr) (x : Operand) : Value := match x with
  | .tmp t => ρ t
  | .const v => v
  | .global g => .pointer (some ⟨g, 0, none⟩)
  | .func f => .func (.func f) #[] #[]

/-- How a value of a type looks. -/
inductive Sh where
  | bool | int (k : IntKind) | str | ptr | sl | agg (n : Nat) | map | any | unit | two (a b : Sh) | three (a b c : Sh)

def shD (d : TypeDesc) (n : Nat) : Sh := match d with
  | .bool => .bool
  | .int k => .int k
  | .string => .str
  | .pointer _ => .ptr
  | .slice _ => .sl
  | .array _ _ => .agg n
  | .struct _ => .agg n
  | .map _ _ => .map
  | _ => .any
def shT (P : Program) (t : TypeId) : Sh := match P.underlying t, P.info? t with
  | some d, some i => shD d i.size
  | _, _ => .unit
def shR (P : Program) (ts : List TypeId) : Sh := match ts with
  | [] => .unit
  | [a] => shT P a
  | [a, b] => .two (shT P a) (shT P b)
  | [a, b, c] => .three (shT P a) (shT P b) (shT P c)
  | _ => .any

/-- A loaded cell. -/
def ldI (k : IntKind) (a : Addr) (K : Int → PT) : PT := fun w => ∃ n, w.cell? a = some (.int k n) ∧ K n w
def ldB (a : Addr) (K : Bool → PT) : PT := fun w => ∃ n, w.cell? a = some (.bool n) ∧ K n w
def ldS (a : Addr) (K : ByteArray → PT) : PT := fun w => ∃ n, w.cell? a = some (.string n) ∧ K n w
def ldP (a : Addr) (K : Option Addr → PT) : PT := fun w => ∃ n, w.cell? a = some (.pointer n) ∧ K n w
def ldL (a : Addr) (K : Option Addr → Nat → Nat → PT) : PT := fun w => ∃ b n c, w.cell? a = some (.slice b n c) ∧ K b n c w
def ldM (a : Addr) (K : Option Nat → PT) : PT := fun w => ∃ n, w.cell? a = some (.map n) ∧ K n w
def ldV (a : Addr) (K : Value → PT) : PT := fun w => ∃ n, w.cell? a = some n ∧ K n w
def cellsAt (w : World) (a : Addr) (cs : List Value) : Prop := ∀ j v, cs[j]? = some v → w.cell? (a.add j) = some v
def ldN (n : Nat) (a : Addr) (K : List Value → PT) : PT := fun w => ∃ cs : List Value, cs.length = n ∧ cellsAt w a cs ∧ K cs w
def ld (s : Sh) (a : Addr) (K : Value → PT) : PT := match s with
  | .int k => ldI k a fun n => K (.int k n)
  | .bool => ldB a fun n => K (.bool n)
  | .str => ldS a fun n => K (.string n)
  | .ptr => ldP a fun n => K (.pointer n)
  | .sl => ldL a fun b n c => K (.slice b n c)
  | .map => ldM a fun n => K (.map n)
  | .agg n => ldN n a fun cs => K (.agg ⟨cs⟩)
  | .any => ldV a K
  | _ => bad

/-- A stored cell. -/
def st1 (a : Addr) (v : Value) (K : PT) : PT := fun w => v.oneCell' = true ∧ (w.cell? a).isSome = true ∧ w.frozen? a = false ∧ K (w.setCell a v)
def stores (w : World) (a : Addr) (i : Nat) : List Value → World
  | [] => w
  | v :: r => stores (w.setCell (a.add i) v) a (i + 1) r
def stN (n : Nat) (a : Addr) (vs : List Value) (K : PT) : PT := fun w =>
  vs.length = n ∧ (∀ j v, vs[j]? = some v → v.oneCell' = true ∧ (w.cell? (a.add j)).isSome = true ∧ w.frozen? (a.add j) = false) ∧ K (stores w a 0 vs)

/-- A part of a struct's or array's cells. -/
def ptI (k : IntKind) (cs : List Value) (o : Nat) (K : Int → PT) : PT := fun w => ∃ n, cs[o]? = some (.int k n) ∧ K n w
def ptB (cs : List Value) (o : Nat) (K : Bool → PT) : PT := fun w => ∃ n, cs[o]? = some (.bool n) ∧ K n w
def ptS (cs : List Value) (o : Nat) (K : ByteArray → PT) : PT := fun w => ∃ n, cs[o]? = some (.string n) ∧ K n w
def ptP (cs : List Value) (o : Nat) (K : Option Addr → PT) : PT := fun w => ∃ n, cs[o]? = some (.pointer n) ∧ K n w
def ptL (cs : List Value) (o : Nat) (K : Option Addr → Nat → Nat → PT) : PT := fun w => ∃ b n c, cs[o]? = some (.slice b n c) ∧ K b n c w
def ptM (cs : List Value) (o : Nat) (K : Option Nat → PT) : PT := fun w => ∃ n, cs[o]? = some (.map n) ∧ K n w
def ptV (cs : List Value) (o : Nat) (K : Value → PT) : PT := fun w => ∃ n, cs[o]? = some n ∧ K n w
def sub (cs : List Value) (o n : Nat) : List Value := (cs.drop o).take n
def pt (s : Sh) (cs : List Value) (o : Nat) (K : Value → PT) : PT := match s with
  | .int k => ptI k cs o fun n => K (.int k n)
  | .bool => ptB cs o fun n => K (.bool n)
  | .str => ptS cs o fun n => K (.string n)
  | .ptr => ptP cs o fun n => K (.pointer n)
  | .sl => ptL cs o fun b n c => K (.slice b n c)
  | .map => ptM cs o fun n => K (.map n)
  | .agg n => K (.agg ⟨sub cs o n⟩)
  | .any => ptV cs o K
  | _ => bad

def pif (b : Bool) (X Y : PT) : PT := match b with | true => X | false => Y
/-- A pointer that is not nil. -/
def nn (p : Option Addr) (K : Addr → PT) : PT := match p with | some a => K a | none => bad

/-- Whatever else an operation comes to, by its shape. -/
def runR (P : Program) (s : Sem Value) (K : Value → PT) : PT := fun w => ∃ v w', s.run P w = .ok v w' ∧ K v w'
def runI (k : IntKind) (P : Program) (s : Sem Value) (K : Int → PT) : PT := fun w => ∃ v w', s.run P w = .ok (.int k v) w' ∧ K v w'
def runB (P : Program) (s : Sem Value) (K : Bool → PT) : PT := fun w => ∃ v w', s.run P w = .ok (.bool v) w' ∧ K v w'
def runS (P : Program) (s : Sem Value) (K : ByteArray → PT) : PT := fun w => ∃ v w', s.run P w = .ok (.string v) w' ∧ K v w'
def runP (P : Program) (s : Sem Value) (K : Option Addr → PT) : PT := fun w => ∃ v w', s.run P w = .ok (.pointer v) w' ∧ K v w'
def runL (P : Program) (s : Sem Value) (K : Option Addr → Nat → Nat → PT) : PT := fun w => ∃ a n c w', s.run P w = .ok (.slice a n c) w' ∧ K a n c w'
def runM (P : Program) (s : Sem Value) (K : Option Nat → PT) : PT := fun w => ∃ v w', s.run P w = .ok (.map v) w' ∧ K v w'
def runN (P : Program) (s : Sem Value) (K : List Value → PT) : PT := fun w => ∃ (v : List Value) (w' : World), s.run P w = .ok (.agg ⟨v⟩) w' ∧ K v w'
def run (sh : Sh) (P : Program) (s : Sem Value) (K : Value → PT) : PT := match sh with
  | .int k => runI k P s fun n => K (.int k n)
  | .bool => runB P s fun n => K (.bool n)
  | .str => runS P s fun n => K (.string n)
  | .ptr => runP P s fun n => K (.pointer n)
  | .sl => runL P s fun b n c => K (.slice b n c)
  | .map => runM P s fun n => K (.map n)
  | .agg _ => runN P s fun cs => K (.agg ⟨cs⟩)
  | _ => runR P s K
def runU (P : Program) (s : Sem Unit) (K : PT) : PT := fun w => ∃ w', s.run P w = .ok () w' ∧ K w'

/-- What a call hands back, by its shape. -/
def cal (P : Program) (Z : List PanicEntry → PT) (f : FuncId) (args : List Value) (R : Value → PT) : PT := fun w => Calls P f ⟨args⟩ w fun e w' => match e with | .returned v => R v w' | .panicked c => Z c w' | _ => False
def isI (k : IntKind) (K : Int → PT) (v : Value) : PT := fun w => ∃ n, v = .int k n ∧ K n w
def isB (K : Bool → PT) (v : Value) : PT := fun w => ∃ n, v = .bool n ∧ K n w
def isS (K : ByteArray → PT) (v : Value) : PT := fun w => ∃ n, v = .string n ∧ K n w
def isP (K : Option Addr → PT) (v : Value) : PT := fun w => ∃ n, v = .pointer n ∧ K n w
def isL (K : Option Addr → Nat → Nat → PT) (v : Value) : PT := fun w => ∃ b n c, v = .slice b n c ∧ K b n c w
def isM (K : Option Nat → PT) (v : Value) : PT := fun w => ∃ n, v = .map n ∧ K n w
def isN (K : List Value → PT) (v : Value) : PT := fun w => ∃ cs : List Value, v = .agg ⟨cs⟩ ∧ K cs w
def isU (K : PT) (v : Value) : PT := fun w => v = .tuple #[] ∧ K w
def is1 (s : Sh) (K : Value → PT) : Value → PT := match s with
  | .int k => isI k fun n => K (.int k n)
  | .bool => isB fun n => K (.bool n)
  | .str => isS fun n => K (.string n)
  | .ptr => isP fun n => K (.pointer n)
  | .sl => isL fun b n c => K (.slice b n c)
  | .map => isM fun n => K (.map n)
  | .agg _ => isN fun cs => K (.agg ⟨cs⟩)
  | .unit => isU (K (.tuple #[]))
  | _ => K
def isT2 (f : Value → Value → PT) (v : Value) : PT := fun w => ∃ x y, v = .tuple #[x, y] ∧ f x y w
def isT3 (f : Value → Value → Value → PT) (v : Value) : PT := fun w => ∃ x y z, v = .tuple #[x, y, z] ∧ f x y z w
def is (s : Sh) (K : Value → PT) : Value → PT := match s with
  | .two a b => isT2 fun x y => is1 a (fun x' => is1 b (fun y' => K (.tuple #[x', y'])) y) x
  | .three a b c => isT3 fun x y z => is1 a (fun x' => is1 b (fun y' => is1 c (fun z' => K (.tuple #[x', y', z'])) z) y) x
  | s => is1 s K
def runT2 (P : Program) (s : Sem Value) (f : Value → Value → PT) : PT := fun w => ∃ x y w', s.run P w = .ok (.tuple #[x, y]) w' ∧ f x y w'
/-- What a walk over a string or a map comes to next. -/
def nextX (P : Program) (s : Sem Value) (X : PT) (Y : Value → Value → PT) : PT := fun w => ∃ v w', s.run P w = .ok v w' ∧ ((v = .tuple #[.bool false] ∧ X w') ∨ ∃ x y, v = .tuple #[.bool true, x, y] ∧ Y x y w')

def bodied (P : Program) (f : FuncId) : Bool := match P.funcs[f]? with | some { body := some _, .. } => true | _ => false
/-- A call of a function that is a value. -/
def calV (P : Program) (Z : List PanicEntry → PT) (v : Value) (args : List Value) (R : Value → PT) : PT := fun w => ∃ (g : FuncId) (first cap : List Value), v = .func (.func g) ⟨first⟩ ⟨cap⟩ ∧ bodied P g = true ∧ cal P Z g (first ++ args ++ cap) R w
def resT (P : Program) (f : FuncId) : List TypeId := match P.funcs[f]? with | some fn => fn.resultTypes.toList | _ => []

def keq (a b : IntKind) : Bool := match a, b with
  | .i64, .i64 | .u8, .u8 | .u32, .u32 | .u64, .u64 | .i32, .i32 | .u16, .u16 | .i16, .i16 | .i8, .i8 => true
  | _, _ => false
theorem keq_eq {a b : IntKind} (h : keq a b = true) : a = b := by cases a <;> cases b <;> first | rfl | cases h

/-- Two whole numbers. -/
def cint (op : BinOp) (k : IntKind) (a b : Int) (K : Value → PT) : PT := match op with
  | .add => K (.int k (k.wrap (a + b)))
  | .sub => K (.int k (k.wrap (a - b)))
  | .mul => K (.int k (k.wrap (a * b)))
  | .quo => cnd (b ≠ 0) (K (.int k (k.wrap (a.tdiv b))))
  | .rem => cnd (b ≠ 0) (K (.int k (a.tmod b)))
  | .and => K (.int k (k.wrap (BitVec.ofInt k.bits a &&& BitVec.ofInt k.bits b).toNat))
  | .or => K (.int k (k.wrap (BitVec.ofInt k.bits a ||| BitVec.ofInt k.bits b).toNat))
  | .xor => K (.int k (k.wrap (BitVec.ofInt k.bits a ^^^ BitVec.ofInt k.bits b).toNat))
  | .andNot => K (.int k (k.wrap (BitVec.ofInt k.bits a &&& ~~~ BitVec.ofInt k.bits b).toNat))
  | .eql => K (.bool (a == b))
  | .neq => K (.bool (a != b))
  | .lss => K (.bool (decide (a < b)))
  | .leq => K (.bool (decide (a ≤ b)))
  | .gtr => K (.bool (decide (a > b)))
  | .geq => K (.bool (decide (a ≥ b)))
  | _ => bad
def cshift (op : BinOp) (k : IntKind) (a b : Int) (K : Value → PT) : PT := match op with
  | .shl => cnd (0 ≤ b) (K (.int k (k.wrap (a * 2 ^ (min b.toNat k.bits)))))
  | .shr => cnd (0 ≤ b) (K (.int k (a.fdiv (2 ^ (min b.toNat k.bits)))))
  | _ => bad
def isShift (op : BinOp) : Bool := match op with | .shl | .shr => true | _ => false
def cstr (op : BinOp) (a b : ByteArray) (K : Value → PT) : PT := match op with
  | .add => cnd (((a.size + b.size : Nat) : Int) ≤ IntKind.i64.max) (K (.string (a ++ b)))
  | .eql => K (.bool (a.toList == b.toList))
  | .neq => K (.bool !(a.toList == b.toList))
  | .lss => K (.bool (Op.bytesLess a.toList b.toList))
  | .leq => K (.bool (Op.bytesLess a.toList b.toList || a.toList == b.toList))
  | .gtr => K (.bool !(Op.bytesLess a.toList b.toList || a.toList == b.toList))
  | .geq => K (.bool !(Op.bytesLess a.toList b.toList))
  | _ => bad
def isNone (p : Option Addr) : Bool := match p with | some _ => false | none => true
def cbin (P : Program) (op : BinOp) (xt : TypeId) (a b : Value) (K : Value → PT) : PT :=
  match a, b with
  | .int k m, .int k' n => bif isShift op then cshift op k m n K else bif keq k k' then cint op k m n K else bad
  | .string x, .string y => cstr op x y K
  | .bool x, .bool y => match shT P xt with
    | .bool => match op with
      | .eql => K (.bool (x == y))
      | .neq => K (.bool (!(x == y)))
      | _ => bad
    | _ => bad
  | .pointer p, .pointer none => match shT P xt with
    | .ptr => match op with
      | .eql => K (.bool (isNone p))
      | .neq => K (.bool (!isNone p))
      | _ => bad
    | _ => bad
  | .slice p _ _, .slice none _ _ => match shT P xt with
    | .sl => match op with
      | .eql => K (.bool (isNone p))
      | .neq => K (.bool (!isNone p))
      | _ => bad
    | _ => bad
  | _, _ => bad

def fieldOff (P : Program) (s : TypeId) (f : Nat) : Option (TypeId × Nat) := match P.underlying s with
  | some (.struct fs) => match fs[f]? with
    | some fd => some (fd.type, fd.offset)
    | none => none
  | _ => none
def cellsOf? (P : Program) (t : TypeId) : Nat := match P.info? t with | some i => i.size | none => 0
/-- A slice's or array's element, and an array's length. -/
inductive El where
  | sl (e : TypeId) | arr (n : Nat) (e : TypeId) | no
def elK (P : Program) (e : TypeId) (x : El) : El := match P.info? e with | some _ => x | none => .no
def elT (P : Program) (t : TypeId) : El := match P.underlying t with | some (.slice e) => elK P e (.sl e) | some (.array n e) => elK P e (.arr n e) | _ => .no

/-- A slice's element's address. -/
def ixS (a : Option Addr) (n : Nat) (i : Int) (sz : Nat) (K : Addr → PT) : PT := fun w => ∃ b, a = some b ∧ 0 ≤ i ∧ i < n ∧ K (b.add (i.toNat * sz)) w
def ixT (s : ByteArray) (i : Int) (K : UInt8 → PT) : PT := fun w => 0 ≤ i ∧ ∃ b, s[i.toNat]? = some b ∧ K b w
/-- What is cut out of a slice, a string, an array. -/
def slS (a : Option Addr) (c : Nat) (l h : Int) (sz : Nat) (K : Option Addr → Nat → Nat → PT) : PT :=
  cnd (0 ≤ l ∧ l ≤ h ∧ h ≤ c) (K (if c = l.toNat then a else a.map (·.add (l.toNat * sz))) (h.toNat - l.toNat) (c - l.toNat))
def slS3 (a : Option Addr) (c : Nat) (l h m : Int) (sz : Nat) (K : Option Addr → Nat → Nat → PT) : PT :=
  cnd (0 ≤ l ∧ l ≤ h ∧ h ≤ m ∧ m ≤ c) (K (if m.toNat = l.toNat then a else a.map (·.add (l.toNat * sz))) (h.toNat - l.toNat) (m.toNat - l.toNat))
def slA (a : Addr) (c : Nat) (l h : Int) (sz : Nat) (K : Option Addr → Nat → Nat → PT) : PT :=
  cnd (0 ≤ l ∧ l ≤ h ∧ h ≤ c) (K (some (if c = l.toNat then a else a.add (l.toNat * sz))) (h.toNat - l.toNat) (c - l.toNat))
def slT (s : ByteArray) (l h : Int) (K : ByteArray → PT) : PT := cnd (0 ≤ l ∧ l ≤ h ∧ h ≤ s.size) (K (s.extract l.toNat h.toNat))
/-- A bound of a cut. -/
def lowOf (ρ : Fr) (x : Option Operand) (d : Int) : Option Int := match x with
  | none => some d
  | some x => match ev ρ x with | .int .i64 n => some n | _ => none

/-- An operation that asks nothing of memory. -/
def pv (P : Program) (o : Oper) (ρ : Fr) (K : Value → PT) : PT := match o.op with
  | .move x => K (ev ρ x)
  | .assign x => K (ev ρ x)
  | .pick c a b => match ev ρ c with
    | .bool t => pif t (K (ev ρ a)) (K (ev ρ b))
    | _ => bad
  | .nilCheck x => match ev ρ x with
    | .pointer p => nn p fun a => K (.pointer (some a))
    | _ => bad
  | .fieldAddr s x f => match ev ρ x with
    | .pointer (some a) => match fieldOff P s f with
      | some (t, off) => match cellsOf? P t with
        | 0 => bad
        | _ + 1 => K (.pointer (some (a.add off)))
      | none => bad
    | _ => bad
  | .field s x f => match ev ρ x with
    | .agg ⟨cs⟩ => match fieldOff P s f with
      | some (t, off) => pt (shT P t) cs off K
      | none => bad
    | _ => bad
  | .binOp op xt x y _ => cbin P op xt (ev ρ x) (ev ρ y) K
  | .unOp op _ x => match ev ρ x with
    | .bool b => match op with | .not => K (.bool !b) | _ => bad
    | .int k n => match op with
      | .neg => K (.int k (k.wrap (0 - n)))
      | .xor => K (.int k (k.wrap (BitVec.ofInt k.bits (if k.signed then -1 else k.max) ^^^ BitVec.ofInt k.bits n).toNat))
      | _ => bad
    | _ => bad
  | .convert s d x => match ev ρ x with
    | .int _ n => match shT P s with
      | .int _ => match shT P d with | .int k => K (.int k (k.wrap n)) | _ => bad
      | _ => bad
    | _ => bad
  | .extract x i => match ev ρ x with
    | .tuple ⟨vs⟩ => match vs[i]? with
      | some v => K v
      | none => bad
    | _ => bad
  | .makeFunc fn first captured => K (.func fn ⟨first.toList.map (ev ρ)⟩ ⟨captured.toList.map (ev ρ)⟩)
  | .index t x i => match ev ρ x, ev ρ i with
    | .string s, .int _ n => match shT P t with | .str => ixT s n fun b => K (.int .u8 b.toNat) | _ => bad
    | .agg ⟨cs⟩, .int _ n => match elT P t with
      | .arr len e => cnd (0 ≤ n ∧ n < len) (pt (shT P e) cs (n.toNat * cellsOf? P e) K)
      | _ => bad
    | _, _ => bad
  | .indexAddr t x i => match ev ρ x, ev ρ i with
    | .slice a n _, .int _ j => match elT P t with
      | .sl e => ixS a n j (cellsOf? P e) fun ad => K (.pointer (some ad))
      | _ => bad
    | .pointer (some a), .int _ j => match elT P t with
      | .arr len e => cnd (0 ≤ j ∧ j < len) (K (.pointer (some (a.add (j.toNat * cellsOf? P e)))))
      | _ => bad
    | _, _ => bad
  | .slice t x lo hi none => match ev ρ x with
    | .slice a n c => match elT P t, lowOf ρ lo 0, lowOf ρ hi n with
      | .sl e, some l, some h => slS a c l h (cellsOf? P e) fun b n c => K (.slice b n c)
      | _, _, _ => bad
    | .string s => match shT P t, lowOf ρ lo 0, lowOf ρ hi s.size with
      | .str, some l, some h => slT s l h fun s => K (.string s)
      | _, _, _ => bad
    | .pointer (some a) => match elT P t with
      | .arr len e => match lowOf ρ lo 0, lowOf ρ hi len with
        | some l, some h => slA a len l h (cellsOf? P e) fun b n c => K (.slice b n c)
        | _, _ => bad
      | _ => bad
    | _ => bad
  | .makeInterface t x => match P.underlying t with
    | some (.interface _) => bad
    | some _ => K (.iface t (ev ρ x))
    | none => bad
  | .slice t x lo (some hi) (some mx) => match ev ρ x with
    | .slice a _ c => match elT P t, lowOf ρ lo 0, ev ρ hi, ev ρ mx with
      | .sl e, some l, .int .i64 h, .int .i64 m => slS3 a c l h m (cellsOf? P e) fun b n c => K (.slice b n c)
      | _, _, _, _ => bad
    | _ => bad
  | .call { callee := .builtin .max, args := ⟨[x, y]⟩, argTypes := _ } => match ev ρ x, ev ρ y with
    | .int k m, .int _ n => K (.int k (if n > m then n else m))
    | _, _ => bad
  | .call { callee := .builtin .min, args := ⟨[x, y]⟩, argTypes := _ } => match ev ρ x, ev ρ y with
    | .int k m, .int _ n => K (.int k (if n < m then n else m))
    | _, _ => bad
  | .call { callee := .builtin .len, args := ⟨[x]⟩, argTypes := ⟨[t]⟩ } => match ev ρ x with
    | .slice _ n _ => match elT P t with | .sl _ => K (.int .i64 (n : Nat)) | _ => bad
    | .string s => match shT P t with | .str => K (.int .i64 (s.size : Nat)) | _ => bad
    | _ => bad
  | _ => bad
/-- Is it one of these? (A look at its kind; the slots' kinds are seen to by 'pv'.) -/
def isPv (o : Oper) : Bool := match o.op with
  | .move _ | .assign _ | .pick _ _ _ | .nilCheck _ | .fieldAddr _ _ _ | .field _ _ _ | .binOp _ _ _ _ _ | .unOp _ _ _ | .convert _ _ _ | .extract _ _ | .makeFunc _ _ _ | .index _ _ _ | .indexAddr _ _ _ | .slice _ _ _ _ _ | .makeInterface _ _ => true
  | .call { callee := .builtin .max, .. } | .call { callee := .builtin .min, .. } | .call { callee := .builtin .len, .. } => true
  | _ => false
/-- Which of these are left to 'run': by the operands. -/
def rawPv (P : Program) (o : Oper) (ρ : Fr) : Bool := match o.op with
  | .binOp _ _ x y _ => match ev ρ x, ev ρ y with
    | .int _ _, .int _ _ | .string _, .string _ | .bool _, .bool _ | .pointer _, .pointer none | .slice _ _ _, .slice none _ _ => false
    | _, _ => true
  | .unOp _ _ x => match ev ρ x with | .int _ _ | .bool _ => false | _ => true
  | .convert _ d x => match ev ρ x with
    | .int _ _ => match shT P d with | .int _ => false | _ => true
    | _ => true
  | .call { callee := .builtin .max, args := ⟨[x, y]⟩, .. } | .call { callee := .builtin .min, args := ⟨[x, y]⟩, .. } => match ev ρ x, ev ρ y with
    | .int _ _, .int _ _ => false
    | _, _ => true
  | .call { callee := .builtin .len, args := ⟨[x]⟩, .. } => match ev ρ x with | .slice _ _ _ | .string _ => false | _ => true
  | _ => false

/-- The shape of an operation's own type: a tuple's parts. -/
def shO (P : Program) (t : TypeId) : Sh := match P.underlying t with
  | some (.tuple es) => shR P es.toList
  | _ => shT P t

/-- A new block. -/
def newC (e : TypeId) (cs : List Value) (K : Addr → PT) : PT := fun w => K ⟨w.heap.size, 0, none⟩ (w.alloc (.cells ⟨cs⟩ e))
def zeroOf (P : Program) (t : TypeId) : Option (List Value) := match P.info? t with
  | some i => match i.zero with
    | some z => some z.cells.toList
    | none => none
  | none => none
def isC (x : Operand) : Bool := match x with | .const _ => true | _ => false
def bi (b : Builtin) (ats : Array TypeId) (ty : TypeId) (cs : List Bool) (args : List Value) : Sem Value := do match (← builtin b ats ty ⟨cs⟩ ⟨args⟩) with | .value v => pure v | _ => stuck ""
def reps (n : Nat) (z : List Value) : List Value := match n with | 0 => [] | n + 1 => z ++ reps n z
/-- A struct's or array's fields: where they lie, how many cells they have. -/
def placesOf (P : Program) (t : TypeId) : Option (Nat → Option (Nat × Nat)) := match P.underlying t with
  | some (.struct fs) => match fs.toList.all fun f => (P.info? f.type).isSome with
    | true => some fun i => match fs[i]? with
      | some f => some (f.offset, cellsOf? P f.type)
      | none => none
    | false => none
  | some (.array _ e) => match P.info? e with
    | some j => some fun i => some (i * j.size, j.size)
    | none => none
  | _ => none
def elPlace (sz : Nat) : Nat → Option (Nat × Nat) := fun i => some (i * sz, sz)
/-- Zero cells from place b on, with parts laid into them, the least first. -/
def parts (pl : Nat → Option (Nat × Nat)) : List (Nat × Value) → Nat → List Value → (List Value → PT) → PT
  | [], _, z, K => K z
  | (i, v) :: r, b, z, K => match pl i with
    | none => bad
    | some (off, sz) => match Nat.ble b off && Nat.ble (off - b + sz) z.length with
      | true => match v with
        | .agg ⟨vs⟩ => cnd (vs.length = sz) (parts pl r (off + sz) (z.drop (off - b + sz)) fun out => K (z.take (off - b) ++ (vs ++ out)))
        | .tuple _ => bad
        | v => match sz with
          | 1 => parts pl r (off + 1) (z.drop (off - b + 1)) fun out => K (z.take (off - b) ++ (v :: out))
          | _ => bad
      | false => bad
def rising : Nat → List Nat → Bool
  | _, [] => true
  | b, i :: r => Nat.ble b i && rising (i + 1) r

/-- One operation. -/
def cop (P : Program) (Z : List PanicEntry → PT) (o : Oper) (ρ : Fr) (K : Value → PT) : PT := match isPv o && !rawPv P o ρ with
  | true => pv P o ρ K
  | false => match o.op with
    | .load t x => match ev ρ x with
      | .pointer (some a) => ld (shT P t) a K
      | _ => bad
    | .store t x y => match ev ρ x with
      | .pointer (some a) => match shT P t with
        | .agg n => match ev ρ y with
          | .agg ⟨vs⟩ => stN n a vs (K undef)
          | _ => bad
        | _ => match cellsOf? P t with
          | 1 => st1 a (ev ρ y) (K undef)
          | _ => bad
      | _ => bad
    | .call { callee := .value (.tmp t), args, argTypes := _ } => calV P Z (ρ t) (args.toList.map (ev ρ)) (is (shO P o.type) K)
    | .call { callee := .value f, args, argTypes := _ } => match ev ρ f with
      | .func (.func g) ⟨first⟩ ⟨captured⟩ => match bodied P g with
        | true => cal P Z g (first ++ args.toList.map (ev ρ) ++ captured) (is (shR P (resT P g)) K)
        | false => bad
      | _ => bad
    | .box e x => match ev ρ x with
      | .agg ⟨vs⟩ => newC e vs fun a => K (.pointer (some a))
      | .tuple _ => bad
      | v => newC e [v] fun a => K (.pointer (some a))
    | .panic x => fun w => match ev ρ x with
      | .iface t v => Z [{ v := .iface t v, recovered := false }] w
      | _ => False
    | .defer _ => bad
    | .go _ => bad
    | .call { callee := .invoke _ _, .. } => bad
    | .call { callee := .builtin b, args, argTypes } => run (shT P o.type) P (bi b argTypes o.type (args.toList.map isC) (args.toList.map (ev ρ))) K
    | .build t ps => match rising 0 (ps.toList.map (·.1)) with
      | true => match zeroOf P t with
        | some z => match placesOf P t with
          | some pl => parts pl (ps.toList.map fun x => (x.1, ev ρ x.2)) 0 z fun cs => K (.agg ⟨cs⟩)
          | none => bad
        | none => bad
      | false => run (shT P o.type) P (Instr.build t ⟨ps.toList.map fun x => (x.1, ev ρ x.2)⟩) K
    | .buildSlice t n ps => match elT P t with
      | .sl e => match zeroOf P e with
        | some z => match Nat.ble (n * cellsOf? P e) 16777216 && Nat.beq z.length (cellsOf? P e) with
          | true => parts (elPlace (cellsOf? P e)) (ps.toList.map fun x => (x.1, ev ρ x.2)) 0 (reps n z) fun cs => newC e cs fun a => K (.slice (some a) n n)
          | false => bad
        | none => bad
      | _ => bad
    | .alloc e => match zeroOf P e with
      | some z => newC e z fun a => K (.pointer (some a))
      | none => bad
    | .binOp op xt x y _ => run (shT P o.type) P (do eqGuard op xt x y (ev ρ x) (ev ρ y); binOp op xt (ev ρ x) (ev ρ y)) K
    | .convert s d x => run (shT P o.type) P (convert s d (ev ρ x)) K
    | .makeInterface t x => run .any P (Instr.makeInterface t (ev ρ x)) K
    | .makeMap t r => run .map P (Instr.makeMap t (r.map (ev ρ))) K
    | .makeSlice t l c => run .sl P (Instr.makeSlice t (ev ρ l) (ev ρ c)) K
    | .lookup t m k ok => match shO P o.type with
      | .two a b => runT2 P (Instr.lookup t (ev ρ m) (ev ρ k) ok) fun x y => is1 a (fun x' => is1 b (fun y' => K (.tuple #[x', y'])) y) x
      | sh => run sh P (Instr.lookup t (ev ρ m) (ev ρ k) ok) K
    | .mapUpdate t m k v => runU P (Instr.mapUpdate t (ev ρ m) (ev ρ k) (ev ρ v)) (K undef)
    | .range t x => run .ptr P (Instr.range t (ev ρ x)) K
    | .next i s => match s with
      | true => nextX P (Instr.next (ev ρ i) true o.type) (K (.tuple #[.bool false])) fun x y => isI .i64 (fun a => isI .i32 (fun b => K (.tuple #[.bool true, .int .i64 a, .int .i32 b])) y) x
      | false => nextX P (Instr.next (ev ρ i) false o.type) (K (.tuple #[.bool false])) fun x y => K (.tuple #[.bool true, x, y])
    | .typeAssert x t u ok => match shO P o.type with
      | .two a b => runT2 P (Instr.typeAssert (ev ρ x) t u ok) fun x y => is1 a (fun x' => is1 b (fun y' => K (.tuple #[x', y'])) y) x
      | sh => run sh P (Instr.typeAssert (ev ρ x) t u ok) K
    | _ => bad

/-- A guard looked at. -/
def guarded (ops : List Oper) (o : Oper) (ρ : Fr) (X Y : Fr → PT) : PT := match o.guard with
  | none => X ρ
  | some (i, want) => match (ops[i]?).bind (·.dst) with
    | none => bad
    | some s => match ρ s with
      | .bool t => match want with
        | true => pif t (X (put ρ s (.bool true))) (Y (put ρ s (.bool false)))
        | false => pif t (Y (put ρ s (.bool true))) (X (put ρ s (.bool false)))
      | .tuple _ => Y ρ
      | _ => bad
/-- Operations in their order, guards looked at. -/
def cops (P : Program) (Z : List PanicEntry → PT) (ops : List Oper) : List Oper → (Fr → PT) → Fr → PT
  | [], K, ρ => K ρ
  | o :: r, K, ρ => guarded ops o ρ (fun ρ => cop P Z o ρ fun v => cops P Z ops r K (putO ρ o.dst v)) (fun ρ => cops P Z ops r K (putO ρ o.dst undef))

/-! ### A region that draws its order -/
/-- In every world that meets S. -/
def held (S : PT) (a : Addr) (v : Value) : Prop := ∀ w', S w' → w'.cell? a = some v
def hI (S : PT) (k : IntKind) (a : Addr) (K : Int → PT) : PT := fun w => ∃ n, held S a (.int k n) ∧ K n w
def hB (S : PT) (a : Addr) (K : Bool → PT) : PT := fun w => ∃ n, held S a (.bool n) ∧ K n w
def hS (S : PT) (a : Addr) (K : ByteArray → PT) : PT := fun w => ∃ n, held S a (.string n) ∧ K n w
def hP (S : PT) (a : Addr) (K : Option Addr → PT) : PT := fun w => ∃ n, held S a (.pointer n) ∧ K n w
def hL (S : PT) (a : Addr) (K : Option Addr → Nat → Nat → PT) : PT := fun w => ∃ b n c, held S a (.slice b n c) ∧ K b n c w
def hM (S : PT) (a : Addr) (K : Option Nat → PT) : PT := fun w => ∃ n, held S a (.map n) ∧ K n w
def hV (S : PT) (a : Addr) (K : Value → PT) : PT := fun w => ∃ n, held S a n ∧ K n w
def hN (S : PT) (n : Nat) (a : Addr) (K : List Value → PT) : PT := fun w => ∃ cs : List Value, cs.length = n ∧ (∀ w', S w' → cellsAt w' a cs) ∧ K cs w
def hld (S : PT) (s : Sh) (a : Addr) (K : Value → PT) : PT := match s with
  | .int k => hI S k a fun n => K (.int k n)
  | .bool => hB S a fun n => K (.bool n)
  | .str => hS S a fun n => K (.string n)
  | .ptr => hP S a fun n => K (.pointer n)
  | .sl => hL S a fun b n c => K (.slice b n c)
  | .map => hM S a fun n => K (.map n)
  | .agg n => hN S n a fun cs => K (.agg ⟨cs⟩)
  | .any => hV S a K
  | _ => bad
def isLoad (o : Oper) : Bool := match o.op with | .load _ _ => true | _ => false
/-- Its guard says no. -/
def skips (ops : Array Oper) (o : Oper) (ρ : Fr) : Bool := match o.guard with
  | none => false
  | some (i, want) => match (ops[i]?).bind (·.dst) with
    | none => false
    | some s => match ρ s with
      | .bool t => t != want
      | .tuple _ => true
      | _ => false
/-- It may be taken first: it asks nothing of memory, or reads it. -/
def freeable (P : Program) (ops : Array Oper) (o : Oper) (ρ : Fr) : Bool := (isPv o && (!rawPv P o ρ || skips ops o ρ)) || isLoad o
/-- M: none: nothing but loads; else the condition on worlds that the region keeps. -/
def popH (P : Program) (M : Option PT) (o : Oper) (ρ : Fr) (K : Value → PT) : PT := match isLoad o with
  | false => pv P o ρ K
  | true => match o.op with
    | .load t x => match ev ρ x with
      | .pointer (some a) => match M with
        | none => ld (shT P t) a K
        | some S => hld S (shT P t) a K
      | _ => bad
    | _ => bad
def sAnd (S : PT) (K : PT) : PT := fun w => S w ∧ K w
def allP (f : Nat → PT) : List Nat → PT
  | [] => fun _ => True
  | [i] => f i
  | i :: r => fun w => f i w ∧ allP f r w
/-- Operation i is taken first. -/
def takeH (P : Program) (ops : Array Oper) (M : Option PT) (next : Array Bool → Fr → PT) (listed : Array Bool) (ρ : Fr) (i : Nat) : PT := match ops[i]? with
  | some o => guarded ops.toList o ρ (fun ρ => popH P M o ρ fun v => next (listed.setIfInBounds i true) (putO ρ o.dst v)) (fun ρ => next (listed.setIfInBounds i true) (putO ρ o.dst undef))
  | none => bad
/-- Does operation j wait for i? -/
def waitsO (ops : Array Oper) (j i : Nat) : Bool := match ops[j]? with | some o => o.after.toList.any fun e => Region.binds .any e && Nat.beq e.on i | none => false
/-- Behind an operation that waits for all others nothing is asked of S. -/
def asksS (ops : Array Oper) (j : Nat) : Bool := (List.range ops.size).any fun i => !(Nat.beq i j) && !(waitsO ops j i)
def sAndIf (b : Bool) (S : PT) (K : PT) : PT := match b with | true => sAnd S K | false => K
/-- Operation i comes up. -/
def effH (P : Program) (Z : List PanicEntry → PT) (ops : Array Oper) (S : PT) (next : Array Bool → Fr → PT) (listed : Array Bool) (ρ : Fr) (i : Nat) : PT := match ops[i]? with
  | some o => guarded ops.toList o ρ (fun ρ => cop P Z o ρ fun v => sAndIf (asksS ops i) S (next (listed.setIfInBounds i true) (putO ρ o.dst v))) (fun ρ => next (listed.setIfInBounds i true) (putO ρ o.dst undef))
  | none => bad
def mayTake (P : Program) (ops : Array Oper) (listed : Array Bool) (ρ : Fr) (i : Nat) : Bool := (match ops[i]? with | some o => freeable P ops o ρ | none => false) && Region.free .any ops listed i
def compH (P : Program) (Z : List PanicEntry → PT) (ops : Array Oper) (M : Option PT) (K : Fr → PT) : Nat → Array Bool → Fr → PT
  | 0, listed, ρ => match Region.ready .any ops listed with
    | [] => K ρ
    | _ :: _ => bad
  | f + 1, listed, ρ => match Region.ready .any ops listed with
    | [] => K ρ
    | i0 :: rs => match (i0 :: rs).find? (mayTake P ops listed ρ) with
      | some i => takeH P ops M (compH P Z ops M K f) listed ρ i
      | none => match M with
        | none => bad
        | some S => allP (effH P Z ops S (compH P Z ops M K f) listed ρ) (i0 :: rs)
def drawn (B : PT → PT) : PT := fun w => ∃ S : PT, S w.drew ∧ B S w.drew
def drew0 (K : PT) : PT := fun w => K w.drew
/-- Its type alone leaves it to 'run'. -/
def shRaw (s : Sh) : Bool := match s with | .int _ | .bool | .str | .ptr | .sl => false | _ => true
def shInt (s : Sh) : Bool := match s with | .int _ => true | _ => false
def shLen (s : Sh) : Bool := match s with | .str | .sl => true | _ => false
def rawT (P : Program) (o : Oper) : Bool := match o.op with
  | .binOp _ xt _ _ _ => shRaw (shT P xt)
  | .convert s d _ => !(shInt (shT P s) && shInt (shT P d))
  | .call { callee := .builtin .len, argTypes := ⟨[t]⟩, .. } => !shLen (shT P t)
  | _ => false
def quietOps (P : Program) (ops : List Oper) : Bool := ops.all fun o => (isPv o && !rawT P o) || isLoad o

abbrev QF := Exit → Fr → PT
def thenK (K : Fr → PT) (Q : QF) : QF := fun e => match e with | .normal => K | e => Q e
def inBl (id : Nat) (Q : QF) : QF := fun e => match e with | .exit i => bif Nat.beq i id then Q .normal else Q (.exit i) | e => Q e

def noG (Q : QF) : QF := fun e => match e with | .goto _ => fun _ => bad | e => Q e
/-- The code of a body. -/
def comp (P : Program) (Z : List PanicEntry → PT) : Code → QF → Fr → PT
  | .skip, Q, ρ => Q .normal ρ
  | .region _ ops false, Q, ρ => cops P Z ops.toList ops.toList (Q .normal) ρ
  | .region _ ops true, Q, ρ => match Region.noSelect ops with
    | true => match quietOps P ops.toList with
      | true => drew0 (compH P Z ops none (Q .normal) ops.size (Array.replicate ops.size false) ρ)
      | false => drawn fun S => compH P Z ops (some S) (Q .normal) ops.size (Array.replicate ops.size false) ρ
    | false => bad
  | .seq a b, Q, ρ => comp P Z a (thenK (comp P Z b Q) Q) ρ
  | .cond c x y, Q, ρ => match ev ρ c with
    | .bool t => pif t (comp P Z x Q ρ) (comp P Z y Q ρ)
    | _ => bad
  | .block id c, Q, ρ => comp P Z c (inBl id Q) ρ
  | .exit id, Q, ρ => Q (.exit id) ρ
  | .ret, Q, ρ => Q .ret ρ
  | .scope c, Q, ρ => comp P Z c (noG Q) ρ
  | .label _, Q, ρ => Q .normal ρ
  | _, _, _ => bad

def fr0 (args : List Value) : Fr := fun j => args.getD j undef

/-- What a body's end hands back. -/
def res1 (P : Program) (r : ResultVar) (ρ : Fr) (R : Value → PT) : PT := match r with
  | .tmp t => R (ρ t)
  | .cell t ty => match ρ t with
    | .pointer (some a) => ld (shT P ty) a R
    | _ => bad
def resL (P : Program) : List ResultVar → Fr → (List Value → PT) → PT
  | [], _, R => R []
  | r :: l, ρ, R => res1 P r ρ fun v => resL P l ρ fun vs => R (v :: vs)
def retV (P : Program) (rs : List ResultVar) (ρ : Fr) (R : Value → PT) : PT := match rs with
  | [] => R (.tuple #[])
  | [r] => res1 P r ρ R
  | r :: l => resL P (r :: l) ρ fun vs => R (.tuple ⟨vs⟩)
def bodyQ (P : Program) (rs : List ResultVar) (R : Value → PT) : QF := fun e ρ => match e with
  | .normal => retV P rs ρ R
  | .ret => retV P rs ρ R
  | _ => bad

end Go.Proofs.YtllgjjldnnmjkaaDoor
