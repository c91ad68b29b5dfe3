/-
  What lines mean, as plain functions written as the program's code is; and how entries lie in memory. No condition.
-/
import Derived.Test.YtllgjjldnnmjkaaDoorRo
set_option linter.unusedVariables false
set_option linter.unusedSimpArgs false
set_option maxRecDepth 100000
namespace Go.Proofs.YtllgjjldnnmjkaaDoor
open Go.RowKit
structure Ft where
  e : Int
  p : Int
structure En where
  default : Bool
  prio : Int
  src : Int
  srcBits : Int
  dst : Int
  dstBits : Int
  sLow : Int
  sHigh : Int
  dLow : Int
  dHigh : Int
  proto : Int
  action : Int
def Ft.enc (f : Ft) : List Value := [.int .i64 f.e, .int .i64 f.p]
theorem Ft.enc_len (f : Ft) : f.enc.length = 2 := rfl
theorem Ft.enc_one (f : Ft) : ∀ v ∈ f.enc, v.oneCell' = true := by simp [Ft.enc, Value.oneCell']
def En.enc (x : En) : List Value := [.bool x.default, .int .i64 x.prio, .int .u32 x.src, .int .i64 x.srcBits, .int .u32 x.dst, .int .i64 x.dstBits, .int .i64 x.sLow, .int .i64 x.sHigh, .int .i64 x.dLow, .int .i64 x.dHigh, .int .i64 x.proto, .int .i64 x.action]
theorem En.enc_len (x : En) : x.enc.length = 12 := rfl
theorem En.enc_one (x : En) : ∀ v ∈ x.enc, v.oneCell' = true := by simp [En.enc, Value.oneCell']
def ft0 : Ft := ⟨0, 0⟩
def snWithin (n : Fg) (lo hi : Int) : Ft := if n.n < lo then ⟨10, n.pos⟩ else if n.n > hi then ⟨10, n.pos⟩ else ft0
def snFirst : List Ft → Ft
  | [] => ft0
  | f :: l => if f.e ≠ 0 then f else snFirst l
def mixS (v n : Int) : Int := IntKind.wrap .u32 (BitVec.ofInt (IntKind.bits .u32) (IntKind.wrap .u32 (v * 2 ^ (min (8 : Int).toNat (IntKind.bits .u32)))) ||| BitVec.ofInt (IntKind.bits .u32) (IntKind.wrap .u32 (IntKind.wrap .i64 (BitVec.ofInt (IntKind.bits .i64) n &&& BitVec.ofInt (IntKind.bits .i64) 255).toNat))).toNat
def snAddr : List Fg → Nat → Int → Int → Int × Int × Ft
  | [], _, v, b => (v, b, ft0)
  | n :: l, i, v, b =>
    if i = 4 then (if (snWithin n 0 32).e ≠ 0 then (0, 0, snWithin n 0 32) else snAddr l (i + 1) v n.n)
    else (if (snWithin n 0 255).e ≠ 0 then (0, 0, snWithin n 0 255) else snAddr l (i + 1) (mixS v n.n) b)
def nthF (l : List Fg) (i : Nat) : Fg := (l[i]?).getD ⟨0, 0⟩
def snPorts (l : List Fg) : Int × Int × Ft :=
  let lo := nthF l 0
  let hi := nthF l (l.length - 1)
  (lo.n, hi.n, snFirst [snWithin lo 0 65535, snWithin hi 0 65535, snWithin hi lo.n 65535])
def snMany (c : Cl) : Int :=
  if same c.word wSrc = true ∨ same c.word wDst = true then (if c.slash = true then 5 else 4)
  else if same c.word wSport = true ∨ same c.word wDport = true then (if c.dash = true then 2 else 1)
  else if same c.word wProto = true then 1 else 0
def snClause (x : En) (c : Cl) : En × Ft :=
  if same c.word wSrc = true then ({ x with src := (snAddr c.nums 0 0 32).1, srcBits := (snAddr c.nums 0 0 32).2.1 }, (snAddr c.nums 0 0 32).2.2)
  else if same c.word wDst = true then ({ x with dst := (snAddr c.nums 0 0 32).1, dstBits := (snAddr c.nums 0 0 32).2.1 }, (snAddr c.nums 0 0 32).2.2)
  else if same c.word wSport = true then ({ x with sLow := (snPorts c.nums).1, sHigh := (snPorts c.nums).2.1 }, (snPorts c.nums).2.2)
  else if same c.word wDport = true then ({ x with dLow := (snPorts c.nums).1, dHigh := (snPorts c.nums).2.1 }, (snPorts c.nums).2.2)
  else ({ x with proto := (nthF c.nums 0).n }, snWithin (nthF c.nums 0) 0 255)
/-- The clauses from place i on: of all those. -/
def snClauses (cs : List Cl) : List Cl → Nat → En → En × Ft
  | [], _, x => (x, ft0)
  | c :: l, i, x =>
    if c.nums.length = 0 then (x, ⟨8, c.pos⟩)
    else if (c.nums.length : Int) ≠ snMany c then (x, ⟨8, c.pos⟩)
    else if (cs.take i).any (fun d => same d.word c.word) = true then (x, ⟨9, c.pos⟩)
    else if (snClause x c).2.e ≠ 0 then snClause x c
    else snClauses cs l (i + 1) (snClause x c).1
def en0 : En := ⟨false, 0, 0, 0, 0, 0, 0, 0, 0, 0, 0, 0⟩
def snLine (r : Rw) : En × Ft :=
  let x : En := ⟨false, r.prio.n, 0, 0, 0, 0, 0, 65535, 0, 65535, -1, 0⟩
  if (snWithin r.prio 0 65535).e ≠ 0 then (x, snWithin r.prio 0 65535) else snClauses r.clauses r.clauses 0 x
/-- What a line comes to, ahead of its action; and is there a default one. -/
def snRow (i : Nat) (had : Bool) (r : Rw) : En × Ft × Bool :=
  if i = 64 then (en0, ⟨4, r.pos⟩, had)
  else if r.default = true ∧ had = true then (en0, ⟨9, r.pos⟩, had)
  else if r.default = true then ({ en0 with default := true }, ft0, true)
  else ((snLine r).1, (snLine r).2, had)
def snAct (r : Rw) (x : En) (f : Ft) : En × Ft :=
  if f.e = 0 ∧ r.drop = false then ({ x with action := r.port.n }, snWithin r.port 1 99) else (x, f)
def snRows : List Rw → Nat → Bool → List En → Int → List En × Int × Int
  | [], _, had, out, size => if had = true then (out, 0, 0) else ([], 11, size)
  | r :: l, i, had, out, size =>
    let t := snRow i had r
    let u := snAct r t.1 t.2.1
    if u.2.e ≠ 0 then ([], u.2.e, u.2.p) else snRows l (i + 1) t.2.2 (out ++ [u.1]) size
def snCheck (l : List Rw) (size : Int) : List En × Int × Int := snRows l 0 false [] size
def snRead (s : ByteArray) : List En × Int × Int := if (parseS s).2.1 ≠ 0 then ([], (parseS s).2.1, (parseS s).2.2) else snCheck (parseS s).1 s.size
end Go.Proofs.YtllgjjldnnmjkaaDoor
