/-
  No cell of these rows narrows 'for every input' (looked for: loops, veiled, ifaces, maps, wideKeys, modest, calm, conditions, laid).
  DERIVED. THE GIVEN ROWS OF THIS SEAT. 6 by the template 'for every input the law returns true; each argument reads behind the call as it read before'; 0 by the template 'total and deterministic' (their statements: YthheldpjcndelaaTotals.lean).
  GIVEN WITH THE SEED: the statements are not yours to turn. If you find one false, say at which input.
  Laid BY PROGRAM, IN A SANDBOX (cutbox-rows.mjs): the forced cells as the released guide's own fill.sh prints them over the translation 539f0a191d381c84… (all of the seat's roots in one cut). By AI agents, Wed Nov 11 2026. No macro, syntax, notation, axiom, sorry.
-/
import Derived.Test.YthheldpjcndelaaChecked
import GoSem.Claim
import GoSem.ClaimJoined
import GoSem.ClaimMapViews
import Derived.JoinedTies
import Derived.KernelRfl
namespace Go.Proofs.Ythheldpjcndelaa
/- THE CELL 'sum', in the pinned program and in every row, IS THE sha256 OF THE DUMP (.gsa) THAT YthheldpjcndelaaProg.lean LOADS. Nothing in Lean hashes anything: it is a label: what it is worth is what the hold of that sum in a sandbox is worth. -/
noncomputable def Try.pinned : Pinned := { name := "ythheldpjcndelaa", sum := "539f0a191d381c84cc8bd2fe71edfe6d1c466b22811713bd36e14c611d574975", checked := Try.checked }
namespace Rows
def none {H : Type} : Left H := { results := [], args := [] }

/-- 'milepostlaw18.HoldLease': WHATEVER THE INPUT: true; the input reads as it did. -/
def holdLeaseSpec : ChangeSpec := { name := "holdLease", fn := fun _ => fun
  | [d1, d2, d3] => { results := [.lit (.bool true)], args := [d1, d2, d3] }
  | _ => none }
def holdLeaseRow : OpenClaim := { program := "ythheldpjcndelaa", sum := "539f0a191d381c84cc8bd2fe71edfe6d1c466b22811713bd36e14c611d574975", func := "milepost/milepostlaw18.HoldLease", spec := "holdLease", apart := false }
def HoldLeaseSaid : Prop := holdLeaseRow.holds Try.pinned (OpenSpec.ofChange holdLeaseSpec)

/-- ITS FALSE NEIGHBOUR: 'it returns false'. Refute it at one input. -/
def holdLeaseWrong : ChangeSpec := { name := "holdLease", fn := fun _ => fun
  | [d1, d2, d3] => { results := [.lit (.bool false)], args := [d1, d2, d3] }
  | _ => none }
def HoldLeaseWrongFalsely : Prop := holdLeaseRow.holds Try.pinned (OpenSpec.ofChange holdLeaseWrong)

/-- 'milepostlaw18.HoldFills': WHATEVER THE INPUT: true; the input reads as it did. -/
def holdFillsSpec : ChangeSpec := { name := "holdFills", fn := fun _ => fun
  | [d1, d2, d3, d4] => { results := [.lit (.bool true)], args := [d1, d2, d3, d4] }
  | _ => none }
def holdFillsRow : OpenClaim := { program := "ythheldpjcndelaa", sum := "539f0a191d381c84cc8bd2fe71edfe6d1c466b22811713bd36e14c611d574975", func := "milepost/milepostlaw18.HoldFills", spec := "holdFills", apart := false }
def HoldFillsSaid : Prop := holdFillsRow.holds Try.pinned (OpenSpec.ofChange holdFillsSpec)

/-- ITS FALSE NEIGHBOUR: 'it returns false'. Refute it at one input. -/
def holdFillsWrong : ChangeSpec := { name := "holdFills", fn := fun _ => fun
  | [d1, d2, d3, d4] => { results := [.lit (.bool false)], args := [d1, d2, d3, d4] }
  | _ => none }
def HoldFillsWrongFalsely : Prop := holdFillsRow.holds Try.pinned (OpenSpec.ofChange holdFillsWrong)

/-- 'milepostlaw18.HoldTwo': WHATEVER THE INPUT: true; the input reads as it did. -/
def holdTwoSpec : ChangeSpec := { name := "holdTwo", fn := fun _ => fun
  | [d1, d2] => { results := [.lit (.bool true)], args := [d1, d2] }
  | _ => none }
def holdTwoRow : OpenClaim := { program := "ythheldpjcndelaa", sum := "539f0a191d381c84cc8bd2fe71edfe6d1c466b22811713bd36e14c611d574975", func := "milepost/milepostlaw18.HoldTwo", spec := "holdTwo", apart := false }
def HoldTwoSaid : Prop := holdTwoRow.holds Try.pinned (OpenSpec.ofChange holdTwoSpec)

/-- ITS FALSE NEIGHBOUR: 'it returns false'. Refute it at one input. -/
def holdTwoWrong : ChangeSpec := { name := "holdTwo", fn := fun _ => fun
  | [d1, d2] => { results := [.lit (.bool false)], args := [d1, d2] }
  | _ => none }
def HoldTwoWrongFalsely : Prop := holdTwoRow.holds Try.pinned (OpenSpec.ofChange holdTwoWrong)

/-- 'milepostlaw18.HoldUses': WHATEVER THE INPUT: true; the input reads as it did. -/
def holdUsesSpec : ChangeSpec := { name := "holdUses", fn := fun _ => fun
  | [d] => { results := [.lit (.bool true)], args := [d] }
  | _ => none }
def holdUsesRow : OpenClaim := { program := "ythheldpjcndelaa", sum := "539f0a191d381c84cc8bd2fe71edfe6d1c466b22811713bd36e14c611d574975", func := "milepost/milepostlaw18.HoldUses", spec := "holdUses", apart := false }
def HoldUsesSaid : Prop := holdUsesRow.holds Try.pinned (OpenSpec.ofChange holdUsesSpec)

/-- ITS FALSE NEIGHBOUR: 'it returns false'. Refute it at one input. -/
def holdUsesWrong : ChangeSpec := { name := "holdUses", fn := fun _ => fun
  | [d] => { results := [.lit (.bool false)], args := [d] }
  | _ => none }
def HoldUsesWrongFalsely : Prop := holdUsesRow.holds Try.pinned (OpenSpec.ofChange holdUsesWrong)

/-- 'milepostlaw18.HoldPlays': WHATEVER THE INPUT: true; the input reads as it did. -/
def holdPlaysSpec : ChangeSpec := { name := "holdPlays", fn := fun _ => fun
  | [d1, d2, d3, d4] => { results := [.lit (.bool true)], args := [d1, d2, d3, d4] }
  | _ => none }
def holdPlaysRow : OpenClaim := { program := "ythheldpjcndelaa", sum := "539f0a191d381c84cc8bd2fe71edfe6d1c466b22811713bd36e14c611d574975", func := "milepost/milepostlaw18.HoldPlays", spec := "holdPlays", apart := false }
def HoldPlaysSaid : Prop := holdPlaysRow.holds Try.pinned (OpenSpec.ofChange holdPlaysSpec)

/-- ITS FALSE NEIGHBOUR: 'it returns false'. Refute it at one input. -/
def holdPlaysWrong : ChangeSpec := { name := "holdPlays", fn := fun _ => fun
  | [d1, d2, d3, d4] => { results := [.lit (.bool false)], args := [d1, d2, d3, d4] }
  | _ => none }
def HoldPlaysWrongFalsely : Prop := holdPlaysRow.holds Try.pinned (OpenSpec.ofChange holdPlaysWrong)

/-- 'milepostlaw18.HoldNil': WHATEVER THE INPUT: true; the input reads as it did. -/
def holdNilSpec : ChangeSpec := { name := "holdNil", fn := fun _ => fun
  | [d] => { results := [.lit (.bool true)], args := [d] }
  | _ => none }
def holdNilRow : OpenClaim := { program := "ythheldpjcndelaa", sum := "539f0a191d381c84cc8bd2fe71edfe6d1c466b22811713bd36e14c611d574975", func := "milepost/milepostlaw18.HoldNil", spec := "holdNil", apart := false }
def HoldNilSaid : Prop := holdNilRow.holds Try.pinned (OpenSpec.ofChange holdNilSpec)

/-- ITS FALSE NEIGHBOUR: 'it returns false'. Refute it at one input. -/
def holdNilWrong : ChangeSpec := { name := "holdNil", fn := fun _ => fun
  | [d] => { results := [.lit (.bool false)], args := [d] }
  | _ => none }
def HoldNilWrongFalsely : Prop := holdNilRow.holds Try.pinned (OpenSpec.ofChange holdNilWrong)

/- THE SECOND FORM. 'bulk': how many values and letters a reading holds, each counted each time it is reached (what is shared counts as often as it is met; a slice's spare places count too). A statement '..UptoSaid' is the law's where the arguments, and the package variables that the reading takes, are together of bulk at most 1048576: NARROWER than '..Said'. Prove '..Said' where nothing that the law and all that it calls make is longer than what came in: it says more and counts as full. Else prove '..UptoSaid'. A law counts once. -/
mutual
def uptoBulk {H : Type} : DataW H → Nat
  | .lit (.string bytes) => bytes.length + 1
  | .lit _ => 1
  | .nil => 1
  | .ptr d => uptoBulk d + 1
  | .slice elems spare => uptoBulkAll elems + uptoBulkAll spare + 1
  | .agg parts => uptoBulkAll parts + 1
  | .iface _ d => uptoBulk d + 1
  | .map entries => uptoBulkEntries entries + 1
  | .held _ => 1
def uptoBulkAll {H : Type} : List (DataW H) → Nat
  | [] => 0
  | d :: r => uptoBulk d + uptoBulkAll r
def uptoBulkEntries {H : Type} : List (Lit × DataW H) → Nat
  | [] => 0
  | x :: r => uptoBulkEntry x + uptoBulkEntries r
def uptoBulkEntry {H : Type} : Lit × DataW H → Nat
  | (.string bytes, d) => bytes.length + uptoBulk d + 1
  | (_, d) => uptoBulk d + 1
 end
def uptoSmall : (H : Type) → List (DataW H) → Bool := fun _ ds => decide (uptoBulkAll ds ≤ 1048576)
def OpenSpec.upto (s : _root_.Go.ChangeSpec) : _root_.Go.OpenSpec := { _root_.Go.OpenSpec.ofChange s with cond := some uptoSmall }

/-- 'milepostlaw18.HoldLease', WHERE WHAT IT READS IS OF BULK AT MOST 1048576: true; the input reads as it did. -/
def holdLeaseUptoRow : OpenClaim := { program := "ythheldpjcndelaa", sum := "539f0a191d381c84cc8bd2fe71edfe6d1c466b22811713bd36e14c611d574975", func := "milepost/milepostlaw18.HoldLease", spec := "holdLease", apart := false, narrowed := true }
def HoldLeaseUptoSaid : Prop := holdLeaseUptoRow.holds Try.pinned (OpenSpec.upto holdLeaseSpec)

/-- 'milepostlaw18.HoldFills', WHERE WHAT IT READS IS OF BULK AT MOST 1048576: true; the input reads as it did. -/
def holdFillsUptoRow : OpenClaim := { program := "ythheldpjcndelaa", sum := "539f0a191d381c84cc8bd2fe71edfe6d1c466b22811713bd36e14c611d574975", func := "milepost/milepostlaw18.HoldFills", spec := "holdFills", apart := false, narrowed := true }
def HoldFillsUptoSaid : Prop := holdFillsUptoRow.holds Try.pinned (OpenSpec.upto holdFillsSpec)

/-- 'milepostlaw18.HoldTwo', WHERE WHAT IT READS IS OF BULK AT MOST 1048576: true; the input reads as it did. -/
def holdTwoUptoRow : OpenClaim := { program := "ythheldpjcndelaa", sum := "539f0a191d381c84cc8bd2fe71edfe6d1c466b22811713bd36e14c611d574975", func := "milepost/milepostlaw18.HoldTwo", spec := "holdTwo", apart := false, narrowed := true }
def HoldTwoUptoSaid : Prop := holdTwoUptoRow.holds Try.pinned (OpenSpec.upto holdTwoSpec)

/-- 'milepostlaw18.HoldUses', WHERE WHAT IT READS IS OF BULK AT MOST 1048576: true; the input reads as it did. -/
def holdUsesUptoRow : OpenClaim := { program := "ythheldpjcndelaa", sum := "539f0a191d381c84cc8bd2fe71edfe6d1c466b22811713bd36e14c611d574975", func := "milepost/milepostlaw18.HoldUses", spec := "holdUses", apart := false, narrowed := true }
def HoldUsesUptoSaid : Prop := holdUsesUptoRow.holds Try.pinned (OpenSpec.upto holdUsesSpec)

/-- 'milepostlaw18.HoldPlays', WHERE WHAT IT READS IS OF BULK AT MOST 1048576: true; the input reads as it did. -/
def holdPlaysUptoRow : OpenClaim := { program := "ythheldpjcndelaa", sum := "539f0a191d381c84cc8bd2fe71edfe6d1c466b22811713bd36e14c611d574975", func := "milepost/milepostlaw18.HoldPlays", spec := "holdPlays", apart := false, narrowed := true }
def HoldPlaysUptoSaid : Prop := holdPlaysUptoRow.holds Try.pinned (OpenSpec.upto holdPlaysSpec)

/-- 'milepostlaw18.HoldNil', WHERE WHAT IT READS IS OF BULK AT MOST 1048576: true; the input reads as it did. -/
def holdNilUptoRow : OpenClaim := { program := "ythheldpjcndelaa", sum := "539f0a191d381c84cc8bd2fe71edfe6d1c466b22811713bd36e14c611d574975", func := "milepost/milepostlaw18.HoldNil", spec := "holdNil", apart := false, narrowed := true }
def HoldNilUptoSaid : Prop := holdNilUptoRow.holds Try.pinned (OpenSpec.upto holdNilSpec)

end Rows
end Go.Proofs.Ythheldpjcndelaa
