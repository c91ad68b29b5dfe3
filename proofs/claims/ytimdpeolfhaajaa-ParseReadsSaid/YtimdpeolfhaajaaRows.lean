/-
  No cell of these rows narrows 'for every input' (looked for: loops, veiled, ifaces, maps, wideKeys, modest, calm, conditions, laid).
  DERIVED. THE GIVEN ROWS OF THIS SEAT. 3 by the template 'for every input the law returns true; each argument reads behind the call as it read before'; 0 by the template 'total and deterministic' (their statements: YtimdpeolfhaajaaTotals.lean).
  GIVEN WITH THE SEED: the statements are not yours to turn. If you find one false, say at which input.
  Laid BY PROGRAM, IN A SANDBOX (cutbox-rows.mjs): the forced cells as the released guide's own fill.sh prints them over the translation 690494cc42e4de0c… (all of the seat's roots in one cut). By AI agents, Wed Nov 11 2026. No macro, syntax, notation, axiom, sorry.
-/
import Derived.Test.YtimdpeolfhaajaaChecked
import GoSem.Claim
import GoSem.ClaimJoined
import GoSem.ClaimMapViews
import Derived.JoinedTies
import Derived.KernelRfl
namespace Go.Proofs.Ytimdpeolfhaajaa
/- THE CELL 'sum', in the pinned program and in every row, IS THE sha256 OF THE DUMP (.gsa) THAT YtimdpeolfhaajaaProg.lean LOADS. Nothing in Lean hashes anything: it is a label: what it is worth is what the hold of that sum in a sandbox is worth. -/
noncomputable def Try.pinned : Pinned := { name := "ytimdpeolfhaajaa", sum := "690494cc42e4de0c5fbc7b33c48599132637fd817af90eabf933d571d00e219e", checked := Try.checked }
namespace Rows
def none {H : Type} : Left H := { results := [], args := [] }

/-- 'milepostlaw06.ParseReads': WHATEVER THE INPUT: true; the input reads as it did. -/
def parseReadsSpec : ChangeSpec := { name := "parseReads", fn := fun _ => fun
  | [d] => { results := [.lit (.bool true)], args := [d] }
  | _ => none }
def parseReadsRow : OpenClaim := { program := "ytimdpeolfhaajaa", sum := "690494cc42e4de0c5fbc7b33c48599132637fd817af90eabf933d571d00e219e", func := "milepost/milepostlaw06.ParseReads", spec := "parseReads", unfollowed := true, recurses := true, apart := false }
def ParseReadsSaid : Prop := parseReadsRow.holds Try.pinned (OpenSpec.ofChange parseReadsSpec)

/-- ITS FALSE NEIGHBOUR: 'it returns false'. Refute it at one input. -/
def parseReadsWrong : ChangeSpec := { name := "parseReads", fn := fun _ => fun
  | [d] => { results := [.lit (.bool false)], args := [d] }
  | _ => none }
def ParseReadsWrongFalsely : Prop := parseReadsRow.holds Try.pinned (OpenSpec.ofChange parseReadsWrong)

/-- 'milepostlaw06.ParseTokens': WHATEVER THE INPUT: true; the input reads as it did. -/
def parseTokensSpec : ChangeSpec := { name := "parseTokens", fn := fun _ => fun
  | [d] => { results := [.lit (.bool true)], args := [d] }
  | _ => none }
def parseTokensRow : OpenClaim := { program := "ytimdpeolfhaajaa", sum := "690494cc42e4de0c5fbc7b33c48599132637fd817af90eabf933d571d00e219e", func := "milepost/milepostlaw06.ParseTokens", spec := "parseTokens", unfollowed := true, recurses := true, apart := false }
def ParseTokensSaid : Prop := parseTokensRow.holds Try.pinned (OpenSpec.ofChange parseTokensSpec)

/-- ITS FALSE NEIGHBOUR: 'it returns false'. Refute it at one input. -/
def parseTokensWrong : ChangeSpec := { name := "parseTokens", fn := fun _ => fun
  | [d] => { results := [.lit (.bool false)], args := [d] }
  | _ => none }
def ParseTokensWrongFalsely : Prop := parseTokensRow.holds Try.pinned (OpenSpec.ofChange parseTokensWrong)

/-- 'milepostlaw06.ParseMany': WHATEVER THE INPUT: true; the input reads as it did. -/
def parseManySpec : ChangeSpec := { name := "parseMany", fn := fun _ => fun
  | [d] => { results := [.lit (.bool true)], args := [d] }
  | _ => none }
def parseManyRow : OpenClaim := { program := "ytimdpeolfhaajaa", sum := "690494cc42e4de0c5fbc7b33c48599132637fd817af90eabf933d571d00e219e", func := "milepost/milepostlaw06.ParseMany", spec := "parseMany", unfollowed := true, recurses := true, apart := false }
def ParseManySaid : Prop := parseManyRow.holds Try.pinned (OpenSpec.ofChange parseManySpec)

/-- ITS FALSE NEIGHBOUR: 'it returns false'. Refute it at one input. -/
def parseManyWrong : ChangeSpec := { name := "parseMany", fn := fun _ => fun
  | [d] => { results := [.lit (.bool false)], args := [d] }
  | _ => none }
def ParseManyWrongFalsely : Prop := parseManyRow.holds Try.pinned (OpenSpec.ofChange parseManyWrong)

/- THE SECOND FORM. 'bulk': how many values and letters a reading holds, each counted each time it is reached (what is shared counts as often as it is met; a slice's spare places count too). A statement '..UptoSaid' is the law's where the arguments, and the package variables that the reading takes, are together of bulk at most 1048576: NARROWER than '..Said'. Prove '..Said' where nothing that the law and all that it calls make is longer than what came in: it says more and counts as full. Else prove '..UptoSaid'. A law counts once. -/
mutual
def uptoBulk {H : Type} : DataW H → Nat
  | .lit (.string bytes) => bytes.length + 1
  | .lit _ => 1
  | .nil => 1
  | .ptr d => uptoBulk d + 1
  | .slice elems spare => uptoBulkAll elems + uptoBulkAll spare + 1
  | .agg parts => uptoBulkAll parts + 1
  | .iface _ d => uptoBulk d + 1
  | .map entries => uptoBulkEntries entries + 1
  | .held _ => 1
def uptoBulkAll {H : Type} : List (DataW H) → Nat
  | [] => 0
  | d :: r => uptoBulk d + uptoBulkAll r
def uptoBulkEntries {H : Type} : List (Lit × DataW H) → Nat
  | [] => 0
  | x :: r => uptoBulkEntry x + uptoBulkEntries r
def uptoBulkEntry {H : Type} : Lit × DataW H → Nat
  | (.string bytes, d) => bytes.length + uptoBulk d + 1
  | (_, d) => uptoBulk d + 1
 end
def uptoSmall : (H : Type) → List (DataW H) → Bool := fun _ ds => decide (uptoBulkAll ds ≤ 1048576)
def OpenSpec.upto (s : _root_.Go.ChangeSpec) : _root_.Go.OpenSpec := { _root_.Go.OpenSpec.ofChange s with cond := some uptoSmall }

/-- 'milepostlaw06.ParseReads', WHERE WHAT IT READS IS OF BULK AT MOST 1048576: true; the input reads as it did. -/
def parseReadsUptoRow : OpenClaim := { program := "ytimdpeolfhaajaa", sum := "690494cc42e4de0c5fbc7b33c48599132637fd817af90eabf933d571d00e219e", func := "milepost/milepostlaw06.ParseReads", spec := "parseReads", unfollowed := true, recurses := true, apart := false, narrowed := true }
def ParseReadsUptoSaid : Prop := parseReadsUptoRow.holds Try.pinned (OpenSpec.upto parseReadsSpec)

/-- 'milepostlaw06.ParseTokens', WHERE WHAT IT READS IS OF BULK AT MOST 1048576: true; the input reads as it did. -/
def parseTokensUptoRow : OpenClaim := { program := "ytimdpeolfhaajaa", sum := "690494cc42e4de0c5fbc7b33c48599132637fd817af90eabf933d571d00e219e", func := "milepost/milepostlaw06.ParseTokens", spec := "parseTokens", unfollowed := true, recurses := true, apart := false, narrowed := true }
def ParseTokensUptoSaid : Prop := parseTokensUptoRow.holds Try.pinned (OpenSpec.upto parseTokensSpec)

/-- 'milepostlaw06.ParseMany', WHERE WHAT IT READS IS OF BULK AT MOST 1048576: true; the input reads as it did. -/
def parseManyUptoRow : OpenClaim := { program := "ytimdpeolfhaajaa", sum := "690494cc42e4de0c5fbc7b33c48599132637fd817af90eabf933d571d00e219e", func := "milepost/milepostlaw06.ParseMany", spec := "parseMany", unfollowed := true, recurses := true, apart := false, narrowed := true }
def ParseManyUptoSaid : Prop := parseManyUptoRow.holds Try.pinned (OpenSpec.upto parseManySpec)

end Rows
end Go.Proofs.Ytimdpeolfhaajaa
