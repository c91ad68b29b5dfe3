/-
  NARROWER THAN 'FOR EVERY INPUT', by the rows' own cells (each row's printed sentence says how): SenseReads: laid · SenseChecks: laid · SenseApplies: laid · SenseSays: laid · SenseWhole: laid · SenseParses: laid · SenseBack: laid · SensePrints: laid.
  DERIVED. THE GIVEN ROWS OF THIS SEAT. 8 by the template 'for every input the law returns true; each argument reads behind the call as it read before'; 0 by the template 'total and deterministic' (their statements: YtllgjjldnnmjkaaDoorTotals.lean).
  GIVEN WITH THE SEED: the statements are not yours to turn. If you find one false, say at which input.
  Laid BY PROGRAM, IN A SANDBOX (cutbox-rows.mjs): the forced cells as the released guide's own fill.sh prints them over the translation 80f55eb58b602367… (all of the seat's roots in one cut). By AI agents, Wed Nov 11 2026. No macro, syntax, notation, axiom, sorry.
-/
import Derived.Test.YtllgjjldnnmjkaaDoorChecked
import GoSem.Claim
import GoSem.ClaimJoined
import GoSem.ClaimMapViews
import Derived.JoinedTies
import Derived.KernelRfl
namespace Go.Proofs.YtllgjjldnnmjkaaDoor
/- THE CELL 'sum', in the pinned program and in every row, IS THE sha256 OF THE DUMP (.gsa) THAT YtllgjjldnnmjkaaDoorProg.lean LOADS. Nothing in Lean hashes anything: it is a label: what it is worth is what the hold of that sum in a sandbox is worth. -/
noncomputable def Tryd.pinned : Pinned := { name := "ytllgjjldnnmjkaadoor", sum := "80f55eb58b6023670bb9100cbfb82f437442a24c9fcd0eae7ce6770f963bfcc3", checked := Tryd.checked }
namespace Rows
def none {H : Type} : Left H := { results := [], args := [] }

/- WHAT THE LISTED PACKAGE-LEVEL VARIABLES READ AS WHEN THE CALL BEGINS. Each datum BY PROGRAM (the guide's laid-datum.mjs) off the statement by which the dump's own 'gosem.cut.vars' lays the variable. In a bare row this is a premise. The card (YtllgjjldnnmjkaaDoorCards.lean) ties it to the program's text. -/
def laid_milepost_head_places {H : Type} : DataW H := .agg [.agg [.lit (.int .i64 0), .lit (.int .i64 32)], .agg [.lit (.int .i64 32), .lit (.int .i64 32)], .agg [.lit (.int .i64 64), .lit (.int .i64 16)], .agg [.lit (.int .i64 80), .lit (.int .i64 16)], .agg [.lit (.int .i64 96), .lit (.int .i64 8)]]
def laid_math_bits_deBruijn32tab {H : Type} : DataW H := .agg [.lit (.int .u8 0), .lit (.int .u8 1), .lit (.int .u8 28), .lit (.int .u8 2), .lit (.int .u8 29), .lit (.int .u8 14), .lit (.int .u8 24), .lit (.int .u8 3), .lit (.int .u8 30), .lit (.int .u8 22), .lit (.int .u8 20), .lit (.int .u8 15), .lit (.int .u8 25), .lit (.int .u8 17), .lit (.int .u8 4), .lit (.int .u8 8), .lit (.int .u8 31), .lit (.int .u8 27), .lit (.int .u8 13), .lit (.int .u8 23), .lit (.int .u8 21), .lit (.int .u8 19), .lit (.int .u8 16), .lit (.int .u8 7), .lit (.int .u8 26), .lit (.int .u8 12), .lit (.int .u8 18), .lit (.int .u8 6), .lit (.int .u8 11), .lit (.int .u8 5), .lit (.int .u8 10), .lit (.int .u8 9)]
def laid_math_bits_deBruijn64tab {H : Type} : DataW H := .agg [.lit (.int .u8 0), .lit (.int .u8 1), .lit (.int .u8 56), .lit (.int .u8 2), .lit (.int .u8 57), .lit (.int .u8 49), .lit (.int .u8 28), .lit (.int .u8 3), .lit (.int .u8 61), .lit (.int .u8 58), .lit (.int .u8 42), .lit (.int .u8 50), .lit (.int .u8 38), .lit (.int .u8 29), .lit (.int .u8 17), .lit (.int .u8 4), .lit (.int .u8 62), .lit (.int .u8 47), .lit (.int .u8 59), .lit (.int .u8 36), .lit (.int .u8 45), .lit (.int .u8 43), .lit (.int .u8 51), .lit (.int .u8 22), .lit (.int .u8 53), .lit (.int .u8 39), .lit (.int .u8 33), .lit (.int .u8 30), .lit (.int .u8 24), .lit (.int .u8 18), .lit (.int .u8 12), .lit (.int .u8 5), .lit (.int .u8 63), .lit (.int .u8 55), .lit (.int .u8 48), .lit (.int .u8 27), .lit (.int .u8 60), .lit (.int .u8 41), .lit (.int .u8 37), .lit (.int .u8 16), .lit (.int .u8 46), .lit (.int .u8 35), .lit (.int .u8 44), .lit (.int .u8 21), .lit (.int .u8 52), .lit (.int .u8 32), .lit (.int .u8 23), .lit (.int .u8 11), .lit (.int .u8 54), .lit (.int .u8 26), .lit (.int .u8 40), .lit (.int .u8 15), .lit (.int .u8 34), .lit (.int .u8 20), .lit (.int .u8 31), .lit (.int .u8 10), .lit (.int .u8 25), .lit (.int .u8 14), .lit (.int .u8 19), .lit (.int .u8 9), .lit (.int .u8 13), .lit (.int .u8 8), .lit (.int .u8 7), .lit (.int .u8 6)]
def laid_internal_strconv_uint64pow10 {H : Type} : DataW H := .agg [.lit (.int .u64 1), .lit (.int .u64 10), .lit (.int .u64 100), .lit (.int .u64 1000), .lit (.int .u64 10000), .lit (.int .u64 100000), .lit (.int .u64 1000000), .lit (.int .u64 10000000), .lit (.int .u64 100000000), .lit (.int .u64 1000000000), .lit (.int .u64 10000000000), .lit (.int .u64 100000000000), .lit (.int .u64 1000000000000), .lit (.int .u64 10000000000000), .lit (.int .u64 100000000000000), .lit (.int .u64 1000000000000000), .lit (.int .u64 10000000000000000), .lit (.int .u64 100000000000000000), .lit (.int .u64 1000000000000000000), .lit (.int .u64 10000000000000000000)]

/-- 'milepostlaw07.SenseReads': WHATEVER THE INPUT: true; the input reads as it did. -/
def senseReadsSpec : ChangeSpec := { name := "senseReads", fn := fun _ => fun
  | [d] => { results := [.lit (.bool true)], args := [d] }
  | _ => none }
def senseReadsRow : OpenClaim := { program := "ytllgjjldnnmjkaadoor", sum := "80f55eb58b6023670bb9100cbfb82f437442a24c9fcd0eae7ce6770f963bfcc3", func := "milepost/milepostlaw07.SenseReads", spec := "senseReads", unfollowed := true, recurses := true, named := ["milepost/head.places"], apart := false, laid := [("milepost/head.places", laid_milepost_head_places)] }
def SenseReadsSaid : Prop := senseReadsRow.holds Tryd.pinned (OpenSpec.ofChange senseReadsSpec)

/-- ITS FALSE NEIGHBOUR: 'it returns false'. Refute it at one input. -/
def senseReadsWrong : ChangeSpec := { name := "senseReads", fn := fun _ => fun
  | [d] => { results := [.lit (.bool false)], args := [d] }
  | _ => none }
def SenseReadsWrongFalsely : Prop := senseReadsRow.holds Tryd.pinned (OpenSpec.ofChange senseReadsWrong)

/-- 'milepostlaw07.SenseChecks': WHATEVER THE INPUT: true; the input reads as it did. -/
def senseChecksSpec : ChangeSpec := { name := "senseChecks", fn := fun _ => fun
  | [d1, d2] => { results := [.lit (.bool true)], args := [d1, d2] }
  | _ => none }
def senseChecksRow : OpenClaim := { program := "ytllgjjldnnmjkaadoor", sum := "80f55eb58b6023670bb9100cbfb82f437442a24c9fcd0eae7ce6770f963bfcc3", func := "milepost/milepostlaw07.SenseChecks", spec := "senseChecks", unfollowed := true, recurses := true, named := ["milepost/head.places"], apart := false, laid := [("milepost/head.places", laid_milepost_head_places)] }
def SenseChecksSaid : Prop := senseChecksRow.holds Tryd.pinned (OpenSpec.ofChange senseChecksSpec)

/-- ITS FALSE NEIGHBOUR: 'it returns false'. Refute it at one input. -/
def senseChecksWrong : ChangeSpec := { name := "senseChecks", fn := fun _ => fun
  | [d1, d2] => { results := [.lit (.bool false)], args := [d1, d2] }
  | _ => none }
def SenseChecksWrongFalsely : Prop := senseChecksRow.holds Tryd.pinned (OpenSpec.ofChange senseChecksWrong)

/-- 'milepostlaw07.SenseApplies': WHATEVER THE INPUT: true; the input reads as it did. -/
def senseAppliesSpec : ChangeSpec := { name := "senseApplies", fn := fun _ => fun
  | [d1, d2] => { results := [.lit (.bool true)], args := [d1, d2] }
  | _ => none }
def senseAppliesRow : OpenClaim := { program := "ytllgjjldnnmjkaadoor", sum := "80f55eb58b6023670bb9100cbfb82f437442a24c9fcd0eae7ce6770f963bfcc3", func := "milepost/milepostlaw07.SenseApplies", spec := "senseApplies", unfollowed := true, recurses := true, named := ["milepost/head.places"], apart := false, laid := [("milepost/head.places", laid_milepost_head_places)] }
def SenseAppliesSaid : Prop := senseAppliesRow.holds Tryd.pinned (OpenSpec.ofChange senseAppliesSpec)

/-- ITS FALSE NEIGHBOUR: 'it returns false'. Refute it at one input. -/
def senseAppliesWrong : ChangeSpec := { name := "senseApplies", fn := fun _ => fun
  | [d1, d2] => { results := [.lit (.bool false)], args := [d1, d2] }
  | _ => none }
def SenseAppliesWrongFalsely : Prop := senseAppliesRow.holds Tryd.pinned (OpenSpec.ofChange senseAppliesWrong)

/-- 'milepostlaw07.SenseSays': WHATEVER THE INPUT: true; the input reads as it did. -/
def senseSaysSpec : ChangeSpec := { name := "senseSays", fn := fun _ => fun
  | [d1, d2] => { results := [.lit (.bool true)], args := [d1, d2] }
  | _ => none }
def senseSaysRow : OpenClaim := { program := "ytllgjjldnnmjkaadoor", sum := "80f55eb58b6023670bb9100cbfb82f437442a24c9fcd0eae7ce6770f963bfcc3", func := "milepost/milepostlaw07.SenseSays", spec := "senseSays", unfollowed := true, recurses := true, named := ["milepost/head.places"], apart := false, laid := [("milepost/head.places", laid_milepost_head_places)] }
def SenseSaysSaid : Prop := senseSaysRow.holds Tryd.pinned (OpenSpec.ofChange senseSaysSpec)

/-- ITS FALSE NEIGHBOUR: 'it returns false'. Refute it at one input. -/
def senseSaysWrong : ChangeSpec := { name := "senseSays", fn := fun _ => fun
  | [d1, d2] => { results := [.lit (.bool false)], args := [d1, d2] }
  | _ => none }
def SenseSaysWrongFalsely : Prop := senseSaysRow.holds Tryd.pinned (OpenSpec.ofChange senseSaysWrong)

/-- 'milepostlaw07.SenseWhole': WHATEVER THE INPUT: true; the input reads as it did. -/
def senseWholeSpec : ChangeSpec := { name := "senseWhole", fn := fun _ => fun
  | [d1, d2] => { results := [.lit (.bool true)], args := [d1, d2] }
  | _ => none }
def senseWholeRow : OpenClaim := { program := "ytllgjjldnnmjkaadoor", sum := "80f55eb58b6023670bb9100cbfb82f437442a24c9fcd0eae7ce6770f963bfcc3", func := "milepost/milepostlaw07.SenseWhole", spec := "senseWhole", unfollowed := true, recurses := true, named := ["milepost/head.places"], apart := false, laid := [("milepost/head.places", laid_milepost_head_places)] }
def SenseWholeSaid : Prop := senseWholeRow.holds Tryd.pinned (OpenSpec.ofChange senseWholeSpec)

/-- ITS FALSE NEIGHBOUR: 'it returns false'. Refute it at one input. -/
def senseWholeWrong : ChangeSpec := { name := "senseWhole", fn := fun _ => fun
  | [d1, d2] => { results := [.lit (.bool false)], args := [d1, d2] }
  | _ => none }
def SenseWholeWrongFalsely : Prop := senseWholeRow.holds Tryd.pinned (OpenSpec.ofChange senseWholeWrong)

/-- 'milepostlaw07.SenseParses': WHATEVER THE INPUT: true; the input reads as it did. -/
def senseParsesSpec : ChangeSpec := { name := "senseParses", fn := fun _ => fun
  | [d] => { results := [.lit (.bool true)], args := [d] }
  | _ => none }
def senseParsesRow : OpenClaim := { program := "ytllgjjldnnmjkaadoor", sum := "80f55eb58b6023670bb9100cbfb82f437442a24c9fcd0eae7ce6770f963bfcc3", func := "milepost/milepostlaw07.SenseParses", spec := "senseParses", unfollowed := true, recurses := true, named := ["milepost/head.places"], apart := false, laid := [("milepost/head.places", laid_milepost_head_places)] }
def SenseParsesSaid : Prop := senseParsesRow.holds Tryd.pinned (OpenSpec.ofChange senseParsesSpec)

/-- ITS FALSE NEIGHBOUR: 'it returns false'. Refute it at one input. -/
def senseParsesWrong : ChangeSpec := { name := "senseParses", fn := fun _ => fun
  | [d] => { results := [.lit (.bool false)], args := [d] }
  | _ => none }
def SenseParsesWrongFalsely : Prop := senseParsesRow.holds Tryd.pinned (OpenSpec.ofChange senseParsesWrong)

/-- 'milepostlaw07.SenseBack': WHATEVER THE INPUT: true; the input reads as it did. -/
def senseBackSpec : ChangeSpec := { name := "senseBack", fn := fun _ => fun
  | [d] => { results := [.lit (.bool true)], args := [d] }
  | _ => none }
def senseBackRow : OpenClaim := { program := "ytllgjjldnnmjkaadoor", sum := "80f55eb58b6023670bb9100cbfb82f437442a24c9fcd0eae7ce6770f963bfcc3", func := "milepost/milepostlaw07.SenseBack", spec := "senseBack", unfollowed := true, recurses := true, named := ["milepost/head.places", "internal/strconv.uint64pow10", "math/bits.deBruijn32tab", "math/bits.deBruijn64tab"], apart := false, laid := [("math/bits.deBruijn32tab", laid_math_bits_deBruijn32tab), ("math/bits.deBruijn64tab", laid_math_bits_deBruijn64tab), ("internal/strconv.uint64pow10", laid_internal_strconv_uint64pow10), ("milepost/head.places", laid_milepost_head_places)] }
def SenseBackSaid : Prop := senseBackRow.holds Tryd.pinned (OpenSpec.ofChange senseBackSpec)

/-- ITS FALSE NEIGHBOUR: 'it returns false'. Refute it at one input. -/
def senseBackWrong : ChangeSpec := { name := "senseBack", fn := fun _ => fun
  | [d] => { results := [.lit (.bool false)], args := [d] }
  | _ => none }
def SenseBackWrongFalsely : Prop := senseBackRow.holds Tryd.pinned (OpenSpec.ofChange senseBackWrong)

/-- 'milepostlaw07.SensePrints': WHATEVER THE INPUT: true; the input reads as it did. -/
def sensePrintsSpec : ChangeSpec := { name := "sensePrints", fn := fun _ => fun
  | [d] => { results := [.lit (.bool true)], args := [d] }
  | _ => none }
def sensePrintsRow : OpenClaim := { program := "ytllgjjldnnmjkaadoor", sum := "80f55eb58b6023670bb9100cbfb82f437442a24c9fcd0eae7ce6770f963bfcc3", func := "milepost/milepostlaw07.SensePrints", spec := "sensePrints", unfollowed := true, recurses := true, named := ["milepost/head.places", "internal/strconv.uint64pow10", "math/bits.deBruijn32tab", "math/bits.deBruijn64tab"], apart := false, laid := [("math/bits.deBruijn32tab", laid_math_bits_deBruijn32tab), ("math/bits.deBruijn64tab", laid_math_bits_deBruijn64tab), ("internal/strconv.uint64pow10", laid_internal_strconv_uint64pow10), ("milepost/head.places", laid_milepost_head_places)] }
def SensePrintsSaid : Prop := sensePrintsRow.holds Tryd.pinned (OpenSpec.ofChange sensePrintsSpec)

/-- ITS FALSE NEIGHBOUR: 'it returns false'. Refute it at one input. -/
def sensePrintsWrong : ChangeSpec := { name := "sensePrints", fn := fun _ => fun
  | [d] => { results := [.lit (.bool false)], args := [d] }
  | _ => none }
def SensePrintsWrongFalsely : Prop := sensePrintsRow.holds Tryd.pinned (OpenSpec.ofChange sensePrintsWrong)

/- THE SECOND FORM. 'bulk': how many values and letters a reading holds, each counted each time it is reached (what is shared counts as often as it is met; a slice's spare places count too). A statement '..UptoSaid' is the law's where the arguments, and the package variables that the reading takes, are together of bulk at most 1048576: NARROWER than '..Said'. Prove '..Said' where nothing that the law and all that it calls make is longer than what came in: it says more and counts as full. Else prove '..UptoSaid'. A law counts once. -/
mutual
def uptoBulk {H : Type} : DataW H → Nat
  | .lit (.string bytes) => bytes.length + 1
  | .lit _ => 1
  | .nil => 1
  | .ptr d => uptoBulk d + 1
  | .slice elems spare => uptoBulkAll elems + uptoBulkAll spare + 1
  | .agg parts => uptoBulkAll parts + 1
  | .iface _ d => uptoBulk d + 1
  | .map entries => uptoBulkEntries entries + 1
  | .held _ => 1
def uptoBulkAll {H : Type} : List (DataW H) → Nat
  | [] => 0
  | d :: r => uptoBulk d + uptoBulkAll r
def uptoBulkEntries {H : Type} : List (Lit × DataW H) → Nat
  | [] => 0
  | x :: r => uptoBulkEntry x + uptoBulkEntries r
def uptoBulkEntry {H : Type} : Lit × DataW H → Nat
  | (.string bytes, d) => bytes.length + uptoBulk d + 1
  | (_, d) => uptoBulk d + 1
 end
def uptoSmall : (H : Type) → List (DataW H) → Bool := fun _ ds => decide (uptoBulkAll ds ≤ 1048576)
def OpenSpec.upto (s : _root_.Go.ChangeSpec) : _root_.Go.OpenSpec := { _root_.Go.OpenSpec.ofChange s with cond := some uptoSmall }

/-- 'milepostlaw07.SenseReads', WHERE WHAT IT READS IS OF BULK AT MOST 1048576: true; the input reads as it did. -/
def senseReadsUptoRow : OpenClaim := { program := "ytllgjjldnnmjkaadoor", sum := "80f55eb58b6023670bb9100cbfb82f437442a24c9fcd0eae7ce6770f963bfcc3", func := "milepost/milepostlaw07.SenseReads", spec := "senseReads", unfollowed := true, recurses := true, named := ["milepost/head.places"], apart := false, laid := [("milepost/head.places", laid_milepost_head_places)], narrowed := true }
def SenseReadsUptoSaid : Prop := senseReadsUptoRow.holds Tryd.pinned (OpenSpec.upto senseReadsSpec)

/-- 'milepostlaw07.SenseChecks', WHERE WHAT IT READS IS OF BULK AT MOST 1048576: true; the input reads as it did. -/
def senseChecksUptoRow : OpenClaim := { program := "ytllgjjldnnmjkaadoor", sum := "80f55eb58b6023670bb9100cbfb82f437442a24c9fcd0eae7ce6770f963bfcc3", func := "milepost/milepostlaw07.SenseChecks", spec := "senseChecks", unfollowed := true, recurses := true, named := ["milepost/head.places"], apart := false, laid := [("milepost/head.places", laid_milepost_head_places)], narrowed := true }
def SenseChecksUptoSaid : Prop := senseChecksUptoRow.holds Tryd.pinned (OpenSpec.upto senseChecksSpec)

/-- 'milepostlaw07.SenseApplies', WHERE WHAT IT READS IS OF BULK AT MOST 1048576: true; the input reads as it did. -/
def senseAppliesUptoRow : OpenClaim := { program := "ytllgjjldnnmjkaadoor", sum := "80f55eb58b6023670bb9100cbfb82f437442a24c9fcd0eae7ce6770f963bfcc3", func := "milepost/milepostlaw07.SenseApplies", spec := "senseApplies", unfollowed := true, recurses := true, named := ["milepost/head.places"], apart := false, laid := [("milepost/head.places", laid_milepost_head_places)], narrowed := true }
def SenseAppliesUptoSaid : Prop := senseAppliesUptoRow.holds Tryd.pinned (OpenSpec.upto senseAppliesSpec)

/-- 'milepostlaw07.SenseSays', WHERE WHAT IT READS IS OF BULK AT MOST 1048576: true; the input reads as it did. -/
def senseSaysUptoRow : OpenClaim := { program := "ytllgjjldnnmjkaadoor", sum := "80f55eb58b6023670bb9100cbfb82f437442a24c9fcd0eae7ce6770f963bfcc3", func := "milepost/milepostlaw07.SenseSays", spec := "senseSays", unfollowed := true, recurses := true, named := ["milepost/head.places"], apart := false, laid := [("milepost/head.places", laid_milepost_head_places)], narrowed := true }
def SenseSaysUptoSaid : Prop := senseSaysUptoRow.holds Tryd.pinned (OpenSpec.upto senseSaysSpec)

/-- 'milepostlaw07.SenseWhole', WHERE WHAT IT READS IS OF BULK AT MOST 1048576: true; the input reads as it did. -/
def senseWholeUptoRow : OpenClaim := { program := "ytllgjjldnnmjkaadoor", sum := "80f55eb58b6023670bb9100cbfb82f437442a24c9fcd0eae7ce6770f963bfcc3", func := "milepost/milepostlaw07.SenseWhole", spec := "senseWhole", unfollowed := true, recurses := true, named := ["milepost/head.places"], apart := false, laid := [("milepost/head.places", laid_milepost_head_places)], narrowed := true }
def SenseWholeUptoSaid : Prop := senseWholeUptoRow.holds Tryd.pinned (OpenSpec.upto senseWholeSpec)

/-- 'milepostlaw07.SenseParses', WHERE WHAT IT READS IS OF BULK AT MOST 1048576: true; the input reads as it did. -/
def senseParsesUptoRow : OpenClaim := { program := "ytllgjjldnnmjkaadoor", sum := "80f55eb58b6023670bb9100cbfb82f437442a24c9fcd0eae7ce6770f963bfcc3", func := "milepost/milepostlaw07.SenseParses", spec := "senseParses", unfollowed := true, recurses := true, named := ["milepost/head.places"], apart := false, laid := [("milepost/head.places", laid_milepost_head_places)], narrowed := true }
def SenseParsesUptoSaid : Prop := senseParsesUptoRow.holds Tryd.pinned (OpenSpec.upto senseParsesSpec)

/-- 'milepostlaw07.SenseBack', WHERE WHAT IT READS IS OF BULK AT MOST 1048576: true; the input reads as it did. -/
def senseBackUptoRow : OpenClaim := { program := "ytllgjjldnnmjkaadoor", sum := "80f55eb58b6023670bb9100cbfb82f437442a24c9fcd0eae7ce6770f963bfcc3", func := "milepost/milepostlaw07.SenseBack", spec := "senseBack", unfollowed := true, recurses := true, named := ["milepost/head.places", "internal/strconv.uint64pow10", "math/bits.deBruijn32tab", "math/bits.deBruijn64tab"], apart := false, laid := [("math/bits.deBruijn32tab", laid_math_bits_deBruijn32tab), ("math/bits.deBruijn64tab", laid_math_bits_deBruijn64tab), ("internal/strconv.uint64pow10", laid_internal_strconv_uint64pow10), ("milepost/head.places", laid_milepost_head_places)], narrowed := true }
def SenseBackUptoSaid : Prop := senseBackUptoRow.holds Tryd.pinned (OpenSpec.upto senseBackSpec)

/-- 'milepostlaw07.SensePrints', WHERE WHAT IT READS IS OF BULK AT MOST 1048576: true; the input reads as it did. -/
def sensePrintsUptoRow : OpenClaim := { program := "ytllgjjldnnmjkaadoor", sum := "80f55eb58b6023670bb9100cbfb82f437442a24c9fcd0eae7ce6770f963bfcc3", func := "milepost/milepostlaw07.SensePrints", spec := "sensePrints", unfollowed := true, recurses := true, named := ["milepost/head.places", "internal/strconv.uint64pow10", "math/bits.deBruijn32tab", "math/bits.deBruijn64tab"], apart := false, laid := [("math/bits.deBruijn32tab", laid_math_bits_deBruijn32tab), ("math/bits.deBruijn64tab", laid_math_bits_deBruijn64tab), ("internal/strconv.uint64pow10", laid_internal_strconv_uint64pow10), ("milepost/head.places", laid_milepost_head_places)], narrowed := true }
def SensePrintsUptoSaid : Prop := sensePrintsUptoRow.holds Tryd.pinned (OpenSpec.upto sensePrintsSpec)

end Rows
end Go.Proofs.YtllgjjldnnmjkaaDoor
