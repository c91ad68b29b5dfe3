/-
  The two facts on this program that the reading of its code asks: names, the order's mark. No condition.
-/
import Derived.Test.YtllgjjldnnmjkaaDoorWlSeg
set_option maxRecDepth 100000
namespace Go.Proofs.YtllgjjldnnmjkaaDoor
theorem hNames : NamesOk Tryd.prog := namesOk_of (by kernel_rfl)
theorem hMix : Tryd.prog.follows .mixedOrders = true := by kernel_rfl
theorem okC {n : Nat} {Z : List PanicEntry → PT} (c : Code) (Q : QF) (h : codeOk n c = true) : Ok Tryd.prog n Z c Q (comp Tryd.prog Z c Q) := ok_comp hNames hEls hMix c Q h
end Go.Proofs.YtllgjjldnnmjkaaDoor
