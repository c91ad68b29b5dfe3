/-
  The two facts on this program that the reading of its code asks: names, the order's mark. No condition.
-/
import Derived.Test.YtimdpeolfhaajaaWlSeg
namespace Go.Proofs.Ytimdpeolfhaajaa
theorem hNames : NamesOk Try.prog := namesOk_of (by kernel_rfl)
theorem hMix : Try.prog.follows .mixedOrders = true := by kernel_rfl
theorem okC {n : Nat} {Z : List PanicEntry → PT} (c : Code) (Q : QF) (h : codeOk n c = true) : Ok Try.prog n Z c Q (comp Try.prog Z c Q) := ok_comp hNames hEls hMix c Q h
end Go.Proofs.Ytimdpeolfhaajaa
