/-
  The reading of the code of 4 functions, printed by gen.py off the translation; no condition.
-/
import Derived.Test.YtllgjjldnnmjkaaDoorWlFacts
namespace Go.Proofs.YtllgjjldnnmjkaaDoor
open Go.RowKit
set_option linter.unusedVariables false
set_option maxRecDepth 100000

/-! ### milepost/milepostlaw07.SenseApplies: function 5 -/
noncomputable def law07_SenseApplies.body : Code := bodyC Tryd.f5
def law07_SenseApplies.F (Z : List PanicEntry → PT) (Q : Bool → PT) (x_0 : List Value) (h_1 : List Value) : PT :=
  (newC 35 x_0 fun x7 => (newC 37 h_1 fun h8 => (cal Tryd.prog Z 11 [] (isB fun v9 => (pif (!v9) (Q false) (drawn fun S10 => (hN S10 12 x7 fun v11 => (hN S10 13 h8 fun v12 => (hN S10 12 x7 fun v13 => (hN S10 13 h8 fun v14 => (cal Tryd.prog Z 18 [(Value.agg ⟨v11⟩), (Value.agg ⟨v12⟩)] (isB fun v15 => (sAnd S10 (cal Tryd.prog Z 19 [(Value.agg ⟨v13⟩), (Value.agg ⟨v14⟩)] (isB fun v16 => (sAnd S10 (Q (v15 == v16))))))))))))))))))
def law07_SenseApplies.q1 (Z : List PanicEntry → PT) (Q : Bool → PT) : QF := bodyQ Tryd.prog [.tmp 4] (fun v => atB v fun va => Q va)
theorem law07_SenseApplies.eq (Z : List PanicEntry → PT) (Q : Bool → PT) (x_0 : List Value) (h_1 : List Value) : comp Tryd.prog Z law07_SenseApplies.body (law07_SenseApplies.q1 Z Q) (fr0 [(Value.agg ⟨x_0⟩), (Value.agg ⟨h_1⟩)]) = law07_SenseApplies.F Z Q x_0 h_1 := by kernel_rfl
theorem law07_SenseApplies.vc (Z : List PanicEntry → PT) (Q : Bool → PT) (x_0 : List Value) (h_1 : List Value) (w : World) (h : law07_SenseApplies.F Z Q x_0 h_1 w) : Calls Tryd.prog 5 ⟨[(Value.agg ⟨x_0⟩), (Value.agg ⟨h_1⟩)]⟩ w fun e w' => (∃ (r0 : Bool), e = .returned (.bool r0) ∧ Q r0 w') ∨ ∃ c, e = .panicked c ∧ Z c w' := by
  refine (calls_of_ok (args := [(Value.agg ⟨x_0⟩), (Value.agg ⟨h_1⟩)]) (w := w) (rs := [.tmp 4]) (fn := Tryd.f5) (c := law07_SenseApplies.body) Tryd.func5 (by kernel_rfl) (by kernel_rfl) (Nat.le_of_ble_eq_true (by kernel_rfl)) (okC law07_SenseApplies.body (law07_SenseApplies.q1 Z Q) (by kernel_rfl)) (by rw [law07_SenseApplies.eq]; exact h)).mono fun e w' hR => ?_
  cases e with
  | returned v =>
    obtain ⟨va, rfl, hR⟩ := atB_e hR
    exact .inl ⟨va, rfl, hR⟩
  | panicked c => exact .inr ⟨c, rfl, hR⟩
  | outgrown => exact hR.elim
theorem law07_SenseApplies.vc0 (Q : Bool → PT) (x_0 : List Value) (h_1 : List Value) (w : World) (h : law07_SenseApplies.F Z0 Q x_0 h_1 w) : Calls Tryd.prog 5 ⟨[(Value.agg ⟨x_0⟩), (Value.agg ⟨h_1⟩)]⟩ w fun e w' => (∃ (r0 : Bool), e = .returned (.bool r0) ∧ Q r0 w') :=
  (law07_SenseApplies.vc Z0 Q x_0 h_1 w h).mono fun _ _ hR => hR.elim id fun ⟨_, _, hz⟩ => hz.elim
theorem law07_SenseApplies.cal {Z : List PanicEntry → PT} {Q : Bool → PT} {x_0 : List Value} {h_1 : List Value} {w : World} (h : law07_SenseApplies.F Z Q x_0 h_1 w) : Go.Proofs.YtllgjjldnnmjkaaDoor.cal Tryd.prog Z 5 [(Value.agg ⟨x_0⟩), (Value.agg ⟨h_1⟩)] (isB fun r0 => Q r0) w := by
  refine (law07_SenseApplies.vc Z Q x_0 h_1 w h).mono fun e w' hR => ?_
  rcases hR with ⟨r0, rfl, h⟩ | ⟨c, rfl, h⟩
  · show (isB fun r0 => Q r0) (.bool r0) w'
    exact ⟨_, rfl, h⟩
  · exact h

/-! ### milepost/milepostlaw07.SenseSays: function 6 -/
noncomputable def law07_SenseSays.body : Code := bodyC Tryd.f6
noncomputable def law07_SenseSays.c1 : Code := sq1 law07_SenseSays.body
noncomputable def law07_SenseSays.c2 : Code := sq1 (sq2 law07_SenseSays.body)
noncomputable def law07_SenseSays.c3 : Code := sq1 (sq2 (sq2 law07_SenseSays.body))
noncomputable def law07_SenseSays.c4 : Code := sq1 (sq2 (sq2 (sq2 law07_SenseSays.body)))
noncomputable def law07_SenseSays.c5 : Code := sq1 (sq2 (sq2 (sq2 (sq2 law07_SenseSays.body))))
noncomputable def law07_SenseSays.c6 : Code := sq1 (sq2 (sq2 (sq2 (sq2 (sq2 law07_SenseSays.body)))))
noncomputable def law07_SenseSays.c7 : Code := sq1 (sq2 (sq2 (sq2 (sq2 (sq2 (sq2 law07_SenseSays.body))))))
noncomputable def law07_SenseSays.c8 : Code := sq2 (sq2 (sq2 (sq2 (sq2 (sq2 (sq2 law07_SenseSays.body))))))
theorem law07_SenseSays.q9 : law07_SenseSays.body = .seq law07_SenseSays.c1 (.seq law07_SenseSays.c2 (.seq law07_SenseSays.c3 (.seq law07_SenseSays.c4 (.seq law07_SenseSays.c5 (.seq law07_SenseSays.c6 (.seq law07_SenseSays.c7 law07_SenseSays.c8)))))) := by kernel_rfl
noncomputable def law07_SenseSays.c10 : Code := sq1 law07_SenseSays.c8
noncomputable def law07_SenseSays.c11 : Code := sq2 law07_SenseSays.c8
theorem law07_SenseSays.q12 : law07_SenseSays.c8 = .seq law07_SenseSays.c10 law07_SenseSays.c11 := by kernel_rfl
def law07_SenseSays.s13 (Z : List PanicEntry → PT) (Q : Bool → PT)  : PT :=
  (Q true)
def law07_SenseSays.q14 (Z : List PanicEntry → PT) (Q : Bool → PT) : QF := bodyQ Tryd.prog [.tmp 4] (fun v => atB v fun va => Q va)
theorem law07_SenseSays.s13_eq (Z : List PanicEntry → PT) (Q : Bool → PT) (ρ : Fr)  : comp Tryd.prog Z law07_SenseSays.c11 (law07_SenseSays.q14 Z Q) (puts ρ []) = law07_SenseSays.s13 Z Q  := by kernel_rfl
def law07_SenseSays.j15 (Z : List PanicEntry → PT) (Q : Bool → PT) : Fr → PT := (fun ρ => (law07_SenseSays.s13 Z Q ))
theorem law07_SenseSays.s13_ok (Z : List PanicEntry → PT) (Q : Bool → PT) : Ok Tryd.prog Tryd.f6.ntmps Z law07_SenseSays.c11 (law07_SenseSays.q14 Z Q) (law07_SenseSays.j15 Z Q) := by
  intro E he ρ w a hr h
  exact ok_at [] (okC law07_SenseSays.c11 (law07_SenseSays.q14 Z Q) (by kernel_rfl)) (fun p hp => puts_nil hp) (law07_SenseSays.s13_eq Z Q ρ ) he hr h
noncomputable def law07_SenseSays.c16 : Code := sq1 law07_SenseSays.c10
noncomputable def law07_SenseSays.c17 : Code := sq2 law07_SenseSays.c10
theorem law07_SenseSays.q18 : law07_SenseSays.c10 = .seq law07_SenseSays.c16 law07_SenseSays.c17 := by kernel_rfl
noncomputable def law07_SenseSays.c19 : Code := blk law07_SenseSays.c17
theorem law07_SenseSays.q20 : law07_SenseSays.c17 = .block 0 law07_SenseSays.c19 := by kernel_rfl
noncomputable def law07_SenseSays.c21 : Code := lop law07_SenseSays.c19
theorem law07_SenseSays.q22 : law07_SenseSays.c19 = .loop law07_SenseSays.c21 := by kernel_rfl
def law07_SenseSays.q24 (Z : List PanicEntry → PT) (Q : Bool → PT) : QF := thenK (law07_SenseSays.j15 Z Q) (law07_SenseSays.q14 Z Q)
def law07_SenseSays.q25 (Z : List PanicEntry → PT) (Q : Bool → PT) : QF := inBl 0 (law07_SenseSays.q24 Z Q)
noncomputable def law07_SenseSays.c26 : Code := sq1 law07_SenseSays.c21
noncomputable def law07_SenseSays.c27 : Code := sq1 (sq2 law07_SenseSays.c21)
noncomputable def law07_SenseSays.c28 : Code := sq2 (sq2 law07_SenseSays.c21)
theorem law07_SenseSays.q29 : law07_SenseSays.c21 = .seq law07_SenseSays.c26 (.seq law07_SenseSays.c27 law07_SenseSays.c28) := by kernel_rfl
def law07_SenseSays.s30 (Z : List PanicEntry → PT) (Q : Bool → PT) (X1 : Option Addr → Nat → Nat → Addr → Int → Bool → Int → PT) (l_0 : Option Addr) (l_0n l_0c : Nat) (h_3 : Addr) (i_5 : Int) (ok_7 : Bool) (k_10 : Int) : PT :=
  (X1 l_0 l_0n l_0c h_3 i_5 ok_7 (IntKind.wrap .i64 (k_10 + 1)))
def law07_SenseSays.j31 (Z : List PanicEntry → PT) (Q : Bool → PT) (X1 : Option Addr → Nat → Nat → Addr → Int → Bool → Int → PT) : Fr → PT := (fun ρ => atL (ρ 0) fun l_0 l_0n l_0c => atA (ρ 3) fun h_3 => atI .i64 (ρ 5) fun i_5 => atB (ρ 7) fun ok_7 => atI .i64 (ρ 10) fun k_10 => (X1 l_0 l_0n l_0c h_3 i_5 ok_7 k_10))
def law07_SenseSays.q32 (Z : List PanicEntry → PT) (Q : Bool → PT) (X1 : Option Addr → Nat → Nat → Addr → Int → Bool → Int → PT) : QF := thenK (law07_SenseSays.j31 Z Q X1) (law07_SenseSays.q25 Z Q)
theorem law07_SenseSays.s30_eq (Z : List PanicEntry → PT) (Q : Bool → PT) (X1 : Option Addr → Nat → Nat → Addr → Int → Bool → Int → PT) (ρ : Fr) (l_0 : Option Addr) (l_0n l_0c : Nat) (h_3 : Addr) (i_5 : Int) (ok_7 : Bool) (k_10 : Int) : comp Tryd.prog Z law07_SenseSays.c28 (law07_SenseSays.q32 Z Q X1) (puts ρ [(0, (Value.slice l_0 l_0n l_0c)), (3, (Value.pointer (some h_3))), (5, (Value.int .i64 i_5)), (7, (Value.bool ok_7)), (10, (Value.int .i64 k_10))]) = law07_SenseSays.s30 Z Q X1 l_0 l_0n l_0c h_3 i_5 ok_7 k_10 := by kernel_rfl
def law07_SenseSays.j33 (Z : List PanicEntry → PT) (Q : Bool → PT) (X1 : Option Addr → Nat → Nat → Addr → Int → Bool → Int → PT) : Fr → PT := (fun ρ => atL (ρ 0) fun l_0 l_0n l_0c => atA (ρ 3) fun h_3 => atI .i64 (ρ 5) fun i_5 => atB (ρ 7) fun ok_7 => atI .i64 (ρ 10) fun k_10 => (law07_SenseSays.s30 Z Q X1 l_0 l_0n l_0c h_3 i_5 ok_7 k_10))
theorem law07_SenseSays.s30_ok (Z : List PanicEntry → PT) (Q : Bool → PT) (X1 : Option Addr → Nat → Nat → Addr → Int → Bool → Int → PT) : Ok Tryd.prog Tryd.f6.ntmps Z law07_SenseSays.c28 (law07_SenseSays.q32 Z Q X1) (law07_SenseSays.j33 Z Q X1) := by
  intro E he ρ w a hr h
  obtain ⟨l_0, l_0n, l_0c, e0, h⟩ := atL_e h
  obtain ⟨h_3, e3, h⟩ := atA_e h
  obtain ⟨i_5, e5, h⟩ := atI_e h
  obtain ⟨ok_7, e7, h⟩ := atB_e h
  obtain ⟨k_10, e10, h⟩ := atI_e h
  exact ok_at [(0, (Value.slice l_0 l_0n l_0c)), (3, (Value.pointer (some h_3))), (5, (Value.int .i64 i_5)), (7, (Value.bool ok_7)), (10, (Value.int .i64 k_10))] (okC law07_SenseSays.c28 (law07_SenseSays.q32 Z Q X1) (by kernel_rfl)) (puts_cons e0 (puts_cons e3 (puts_cons e5 (puts_cons e7 (puts_cons e10 (fun p hp => puts_nil hp)))))) (law07_SenseSays.s30_eq Z Q X1 ρ l_0 l_0n l_0c h_3 i_5 ok_7 k_10) he hr h
def law07_SenseSays.s34 (Z : List PanicEntry → PT) (Q : Bool → PT) (X1 : Option Addr → Nat → Nat → Addr → Int → Bool → Int → PT) (l_0 : Option Addr) (l_0n l_0c : Nat) (h_3 : Addr) (i_5 : Int) (ok_7 : Bool) (k_10 : Int) : PT :=
  (pif ok_7 (pif (decide (k_10 < ((l_0n : Nat) : Int))) (drawn fun S125 => (ixS l_0 l_0n k_10 12 fun v126 => (hB S125 (v126.add 0) fun v127 => (pif (!v127) (ixS l_0 l_0n k_10 12 fun v128 => (hN S125 12 v128 fun v129 => (hN S125 13 h_3 fun v130 => (cal Tryd.prog Z 18 [(Value.agg ⟨v129⟩), (Value.agg ⟨v130⟩)] (isB fun v131 => (sAnd S125 (pif v131 (ixS l_0 l_0n i_5 12 fun v132 => (hB S125 (v132.add 0) fun v133 => (pif v133 (Q false) (ixS l_0 l_0n k_10 12 fun v134 => (hI S125 .i64 (v134.add 1) fun v135 => (ixS l_0 l_0n i_5 12 fun v136 => (hI S125 .i64 (v136.add 1) fun v137 => (pif (decide (v135 > v137)) (Q false) (ixS l_0 l_0n k_10 12 fun v138 => (hI S125 .i64 (v138.add 1) fun v139 => (ixS l_0 l_0n i_5 12 fun v140 => (hI S125 .i64 (v140.add 1) fun v141 => (pif (v139 == v141) (pif (decide (k_10 < i_5)) (Q false) (law07_SenseSays.s30 Z Q X1 l_0 l_0n l_0c h_3 i_5 ok_7 k_10)) (law07_SenseSays.s30 Z Q X1 l_0 l_0n l_0c h_3 i_5 ok_7 k_10)))))))))))))) (law07_SenseSays.s30 Z Q X1 l_0 l_0n l_0c h_3 i_5 ok_7 k_10)))))))) (law07_SenseSays.s30 Z Q X1 l_0 l_0n l_0c h_3 i_5 ok_7 k_10))))) (law07_SenseSays.s13 Z Q )) (law07_SenseSays.s13 Z Q ))
theorem law07_SenseSays.s34_eq (Z : List PanicEntry → PT) (Q : Bool → PT) (X1 : Option Addr → Nat → Nat → Addr → Int → Bool → Int → PT) (ρ : Fr) (l_0 : Option Addr) (l_0n l_0c : Nat) (h_3 : Addr) (i_5 : Int) (ok_7 : Bool) (k_10 : Int) : (comp Tryd.prog Z law07_SenseSays.c26 (thenK (comp Tryd.prog Z law07_SenseSays.c27 (thenK (law07_SenseSays.j33 Z Q X1) (law07_SenseSays.q32 Z Q X1))) (law07_SenseSays.q32 Z Q X1))) (puts ρ [(0, (Value.slice l_0 l_0n l_0c)), (3, (Value.pointer (some h_3))), (5, (Value.int .i64 i_5)), (7, (Value.bool ok_7)), (10, (Value.int .i64 k_10))]) = law07_SenseSays.s34 Z Q X1 l_0 l_0n l_0c h_3 i_5 ok_7 k_10 := by kernel_rfl
def law07_SenseSays.j35 (Z : List PanicEntry → PT) (Q : Bool → PT) (X1 : Option Addr → Nat → Nat → Addr → Int → Bool → Int → PT) : Fr → PT := (fun ρ => atL (ρ 0) fun l_0 l_0n l_0c => atA (ρ 3) fun h_3 => atI .i64 (ρ 5) fun i_5 => atB (ρ 7) fun ok_7 => atI .i64 (ρ 10) fun k_10 => (law07_SenseSays.s34 Z Q X1 l_0 l_0n l_0c h_3 i_5 ok_7 k_10))
theorem law07_SenseSays.s34_ok (Z : List PanicEntry → PT) (Q : Bool → PT) (X1 : Option Addr → Nat → Nat → Addr → Int → Bool → Int → PT) : Ok Tryd.prog Tryd.f6.ntmps Z law07_SenseSays.c21 (law07_SenseSays.q32 Z Q X1) (law07_SenseSays.j35 Z Q X1) := by
  intro E he ρ w a hr h
  rw [law07_SenseSays.q29] at he ⊢
  obtain ⟨l_0, l_0n, l_0c, e0, h⟩ := atL_e h
  obtain ⟨h_3, e3, h⟩ := atA_e h
  obtain ⟨i_5, e5, h⟩ := atI_e h
  obtain ⟨ok_7, e7, h⟩ := atB_e h
  obtain ⟨k_10, e10, h⟩ := atI_e h
  exact ok_at [(0, (Value.slice l_0 l_0n l_0c)), (3, (Value.pointer (some h_3))), (5, (Value.int .i64 i_5)), (7, (Value.bool ok_7)), (10, (Value.int .i64 k_10))] (ok_seq (okC law07_SenseSays.c26 _ (by kernel_rfl)) (ok_seq (okC law07_SenseSays.c27 _ (by kernel_rfl)) (law07_SenseSays.s30_ok Z Q X1))) (puts_cons e0 (puts_cons e3 (puts_cons e5 (puts_cons e7 (puts_cons e10 (fun p hp => puts_nil hp)))))) (law07_SenseSays.s34_eq Z Q X1 ρ l_0 l_0n l_0c h_3 i_5 ok_7 k_10) he hr h
def law07_SenseSays.l23 (Z : List PanicEntry → PT) (Q : Bool → PT) : Nat → Option Addr → Nat → Nat → Addr → Int → Bool → Int → PT
  | 0, _, _, _, _, _, _, _ => bad
  | k + 1, l_0, l_0n, l_0c, h_3, i_5, ok_7, k_10 => (law07_SenseSays.s34 Z Q (law07_SenseSays.l23 Z Q k) l_0 l_0n l_0c h_3 i_5 ok_7 k_10)
def law07_SenseSays.j36 (Z : List PanicEntry → PT) (Q : Bool → PT) (k : Nat) : Fr → PT := (fun ρ => atL (ρ 0) fun l_0 l_0n l_0c => atA (ρ 3) fun h_3 => atI .i64 (ρ 5) fun i_5 => atB (ρ 7) fun ok_7 => atI .i64 (ρ 10) fun k_10 => (law07_SenseSays.l23 Z Q k l_0 l_0n l_0c h_3 i_5 ok_7 k_10))
def law07_SenseSays.j37 (Z : List PanicEntry → PT) (Q : Bool → PT) : Fr → PT := (fun ρ => atL (ρ 0) fun l_0 l_0n l_0c => atA (ρ 3) fun h_3 => atI .i64 (ρ 5) fun i_5 => atB (ρ 7) fun ok_7 => atI .i64 (ρ 10) fun k_10 => (exK fun k => law07_SenseSays.l23 Z Q k l_0 l_0n l_0c h_3 i_5 ok_7 k_10))
theorem law07_SenseSays.o38 (Z : List PanicEntry → PT) (Q : Bool → PT) : Ok Tryd.prog Tryd.f6.ntmps Z law07_SenseSays.c19 (law07_SenseSays.q25 Z Q) (law07_SenseSays.j37 Z Q) := by
  rw [law07_SenseSays.q22]
  refine Ok.imp (ok_loop (J := law07_SenseSays.j36 Z Q) ?_ ?_) ?_
  · intro ρ w h
    obtain ⟨l_0, l_0n, l_0c, e0, h⟩ := atL_e h
    obtain ⟨h_3, e3, h⟩ := atA_e h
    obtain ⟨i_5, e5, h⟩ := atI_e h
    obtain ⟨ok_7, e7, h⟩ := atB_e h
    obtain ⟨k_10, e10, h⟩ := atI_e h
    exact h
  · intro k
    refine Ok.imp (law07_SenseSays.s34_ok Z Q (law07_SenseSays.l23 Z Q k)) fun ρ w h => ?_
    obtain ⟨l_0, l_0n, l_0c, e0, h⟩ := atL_e h
    obtain ⟨h_3, e3, h⟩ := atA_e h
    obtain ⟨i_5, e5, h⟩ := atI_e h
    obtain ⟨ok_7, e7, h⟩ := atB_e h
    obtain ⟨k_10, e10, h⟩ := atI_e h
    show (law07_SenseSays.j35 Z Q (law07_SenseSays.l23 Z Q k)) ρ w
    simp only [law07_SenseSays.j35]
    rw [e0]
    rw [e3]
    rw [e5]
    rw [e7]
    rw [e10]
    exact h
  · intro ρ w h
    obtain ⟨l_0, l_0n, l_0c, e0, h⟩ := atL_e h
    obtain ⟨h_3, e3, h⟩ := atA_e h
    obtain ⟨i_5, e5, h⟩ := atI_e h
    obtain ⟨ok_7, e7, h⟩ := atB_e h
    obtain ⟨k_10, e10, h⟩ := atI_e h
    obtain ⟨k, h⟩ := h
    refine ⟨k, ?_⟩
    show (atL (ρ 0) fun l_0 l_0n l_0c => atA (ρ 3) fun h_3 => atI .i64 (ρ 5) fun i_5 => atB (ρ 7) fun ok_7 => atI .i64 (ρ 10) fun k_10 => (law07_SenseSays.l23 Z Q k l_0 l_0n l_0c h_3 i_5 ok_7 k_10)) w
    rw [e0]
    rw [e3]
    rw [e5]
    rw [e7]
    rw [e10]
    exact h
theorem law07_SenseSays.o39 (Z : List PanicEntry → PT) (Q : Bool → PT) : Ok Tryd.prog Tryd.f6.ntmps Z law07_SenseSays.c17 (law07_SenseSays.q24 Z Q) (law07_SenseSays.j37 Z Q) := by
  rw [law07_SenseSays.q20]; exact ok_block (law07_SenseSays.o38 Z Q)
def law07_SenseSays.s40 (Z : List PanicEntry → PT) (Q : Bool → PT) (l_0 : Option Addr) (l_0n l_0c : Nat) (h_3 : Addr) (i_5 : Int) (ok_7 : Bool) : PT :=
  (exK fun k => law07_SenseSays.l23 Z Q k l_0 l_0n l_0c h_3 i_5 ok_7 0)
theorem law07_SenseSays.s40_eq (Z : List PanicEntry → PT) (Q : Bool → PT) (ρ : Fr) (l_0 : Option Addr) (l_0n l_0c : Nat) (h_3 : Addr) (i_5 : Int) (ok_7 : Bool) : (comp Tryd.prog Z law07_SenseSays.c16 (thenK (law07_SenseSays.j37 Z Q) (law07_SenseSays.q24 Z Q))) (puts ρ [(0, (Value.slice l_0 l_0n l_0c)), (3, (Value.pointer (some h_3))), (5, (Value.int .i64 i_5)), (7, (Value.bool ok_7))]) = law07_SenseSays.s40 Z Q l_0 l_0n l_0c h_3 i_5 ok_7 := by kernel_rfl
def law07_SenseSays.j41 (Z : List PanicEntry → PT) (Q : Bool → PT) : Fr → PT := (fun ρ => atL (ρ 0) fun l_0 l_0n l_0c => atA (ρ 3) fun h_3 => atI .i64 (ρ 5) fun i_5 => atB (ρ 7) fun ok_7 => (law07_SenseSays.s40 Z Q l_0 l_0n l_0c h_3 i_5 ok_7))
theorem law07_SenseSays.s40_ok (Z : List PanicEntry → PT) (Q : Bool → PT) : Ok Tryd.prog Tryd.f6.ntmps Z law07_SenseSays.c10 (law07_SenseSays.q24 Z Q) (law07_SenseSays.j41 Z Q) := by
  intro E he ρ w a hr h
  rw [law07_SenseSays.q18] at he ⊢
  obtain ⟨l_0, l_0n, l_0c, e0, h⟩ := atL_e h
  obtain ⟨h_3, e3, h⟩ := atA_e h
  obtain ⟨i_5, e5, h⟩ := atI_e h
  obtain ⟨ok_7, e7, h⟩ := atB_e h
  exact ok_at [(0, (Value.slice l_0 l_0n l_0c)), (3, (Value.pointer (some h_3))), (5, (Value.int .i64 i_5)), (7, (Value.bool ok_7))] (ok_seq (okC law07_SenseSays.c16 _ (by kernel_rfl)) (law07_SenseSays.o39 Z Q)) (puts_cons e0 (puts_cons e3 (puts_cons e5 (puts_cons e7 (fun p hp => puts_nil hp))))) (law07_SenseSays.s40_eq Z Q ρ l_0 l_0n l_0c h_3 i_5 ok_7) he hr h
theorem law07_SenseSays.o42 (Z : List PanicEntry → PT) (Q : Bool → PT) : Ok Tryd.prog Tryd.f6.ntmps Z law07_SenseSays.c8 (law07_SenseSays.q14 Z Q) (law07_SenseSays.j41 Z Q) := by
  rw [law07_SenseSays.q12]; exact ok_seq (law07_SenseSays.s40_ok Z Q) (law07_SenseSays.s13_ok Z Q)
def law07_SenseSays.s43 (Z : List PanicEntry → PT) (Q : Bool → PT) (l_0 : Option Addr) (l_0n l_0c : Nat) (h_1 : List Value) : PT :=
  (newC 37 h_1 fun h142 => (cal Tryd.prog Z 11 [] (isB fun v143 => (pif (!v143) (Q false) (slS l_0 l_0c 0 (if 200 < ((l_0n : Nat) : Int) then 200 else ((l_0n : Nat) : Int)) 12 fun v144 v144n v144c => (ldN 13 h142 fun v145 => (cal Tryd.prog Z 20 [(Value.slice v144 v144n v144c), (Value.agg ⟨v145⟩)] (isI .i64 fun v146 => (ldN 13 h142 fun v147 => (cal Tryd.prog Z 21 [(Value.slice v144 v144n v144c), (Value.agg ⟨v147⟩)] (isT2 fun t148 t149 => (isI .i64 fun v150 => ((isB fun v151 => (ldN 13 h142 fun v152 => (cal Tryd.prog Z 22 [(Value.slice v144 v144n v144c), (Value.agg ⟨v152⟩)] (isT2 fun t153 t154 => (isI .i64 fun v155 => ((isB fun v156 => (ldN 13 h142 fun v157 => (cal Tryd.prog Z 23 [(Value.slice v144 v144n v144c), (Value.agg ⟨v157⟩)] (isI .i64 fun v158 => (pif (v146 != v158) (Q false) (pif (v150 != v155) (Q false) (pif (!(v151 == v156)) (Q false) (pif (!(v151 == (decide (v146 ≥ 0)))) (Q false) (law07_SenseSays.s40 Z Q v144 v144n v144c h142 v146 v151))))))))) t154)) t153)))) t149)) t148)))))))))))
theorem law07_SenseSays.s43_eq (Z : List PanicEntry → PT) (Q : Bool → PT) (ρ : Fr) (l_0 : Option Addr) (l_0n l_0c : Nat) (h_1 : List Value) : (comp Tryd.prog Z law07_SenseSays.c1 (thenK (comp Tryd.prog Z law07_SenseSays.c2 (thenK (comp Tryd.prog Z law07_SenseSays.c3 (thenK (comp Tryd.prog Z law07_SenseSays.c4 (thenK (comp Tryd.prog Z law07_SenseSays.c5 (thenK (comp Tryd.prog Z law07_SenseSays.c6 (thenK (comp Tryd.prog Z law07_SenseSays.c7 (thenK (law07_SenseSays.j41 Z Q) (law07_SenseSays.q14 Z Q))) (law07_SenseSays.q14 Z Q))) (law07_SenseSays.q14 Z Q))) (law07_SenseSays.q14 Z Q))) (law07_SenseSays.q14 Z Q))) (law07_SenseSays.q14 Z Q))) (law07_SenseSays.q14 Z Q))) (puts ρ [(0, (Value.slice l_0 l_0n l_0c)), (1, (Value.agg ⟨h_1⟩))]) = law07_SenseSays.s43 Z Q l_0 l_0n l_0c h_1 := by kernel_rfl
def law07_SenseSays.j44 (Z : List PanicEntry → PT) (Q : Bool → PT) : Fr → PT := (fun ρ => atL (ρ 0) fun l_0 l_0n l_0c => atN (ρ 1) fun h_1 => (law07_SenseSays.s43 Z Q l_0 l_0n l_0c h_1))
theorem law07_SenseSays.s43_ok (Z : List PanicEntry → PT) (Q : Bool → PT) : Ok Tryd.prog Tryd.f6.ntmps Z law07_SenseSays.body (law07_SenseSays.q14 Z Q) (law07_SenseSays.j44 Z Q) := by
  intro E he ρ w a hr h
  rw [law07_SenseSays.q9] at he ⊢
  obtain ⟨l_0, l_0n, l_0c, e0, h⟩ := atL_e h
  obtain ⟨h_1, e1, h⟩ := atN_e h
  exact ok_at [(0, (Value.slice l_0 l_0n l_0c)), (1, (Value.agg ⟨h_1⟩))] (ok_seq (okC law07_SenseSays.c1 _ (by kernel_rfl)) (ok_seq (okC law07_SenseSays.c2 _ (by kernel_rfl)) (ok_seq (okC law07_SenseSays.c3 _ (by kernel_rfl)) (ok_seq (okC law07_SenseSays.c4 _ (by kernel_rfl)) (ok_seq (okC law07_SenseSays.c5 _ (by kernel_rfl)) (ok_seq (okC law07_SenseSays.c6 _ (by kernel_rfl)) (ok_seq (okC law07_SenseSays.c7 _ (by kernel_rfl)) (law07_SenseSays.o42 Z Q)))))))) (puts_cons e0 (puts_cons e1 (fun p hp => puts_nil hp))) (law07_SenseSays.s43_eq Z Q ρ l_0 l_0n l_0c h_1) he hr h
def law07_SenseSays.F (Z : List PanicEntry → PT) (Q : Bool → PT) (l_0 : Option Addr) (l_0n l_0c : Nat) (h_1 : List Value) : PT :=
  (law07_SenseSays.s43 Z Q l_0 l_0n l_0c h_1)
theorem law07_SenseSays.vc (Z : List PanicEntry → PT) (Q : Bool → PT) (l_0 : Option Addr) (l_0n l_0c : Nat) (h_1 : List Value) (w : World) (h : law07_SenseSays.F Z Q l_0 l_0n l_0c h_1 w) : Calls Tryd.prog 6 ⟨[(Value.slice l_0 l_0n l_0c), (Value.agg ⟨h_1⟩)]⟩ w fun e w' => (∃ (r0 : Bool), e = .returned (.bool r0) ∧ Q r0 w') ∨ ∃ c, e = .panicked c ∧ Z c w' := by
  refine (calls_of_ok (args := [(Value.slice l_0 l_0n l_0c), (Value.agg ⟨h_1⟩)]) (w := w) (rs := [.tmp 4]) (fn := Tryd.f6) (c := law07_SenseSays.body) Tryd.func6 (by kernel_rfl) (by kernel_rfl) (Nat.le_of_ble_eq_true (by kernel_rfl)) (law07_SenseSays.s43_ok Z Q) (h)).mono fun e w' hR => ?_
  cases e with
  | returned v =>
    obtain ⟨va, rfl, hR⟩ := atB_e hR
    exact .inl ⟨va, rfl, hR⟩
  | panicked c => exact .inr ⟨c, rfl, hR⟩
  | outgrown => exact hR.elim
theorem law07_SenseSays.vc0 (Q : Bool → PT) (l_0 : Option Addr) (l_0n l_0c : Nat) (h_1 : List Value) (w : World) (h : law07_SenseSays.F Z0 Q l_0 l_0n l_0c h_1 w) : Calls Tryd.prog 6 ⟨[(Value.slice l_0 l_0n l_0c), (Value.agg ⟨h_1⟩)]⟩ w fun e w' => (∃ (r0 : Bool), e = .returned (.bool r0) ∧ Q r0 w') :=
  (law07_SenseSays.vc Z0 Q l_0 l_0n l_0c h_1 w h).mono fun _ _ hR => hR.elim id fun ⟨_, _, hz⟩ => hz.elim
theorem law07_SenseSays.cal {Z : List PanicEntry → PT} {Q : Bool → PT} {l_0 : Option Addr} {l_0n l_0c : Nat} {h_1 : List Value} {w : World} (h : law07_SenseSays.F Z Q l_0 l_0n l_0c h_1 w) : Go.Proofs.YtllgjjldnnmjkaaDoor.cal Tryd.prog Z 6 [(Value.slice l_0 l_0n l_0c), (Value.agg ⟨h_1⟩)] (isB fun r0 => Q r0) w := by
  refine (law07_SenseSays.vc Z Q l_0 l_0n l_0c h_1 w h).mono fun e w' hR => ?_
  rcases hR with ⟨r0, rfl, h⟩ | ⟨c, rfl, h⟩
  · show (isB fun r0 => Q r0) (.bool r0) w'
    exact ⟨_, rfl, h⟩
  · exact h

/-! ### milepost/milepostlaw07.SenseWhole: function 7 -/
noncomputable def law07_SenseWhole.body : Code := bodyC Tryd.f7
def law07_SenseWhole.F (Z : List PanicEntry → PT) (Q : Bool → PT) (s_0 : ByteArray) (h_1 : List Value) : PT :=
  (newC 37 h_1 fun h26 => (cal Tryd.prog Z 11 [] (isB fun v27 => (pif (!v27) (Q false) (cal Tryd.prog Z 12 [(Value.string s_0)] (isT3 fun t28 t29 t30 => (isL fun v31 v31n v31c => ((isI .i64 fun v32 => ((isI .i64 fun v33 => (ldN 13 h26 fun v34 => (cal Tryd.prog Z 21 [(Value.slice v31 v31n v31c), (Value.agg ⟨v34⟩)] (isT2 fun t35 t36 => (isI .i64 fun v37 => ((isB fun v38 => (pif (v38 == (v32 == 0)) (pif (decide (v37 ≥ 0)) (Q (decide (v37 ≤ 99))) (Q false)) (Q false))) t36)) t35)))) t30)) t29)) t28))))))
def law07_SenseWhole.q1 (Z : List PanicEntry → PT) (Q : Bool → PT) : QF := bodyQ Tryd.prog [.tmp 4] (fun v => atB v fun va => Q va)
theorem law07_SenseWhole.eq (Z : List PanicEntry → PT) (Q : Bool → PT) (s_0 : ByteArray) (h_1 : List Value) : comp Tryd.prog Z law07_SenseWhole.body (law07_SenseWhole.q1 Z Q) (fr0 [(Value.string s_0), (Value.agg ⟨h_1⟩)]) = law07_SenseWhole.F Z Q s_0 h_1 := by kernel_rfl
theorem law07_SenseWhole.vc (Z : List PanicEntry → PT) (Q : Bool → PT) (s_0 : ByteArray) (h_1 : List Value) (w : World) (h : law07_SenseWhole.F Z Q s_0 h_1 w) : Calls Tryd.prog 7 ⟨[(Value.string s_0), (Value.agg ⟨h_1⟩)]⟩ w fun e w' => (∃ (r0 : Bool), e = .returned (.bool r0) ∧ Q r0 w') ∨ ∃ c, e = .panicked c ∧ Z c w' := by
  refine (calls_of_ok (args := [(Value.string s_0), (Value.agg ⟨h_1⟩)]) (w := w) (rs := [.tmp 4]) (fn := Tryd.f7) (c := law07_SenseWhole.body) Tryd.func7 (by kernel_rfl) (by kernel_rfl) (Nat.le_of_ble_eq_true (by kernel_rfl)) (okC law07_SenseWhole.body (law07_SenseWhole.q1 Z Q) (by kernel_rfl)) (by rw [law07_SenseWhole.eq]; exact h)).mono fun e w' hR => ?_
  cases e with
  | returned v =>
    obtain ⟨va, rfl, hR⟩ := atB_e hR
    exact .inl ⟨va, rfl, hR⟩
  | panicked c => exact .inr ⟨c, rfl, hR⟩
  | outgrown => exact hR.elim
theorem law07_SenseWhole.vc0 (Q : Bool → PT) (s_0 : ByteArray) (h_1 : List Value) (w : World) (h : law07_SenseWhole.F Z0 Q s_0 h_1 w) : Calls Tryd.prog 7 ⟨[(Value.string s_0), (Value.agg ⟨h_1⟩)]⟩ w fun e w' => (∃ (r0 : Bool), e = .returned (.bool r0) ∧ Q r0 w') :=
  (law07_SenseWhole.vc Z0 Q s_0 h_1 w h).mono fun _ _ hR => hR.elim id fun ⟨_, _, hz⟩ => hz.elim
theorem law07_SenseWhole.cal {Z : List PanicEntry → PT} {Q : Bool → PT} {s_0 : ByteArray} {h_1 : List Value} {w : World} (h : law07_SenseWhole.F Z Q s_0 h_1 w) : Go.Proofs.YtllgjjldnnmjkaaDoor.cal Tryd.prog Z 7 [(Value.string s_0), (Value.agg ⟨h_1⟩)] (isB fun r0 => Q r0) w := by
  refine (law07_SenseWhole.vc Z Q s_0 h_1 w h).mono fun e w' hR => ?_
  rcases hR with ⟨r0, rfl, h⟩ | ⟨c, rfl, h⟩
  · show (isB fun r0 => Q r0) (.bool r0) w'
    exact ⟨_, rfl, h⟩
  · exact h

/-! ### milepost/milepostlaw07.SenseParses: function 8 -/
noncomputable def law07_SenseParses.body : Code := bodyC Tryd.f8
noncomputable def law07_SenseParses.c1 : Code := sq1 law07_SenseParses.body
noncomputable def law07_SenseParses.c2 : Code := sq1 (sq2 law07_SenseParses.body)
noncomputable def law07_SenseParses.c3 : Code := sq1 (sq2 (sq2 law07_SenseParses.body))
noncomputable def law07_SenseParses.c4 : Code := sq1 (sq2 (sq2 (sq2 law07_SenseParses.body)))
noncomputable def law07_SenseParses.c5 : Code := sq1 (sq2 (sq2 (sq2 (sq2 law07_SenseParses.body))))
noncomputable def law07_SenseParses.c6 : Code := sq1 (sq2 (sq2 (sq2 (sq2 (sq2 law07_SenseParses.body)))))
noncomputable def law07_SenseParses.c7 : Code := sq2 (sq2 (sq2 (sq2 (sq2 (sq2 law07_SenseParses.body)))))
theorem law07_SenseParses.q8 : law07_SenseParses.body = .seq law07_SenseParses.c1 (.seq law07_SenseParses.c2 (.seq law07_SenseParses.c3 (.seq law07_SenseParses.c4 (.seq law07_SenseParses.c5 (.seq law07_SenseParses.c6 law07_SenseParses.c7))))) := by kernel_rfl
noncomputable def law07_SenseParses.c9 : Code := sq1 law07_SenseParses.c7
noncomputable def law07_SenseParses.c10 : Code := sq2 law07_SenseParses.c7
theorem law07_SenseParses.q11 : law07_SenseParses.c7 = .seq law07_SenseParses.c9 law07_SenseParses.c10 := by kernel_rfl
def law07_SenseParses.s12 (Z : List PanicEntry → PT) (Q : Bool → PT) (l_3 : Option Addr) (l_3n l_3c : Nat) (e_4 : Int) (r_6 : Option Addr) (r_6n r_6c : Nat) (n_9 : Int) : PT :=
  (pif (e_4 != 0) (Q true) (pif (((l_3n : Nat) : Int) == ((r_6n : Nat) : Int)) (Q (n_9 == 1)) (Q false)))
def law07_SenseParses.q13 (Z : List PanicEntry → PT) (Q : Bool → PT) : QF := bodyQ Tryd.prog [.tmp 2] (fun v => atB v fun va => Q va)
theorem law07_SenseParses.s12_eq (Z : List PanicEntry → PT) (Q : Bool → PT) (ρ : Fr) (l_3 : Option Addr) (l_3n l_3c : Nat) (e_4 : Int) (r_6 : Option Addr) (r_6n r_6c : Nat) (n_9 : Int) : comp Tryd.prog Z law07_SenseParses.c10 (law07_SenseParses.q13 Z Q) (puts ρ [(3, (Value.slice l_3 l_3n l_3c)), (4, (Value.int .i64 e_4)), (6, (Value.slice r_6 r_6n r_6c)), (9, (Value.int .i64 n_9))]) = law07_SenseParses.s12 Z Q l_3 l_3n l_3c e_4 r_6 r_6n r_6c n_9 := by kernel_rfl
def law07_SenseParses.j14 (Z : List PanicEntry → PT) (Q : Bool → PT) : Fr → PT := (fun ρ => atL (ρ 3) fun l_3 l_3n l_3c => atI .i64 (ρ 4) fun e_4 => atL (ρ 6) fun r_6 r_6n r_6c => atI .i64 (ρ 9) fun n_9 => (law07_SenseParses.s12 Z Q l_3 l_3n l_3c e_4 r_6 r_6n r_6c n_9))
theorem law07_SenseParses.s12_ok (Z : List PanicEntry → PT) (Q : Bool → PT) : Ok Tryd.prog Tryd.f8.ntmps Z law07_SenseParses.c10 (law07_SenseParses.q13 Z Q) (law07_SenseParses.j14 Z Q) := by
  intro E he ρ w a hr h
  obtain ⟨l_3, l_3n, l_3c, e3, h⟩ := atL_e h
  obtain ⟨e_4, e4, h⟩ := atI_e h
  obtain ⟨r_6, r_6n, r_6c, e6, h⟩ := atL_e h
  obtain ⟨n_9, e9, h⟩ := atI_e h
  exact ok_at [(3, (Value.slice l_3 l_3n l_3c)), (4, (Value.int .i64 e_4)), (6, (Value.slice r_6 r_6n r_6c)), (9, (Value.int .i64 n_9))] (okC law07_SenseParses.c10 (law07_SenseParses.q13 Z Q) (by kernel_rfl)) (puts_cons e3 (puts_cons e4 (puts_cons e6 (puts_cons e9 (fun p hp => puts_nil hp))))) (law07_SenseParses.s12_eq Z Q ρ l_3 l_3n l_3c e_4 r_6 r_6n r_6c n_9) he hr h
noncomputable def law07_SenseParses.c15 : Code := sq1 law07_SenseParses.c9
noncomputable def law07_SenseParses.c16 : Code := sq2 law07_SenseParses.c9
theorem law07_SenseParses.q17 : law07_SenseParses.c9 = .seq law07_SenseParses.c15 law07_SenseParses.c16 := by kernel_rfl
noncomputable def law07_SenseParses.c18 : Code := blk law07_SenseParses.c16
theorem law07_SenseParses.q19 : law07_SenseParses.c16 = .block 0 law07_SenseParses.c18 := by kernel_rfl
noncomputable def law07_SenseParses.c20 : Code := lop law07_SenseParses.c18
theorem law07_SenseParses.q21 : law07_SenseParses.c18 = .loop law07_SenseParses.c20 := by kernel_rfl
def law07_SenseParses.q23 (Z : List PanicEntry → PT) (Q : Bool → PT) : QF := thenK (law07_SenseParses.j14 Z Q) (law07_SenseParses.q13 Z Q)
def law07_SenseParses.q24 (Z : List PanicEntry → PT) (Q : Bool → PT) : QF := inBl 0 (law07_SenseParses.q23 Z Q)
def law07_SenseParses.s25 (Z : List PanicEntry → PT) (Q : Bool → PT) (X1 : Option Addr → Nat → Nat → Int → Option Addr → Nat → Nat → Int → Int → PT) (l_3 : Option Addr) (l_3n l_3c : Nat) (e_4 : Int) (r_6 : Option Addr) (r_6n r_6c : Nat) (n_9 : Int) (i_10 : Int) : PT :=
  (pif (decide (i_10 < ((l_3n : Nat) : Int))) (ixS l_3 l_3n i_10 12 fun v53 => (ldB (v53.add 0) fun v54 => (pif v54 (X1 l_3 l_3n l_3c e_4 r_6 r_6n r_6c (IntKind.wrap .i64 (n_9 + 1)) (IntKind.wrap .i64 (i_10 + 1))) (X1 l_3 l_3n l_3c e_4 r_6 r_6n r_6c n_9 (IntKind.wrap .i64 (i_10 + 1)))))) (law07_SenseParses.s12 Z Q l_3 l_3n l_3c e_4 r_6 r_6n r_6c n_9))
def law07_SenseParses.j26 (Z : List PanicEntry → PT) (Q : Bool → PT) (X1 : Option Addr → Nat → Nat → Int → Option Addr → Nat → Nat → Int → Int → PT) : Fr → PT := (fun ρ => atL (ρ 3) fun l_3 l_3n l_3c => atI .i64 (ρ 4) fun e_4 => atL (ρ 6) fun r_6 r_6n r_6c => atI .i64 (ρ 9) fun n_9 => atI .i64 (ρ 10) fun i_10 => (X1 l_3 l_3n l_3c e_4 r_6 r_6n r_6c n_9 i_10))
def law07_SenseParses.q27 (Z : List PanicEntry → PT) (Q : Bool → PT) (X1 : Option Addr → Nat → Nat → Int → Option Addr → Nat → Nat → Int → Int → PT) : QF := thenK (law07_SenseParses.j26 Z Q X1) (law07_SenseParses.q24 Z Q)
theorem law07_SenseParses.s25_eq (Z : List PanicEntry → PT) (Q : Bool → PT) (X1 : Option Addr → Nat → Nat → Int → Option Addr → Nat → Nat → Int → Int → PT) (ρ : Fr) (l_3 : Option Addr) (l_3n l_3c : Nat) (e_4 : Int) (r_6 : Option Addr) (r_6n r_6c : Nat) (n_9 : Int) (i_10 : Int) : comp Tryd.prog Z law07_SenseParses.c20 (law07_SenseParses.q27 Z Q X1) (puts ρ [(3, (Value.slice l_3 l_3n l_3c)), (4, (Value.int .i64 e_4)), (6, (Value.slice r_6 r_6n r_6c)), (9, (Value.int .i64 n_9)), (10, (Value.int .i64 i_10))]) = law07_SenseParses.s25 Z Q X1 l_3 l_3n l_3c e_4 r_6 r_6n r_6c n_9 i_10 := by kernel_rfl
def law07_SenseParses.j28 (Z : List PanicEntry → PT) (Q : Bool → PT) (X1 : Option Addr → Nat → Nat → Int → Option Addr → Nat → Nat → Int → Int → PT) : Fr → PT := (fun ρ => atL (ρ 3) fun l_3 l_3n l_3c => atI .i64 (ρ 4) fun e_4 => atL (ρ 6) fun r_6 r_6n r_6c => atI .i64 (ρ 9) fun n_9 => atI .i64 (ρ 10) fun i_10 => (law07_SenseParses.s25 Z Q X1 l_3 l_3n l_3c e_4 r_6 r_6n r_6c n_9 i_10))
theorem law07_SenseParses.s25_ok (Z : List PanicEntry → PT) (Q : Bool → PT) (X1 : Option Addr → Nat → Nat → Int → Option Addr → Nat → Nat → Int → Int → PT) : Ok Tryd.prog Tryd.f8.ntmps Z law07_SenseParses.c20 (law07_SenseParses.q27 Z Q X1) (law07_SenseParses.j28 Z Q X1) := by
  intro E he ρ w a hr h
  obtain ⟨l_3, l_3n, l_3c, e3, h⟩ := atL_e h
  obtain ⟨e_4, e4, h⟩ := atI_e h
  obtain ⟨r_6, r_6n, r_6c, e6, h⟩ := atL_e h
  obtain ⟨n_9, e9, h⟩ := atI_e h
  obtain ⟨i_10, e10, h⟩ := atI_e h
  exact ok_at [(3, (Value.slice l_3 l_3n l_3c)), (4, (Value.int .i64 e_4)), (6, (Value.slice r_6 r_6n r_6c)), (9, (Value.int .i64 n_9)), (10, (Value.int .i64 i_10))] (okC law07_SenseParses.c20 (law07_SenseParses.q27 Z Q X1) (by kernel_rfl)) (puts_cons e3 (puts_cons e4 (puts_cons e6 (puts_cons e9 (puts_cons e10 (fun p hp => puts_nil hp)))))) (law07_SenseParses.s25_eq Z Q X1 ρ l_3 l_3n l_3c e_4 r_6 r_6n r_6c n_9 i_10) he hr h
def law07_SenseParses.l22 (Z : List PanicEntry → PT) (Q : Bool → PT) : Nat → Option Addr → Nat → Nat → Int → Option Addr → Nat → Nat → Int → Int → PT
  | 0, _, _, _, _, _, _, _, _, _ => bad
  | k + 1, l_3, l_3n, l_3c, e_4, r_6, r_6n, r_6c, n_9, i_10 => (law07_SenseParses.s25 Z Q (law07_SenseParses.l22 Z Q k) l_3 l_3n l_3c e_4 r_6 r_6n r_6c n_9 i_10)
def law07_SenseParses.j29 (Z : List PanicEntry → PT) (Q : Bool → PT) (k : Nat) : Fr → PT := (fun ρ => atL (ρ 3) fun l_3 l_3n l_3c => atI .i64 (ρ 4) fun e_4 => atL (ρ 6) fun r_6 r_6n r_6c => atI .i64 (ρ 9) fun n_9 => atI .i64 (ρ 10) fun i_10 => (law07_SenseParses.l22 Z Q k l_3 l_3n l_3c e_4 r_6 r_6n r_6c n_9 i_10))
def law07_SenseParses.j30 (Z : List PanicEntry → PT) (Q : Bool → PT) : Fr → PT := (fun ρ => atL (ρ 3) fun l_3 l_3n l_3c => atI .i64 (ρ 4) fun e_4 => atL (ρ 6) fun r_6 r_6n r_6c => atI .i64 (ρ 9) fun n_9 => atI .i64 (ρ 10) fun i_10 => (exK fun k => law07_SenseParses.l22 Z Q k l_3 l_3n l_3c e_4 r_6 r_6n r_6c n_9 i_10))
theorem law07_SenseParses.o31 (Z : List PanicEntry → PT) (Q : Bool → PT) : Ok Tryd.prog Tryd.f8.ntmps Z law07_SenseParses.c18 (law07_SenseParses.q24 Z Q) (law07_SenseParses.j30 Z Q) := by
  rw [law07_SenseParses.q21]
  refine Ok.imp (ok_loop (J := law07_SenseParses.j29 Z Q) ?_ ?_) ?_
  · intro ρ w h
    obtain ⟨l_3, l_3n, l_3c, e3, h⟩ := atL_e h
    obtain ⟨e_4, e4, h⟩ := atI_e h
    obtain ⟨r_6, r_6n, r_6c, e6, h⟩ := atL_e h
    obtain ⟨n_9, e9, h⟩ := atI_e h
    obtain ⟨i_10, e10, h⟩ := atI_e h
    exact h
  · intro k
    refine Ok.imp (law07_SenseParses.s25_ok Z Q (law07_SenseParses.l22 Z Q k)) fun ρ w h => ?_
    obtain ⟨l_3, l_3n, l_3c, e3, h⟩ := atL_e h
    obtain ⟨e_4, e4, h⟩ := atI_e h
    obtain ⟨r_6, r_6n, r_6c, e6, h⟩ := atL_e h
    obtain ⟨n_9, e9, h⟩ := atI_e h
    obtain ⟨i_10, e10, h⟩ := atI_e h
    show (law07_SenseParses.j28 Z Q (law07_SenseParses.l22 Z Q k)) ρ w
    simp only [law07_SenseParses.j28]
    rw [e3]
    rw [e4]
    rw [e6]
    rw [e9]
    rw [e10]
    exact h
  · intro ρ w h
    obtain ⟨l_3, l_3n, l_3c, e3, h⟩ := atL_e h
    obtain ⟨e_4, e4, h⟩ := atI_e h
    obtain ⟨r_6, r_6n, r_6c, e6, h⟩ := atL_e h
    obtain ⟨n_9, e9, h⟩ := atI_e h
    obtain ⟨i_10, e10, h⟩ := atI_e h
    obtain ⟨k, h⟩ := h
    refine ⟨k, ?_⟩
    show (atL (ρ 3) fun l_3 l_3n l_3c => atI .i64 (ρ 4) fun e_4 => atL (ρ 6) fun r_6 r_6n r_6c => atI .i64 (ρ 9) fun n_9 => atI .i64 (ρ 10) fun i_10 => (law07_SenseParses.l22 Z Q k l_3 l_3n l_3c e_4 r_6 r_6n r_6c n_9 i_10)) w
    rw [e3]
    rw [e4]
    rw [e6]
    rw [e9]
    rw [e10]
    exact h
theorem law07_SenseParses.o32 (Z : List PanicEntry → PT) (Q : Bool → PT) : Ok Tryd.prog Tryd.f8.ntmps Z law07_SenseParses.c16 (law07_SenseParses.q23 Z Q) (law07_SenseParses.j30 Z Q) := by
  rw [law07_SenseParses.q19]; exact ok_block (law07_SenseParses.o31 Z Q)
def law07_SenseParses.s33 (Z : List PanicEntry → PT) (Q : Bool → PT) (l_3 : Option Addr) (l_3n l_3c : Nat) (e_4 : Int) (r_6 : Option Addr) (r_6n r_6c : Nat) (n_9 : Int) : PT :=
  (exK fun k => law07_SenseParses.l22 Z Q k l_3 l_3n l_3c e_4 r_6 r_6n r_6c n_9 0)
theorem law07_SenseParses.s33_eq (Z : List PanicEntry → PT) (Q : Bool → PT) (ρ : Fr) (l_3 : Option Addr) (l_3n l_3c : Nat) (e_4 : Int) (r_6 : Option Addr) (r_6n r_6c : Nat) (n_9 : Int) : (comp Tryd.prog Z law07_SenseParses.c15 (thenK (law07_SenseParses.j30 Z Q) (law07_SenseParses.q23 Z Q))) (puts ρ [(3, (Value.slice l_3 l_3n l_3c)), (4, (Value.int .i64 e_4)), (6, (Value.slice r_6 r_6n r_6c)), (9, (Value.int .i64 n_9))]) = law07_SenseParses.s33 Z Q l_3 l_3n l_3c e_4 r_6 r_6n r_6c n_9 := by kernel_rfl
def law07_SenseParses.j34 (Z : List PanicEntry → PT) (Q : Bool → PT) : Fr → PT := (fun ρ => atL (ρ 3) fun l_3 l_3n l_3c => atI .i64 (ρ 4) fun e_4 => atL (ρ 6) fun r_6 r_6n r_6c => atI .i64 (ρ 9) fun n_9 => (law07_SenseParses.s33 Z Q l_3 l_3n l_3c e_4 r_6 r_6n r_6c n_9))
theorem law07_SenseParses.s33_ok (Z : List PanicEntry → PT) (Q : Bool → PT) : Ok Tryd.prog Tryd.f8.ntmps Z law07_SenseParses.c9 (law07_SenseParses.q23 Z Q) (law07_SenseParses.j34 Z Q) := by
  intro E he ρ w a hr h
  rw [law07_SenseParses.q17] at he ⊢
  obtain ⟨l_3, l_3n, l_3c, e3, h⟩ := atL_e h
  obtain ⟨e_4, e4, h⟩ := atI_e h
  obtain ⟨r_6, r_6n, r_6c, e6, h⟩ := atL_e h
  obtain ⟨n_9, e9, h⟩ := atI_e h
  exact ok_at [(3, (Value.slice l_3 l_3n l_3c)), (4, (Value.int .i64 e_4)), (6, (Value.slice r_6 r_6n r_6c)), (9, (Value.int .i64 n_9))] (ok_seq (okC law07_SenseParses.c15 _ (by kernel_rfl)) (law07_SenseParses.o32 Z Q)) (puts_cons e3 (puts_cons e4 (puts_cons e6 (puts_cons e9 (fun p hp => puts_nil hp))))) (law07_SenseParses.s33_eq Z Q ρ l_3 l_3n l_3c e_4 r_6 r_6n r_6c n_9) he hr h
theorem law07_SenseParses.o35 (Z : List PanicEntry → PT) (Q : Bool → PT) : Ok Tryd.prog Tryd.f8.ntmps Z law07_SenseParses.c7 (law07_SenseParses.q13 Z Q) (law07_SenseParses.j34 Z Q) := by
  rw [law07_SenseParses.q11]; exact ok_seq (law07_SenseParses.s33_ok Z Q) (law07_SenseParses.s12_ok Z Q)
def law07_SenseParses.s36 (Z : List PanicEntry → PT) (Q : Bool → PT) (s_0 : ByteArray) : PT :=
  (cal Tryd.prog Z 11 [] (isB fun v55 => (pif (!v55) (Q false) (cal Tryd.prog Z 12 [(Value.string s_0)] (isT3 fun t56 t57 t58 => (isL fun v59 v59n v59c => ((isI .i64 fun v60 => ((isI .i64 fun v61 => (cal Tryd.prog Z 24 [(Value.string s_0)] (isT3 fun t62 t63 t64 => (isL fun v65 v65n v65c => ((isI .i64 fun v66 => ((isI .i64 fun v67 => (pif (v66 != 0) (pif (v60 == v66) (Q (v61 == v67)) (Q false)) (law07_SenseParses.s33 Z Q v59 v59n v59c v60 v65 v65n v65c 0))) t64)) t63)) t62))) t58)) t57)) t56)))))
theorem law07_SenseParses.s36_eq (Z : List PanicEntry → PT) (Q : Bool → PT) (ρ : Fr) (s_0 : ByteArray) : (comp Tryd.prog Z law07_SenseParses.c1 (thenK (comp Tryd.prog Z law07_SenseParses.c2 (thenK (comp Tryd.prog Z law07_SenseParses.c3 (thenK (comp Tryd.prog Z law07_SenseParses.c4 (thenK (comp Tryd.prog Z law07_SenseParses.c5 (thenK (comp Tryd.prog Z law07_SenseParses.c6 (thenK (law07_SenseParses.j34 Z Q) (law07_SenseParses.q13 Z Q))) (law07_SenseParses.q13 Z Q))) (law07_SenseParses.q13 Z Q))) (law07_SenseParses.q13 Z Q))) (law07_SenseParses.q13 Z Q))) (law07_SenseParses.q13 Z Q))) (puts ρ [(0, (Value.string s_0))]) = law07_SenseParses.s36 Z Q s_0 := by kernel_rfl
def law07_SenseParses.j37 (Z : List PanicEntry → PT) (Q : Bool → PT) : Fr → PT := (fun ρ => atS (ρ 0) fun s_0 => (law07_SenseParses.s36 Z Q s_0))
theorem law07_SenseParses.s36_ok (Z : List PanicEntry → PT) (Q : Bool → PT) : Ok Tryd.prog Tryd.f8.ntmps Z law07_SenseParses.body (law07_SenseParses.q13 Z Q) (law07_SenseParses.j37 Z Q) := by
  intro E he ρ w a hr h
  rw [law07_SenseParses.q8] at he ⊢
  obtain ⟨s_0, e0, h⟩ := atS_e h
  exact ok_at [(0, (Value.string s_0))] (ok_seq (okC law07_SenseParses.c1 _ (by kernel_rfl)) (ok_seq (okC law07_SenseParses.c2 _ (by kernel_rfl)) (ok_seq (okC law07_SenseParses.c3 _ (by kernel_rfl)) (ok_seq (okC law07_SenseParses.c4 _ (by kernel_rfl)) (ok_seq (okC law07_SenseParses.c5 _ (by kernel_rfl)) (ok_seq (okC law07_SenseParses.c6 _ (by kernel_rfl)) (law07_SenseParses.o35 Z Q))))))) (puts_cons e0 (fun p hp => puts_nil hp)) (law07_SenseParses.s36_eq Z Q ρ s_0) he hr h
def law07_SenseParses.F (Z : List PanicEntry → PT) (Q : Bool → PT) (s_0 : ByteArray) : PT :=
  (law07_SenseParses.s36 Z Q s_0)
theorem law07_SenseParses.vc (Z : List PanicEntry → PT) (Q : Bool → PT) (s_0 : ByteArray) (w : World) (h : law07_SenseParses.F Z Q s_0 w) : Calls Tryd.prog 8 ⟨[(Value.string s_0)]⟩ w fun e w' => (∃ (r0 : Bool), e = .returned (.bool r0) ∧ Q r0 w') ∨ ∃ c, e = .panicked c ∧ Z c w' := by
  refine (calls_of_ok (args := [(Value.string s_0)]) (w := w) (rs := [.tmp 2]) (fn := Tryd.f8) (c := law07_SenseParses.body) Tryd.func8 (by kernel_rfl) (by kernel_rfl) (Nat.le_of_ble_eq_true (by kernel_rfl)) (law07_SenseParses.s36_ok Z Q) (h)).mono fun e w' hR => ?_
  cases e with
  | returned v =>
    obtain ⟨va, rfl, hR⟩ := atB_e hR
    exact .inl ⟨va, rfl, hR⟩
  | panicked c => exact .inr ⟨c, rfl, hR⟩
  | outgrown => exact hR.elim
theorem law07_SenseParses.vc0 (Q : Bool → PT) (s_0 : ByteArray) (w : World) (h : law07_SenseParses.F Z0 Q s_0 w) : Calls Tryd.prog 8 ⟨[(Value.string s_0)]⟩ w fun e w' => (∃ (r0 : Bool), e = .returned (.bool r0) ∧ Q r0 w') :=
  (law07_SenseParses.vc Z0 Q s_0 w h).mono fun _ _ hR => hR.elim id fun ⟨_, _, hz⟩ => hz.elim
theorem law07_SenseParses.cal {Z : List PanicEntry → PT} {Q : Bool → PT} {s_0 : ByteArray} {w : World} (h : law07_SenseParses.F Z Q s_0 w) : Go.Proofs.YtllgjjldnnmjkaaDoor.cal Tryd.prog Z 8 [(Value.string s_0)] (isB fun r0 => Q r0) w := by
  refine (law07_SenseParses.vc Z Q s_0 w h).mono fun e w' hR => ?_
  rcases hR with ⟨r0, rfl, h⟩ | ⟨c, rfl, h⟩
  · show (isB fun r0 => Q r0) (.bool r0) w'
    exact ⟨_, rfl, h⟩
  · exact h

end Go.Proofs.YtllgjjldnnmjkaaDoor
