/-
  The reading of the code of 6 functions, printed by gen.py off the translation; no condition.
-/
import Derived.Test.YtimdpeolfhaajaaWlFacts
namespace Go.Proofs.Ytimdpeolfhaajaa
open Go.RowKit
set_option linter.unusedVariables false
set_option maxRecDepth 100000

/-! ### milepost/milepostref06.figure: function 17 -/
noncomputable def ref06_figure.body : Code := bodyC Try.f17
def ref06_figure.F (Z : List PanicEntry → PT) (Q : Bool → PT) (a_0 : List Value) (b_1 : List Value) (places_2 : Bool) : PT :=
  (newC 36 a_0 fun a3 => (newC 36 b_1 fun b4 => (ldI .i64 (a3.add 0) fun v5 => (ldI .i64 (b4.add 0) fun v6 => (pif (v5 == v6) (pif (!places_2) (Q true) (ldI .i64 (a3.add 1) fun v7 => (ldI .i64 (b4.add 1) fun v8 => (Q (v7 == v8))))) (Q false))))))
def ref06_figure.q1 (Z : List PanicEntry → PT) (Q : Bool → PT) : QF := bodyQ Try.prog [.tmp 6] (fun v => atB v fun va => Q va)
theorem ref06_figure.eq (Z : List PanicEntry → PT) (Q : Bool → PT) (a_0 : List Value) (b_1 : List Value) (places_2 : Bool) : comp Try.prog Z ref06_figure.body (ref06_figure.q1 Z Q) (fr0 [(Value.agg ⟨a_0⟩), (Value.agg ⟨b_1⟩), (Value.bool places_2)]) = ref06_figure.F Z Q a_0 b_1 places_2 := by kernel_rfl
theorem ref06_figure.vc (Z : List PanicEntry → PT) (Q : Bool → PT) (a_0 : List Value) (b_1 : List Value) (places_2 : Bool) (w : World) (h : ref06_figure.F Z Q a_0 b_1 places_2 w) : Calls Try.prog 17 ⟨[(Value.agg ⟨a_0⟩), (Value.agg ⟨b_1⟩), (Value.bool places_2)]⟩ w fun e w' => (∃ (r0 : Bool), e = .returned (.bool r0) ∧ Q r0 w') ∨ ∃ c, e = .panicked c ∧ Z c w' := by
  refine (calls_of_ok (args := [(Value.agg ⟨a_0⟩), (Value.agg ⟨b_1⟩), (Value.bool places_2)]) (w := w) (rs := [.tmp 6]) (fn := Try.f17) (c := ref06_figure.body) Try.func17 (by kernel_rfl) (by kernel_rfl) (Nat.le_of_ble_eq_true (by kernel_rfl)) (okC ref06_figure.body (ref06_figure.q1 Z Q) (by kernel_rfl)) (by rw [ref06_figure.eq]; exact h)).mono fun e w' hR => ?_
  cases e with
  | returned v =>
    obtain ⟨va, rfl, hR⟩ := atB_e hR
    exact .inl ⟨va, rfl, hR⟩
  | panicked c => exact .inr ⟨c, rfl, hR⟩
  | outgrown => exact hR.elim
theorem ref06_figure.vc0 (Q : Bool → PT) (a_0 : List Value) (b_1 : List Value) (places_2 : Bool) (w : World) (h : ref06_figure.F Z0 Q a_0 b_1 places_2 w) : Calls Try.prog 17 ⟨[(Value.agg ⟨a_0⟩), (Value.agg ⟨b_1⟩), (Value.bool places_2)]⟩ w fun e w' => (∃ (r0 : Bool), e = .returned (.bool r0) ∧ Q r0 w') :=
  (ref06_figure.vc Z0 Q a_0 b_1 places_2 w h).mono fun _ _ hR => hR.elim id fun ⟨_, _, hz⟩ => hz.elim
theorem ref06_figure.cal {Z : List PanicEntry → PT} {Q : Bool → PT} {a_0 : List Value} {b_1 : List Value} {places_2 : Bool} {w : World} (h : ref06_figure.F Z Q a_0 b_1 places_2 w) : Go.Proofs.Ytimdpeolfhaajaa.cal Try.prog Z 17 [(Value.agg ⟨a_0⟩), (Value.agg ⟨b_1⟩), (Value.bool places_2)] (isB fun r0 => Q r0) w := by
  refine (ref06_figure.vc Z Q a_0 b_1 places_2 w h).mono fun e w' hR => ?_
  rcases hR with ⟨r0, rfl, h⟩ | ⟨c, rfl, h⟩
  · show (isB fun r0 => Q r0) (.bool r0) w'
    exact ⟨_, rfl, h⟩
  · exact h

/-! ### milepost/milepostref06.Same: function 9 -/
noncomputable def ref06_Same.body : Code := bodyC Try.f9
noncomputable def ref06_Same.c1 : Code := sq1 ref06_Same.body
noncomputable def ref06_Same.c2 : Code := sq1 (sq2 ref06_Same.body)
noncomputable def ref06_Same.c3 : Code := sq2 (sq2 ref06_Same.body)
theorem ref06_Same.q4 : ref06_Same.body = .seq ref06_Same.c1 (.seq ref06_Same.c2 ref06_Same.c3) := by kernel_rfl
noncomputable def ref06_Same.c5 : Code := sq1 ref06_Same.c3
noncomputable def ref06_Same.c6 : Code := sq2 ref06_Same.c3
theorem ref06_Same.q7 : ref06_Same.c3 = .seq ref06_Same.c5 ref06_Same.c6 := by kernel_rfl
def ref06_Same.s8 (Z : List PanicEntry → PT) (Q : Bool → PT)  : PT :=
  (Q true)
def ref06_Same.q9 (Z : List PanicEntry → PT) (Q : Bool → PT) : QF := bodyQ Try.prog [.tmp 6] (fun v => atB v fun va => Q va)
theorem ref06_Same.s8_eq (Z : List PanicEntry → PT) (Q : Bool → PT) (ρ : Fr)  : comp Try.prog Z ref06_Same.c6 (ref06_Same.q9 Z Q) (puts ρ []) = ref06_Same.s8 Z Q  := by kernel_rfl
def ref06_Same.j10 (Z : List PanicEntry → PT) (Q : Bool → PT) : Fr → PT := (fun ρ => (ref06_Same.s8 Z Q ))
theorem ref06_Same.s8_ok (Z : List PanicEntry → PT) (Q : Bool → PT) : Ok Try.prog Try.f9.ntmps Z ref06_Same.c6 (ref06_Same.q9 Z Q) (ref06_Same.j10 Z Q) := by
  intro E he ρ w a hr h
  exact ok_at [] (okC ref06_Same.c6 (ref06_Same.q9 Z Q) (by kernel_rfl)) (fun p hp => puts_nil hp) (ref06_Same.s8_eq Z Q ρ ) he hr h
noncomputable def ref06_Same.c11 : Code := sq1 ref06_Same.c5
noncomputable def ref06_Same.c12 : Code := sq2 ref06_Same.c5
theorem ref06_Same.q13 : ref06_Same.c5 = .seq ref06_Same.c11 ref06_Same.c12 := by kernel_rfl
noncomputable def ref06_Same.c14 : Code := blk ref06_Same.c12
theorem ref06_Same.q15 : ref06_Same.c12 = .block 0 ref06_Same.c14 := by kernel_rfl
noncomputable def ref06_Same.c16 : Code := lop ref06_Same.c14
theorem ref06_Same.q17 : ref06_Same.c14 = .loop ref06_Same.c16 := by kernel_rfl
def ref06_Same.q19 (Z : List PanicEntry → PT) (Q : Bool → PT) : QF := thenK (ref06_Same.j10 Z Q) (ref06_Same.q9 Z Q)
def ref06_Same.q20 (Z : List PanicEntry → PT) (Q : Bool → PT) : QF := inBl 0 (ref06_Same.q19 Z Q)
noncomputable def ref06_Same.c21 : Code := sq1 ref06_Same.c16
noncomputable def ref06_Same.c22 : Code := sq2 ref06_Same.c16
theorem ref06_Same.q23 : ref06_Same.c16 = .seq ref06_Same.c21 ref06_Same.c22 := by kernel_rfl
noncomputable def ref06_Same.c24 : Code := sq1 ref06_Same.c22
noncomputable def ref06_Same.c25 : Code := sq2 ref06_Same.c22
theorem ref06_Same.q26 : ref06_Same.c22 = .seq ref06_Same.c24 ref06_Same.c25 := by kernel_rfl
def ref06_Same.s27 (Z : List PanicEntry → PT) (Q : Bool → PT) (X1 : Option Addr → Nat → Nat → Option Addr → Nat → Nat → Bool → Int → PT) (a_0 : Option Addr) (a_0n a_0c : Nat) (b_1 : Option Addr) (b_1n b_1c : Nat) (places_2 : Bool) (i_7 : Int) : PT :=
  (X1 a_0 a_0n a_0c b_1 b_1n b_1c places_2 (IntKind.wrap .i64 (i_7 + 1)))
def ref06_Same.j28 (Z : List PanicEntry → PT) (Q : Bool → PT) (X1 : Option Addr → Nat → Nat → Option Addr → Nat → Nat → Bool → Int → PT) : Fr → PT := (fun ρ => atL (ρ 0) fun a_0 a_0n a_0c => atL (ρ 1) fun b_1 b_1n b_1c => atB (ρ 2) fun places_2 => atI .i64 (ρ 7) fun i_7 => (X1 a_0 a_0n a_0c b_1 b_1n b_1c places_2 i_7))
def ref06_Same.q29 (Z : List PanicEntry → PT) (Q : Bool → PT) (X1 : Option Addr → Nat → Nat → Option Addr → Nat → Nat → Bool → Int → PT) : QF := thenK (ref06_Same.j28 Z Q X1) (ref06_Same.q20 Z Q)
theorem ref06_Same.s27_eq (Z : List PanicEntry → PT) (Q : Bool → PT) (X1 : Option Addr → Nat → Nat → Option Addr → Nat → Nat → Bool → Int → PT) (ρ : Fr) (a_0 : Option Addr) (a_0n a_0c : Nat) (b_1 : Option Addr) (b_1n b_1c : Nat) (places_2 : Bool) (i_7 : Int) : comp Try.prog Z ref06_Same.c25 (ref06_Same.q29 Z Q X1) (puts ρ [(0, (Value.slice a_0 a_0n a_0c)), (1, (Value.slice b_1 b_1n b_1c)), (2, (Value.bool places_2)), (7, (Value.int .i64 i_7))]) = ref06_Same.s27 Z Q X1 a_0 a_0n a_0c b_1 b_1n b_1c places_2 i_7 := by kernel_rfl
def ref06_Same.j30 (Z : List PanicEntry → PT) (Q : Bool → PT) (X1 : Option Addr → Nat → Nat → Option Addr → Nat → Nat → Bool → Int → PT) : Fr → PT := (fun ρ => atL (ρ 0) fun a_0 a_0n a_0c => atL (ρ 1) fun b_1 b_1n b_1c => atB (ρ 2) fun places_2 => atI .i64 (ρ 7) fun i_7 => (ref06_Same.s27 Z Q X1 a_0 a_0n a_0c b_1 b_1n b_1c places_2 i_7))
theorem ref06_Same.s27_ok (Z : List PanicEntry → PT) (Q : Bool → PT) (X1 : Option Addr → Nat → Nat → Option Addr → Nat → Nat → Bool → Int → PT) : Ok Try.prog Try.f9.ntmps Z ref06_Same.c25 (ref06_Same.q29 Z Q X1) (ref06_Same.j30 Z Q X1) := by
  intro E he ρ w a hr h
  obtain ⟨a_0, a_0n, a_0c, e0, h⟩ := atL_e h
  obtain ⟨b_1, b_1n, b_1c, e1, h⟩ := atL_e h
  obtain ⟨places_2, e2, h⟩ := atB_e h
  obtain ⟨i_7, e7, h⟩ := atI_e h
  exact ok_at [(0, (Value.slice a_0 a_0n a_0c)), (1, (Value.slice b_1 b_1n b_1c)), (2, (Value.bool places_2)), (7, (Value.int .i64 i_7))] (okC ref06_Same.c25 (ref06_Same.q29 Z Q X1) (by kernel_rfl)) (puts_cons e0 (puts_cons e1 (puts_cons e2 (puts_cons e7 (fun p hp => puts_nil hp))))) (ref06_Same.s27_eq Z Q X1 ρ a_0 a_0n a_0c b_1 b_1n b_1c places_2 i_7) he hr h
noncomputable def ref06_Same.c31 : Code := blk ref06_Same.c24
theorem ref06_Same.q32 : ref06_Same.c24 = .block 1 ref06_Same.c31 := by kernel_rfl
noncomputable def ref06_Same.c33 : Code := sq1 ref06_Same.c31
noncomputable def ref06_Same.c34 : Code := sq1 (sq2 ref06_Same.c31)
noncomputable def ref06_Same.c35 : Code := sq2 (sq2 ref06_Same.c31)
theorem ref06_Same.q36 : ref06_Same.c31 = .seq ref06_Same.c33 (.seq ref06_Same.c34 ref06_Same.c35) := by kernel_rfl
noncomputable def ref06_Same.c37 : Code := sq1 ref06_Same.c35
noncomputable def ref06_Same.c38 : Code := sq2 ref06_Same.c35
theorem ref06_Same.q39 : ref06_Same.c35 = .seq ref06_Same.c37 ref06_Same.c38 := by kernel_rfl
noncomputable def ref06_Same.c40 : Code := sq1 ref06_Same.c38
noncomputable def ref06_Same.c41 : Code := sq2 ref06_Same.c38
theorem ref06_Same.q42 : ref06_Same.c38 = .seq ref06_Same.c40 ref06_Same.c41 := by kernel_rfl
noncomputable def ref06_Same.c43 : Code := blk ref06_Same.c41
theorem ref06_Same.q44 : ref06_Same.c41 = .block 2 ref06_Same.c43 := by kernel_rfl
noncomputable def ref06_Same.c45 : Code := lop ref06_Same.c43
theorem ref06_Same.q46 : ref06_Same.c43 = .loop ref06_Same.c45 := by kernel_rfl
def ref06_Same.q48 (Z : List PanicEntry → PT) (Q : Bool → PT) (X1 : Option Addr → Nat → Nat → Option Addr → Nat → Nat → Bool → Int → PT) : QF := thenK (ref06_Same.j30 Z Q X1) (ref06_Same.q29 Z Q X1)
def ref06_Same.q49 (Z : List PanicEntry → PT) (Q : Bool → PT) (X1 : Option Addr → Nat → Nat → Option Addr → Nat → Nat → Bool → Int → PT) : QF := inBl 1 (ref06_Same.q48 Z Q X1)
def ref06_Same.q50 (Z : List PanicEntry → PT) (Q : Bool → PT) (X1 : Option Addr → Nat → Nat → Option Addr → Nat → Nat → Bool → Int → PT) : QF := inBl 2 (ref06_Same.q49 Z Q X1)
noncomputable def ref06_Same.c51 : Code := sq1 ref06_Same.c45
noncomputable def ref06_Same.c52 : Code := sq2 ref06_Same.c45
theorem ref06_Same.q53 : ref06_Same.c45 = .seq ref06_Same.c51 ref06_Same.c52 := by kernel_rfl
noncomputable def ref06_Same.c54 : Code := sq1 ref06_Same.c52
noncomputable def ref06_Same.c55 : Code := sq2 ref06_Same.c52
theorem ref06_Same.q56 : ref06_Same.c52 = .seq ref06_Same.c54 ref06_Same.c55 := by kernel_rfl
def ref06_Same.s57 (Z : List PanicEntry → PT) (Q : Bool → PT) (X1 : Option Addr → Nat → Nat → Option Addr → Nat → Nat → Bool → Int → PT) (X2 : Option Addr → Nat → Nat → Option Addr → Nat → Nat → Bool → Int → Addr → Addr → Int → PT) (a_0 : Option Addr) (a_0n a_0c : Nat) (b_1 : Option Addr) (b_1n b_1c : Nat) (places_2 : Bool) (i_7 : Int) (x_8 : Addr) (y_9 : Addr) (k_10 : Int) : PT :=
  (X2 a_0 a_0n a_0c b_1 b_1n b_1c places_2 i_7 x_8 y_9 (IntKind.wrap .i64 (k_10 + 1)))
def ref06_Same.j58 (Z : List PanicEntry → PT) (Q : Bool → PT) (X1 : Option Addr → Nat → Nat → Option Addr → Nat → Nat → Bool → Int → PT) (X2 : Option Addr → Nat → Nat → Option Addr → Nat → Nat → Bool → Int → Addr → Addr → Int → PT) : Fr → PT := (fun ρ => atL (ρ 0) fun a_0 a_0n a_0c => atL (ρ 1) fun b_1 b_1n b_1c => atB (ρ 2) fun places_2 => atI .i64 (ρ 7) fun i_7 => atA (ρ 8) fun x_8 => atA (ρ 9) fun y_9 => atI .i64 (ρ 10) fun k_10 => (X2 a_0 a_0n a_0c b_1 b_1n b_1c places_2 i_7 x_8 y_9 k_10))
def ref06_Same.q59 (Z : List PanicEntry → PT) (Q : Bool → PT) (X1 : Option Addr → Nat → Nat → Option Addr → Nat → Nat → Bool → Int → PT) (X2 : Option Addr → Nat → Nat → Option Addr → Nat → Nat → Bool → Int → Addr → Addr → Int → PT) : QF := thenK (ref06_Same.j58 Z Q X1 X2) (ref06_Same.q50 Z Q X1)
theorem ref06_Same.s57_eq (Z : List PanicEntry → PT) (Q : Bool → PT) (X1 : Option Addr → Nat → Nat → Option Addr → Nat → Nat → Bool → Int → PT) (X2 : Option Addr → Nat → Nat → Option Addr → Nat → Nat → Bool → Int → Addr → Addr → Int → PT) (ρ : Fr) (a_0 : Option Addr) (a_0n a_0c : Nat) (b_1 : Option Addr) (b_1n b_1c : Nat) (places_2 : Bool) (i_7 : Int) (x_8 : Addr) (y_9 : Addr) (k_10 : Int) : comp Try.prog Z ref06_Same.c55 (ref06_Same.q59 Z Q X1 X2) (puts ρ [(0, (Value.slice a_0 a_0n a_0c)), (1, (Value.slice b_1 b_1n b_1c)), (2, (Value.bool places_2)), (7, (Value.int .i64 i_7)), (8, (Value.pointer (some x_8))), (9, (Value.pointer (some y_9))), (10, (Value.int .i64 k_10))]) = ref06_Same.s57 Z Q X1 X2 a_0 a_0n a_0c b_1 b_1n b_1c places_2 i_7 x_8 y_9 k_10 := by kernel_rfl
def ref06_Same.j60 (Z : List PanicEntry → PT) (Q : Bool → PT) (X1 : Option Addr → Nat → Nat → Option Addr → Nat → Nat → Bool → Int → PT) (X2 : Option Addr → Nat → Nat → Option Addr → Nat → Nat → Bool → Int → Addr → Addr → Int → PT) : Fr → PT := (fun ρ => atL (ρ 0) fun a_0 a_0n a_0c => atL (ρ 1) fun b_1 b_1n b_1c => atB (ρ 2) fun places_2 => atI .i64 (ρ 7) fun i_7 => atA (ρ 8) fun x_8 => atA (ρ 9) fun y_9 => atI .i64 (ρ 10) fun k_10 => (ref06_Same.s57 Z Q X1 X2 a_0 a_0n a_0c b_1 b_1n b_1c places_2 i_7 x_8 y_9 k_10))
theorem ref06_Same.s57_ok (Z : List PanicEntry → PT) (Q : Bool → PT) (X1 : Option Addr → Nat → Nat → Option Addr → Nat → Nat → Bool → Int → PT) (X2 : Option Addr → Nat → Nat → Option Addr → Nat → Nat → Bool → Int → Addr → Addr → Int → PT) : Ok Try.prog Try.f9.ntmps Z ref06_Same.c55 (ref06_Same.q59 Z Q X1 X2) (ref06_Same.j60 Z Q X1 X2) := by
  intro E he ρ w a hr h
  obtain ⟨a_0, a_0n, a_0c, e0, h⟩ := atL_e h
  obtain ⟨b_1, b_1n, b_1c, e1, h⟩ := atL_e h
  obtain ⟨places_2, e2, h⟩ := atB_e h
  obtain ⟨i_7, e7, h⟩ := atI_e h
  obtain ⟨x_8, e8, h⟩ := atA_e h
  obtain ⟨y_9, e9, h⟩ := atA_e h
  obtain ⟨k_10, e10, h⟩ := atI_e h
  exact ok_at [(0, (Value.slice a_0 a_0n a_0c)), (1, (Value.slice b_1 b_1n b_1c)), (2, (Value.bool places_2)), (7, (Value.int .i64 i_7)), (8, (Value.pointer (some x_8))), (9, (Value.pointer (some y_9))), (10, (Value.int .i64 k_10))] (okC ref06_Same.c55 (ref06_Same.q59 Z Q X1 X2) (by kernel_rfl)) (puts_cons e0 (puts_cons e1 (puts_cons e2 (puts_cons e7 (puts_cons e8 (puts_cons e9 (puts_cons e10 (fun p hp => puts_nil hp)))))))) (ref06_Same.s57_eq Z Q X1 X2 ρ a_0 a_0n a_0c b_1 b_1n b_1c places_2 i_7 x_8 y_9 k_10) he hr h
noncomputable def ref06_Same.c61 : Code := blk ref06_Same.c54
theorem ref06_Same.q62 : ref06_Same.c54 = .block 3 ref06_Same.c61 := by kernel_rfl
noncomputable def ref06_Same.c63 : Code := sq1 ref06_Same.c61
noncomputable def ref06_Same.c64 : Code := sq1 (sq2 ref06_Same.c61)
noncomputable def ref06_Same.c65 : Code := sq2 (sq2 ref06_Same.c61)
theorem ref06_Same.q66 : ref06_Same.c61 = .seq ref06_Same.c63 (.seq ref06_Same.c64 ref06_Same.c65) := by kernel_rfl
noncomputable def ref06_Same.c67 : Code := sq1 ref06_Same.c65
noncomputable def ref06_Same.c68 : Code := sq2 ref06_Same.c65
theorem ref06_Same.q69 : ref06_Same.c65 = .seq ref06_Same.c67 ref06_Same.c68 := by kernel_rfl
noncomputable def ref06_Same.c70 : Code := sq1 ref06_Same.c68
noncomputable def ref06_Same.c71 : Code := sq2 ref06_Same.c68
theorem ref06_Same.q72 : ref06_Same.c68 = .seq ref06_Same.c70 ref06_Same.c71 := by kernel_rfl
noncomputable def ref06_Same.c73 : Code := blk ref06_Same.c71
theorem ref06_Same.q74 : ref06_Same.c71 = .block 4 ref06_Same.c73 := by kernel_rfl
noncomputable def ref06_Same.c75 : Code := lop ref06_Same.c73
theorem ref06_Same.q76 : ref06_Same.c73 = .loop ref06_Same.c75 := by kernel_rfl
def ref06_Same.q78 (Z : List PanicEntry → PT) (Q : Bool → PT) (X1 : Option Addr → Nat → Nat → Option Addr → Nat → Nat → Bool → Int → PT) (X2 : Option Addr → Nat → Nat → Option Addr → Nat → Nat → Bool → Int → Addr → Addr → Int → PT) : QF := thenK (ref06_Same.j60 Z Q X1 X2) (ref06_Same.q59 Z Q X1 X2)
def ref06_Same.q79 (Z : List PanicEntry → PT) (Q : Bool → PT) (X1 : Option Addr → Nat → Nat → Option Addr → Nat → Nat → Bool → Int → PT) (X2 : Option Addr → Nat → Nat → Option Addr → Nat → Nat → Bool → Int → Addr → Addr → Int → PT) : QF := inBl 3 (ref06_Same.q78 Z Q X1 X2)
def ref06_Same.q80 (Z : List PanicEntry → PT) (Q : Bool → PT) (X1 : Option Addr → Nat → Nat → Option Addr → Nat → Nat → Bool → Int → PT) (X2 : Option Addr → Nat → Nat → Option Addr → Nat → Nat → Bool → Int → Addr → Addr → Int → PT) : QF := inBl 4 (ref06_Same.q79 Z Q X1 X2)
def ref06_Same.s81 (Z : List PanicEntry → PT) (Q : Bool → PT) (X1 : Option Addr → Nat → Nat → Option Addr → Nat → Nat → Bool → Int → PT) (X2 : Option Addr → Nat → Nat → Option Addr → Nat → Nat → Bool → Int → Addr → Addr → Int → PT) (X3 : Option Addr → Nat → Nat → Option Addr → Nat → Nat → Bool → Int → Addr → Addr → Int → Addr → Addr → Int → PT) (a_0 : Option Addr) (a_0n a_0c : Nat) (b_1 : Option Addr) (b_1n b_1c : Nat) (places_2 : Bool) (i_7 : Int) (x_8 : Addr) (y_9 : Addr) (k_10 : Int) (c_11 : Addr) (d_12 : Addr) (j_13 : Int) : PT :=
  (ldL (c_11.add 2) fun v127 v127n v127c => (pif (decide (j_13 < ((v127n : Nat) : Int))) (drawn fun S128 => (hL S128 (c_11.add 2) fun v129 v129n v129c => (ixS v129 v129n j_13 2 fun v130 => (hN S128 2 v130 fun v131 => (hL S128 (d_12.add 2) fun v132 v132n v132c => (ixS v132 v132n j_13 2 fun v133 => (hN S128 2 v133 fun v134 => (cal Try.prog Z 17 [(Value.agg ⟨v131⟩), (Value.agg ⟨v134⟩), (Value.bool places_2)] (isB fun v135 => (sAnd S128 (pif (!v135) (Q false) (X3 a_0 a_0n a_0c b_1 b_1n b_1c places_2 i_7 x_8 y_9 k_10 c_11 d_12 (IntKind.wrap .i64 (j_13 + 1)))))))))))))) (ref06_Same.s57 Z Q X1 X2 a_0 a_0n a_0c b_1 b_1n b_1c places_2 i_7 x_8 y_9 k_10)))
def ref06_Same.j82 (Z : List PanicEntry → PT) (Q : Bool → PT) (X1 : Option Addr → Nat → Nat → Option Addr → Nat → Nat → Bool → Int → PT) (X2 : Option Addr → Nat → Nat → Option Addr → Nat → Nat → Bool → Int → Addr → Addr → Int → PT) (X3 : Option Addr → Nat → Nat → Option Addr → Nat → Nat → Bool → Int → Addr → Addr → Int → Addr → Addr → Int → PT) : Fr → PT := (fun ρ => atL (ρ 0) fun a_0 a_0n a_0c => atL (ρ 1) fun b_1 b_1n b_1c => atB (ρ 2) fun places_2 => atI .i64 (ρ 7) fun i_7 => atA (ρ 8) fun x_8 => atA (ρ 9) fun y_9 => atI .i64 (ρ 10) fun k_10 => atA (ρ 11) fun c_11 => atA (ρ 12) fun d_12 => atI .i64 (ρ 13) fun j_13 => (X3 a_0 a_0n a_0c b_1 b_1n b_1c places_2 i_7 x_8 y_9 k_10 c_11 d_12 j_13))
def ref06_Same.q83 (Z : List PanicEntry → PT) (Q : Bool → PT) (X1 : Option Addr → Nat → Nat → Option Addr → Nat → Nat → Bool → Int → PT) (X2 : Option Addr → Nat → Nat → Option Addr → Nat → Nat → Bool → Int → Addr → Addr → Int → PT) (X3 : Option Addr → Nat → Nat → Option Addr → Nat → Nat → Bool → Int → Addr → Addr → Int → Addr → Addr → Int → PT) : QF := thenK (ref06_Same.j82 Z Q X1 X2 X3) (ref06_Same.q80 Z Q X1 X2)
theorem ref06_Same.s81_eq (Z : List PanicEntry → PT) (Q : Bool → PT) (X1 : Option Addr → Nat → Nat → Option Addr → Nat → Nat → Bool → Int → PT) (X2 : Option Addr → Nat → Nat → Option Addr → Nat → Nat → Bool → Int → Addr → Addr → Int → PT) (X3 : Option Addr → Nat → Nat → Option Addr → Nat → Nat → Bool → Int → Addr → Addr → Int → Addr → Addr → Int → PT) (ρ : Fr) (a_0 : Option Addr) (a_0n a_0c : Nat) (b_1 : Option Addr) (b_1n b_1c : Nat) (places_2 : Bool) (i_7 : Int) (x_8 : Addr) (y_9 : Addr) (k_10 : Int) (c_11 : Addr) (d_12 : Addr) (j_13 : Int) : comp Try.prog Z ref06_Same.c75 (ref06_Same.q83 Z Q X1 X2 X3) (puts ρ [(0, (Value.slice a_0 a_0n a_0c)), (1, (Value.slice b_1 b_1n b_1c)), (2, (Value.bool places_2)), (7, (Value.int .i64 i_7)), (8, (Value.pointer (some x_8))), (9, (Value.pointer (some y_9))), (10, (Value.int .i64 k_10)), (11, (Value.pointer (some c_11))), (12, (Value.pointer (some d_12))), (13, (Value.int .i64 j_13))]) = ref06_Same.s81 Z Q X1 X2 X3 a_0 a_0n a_0c b_1 b_1n b_1c places_2 i_7 x_8 y_9 k_10 c_11 d_12 j_13 := by kernel_rfl
def ref06_Same.j84 (Z : List PanicEntry → PT) (Q : Bool → PT) (X1 : Option Addr → Nat → Nat → Option Addr → Nat → Nat → Bool → Int → PT) (X2 : Option Addr → Nat → Nat → Option Addr → Nat → Nat → Bool → Int → Addr → Addr → Int → PT) (X3 : Option Addr → Nat → Nat → Option Addr → Nat → Nat → Bool → Int → Addr → Addr → Int → Addr → Addr → Int → PT) : Fr → PT := (fun ρ => atL (ρ 0) fun a_0 a_0n a_0c => atL (ρ 1) fun b_1 b_1n b_1c => atB (ρ 2) fun places_2 => atI .i64 (ρ 7) fun i_7 => atA (ρ 8) fun x_8 => atA (ρ 9) fun y_9 => atI .i64 (ρ 10) fun k_10 => atA (ρ 11) fun c_11 => atA (ρ 12) fun d_12 => atI .i64 (ρ 13) fun j_13 => (ref06_Same.s81 Z Q X1 X2 X3 a_0 a_0n a_0c b_1 b_1n b_1c places_2 i_7 x_8 y_9 k_10 c_11 d_12 j_13))
theorem ref06_Same.s81_ok (Z : List PanicEntry → PT) (Q : Bool → PT) (X1 : Option Addr → Nat → Nat → Option Addr → Nat → Nat → Bool → Int → PT) (X2 : Option Addr → Nat → Nat → Option Addr → Nat → Nat → Bool → Int → Addr → Addr → Int → PT) (X3 : Option Addr → Nat → Nat → Option Addr → Nat → Nat → Bool → Int → Addr → Addr → Int → Addr → Addr → Int → PT) : Ok Try.prog Try.f9.ntmps Z ref06_Same.c75 (ref06_Same.q83 Z Q X1 X2 X3) (ref06_Same.j84 Z Q X1 X2 X3) := by
  intro E he ρ w a hr h
  obtain ⟨a_0, a_0n, a_0c, e0, h⟩ := atL_e h
  obtain ⟨b_1, b_1n, b_1c, e1, h⟩ := atL_e h
  obtain ⟨places_2, e2, h⟩ := atB_e h
  obtain ⟨i_7, e7, h⟩ := atI_e h
  obtain ⟨x_8, e8, h⟩ := atA_e h
  obtain ⟨y_9, e9, h⟩ := atA_e h
  obtain ⟨k_10, e10, h⟩ := atI_e h
  obtain ⟨c_11, e11, h⟩ := atA_e h
  obtain ⟨d_12, e12, h⟩ := atA_e h
  obtain ⟨j_13, e13, h⟩ := atI_e h
  exact ok_at [(0, (Value.slice a_0 a_0n a_0c)), (1, (Value.slice b_1 b_1n b_1c)), (2, (Value.bool places_2)), (7, (Value.int .i64 i_7)), (8, (Value.pointer (some x_8))), (9, (Value.pointer (some y_9))), (10, (Value.int .i64 k_10)), (11, (Value.pointer (some c_11))), (12, (Value.pointer (some d_12))), (13, (Value.int .i64 j_13))] (okC ref06_Same.c75 (ref06_Same.q83 Z Q X1 X2 X3) (by kernel_rfl)) (puts_cons e0 (puts_cons e1 (puts_cons e2 (puts_cons e7 (puts_cons e8 (puts_cons e9 (puts_cons e10 (puts_cons e11 (puts_cons e12 (puts_cons e13 (fun p hp => puts_nil hp))))))))))) (ref06_Same.s81_eq Z Q X1 X2 X3 ρ a_0 a_0n a_0c b_1 b_1n b_1c places_2 i_7 x_8 y_9 k_10 c_11 d_12 j_13) he hr h
def ref06_Same.l77 (Z : List PanicEntry → PT) (Q : Bool → PT) (X1 : Option Addr → Nat → Nat → Option Addr → Nat → Nat → Bool → Int → PT) (X2 : Option Addr → Nat → Nat → Option Addr → Nat → Nat → Bool → Int → Addr → Addr → Int → PT) : Nat → Option Addr → Nat → Nat → Option Addr → Nat → Nat → Bool → Int → Addr → Addr → Int → Addr → Addr → Int → PT
  | 0, _, _, _, _, _, _, _, _, _, _, _, _, _, _ => bad
  | k + 1, a_0, a_0n, a_0c, b_1, b_1n, b_1c, places_2, i_7, x_8, y_9, k_10, c_11, d_12, j_13 => (ref06_Same.s81 Z Q X1 X2 (ref06_Same.l77 Z Q X1 X2 k) a_0 a_0n a_0c b_1 b_1n b_1c places_2 i_7 x_8 y_9 k_10 c_11 d_12 j_13)
def ref06_Same.j85 (Z : List PanicEntry → PT) (Q : Bool → PT) (X1 : Option Addr → Nat → Nat → Option Addr → Nat → Nat → Bool → Int → PT) (X2 : Option Addr → Nat → Nat → Option Addr → Nat → Nat → Bool → Int → Addr → Addr → Int → PT) (k : Nat) : Fr → PT := (fun ρ => atL (ρ 0) fun a_0 a_0n a_0c => atL (ρ 1) fun b_1 b_1n b_1c => atB (ρ 2) fun places_2 => atI .i64 (ρ 7) fun i_7 => atA (ρ 8) fun x_8 => atA (ρ 9) fun y_9 => atI .i64 (ρ 10) fun k_10 => atA (ρ 11) fun c_11 => atA (ρ 12) fun d_12 => atI .i64 (ρ 13) fun j_13 => (ref06_Same.l77 Z Q X1 X2 k a_0 a_0n a_0c b_1 b_1n b_1c places_2 i_7 x_8 y_9 k_10 c_11 d_12 j_13))
def ref06_Same.j86 (Z : List PanicEntry → PT) (Q : Bool → PT) (X1 : Option Addr → Nat → Nat → Option Addr → Nat → Nat → Bool → Int → PT) (X2 : Option Addr → Nat → Nat → Option Addr → Nat → Nat → Bool → Int → Addr → Addr → Int → PT) : Fr → PT := (fun ρ => atL (ρ 0) fun a_0 a_0n a_0c => atL (ρ 1) fun b_1 b_1n b_1c => atB (ρ 2) fun places_2 => atI .i64 (ρ 7) fun i_7 => atA (ρ 8) fun x_8 => atA (ρ 9) fun y_9 => atI .i64 (ρ 10) fun k_10 => atA (ρ 11) fun c_11 => atA (ρ 12) fun d_12 => atI .i64 (ρ 13) fun j_13 => (exK fun k => ref06_Same.l77 Z Q X1 X2 k a_0 a_0n a_0c b_1 b_1n b_1c places_2 i_7 x_8 y_9 k_10 c_11 d_12 j_13))
theorem ref06_Same.o87 (Z : List PanicEntry → PT) (Q : Bool → PT) (X1 : Option Addr → Nat → Nat → Option Addr → Nat → Nat → Bool → Int → PT) (X2 : Option Addr → Nat → Nat → Option Addr → Nat → Nat → Bool → Int → Addr → Addr → Int → PT) : Ok Try.prog Try.f9.ntmps Z ref06_Same.c73 (ref06_Same.q80 Z Q X1 X2) (ref06_Same.j86 Z Q X1 X2) := by
  rw [ref06_Same.q76]
  refine Ok.imp (ok_loop (J := ref06_Same.j85 Z Q X1 X2) ?_ ?_) ?_
  · intro ρ w h
    obtain ⟨a_0, a_0n, a_0c, e0, h⟩ := atL_e h
    obtain ⟨b_1, b_1n, b_1c, e1, h⟩ := atL_e h
    obtain ⟨places_2, e2, h⟩ := atB_e h
    obtain ⟨i_7, e7, h⟩ := atI_e h
    obtain ⟨x_8, e8, h⟩ := atA_e h
    obtain ⟨y_9, e9, h⟩ := atA_e h
    obtain ⟨k_10, e10, h⟩ := atI_e h
    obtain ⟨c_11, e11, h⟩ := atA_e h
    obtain ⟨d_12, e12, h⟩ := atA_e h
    obtain ⟨j_13, e13, h⟩ := atI_e h
    exact h
  · intro k
    refine Ok.imp (ref06_Same.s81_ok Z Q X1 X2 (ref06_Same.l77 Z Q X1 X2 k)) fun ρ w h => ?_
    obtain ⟨a_0, a_0n, a_0c, e0, h⟩ := atL_e h
    obtain ⟨b_1, b_1n, b_1c, e1, h⟩ := atL_e h
    obtain ⟨places_2, e2, h⟩ := atB_e h
    obtain ⟨i_7, e7, h⟩ := atI_e h
    obtain ⟨x_8, e8, h⟩ := atA_e h
    obtain ⟨y_9, e9, h⟩ := atA_e h
    obtain ⟨k_10, e10, h⟩ := atI_e h
    obtain ⟨c_11, e11, h⟩ := atA_e h
    obtain ⟨d_12, e12, h⟩ := atA_e h
    obtain ⟨j_13, e13, h⟩ := atI_e h
    show (ref06_Same.j84 Z Q X1 X2 (ref06_Same.l77 Z Q X1 X2 k)) ρ w
    simp only [ref06_Same.j84]
    rw [e0]
    rw [e1]
    rw [e2]
    rw [e7]
    rw [e8]
    rw [e9]
    rw [e10]
    rw [e11]
    rw [e12]
    rw [e13]
    exact h
  · intro ρ w h
    obtain ⟨a_0, a_0n, a_0c, e0, h⟩ := atL_e h
    obtain ⟨b_1, b_1n, b_1c, e1, h⟩ := atL_e h
    obtain ⟨places_2, e2, h⟩ := atB_e h
    obtain ⟨i_7, e7, h⟩ := atI_e h
    obtain ⟨x_8, e8, h⟩ := atA_e h
    obtain ⟨y_9, e9, h⟩ := atA_e h
    obtain ⟨k_10, e10, h⟩ := atI_e h
    obtain ⟨c_11, e11, h⟩ := atA_e h
    obtain ⟨d_12, e12, h⟩ := atA_e h
    obtain ⟨j_13, e13, h⟩ := atI_e h
    obtain ⟨k, h⟩ := h
    refine ⟨k, ?_⟩
    show (atL (ρ 0) fun a_0 a_0n a_0c => atL (ρ 1) fun b_1 b_1n b_1c => atB (ρ 2) fun places_2 => atI .i64 (ρ 7) fun i_7 => atA (ρ 8) fun x_8 => atA (ρ 9) fun y_9 => atI .i64 (ρ 10) fun k_10 => atA (ρ 11) fun c_11 => atA (ρ 12) fun d_12 => atI .i64 (ρ 13) fun j_13 => (ref06_Same.l77 Z Q X1 X2 k a_0 a_0n a_0c b_1 b_1n b_1c places_2 i_7 x_8 y_9 k_10 c_11 d_12 j_13)) w
    rw [e0]
    rw [e1]
    rw [e2]
    rw [e7]
    rw [e8]
    rw [e9]
    rw [e10]
    rw [e11]
    rw [e12]
    rw [e13]
    exact h
theorem ref06_Same.o88 (Z : List PanicEntry → PT) (Q : Bool → PT) (X1 : Option Addr → Nat → Nat → Option Addr → Nat → Nat → Bool → Int → PT) (X2 : Option Addr → Nat → Nat → Option Addr → Nat → Nat → Bool → Int → Addr → Addr → Int → PT) : Ok Try.prog Try.f9.ntmps Z ref06_Same.c71 (ref06_Same.q79 Z Q X1 X2) (ref06_Same.j86 Z Q X1 X2) := by
  rw [ref06_Same.q74]; exact ok_block (ref06_Same.o87 Z Q X1 X2)
def ref06_Same.s89 (Z : List PanicEntry → PT) (Q : Bool → PT) (X1 : Option Addr → Nat → Nat → Option Addr → Nat → Nat → Bool → Int → PT) (X2 : Option Addr → Nat → Nat → Option Addr → Nat → Nat → Bool → Int → Addr → Addr → Int → PT) (a_0 : Option Addr) (a_0n a_0c : Nat) (b_1 : Option Addr) (b_1n b_1c : Nat) (places_2 : Bool) (i_7 : Int) (x_8 : Addr) (y_9 : Addr) (k_10 : Int) (c_11 : Addr) (d_12 : Addr) : PT :=
  (exK fun k => ref06_Same.l77 Z Q X1 X2 k a_0 a_0n a_0c b_1 b_1n b_1c places_2 i_7 x_8 y_9 k_10 c_11 d_12 0)
theorem ref06_Same.s89_eq (Z : List PanicEntry → PT) (Q : Bool → PT) (X1 : Option Addr → Nat → Nat → Option Addr → Nat → Nat → Bool → Int → PT) (X2 : Option Addr → Nat → Nat → Option Addr → Nat → Nat → Bool → Int → Addr → Addr → Int → PT) (ρ : Fr) (a_0 : Option Addr) (a_0n a_0c : Nat) (b_1 : Option Addr) (b_1n b_1c : Nat) (places_2 : Bool) (i_7 : Int) (x_8 : Addr) (y_9 : Addr) (k_10 : Int) (c_11 : Addr) (d_12 : Addr) : (comp Try.prog Z ref06_Same.c70 (thenK (ref06_Same.j86 Z Q X1 X2) (ref06_Same.q79 Z Q X1 X2))) (puts ρ [(0, (Value.slice a_0 a_0n a_0c)), (1, (Value.slice b_1 b_1n b_1c)), (2, (Value.bool places_2)), (7, (Value.int .i64 i_7)), (8, (Value.pointer (some x_8))), (9, (Value.pointer (some y_9))), (10, (Value.int .i64 k_10)), (11, (Value.pointer (some c_11))), (12, (Value.pointer (some d_12)))]) = ref06_Same.s89 Z Q X1 X2 a_0 a_0n a_0c b_1 b_1n b_1c places_2 i_7 x_8 y_9 k_10 c_11 d_12 := by kernel_rfl
def ref06_Same.j90 (Z : List PanicEntry → PT) (Q : Bool → PT) (X1 : Option Addr → Nat → Nat → Option Addr → Nat → Nat → Bool → Int → PT) (X2 : Option Addr → Nat → Nat → Option Addr → Nat → Nat → Bool → Int → Addr → Addr → Int → PT) : Fr → PT := (fun ρ => atL (ρ 0) fun a_0 a_0n a_0c => atL (ρ 1) fun b_1 b_1n b_1c => atB (ρ 2) fun places_2 => atI .i64 (ρ 7) fun i_7 => atA (ρ 8) fun x_8 => atA (ρ 9) fun y_9 => atI .i64 (ρ 10) fun k_10 => atA (ρ 11) fun c_11 => atA (ρ 12) fun d_12 => (ref06_Same.s89 Z Q X1 X2 a_0 a_0n a_0c b_1 b_1n b_1c places_2 i_7 x_8 y_9 k_10 c_11 d_12))
theorem ref06_Same.s89_ok (Z : List PanicEntry → PT) (Q : Bool → PT) (X1 : Option Addr → Nat → Nat → Option Addr → Nat → Nat → Bool → Int → PT) (X2 : Option Addr → Nat → Nat → Option Addr → Nat → Nat → Bool → Int → Addr → Addr → Int → PT) : Ok Try.prog Try.f9.ntmps Z ref06_Same.c68 (ref06_Same.q79 Z Q X1 X2) (ref06_Same.j90 Z Q X1 X2) := by
  intro E he ρ w a hr h
  rw [ref06_Same.q72] at he ⊢
  obtain ⟨a_0, a_0n, a_0c, e0, h⟩ := atL_e h
  obtain ⟨b_1, b_1n, b_1c, e1, h⟩ := atL_e h
  obtain ⟨places_2, e2, h⟩ := atB_e h
  obtain ⟨i_7, e7, h⟩ := atI_e h
  obtain ⟨x_8, e8, h⟩ := atA_e h
  obtain ⟨y_9, e9, h⟩ := atA_e h
  obtain ⟨k_10, e10, h⟩ := atI_e h
  obtain ⟨c_11, e11, h⟩ := atA_e h
  obtain ⟨d_12, e12, h⟩ := atA_e h
  exact ok_at [(0, (Value.slice a_0 a_0n a_0c)), (1, (Value.slice b_1 b_1n b_1c)), (2, (Value.bool places_2)), (7, (Value.int .i64 i_7)), (8, (Value.pointer (some x_8))), (9, (Value.pointer (some y_9))), (10, (Value.int .i64 k_10)), (11, (Value.pointer (some c_11))), (12, (Value.pointer (some d_12)))] (ok_seq (okC ref06_Same.c70 _ (by kernel_rfl)) (ref06_Same.o88 Z Q X1 X2)) (puts_cons e0 (puts_cons e1 (puts_cons e2 (puts_cons e7 (puts_cons e8 (puts_cons e9 (puts_cons e10 (puts_cons e11 (puts_cons e12 (fun p hp => puts_nil hp)))))))))) (ref06_Same.s89_eq Z Q X1 X2 ρ a_0 a_0n a_0c b_1 b_1n b_1c places_2 i_7 x_8 y_9 k_10 c_11 d_12) he hr h
noncomputable def ref06_Same.c91 : Code := sq1 ref06_Same.c67
noncomputable def ref06_Same.c92 : Code := sq2 ref06_Same.c67
theorem ref06_Same.q93 : ref06_Same.c67 = .seq ref06_Same.c91 ref06_Same.c92 := by kernel_rfl
def ref06_Same.s94 (Z : List PanicEntry → PT) (Q : Bool → PT) (X1 : Option Addr → Nat → Nat → Option Addr → Nat → Nat → Bool → Int → PT) (X2 : Option Addr → Nat → Nat → Option Addr → Nat → Nat → Bool → Int → Addr → Addr → Int → PT) (a_0 : Option Addr) (a_0n a_0c : Nat) (b_1 : Option Addr) (b_1n b_1c : Nat) (places_2 : Bool) (i_7 : Int) (x_8 : Addr) (y_9 : Addr) (k_10 : Int) (c_11 : Addr) (d_12 : Addr) (t_136 : Bool) : PT :=
  (pif t_136 (Q false) (ref06_Same.s89 Z Q X1 X2 a_0 a_0n a_0c b_1 b_1n b_1c places_2 i_7 x_8 y_9 k_10 c_11 d_12))
def ref06_Same.q95 (Z : List PanicEntry → PT) (Q : Bool → PT) (X1 : Option Addr → Nat → Nat → Option Addr → Nat → Nat → Bool → Int → PT) (X2 : Option Addr → Nat → Nat → Option Addr → Nat → Nat → Bool → Int → Addr → Addr → Int → PT) : QF := thenK (ref06_Same.j90 Z Q X1 X2) (ref06_Same.q79 Z Q X1 X2)
theorem ref06_Same.s94_eq (Z : List PanicEntry → PT) (Q : Bool → PT) (X1 : Option Addr → Nat → Nat → Option Addr → Nat → Nat → Bool → Int → PT) (X2 : Option Addr → Nat → Nat → Option Addr → Nat → Nat → Bool → Int → Addr → Addr → Int → PT) (ρ : Fr) (a_0 : Option Addr) (a_0n a_0c : Nat) (b_1 : Option Addr) (b_1n b_1c : Nat) (places_2 : Bool) (i_7 : Int) (x_8 : Addr) (y_9 : Addr) (k_10 : Int) (c_11 : Addr) (d_12 : Addr) (t_136 : Bool) : comp Try.prog Z ref06_Same.c92 (ref06_Same.q95 Z Q X1 X2) (puts ρ [(0, (Value.slice a_0 a_0n a_0c)), (1, (Value.slice b_1 b_1n b_1c)), (2, (Value.bool places_2)), (7, (Value.int .i64 i_7)), (8, (Value.pointer (some x_8))), (9, (Value.pointer (some y_9))), (10, (Value.int .i64 k_10)), (11, (Value.pointer (some c_11))), (12, (Value.pointer (some d_12))), (136, (Value.bool t_136))]) = ref06_Same.s94 Z Q X1 X2 a_0 a_0n a_0c b_1 b_1n b_1c places_2 i_7 x_8 y_9 k_10 c_11 d_12 t_136 := by kernel_rfl
def ref06_Same.j96 (Z : List PanicEntry → PT) (Q : Bool → PT) (X1 : Option Addr → Nat → Nat → Option Addr → Nat → Nat → Bool → Int → PT) (X2 : Option Addr → Nat → Nat → Option Addr → Nat → Nat → Bool → Int → Addr → Addr → Int → PT) : Fr → PT := (fun ρ => atL (ρ 0) fun a_0 a_0n a_0c => atL (ρ 1) fun b_1 b_1n b_1c => atB (ρ 2) fun places_2 => atI .i64 (ρ 7) fun i_7 => atA (ρ 8) fun x_8 => atA (ρ 9) fun y_9 => atI .i64 (ρ 10) fun k_10 => atA (ρ 11) fun c_11 => atA (ρ 12) fun d_12 => atB (ρ 136) fun t_136 => (ref06_Same.s94 Z Q X1 X2 a_0 a_0n a_0c b_1 b_1n b_1c places_2 i_7 x_8 y_9 k_10 c_11 d_12 t_136))
theorem ref06_Same.s94_ok (Z : List PanicEntry → PT) (Q : Bool → PT) (X1 : Option Addr → Nat → Nat → Option Addr → Nat → Nat → Bool → Int → PT) (X2 : Option Addr → Nat → Nat → Option Addr → Nat → Nat → Bool → Int → Addr → Addr → Int → PT) : Ok Try.prog Try.f9.ntmps Z ref06_Same.c92 (ref06_Same.q95 Z Q X1 X2) (ref06_Same.j96 Z Q X1 X2) := by
  intro E he ρ w a hr h
  obtain ⟨a_0, a_0n, a_0c, e0, h⟩ := atL_e h
  obtain ⟨b_1, b_1n, b_1c, e1, h⟩ := atL_e h
  obtain ⟨places_2, e2, h⟩ := atB_e h
  obtain ⟨i_7, e7, h⟩ := atI_e h
  obtain ⟨x_8, e8, h⟩ := atA_e h
  obtain ⟨y_9, e9, h⟩ := atA_e h
  obtain ⟨k_10, e10, h⟩ := atI_e h
  obtain ⟨c_11, e11, h⟩ := atA_e h
  obtain ⟨d_12, e12, h⟩ := atA_e h
  obtain ⟨t_136, e136, h⟩ := atB_e h
  exact ok_at [(0, (Value.slice a_0 a_0n a_0c)), (1, (Value.slice b_1 b_1n b_1c)), (2, (Value.bool places_2)), (7, (Value.int .i64 i_7)), (8, (Value.pointer (some x_8))), (9, (Value.pointer (some y_9))), (10, (Value.int .i64 k_10)), (11, (Value.pointer (some c_11))), (12, (Value.pointer (some d_12))), (136, (Value.bool t_136))] (okC ref06_Same.c92 (ref06_Same.q95 Z Q X1 X2) (by kernel_rfl)) (puts_cons e0 (puts_cons e1 (puts_cons e2 (puts_cons e7 (puts_cons e8 (puts_cons e9 (puts_cons e10 (puts_cons e11 (puts_cons e12 (puts_cons e136 (fun p hp => puts_nil hp))))))))))) (ref06_Same.s94_eq Z Q X1 X2 ρ a_0 a_0n a_0c b_1 b_1n b_1c places_2 i_7 x_8 y_9 k_10 c_11 d_12 t_136) he hr h
def ref06_Same.s97 (Z : List PanicEntry → PT) (Q : Bool → PT) (X1 : Option Addr → Nat → Nat → Option Addr → Nat → Nat → Bool → Int → PT) (X2 : Option Addr → Nat → Nat → Option Addr → Nat → Nat → Bool → Int → Addr → Addr → Int → PT) (a_0 : Option Addr) (a_0n a_0c : Nat) (b_1 : Option Addr) (b_1n b_1c : Nat) (places_2 : Bool) (i_7 : Int) (x_8 : Addr) (y_9 : Addr) (k_10 : Int) (c_11 : Addr) (d_12 : Addr) : PT :=
  (ldS (c_11.add 0) fun v168 => (ldS (d_12.add 0) fun v169 => (pif (!(v168.toList == v169.toList)) (ref06_Same.s94 Z Q X1 X2 a_0 a_0n a_0c b_1 b_1n b_1c places_2 i_7 x_8 y_9 k_10 c_11 d_12 true) (pif places_2 (ldI .i64 (c_11.add 1) fun v170 => (ldI .i64 (d_12.add 1) fun v171 => (pif (v170 != v171) (ref06_Same.s94 Z Q X1 X2 a_0 a_0n a_0c b_1 b_1n b_1c places_2 i_7 x_8 y_9 k_10 c_11 d_12 true) (ldB (c_11.add 3) fun v172 => (ldB (d_12.add 3) fun v173 => (pif (!(v172 == v173)) (ref06_Same.s94 Z Q X1 X2 a_0 a_0n a_0c b_1 b_1n b_1c places_2 i_7 x_8 y_9 k_10 c_11 d_12 true) (ldB (c_11.add 4) fun v174 => (ldB (d_12.add 4) fun v175 => (pif (!(v174 == v175)) (ref06_Same.s94 Z Q X1 X2 a_0 a_0n a_0c b_1 b_1n b_1c places_2 i_7 x_8 y_9 k_10 c_11 d_12 true) (ldL (c_11.add 2) fun v176 v176n v176c => (ldL (d_12.add 2) fun v177 v177n v177c => (ref06_Same.s94 Z Q X1 X2 a_0 a_0n a_0c b_1 b_1n b_1c places_2 i_7 x_8 y_9 k_10 c_11 d_12 (((v176n : Nat) : Int) != ((v177n : Nat) : Int)))))))))))))) (ldB (c_11.add 3) fun v178 => (ldB (d_12.add 3) fun v179 => (pif (!(v178 == v179)) (ref06_Same.s94 Z Q X1 X2 a_0 a_0n a_0c b_1 b_1n b_1c places_2 i_7 x_8 y_9 k_10 c_11 d_12 true) (ldB (c_11.add 4) fun v180 => (ldB (d_12.add 4) fun v181 => (pif (!(v180 == v181)) (ref06_Same.s94 Z Q X1 X2 a_0 a_0n a_0c b_1 b_1n b_1c places_2 i_7 x_8 y_9 k_10 c_11 d_12 true) (ldL (c_11.add 2) fun v182 v182n v182c => (ldL (d_12.add 2) fun v183 v183n v183c => (ref06_Same.s94 Z Q X1 X2 a_0 a_0n a_0c b_1 b_1n b_1c places_2 i_7 x_8 y_9 k_10 c_11 d_12 (((v182n : Nat) : Int) != ((v183n : Nat) : Int)))))))))))))))
theorem ref06_Same.s97_eq (Z : List PanicEntry → PT) (Q : Bool → PT) (X1 : Option Addr → Nat → Nat → Option Addr → Nat → Nat → Bool → Int → PT) (X2 : Option Addr → Nat → Nat → Option Addr → Nat → Nat → Bool → Int → Addr → Addr → Int → PT) (ρ : Fr) (a_0 : Option Addr) (a_0n a_0c : Nat) (b_1 : Option Addr) (b_1n b_1c : Nat) (places_2 : Bool) (i_7 : Int) (x_8 : Addr) (y_9 : Addr) (k_10 : Int) (c_11 : Addr) (d_12 : Addr) : (comp Try.prog Z ref06_Same.c91 (thenK (ref06_Same.j96 Z Q X1 X2) (ref06_Same.q95 Z Q X1 X2))) (puts ρ [(0, (Value.slice a_0 a_0n a_0c)), (1, (Value.slice b_1 b_1n b_1c)), (2, (Value.bool places_2)), (7, (Value.int .i64 i_7)), (8, (Value.pointer (some x_8))), (9, (Value.pointer (some y_9))), (10, (Value.int .i64 k_10)), (11, (Value.pointer (some c_11))), (12, (Value.pointer (some d_12)))]) = ref06_Same.s97 Z Q X1 X2 a_0 a_0n a_0c b_1 b_1n b_1c places_2 i_7 x_8 y_9 k_10 c_11 d_12 := by kernel_rfl
def ref06_Same.j98 (Z : List PanicEntry → PT) (Q : Bool → PT) (X1 : Option Addr → Nat → Nat → Option Addr → Nat → Nat → Bool → Int → PT) (X2 : Option Addr → Nat → Nat → Option Addr → Nat → Nat → Bool → Int → Addr → Addr → Int → PT) : Fr → PT := (fun ρ => atL (ρ 0) fun a_0 a_0n a_0c => atL (ρ 1) fun b_1 b_1n b_1c => atB (ρ 2) fun places_2 => atI .i64 (ρ 7) fun i_7 => atA (ρ 8) fun x_8 => atA (ρ 9) fun y_9 => atI .i64 (ρ 10) fun k_10 => atA (ρ 11) fun c_11 => atA (ρ 12) fun d_12 => (ref06_Same.s97 Z Q X1 X2 a_0 a_0n a_0c b_1 b_1n b_1c places_2 i_7 x_8 y_9 k_10 c_11 d_12))
theorem ref06_Same.s97_ok (Z : List PanicEntry → PT) (Q : Bool → PT) (X1 : Option Addr → Nat → Nat → Option Addr → Nat → Nat → Bool → Int → PT) (X2 : Option Addr → Nat → Nat → Option Addr → Nat → Nat → Bool → Int → Addr → Addr → Int → PT) : Ok Try.prog Try.f9.ntmps Z ref06_Same.c67 (ref06_Same.q95 Z Q X1 X2) (ref06_Same.j98 Z Q X1 X2) := by
  intro E he ρ w a hr h
  rw [ref06_Same.q93] at he ⊢
  obtain ⟨a_0, a_0n, a_0c, e0, h⟩ := atL_e h
  obtain ⟨b_1, b_1n, b_1c, e1, h⟩ := atL_e h
  obtain ⟨places_2, e2, h⟩ := atB_e h
  obtain ⟨i_7, e7, h⟩ := atI_e h
  obtain ⟨x_8, e8, h⟩ := atA_e h
  obtain ⟨y_9, e9, h⟩ := atA_e h
  obtain ⟨k_10, e10, h⟩ := atI_e h
  obtain ⟨c_11, e11, h⟩ := atA_e h
  obtain ⟨d_12, e12, h⟩ := atA_e h
  exact ok_at [(0, (Value.slice a_0 a_0n a_0c)), (1, (Value.slice b_1 b_1n b_1c)), (2, (Value.bool places_2)), (7, (Value.int .i64 i_7)), (8, (Value.pointer (some x_8))), (9, (Value.pointer (some y_9))), (10, (Value.int .i64 k_10)), (11, (Value.pointer (some c_11))), (12, (Value.pointer (some d_12)))] (ok_seq (okC ref06_Same.c91 _ (by kernel_rfl)) (ref06_Same.s94_ok Z Q X1 X2)) (puts_cons e0 (puts_cons e1 (puts_cons e2 (puts_cons e7 (puts_cons e8 (puts_cons e9 (puts_cons e10 (puts_cons e11 (puts_cons e12 (fun p hp => puts_nil hp)))))))))) (ref06_Same.s97_eq Z Q X1 X2 ρ a_0 a_0n a_0c b_1 b_1n b_1c places_2 i_7 x_8 y_9 k_10 c_11 d_12) he hr h
theorem ref06_Same.o99 (Z : List PanicEntry → PT) (Q : Bool → PT) (X1 : Option Addr → Nat → Nat → Option Addr → Nat → Nat → Bool → Int → PT) (X2 : Option Addr → Nat → Nat → Option Addr → Nat → Nat → Bool → Int → Addr → Addr → Int → PT) : Ok Try.prog Try.f9.ntmps Z ref06_Same.c65 (ref06_Same.q79 Z Q X1 X2) (ref06_Same.j98 Z Q X1 X2) := by
  rw [ref06_Same.q69]; exact ok_seq (ref06_Same.s97_ok Z Q X1 X2) (ref06_Same.s89_ok Z Q X1 X2)
def ref06_Same.s100 (Z : List PanicEntry → PT) (Q : Bool → PT) (X1 : Option Addr → Nat → Nat → Option Addr → Nat → Nat → Bool → Int → PT) (X2 : Option Addr → Nat → Nat → Option Addr → Nat → Nat → Bool → Int → Addr → Addr → Int → PT) (a_0 : Option Addr) (a_0n a_0c : Nat) (b_1 : Option Addr) (b_1n b_1c : Nat) (places_2 : Bool) (i_7 : Int) (x_8 : Addr) (y_9 : Addr) (k_10 : Int) : PT :=
  (ldL (x_8.add 4) fun v184 v184n v184c => (ixS v184 v184n k_10 5 fun v185 => (ldN 5 v185 fun v186 => (newC 42 [(Value.string ⟨#[]⟩), (Value.int .i64 0), (Value.slice none 0 0), (Value.bool false), (Value.bool false)] fun c187 => (stN 5 c187 v186 (ldL (y_9.add 4) fun v188 v188n v188c => (ixS v188 v188n k_10 5 fun v189 => (ldN 5 v189 fun v190 => (newC 42 [(Value.string ⟨#[]⟩), (Value.int .i64 0), (Value.slice none 0 0), (Value.bool false), (Value.bool false)] fun d191 => (stN 5 d191 v190 (ref06_Same.s97 Z Q X1 X2 a_0 a_0n a_0c b_1 b_1n b_1c places_2 i_7 x_8 y_9 k_10 c187 d191)))))))))))
theorem ref06_Same.s100_eq (Z : List PanicEntry → PT) (Q : Bool → PT) (X1 : Option Addr → Nat → Nat → Option Addr → Nat → Nat → Bool → Int → PT) (X2 : Option Addr → Nat → Nat → Option Addr → Nat → Nat → Bool → Int → Addr → Addr → Int → PT) (ρ : Fr) (a_0 : Option Addr) (a_0n a_0c : Nat) (b_1 : Option Addr) (b_1n b_1c : Nat) (places_2 : Bool) (i_7 : Int) (x_8 : Addr) (y_9 : Addr) (k_10 : Int) : (comp Try.prog Z ref06_Same.c63 (thenK (comp Try.prog Z ref06_Same.c64 (thenK (ref06_Same.j98 Z Q X1 X2) (ref06_Same.q79 Z Q X1 X2))) (ref06_Same.q79 Z Q X1 X2))) (puts ρ [(0, (Value.slice a_0 a_0n a_0c)), (1, (Value.slice b_1 b_1n b_1c)), (2, (Value.bool places_2)), (7, (Value.int .i64 i_7)), (8, (Value.pointer (some x_8))), (9, (Value.pointer (some y_9))), (10, (Value.int .i64 k_10))]) = ref06_Same.s100 Z Q X1 X2 a_0 a_0n a_0c b_1 b_1n b_1c places_2 i_7 x_8 y_9 k_10 := by kernel_rfl
def ref06_Same.j101 (Z : List PanicEntry → PT) (Q : Bool → PT) (X1 : Option Addr → Nat → Nat → Option Addr → Nat → Nat → Bool → Int → PT) (X2 : Option Addr → Nat → Nat → Option Addr → Nat → Nat → Bool → Int → Addr → Addr → Int → PT) : Fr → PT := (fun ρ => atL (ρ 0) fun a_0 a_0n a_0c => atL (ρ 1) fun b_1 b_1n b_1c => atB (ρ 2) fun places_2 => atI .i64 (ρ 7) fun i_7 => atA (ρ 8) fun x_8 => atA (ρ 9) fun y_9 => atI .i64 (ρ 10) fun k_10 => (ref06_Same.s100 Z Q X1 X2 a_0 a_0n a_0c b_1 b_1n b_1c places_2 i_7 x_8 y_9 k_10))
theorem ref06_Same.s100_ok (Z : List PanicEntry → PT) (Q : Bool → PT) (X1 : Option Addr → Nat → Nat → Option Addr → Nat → Nat → Bool → Int → PT) (X2 : Option Addr → Nat → Nat → Option Addr → Nat → Nat → Bool → Int → Addr → Addr → Int → PT) : Ok Try.prog Try.f9.ntmps Z ref06_Same.c61 (ref06_Same.q79 Z Q X1 X2) (ref06_Same.j101 Z Q X1 X2) := by
  intro E he ρ w a hr h
  rw [ref06_Same.q66] at he ⊢
  obtain ⟨a_0, a_0n, a_0c, e0, h⟩ := atL_e h
  obtain ⟨b_1, b_1n, b_1c, e1, h⟩ := atL_e h
  obtain ⟨places_2, e2, h⟩ := atB_e h
  obtain ⟨i_7, e7, h⟩ := atI_e h
  obtain ⟨x_8, e8, h⟩ := atA_e h
  obtain ⟨y_9, e9, h⟩ := atA_e h
  obtain ⟨k_10, e10, h⟩ := atI_e h
  exact ok_at [(0, (Value.slice a_0 a_0n a_0c)), (1, (Value.slice b_1 b_1n b_1c)), (2, (Value.bool places_2)), (7, (Value.int .i64 i_7)), (8, (Value.pointer (some x_8))), (9, (Value.pointer (some y_9))), (10, (Value.int .i64 k_10))] (ok_seq (okC ref06_Same.c63 _ (by kernel_rfl)) (ok_seq (okC ref06_Same.c64 _ (by kernel_rfl)) (ref06_Same.o99 Z Q X1 X2))) (puts_cons e0 (puts_cons e1 (puts_cons e2 (puts_cons e7 (puts_cons e8 (puts_cons e9 (puts_cons e10 (fun p hp => puts_nil hp)))))))) (ref06_Same.s100_eq Z Q X1 X2 ρ a_0 a_0n a_0c b_1 b_1n b_1c places_2 i_7 x_8 y_9 k_10) he hr h
theorem ref06_Same.o102 (Z : List PanicEntry → PT) (Q : Bool → PT) (X1 : Option Addr → Nat → Nat → Option Addr → Nat → Nat → Bool → Int → PT) (X2 : Option Addr → Nat → Nat → Option Addr → Nat → Nat → Bool → Int → Addr → Addr → Int → PT) : Ok Try.prog Try.f9.ntmps Z ref06_Same.c54 (ref06_Same.q78 Z Q X1 X2) (ref06_Same.j101 Z Q X1 X2) := by
  rw [ref06_Same.q62]; exact ok_block (ref06_Same.s100_ok Z Q X1 X2)
theorem ref06_Same.o103 (Z : List PanicEntry → PT) (Q : Bool → PT) (X1 : Option Addr → Nat → Nat → Option Addr → Nat → Nat → Bool → Int → PT) (X2 : Option Addr → Nat → Nat → Option Addr → Nat → Nat → Bool → Int → Addr → Addr → Int → PT) : Ok Try.prog Try.f9.ntmps Z ref06_Same.c52 (ref06_Same.q59 Z Q X1 X2) (ref06_Same.j101 Z Q X1 X2) := by
  rw [ref06_Same.q56]; exact ok_seq (ref06_Same.o102 Z Q X1 X2) (ref06_Same.s57_ok Z Q X1 X2)
def ref06_Same.s104 (Z : List PanicEntry → PT) (Q : Bool → PT) (X1 : Option Addr → Nat → Nat → Option Addr → Nat → Nat → Bool → Int → PT) (X2 : Option Addr → Nat → Nat → Option Addr → Nat → Nat → Bool → Int → Addr → Addr → Int → PT) (a_0 : Option Addr) (a_0n a_0c : Nat) (b_1 : Option Addr) (b_1n b_1c : Nat) (places_2 : Bool) (i_7 : Int) (x_8 : Addr) (y_9 : Addr) (k_10 : Int) : PT :=
  (ldL (x_8.add 4) fun v192 v192n v192c => (pif (decide (k_10 < ((v192n : Nat) : Int))) (ref06_Same.s100 Z Q X1 X2 a_0 a_0n a_0c b_1 b_1n b_1c places_2 i_7 x_8 y_9 k_10) (ref06_Same.s27 Z Q X1 a_0 a_0n a_0c b_1 b_1n b_1c places_2 i_7)))
theorem ref06_Same.s104_eq (Z : List PanicEntry → PT) (Q : Bool → PT) (X1 : Option Addr → Nat → Nat → Option Addr → Nat → Nat → Bool → Int → PT) (X2 : Option Addr → Nat → Nat → Option Addr → Nat → Nat → Bool → Int → Addr → Addr → Int → PT) (ρ : Fr) (a_0 : Option Addr) (a_0n a_0c : Nat) (b_1 : Option Addr) (b_1n b_1c : Nat) (places_2 : Bool) (i_7 : Int) (x_8 : Addr) (y_9 : Addr) (k_10 : Int) : (comp Try.prog Z ref06_Same.c51 (thenK (ref06_Same.j101 Z Q X1 X2) (ref06_Same.q59 Z Q X1 X2))) (puts ρ [(0, (Value.slice a_0 a_0n a_0c)), (1, (Value.slice b_1 b_1n b_1c)), (2, (Value.bool places_2)), (7, (Value.int .i64 i_7)), (8, (Value.pointer (some x_8))), (9, (Value.pointer (some y_9))), (10, (Value.int .i64 k_10))]) = ref06_Same.s104 Z Q X1 X2 a_0 a_0n a_0c b_1 b_1n b_1c places_2 i_7 x_8 y_9 k_10 := by kernel_rfl
def ref06_Same.j105 (Z : List PanicEntry → PT) (Q : Bool → PT) (X1 : Option Addr → Nat → Nat → Option Addr → Nat → Nat → Bool → Int → PT) (X2 : Option Addr → Nat → Nat → Option Addr → Nat → Nat → Bool → Int → Addr → Addr → Int → PT) : Fr → PT := (fun ρ => atL (ρ 0) fun a_0 a_0n a_0c => atL (ρ 1) fun b_1 b_1n b_1c => atB (ρ 2) fun places_2 => atI .i64 (ρ 7) fun i_7 => atA (ρ 8) fun x_8 => atA (ρ 9) fun y_9 => atI .i64 (ρ 10) fun k_10 => (ref06_Same.s104 Z Q X1 X2 a_0 a_0n a_0c b_1 b_1n b_1c places_2 i_7 x_8 y_9 k_10))
theorem ref06_Same.s104_ok (Z : List PanicEntry → PT) (Q : Bool → PT) (X1 : Option Addr → Nat → Nat → Option Addr → Nat → Nat → Bool → Int → PT) (X2 : Option Addr → Nat → Nat → Option Addr → Nat → Nat → Bool → Int → Addr → Addr → Int → PT) : Ok Try.prog Try.f9.ntmps Z ref06_Same.c45 (ref06_Same.q59 Z Q X1 X2) (ref06_Same.j105 Z Q X1 X2) := by
  intro E he ρ w a hr h
  rw [ref06_Same.q53] at he ⊢
  obtain ⟨a_0, a_0n, a_0c, e0, h⟩ := atL_e h
  obtain ⟨b_1, b_1n, b_1c, e1, h⟩ := atL_e h
  obtain ⟨places_2, e2, h⟩ := atB_e h
  obtain ⟨i_7, e7, h⟩ := atI_e h
  obtain ⟨x_8, e8, h⟩ := atA_e h
  obtain ⟨y_9, e9, h⟩ := atA_e h
  obtain ⟨k_10, e10, h⟩ := atI_e h
  exact ok_at [(0, (Value.slice a_0 a_0n a_0c)), (1, (Value.slice b_1 b_1n b_1c)), (2, (Value.bool places_2)), (7, (Value.int .i64 i_7)), (8, (Value.pointer (some x_8))), (9, (Value.pointer (some y_9))), (10, (Value.int .i64 k_10))] (ok_seq (okC ref06_Same.c51 _ (by kernel_rfl)) (ref06_Same.o103 Z Q X1 X2)) (puts_cons e0 (puts_cons e1 (puts_cons e2 (puts_cons e7 (puts_cons e8 (puts_cons e9 (puts_cons e10 (fun p hp => puts_nil hp)))))))) (ref06_Same.s104_eq Z Q X1 X2 ρ a_0 a_0n a_0c b_1 b_1n b_1c places_2 i_7 x_8 y_9 k_10) he hr h
def ref06_Same.l47 (Z : List PanicEntry → PT) (Q : Bool → PT) (X1 : Option Addr → Nat → Nat → Option Addr → Nat → Nat → Bool → Int → PT) : Nat → Option Addr → Nat → Nat → Option Addr → Nat → Nat → Bool → Int → Addr → Addr → Int → PT
  | 0, _, _, _, _, _, _, _, _, _, _, _ => bad
  | k + 1, a_0, a_0n, a_0c, b_1, b_1n, b_1c, places_2, i_7, x_8, y_9, k_10 => (ref06_Same.s104 Z Q X1 (ref06_Same.l47 Z Q X1 k) a_0 a_0n a_0c b_1 b_1n b_1c places_2 i_7 x_8 y_9 k_10)
def ref06_Same.j106 (Z : List PanicEntry → PT) (Q : Bool → PT) (X1 : Option Addr → Nat → Nat → Option Addr → Nat → Nat → Bool → Int → PT) (k : Nat) : Fr → PT := (fun ρ => atL (ρ 0) fun a_0 a_0n a_0c => atL (ρ 1) fun b_1 b_1n b_1c => atB (ρ 2) fun places_2 => atI .i64 (ρ 7) fun i_7 => atA (ρ 8) fun x_8 => atA (ρ 9) fun y_9 => atI .i64 (ρ 10) fun k_10 => (ref06_Same.l47 Z Q X1 k a_0 a_0n a_0c b_1 b_1n b_1c places_2 i_7 x_8 y_9 k_10))
def ref06_Same.j107 (Z : List PanicEntry → PT) (Q : Bool → PT) (X1 : Option Addr → Nat → Nat → Option Addr → Nat → Nat → Bool → Int → PT) : Fr → PT := (fun ρ => atL (ρ 0) fun a_0 a_0n a_0c => atL (ρ 1) fun b_1 b_1n b_1c => atB (ρ 2) fun places_2 => atI .i64 (ρ 7) fun i_7 => atA (ρ 8) fun x_8 => atA (ρ 9) fun y_9 => atI .i64 (ρ 10) fun k_10 => (exK fun k => ref06_Same.l47 Z Q X1 k a_0 a_0n a_0c b_1 b_1n b_1c places_2 i_7 x_8 y_9 k_10))
theorem ref06_Same.o108 (Z : List PanicEntry → PT) (Q : Bool → PT) (X1 : Option Addr → Nat → Nat → Option Addr → Nat → Nat → Bool → Int → PT) : Ok Try.prog Try.f9.ntmps Z ref06_Same.c43 (ref06_Same.q50 Z Q X1) (ref06_Same.j107 Z Q X1) := by
  rw [ref06_Same.q46]
  refine Ok.imp (ok_loop (J := ref06_Same.j106 Z Q X1) ?_ ?_) ?_
  · intro ρ w h
    obtain ⟨a_0, a_0n, a_0c, e0, h⟩ := atL_e h
    obtain ⟨b_1, b_1n, b_1c, e1, h⟩ := atL_e h
    obtain ⟨places_2, e2, h⟩ := atB_e h
    obtain ⟨i_7, e7, h⟩ := atI_e h
    obtain ⟨x_8, e8, h⟩ := atA_e h
    obtain ⟨y_9, e9, h⟩ := atA_e h
    obtain ⟨k_10, e10, h⟩ := atI_e h
    exact h
  · intro k
    refine Ok.imp (ref06_Same.s104_ok Z Q X1 (ref06_Same.l47 Z Q X1 k)) fun ρ w h => ?_
    obtain ⟨a_0, a_0n, a_0c, e0, h⟩ := atL_e h
    obtain ⟨b_1, b_1n, b_1c, e1, h⟩ := atL_e h
    obtain ⟨places_2, e2, h⟩ := atB_e h
    obtain ⟨i_7, e7, h⟩ := atI_e h
    obtain ⟨x_8, e8, h⟩ := atA_e h
    obtain ⟨y_9, e9, h⟩ := atA_e h
    obtain ⟨k_10, e10, h⟩ := atI_e h
    show (ref06_Same.j105 Z Q X1 (ref06_Same.l47 Z Q X1 k)) ρ w
    simp only [ref06_Same.j105]
    rw [e0]
    rw [e1]
    rw [e2]
    rw [e7]
    rw [e8]
    rw [e9]
    rw [e10]
    exact h
  · intro ρ w h
    obtain ⟨a_0, a_0n, a_0c, e0, h⟩ := atL_e h
    obtain ⟨b_1, b_1n, b_1c, e1, h⟩ := atL_e h
    obtain ⟨places_2, e2, h⟩ := atB_e h
    obtain ⟨i_7, e7, h⟩ := atI_e h
    obtain ⟨x_8, e8, h⟩ := atA_e h
    obtain ⟨y_9, e9, h⟩ := atA_e h
    obtain ⟨k_10, e10, h⟩ := atI_e h
    obtain ⟨k, h⟩ := h
    refine ⟨k, ?_⟩
    show (atL (ρ 0) fun a_0 a_0n a_0c => atL (ρ 1) fun b_1 b_1n b_1c => atB (ρ 2) fun places_2 => atI .i64 (ρ 7) fun i_7 => atA (ρ 8) fun x_8 => atA (ρ 9) fun y_9 => atI .i64 (ρ 10) fun k_10 => (ref06_Same.l47 Z Q X1 k a_0 a_0n a_0c b_1 b_1n b_1c places_2 i_7 x_8 y_9 k_10)) w
    rw [e0]
    rw [e1]
    rw [e2]
    rw [e7]
    rw [e8]
    rw [e9]
    rw [e10]
    exact h
theorem ref06_Same.o109 (Z : List PanicEntry → PT) (Q : Bool → PT) (X1 : Option Addr → Nat → Nat → Option Addr → Nat → Nat → Bool → Int → PT) : Ok Try.prog Try.f9.ntmps Z ref06_Same.c41 (ref06_Same.q49 Z Q X1) (ref06_Same.j107 Z Q X1) := by
  rw [ref06_Same.q44]; exact ok_block (ref06_Same.o108 Z Q X1)
def ref06_Same.s110 (Z : List PanicEntry → PT) (Q : Bool → PT) (X1 : Option Addr → Nat → Nat → Option Addr → Nat → Nat → Bool → Int → PT) (a_0 : Option Addr) (a_0n a_0c : Nat) (b_1 : Option Addr) (b_1n b_1c : Nat) (places_2 : Bool) (i_7 : Int) (x_8 : Addr) (y_9 : Addr) : PT :=
  (exK fun k => ref06_Same.l47 Z Q X1 k a_0 a_0n a_0c b_1 b_1n b_1c places_2 i_7 x_8 y_9 0)
theorem ref06_Same.s110_eq (Z : List PanicEntry → PT) (Q : Bool → PT) (X1 : Option Addr → Nat → Nat → Option Addr → Nat → Nat → Bool → Int → PT) (ρ : Fr) (a_0 : Option Addr) (a_0n a_0c : Nat) (b_1 : Option Addr) (b_1n b_1c : Nat) (places_2 : Bool) (i_7 : Int) (x_8 : Addr) (y_9 : Addr) : (comp Try.prog Z ref06_Same.c40 (thenK (ref06_Same.j107 Z Q X1) (ref06_Same.q49 Z Q X1))) (puts ρ [(0, (Value.slice a_0 a_0n a_0c)), (1, (Value.slice b_1 b_1n b_1c)), (2, (Value.bool places_2)), (7, (Value.int .i64 i_7)), (8, (Value.pointer (some x_8))), (9, (Value.pointer (some y_9)))]) = ref06_Same.s110 Z Q X1 a_0 a_0n a_0c b_1 b_1n b_1c places_2 i_7 x_8 y_9 := by kernel_rfl
def ref06_Same.j111 (Z : List PanicEntry → PT) (Q : Bool → PT) (X1 : Option Addr → Nat → Nat → Option Addr → Nat → Nat → Bool → Int → PT) : Fr → PT := (fun ρ => atL (ρ 0) fun a_0 a_0n a_0c => atL (ρ 1) fun b_1 b_1n b_1c => atB (ρ 2) fun places_2 => atI .i64 (ρ 7) fun i_7 => atA (ρ 8) fun x_8 => atA (ρ 9) fun y_9 => (ref06_Same.s110 Z Q X1 a_0 a_0n a_0c b_1 b_1n b_1c places_2 i_7 x_8 y_9))
theorem ref06_Same.s110_ok (Z : List PanicEntry → PT) (Q : Bool → PT) (X1 : Option Addr → Nat → Nat → Option Addr → Nat → Nat → Bool → Int → PT) : Ok Try.prog Try.f9.ntmps Z ref06_Same.c38 (ref06_Same.q49 Z Q X1) (ref06_Same.j111 Z Q X1) := by
  intro E he ρ w a hr h
  rw [ref06_Same.q42] at he ⊢
  obtain ⟨a_0, a_0n, a_0c, e0, h⟩ := atL_e h
  obtain ⟨b_1, b_1n, b_1c, e1, h⟩ := atL_e h
  obtain ⟨places_2, e2, h⟩ := atB_e h
  obtain ⟨i_7, e7, h⟩ := atI_e h
  obtain ⟨x_8, e8, h⟩ := atA_e h
  obtain ⟨y_9, e9, h⟩ := atA_e h
  exact ok_at [(0, (Value.slice a_0 a_0n a_0c)), (1, (Value.slice b_1 b_1n b_1c)), (2, (Value.bool places_2)), (7, (Value.int .i64 i_7)), (8, (Value.pointer (some x_8))), (9, (Value.pointer (some y_9)))] (ok_seq (okC ref06_Same.c40 _ (by kernel_rfl)) (ref06_Same.o109 Z Q X1)) (puts_cons e0 (puts_cons e1 (puts_cons e2 (puts_cons e7 (puts_cons e8 (puts_cons e9 (fun p hp => puts_nil hp))))))) (ref06_Same.s110_eq Z Q X1 ρ a_0 a_0n a_0c b_1 b_1n b_1c places_2 i_7 x_8 y_9) he hr h
noncomputable def ref06_Same.c112 : Code := sq1 ref06_Same.c37
noncomputable def ref06_Same.c113 : Code := sq2 ref06_Same.c37
theorem ref06_Same.q114 : ref06_Same.c37 = .seq ref06_Same.c112 ref06_Same.c113 := by kernel_rfl
def ref06_Same.s115 (Z : List PanicEntry → PT) (Q : Bool → PT) (X1 : Option Addr → Nat → Nat → Option Addr → Nat → Nat → Bool → Int → PT) (a_0 : Option Addr) (a_0n a_0c : Nat) (b_1 : Option Addr) (b_1n b_1c : Nat) (places_2 : Bool) (i_7 : Int) (x_8 : Addr) (y_9 : Addr) (t_81 : Bool) : PT :=
  (pif t_81 (Q false) (ref06_Same.s110 Z Q X1 a_0 a_0n a_0c b_1 b_1n b_1c places_2 i_7 x_8 y_9))
def ref06_Same.q116 (Z : List PanicEntry → PT) (Q : Bool → PT) (X1 : Option Addr → Nat → Nat → Option Addr → Nat → Nat → Bool → Int → PT) : QF := thenK (ref06_Same.j111 Z Q X1) (ref06_Same.q49 Z Q X1)
theorem ref06_Same.s115_eq (Z : List PanicEntry → PT) (Q : Bool → PT) (X1 : Option Addr → Nat → Nat → Option Addr → Nat → Nat → Bool → Int → PT) (ρ : Fr) (a_0 : Option Addr) (a_0n a_0c : Nat) (b_1 : Option Addr) (b_1n b_1c : Nat) (places_2 : Bool) (i_7 : Int) (x_8 : Addr) (y_9 : Addr) (t_81 : Bool) : comp Try.prog Z ref06_Same.c113 (ref06_Same.q116 Z Q X1) (puts ρ [(0, (Value.slice a_0 a_0n a_0c)), (1, (Value.slice b_1 b_1n b_1c)), (2, (Value.bool places_2)), (7, (Value.int .i64 i_7)), (8, (Value.pointer (some x_8))), (9, (Value.pointer (some y_9))), (81, (Value.bool t_81))]) = ref06_Same.s115 Z Q X1 a_0 a_0n a_0c b_1 b_1n b_1c places_2 i_7 x_8 y_9 t_81 := by kernel_rfl
def ref06_Same.j117 (Z : List PanicEntry → PT) (Q : Bool → PT) (X1 : Option Addr → Nat → Nat → Option Addr → Nat → Nat → Bool → Int → PT) : Fr → PT := (fun ρ => atL (ρ 0) fun a_0 a_0n a_0c => atL (ρ 1) fun b_1 b_1n b_1c => atB (ρ 2) fun places_2 => atI .i64 (ρ 7) fun i_7 => atA (ρ 8) fun x_8 => atA (ρ 9) fun y_9 => atB (ρ 81) fun t_81 => (ref06_Same.s115 Z Q X1 a_0 a_0n a_0c b_1 b_1n b_1c places_2 i_7 x_8 y_9 t_81))
theorem ref06_Same.s115_ok (Z : List PanicEntry → PT) (Q : Bool → PT) (X1 : Option Addr → Nat → Nat → Option Addr → Nat → Nat → Bool → Int → PT) : Ok Try.prog Try.f9.ntmps Z ref06_Same.c113 (ref06_Same.q116 Z Q X1) (ref06_Same.j117 Z Q X1) := by
  intro E he ρ w a hr h
  obtain ⟨a_0, a_0n, a_0c, e0, h⟩ := atL_e h
  obtain ⟨b_1, b_1n, b_1c, e1, h⟩ := atL_e h
  obtain ⟨places_2, e2, h⟩ := atB_e h
  obtain ⟨i_7, e7, h⟩ := atI_e h
  obtain ⟨x_8, e8, h⟩ := atA_e h
  obtain ⟨y_9, e9, h⟩ := atA_e h
  obtain ⟨t_81, e81, h⟩ := atB_e h
  exact ok_at [(0, (Value.slice a_0 a_0n a_0c)), (1, (Value.slice b_1 b_1n b_1c)), (2, (Value.bool places_2)), (7, (Value.int .i64 i_7)), (8, (Value.pointer (some x_8))), (9, (Value.pointer (some y_9))), (81, (Value.bool t_81))] (okC ref06_Same.c113 (ref06_Same.q116 Z Q X1) (by kernel_rfl)) (puts_cons e0 (puts_cons e1 (puts_cons e2 (puts_cons e7 (puts_cons e8 (puts_cons e9 (puts_cons e81 (fun p hp => puts_nil hp)))))))) (ref06_Same.s115_eq Z Q X1 ρ a_0 a_0n a_0c b_1 b_1n b_1c places_2 i_7 x_8 y_9 t_81) he hr h
def ref06_Same.s118 (Z : List PanicEntry → PT) (Q : Bool → PT) (X1 : Option Addr → Nat → Nat → Option Addr → Nat → Nat → Bool → Int → PT) (a_0 : Option Addr) (a_0n a_0c : Nat) (b_1 : Option Addr) (b_1n b_1c : Nat) (places_2 : Bool) (i_7 : Int) (x_8 : Addr) (y_9 : Addr) : PT :=
  (pif places_2 (ldI .i64 (x_8.add 0) fun v245 => (ldI .i64 (y_9.add 0) fun v246 => (pif (v245 != v246) (ref06_Same.s115 Z Q X1 a_0 a_0n a_0c b_1 b_1n b_1c places_2 i_7 x_8 y_9 true) (ldB (x_8.add 1) fun v247 => (ldB (y_9.add 1) fun v248 => (pif (!(v247 == v248)) (ref06_Same.s115 Z Q X1 a_0 a_0n a_0c b_1 b_1n b_1c places_2 i_7 x_8 y_9 true) (ldN 2 (x_8.add 2) fun v249 => (ldN 2 (y_9.add 2) fun v250 => (cal Try.prog Z 17 [(Value.agg ⟨v249⟩), (Value.agg ⟨v250⟩), (Value.bool places_2)] (isB fun v251 => (pif (!v251) (ref06_Same.s115 Z Q X1 a_0 a_0n a_0c b_1 b_1n b_1c places_2 i_7 x_8 y_9 true) (ldB (x_8.add 5) fun v252 => (ldB (y_9.add 5) fun v253 => (pif (!(v252 == v253)) (ref06_Same.s115 Z Q X1 a_0 a_0n a_0c b_1 b_1n b_1c places_2 i_7 x_8 y_9 true) (ldN 2 (x_8.add 6) fun v254 => (ldN 2 (y_9.add 6) fun v255 => (cal Try.prog Z 17 [(Value.agg ⟨v254⟩), (Value.agg ⟨v255⟩), (Value.bool places_2)] (isB fun v256 => (pif (!v256) (ref06_Same.s115 Z Q X1 a_0 a_0n a_0c b_1 b_1n b_1c places_2 i_7 x_8 y_9 true) (ldL (x_8.add 4) fun v257 v257n v257c => (ldL (y_9.add 4) fun v258 v258n v258c => (ref06_Same.s115 Z Q X1 a_0 a_0n a_0c b_1 b_1n b_1c places_2 i_7 x_8 y_9 (((v257n : Nat) : Int) != ((v258n : Nat) : Int)))))))))))))))))))))))) (ldB (x_8.add 1) fun v259 => (ldB (y_9.add 1) fun v260 => (pif (!(v259 == v260)) (ref06_Same.s115 Z Q X1 a_0 a_0n a_0c b_1 b_1n b_1c places_2 i_7 x_8 y_9 true) (ldN 2 (x_8.add 2) fun v261 => (ldN 2 (y_9.add 2) fun v262 => (cal Try.prog Z 17 [(Value.agg ⟨v261⟩), (Value.agg ⟨v262⟩), (Value.bool places_2)] (isB fun v263 => (pif (!v263) (ref06_Same.s115 Z Q X1 a_0 a_0n a_0c b_1 b_1n b_1c places_2 i_7 x_8 y_9 true) (ldB (x_8.add 5) fun v264 => (ldB (y_9.add 5) fun v265 => (pif (!(v264 == v265)) (ref06_Same.s115 Z Q X1 a_0 a_0n a_0c b_1 b_1n b_1c places_2 i_7 x_8 y_9 true) (ldN 2 (x_8.add 6) fun v266 => (ldN 2 (y_9.add 6) fun v267 => (cal Try.prog Z 17 [(Value.agg ⟨v266⟩), (Value.agg ⟨v267⟩), (Value.bool places_2)] (isB fun v268 => (pif (!v268) (ref06_Same.s115 Z Q X1 a_0 a_0n a_0c b_1 b_1n b_1c places_2 i_7 x_8 y_9 true) (ldL (x_8.add 4) fun v269 v269n v269c => (ldL (y_9.add 4) fun v270 v270n v270c => (ref06_Same.s115 Z Q X1 a_0 a_0n a_0c b_1 b_1n b_1c places_2 i_7 x_8 y_9 (((v269n : Nat) : Int) != ((v270n : Nat) : Int))))))))))))))))))))))
theorem ref06_Same.s118_eq (Z : List PanicEntry → PT) (Q : Bool → PT) (X1 : Option Addr → Nat → Nat → Option Addr → Nat → Nat → Bool → Int → PT) (ρ : Fr) (a_0 : Option Addr) (a_0n a_0c : Nat) (b_1 : Option Addr) (b_1n b_1c : Nat) (places_2 : Bool) (i_7 : Int) (x_8 : Addr) (y_9 : Addr) : (comp Try.prog Z ref06_Same.c112 (thenK (ref06_Same.j117 Z Q X1) (ref06_Same.q116 Z Q X1))) (puts ρ [(0, (Value.slice a_0 a_0n a_0c)), (1, (Value.slice b_1 b_1n b_1c)), (2, (Value.bool places_2)), (7, (Value.int .i64 i_7)), (8, (Value.pointer (some x_8))), (9, (Value.pointer (some y_9)))]) = ref06_Same.s118 Z Q X1 a_0 a_0n a_0c b_1 b_1n b_1c places_2 i_7 x_8 y_9 := by kernel_rfl
def ref06_Same.j119 (Z : List PanicEntry → PT) (Q : Bool → PT) (X1 : Option Addr → Nat → Nat → Option Addr → Nat → Nat → Bool → Int → PT) : Fr → PT := (fun ρ => atL (ρ 0) fun a_0 a_0n a_0c => atL (ρ 1) fun b_1 b_1n b_1c => atB (ρ 2) fun places_2 => atI .i64 (ρ 7) fun i_7 => atA (ρ 8) fun x_8 => atA (ρ 9) fun y_9 => (ref06_Same.s118 Z Q X1 a_0 a_0n a_0c b_1 b_1n b_1c places_2 i_7 x_8 y_9))
theorem ref06_Same.s118_ok (Z : List PanicEntry → PT) (Q : Bool → PT) (X1 : Option Addr → Nat → Nat → Option Addr → Nat → Nat → Bool → Int → PT) : Ok Try.prog Try.f9.ntmps Z ref06_Same.c37 (ref06_Same.q116 Z Q X1) (ref06_Same.j119 Z Q X1) := by
  intro E he ρ w a hr h
  rw [ref06_Same.q114] at he ⊢
  obtain ⟨a_0, a_0n, a_0c, e0, h⟩ := atL_e h
  obtain ⟨b_1, b_1n, b_1c, e1, h⟩ := atL_e h
  obtain ⟨places_2, e2, h⟩ := atB_e h
  obtain ⟨i_7, e7, h⟩ := atI_e h
  obtain ⟨x_8, e8, h⟩ := atA_e h
  obtain ⟨y_9, e9, h⟩ := atA_e h
  exact ok_at [(0, (Value.slice a_0 a_0n a_0c)), (1, (Value.slice b_1 b_1n b_1c)), (2, (Value.bool places_2)), (7, (Value.int .i64 i_7)), (8, (Value.pointer (some x_8))), (9, (Value.pointer (some y_9)))] (ok_seq (okC ref06_Same.c112 _ (by kernel_rfl)) (ref06_Same.s115_ok Z Q X1)) (puts_cons e0 (puts_cons e1 (puts_cons e2 (puts_cons e7 (puts_cons e8 (puts_cons e9 (fun p hp => puts_nil hp))))))) (ref06_Same.s118_eq Z Q X1 ρ a_0 a_0n a_0c b_1 b_1n b_1c places_2 i_7 x_8 y_9) he hr h
theorem ref06_Same.o120 (Z : List PanicEntry → PT) (Q : Bool → PT) (X1 : Option Addr → Nat → Nat → Option Addr → Nat → Nat → Bool → Int → PT) : Ok Try.prog Try.f9.ntmps Z ref06_Same.c35 (ref06_Same.q49 Z Q X1) (ref06_Same.j119 Z Q X1) := by
  rw [ref06_Same.q39]; exact ok_seq (ref06_Same.s118_ok Z Q X1) (ref06_Same.s110_ok Z Q X1)
def ref06_Same.s121 (Z : List PanicEntry → PT) (Q : Bool → PT) (X1 : Option Addr → Nat → Nat → Option Addr → Nat → Nat → Bool → Int → PT) (a_0 : Option Addr) (a_0n a_0c : Nat) (b_1 : Option Addr) (b_1n b_1c : Nat) (places_2 : Bool) (i_7 : Int) : PT :=
  (ixS a_0 a_0n i_7 8 fun v271 => (ldN 8 v271 fun v272 => (newC 39 [(Value.int .i64 0), (Value.bool false), (Value.int .i64 0), (Value.int .i64 0), (Value.slice none 0 0), (Value.bool false), (Value.int .i64 0), (Value.int .i64 0)] fun x273 => (stN 8 x273 v272 (ixS b_1 b_1n i_7 8 fun v274 => (ldN 8 v274 fun v275 => (newC 39 [(Value.int .i64 0), (Value.bool false), (Value.int .i64 0), (Value.int .i64 0), (Value.slice none 0 0), (Value.bool false), (Value.int .i64 0), (Value.int .i64 0)] fun y276 => (stN 8 y276 v275 (ref06_Same.s118 Z Q X1 a_0 a_0n a_0c b_1 b_1n b_1c places_2 i_7 x273 y276)))))))))
theorem ref06_Same.s121_eq (Z : List PanicEntry → PT) (Q : Bool → PT) (X1 : Option Addr → Nat → Nat → Option Addr → Nat → Nat → Bool → Int → PT) (ρ : Fr) (a_0 : Option Addr) (a_0n a_0c : Nat) (b_1 : Option Addr) (b_1n b_1c : Nat) (places_2 : Bool) (i_7 : Int) : (comp Try.prog Z ref06_Same.c33 (thenK (comp Try.prog Z ref06_Same.c34 (thenK (ref06_Same.j119 Z Q X1) (ref06_Same.q49 Z Q X1))) (ref06_Same.q49 Z Q X1))) (puts ρ [(0, (Value.slice a_0 a_0n a_0c)), (1, (Value.slice b_1 b_1n b_1c)), (2, (Value.bool places_2)), (7, (Value.int .i64 i_7))]) = ref06_Same.s121 Z Q X1 a_0 a_0n a_0c b_1 b_1n b_1c places_2 i_7 := by kernel_rfl
def ref06_Same.j122 (Z : List PanicEntry → PT) (Q : Bool → PT) (X1 : Option Addr → Nat → Nat → Option Addr → Nat → Nat → Bool → Int → PT) : Fr → PT := (fun ρ => atL (ρ 0) fun a_0 a_0n a_0c => atL (ρ 1) fun b_1 b_1n b_1c => atB (ρ 2) fun places_2 => atI .i64 (ρ 7) fun i_7 => (ref06_Same.s121 Z Q X1 a_0 a_0n a_0c b_1 b_1n b_1c places_2 i_7))
theorem ref06_Same.s121_ok (Z : List PanicEntry → PT) (Q : Bool → PT) (X1 : Option Addr → Nat → Nat → Option Addr → Nat → Nat → Bool → Int → PT) : Ok Try.prog Try.f9.ntmps Z ref06_Same.c31 (ref06_Same.q49 Z Q X1) (ref06_Same.j122 Z Q X1) := by
  intro E he ρ w a hr h
  rw [ref06_Same.q36] at he ⊢
  obtain ⟨a_0, a_0n, a_0c, e0, h⟩ := atL_e h
  obtain ⟨b_1, b_1n, b_1c, e1, h⟩ := atL_e h
  obtain ⟨places_2, e2, h⟩ := atB_e h
  obtain ⟨i_7, e7, h⟩ := atI_e h
  exact ok_at [(0, (Value.slice a_0 a_0n a_0c)), (1, (Value.slice b_1 b_1n b_1c)), (2, (Value.bool places_2)), (7, (Value.int .i64 i_7))] (ok_seq (okC ref06_Same.c33 _ (by kernel_rfl)) (ok_seq (okC ref06_Same.c34 _ (by kernel_rfl)) (ref06_Same.o120 Z Q X1))) (puts_cons e0 (puts_cons e1 (puts_cons e2 (puts_cons e7 (fun p hp => puts_nil hp))))) (ref06_Same.s121_eq Z Q X1 ρ a_0 a_0n a_0c b_1 b_1n b_1c places_2 i_7) he hr h
theorem ref06_Same.o123 (Z : List PanicEntry → PT) (Q : Bool → PT) (X1 : Option Addr → Nat → Nat → Option Addr → Nat → Nat → Bool → Int → PT) : Ok Try.prog Try.f9.ntmps Z ref06_Same.c24 (ref06_Same.q48 Z Q X1) (ref06_Same.j122 Z Q X1) := by
  rw [ref06_Same.q32]; exact ok_block (ref06_Same.s121_ok Z Q X1)
theorem ref06_Same.o124 (Z : List PanicEntry → PT) (Q : Bool → PT) (X1 : Option Addr → Nat → Nat → Option Addr → Nat → Nat → Bool → Int → PT) : Ok Try.prog Try.f9.ntmps Z ref06_Same.c22 (ref06_Same.q29 Z Q X1) (ref06_Same.j122 Z Q X1) := by
  rw [ref06_Same.q26]; exact ok_seq (ref06_Same.o123 Z Q X1) (ref06_Same.s27_ok Z Q X1)
def ref06_Same.s125 (Z : List PanicEntry → PT) (Q : Bool → PT) (X1 : Option Addr → Nat → Nat → Option Addr → Nat → Nat → Bool → Int → PT) (a_0 : Option Addr) (a_0n a_0c : Nat) (b_1 : Option Addr) (b_1n b_1c : Nat) (places_2 : Bool) (i_7 : Int) : PT :=
  (pif (decide (i_7 < ((a_0n : Nat) : Int))) (ref06_Same.s121 Z Q X1 a_0 a_0n a_0c b_1 b_1n b_1c places_2 i_7) (ref06_Same.s8 Z Q ))
theorem ref06_Same.s125_eq (Z : List PanicEntry → PT) (Q : Bool → PT) (X1 : Option Addr → Nat → Nat → Option Addr → Nat → Nat → Bool → Int → PT) (ρ : Fr) (a_0 : Option Addr) (a_0n a_0c : Nat) (b_1 : Option Addr) (b_1n b_1c : Nat) (places_2 : Bool) (i_7 : Int) : (comp Try.prog Z ref06_Same.c21 (thenK (ref06_Same.j122 Z Q X1) (ref06_Same.q29 Z Q X1))) (puts ρ [(0, (Value.slice a_0 a_0n a_0c)), (1, (Value.slice b_1 b_1n b_1c)), (2, (Value.bool places_2)), (7, (Value.int .i64 i_7))]) = ref06_Same.s125 Z Q X1 a_0 a_0n a_0c b_1 b_1n b_1c places_2 i_7 := by kernel_rfl
def ref06_Same.j126 (Z : List PanicEntry → PT) (Q : Bool → PT) (X1 : Option Addr → Nat → Nat → Option Addr → Nat → Nat → Bool → Int → PT) : Fr → PT := (fun ρ => atL (ρ 0) fun a_0 a_0n a_0c => atL (ρ 1) fun b_1 b_1n b_1c => atB (ρ 2) fun places_2 => atI .i64 (ρ 7) fun i_7 => (ref06_Same.s125 Z Q X1 a_0 a_0n a_0c b_1 b_1n b_1c places_2 i_7))
theorem ref06_Same.s125_ok (Z : List PanicEntry → PT) (Q : Bool → PT) (X1 : Option Addr → Nat → Nat → Option Addr → Nat → Nat → Bool → Int → PT) : Ok Try.prog Try.f9.ntmps Z ref06_Same.c16 (ref06_Same.q29 Z Q X1) (ref06_Same.j126 Z Q X1) := by
  intro E he ρ w a hr h
  rw [ref06_Same.q23] at he ⊢
  obtain ⟨a_0, a_0n, a_0c, e0, h⟩ := atL_e h
  obtain ⟨b_1, b_1n, b_1c, e1, h⟩ := atL_e h
  obtain ⟨places_2, e2, h⟩ := atB_e h
  obtain ⟨i_7, e7, h⟩ := atI_e h
  exact ok_at [(0, (Value.slice a_0 a_0n a_0c)), (1, (Value.slice b_1 b_1n b_1c)), (2, (Value.bool places_2)), (7, (Value.int .i64 i_7))] (ok_seq (okC ref06_Same.c21 _ (by kernel_rfl)) (ref06_Same.o124 Z Q X1)) (puts_cons e0 (puts_cons e1 (puts_cons e2 (puts_cons e7 (fun p hp => puts_nil hp))))) (ref06_Same.s125_eq Z Q X1 ρ a_0 a_0n a_0c b_1 b_1n b_1c places_2 i_7) he hr h
def ref06_Same.l18 (Z : List PanicEntry → PT) (Q : Bool → PT) : Nat → Option Addr → Nat → Nat → Option Addr → Nat → Nat → Bool → Int → PT
  | 0, _, _, _, _, _, _, _, _ => bad
  | k + 1, a_0, a_0n, a_0c, b_1, b_1n, b_1c, places_2, i_7 => (ref06_Same.s125 Z Q (ref06_Same.l18 Z Q k) a_0 a_0n a_0c b_1 b_1n b_1c places_2 i_7)
def ref06_Same.j127 (Z : List PanicEntry → PT) (Q : Bool → PT) (k : Nat) : Fr → PT := (fun ρ => atL (ρ 0) fun a_0 a_0n a_0c => atL (ρ 1) fun b_1 b_1n b_1c => atB (ρ 2) fun places_2 => atI .i64 (ρ 7) fun i_7 => (ref06_Same.l18 Z Q k a_0 a_0n a_0c b_1 b_1n b_1c places_2 i_7))
def ref06_Same.j128 (Z : List PanicEntry → PT) (Q : Bool → PT) : Fr → PT := (fun ρ => atL (ρ 0) fun a_0 a_0n a_0c => atL (ρ 1) fun b_1 b_1n b_1c => atB (ρ 2) fun places_2 => atI .i64 (ρ 7) fun i_7 => (exK fun k => ref06_Same.l18 Z Q k a_0 a_0n a_0c b_1 b_1n b_1c places_2 i_7))
theorem ref06_Same.o129 (Z : List PanicEntry → PT) (Q : Bool → PT) : Ok Try.prog Try.f9.ntmps Z ref06_Same.c14 (ref06_Same.q20 Z Q) (ref06_Same.j128 Z Q) := by
  rw [ref06_Same.q17]
  refine Ok.imp (ok_loop (J := ref06_Same.j127 Z Q) ?_ ?_) ?_
  · intro ρ w h
    obtain ⟨a_0, a_0n, a_0c, e0, h⟩ := atL_e h
    obtain ⟨b_1, b_1n, b_1c, e1, h⟩ := atL_e h
    obtain ⟨places_2, e2, h⟩ := atB_e h
    obtain ⟨i_7, e7, h⟩ := atI_e h
    exact h
  · intro k
    refine Ok.imp (ref06_Same.s125_ok Z Q (ref06_Same.l18 Z Q k)) fun ρ w h => ?_
    obtain ⟨a_0, a_0n, a_0c, e0, h⟩ := atL_e h
    obtain ⟨b_1, b_1n, b_1c, e1, h⟩ := atL_e h
    obtain ⟨places_2, e2, h⟩ := atB_e h
    obtain ⟨i_7, e7, h⟩ := atI_e h
    show (ref06_Same.j126 Z Q (ref06_Same.l18 Z Q k)) ρ w
    simp only [ref06_Same.j126]
    rw [e0]
    rw [e1]
    rw [e2]
    rw [e7]
    exact h
  · intro ρ w h
    obtain ⟨a_0, a_0n, a_0c, e0, h⟩ := atL_e h
    obtain ⟨b_1, b_1n, b_1c, e1, h⟩ := atL_e h
    obtain ⟨places_2, e2, h⟩ := atB_e h
    obtain ⟨i_7, e7, h⟩ := atI_e h
    obtain ⟨k, h⟩ := h
    refine ⟨k, ?_⟩
    show (atL (ρ 0) fun a_0 a_0n a_0c => atL (ρ 1) fun b_1 b_1n b_1c => atB (ρ 2) fun places_2 => atI .i64 (ρ 7) fun i_7 => (ref06_Same.l18 Z Q k a_0 a_0n a_0c b_1 b_1n b_1c places_2 i_7)) w
    rw [e0]
    rw [e1]
    rw [e2]
    rw [e7]
    exact h
theorem ref06_Same.o130 (Z : List PanicEntry → PT) (Q : Bool → PT) : Ok Try.prog Try.f9.ntmps Z ref06_Same.c12 (ref06_Same.q19 Z Q) (ref06_Same.j128 Z Q) := by
  rw [ref06_Same.q15]; exact ok_block (ref06_Same.o129 Z Q)
def ref06_Same.s131 (Z : List PanicEntry → PT) (Q : Bool → PT) (a_0 : Option Addr) (a_0n a_0c : Nat) (b_1 : Option Addr) (b_1n b_1c : Nat) (places_2 : Bool) : PT :=
  (exK fun k => ref06_Same.l18 Z Q k a_0 a_0n a_0c b_1 b_1n b_1c places_2 0)
theorem ref06_Same.s131_eq (Z : List PanicEntry → PT) (Q : Bool → PT) (ρ : Fr) (a_0 : Option Addr) (a_0n a_0c : Nat) (b_1 : Option Addr) (b_1n b_1c : Nat) (places_2 : Bool) : (comp Try.prog Z ref06_Same.c11 (thenK (ref06_Same.j128 Z Q) (ref06_Same.q19 Z Q))) (puts ρ [(0, (Value.slice a_0 a_0n a_0c)), (1, (Value.slice b_1 b_1n b_1c)), (2, (Value.bool places_2))]) = ref06_Same.s131 Z Q a_0 a_0n a_0c b_1 b_1n b_1c places_2 := by kernel_rfl
def ref06_Same.j132 (Z : List PanicEntry → PT) (Q : Bool → PT) : Fr → PT := (fun ρ => atL (ρ 0) fun a_0 a_0n a_0c => atL (ρ 1) fun b_1 b_1n b_1c => atB (ρ 2) fun places_2 => (ref06_Same.s131 Z Q a_0 a_0n a_0c b_1 b_1n b_1c places_2))
theorem ref06_Same.s131_ok (Z : List PanicEntry → PT) (Q : Bool → PT) : Ok Try.prog Try.f9.ntmps Z ref06_Same.c5 (ref06_Same.q19 Z Q) (ref06_Same.j132 Z Q) := by
  intro E he ρ w a hr h
  rw [ref06_Same.q13] at he ⊢
  obtain ⟨a_0, a_0n, a_0c, e0, h⟩ := atL_e h
  obtain ⟨b_1, b_1n, b_1c, e1, h⟩ := atL_e h
  obtain ⟨places_2, e2, h⟩ := atB_e h
  exact ok_at [(0, (Value.slice a_0 a_0n a_0c)), (1, (Value.slice b_1 b_1n b_1c)), (2, (Value.bool places_2))] (ok_seq (okC ref06_Same.c11 _ (by kernel_rfl)) (ref06_Same.o130 Z Q)) (puts_cons e0 (puts_cons e1 (puts_cons e2 (fun p hp => puts_nil hp)))) (ref06_Same.s131_eq Z Q ρ a_0 a_0n a_0c b_1 b_1n b_1c places_2) he hr h
theorem ref06_Same.o133 (Z : List PanicEntry → PT) (Q : Bool → PT) : Ok Try.prog Try.f9.ntmps Z ref06_Same.c3 (ref06_Same.q9 Z Q) (ref06_Same.j132 Z Q) := by
  rw [ref06_Same.q7]; exact ok_seq (ref06_Same.s131_ok Z Q) (ref06_Same.s8_ok Z Q)
def ref06_Same.s134 (Z : List PanicEntry → PT) (Q : Bool → PT) (a_0 : Option Addr) (a_0n a_0c : Nat) (b_1 : Option Addr) (b_1n b_1c : Nat) (places_2 : Bool) : PT :=
  (pif (((a_0n : Nat) : Int) != ((b_1n : Nat) : Int)) (Q false) (ref06_Same.s131 Z Q a_0 a_0n a_0c b_1 b_1n b_1c places_2))
theorem ref06_Same.s134_eq (Z : List PanicEntry → PT) (Q : Bool → PT) (ρ : Fr) (a_0 : Option Addr) (a_0n a_0c : Nat) (b_1 : Option Addr) (b_1n b_1c : Nat) (places_2 : Bool) : (comp Try.prog Z ref06_Same.c1 (thenK (comp Try.prog Z ref06_Same.c2 (thenK (ref06_Same.j132 Z Q) (ref06_Same.q9 Z Q))) (ref06_Same.q9 Z Q))) (puts ρ [(0, (Value.slice a_0 a_0n a_0c)), (1, (Value.slice b_1 b_1n b_1c)), (2, (Value.bool places_2))]) = ref06_Same.s134 Z Q a_0 a_0n a_0c b_1 b_1n b_1c places_2 := by kernel_rfl
def ref06_Same.j135 (Z : List PanicEntry → PT) (Q : Bool → PT) : Fr → PT := (fun ρ => atL (ρ 0) fun a_0 a_0n a_0c => atL (ρ 1) fun b_1 b_1n b_1c => atB (ρ 2) fun places_2 => (ref06_Same.s134 Z Q a_0 a_0n a_0c b_1 b_1n b_1c places_2))
theorem ref06_Same.s134_ok (Z : List PanicEntry → PT) (Q : Bool → PT) : Ok Try.prog Try.f9.ntmps Z ref06_Same.body (ref06_Same.q9 Z Q) (ref06_Same.j135 Z Q) := by
  intro E he ρ w a hr h
  rw [ref06_Same.q4] at he ⊢
  obtain ⟨a_0, a_0n, a_0c, e0, h⟩ := atL_e h
  obtain ⟨b_1, b_1n, b_1c, e1, h⟩ := atL_e h
  obtain ⟨places_2, e2, h⟩ := atB_e h
  exact ok_at [(0, (Value.slice a_0 a_0n a_0c)), (1, (Value.slice b_1 b_1n b_1c)), (2, (Value.bool places_2))] (ok_seq (okC ref06_Same.c1 _ (by kernel_rfl)) (ok_seq (okC ref06_Same.c2 _ (by kernel_rfl)) (ref06_Same.o133 Z Q))) (puts_cons e0 (puts_cons e1 (puts_cons e2 (fun p hp => puts_nil hp)))) (ref06_Same.s134_eq Z Q ρ a_0 a_0n a_0c b_1 b_1n b_1c places_2) he hr h
def ref06_Same.F (Z : List PanicEntry → PT) (Q : Bool → PT) (a_0 : Option Addr) (a_0n a_0c : Nat) (b_1 : Option Addr) (b_1n b_1c : Nat) (places_2 : Bool) : PT :=
  (ref06_Same.s134 Z Q a_0 a_0n a_0c b_1 b_1n b_1c places_2)
theorem ref06_Same.vc (Z : List PanicEntry → PT) (Q : Bool → PT) (a_0 : Option Addr) (a_0n a_0c : Nat) (b_1 : Option Addr) (b_1n b_1c : Nat) (places_2 : Bool) (w : World) (h : ref06_Same.F Z Q a_0 a_0n a_0c b_1 b_1n b_1c places_2 w) : Calls Try.prog 9 ⟨[(Value.slice a_0 a_0n a_0c), (Value.slice b_1 b_1n b_1c), (Value.bool places_2)]⟩ w fun e w' => (∃ (r0 : Bool), e = .returned (.bool r0) ∧ Q r0 w') ∨ ∃ c, e = .panicked c ∧ Z c w' := by
  refine (calls_of_ok (args := [(Value.slice a_0 a_0n a_0c), (Value.slice b_1 b_1n b_1c), (Value.bool places_2)]) (w := w) (rs := [.tmp 6]) (fn := Try.f9) (c := ref06_Same.body) Try.func9 (by kernel_rfl) (by kernel_rfl) (Nat.le_of_ble_eq_true (by kernel_rfl)) (ref06_Same.s134_ok Z Q) (h)).mono fun e w' hR => ?_
  cases e with
  | returned v =>
    obtain ⟨va, rfl, hR⟩ := atB_e hR
    exact .inl ⟨va, rfl, hR⟩
  | panicked c => exact .inr ⟨c, rfl, hR⟩
  | outgrown => exact hR.elim
theorem ref06_Same.vc0 (Q : Bool → PT) (a_0 : Option Addr) (a_0n a_0c : Nat) (b_1 : Option Addr) (b_1n b_1c : Nat) (places_2 : Bool) (w : World) (h : ref06_Same.F Z0 Q a_0 a_0n a_0c b_1 b_1n b_1c places_2 w) : Calls Try.prog 9 ⟨[(Value.slice a_0 a_0n a_0c), (Value.slice b_1 b_1n b_1c), (Value.bool places_2)]⟩ w fun e w' => (∃ (r0 : Bool), e = .returned (.bool r0) ∧ Q r0 w') :=
  (ref06_Same.vc Z0 Q a_0 a_0n a_0c b_1 b_1n b_1c places_2 w h).mono fun _ _ hR => hR.elim id fun ⟨_, _, hz⟩ => hz.elim
theorem ref06_Same.cal {Z : List PanicEntry → PT} {Q : Bool → PT} {a_0 : Option Addr} {a_0n a_0c : Nat} {b_1 : Option Addr} {b_1n b_1c : Nat} {places_2 : Bool} {w : World} (h : ref06_Same.F Z Q a_0 a_0n a_0c b_1 b_1n b_1c places_2 w) : Go.Proofs.Ytimdpeolfhaajaa.cal Try.prog Z 9 [(Value.slice a_0 a_0n a_0c), (Value.slice b_1 b_1n b_1c), (Value.bool places_2)] (isB fun r0 => Q r0) w := by
  refine (ref06_Same.vc Z Q a_0 a_0n a_0c b_1 b_1n b_1c places_2 w h).mono fun e w' hR => ?_
  rcases hR with ⟨r0, rfl, h⟩ | ⟨c, rfl, h⟩
  · show (isB fun r0 => Q r0) (.bool r0) w'
    exact ⟨_, rfl, h⟩
  · exact h

/-! ### milepost/milepostlaw06.awake: function 6 -/
noncomputable def law06_awake.body : Code := bodyC Try.f6
def law06_awake.F (Z : List PanicEntry → PT) (Q : Bool → PT)  : PT :=
  (cal Try.prog Z 7 [(Value.string ⟨#[53, 32, 115, 114, 99, 32, 49, 48, 46, 48, 46, 48, 46, 48, 47, 56, 32, 100, 112, 111, 114, 116, 32, 56, 48, 45, 57, 48, 32, 45, 62, 32, 112, 111, 114, 116, 32, 51]⟩)] (isT3 fun t19 t20 t21 => (isL fun v22 v22n v22c => ((isI .i64 fun v23 => ((isI .i64 fun v24 => (cal Try.prog Z 7 [(Value.string ⟨#[53, 32, 115, 114, 99, 32, 49, 46, 50, 32, 45, 62, 32, 100, 114, 111, 112]⟩)] (isT3 fun t25 t26 t27 => (isL fun v28 v28n v28c => ((isI .i64 fun v29 => ((isI .i64 fun v30 => (pif (v23 == 0) (pif (((v22n : Nat) : Int) == 1) (ixS v22 v22n 0 8 fun v31 => (ldL (v31.add 4) fun v32 v32n v32c => (pif (((v32n : Nat) : Int) == 2) (ixS v22 v22n 0 8 fun v33 => (ldL (v33.add 4) fun v34 v34n v34c => (ixS v34 v34n 1 5 fun v35 => (ldB (v35.add 4) fun v36 => (pif v36 (ixS v22 v22n 0 8 fun v37 => (ldI .i64 ((v37.add 6).add 0) fun v38 => (pif (v38 == 3) (pif (v29 == 8) (Q (v30 == 10)) (Q false)) (Q false)))) (Q false)))))) (Q false)))) (Q false)) (Q false))) t27)) t26)) t25))) t21)) t20)) t19))
def law06_awake.q1 (Z : List PanicEntry → PT) (Q : Bool → PT) : QF := bodyQ Try.prog [.tmp 0] (fun v => atB v fun va => Q va)
theorem law06_awake.eq (Z : List PanicEntry → PT) (Q : Bool → PT)  : comp Try.prog Z law06_awake.body (law06_awake.q1 Z Q) (fr0 []) = law06_awake.F Z Q  := by kernel_rfl
theorem law06_awake.vc (Z : List PanicEntry → PT) (Q : Bool → PT)  (w : World) (h : law06_awake.F Z Q  w) : Calls Try.prog 6 ⟨[]⟩ w fun e w' => (∃ (r0 : Bool), e = .returned (.bool r0) ∧ Q r0 w') ∨ ∃ c, e = .panicked c ∧ Z c w' := by
  refine (calls_of_ok (args := []) (w := w) (rs := [.tmp 0]) (fn := Try.f6) (c := law06_awake.body) Try.func6 (by kernel_rfl) (by kernel_rfl) (Nat.le_of_ble_eq_true (by kernel_rfl)) (okC law06_awake.body (law06_awake.q1 Z Q) (by kernel_rfl)) (by rw [law06_awake.eq]; exact h)).mono fun e w' hR => ?_
  cases e with
  | returned v =>
    obtain ⟨va, rfl, hR⟩ := atB_e hR
    exact .inl ⟨va, rfl, hR⟩
  | panicked c => exact .inr ⟨c, rfl, hR⟩
  | outgrown => exact hR.elim
theorem law06_awake.vc0 (Q : Bool → PT)  (w : World) (h : law06_awake.F Z0 Q  w) : Calls Try.prog 6 ⟨[]⟩ w fun e w' => (∃ (r0 : Bool), e = .returned (.bool r0) ∧ Q r0 w') :=
  (law06_awake.vc Z0 Q  w h).mono fun _ _ hR => hR.elim id fun ⟨_, _, hz⟩ => hz.elim
theorem law06_awake.cal {Z : List PanicEntry → PT} {Q : Bool → PT}  {w : World} (h : law06_awake.F Z Q  w) : Go.Proofs.Ytimdpeolfhaajaa.cal Try.prog Z 6 [] (isB fun r0 => Q r0) w := by
  refine (law06_awake.vc Z Q  w h).mono fun e w' hR => ?_
  rcases hR with ⟨r0, rfl, h⟩ | ⟨c, rfl, h⟩
  · show (isB fun r0 => Q r0) (.bool r0) w'
    exact ⟨_, rfl, h⟩
  · exact h

/-! ### milepost/milepostlaw06.ParseReads: function 3 -/
noncomputable def law06_ParseReads.body : Code := bodyC Try.f3
def law06_ParseReads.F (Z : List PanicEntry → PT) (Q : Bool → PT) (s_0 : ByteArray) : PT :=
  (cal Try.prog Z 6 [] (isB fun v23 => (pif (!v23) (Q false) (cal Try.prog Z 7 [(Value.string s_0)] (isT3 fun t24 t25 t26 => (isL fun v27 v27n v27c => ((isI .i64 fun v28 => ((isI .i64 fun v29 => (cal Try.prog Z 8 [(Value.string s_0)] (isT3 fun t30 t31 t32 => (isL fun v33 v33n v33c => ((isI .i64 fun v34 => ((isI .i64 fun v35 => (pif (v28 == v34) (pif (v29 == v35) (cal Try.prog Z 9 [(Value.slice v27 v27n v27c), (Value.slice v33 v33n v33c), (Value.bool true)] (isB fun v36 => (pif v36 (pif (v28 == 0) (Q true) (pif (((v27n : Nat) : Int) == 0) (Q (decide (v29 ≤ ((s_0.size : Nat) : Int)))) (Q false))) (Q false)))) (Q false)) (Q false))) t32)) t31)) t30))) t26)) t25)) t24)))))
def law06_ParseReads.q1 (Z : List PanicEntry → PT) (Q : Bool → PT) : QF := bodyQ Try.prog [.tmp 2] (fun v => atB v fun va => Q va)
theorem law06_ParseReads.eq (Z : List PanicEntry → PT) (Q : Bool → PT) (s_0 : ByteArray) : comp Try.prog Z law06_ParseReads.body (law06_ParseReads.q1 Z Q) (fr0 [(Value.string s_0)]) = law06_ParseReads.F Z Q s_0 := by kernel_rfl
theorem law06_ParseReads.vc (Z : List PanicEntry → PT) (Q : Bool → PT) (s_0 : ByteArray) (w : World) (h : law06_ParseReads.F Z Q s_0 w) : Calls Try.prog 3 ⟨[(Value.string s_0)]⟩ w fun e w' => (∃ (r0 : Bool), e = .returned (.bool r0) ∧ Q r0 w') ∨ ∃ c, e = .panicked c ∧ Z c w' := by
  refine (calls_of_ok (args := [(Value.string s_0)]) (w := w) (rs := [.tmp 2]) (fn := Try.f3) (c := law06_ParseReads.body) Try.func3 (by kernel_rfl) (by kernel_rfl) (Nat.le_of_ble_eq_true (by kernel_rfl)) (okC law06_ParseReads.body (law06_ParseReads.q1 Z Q) (by kernel_rfl)) (by rw [law06_ParseReads.eq]; exact h)).mono fun e w' hR => ?_
  cases e with
  | returned v =>
    obtain ⟨va, rfl, hR⟩ := atB_e hR
    exact .inl ⟨va, rfl, hR⟩
  | panicked c => exact .inr ⟨c, rfl, hR⟩
  | outgrown => exact hR.elim
theorem law06_ParseReads.vc0 (Q : Bool → PT) (s_0 : ByteArray) (w : World) (h : law06_ParseReads.F Z0 Q s_0 w) : Calls Try.prog 3 ⟨[(Value.string s_0)]⟩ w fun e w' => (∃ (r0 : Bool), e = .returned (.bool r0) ∧ Q r0 w') :=
  (law06_ParseReads.vc Z0 Q s_0 w h).mono fun _ _ hR => hR.elim id fun ⟨_, _, hz⟩ => hz.elim
theorem law06_ParseReads.cal {Z : List PanicEntry → PT} {Q : Bool → PT} {s_0 : ByteArray} {w : World} (h : law06_ParseReads.F Z Q s_0 w) : Go.Proofs.Ytimdpeolfhaajaa.cal Try.prog Z 3 [(Value.string s_0)] (isB fun r0 => Q r0) w := by
  refine (law06_ParseReads.vc Z Q s_0 w h).mono fun e w' hR => ?_
  rcases hR with ⟨r0, rfl, h⟩ | ⟨c, rfl, h⟩
  · show (isB fun r0 => Q r0) (.bool r0) w'
    exact ⟨_, rfl, h⟩
  · exact h

/-! ### milepost/milepostlaw06.ParseTokens: function 4 -/
noncomputable def law06_ParseTokens.body : Code := bodyC Try.f4
noncomputable def law06_ParseTokens.c1 : Code := sq1 law06_ParseTokens.body
noncomputable def law06_ParseTokens.c2 : Code := sq1 (sq2 law06_ParseTokens.body)
noncomputable def law06_ParseTokens.c3 : Code := sq1 (sq2 (sq2 law06_ParseTokens.body))
noncomputable def law06_ParseTokens.c4 : Code := sq1 (sq2 (sq2 (sq2 law06_ParseTokens.body)))
noncomputable def law06_ParseTokens.c5 : Code := sq1 (sq2 (sq2 (sq2 (sq2 law06_ParseTokens.body))))
noncomputable def law06_ParseTokens.c6 : Code := sq1 (sq2 (sq2 (sq2 (sq2 (sq2 law06_ParseTokens.body)))))
noncomputable def law06_ParseTokens.c7 : Code := sq1 (sq2 (sq2 (sq2 (sq2 (sq2 (sq2 law06_ParseTokens.body))))))
noncomputable def law06_ParseTokens.c8 : Code := sq2 (sq2 (sq2 (sq2 (sq2 (sq2 (sq2 law06_ParseTokens.body))))))
theorem law06_ParseTokens.q9 : law06_ParseTokens.body = .seq law06_ParseTokens.c1 (.seq law06_ParseTokens.c2 (.seq law06_ParseTokens.c3 (.seq law06_ParseTokens.c4 (.seq law06_ParseTokens.c5 (.seq law06_ParseTokens.c6 (.seq law06_ParseTokens.c7 law06_ParseTokens.c8)))))) := by kernel_rfl
noncomputable def law06_ParseTokens.c10 : Code := sq1 law06_ParseTokens.c8
noncomputable def law06_ParseTokens.c11 : Code := sq2 law06_ParseTokens.c8
theorem law06_ParseTokens.q12 : law06_ParseTokens.c8 = .seq law06_ParseTokens.c10 law06_ParseTokens.c11 := by kernel_rfl
def law06_ParseTokens.s13 (Z : List PanicEntry → PT) (Q : Bool → PT) (l_3 : Option Addr) (l_3n l_3c : Nat) (f_7 : Int) (n_9 : Int) : PT :=
  (pif (f_7 == 0) (pif (n_9 == ((l_3n : Nat) : Int)) (Q (decide (n_9 ≤ 64))) (Q false)) (Q false))
def law06_ParseTokens.q14 (Z : List PanicEntry → PT) (Q : Bool → PT) : QF := bodyQ Try.prog [.tmp 2] (fun v => atB v fun va => Q va)
theorem law06_ParseTokens.s13_eq (Z : List PanicEntry → PT) (Q : Bool → PT) (ρ : Fr) (l_3 : Option Addr) (l_3n l_3c : Nat) (f_7 : Int) (n_9 : Int) : comp Try.prog Z law06_ParseTokens.c11 (law06_ParseTokens.q14 Z Q) (puts ρ [(3, (Value.slice l_3 l_3n l_3c)), (7, (Value.int .i64 f_7)), (9, (Value.int .i64 n_9))]) = law06_ParseTokens.s13 Z Q l_3 l_3n l_3c f_7 n_9 := by kernel_rfl
def law06_ParseTokens.j15 (Z : List PanicEntry → PT) (Q : Bool → PT) : Fr → PT := (fun ρ => atL (ρ 3) fun l_3 l_3n l_3c => atI .i64 (ρ 7) fun f_7 => atI .i64 (ρ 9) fun n_9 => (law06_ParseTokens.s13 Z Q l_3 l_3n l_3c f_7 n_9))
theorem law06_ParseTokens.s13_ok (Z : List PanicEntry → PT) (Q : Bool → PT) : Ok Try.prog Try.f4.ntmps Z law06_ParseTokens.c11 (law06_ParseTokens.q14 Z Q) (law06_ParseTokens.j15 Z Q) := by
  intro E he ρ w a hr h
  obtain ⟨l_3, l_3n, l_3c, e3, h⟩ := atL_e h
  obtain ⟨f_7, e7, h⟩ := atI_e h
  obtain ⟨n_9, e9, h⟩ := atI_e h
  exact ok_at [(3, (Value.slice l_3 l_3n l_3c)), (7, (Value.int .i64 f_7)), (9, (Value.int .i64 n_9))] (okC law06_ParseTokens.c11 (law06_ParseTokens.q14 Z Q) (by kernel_rfl)) (puts_cons e3 (puts_cons e7 (puts_cons e9 (fun p hp => puts_nil hp)))) (law06_ParseTokens.s13_eq Z Q ρ l_3 l_3n l_3c f_7 n_9) he hr h
noncomputable def law06_ParseTokens.c16 : Code := sq1 law06_ParseTokens.c10
noncomputable def law06_ParseTokens.c17 : Code := sq2 law06_ParseTokens.c10
theorem law06_ParseTokens.q18 : law06_ParseTokens.c10 = .seq law06_ParseTokens.c16 law06_ParseTokens.c17 := by kernel_rfl
noncomputable def law06_ParseTokens.c19 : Code := blk law06_ParseTokens.c17
theorem law06_ParseTokens.q20 : law06_ParseTokens.c17 = .block 0 law06_ParseTokens.c19 := by kernel_rfl
noncomputable def law06_ParseTokens.c21 : Code := lop law06_ParseTokens.c19
theorem law06_ParseTokens.q22 : law06_ParseTokens.c19 = .loop law06_ParseTokens.c21 := by kernel_rfl
def law06_ParseTokens.q24 (Z : List PanicEntry → PT) (Q : Bool → PT) : QF := thenK (law06_ParseTokens.j15 Z Q) (law06_ParseTokens.q14 Z Q)
def law06_ParseTokens.q25 (Z : List PanicEntry → PT) (Q : Bool → PT) : QF := inBl 0 (law06_ParseTokens.q24 Z Q)
noncomputable def law06_ParseTokens.c26 : Code := sq1 law06_ParseTokens.c21
noncomputable def law06_ParseTokens.c27 : Code := sq2 law06_ParseTokens.c21
theorem law06_ParseTokens.q28 : law06_ParseTokens.c21 = .seq law06_ParseTokens.c26 law06_ParseTokens.c27 := by kernel_rfl
noncomputable def law06_ParseTokens.c29 : Code := sq1 law06_ParseTokens.c27
noncomputable def law06_ParseTokens.c30 : Code := sq2 law06_ParseTokens.c27
theorem law06_ParseTokens.q31 : law06_ParseTokens.c27 = .seq law06_ParseTokens.c29 law06_ParseTokens.c30 := by kernel_rfl
def law06_ParseTokens.s32 (Z : List PanicEntry → PT) (Q : Bool → PT) (X1 : Option Addr → Nat → Nat → Option Addr → Nat → Nat → Int → Int → Int → Int → PT) (l_3 : Option Addr) (l_3n l_3c : Nat) (t_6 : Option Addr) (t_6n t_6c : Nat) (f_7 : Int) (n_9 : Int) (row_10 : Int) (i_11 : Int) : PT :=
  (X1 l_3 l_3n l_3c t_6 t_6n t_6c f_7 n_9 row_10 (IntKind.wrap .i64 (i_11 + 1)))
def law06_ParseTokens.j33 (Z : List PanicEntry → PT) (Q : Bool → PT) (X1 : Option Addr → Nat → Nat → Option Addr → Nat → Nat → Int → Int → Int → Int → PT) : Fr → PT := (fun ρ => atL (ρ 3) fun l_3 l_3n l_3c => atL (ρ 6) fun t_6 t_6n t_6c => atI .i64 (ρ 7) fun f_7 => atI .i64 (ρ 9) fun n_9 => atI .i64 (ρ 10) fun row_10 => atI .i64 (ρ 11) fun i_11 => (X1 l_3 l_3n l_3c t_6 t_6n t_6c f_7 n_9 row_10 i_11))
def law06_ParseTokens.q34 (Z : List PanicEntry → PT) (Q : Bool → PT) (X1 : Option Addr → Nat → Nat → Option Addr → Nat → Nat → Int → Int → Int → Int → PT) : QF := thenK (law06_ParseTokens.j33 Z Q X1) (law06_ParseTokens.q25 Z Q)
theorem law06_ParseTokens.s32_eq (Z : List PanicEntry → PT) (Q : Bool → PT) (X1 : Option Addr → Nat → Nat → Option Addr → Nat → Nat → Int → Int → Int → Int → PT) (ρ : Fr) (l_3 : Option Addr) (l_3n l_3c : Nat) (t_6 : Option Addr) (t_6n t_6c : Nat) (f_7 : Int) (n_9 : Int) (row_10 : Int) (i_11 : Int) : comp Try.prog Z law06_ParseTokens.c30 (law06_ParseTokens.q34 Z Q X1) (puts ρ [(3, (Value.slice l_3 l_3n l_3c)), (6, (Value.slice t_6 t_6n t_6c)), (7, (Value.int .i64 f_7)), (9, (Value.int .i64 n_9)), (10, (Value.int .i64 row_10)), (11, (Value.int .i64 i_11))]) = law06_ParseTokens.s32 Z Q X1 l_3 l_3n l_3c t_6 t_6n t_6c f_7 n_9 row_10 i_11 := by kernel_rfl
def law06_ParseTokens.j35 (Z : List PanicEntry → PT) (Q : Bool → PT) (X1 : Option Addr → Nat → Nat → Option Addr → Nat → Nat → Int → Int → Int → Int → PT) : Fr → PT := (fun ρ => atL (ρ 3) fun l_3 l_3n l_3c => atL (ρ 6) fun t_6 t_6n t_6c => atI .i64 (ρ 7) fun f_7 => atI .i64 (ρ 9) fun n_9 => atI .i64 (ρ 10) fun row_10 => atI .i64 (ρ 11) fun i_11 => (law06_ParseTokens.s32 Z Q X1 l_3 l_3n l_3c t_6 t_6n t_6c f_7 n_9 row_10 i_11))
theorem law06_ParseTokens.s32_ok (Z : List PanicEntry → PT) (Q : Bool → PT) (X1 : Option Addr → Nat → Nat → Option Addr → Nat → Nat → Int → Int → Int → Int → PT) : Ok Try.prog Try.f4.ntmps Z law06_ParseTokens.c30 (law06_ParseTokens.q34 Z Q X1) (law06_ParseTokens.j35 Z Q X1) := by
  intro E he ρ w a hr h
  obtain ⟨l_3, l_3n, l_3c, e3, h⟩ := atL_e h
  obtain ⟨t_6, t_6n, t_6c, e6, h⟩ := atL_e h
  obtain ⟨f_7, e7, h⟩ := atI_e h
  obtain ⟨n_9, e9, h⟩ := atI_e h
  obtain ⟨row_10, e10, h⟩ := atI_e h
  obtain ⟨i_11, e11, h⟩ := atI_e h
  exact ok_at [(3, (Value.slice l_3 l_3n l_3c)), (6, (Value.slice t_6 t_6n t_6c)), (7, (Value.int .i64 f_7)), (9, (Value.int .i64 n_9)), (10, (Value.int .i64 row_10)), (11, (Value.int .i64 i_11))] (okC law06_ParseTokens.c30 (law06_ParseTokens.q34 Z Q X1) (by kernel_rfl)) (puts_cons e3 (puts_cons e6 (puts_cons e7 (puts_cons e9 (puts_cons e10 (puts_cons e11 (fun p hp => puts_nil hp))))))) (law06_ParseTokens.s32_eq Z Q X1 ρ l_3 l_3n l_3c t_6 t_6n t_6c f_7 n_9 row_10 i_11) he hr h
noncomputable def law06_ParseTokens.c36 : Code := blk law06_ParseTokens.c29
theorem law06_ParseTokens.q37 : law06_ParseTokens.c29 = .block 1 law06_ParseTokens.c36 := by kernel_rfl
noncomputable def law06_ParseTokens.c38 : Code := sq1 law06_ParseTokens.c36
noncomputable def law06_ParseTokens.c39 : Code := sq2 law06_ParseTokens.c36
theorem law06_ParseTokens.q40 : law06_ParseTokens.c36 = .seq law06_ParseTokens.c38 law06_ParseTokens.c39 := by kernel_rfl
def law06_ParseTokens.s41 (Z : List PanicEntry → PT) (Q : Bool → PT) (X1 : Option Addr → Nat → Nat → Option Addr → Nat → Nat → Int → Int → Int → Int → PT) (l_3 : Option Addr) (l_3n l_3c : Nat) (t_6 : Option Addr) (t_6n t_6c : Nat) (f_7 : Int) (n_9 : Int) (row_10 : Int) (i_11 : Int) : PT :=
  (ixS t_6 t_6n i_11 4 fun v90 => (ldI .i64 (v90.add 0) fun v91 => (pif (v91 == 7) (pif (decide ((0 : Int) > 1)) (Q false) (law06_ParseTokens.s32 Z Q X1 l_3 l_3n l_3c t_6 t_6n t_6c f_7 n_9 0 i_11)) (pif (decide (row_10 > 1)) (Q false) (law06_ParseTokens.s32 Z Q X1 l_3 l_3n l_3c t_6 t_6n t_6c f_7 n_9 row_10 i_11)))))
def law06_ParseTokens.q42 (Z : List PanicEntry → PT) (Q : Bool → PT) (X1 : Option Addr → Nat → Nat → Option Addr → Nat → Nat → Int → Int → Int → Int → PT) : QF := thenK (law06_ParseTokens.j35 Z Q X1) (law06_ParseTokens.q34 Z Q X1)
def law06_ParseTokens.q43 (Z : List PanicEntry → PT) (Q : Bool → PT) (X1 : Option Addr → Nat → Nat → Option Addr → Nat → Nat → Int → Int → Int → Int → PT) : QF := inBl 1 (law06_ParseTokens.q42 Z Q X1)
theorem law06_ParseTokens.s41_eq (Z : List PanicEntry → PT) (Q : Bool → PT) (X1 : Option Addr → Nat → Nat → Option Addr → Nat → Nat → Int → Int → Int → Int → PT) (ρ : Fr) (l_3 : Option Addr) (l_3n l_3c : Nat) (t_6 : Option Addr) (t_6n t_6c : Nat) (f_7 : Int) (n_9 : Int) (row_10 : Int) (i_11 : Int) : comp Try.prog Z law06_ParseTokens.c39 (law06_ParseTokens.q43 Z Q X1) (puts ρ [(3, (Value.slice l_3 l_3n l_3c)), (6, (Value.slice t_6 t_6n t_6c)), (7, (Value.int .i64 f_7)), (9, (Value.int .i64 n_9)), (10, (Value.int .i64 row_10)), (11, (Value.int .i64 i_11))]) = law06_ParseTokens.s41 Z Q X1 l_3 l_3n l_3c t_6 t_6n t_6c f_7 n_9 row_10 i_11 := by kernel_rfl
def law06_ParseTokens.j44 (Z : List PanicEntry → PT) (Q : Bool → PT) (X1 : Option Addr → Nat → Nat → Option Addr → Nat → Nat → Int → Int → Int → Int → PT) : Fr → PT := (fun ρ => atL (ρ 3) fun l_3 l_3n l_3c => atL (ρ 6) fun t_6 t_6n t_6c => atI .i64 (ρ 7) fun f_7 => atI .i64 (ρ 9) fun n_9 => atI .i64 (ρ 10) fun row_10 => atI .i64 (ρ 11) fun i_11 => (law06_ParseTokens.s41 Z Q X1 l_3 l_3n l_3c t_6 t_6n t_6c f_7 n_9 row_10 i_11))
theorem law06_ParseTokens.s41_ok (Z : List PanicEntry → PT) (Q : Bool → PT) (X1 : Option Addr → Nat → Nat → Option Addr → Nat → Nat → Int → Int → Int → Int → PT) : Ok Try.prog Try.f4.ntmps Z law06_ParseTokens.c39 (law06_ParseTokens.q43 Z Q X1) (law06_ParseTokens.j44 Z Q X1) := by
  intro E he ρ w a hr h
  obtain ⟨l_3, l_3n, l_3c, e3, h⟩ := atL_e h
  obtain ⟨t_6, t_6n, t_6c, e6, h⟩ := atL_e h
  obtain ⟨f_7, e7, h⟩ := atI_e h
  obtain ⟨n_9, e9, h⟩ := atI_e h
  obtain ⟨row_10, e10, h⟩ := atI_e h
  obtain ⟨i_11, e11, h⟩ := atI_e h
  exact ok_at [(3, (Value.slice l_3 l_3n l_3c)), (6, (Value.slice t_6 t_6n t_6c)), (7, (Value.int .i64 f_7)), (9, (Value.int .i64 n_9)), (10, (Value.int .i64 row_10)), (11, (Value.int .i64 i_11))] (okC law06_ParseTokens.c39 (law06_ParseTokens.q43 Z Q X1) (by kernel_rfl)) (puts_cons e3 (puts_cons e6 (puts_cons e7 (puts_cons e9 (puts_cons e10 (puts_cons e11 (fun p hp => puts_nil hp))))))) (law06_ParseTokens.s41_eq Z Q X1 ρ l_3 l_3n l_3c t_6 t_6n t_6c f_7 n_9 row_10 i_11) he hr h
def law06_ParseTokens.s45 (Z : List PanicEntry → PT) (Q : Bool → PT) (X1 : Option Addr → Nat → Nat → Option Addr → Nat → Nat → Int → Int → Int → Int → PT) (l_3 : Option Addr) (l_3n l_3c : Nat) (t_6 : Option Addr) (t_6n t_6c : Nat) (f_7 : Int) (n_9 : Int) (row_10 : Int) (i_11 : Int) : PT :=
  (ixS t_6 t_6n i_11 4 fun v92 => (ldI .i64 (v92.add 0) fun v93 => (pif (v93 == 6) (law06_ParseTokens.s41 Z Q X1 l_3 l_3n l_3c t_6 t_6n t_6c f_7 (IntKind.wrap .i64 (n_9 + 1)) (IntKind.wrap .i64 (row_10 + 1)) i_11) (law06_ParseTokens.s41 Z Q X1 l_3 l_3n l_3c t_6 t_6n t_6c f_7 n_9 row_10 i_11))))
theorem law06_ParseTokens.s45_eq (Z : List PanicEntry → PT) (Q : Bool → PT) (X1 : Option Addr → Nat → Nat → Option Addr → Nat → Nat → Int → Int → Int → Int → PT) (ρ : Fr) (l_3 : Option Addr) (l_3n l_3c : Nat) (t_6 : Option Addr) (t_6n t_6c : Nat) (f_7 : Int) (n_9 : Int) (row_10 : Int) (i_11 : Int) : (comp Try.prog Z law06_ParseTokens.c38 (thenK (law06_ParseTokens.j44 Z Q X1) (law06_ParseTokens.q43 Z Q X1))) (puts ρ [(3, (Value.slice l_3 l_3n l_3c)), (6, (Value.slice t_6 t_6n t_6c)), (7, (Value.int .i64 f_7)), (9, (Value.int .i64 n_9)), (10, (Value.int .i64 row_10)), (11, (Value.int .i64 i_11))]) = law06_ParseTokens.s45 Z Q X1 l_3 l_3n l_3c t_6 t_6n t_6c f_7 n_9 row_10 i_11 := by kernel_rfl
def law06_ParseTokens.j46 (Z : List PanicEntry → PT) (Q : Bool → PT) (X1 : Option Addr → Nat → Nat → Option Addr → Nat → Nat → Int → Int → Int → Int → PT) : Fr → PT := (fun ρ => atL (ρ 3) fun l_3 l_3n l_3c => atL (ρ 6) fun t_6 t_6n t_6c => atI .i64 (ρ 7) fun f_7 => atI .i64 (ρ 9) fun n_9 => atI .i64 (ρ 10) fun row_10 => atI .i64 (ρ 11) fun i_11 => (law06_ParseTokens.s45 Z Q X1 l_3 l_3n l_3c t_6 t_6n t_6c f_7 n_9 row_10 i_11))
theorem law06_ParseTokens.s45_ok (Z : List PanicEntry → PT) (Q : Bool → PT) (X1 : Option Addr → Nat → Nat → Option Addr → Nat → Nat → Int → Int → Int → Int → PT) : Ok Try.prog Try.f4.ntmps Z law06_ParseTokens.c36 (law06_ParseTokens.q43 Z Q X1) (law06_ParseTokens.j46 Z Q X1) := by
  intro E he ρ w a hr h
  rw [law06_ParseTokens.q40] at he ⊢
  obtain ⟨l_3, l_3n, l_3c, e3, h⟩ := atL_e h
  obtain ⟨t_6, t_6n, t_6c, e6, h⟩ := atL_e h
  obtain ⟨f_7, e7, h⟩ := atI_e h
  obtain ⟨n_9, e9, h⟩ := atI_e h
  obtain ⟨row_10, e10, h⟩ := atI_e h
  obtain ⟨i_11, e11, h⟩ := atI_e h
  exact ok_at [(3, (Value.slice l_3 l_3n l_3c)), (6, (Value.slice t_6 t_6n t_6c)), (7, (Value.int .i64 f_7)), (9, (Value.int .i64 n_9)), (10, (Value.int .i64 row_10)), (11, (Value.int .i64 i_11))] (ok_seq (okC law06_ParseTokens.c38 _ (by kernel_rfl)) (law06_ParseTokens.s41_ok Z Q X1)) (puts_cons e3 (puts_cons e6 (puts_cons e7 (puts_cons e9 (puts_cons e10 (puts_cons e11 (fun p hp => puts_nil hp))))))) (law06_ParseTokens.s45_eq Z Q X1 ρ l_3 l_3n l_3c t_6 t_6n t_6c f_7 n_9 row_10 i_11) he hr h
theorem law06_ParseTokens.o47 (Z : List PanicEntry → PT) (Q : Bool → PT) (X1 : Option Addr → Nat → Nat → Option Addr → Nat → Nat → Int → Int → Int → Int → PT) : Ok Try.prog Try.f4.ntmps Z law06_ParseTokens.c29 (law06_ParseTokens.q42 Z Q X1) (law06_ParseTokens.j46 Z Q X1) := by
  rw [law06_ParseTokens.q37]; exact ok_block (law06_ParseTokens.s45_ok Z Q X1)
theorem law06_ParseTokens.o48 (Z : List PanicEntry → PT) (Q : Bool → PT) (X1 : Option Addr → Nat → Nat → Option Addr → Nat → Nat → Int → Int → Int → Int → PT) : Ok Try.prog Try.f4.ntmps Z law06_ParseTokens.c27 (law06_ParseTokens.q34 Z Q X1) (law06_ParseTokens.j46 Z Q X1) := by
  rw [law06_ParseTokens.q31]; exact ok_seq (law06_ParseTokens.o47 Z Q X1) (law06_ParseTokens.s32_ok Z Q X1)
def law06_ParseTokens.s49 (Z : List PanicEntry → PT) (Q : Bool → PT) (X1 : Option Addr → Nat → Nat → Option Addr → Nat → Nat → Int → Int → Int → Int → PT) (l_3 : Option Addr) (l_3n l_3c : Nat) (t_6 : Option Addr) (t_6n t_6c : Nat) (f_7 : Int) (n_9 : Int) (row_10 : Int) (i_11 : Int) : PT :=
  (pif (decide (i_11 < ((t_6n : Nat) : Int))) (law06_ParseTokens.s45 Z Q X1 l_3 l_3n l_3c t_6 t_6n t_6c f_7 n_9 row_10 i_11) (law06_ParseTokens.s13 Z Q l_3 l_3n l_3c f_7 n_9))
theorem law06_ParseTokens.s49_eq (Z : List PanicEntry → PT) (Q : Bool → PT) (X1 : Option Addr → Nat → Nat → Option Addr → Nat → Nat → Int → Int → Int → Int → PT) (ρ : Fr) (l_3 : Option Addr) (l_3n l_3c : Nat) (t_6 : Option Addr) (t_6n t_6c : Nat) (f_7 : Int) (n_9 : Int) (row_10 : Int) (i_11 : Int) : (comp Try.prog Z law06_ParseTokens.c26 (thenK (law06_ParseTokens.j46 Z Q X1) (law06_ParseTokens.q34 Z Q X1))) (puts ρ [(3, (Value.slice l_3 l_3n l_3c)), (6, (Value.slice t_6 t_6n t_6c)), (7, (Value.int .i64 f_7)), (9, (Value.int .i64 n_9)), (10, (Value.int .i64 row_10)), (11, (Value.int .i64 i_11))]) = law06_ParseTokens.s49 Z Q X1 l_3 l_3n l_3c t_6 t_6n t_6c f_7 n_9 row_10 i_11 := by kernel_rfl
def law06_ParseTokens.j50 (Z : List PanicEntry → PT) (Q : Bool → PT) (X1 : Option Addr → Nat → Nat → Option Addr → Nat → Nat → Int → Int → Int → Int → PT) : Fr → PT := (fun ρ => atL (ρ 3) fun l_3 l_3n l_3c => atL (ρ 6) fun t_6 t_6n t_6c => atI .i64 (ρ 7) fun f_7 => atI .i64 (ρ 9) fun n_9 => atI .i64 (ρ 10) fun row_10 => atI .i64 (ρ 11) fun i_11 => (law06_ParseTokens.s49 Z Q X1 l_3 l_3n l_3c t_6 t_6n t_6c f_7 n_9 row_10 i_11))
theorem law06_ParseTokens.s49_ok (Z : List PanicEntry → PT) (Q : Bool → PT) (X1 : Option Addr → Nat → Nat → Option Addr → Nat → Nat → Int → Int → Int → Int → PT) : Ok Try.prog Try.f4.ntmps Z law06_ParseTokens.c21 (law06_ParseTokens.q34 Z Q X1) (law06_ParseTokens.j50 Z Q X1) := by
  intro E he ρ w a hr h
  rw [law06_ParseTokens.q28] at he ⊢
  obtain ⟨l_3, l_3n, l_3c, e3, h⟩ := atL_e h
  obtain ⟨t_6, t_6n, t_6c, e6, h⟩ := atL_e h
  obtain ⟨f_7, e7, h⟩ := atI_e h
  obtain ⟨n_9, e9, h⟩ := atI_e h
  obtain ⟨row_10, e10, h⟩ := atI_e h
  obtain ⟨i_11, e11, h⟩ := atI_e h
  exact ok_at [(3, (Value.slice l_3 l_3n l_3c)), (6, (Value.slice t_6 t_6n t_6c)), (7, (Value.int .i64 f_7)), (9, (Value.int .i64 n_9)), (10, (Value.int .i64 row_10)), (11, (Value.int .i64 i_11))] (ok_seq (okC law06_ParseTokens.c26 _ (by kernel_rfl)) (law06_ParseTokens.o48 Z Q X1)) (puts_cons e3 (puts_cons e6 (puts_cons e7 (puts_cons e9 (puts_cons e10 (puts_cons e11 (fun p hp => puts_nil hp))))))) (law06_ParseTokens.s49_eq Z Q X1 ρ l_3 l_3n l_3c t_6 t_6n t_6c f_7 n_9 row_10 i_11) he hr h
def law06_ParseTokens.l23 (Z : List PanicEntry → PT) (Q : Bool → PT) : Nat → Option Addr → Nat → Nat → Option Addr → Nat → Nat → Int → Int → Int → Int → PT
  | 0, _, _, _, _, _, _, _, _, _, _ => bad
  | k + 1, l_3, l_3n, l_3c, t_6, t_6n, t_6c, f_7, n_9, row_10, i_11 => (law06_ParseTokens.s49 Z Q (law06_ParseTokens.l23 Z Q k) l_3 l_3n l_3c t_6 t_6n t_6c f_7 n_9 row_10 i_11)
def law06_ParseTokens.j51 (Z : List PanicEntry → PT) (Q : Bool → PT) (k : Nat) : Fr → PT := (fun ρ => atL (ρ 3) fun l_3 l_3n l_3c => atL (ρ 6) fun t_6 t_6n t_6c => atI .i64 (ρ 7) fun f_7 => atI .i64 (ρ 9) fun n_9 => atI .i64 (ρ 10) fun row_10 => atI .i64 (ρ 11) fun i_11 => (law06_ParseTokens.l23 Z Q k l_3 l_3n l_3c t_6 t_6n t_6c f_7 n_9 row_10 i_11))
def law06_ParseTokens.j52 (Z : List PanicEntry → PT) (Q : Bool → PT) : Fr → PT := (fun ρ => atL (ρ 3) fun l_3 l_3n l_3c => atL (ρ 6) fun t_6 t_6n t_6c => atI .i64 (ρ 7) fun f_7 => atI .i64 (ρ 9) fun n_9 => atI .i64 (ρ 10) fun row_10 => atI .i64 (ρ 11) fun i_11 => (exK fun k => law06_ParseTokens.l23 Z Q k l_3 l_3n l_3c t_6 t_6n t_6c f_7 n_9 row_10 i_11))
theorem law06_ParseTokens.o53 (Z : List PanicEntry → PT) (Q : Bool → PT) : Ok Try.prog Try.f4.ntmps Z law06_ParseTokens.c19 (law06_ParseTokens.q25 Z Q) (law06_ParseTokens.j52 Z Q) := by
  rw [law06_ParseTokens.q22]
  refine Ok.imp (ok_loop (J := law06_ParseTokens.j51 Z Q) ?_ ?_) ?_
  · intro ρ w h
    obtain ⟨l_3, l_3n, l_3c, e3, h⟩ := atL_e h
    obtain ⟨t_6, t_6n, t_6c, e6, h⟩ := atL_e h
    obtain ⟨f_7, e7, h⟩ := atI_e h
    obtain ⟨n_9, e9, h⟩ := atI_e h
    obtain ⟨row_10, e10, h⟩ := atI_e h
    obtain ⟨i_11, e11, h⟩ := atI_e h
    exact h
  · intro k
    refine Ok.imp (law06_ParseTokens.s49_ok Z Q (law06_ParseTokens.l23 Z Q k)) fun ρ w h => ?_
    obtain ⟨l_3, l_3n, l_3c, e3, h⟩ := atL_e h
    obtain ⟨t_6, t_6n, t_6c, e6, h⟩ := atL_e h
    obtain ⟨f_7, e7, h⟩ := atI_e h
    obtain ⟨n_9, e9, h⟩ := atI_e h
    obtain ⟨row_10, e10, h⟩ := atI_e h
    obtain ⟨i_11, e11, h⟩ := atI_e h
    show (law06_ParseTokens.j50 Z Q (law06_ParseTokens.l23 Z Q k)) ρ w
    simp only [law06_ParseTokens.j50]
    rw [e3]
    rw [e6]
    rw [e7]
    rw [e9]
    rw [e10]
    rw [e11]
    exact h
  · intro ρ w h
    obtain ⟨l_3, l_3n, l_3c, e3, h⟩ := atL_e h
    obtain ⟨t_6, t_6n, t_6c, e6, h⟩ := atL_e h
    obtain ⟨f_7, e7, h⟩ := atI_e h
    obtain ⟨n_9, e9, h⟩ := atI_e h
    obtain ⟨row_10, e10, h⟩ := atI_e h
    obtain ⟨i_11, e11, h⟩ := atI_e h
    obtain ⟨k, h⟩ := h
    refine ⟨k, ?_⟩
    show (atL (ρ 3) fun l_3 l_3n l_3c => atL (ρ 6) fun t_6 t_6n t_6c => atI .i64 (ρ 7) fun f_7 => atI .i64 (ρ 9) fun n_9 => atI .i64 (ρ 10) fun row_10 => atI .i64 (ρ 11) fun i_11 => (law06_ParseTokens.l23 Z Q k l_3 l_3n l_3c t_6 t_6n t_6c f_7 n_9 row_10 i_11)) w
    rw [e3]
    rw [e6]
    rw [e7]
    rw [e9]
    rw [e10]
    rw [e11]
    exact h
theorem law06_ParseTokens.o54 (Z : List PanicEntry → PT) (Q : Bool → PT) : Ok Try.prog Try.f4.ntmps Z law06_ParseTokens.c17 (law06_ParseTokens.q24 Z Q) (law06_ParseTokens.j52 Z Q) := by
  rw [law06_ParseTokens.q20]; exact ok_block (law06_ParseTokens.o53 Z Q)
def law06_ParseTokens.s55 (Z : List PanicEntry → PT) (Q : Bool → PT) (l_3 : Option Addr) (l_3n l_3c : Nat) (t_6 : Option Addr) (t_6n t_6c : Nat) (f_7 : Int) (n_9 : Int) (row_10 : Int) : PT :=
  (exK fun k => law06_ParseTokens.l23 Z Q k l_3 l_3n l_3c t_6 t_6n t_6c f_7 n_9 row_10 0)
theorem law06_ParseTokens.s55_eq (Z : List PanicEntry → PT) (Q : Bool → PT) (ρ : Fr) (l_3 : Option Addr) (l_3n l_3c : Nat) (t_6 : Option Addr) (t_6n t_6c : Nat) (f_7 : Int) (n_9 : Int) (row_10 : Int) : (comp Try.prog Z law06_ParseTokens.c16 (thenK (law06_ParseTokens.j52 Z Q) (law06_ParseTokens.q24 Z Q))) (puts ρ [(3, (Value.slice l_3 l_3n l_3c)), (6, (Value.slice t_6 t_6n t_6c)), (7, (Value.int .i64 f_7)), (9, (Value.int .i64 n_9)), (10, (Value.int .i64 row_10))]) = law06_ParseTokens.s55 Z Q l_3 l_3n l_3c t_6 t_6n t_6c f_7 n_9 row_10 := by kernel_rfl
def law06_ParseTokens.j56 (Z : List PanicEntry → PT) (Q : Bool → PT) : Fr → PT := (fun ρ => atL (ρ 3) fun l_3 l_3n l_3c => atL (ρ 6) fun t_6 t_6n t_6c => atI .i64 (ρ 7) fun f_7 => atI .i64 (ρ 9) fun n_9 => atI .i64 (ρ 10) fun row_10 => (law06_ParseTokens.s55 Z Q l_3 l_3n l_3c t_6 t_6n t_6c f_7 n_9 row_10))
theorem law06_ParseTokens.s55_ok (Z : List PanicEntry → PT) (Q : Bool → PT) : Ok Try.prog Try.f4.ntmps Z law06_ParseTokens.c10 (law06_ParseTokens.q24 Z Q) (law06_ParseTokens.j56 Z Q) := by
  intro E he ρ w a hr h
  rw [law06_ParseTokens.q18] at he ⊢
  obtain ⟨l_3, l_3n, l_3c, e3, h⟩ := atL_e h
  obtain ⟨t_6, t_6n, t_6c, e6, h⟩ := atL_e h
  obtain ⟨f_7, e7, h⟩ := atI_e h
  obtain ⟨n_9, e9, h⟩ := atI_e h
  obtain ⟨row_10, e10, h⟩ := atI_e h
  exact ok_at [(3, (Value.slice l_3 l_3n l_3c)), (6, (Value.slice t_6 t_6n t_6c)), (7, (Value.int .i64 f_7)), (9, (Value.int .i64 n_9)), (10, (Value.int .i64 row_10))] (ok_seq (okC law06_ParseTokens.c16 _ (by kernel_rfl)) (law06_ParseTokens.o54 Z Q)) (puts_cons e3 (puts_cons e6 (puts_cons e7 (puts_cons e9 (puts_cons e10 (fun p hp => puts_nil hp)))))) (law06_ParseTokens.s55_eq Z Q ρ l_3 l_3n l_3c t_6 t_6n t_6c f_7 n_9 row_10) he hr h
theorem law06_ParseTokens.o57 (Z : List PanicEntry → PT) (Q : Bool → PT) : Ok Try.prog Try.f4.ntmps Z law06_ParseTokens.c8 (law06_ParseTokens.q14 Z Q) (law06_ParseTokens.j56 Z Q) := by
  rw [law06_ParseTokens.q12]; exact ok_seq (law06_ParseTokens.s55_ok Z Q) (law06_ParseTokens.s13_ok Z Q)
def law06_ParseTokens.s58 (Z : List PanicEntry → PT) (Q : Bool → PT) (s_0 : ByteArray) : PT :=
  (cal Try.prog Z 6 [] (isB fun v94 => (pif (!v94) (Q false) (cal Try.prog Z 7 [(Value.string s_0)] (isT3 fun t95 t96 t97 => (isL fun v98 v98n v98c => ((isI .i64 fun v99 => ((isI .i64 fun v100 => (pif (v99 != 0) (Q true) (cal Try.prog Z 10 [(Value.string s_0)] (isT3 fun t101 t102 t103 => (isL fun v104 v104n v104c => ((isI .i64 fun v105 => ((isI .i64 fun v106 => (law06_ParseTokens.s55 Z Q v98 v98n v98c v104 v104n v104c v105 0 0)) t103)) t102)) t101)))) t97)) t96)) t95)))))
theorem law06_ParseTokens.s58_eq (Z : List PanicEntry → PT) (Q : Bool → PT) (ρ : Fr) (s_0 : ByteArray) : (comp Try.prog Z law06_ParseTokens.c1 (thenK (comp Try.prog Z law06_ParseTokens.c2 (thenK (comp Try.prog Z law06_ParseTokens.c3 (thenK (comp Try.prog Z law06_ParseTokens.c4 (thenK (comp Try.prog Z law06_ParseTokens.c5 (thenK (comp Try.prog Z law06_ParseTokens.c6 (thenK (comp Try.prog Z law06_ParseTokens.c7 (thenK (law06_ParseTokens.j56 Z Q) (law06_ParseTokens.q14 Z Q))) (law06_ParseTokens.q14 Z Q))) (law06_ParseTokens.q14 Z Q))) (law06_ParseTokens.q14 Z Q))) (law06_ParseTokens.q14 Z Q))) (law06_ParseTokens.q14 Z Q))) (law06_ParseTokens.q14 Z Q))) (puts ρ [(0, (Value.string s_0))]) = law06_ParseTokens.s58 Z Q s_0 := by kernel_rfl
def law06_ParseTokens.j59 (Z : List PanicEntry → PT) (Q : Bool → PT) : Fr → PT := (fun ρ => atS (ρ 0) fun s_0 => (law06_ParseTokens.s58 Z Q s_0))
theorem law06_ParseTokens.s58_ok (Z : List PanicEntry → PT) (Q : Bool → PT) : Ok Try.prog Try.f4.ntmps Z law06_ParseTokens.body (law06_ParseTokens.q14 Z Q) (law06_ParseTokens.j59 Z Q) := by
  intro E he ρ w a hr h
  rw [law06_ParseTokens.q9] at he ⊢
  obtain ⟨s_0, e0, h⟩ := atS_e h
  exact ok_at [(0, (Value.string s_0))] (ok_seq (okC law06_ParseTokens.c1 _ (by kernel_rfl)) (ok_seq (okC law06_ParseTokens.c2 _ (by kernel_rfl)) (ok_seq (okC law06_ParseTokens.c3 _ (by kernel_rfl)) (ok_seq (okC law06_ParseTokens.c4 _ (by kernel_rfl)) (ok_seq (okC law06_ParseTokens.c5 _ (by kernel_rfl)) (ok_seq (okC law06_ParseTokens.c6 _ (by kernel_rfl)) (ok_seq (okC law06_ParseTokens.c7 _ (by kernel_rfl)) (law06_ParseTokens.o57 Z Q)))))))) (puts_cons e0 (fun p hp => puts_nil hp)) (law06_ParseTokens.s58_eq Z Q ρ s_0) he hr h
def law06_ParseTokens.F (Z : List PanicEntry → PT) (Q : Bool → PT) (s_0 : ByteArray) : PT :=
  (law06_ParseTokens.s58 Z Q s_0)
theorem law06_ParseTokens.vc (Z : List PanicEntry → PT) (Q : Bool → PT) (s_0 : ByteArray) (w : World) (h : law06_ParseTokens.F Z Q s_0 w) : Calls Try.prog 4 ⟨[(Value.string s_0)]⟩ w fun e w' => (∃ (r0 : Bool), e = .returned (.bool r0) ∧ Q r0 w') ∨ ∃ c, e = .panicked c ∧ Z c w' := by
  refine (calls_of_ok (args := [(Value.string s_0)]) (w := w) (rs := [.tmp 2]) (fn := Try.f4) (c := law06_ParseTokens.body) Try.func4 (by kernel_rfl) (by kernel_rfl) (Nat.le_of_ble_eq_true (by kernel_rfl)) (law06_ParseTokens.s58_ok Z Q) (h)).mono fun e w' hR => ?_
  cases e with
  | returned v =>
    obtain ⟨va, rfl, hR⟩ := atB_e hR
    exact .inl ⟨va, rfl, hR⟩
  | panicked c => exact .inr ⟨c, rfl, hR⟩
  | outgrown => exact hR.elim
theorem law06_ParseTokens.vc0 (Q : Bool → PT) (s_0 : ByteArray) (w : World) (h : law06_ParseTokens.F Z0 Q s_0 w) : Calls Try.prog 4 ⟨[(Value.string s_0)]⟩ w fun e w' => (∃ (r0 : Bool), e = .returned (.bool r0) ∧ Q r0 w') :=
  (law06_ParseTokens.vc Z0 Q s_0 w h).mono fun _ _ hR => hR.elim id fun ⟨_, _, hz⟩ => hz.elim
theorem law06_ParseTokens.cal {Z : List PanicEntry → PT} {Q : Bool → PT} {s_0 : ByteArray} {w : World} (h : law06_ParseTokens.F Z Q s_0 w) : Go.Proofs.Ytimdpeolfhaajaa.cal Try.prog Z 4 [(Value.string s_0)] (isB fun r0 => Q r0) w := by
  refine (law06_ParseTokens.vc Z Q s_0 w h).mono fun e w' hR => ?_
  rcases hR with ⟨r0, rfl, h⟩ | ⟨c, rfl, h⟩
  · show (isB fun r0 => Q r0) (.bool r0) w'
    exact ⟨_, rfl, h⟩
  · exact h

/-! ### milepost/milepostlaw06.ParseMany: function 5 -/
noncomputable def law06_ParseMany.body : Code := bodyC Try.f5
noncomputable def law06_ParseMany.c1 : Code := sq1 law06_ParseMany.body
noncomputable def law06_ParseMany.c2 : Code := sq1 (sq2 law06_ParseMany.body)
noncomputable def law06_ParseMany.c3 : Code := sq1 (sq2 (sq2 law06_ParseMany.body))
noncomputable def law06_ParseMany.c4 : Code := sq1 (sq2 (sq2 (sq2 law06_ParseMany.body)))
noncomputable def law06_ParseMany.c5 : Code := sq2 (sq2 (sq2 (sq2 law06_ParseMany.body)))
theorem law06_ParseMany.q6 : law06_ParseMany.body = .seq law06_ParseMany.c1 (.seq law06_ParseMany.c2 (.seq law06_ParseMany.c3 (.seq law06_ParseMany.c4 law06_ParseMany.c5))) := by kernel_rfl
noncomputable def law06_ParseMany.c7 : Code := sq1 law06_ParseMany.c5
noncomputable def law06_ParseMany.c8 : Code := sq2 law06_ParseMany.c5
theorem law06_ParseMany.q9 : law06_ParseMany.c5 = .seq law06_ParseMany.c7 law06_ParseMany.c8 := by kernel_rfl
def law06_ParseMany.s10 (Z : List PanicEntry → PT) (Q : Bool → PT) (n_0 : Int) (s_3 : ByteArray) : PT :=
  (cal Try.prog Z 7 [(Value.string s_3)] (isT3 fun t17 t18 t19 => (isL fun v20 v20n v20c => ((isI .i64 fun v21 => ((isI .i64 fun v22 => (pif (decide (n_0 > 64)) (pif (v21 == 4) (pif (v22 == 640) (Q (((v20n : Nat) : Int) == 0)) (Q false)) (Q false)) (pif (v21 == 0) (Q (((v20n : Nat) : Int) == n_0)) (Q false)))) t19)) t18)) t17))
def law06_ParseMany.q11 (Z : List PanicEntry → PT) (Q : Bool → PT) : QF := bodyQ Try.prog [.tmp 2] (fun v => atB v fun va => Q va)
theorem law06_ParseMany.s10_eq (Z : List PanicEntry → PT) (Q : Bool → PT) (ρ : Fr) (n_0 : Int) (s_3 : ByteArray) : comp Try.prog Z law06_ParseMany.c8 (law06_ParseMany.q11 Z Q) (puts ρ [(0, (Value.int .i64 n_0)), (3, (Value.string s_3))]) = law06_ParseMany.s10 Z Q n_0 s_3 := by kernel_rfl
def law06_ParseMany.j12 (Z : List PanicEntry → PT) (Q : Bool → PT) : Fr → PT := (fun ρ => atI .i64 (ρ 0) fun n_0 => atS (ρ 3) fun s_3 => (law06_ParseMany.s10 Z Q n_0 s_3))
theorem law06_ParseMany.s10_ok (Z : List PanicEntry → PT) (Q : Bool → PT) : Ok Try.prog Try.f5.ntmps Z law06_ParseMany.c8 (law06_ParseMany.q11 Z Q) (law06_ParseMany.j12 Z Q) := by
  intro E he ρ w a hr h
  obtain ⟨n_0, e0, h⟩ := atI_e h
  obtain ⟨s_3, e3, h⟩ := atS_e h
  exact ok_at [(0, (Value.int .i64 n_0)), (3, (Value.string s_3))] (okC law06_ParseMany.c8 (law06_ParseMany.q11 Z Q) (by kernel_rfl)) (puts_cons e0 (puts_cons e3 (fun p hp => puts_nil hp))) (law06_ParseMany.s10_eq Z Q ρ n_0 s_3) he hr h
noncomputable def law06_ParseMany.c13 : Code := sq1 law06_ParseMany.c7
noncomputable def law06_ParseMany.c14 : Code := sq2 law06_ParseMany.c7
theorem law06_ParseMany.q15 : law06_ParseMany.c7 = .seq law06_ParseMany.c13 law06_ParseMany.c14 := by kernel_rfl
noncomputable def law06_ParseMany.c16 : Code := blk law06_ParseMany.c14
theorem law06_ParseMany.q17 : law06_ParseMany.c14 = .block 0 law06_ParseMany.c16 := by kernel_rfl
noncomputable def law06_ParseMany.c18 : Code := lop law06_ParseMany.c16
theorem law06_ParseMany.q19 : law06_ParseMany.c16 = .loop law06_ParseMany.c18 := by kernel_rfl
def law06_ParseMany.q21 (Z : List PanicEntry → PT) (Q : Bool → PT) : QF := thenK (law06_ParseMany.j12 Z Q) (law06_ParseMany.q11 Z Q)
def law06_ParseMany.q22 (Z : List PanicEntry → PT) (Q : Bool → PT) : QF := inBl 0 (law06_ParseMany.q21 Z Q)
def law06_ParseMany.s23 (Z : List PanicEntry → PT) (Q : Bool → PT) (X1 : Int → ByteArray → Int → PT) (n_0 : Int) (s_3 : ByteArray) (i_4 : Int) : PT :=
  (pif (decide (i_4 < n_0)) (cnd (((s_3.size + (⟨#[49, 32, 45, 62, 32, 100, 114, 111, 112, 10]⟩ : ByteArray).size : Nat) : Int) ≤ IntKind.max .i64) (X1 n_0 (s_3 ++ (⟨#[49, 32, 45, 62, 32, 100, 114, 111, 112, 10]⟩ : ByteArray)) (IntKind.wrap .i64 (i_4 + 1)))) (law06_ParseMany.s10 Z Q n_0 s_3))
def law06_ParseMany.j24 (Z : List PanicEntry → PT) (Q : Bool → PT) (X1 : Int → ByteArray → Int → PT) : Fr → PT := (fun ρ => atI .i64 (ρ 0) fun n_0 => atS (ρ 3) fun s_3 => atI .i64 (ρ 4) fun i_4 => (X1 n_0 s_3 i_4))
def law06_ParseMany.q25 (Z : List PanicEntry → PT) (Q : Bool → PT) (X1 : Int → ByteArray → Int → PT) : QF := thenK (law06_ParseMany.j24 Z Q X1) (law06_ParseMany.q22 Z Q)
theorem law06_ParseMany.s23_eq (Z : List PanicEntry → PT) (Q : Bool → PT) (X1 : Int → ByteArray → Int → PT) (ρ : Fr) (n_0 : Int) (s_3 : ByteArray) (i_4 : Int) : comp Try.prog Z law06_ParseMany.c18 (law06_ParseMany.q25 Z Q X1) (puts ρ [(0, (Value.int .i64 n_0)), (3, (Value.string s_3)), (4, (Value.int .i64 i_4))]) = law06_ParseMany.s23 Z Q X1 n_0 s_3 i_4 := by kernel_rfl
def law06_ParseMany.j26 (Z : List PanicEntry → PT) (Q : Bool → PT) (X1 : Int → ByteArray → Int → PT) : Fr → PT := (fun ρ => atI .i64 (ρ 0) fun n_0 => atS (ρ 3) fun s_3 => atI .i64 (ρ 4) fun i_4 => (law06_ParseMany.s23 Z Q X1 n_0 s_3 i_4))
theorem law06_ParseMany.s23_ok (Z : List PanicEntry → PT) (Q : Bool → PT) (X1 : Int → ByteArray → Int → PT) : Ok Try.prog Try.f5.ntmps Z law06_ParseMany.c18 (law06_ParseMany.q25 Z Q X1) (law06_ParseMany.j26 Z Q X1) := by
  intro E he ρ w a hr h
  obtain ⟨n_0, e0, h⟩ := atI_e h
  obtain ⟨s_3, e3, h⟩ := atS_e h
  obtain ⟨i_4, e4, h⟩ := atI_e h
  exact ok_at [(0, (Value.int .i64 n_0)), (3, (Value.string s_3)), (4, (Value.int .i64 i_4))] (okC law06_ParseMany.c18 (law06_ParseMany.q25 Z Q X1) (by kernel_rfl)) (puts_cons e0 (puts_cons e3 (puts_cons e4 (fun p hp => puts_nil hp)))) (law06_ParseMany.s23_eq Z Q X1 ρ n_0 s_3 i_4) he hr h
def law06_ParseMany.l20 (Z : List PanicEntry → PT) (Q : Bool → PT) : Nat → Int → ByteArray → Int → PT
  | 0, _, _, _ => bad
  | k + 1, n_0, s_3, i_4 => (law06_ParseMany.s23 Z Q (law06_ParseMany.l20 Z Q k) n_0 s_3 i_4)
def law06_ParseMany.j27 (Z : List PanicEntry → PT) (Q : Bool → PT) (k : Nat) : Fr → PT := (fun ρ => atI .i64 (ρ 0) fun n_0 => atS (ρ 3) fun s_3 => atI .i64 (ρ 4) fun i_4 => (law06_ParseMany.l20 Z Q k n_0 s_3 i_4))
def law06_ParseMany.j28 (Z : List PanicEntry → PT) (Q : Bool → PT) : Fr → PT := (fun ρ => atI .i64 (ρ 0) fun n_0 => atS (ρ 3) fun s_3 => atI .i64 (ρ 4) fun i_4 => (exK fun k => law06_ParseMany.l20 Z Q k n_0 s_3 i_4))
theorem law06_ParseMany.o29 (Z : List PanicEntry → PT) (Q : Bool → PT) : Ok Try.prog Try.f5.ntmps Z law06_ParseMany.c16 (law06_ParseMany.q22 Z Q) (law06_ParseMany.j28 Z Q) := by
  rw [law06_ParseMany.q19]
  refine Ok.imp (ok_loop (J := law06_ParseMany.j27 Z Q) ?_ ?_) ?_
  · intro ρ w h
    obtain ⟨n_0, e0, h⟩ := atI_e h
    obtain ⟨s_3, e3, h⟩ := atS_e h
    obtain ⟨i_4, e4, h⟩ := atI_e h
    exact h
  · intro k
    refine Ok.imp (law06_ParseMany.s23_ok Z Q (law06_ParseMany.l20 Z Q k)) fun ρ w h => ?_
    obtain ⟨n_0, e0, h⟩ := atI_e h
    obtain ⟨s_3, e3, h⟩ := atS_e h
    obtain ⟨i_4, e4, h⟩ := atI_e h
    show (law06_ParseMany.j26 Z Q (law06_ParseMany.l20 Z Q k)) ρ w
    simp only [law06_ParseMany.j26]
    rw [e0]
    rw [e3]
    rw [e4]
    exact h
  · intro ρ w h
    obtain ⟨n_0, e0, h⟩ := atI_e h
    obtain ⟨s_3, e3, h⟩ := atS_e h
    obtain ⟨i_4, e4, h⟩ := atI_e h
    obtain ⟨k, h⟩ := h
    refine ⟨k, ?_⟩
    show (atI .i64 (ρ 0) fun n_0 => atS (ρ 3) fun s_3 => atI .i64 (ρ 4) fun i_4 => (law06_ParseMany.l20 Z Q k n_0 s_3 i_4)) w
    rw [e0]
    rw [e3]
    rw [e4]
    exact h
theorem law06_ParseMany.o30 (Z : List PanicEntry → PT) (Q : Bool → PT) : Ok Try.prog Try.f5.ntmps Z law06_ParseMany.c14 (law06_ParseMany.q21 Z Q) (law06_ParseMany.j28 Z Q) := by
  rw [law06_ParseMany.q17]; exact ok_block (law06_ParseMany.o29 Z Q)
def law06_ParseMany.s31 (Z : List PanicEntry → PT) (Q : Bool → PT) (n_0 : Int) (s_3 : ByteArray) : PT :=
  (exK fun k => law06_ParseMany.l20 Z Q k n_0 s_3 0)
theorem law06_ParseMany.s31_eq (Z : List PanicEntry → PT) (Q : Bool → PT) (ρ : Fr) (n_0 : Int) (s_3 : ByteArray) : (comp Try.prog Z law06_ParseMany.c13 (thenK (law06_ParseMany.j28 Z Q) (law06_ParseMany.q21 Z Q))) (puts ρ [(0, (Value.int .i64 n_0)), (3, (Value.string s_3))]) = law06_ParseMany.s31 Z Q n_0 s_3 := by kernel_rfl
def law06_ParseMany.j32 (Z : List PanicEntry → PT) (Q : Bool → PT) : Fr → PT := (fun ρ => atI .i64 (ρ 0) fun n_0 => atS (ρ 3) fun s_3 => (law06_ParseMany.s31 Z Q n_0 s_3))
theorem law06_ParseMany.s31_ok (Z : List PanicEntry → PT) (Q : Bool → PT) : Ok Try.prog Try.f5.ntmps Z law06_ParseMany.c7 (law06_ParseMany.q21 Z Q) (law06_ParseMany.j32 Z Q) := by
  intro E he ρ w a hr h
  rw [law06_ParseMany.q15] at he ⊢
  obtain ⟨n_0, e0, h⟩ := atI_e h
  obtain ⟨s_3, e3, h⟩ := atS_e h
  exact ok_at [(0, (Value.int .i64 n_0)), (3, (Value.string s_3))] (ok_seq (okC law06_ParseMany.c13 _ (by kernel_rfl)) (law06_ParseMany.o30 Z Q)) (puts_cons e0 (puts_cons e3 (fun p hp => puts_nil hp))) (law06_ParseMany.s31_eq Z Q ρ n_0 s_3) he hr h
theorem law06_ParseMany.o33 (Z : List PanicEntry → PT) (Q : Bool → PT) : Ok Try.prog Try.f5.ntmps Z law06_ParseMany.c5 (law06_ParseMany.q11 Z Q) (law06_ParseMany.j32 Z Q) := by
  rw [law06_ParseMany.q9]; exact ok_seq (law06_ParseMany.s31_ok Z Q) (law06_ParseMany.s10_ok Z Q)
def law06_ParseMany.s34 (Z : List PanicEntry → PT) (Q : Bool → PT) (n_0 : Int) : PT :=
  (cal Try.prog Z 6 [] (isB fun v23 => (pif (!v23) (Q false) (law06_ParseMany.s31 Z Q (IntKind.wrap .i64 (BitVec.ofInt (IntKind.bits .i64) n_0 &&& BitVec.ofInt (IntKind.bits .i64) 127).toNat) ⟨#[]⟩))))
theorem law06_ParseMany.s34_eq (Z : List PanicEntry → PT) (Q : Bool → PT) (ρ : Fr) (n_0 : Int) : (comp Try.prog Z law06_ParseMany.c1 (thenK (comp Try.prog Z law06_ParseMany.c2 (thenK (comp Try.prog Z law06_ParseMany.c3 (thenK (comp Try.prog Z law06_ParseMany.c4 (thenK (law06_ParseMany.j32 Z Q) (law06_ParseMany.q11 Z Q))) (law06_ParseMany.q11 Z Q))) (law06_ParseMany.q11 Z Q))) (law06_ParseMany.q11 Z Q))) (puts ρ [(0, (Value.int .i64 n_0))]) = law06_ParseMany.s34 Z Q n_0 := by kernel_rfl
def law06_ParseMany.j35 (Z : List PanicEntry → PT) (Q : Bool → PT) : Fr → PT := (fun ρ => atI .i64 (ρ 0) fun n_0 => (law06_ParseMany.s34 Z Q n_0))
theorem law06_ParseMany.s34_ok (Z : List PanicEntry → PT) (Q : Bool → PT) : Ok Try.prog Try.f5.ntmps Z law06_ParseMany.body (law06_ParseMany.q11 Z Q) (law06_ParseMany.j35 Z Q) := by
  intro E he ρ w a hr h
  rw [law06_ParseMany.q6] at he ⊢
  obtain ⟨n_0, e0, h⟩ := atI_e h
  exact ok_at [(0, (Value.int .i64 n_0))] (ok_seq (okC law06_ParseMany.c1 _ (by kernel_rfl)) (ok_seq (okC law06_ParseMany.c2 _ (by kernel_rfl)) (ok_seq (okC law06_ParseMany.c3 _ (by kernel_rfl)) (ok_seq (okC law06_ParseMany.c4 _ (by kernel_rfl)) (law06_ParseMany.o33 Z Q))))) (puts_cons e0 (fun p hp => puts_nil hp)) (law06_ParseMany.s34_eq Z Q ρ n_0) he hr h
def law06_ParseMany.F (Z : List PanicEntry → PT) (Q : Bool → PT) (n_0 : Int) : PT :=
  (law06_ParseMany.s34 Z Q n_0)
theorem law06_ParseMany.vc (Z : List PanicEntry → PT) (Q : Bool → PT) (n_0 : Int) (w : World) (h : law06_ParseMany.F Z Q n_0 w) : Calls Try.prog 5 ⟨[(Value.int .i64 n_0)]⟩ w fun e w' => (∃ (r0 : Bool), e = .returned (.bool r0) ∧ Q r0 w') ∨ ∃ c, e = .panicked c ∧ Z c w' := by
  refine (calls_of_ok (args := [(Value.int .i64 n_0)]) (w := w) (rs := [.tmp 2]) (fn := Try.f5) (c := law06_ParseMany.body) Try.func5 (by kernel_rfl) (by kernel_rfl) (Nat.le_of_ble_eq_true (by kernel_rfl)) (law06_ParseMany.s34_ok Z Q) (h)).mono fun e w' hR => ?_
  cases e with
  | returned v =>
    obtain ⟨va, rfl, hR⟩ := atB_e hR
    exact .inl ⟨va, rfl, hR⟩
  | panicked c => exact .inr ⟨c, rfl, hR⟩
  | outgrown => exact hR.elim
theorem law06_ParseMany.vc0 (Q : Bool → PT) (n_0 : Int) (w : World) (h : law06_ParseMany.F Z0 Q n_0 w) : Calls Try.prog 5 ⟨[(Value.int .i64 n_0)]⟩ w fun e w' => (∃ (r0 : Bool), e = .returned (.bool r0) ∧ Q r0 w') :=
  (law06_ParseMany.vc Z0 Q n_0 w h).mono fun _ _ hR => hR.elim id fun ⟨_, _, hz⟩ => hz.elim
theorem law06_ParseMany.cal {Z : List PanicEntry → PT} {Q : Bool → PT} {n_0 : Int} {w : World} (h : law06_ParseMany.F Z Q n_0 w) : Go.Proofs.Ytimdpeolfhaajaa.cal Try.prog Z 5 [(Value.int .i64 n_0)] (isB fun r0 => Q r0) w := by
  refine (law06_ParseMany.vc Z Q n_0 w h).mono fun e w' hR => ?_
  rcases hR with ⟨r0, rfl, h⟩ | ⟨c, rfl, h⟩
  · show (isB fun r0 => Q r0) (.bool r0) w'
    exact ⟨_, rfl, h⟩
  · exact h

end Go.Proofs.Ytimdpeolfhaajaa
