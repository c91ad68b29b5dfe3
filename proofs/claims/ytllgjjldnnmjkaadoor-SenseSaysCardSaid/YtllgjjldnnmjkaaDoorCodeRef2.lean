/-
  The reading of the code of 5 functions, printed by gen.py off the translation; no condition.
-/
import Derived.Test.YtllgjjldnnmjkaaDoorWlFacts
namespace Go.Proofs.YtllgjjldnnmjkaaDoor
open Go.RowKit
set_option linter.unusedVariables false
set_option maxRecDepth 100000

/-! ### milepost/milepostref07.Begins: function 34 -/
noncomputable def ref07_Begins.body : Code := bodyC Tryd.f34
noncomputable def ref07_Begins.c1 : Code := sq1 ref07_Begins.body
noncomputable def ref07_Begins.c2 : Code := sq2 ref07_Begins.body
theorem ref07_Begins.q3 : ref07_Begins.body = .seq ref07_Begins.c1 ref07_Begins.c2 := by kernel_rfl
noncomputable def ref07_Begins.c4 : Code := sq1 ref07_Begins.c2
noncomputable def ref07_Begins.c5 : Code := sq2 ref07_Begins.c2
theorem ref07_Begins.q6 : ref07_Begins.c2 = .seq ref07_Begins.c4 ref07_Begins.c5 := by kernel_rfl
def ref07_Begins.s7 (Z : List PanicEntry → PT) (Q : Bool → PT)  : PT :=
  (Q true)
def ref07_Begins.q8 (Z : List PanicEntry → PT) (Q : Bool → PT) : QF := bodyQ Tryd.prog [.tmp 6] (fun v => atB v fun va => Q va)
theorem ref07_Begins.s7_eq (Z : List PanicEntry → PT) (Q : Bool → PT) (ρ : Fr)  : comp Tryd.prog Z ref07_Begins.c5 (ref07_Begins.q8 Z Q) (puts ρ []) = ref07_Begins.s7 Z Q  := by kernel_rfl
def ref07_Begins.j9 (Z : List PanicEntry → PT) (Q : Bool → PT) : Fr → PT := (fun ρ => (ref07_Begins.s7 Z Q ))
theorem ref07_Begins.s7_ok (Z : List PanicEntry → PT) (Q : Bool → PT) : Ok Tryd.prog Tryd.f34.ntmps Z ref07_Begins.c5 (ref07_Begins.q8 Z Q) (ref07_Begins.j9 Z Q) := by
  intro E he ρ w a hr h
  exact ok_at [] (okC ref07_Begins.c5 (ref07_Begins.q8 Z Q) (by kernel_rfl)) (fun p hp => puts_nil hp) (ref07_Begins.s7_eq Z Q ρ ) he hr h
noncomputable def ref07_Begins.c10 : Code := sq1 ref07_Begins.c4
noncomputable def ref07_Begins.c11 : Code := sq2 ref07_Begins.c4
theorem ref07_Begins.q12 : ref07_Begins.c4 = .seq ref07_Begins.c10 ref07_Begins.c11 := by kernel_rfl
noncomputable def ref07_Begins.c13 : Code := blk ref07_Begins.c11
theorem ref07_Begins.q14 : ref07_Begins.c11 = .block 0 ref07_Begins.c13 := by kernel_rfl
noncomputable def ref07_Begins.c15 : Code := lop ref07_Begins.c13
theorem ref07_Begins.q16 : ref07_Begins.c13 = .loop ref07_Begins.c15 := by kernel_rfl
def ref07_Begins.q18 (Z : List PanicEntry → PT) (Q : Bool → PT) : QF := thenK (ref07_Begins.j9 Z Q) (ref07_Begins.q8 Z Q)
def ref07_Begins.q19 (Z : List PanicEntry → PT) (Q : Bool → PT) : QF := inBl 0 (ref07_Begins.q18 Z Q)
def ref07_Begins.s20 (Z : List PanicEntry → PT) (Q : Bool → PT) (X1 : Int → Int → Int → Int → PT) (a_0 : Int) (b_1 : Int) (n_2 : Int) (k_7 : Int) : PT :=
  (pif (decide (k_7 < n_2)) (pif (decide (k_7 < 32)) (drew0 (cnd ((0 : Int) ≤ (IntKind.wrap .i64 ((31 : Int) - k_7))) (cnd ((2 : Int) ≠ 0) (cnd ((0 : Int) ≤ (IntKind.wrap .i64 ((31 : Int) - k_7))) (cnd ((2 : Int) ≠ 0) (pif ((Int.tmod (Int.fdiv a_0 (2 ^ (min (IntKind.wrap .i64 ((31 : Int) - k_7)).toNat (IntKind.bits .u32)))) 2) != (Int.tmod (Int.fdiv b_1 (2 ^ (min (IntKind.wrap .i64 ((31 : Int) - k_7)).toNat (IntKind.bits .u32)))) 2)) (Q false) (X1 a_0 b_1 n_2 (IntKind.wrap .i64 (k_7 + 1))))))))) (ref07_Begins.s7 Z Q )) (ref07_Begins.s7 Z Q ))
def ref07_Begins.j21 (Z : List PanicEntry → PT) (Q : Bool → PT) (X1 : Int → Int → Int → Int → PT) : Fr → PT := (fun ρ => atI .u32 (ρ 0) fun a_0 => atI .u32 (ρ 1) fun b_1 => atI .i64 (ρ 2) fun n_2 => atI .i64 (ρ 7) fun k_7 => (X1 a_0 b_1 n_2 k_7))
def ref07_Begins.q22 (Z : List PanicEntry → PT) (Q : Bool → PT) (X1 : Int → Int → Int → Int → PT) : QF := thenK (ref07_Begins.j21 Z Q X1) (ref07_Begins.q19 Z Q)
theorem ref07_Begins.s20_eq (Z : List PanicEntry → PT) (Q : Bool → PT) (X1 : Int → Int → Int → Int → PT) (ρ : Fr) (a_0 : Int) (b_1 : Int) (n_2 : Int) (k_7 : Int) : comp Tryd.prog Z ref07_Begins.c15 (ref07_Begins.q22 Z Q X1) (puts ρ [(0, (Value.int .u32 a_0)), (1, (Value.int .u32 b_1)), (2, (Value.int .i64 n_2)), (7, (Value.int .i64 k_7))]) = ref07_Begins.s20 Z Q X1 a_0 b_1 n_2 k_7 := by kernel_rfl
def ref07_Begins.j23 (Z : List PanicEntry → PT) (Q : Bool → PT) (X1 : Int → Int → Int → Int → PT) : Fr → PT := (fun ρ => atI .u32 (ρ 0) fun a_0 => atI .u32 (ρ 1) fun b_1 => atI .i64 (ρ 2) fun n_2 => atI .i64 (ρ 7) fun k_7 => (ref07_Begins.s20 Z Q X1 a_0 b_1 n_2 k_7))
theorem ref07_Begins.s20_ok (Z : List PanicEntry → PT) (Q : Bool → PT) (X1 : Int → Int → Int → Int → PT) : Ok Tryd.prog Tryd.f34.ntmps Z ref07_Begins.c15 (ref07_Begins.q22 Z Q X1) (ref07_Begins.j23 Z Q X1) := by
  intro E he ρ w a hr h
  obtain ⟨a_0, e0, h⟩ := atI_e h
  obtain ⟨b_1, e1, h⟩ := atI_e h
  obtain ⟨n_2, e2, h⟩ := atI_e h
  obtain ⟨k_7, e7, h⟩ := atI_e h
  exact ok_at [(0, (Value.int .u32 a_0)), (1, (Value.int .u32 b_1)), (2, (Value.int .i64 n_2)), (7, (Value.int .i64 k_7))] (okC ref07_Begins.c15 (ref07_Begins.q22 Z Q X1) (by kernel_rfl)) (puts_cons e0 (puts_cons e1 (puts_cons e2 (puts_cons e7 (fun p hp => puts_nil hp))))) (ref07_Begins.s20_eq Z Q X1 ρ a_0 b_1 n_2 k_7) he hr h
def ref07_Begins.l17 (Z : List PanicEntry → PT) (Q : Bool → PT) : Nat → Int → Int → Int → Int → PT
  | 0, _, _, _, _ => bad
  | k + 1, a_0, b_1, n_2, k_7 => (ref07_Begins.s20 Z Q (ref07_Begins.l17 Z Q k) a_0 b_1 n_2 k_7)
def ref07_Begins.j24 (Z : List PanicEntry → PT) (Q : Bool → PT) (k : Nat) : Fr → PT := (fun ρ => atI .u32 (ρ 0) fun a_0 => atI .u32 (ρ 1) fun b_1 => atI .i64 (ρ 2) fun n_2 => atI .i64 (ρ 7) fun k_7 => (ref07_Begins.l17 Z Q k a_0 b_1 n_2 k_7))
def ref07_Begins.j25 (Z : List PanicEntry → PT) (Q : Bool → PT) : Fr → PT := (fun ρ => atI .u32 (ρ 0) fun a_0 => atI .u32 (ρ 1) fun b_1 => atI .i64 (ρ 2) fun n_2 => atI .i64 (ρ 7) fun k_7 => (exK fun k => ref07_Begins.l17 Z Q k a_0 b_1 n_2 k_7))
theorem ref07_Begins.o26 (Z : List PanicEntry → PT) (Q : Bool → PT) : Ok Tryd.prog Tryd.f34.ntmps Z ref07_Begins.c13 (ref07_Begins.q19 Z Q) (ref07_Begins.j25 Z Q) := by
  rw [ref07_Begins.q16]
  refine Ok.imp (ok_loop (J := ref07_Begins.j24 Z Q) ?_ ?_) ?_
  · intro ρ w h
    obtain ⟨a_0, e0, h⟩ := atI_e h
    obtain ⟨b_1, e1, h⟩ := atI_e h
    obtain ⟨n_2, e2, h⟩ := atI_e h
    obtain ⟨k_7, e7, h⟩ := atI_e h
    exact h
  · intro k
    refine Ok.imp (ref07_Begins.s20_ok Z Q (ref07_Begins.l17 Z Q k)) fun ρ w h => ?_
    obtain ⟨a_0, e0, h⟩ := atI_e h
    obtain ⟨b_1, e1, h⟩ := atI_e h
    obtain ⟨n_2, e2, h⟩ := atI_e h
    obtain ⟨k_7, e7, h⟩ := atI_e h
    show (ref07_Begins.j23 Z Q (ref07_Begins.l17 Z Q k)) ρ w
    simp only [ref07_Begins.j23]
    rw [e0]
    rw [e1]
    rw [e2]
    rw [e7]
    exact h
  · intro ρ w h
    obtain ⟨a_0, e0, h⟩ := atI_e h
    obtain ⟨b_1, e1, h⟩ := atI_e h
    obtain ⟨n_2, e2, h⟩ := atI_e h
    obtain ⟨k_7, e7, h⟩ := atI_e h
    obtain ⟨k, h⟩ := h
    refine ⟨k, ?_⟩
    show (atI .u32 (ρ 0) fun a_0 => atI .u32 (ρ 1) fun b_1 => atI .i64 (ρ 2) fun n_2 => atI .i64 (ρ 7) fun k_7 => (ref07_Begins.l17 Z Q k a_0 b_1 n_2 k_7)) w
    rw [e0]
    rw [e1]
    rw [e2]
    rw [e7]
    exact h
theorem ref07_Begins.o27 (Z : List PanicEntry → PT) (Q : Bool → PT) : Ok Tryd.prog Tryd.f34.ntmps Z ref07_Begins.c11 (ref07_Begins.q18 Z Q) (ref07_Begins.j25 Z Q) := by
  rw [ref07_Begins.q14]; exact ok_block (ref07_Begins.o26 Z Q)
def ref07_Begins.s28 (Z : List PanicEntry → PT) (Q : Bool → PT) (a_0 : Int) (b_1 : Int) (n_2 : Int) : PT :=
  (exK fun k => ref07_Begins.l17 Z Q k a_0 b_1 n_2 0)
theorem ref07_Begins.s28_eq (Z : List PanicEntry → PT) (Q : Bool → PT) (ρ : Fr) (a_0 : Int) (b_1 : Int) (n_2 : Int) : (comp Tryd.prog Z ref07_Begins.c10 (thenK (ref07_Begins.j25 Z Q) (ref07_Begins.q18 Z Q))) (puts ρ [(0, (Value.int .u32 a_0)), (1, (Value.int .u32 b_1)), (2, (Value.int .i64 n_2))]) = ref07_Begins.s28 Z Q a_0 b_1 n_2 := by kernel_rfl
def ref07_Begins.j29 (Z : List PanicEntry → PT) (Q : Bool → PT) : Fr → PT := (fun ρ => atI .u32 (ρ 0) fun a_0 => atI .u32 (ρ 1) fun b_1 => atI .i64 (ρ 2) fun n_2 => (ref07_Begins.s28 Z Q a_0 b_1 n_2))
theorem ref07_Begins.s28_ok (Z : List PanicEntry → PT) (Q : Bool → PT) : Ok Tryd.prog Tryd.f34.ntmps Z ref07_Begins.c4 (ref07_Begins.q18 Z Q) (ref07_Begins.j29 Z Q) := by
  intro E he ρ w a hr h
  rw [ref07_Begins.q12] at he ⊢
  obtain ⟨a_0, e0, h⟩ := atI_e h
  obtain ⟨b_1, e1, h⟩ := atI_e h
  obtain ⟨n_2, e2, h⟩ := atI_e h
  exact ok_at [(0, (Value.int .u32 a_0)), (1, (Value.int .u32 b_1)), (2, (Value.int .i64 n_2))] (ok_seq (okC ref07_Begins.c10 _ (by kernel_rfl)) (ref07_Begins.o27 Z Q)) (puts_cons e0 (puts_cons e1 (puts_cons e2 (fun p hp => puts_nil hp)))) (ref07_Begins.s28_eq Z Q ρ a_0 b_1 n_2) he hr h
theorem ref07_Begins.o30 (Z : List PanicEntry → PT) (Q : Bool → PT) : Ok Tryd.prog Tryd.f34.ntmps Z ref07_Begins.c2 (ref07_Begins.q8 Z Q) (ref07_Begins.j29 Z Q) := by
  rw [ref07_Begins.q6]; exact ok_seq (ref07_Begins.s28_ok Z Q) (ref07_Begins.s7_ok Z Q)
def ref07_Begins.s31 (Z : List PanicEntry → PT) (Q : Bool → PT) (a_0 : Int) (b_1 : Int) (n_2 : Int) : PT :=
  (ref07_Begins.s28 Z Q a_0 b_1 n_2)
theorem ref07_Begins.s31_eq (Z : List PanicEntry → PT) (Q : Bool → PT) (ρ : Fr) (a_0 : Int) (b_1 : Int) (n_2 : Int) : (comp Tryd.prog Z ref07_Begins.c1 (thenK (ref07_Begins.j29 Z Q) (ref07_Begins.q8 Z Q))) (puts ρ [(0, (Value.int .u32 a_0)), (1, (Value.int .u32 b_1)), (2, (Value.int .i64 n_2))]) = ref07_Begins.s31 Z Q a_0 b_1 n_2 := by kernel_rfl
def ref07_Begins.j32 (Z : List PanicEntry → PT) (Q : Bool → PT) : Fr → PT := (fun ρ => atI .u32 (ρ 0) fun a_0 => atI .u32 (ρ 1) fun b_1 => atI .i64 (ρ 2) fun n_2 => (ref07_Begins.s31 Z Q a_0 b_1 n_2))
theorem ref07_Begins.s31_ok (Z : List PanicEntry → PT) (Q : Bool → PT) : Ok Tryd.prog Tryd.f34.ntmps Z ref07_Begins.body (ref07_Begins.q8 Z Q) (ref07_Begins.j32 Z Q) := by
  intro E he ρ w a hr h
  rw [ref07_Begins.q3] at he ⊢
  obtain ⟨a_0, e0, h⟩ := atI_e h
  obtain ⟨b_1, e1, h⟩ := atI_e h
  obtain ⟨n_2, e2, h⟩ := atI_e h
  exact ok_at [(0, (Value.int .u32 a_0)), (1, (Value.int .u32 b_1)), (2, (Value.int .i64 n_2))] (ok_seq (okC ref07_Begins.c1 _ (by kernel_rfl)) (ref07_Begins.o30 Z Q)) (puts_cons e0 (puts_cons e1 (puts_cons e2 (fun p hp => puts_nil hp)))) (ref07_Begins.s31_eq Z Q ρ a_0 b_1 n_2) he hr h
def ref07_Begins.F (Z : List PanicEntry → PT) (Q : Bool → PT) (a_0 : Int) (b_1 : Int) (n_2 : Int) : PT :=
  (ref07_Begins.s31 Z Q a_0 b_1 n_2)
theorem ref07_Begins.vc (Z : List PanicEntry → PT) (Q : Bool → PT) (a_0 : Int) (b_1 : Int) (n_2 : Int) (w : World) (h : ref07_Begins.F Z Q a_0 b_1 n_2 w) : Calls Tryd.prog 34 ⟨[(Value.int .u32 a_0), (Value.int .u32 b_1), (Value.int .i64 n_2)]⟩ w fun e w' => (∃ (r0 : Bool), e = .returned (.bool r0) ∧ Q r0 w') ∨ ∃ c, e = .panicked c ∧ Z c w' := by
  refine (calls_of_ok (args := [(Value.int .u32 a_0), (Value.int .u32 b_1), (Value.int .i64 n_2)]) (w := w) (rs := [.tmp 6]) (fn := Tryd.f34) (c := ref07_Begins.body) Tryd.func34 (by kernel_rfl) (by kernel_rfl) (Nat.le_of_ble_eq_true (by kernel_rfl)) (ref07_Begins.s31_ok Z Q) (h)).mono fun e w' hR => ?_
  cases e with
  | returned v =>
    obtain ⟨va, rfl, hR⟩ := atB_e hR
    exact .inl ⟨va, rfl, hR⟩
  | panicked c => exact .inr ⟨c, rfl, hR⟩
  | outgrown => exact hR.elim
theorem ref07_Begins.vc0 (Q : Bool → PT) (a_0 : Int) (b_1 : Int) (n_2 : Int) (w : World) (h : ref07_Begins.F Z0 Q a_0 b_1 n_2 w) : Calls Tryd.prog 34 ⟨[(Value.int .u32 a_0), (Value.int .u32 b_1), (Value.int .i64 n_2)]⟩ w fun e w' => (∃ (r0 : Bool), e = .returned (.bool r0) ∧ Q r0 w') :=
  (ref07_Begins.vc Z0 Q a_0 b_1 n_2 w h).mono fun _ _ hR => hR.elim id fun ⟨_, _, hz⟩ => hz.elim
theorem ref07_Begins.cal {Z : List PanicEntry → PT} {Q : Bool → PT} {a_0 : Int} {b_1 : Int} {n_2 : Int} {w : World} (h : ref07_Begins.F Z Q a_0 b_1 n_2 w) : Go.Proofs.YtllgjjldnnmjkaaDoor.cal Tryd.prog Z 34 [(Value.int .u32 a_0), (Value.int .u32 b_1), (Value.int .i64 n_2)] (isB fun r0 => Q r0) w := by
  refine (ref07_Begins.vc Z Q a_0 b_1 n_2 w h).mono fun e w' hR => ?_
  rcases hR with ⟨r0, rfl, h⟩ | ⟨c, rfl, h⟩
  · show (isB fun r0 => Q r0) (.bool r0) w'
    exact ⟨_, rfl, h⟩
  · exact h

/-! ### milepost/milepostref07.number: function 35 -/
noncomputable def ref07_number.body : Code := bodyC Tryd.f35
def ref07_number.F (Z : List PanicEntry → PT) (Q : Int → PT) (h_0 : List Value) (f_1 : Int) : PT :=
  (newC 37 h_0 fun h8 => (ldN 13 h8 fun v9 => (cal Tryd.prog Z 56 [(Value.agg ⟨v9⟩), (Value.int .i64 f_1)] (isT2 fun t10 t11 => (isI .u32 fun v12 => ((isI .i64 fun v13 => (Q (IntKind.wrap .i64 v12))) t11)) t10))))
def ref07_number.q1 (Z : List PanicEntry → PT) (Q : Int → PT) : QF := bodyQ Tryd.prog [.tmp 4] (fun v => atI .i64 v fun va => Q va)
theorem ref07_number.eq (Z : List PanicEntry → PT) (Q : Int → PT) (h_0 : List Value) (f_1 : Int) : comp Tryd.prog Z ref07_number.body (ref07_number.q1 Z Q) (fr0 [(Value.agg ⟨h_0⟩), (Value.int .i64 f_1)]) = ref07_number.F Z Q h_0 f_1 := by kernel_rfl
theorem ref07_number.vc (Z : List PanicEntry → PT) (Q : Int → PT) (h_0 : List Value) (f_1 : Int) (w : World) (h : ref07_number.F Z Q h_0 f_1 w) : Calls Tryd.prog 35 ⟨[(Value.agg ⟨h_0⟩), (Value.int .i64 f_1)]⟩ w fun e w' => (∃ (r0 : Int), e = .returned (.int .i64 r0) ∧ Q r0 w') ∨ ∃ c, e = .panicked c ∧ Z c w' := by
  refine (calls_of_ok (args := [(Value.agg ⟨h_0⟩), (Value.int .i64 f_1)]) (w := w) (rs := [.tmp 4]) (fn := Tryd.f35) (c := ref07_number.body) Tryd.func35 (by kernel_rfl) (by kernel_rfl) (Nat.le_of_ble_eq_true (by kernel_rfl)) (okC ref07_number.body (ref07_number.q1 Z Q) (by kernel_rfl)) (by rw [ref07_number.eq]; exact h)).mono fun e w' hR => ?_
  cases e with
  | returned v =>
    obtain ⟨va, rfl, hR⟩ := atI_e hR
    exact .inl ⟨va, rfl, hR⟩
  | panicked c => exact .inr ⟨c, rfl, hR⟩
  | outgrown => exact hR.elim
theorem ref07_number.vc0 (Q : Int → PT) (h_0 : List Value) (f_1 : Int) (w : World) (h : ref07_number.F Z0 Q h_0 f_1 w) : Calls Tryd.prog 35 ⟨[(Value.agg ⟨h_0⟩), (Value.int .i64 f_1)]⟩ w fun e w' => (∃ (r0 : Int), e = .returned (.int .i64 r0) ∧ Q r0 w') :=
  (ref07_number.vc Z0 Q h_0 f_1 w h).mono fun _ _ hR => hR.elim id fun ⟨_, _, hz⟩ => hz.elim
theorem ref07_number.cal {Z : List PanicEntry → PT} {Q : Int → PT} {h_0 : List Value} {f_1 : Int} {w : World} (h : ref07_number.F Z Q h_0 f_1 w) : Go.Proofs.YtllgjjldnnmjkaaDoor.cal Tryd.prog Z 35 [(Value.agg ⟨h_0⟩), (Value.int .i64 f_1)] (isI .i64 fun r0 => Q r0) w := by
  refine (ref07_number.vc Z Q h_0 f_1 w h).mono fun e w' hR => ?_
  rcases hR with ⟨r0, rfl, h⟩ | ⟨c, rfl, h⟩
  · show (isI .i64 fun r0 => Q r0) (.int .i64 r0) w'
    exact ⟨_, rfl, h⟩
  · exact h

/-! ### milepost/milepostref07.Applies: function 19 -/
noncomputable def ref07_Applies.body : Code := bodyC Tryd.f19
def ref07_Applies.F (Z : List PanicEntry → PT) (Q : Bool → PT) (x_0 : List Value) (h_1 : List Value) : PT :=
  (newC 35 x_0 fun x66 => (newC 37 h_1 fun h67 => (ldB (x66.add 0) fun v68 => (pif v68 (Q true) (drawn fun S69 => (hN S69 13 h67 fun v70 => (hI S69 .u32 (x66.add 2) fun v71 => (hI S69 .i64 (x66.add 3) fun v72 => (cal Tryd.prog Z 35 [(Value.agg ⟨v70⟩), (Value.int .i64 0)] (isI .i64 fun v73 => (sAnd S69 (cal Tryd.prog Z 34 [(Value.int .u32 (IntKind.wrap .u32 v73)), (Value.int .u32 v71), (Value.int .i64 v72)] (isB fun v74 => (sAnd S69 (pif (!v74) (Q false) (hN S69 13 h67 fun v75 => (hI S69 .u32 (x66.add 4) fun v76 => (hI S69 .i64 (x66.add 5) fun v77 => (cal Tryd.prog Z 35 [(Value.agg ⟨v75⟩), (Value.int .i64 1)] (isI .i64 fun v78 => (sAnd S69 (cal Tryd.prog Z 34 [(Value.int .u32 (IntKind.wrap .u32 v78)), (Value.int .u32 v76), (Value.int .i64 v77)] (isB fun v79 => (sAnd S69 (pif (!v79) (Q false) (ldN 13 h67 fun v80 => (cal Tryd.prog Z 35 [(Value.agg ⟨v80⟩), (Value.int .i64 2)] (isI .i64 fun v81 => (ldN 13 h67 fun v82 => (cal Tryd.prog Z 35 [(Value.agg ⟨v82⟩), (Value.int .i64 3)] (isI .i64 fun v83 => (drawn fun S84 => (hI S84 .i64 (x66.add 6) fun v85 => (pif (decide (v81 ≥ v85)) (hI S84 .i64 (x66.add 7) fun v86 => (pif (decide (v81 ≤ v86)) (hI S84 .i64 (x66.add 8) fun v87 => (pif (decide (v83 ≥ v87)) (hI S84 .i64 (x66.add 9) fun v88 => (pif (decide (v83 ≤ v88)) (hI S84 .i64 (x66.add 10) fun v89 => (pif (v89 == (-1)) (Q true) (hI S84 .i64 (x66.add 10) fun v90 => (hN S84 13 h67 fun v91 => (cal Tryd.prog Z 35 [(Value.agg ⟨v91⟩), (Value.int .i64 4)] (isI .i64 fun v92 => (sAnd S84 (Q (v90 == v92))))))))) (Q false))) (Q false))) (Q false))) (Q false)))))))))))))))))))))))))))))))))))
def ref07_Applies.q1 (Z : List PanicEntry → PT) (Q : Bool → PT) : QF := bodyQ Tryd.prog [.tmp 4] (fun v => atB v fun va => Q va)
theorem ref07_Applies.eq (Z : List PanicEntry → PT) (Q : Bool → PT) (x_0 : List Value) (h_1 : List Value) : comp Tryd.prog Z ref07_Applies.body (ref07_Applies.q1 Z Q) (fr0 [(Value.agg ⟨x_0⟩), (Value.agg ⟨h_1⟩)]) = ref07_Applies.F Z Q x_0 h_1 := by kernel_rfl
theorem ref07_Applies.vc (Z : List PanicEntry → PT) (Q : Bool → PT) (x_0 : List Value) (h_1 : List Value) (w : World) (h : ref07_Applies.F Z Q x_0 h_1 w) : Calls Tryd.prog 19 ⟨[(Value.agg ⟨x_0⟩), (Value.agg ⟨h_1⟩)]⟩ w fun e w' => (∃ (r0 : Bool), e = .returned (.bool r0) ∧ Q r0 w') ∨ ∃ c, e = .panicked c ∧ Z c w' := by
  refine (calls_of_ok (args := [(Value.agg ⟨x_0⟩), (Value.agg ⟨h_1⟩)]) (w := w) (rs := [.tmp 4]) (fn := Tryd.f19) (c := ref07_Applies.body) Tryd.func19 (by kernel_rfl) (by kernel_rfl) (Nat.le_of_ble_eq_true (by kernel_rfl)) (okC ref07_Applies.body (ref07_Applies.q1 Z Q) (by kernel_rfl)) (by rw [ref07_Applies.eq]; exact h)).mono fun e w' hR => ?_
  cases e with
  | returned v =>
    obtain ⟨va, rfl, hR⟩ := atB_e hR
    exact .inl ⟨va, rfl, hR⟩
  | panicked c => exact .inr ⟨c, rfl, hR⟩
  | outgrown => exact hR.elim
theorem ref07_Applies.vc0 (Q : Bool → PT) (x_0 : List Value) (h_1 : List Value) (w : World) (h : ref07_Applies.F Z0 Q x_0 h_1 w) : Calls Tryd.prog 19 ⟨[(Value.agg ⟨x_0⟩), (Value.agg ⟨h_1⟩)]⟩ w fun e w' => (∃ (r0 : Bool), e = .returned (.bool r0) ∧ Q r0 w') :=
  (ref07_Applies.vc Z0 Q x_0 h_1 w h).mono fun _ _ hR => hR.elim id fun ⟨_, _, hz⟩ => hz.elim
theorem ref07_Applies.cal {Z : List PanicEntry → PT} {Q : Bool → PT} {x_0 : List Value} {h_1 : List Value} {w : World} (h : ref07_Applies.F Z Q x_0 h_1 w) : Go.Proofs.YtllgjjldnnmjkaaDoor.cal Tryd.prog Z 19 [(Value.agg ⟨x_0⟩), (Value.agg ⟨h_1⟩)] (isB fun r0 => Q r0) w := by
  refine (ref07_Applies.vc Z Q x_0 h_1 w h).mono fun e w' hR => ?_
  rcases hR with ⟨r0, rfl, h⟩ | ⟨c, rfl, h⟩
  · show (isB fun r0 => Q r0) (.bool r0) w'
    exact ⟨_, rfl, h⟩
  · exact h

/-! ### milepost/milepostref07.Which: function 23 -/
noncomputable def ref07_Which.body : Code := bodyC Tryd.f23
noncomputable def ref07_Which.c1 : Code := sq1 ref07_Which.body
noncomputable def ref07_Which.c2 : Code := sq1 (sq2 ref07_Which.body)
noncomputable def ref07_Which.c3 : Code := sq2 (sq2 ref07_Which.body)
theorem ref07_Which.q4 : ref07_Which.body = .seq ref07_Which.c1 (.seq ref07_Which.c2 ref07_Which.c3) := by kernel_rfl
noncomputable def ref07_Which.c5 : Code := sq1 ref07_Which.c3
noncomputable def ref07_Which.c6 : Code := sq2 ref07_Which.c3
theorem ref07_Which.q7 : ref07_Which.c3 = .seq ref07_Which.c5 ref07_Which.c6 := by kernel_rfl
noncomputable def ref07_Which.c8 : Code := sq1 ref07_Which.c6
noncomputable def ref07_Which.c9 : Code := sq2 ref07_Which.c6
theorem ref07_Which.q10 : ref07_Which.c6 = .seq ref07_Which.c8 ref07_Which.c9 := by kernel_rfl
def ref07_Which.s11 (Z : List PanicEntry → PT) (Q : Int → PT) (best_5 : Int) : PT :=
  (Q best_5)
def ref07_Which.q12 (Z : List PanicEntry → PT) (Q : Int → PT) : QF := bodyQ Tryd.prog [.tmp 4] (fun v => atI .i64 v fun va => Q va)
theorem ref07_Which.s11_eq (Z : List PanicEntry → PT) (Q : Int → PT) (ρ : Fr) (best_5 : Int) : comp Tryd.prog Z ref07_Which.c9 (ref07_Which.q12 Z Q) (puts ρ [(5, (Value.int .i64 best_5))]) = ref07_Which.s11 Z Q best_5 := by kernel_rfl
def ref07_Which.j13 (Z : List PanicEntry → PT) (Q : Int → PT) : Fr → PT := (fun ρ => atI .i64 (ρ 5) fun best_5 => (ref07_Which.s11 Z Q best_5))
theorem ref07_Which.s11_ok (Z : List PanicEntry → PT) (Q : Int → PT) : Ok Tryd.prog Tryd.f23.ntmps Z ref07_Which.c9 (ref07_Which.q12 Z Q) (ref07_Which.j13 Z Q) := by
  intro E he ρ w a hr h
  obtain ⟨best_5, e5, h⟩ := atI_e h
  exact ok_at [(5, (Value.int .i64 best_5))] (okC ref07_Which.c9 (ref07_Which.q12 Z Q) (by kernel_rfl)) (puts_cons e5 (fun p hp => puts_nil hp)) (ref07_Which.s11_eq Z Q ρ best_5) he hr h
noncomputable def ref07_Which.c14 : Code := sq1 ref07_Which.c8
noncomputable def ref07_Which.c15 : Code := sq2 ref07_Which.c8
theorem ref07_Which.q16 : ref07_Which.c8 = .seq ref07_Which.c14 ref07_Which.c15 := by kernel_rfl
noncomputable def ref07_Which.c17 : Code := blk ref07_Which.c15
theorem ref07_Which.q18 : ref07_Which.c15 = .block 2 ref07_Which.c17 := by kernel_rfl
noncomputable def ref07_Which.c19 : Code := lop ref07_Which.c17
theorem ref07_Which.q20 : ref07_Which.c17 = .loop ref07_Which.c19 := by kernel_rfl
def ref07_Which.q22 (Z : List PanicEntry → PT) (Q : Int → PT) : QF := thenK (ref07_Which.j13 Z Q) (ref07_Which.q12 Z Q)
def ref07_Which.q23 (Z : List PanicEntry → PT) (Q : Int → PT) : QF := inBl 2 (ref07_Which.q22 Z Q)
def ref07_Which.s24 (Z : List PanicEntry → PT) (Q : Int → PT) (X1 : Option Addr → Nat → Nat → Int → Int → PT) (l_0 : Option Addr) (l_0n l_0c : Nat) (best_5 : Int) (i_7 : Int) : PT :=
  (pif (decide (i_7 < ((l_0n : Nat) : Int))) (pif (decide (best_5 < 0)) (ixS l_0 l_0n i_7 12 fun v7 => (ldB (v7.add 0) fun v8 => (pif v8 (X1 l_0 l_0n l_0c i_7 (IntKind.wrap .i64 (i_7 + 1))) (X1 l_0 l_0n l_0c best_5 (IntKind.wrap .i64 (i_7 + 1)))))) (ref07_Which.s11 Z Q best_5)) (ref07_Which.s11 Z Q best_5))
def ref07_Which.j25 (Z : List PanicEntry → PT) (Q : Int → PT) (X1 : Option Addr → Nat → Nat → Int → Int → PT) : Fr → PT := (fun ρ => atL (ρ 0) fun l_0 l_0n l_0c => atI .i64 (ρ 5) fun best_5 => atI .i64 (ρ 7) fun i_7 => (X1 l_0 l_0n l_0c best_5 i_7))
def ref07_Which.q26 (Z : List PanicEntry → PT) (Q : Int → PT) (X1 : Option Addr → Nat → Nat → Int → Int → PT) : QF := thenK (ref07_Which.j25 Z Q X1) (ref07_Which.q23 Z Q)
theorem ref07_Which.s24_eq (Z : List PanicEntry → PT) (Q : Int → PT) (X1 : Option Addr → Nat → Nat → Int → Int → PT) (ρ : Fr) (l_0 : Option Addr) (l_0n l_0c : Nat) (best_5 : Int) (i_7 : Int) : comp Tryd.prog Z ref07_Which.c19 (ref07_Which.q26 Z Q X1) (puts ρ [(0, (Value.slice l_0 l_0n l_0c)), (5, (Value.int .i64 best_5)), (7, (Value.int .i64 i_7))]) = ref07_Which.s24 Z Q X1 l_0 l_0n l_0c best_5 i_7 := by kernel_rfl
def ref07_Which.j27 (Z : List PanicEntry → PT) (Q : Int → PT) (X1 : Option Addr → Nat → Nat → Int → Int → PT) : Fr → PT := (fun ρ => atL (ρ 0) fun l_0 l_0n l_0c => atI .i64 (ρ 5) fun best_5 => atI .i64 (ρ 7) fun i_7 => (ref07_Which.s24 Z Q X1 l_0 l_0n l_0c best_5 i_7))
theorem ref07_Which.s24_ok (Z : List PanicEntry → PT) (Q : Int → PT) (X1 : Option Addr → Nat → Nat → Int → Int → PT) : Ok Tryd.prog Tryd.f23.ntmps Z ref07_Which.c19 (ref07_Which.q26 Z Q X1) (ref07_Which.j27 Z Q X1) := by
  intro E he ρ w a hr h
  obtain ⟨l_0, l_0n, l_0c, e0, h⟩ := atL_e h
  obtain ⟨best_5, e5, h⟩ := atI_e h
  obtain ⟨i_7, e7, h⟩ := atI_e h
  exact ok_at [(0, (Value.slice l_0 l_0n l_0c)), (5, (Value.int .i64 best_5)), (7, (Value.int .i64 i_7))] (okC ref07_Which.c19 (ref07_Which.q26 Z Q X1) (by kernel_rfl)) (puts_cons e0 (puts_cons e5 (puts_cons e7 (fun p hp => puts_nil hp)))) (ref07_Which.s24_eq Z Q X1 ρ l_0 l_0n l_0c best_5 i_7) he hr h
def ref07_Which.l21 (Z : List PanicEntry → PT) (Q : Int → PT) : Nat → Option Addr → Nat → Nat → Int → Int → PT
  | 0, _, _, _, _, _ => bad
  | k + 1, l_0, l_0n, l_0c, best_5, i_7 => (ref07_Which.s24 Z Q (ref07_Which.l21 Z Q k) l_0 l_0n l_0c best_5 i_7)
def ref07_Which.j28 (Z : List PanicEntry → PT) (Q : Int → PT) (k : Nat) : Fr → PT := (fun ρ => atL (ρ 0) fun l_0 l_0n l_0c => atI .i64 (ρ 5) fun best_5 => atI .i64 (ρ 7) fun i_7 => (ref07_Which.l21 Z Q k l_0 l_0n l_0c best_5 i_7))
def ref07_Which.j29 (Z : List PanicEntry → PT) (Q : Int → PT) : Fr → PT := (fun ρ => atL (ρ 0) fun l_0 l_0n l_0c => atI .i64 (ρ 5) fun best_5 => atI .i64 (ρ 7) fun i_7 => (exK fun k => ref07_Which.l21 Z Q k l_0 l_0n l_0c best_5 i_7))
theorem ref07_Which.o30 (Z : List PanicEntry → PT) (Q : Int → PT) : Ok Tryd.prog Tryd.f23.ntmps Z ref07_Which.c17 (ref07_Which.q23 Z Q) (ref07_Which.j29 Z Q) := by
  rw [ref07_Which.q20]
  refine Ok.imp (ok_loop (J := ref07_Which.j28 Z Q) ?_ ?_) ?_
  · intro ρ w h
    obtain ⟨l_0, l_0n, l_0c, e0, h⟩ := atL_e h
    obtain ⟨best_5, e5, h⟩ := atI_e h
    obtain ⟨i_7, e7, h⟩ := atI_e h
    exact h
  · intro k
    refine Ok.imp (ref07_Which.s24_ok Z Q (ref07_Which.l21 Z Q k)) fun ρ w h => ?_
    obtain ⟨l_0, l_0n, l_0c, e0, h⟩ := atL_e h
    obtain ⟨best_5, e5, h⟩ := atI_e h
    obtain ⟨i_7, e7, h⟩ := atI_e h
    show (ref07_Which.j27 Z Q (ref07_Which.l21 Z Q k)) ρ w
    simp only [ref07_Which.j27]
    rw [e0]
    rw [e5]
    rw [e7]
    exact h
  · intro ρ w h
    obtain ⟨l_0, l_0n, l_0c, e0, h⟩ := atL_e h
    obtain ⟨best_5, e5, h⟩ := atI_e h
    obtain ⟨i_7, e7, h⟩ := atI_e h
    obtain ⟨k, h⟩ := h
    refine ⟨k, ?_⟩
    show (atL (ρ 0) fun l_0 l_0n l_0c => atI .i64 (ρ 5) fun best_5 => atI .i64 (ρ 7) fun i_7 => (ref07_Which.l21 Z Q k l_0 l_0n l_0c best_5 i_7)) w
    rw [e0]
    rw [e5]
    rw [e7]
    exact h
theorem ref07_Which.o31 (Z : List PanicEntry → PT) (Q : Int → PT) : Ok Tryd.prog Tryd.f23.ntmps Z ref07_Which.c15 (ref07_Which.q22 Z Q) (ref07_Which.j29 Z Q) := by
  rw [ref07_Which.q18]; exact ok_block (ref07_Which.o30 Z Q)
def ref07_Which.s32 (Z : List PanicEntry → PT) (Q : Int → PT) (l_0 : Option Addr) (l_0n l_0c : Nat) (best_5 : Int) : PT :=
  (exK fun k => ref07_Which.l21 Z Q k l_0 l_0n l_0c best_5 0)
theorem ref07_Which.s32_eq (Z : List PanicEntry → PT) (Q : Int → PT) (ρ : Fr) (l_0 : Option Addr) (l_0n l_0c : Nat) (best_5 : Int) : (comp Tryd.prog Z ref07_Which.c14 (thenK (ref07_Which.j29 Z Q) (ref07_Which.q22 Z Q))) (puts ρ [(0, (Value.slice l_0 l_0n l_0c)), (5, (Value.int .i64 best_5))]) = ref07_Which.s32 Z Q l_0 l_0n l_0c best_5 := by kernel_rfl
def ref07_Which.j33 (Z : List PanicEntry → PT) (Q : Int → PT) : Fr → PT := (fun ρ => atL (ρ 0) fun l_0 l_0n l_0c => atI .i64 (ρ 5) fun best_5 => (ref07_Which.s32 Z Q l_0 l_0n l_0c best_5))
theorem ref07_Which.s32_ok (Z : List PanicEntry → PT) (Q : Int → PT) : Ok Tryd.prog Tryd.f23.ntmps Z ref07_Which.c8 (ref07_Which.q22 Z Q) (ref07_Which.j33 Z Q) := by
  intro E he ρ w a hr h
  rw [ref07_Which.q16] at he ⊢
  obtain ⟨l_0, l_0n, l_0c, e0, h⟩ := atL_e h
  obtain ⟨best_5, e5, h⟩ := atI_e h
  exact ok_at [(0, (Value.slice l_0 l_0n l_0c)), (5, (Value.int .i64 best_5))] (ok_seq (okC ref07_Which.c14 _ (by kernel_rfl)) (ref07_Which.o31 Z Q)) (puts_cons e0 (puts_cons e5 (fun p hp => puts_nil hp))) (ref07_Which.s32_eq Z Q ρ l_0 l_0n l_0c best_5) he hr h
theorem ref07_Which.o34 (Z : List PanicEntry → PT) (Q : Int → PT) : Ok Tryd.prog Tryd.f23.ntmps Z ref07_Which.c6 (ref07_Which.q12 Z Q) (ref07_Which.j33 Z Q) := by
  rw [ref07_Which.q10]; exact ok_seq (ref07_Which.s32_ok Z Q) (ref07_Which.s11_ok Z Q)
noncomputable def ref07_Which.c35 : Code := sq1 ref07_Which.c5
noncomputable def ref07_Which.c36 : Code := sq2 ref07_Which.c5
theorem ref07_Which.q37 : ref07_Which.c5 = .seq ref07_Which.c35 ref07_Which.c36 := by kernel_rfl
noncomputable def ref07_Which.c38 : Code := blk ref07_Which.c36
theorem ref07_Which.q39 : ref07_Which.c36 = .block 0 ref07_Which.c38 := by kernel_rfl
noncomputable def ref07_Which.c40 : Code := lop ref07_Which.c38
theorem ref07_Which.q41 : ref07_Which.c38 = .loop ref07_Which.c40 := by kernel_rfl
def ref07_Which.q43 (Z : List PanicEntry → PT) (Q : Int → PT) : QF := thenK (ref07_Which.j33 Z Q) (ref07_Which.q12 Z Q)
def ref07_Which.q44 (Z : List PanicEntry → PT) (Q : Int → PT) : QF := inBl 0 (ref07_Which.q43 Z Q)
noncomputable def ref07_Which.c45 : Code := sq1 ref07_Which.c40
noncomputable def ref07_Which.c46 : Code := sq1 (sq2 ref07_Which.c40)
noncomputable def ref07_Which.c47 : Code := sq2 (sq2 ref07_Which.c40)
theorem ref07_Which.q48 : ref07_Which.c40 = .seq ref07_Which.c45 (.seq ref07_Which.c46 ref07_Which.c47) := by kernel_rfl
def ref07_Which.s49 (Z : List PanicEntry → PT) (Q : Int → PT) (X1 : Option Addr → Nat → Nat → Addr → Int → Int → PT) (l_0 : Option Addr) (l_0n l_0c : Nat) (h_3 : Addr) (best_5 : Int) (i_6 : Int) : PT :=
  (X1 l_0 l_0n l_0c h_3 best_5 (IntKind.wrap .i64 (i_6 + 1)))
def ref07_Which.j50 (Z : List PanicEntry → PT) (Q : Int → PT) (X1 : Option Addr → Nat → Nat → Addr → Int → Int → PT) : Fr → PT := (fun ρ => atL (ρ 0) fun l_0 l_0n l_0c => atA (ρ 3) fun h_3 => atI .i64 (ρ 5) fun best_5 => atI .i64 (ρ 6) fun i_6 => (X1 l_0 l_0n l_0c h_3 best_5 i_6))
def ref07_Which.q51 (Z : List PanicEntry → PT) (Q : Int → PT) (X1 : Option Addr → Nat → Nat → Addr → Int → Int → PT) : QF := thenK (ref07_Which.j50 Z Q X1) (ref07_Which.q44 Z Q)
theorem ref07_Which.s49_eq (Z : List PanicEntry → PT) (Q : Int → PT) (X1 : Option Addr → Nat → Nat → Addr → Int → Int → PT) (ρ : Fr) (l_0 : Option Addr) (l_0n l_0c : Nat) (h_3 : Addr) (best_5 : Int) (i_6 : Int) : comp Tryd.prog Z ref07_Which.c47 (ref07_Which.q51 Z Q X1) (puts ρ [(0, (Value.slice l_0 l_0n l_0c)), (3, (Value.pointer (some h_3))), (5, (Value.int .i64 best_5)), (6, (Value.int .i64 i_6))]) = ref07_Which.s49 Z Q X1 l_0 l_0n l_0c h_3 best_5 i_6 := by kernel_rfl
def ref07_Which.j52 (Z : List PanicEntry → PT) (Q : Int → PT) (X1 : Option Addr → Nat → Nat → Addr → Int → Int → PT) : Fr → PT := (fun ρ => atL (ρ 0) fun l_0 l_0n l_0c => atA (ρ 3) fun h_3 => atI .i64 (ρ 5) fun best_5 => atI .i64 (ρ 6) fun i_6 => (ref07_Which.s49 Z Q X1 l_0 l_0n l_0c h_3 best_5 i_6))
theorem ref07_Which.s49_ok (Z : List PanicEntry → PT) (Q : Int → PT) (X1 : Option Addr → Nat → Nat → Addr → Int → Int → PT) : Ok Tryd.prog Tryd.f23.ntmps Z ref07_Which.c47 (ref07_Which.q51 Z Q X1) (ref07_Which.j52 Z Q X1) := by
  intro E he ρ w a hr h
  obtain ⟨l_0, l_0n, l_0c, e0, h⟩ := atL_e h
  obtain ⟨h_3, e3, h⟩ := atA_e h
  obtain ⟨best_5, e5, h⟩ := atI_e h
  obtain ⟨i_6, e6, h⟩ := atI_e h
  exact ok_at [(0, (Value.slice l_0 l_0n l_0c)), (3, (Value.pointer (some h_3))), (5, (Value.int .i64 best_5)), (6, (Value.int .i64 i_6))] (okC ref07_Which.c47 (ref07_Which.q51 Z Q X1) (by kernel_rfl)) (puts_cons e0 (puts_cons e3 (puts_cons e5 (puts_cons e6 (fun p hp => puts_nil hp))))) (ref07_Which.s49_eq Z Q X1 ρ l_0 l_0n l_0c h_3 best_5 i_6) he hr h
def ref07_Which.s53 (Z : List PanicEntry → PT) (Q : Int → PT) (X1 : Option Addr → Nat → Nat → Addr → Int → Int → PT) (l_0 : Option Addr) (l_0n l_0c : Nat) (h_3 : Addr) (best_5 : Int) (i_6 : Int) : PT :=
  (pif (decide (i_6 < ((l_0n : Nat) : Int))) (drawn fun S53 => (ixS l_0 l_0n i_6 12 fun v54 => (hB S53 (v54.add 0) fun v55 => (pif (!v55) (ixS l_0 l_0n i_6 12 fun v56 => (hN S53 12 v56 fun v57 => (hN S53 13 h_3 fun v58 => (cal Tryd.prog Z 19 [(Value.agg ⟨v57⟩), (Value.agg ⟨v58⟩)] (isB fun v59 => (sAnd S53 (pif v59 (pif (decide (best_5 < 0)) (ref07_Which.s49 Z Q X1 l_0 l_0n l_0c h_3 i_6 i_6) (ixS l_0 l_0n i_6 12 fun v60 => (hI S53 .i64 (v60.add 1) fun v61 => (ixS l_0 l_0n best_5 12 fun v62 => (hI S53 .i64 (v62.add 1) fun v63 => (pif (decide (v61 > v63)) (ref07_Which.s49 Z Q X1 l_0 l_0n l_0c h_3 i_6 i_6) (ref07_Which.s49 Z Q X1 l_0 l_0n l_0c h_3 best_5 i_6))))))) (ref07_Which.s49 Z Q X1 l_0 l_0n l_0c h_3 best_5 i_6)))))))) (ref07_Which.s49 Z Q X1 l_0 l_0n l_0c h_3 best_5 i_6))))) (ref07_Which.s32 Z Q l_0 l_0n l_0c best_5))
theorem ref07_Which.s53_eq (Z : List PanicEntry → PT) (Q : Int → PT) (X1 : Option Addr → Nat → Nat → Addr → Int → Int → PT) (ρ : Fr) (l_0 : Option Addr) (l_0n l_0c : Nat) (h_3 : Addr) (best_5 : Int) (i_6 : Int) : (comp Tryd.prog Z ref07_Which.c45 (thenK (comp Tryd.prog Z ref07_Which.c46 (thenK (ref07_Which.j52 Z Q X1) (ref07_Which.q51 Z Q X1))) (ref07_Which.q51 Z Q X1))) (puts ρ [(0, (Value.slice l_0 l_0n l_0c)), (3, (Value.pointer (some h_3))), (5, (Value.int .i64 best_5)), (6, (Value.int .i64 i_6))]) = ref07_Which.s53 Z Q X1 l_0 l_0n l_0c h_3 best_5 i_6 := by kernel_rfl
def ref07_Which.j54 (Z : List PanicEntry → PT) (Q : Int → PT) (X1 : Option Addr → Nat → Nat → Addr → Int → Int → PT) : Fr → PT := (fun ρ => atL (ρ 0) fun l_0 l_0n l_0c => atA (ρ 3) fun h_3 => atI .i64 (ρ 5) fun best_5 => atI .i64 (ρ 6) fun i_6 => (ref07_Which.s53 Z Q X1 l_0 l_0n l_0c h_3 best_5 i_6))
theorem ref07_Which.s53_ok (Z : List PanicEntry → PT) (Q : Int → PT) (X1 : Option Addr → Nat → Nat → Addr → Int → Int → PT) : Ok Tryd.prog Tryd.f23.ntmps Z ref07_Which.c40 (ref07_Which.q51 Z Q X1) (ref07_Which.j54 Z Q X1) := by
  intro E he ρ w a hr h
  rw [ref07_Which.q48] at he ⊢
  obtain ⟨l_0, l_0n, l_0c, e0, h⟩ := atL_e h
  obtain ⟨h_3, e3, h⟩ := atA_e h
  obtain ⟨best_5, e5, h⟩ := atI_e h
  obtain ⟨i_6, e6, h⟩ := atI_e h
  exact ok_at [(0, (Value.slice l_0 l_0n l_0c)), (3, (Value.pointer (some h_3))), (5, (Value.int .i64 best_5)), (6, (Value.int .i64 i_6))] (ok_seq (okC ref07_Which.c45 _ (by kernel_rfl)) (ok_seq (okC ref07_Which.c46 _ (by kernel_rfl)) (ref07_Which.s49_ok Z Q X1))) (puts_cons e0 (puts_cons e3 (puts_cons e5 (puts_cons e6 (fun p hp => puts_nil hp))))) (ref07_Which.s53_eq Z Q X1 ρ l_0 l_0n l_0c h_3 best_5 i_6) he hr h
def ref07_Which.l42 (Z : List PanicEntry → PT) (Q : Int → PT) : Nat → Option Addr → Nat → Nat → Addr → Int → Int → PT
  | 0, _, _, _, _, _, _ => bad
  | k + 1, l_0, l_0n, l_0c, h_3, best_5, i_6 => (ref07_Which.s53 Z Q (ref07_Which.l42 Z Q k) l_0 l_0n l_0c h_3 best_5 i_6)
def ref07_Which.j55 (Z : List PanicEntry → PT) (Q : Int → PT) (k : Nat) : Fr → PT := (fun ρ => atL (ρ 0) fun l_0 l_0n l_0c => atA (ρ 3) fun h_3 => atI .i64 (ρ 5) fun best_5 => atI .i64 (ρ 6) fun i_6 => (ref07_Which.l42 Z Q k l_0 l_0n l_0c h_3 best_5 i_6))
def ref07_Which.j56 (Z : List PanicEntry → PT) (Q : Int → PT) : Fr → PT := (fun ρ => atL (ρ 0) fun l_0 l_0n l_0c => atA (ρ 3) fun h_3 => atI .i64 (ρ 5) fun best_5 => atI .i64 (ρ 6) fun i_6 => (exK fun k => ref07_Which.l42 Z Q k l_0 l_0n l_0c h_3 best_5 i_6))
theorem ref07_Which.o57 (Z : List PanicEntry → PT) (Q : Int → PT) : Ok Tryd.prog Tryd.f23.ntmps Z ref07_Which.c38 (ref07_Which.q44 Z Q) (ref07_Which.j56 Z Q) := by
  rw [ref07_Which.q41]
  refine Ok.imp (ok_loop (J := ref07_Which.j55 Z Q) ?_ ?_) ?_
  · intro ρ w h
    obtain ⟨l_0, l_0n, l_0c, e0, h⟩ := atL_e h
    obtain ⟨h_3, e3, h⟩ := atA_e h
    obtain ⟨best_5, e5, h⟩ := atI_e h
    obtain ⟨i_6, e6, h⟩ := atI_e h
    exact h
  · intro k
    refine Ok.imp (ref07_Which.s53_ok Z Q (ref07_Which.l42 Z Q k)) fun ρ w h => ?_
    obtain ⟨l_0, l_0n, l_0c, e0, h⟩ := atL_e h
    obtain ⟨h_3, e3, h⟩ := atA_e h
    obtain ⟨best_5, e5, h⟩ := atI_e h
    obtain ⟨i_6, e6, h⟩ := atI_e h
    show (ref07_Which.j54 Z Q (ref07_Which.l42 Z Q k)) ρ w
    simp only [ref07_Which.j54]
    rw [e0]
    rw [e3]
    rw [e5]
    rw [e6]
    exact h
  · intro ρ w h
    obtain ⟨l_0, l_0n, l_0c, e0, h⟩ := atL_e h
    obtain ⟨h_3, e3, h⟩ := atA_e h
    obtain ⟨best_5, e5, h⟩ := atI_e h
    obtain ⟨i_6, e6, h⟩ := atI_e h
    obtain ⟨k, h⟩ := h
    refine ⟨k, ?_⟩
    show (atL (ρ 0) fun l_0 l_0n l_0c => atA (ρ 3) fun h_3 => atI .i64 (ρ 5) fun best_5 => atI .i64 (ρ 6) fun i_6 => (ref07_Which.l42 Z Q k l_0 l_0n l_0c h_3 best_5 i_6)) w
    rw [e0]
    rw [e3]
    rw [e5]
    rw [e6]
    exact h
theorem ref07_Which.o58 (Z : List PanicEntry → PT) (Q : Int → PT) : Ok Tryd.prog Tryd.f23.ntmps Z ref07_Which.c36 (ref07_Which.q43 Z Q) (ref07_Which.j56 Z Q) := by
  rw [ref07_Which.q39]; exact ok_block (ref07_Which.o57 Z Q)
def ref07_Which.s59 (Z : List PanicEntry → PT) (Q : Int → PT) (l_0 : Option Addr) (l_0n l_0c : Nat) (h_3 : Addr) (best_5 : Int) : PT :=
  (exK fun k => ref07_Which.l42 Z Q k l_0 l_0n l_0c h_3 best_5 0)
theorem ref07_Which.s59_eq (Z : List PanicEntry → PT) (Q : Int → PT) (ρ : Fr) (l_0 : Option Addr) (l_0n l_0c : Nat) (h_3 : Addr) (best_5 : Int) : (comp Tryd.prog Z ref07_Which.c35 (thenK (ref07_Which.j56 Z Q) (ref07_Which.q43 Z Q))) (puts ρ [(0, (Value.slice l_0 l_0n l_0c)), (3, (Value.pointer (some h_3))), (5, (Value.int .i64 best_5))]) = ref07_Which.s59 Z Q l_0 l_0n l_0c h_3 best_5 := by kernel_rfl
def ref07_Which.j60 (Z : List PanicEntry → PT) (Q : Int → PT) : Fr → PT := (fun ρ => atL (ρ 0) fun l_0 l_0n l_0c => atA (ρ 3) fun h_3 => atI .i64 (ρ 5) fun best_5 => (ref07_Which.s59 Z Q l_0 l_0n l_0c h_3 best_5))
theorem ref07_Which.s59_ok (Z : List PanicEntry → PT) (Q : Int → PT) : Ok Tryd.prog Tryd.f23.ntmps Z ref07_Which.c5 (ref07_Which.q43 Z Q) (ref07_Which.j60 Z Q) := by
  intro E he ρ w a hr h
  rw [ref07_Which.q37] at he ⊢
  obtain ⟨l_0, l_0n, l_0c, e0, h⟩ := atL_e h
  obtain ⟨h_3, e3, h⟩ := atA_e h
  obtain ⟨best_5, e5, h⟩ := atI_e h
  exact ok_at [(0, (Value.slice l_0 l_0n l_0c)), (3, (Value.pointer (some h_3))), (5, (Value.int .i64 best_5))] (ok_seq (okC ref07_Which.c35 _ (by kernel_rfl)) (ref07_Which.o58 Z Q)) (puts_cons e0 (puts_cons e3 (puts_cons e5 (fun p hp => puts_nil hp)))) (ref07_Which.s59_eq Z Q ρ l_0 l_0n l_0c h_3 best_5) he hr h
theorem ref07_Which.o61 (Z : List PanicEntry → PT) (Q : Int → PT) : Ok Tryd.prog Tryd.f23.ntmps Z ref07_Which.c3 (ref07_Which.q12 Z Q) (ref07_Which.j60 Z Q) := by
  rw [ref07_Which.q7]; exact ok_seq (ref07_Which.s59_ok Z Q) (ref07_Which.o34 Z Q)
def ref07_Which.s62 (Z : List PanicEntry → PT) (Q : Int → PT) (l_0 : Option Addr) (l_0n l_0c : Nat) (h_1 : List Value) : PT :=
  (newC 37 h_1 fun h64 => (ref07_Which.s59 Z Q l_0 l_0n l_0c h64 (-1)))
theorem ref07_Which.s62_eq (Z : List PanicEntry → PT) (Q : Int → PT) (ρ : Fr) (l_0 : Option Addr) (l_0n l_0c : Nat) (h_1 : List Value) : (comp Tryd.prog Z ref07_Which.c1 (thenK (comp Tryd.prog Z ref07_Which.c2 (thenK (ref07_Which.j60 Z Q) (ref07_Which.q12 Z Q))) (ref07_Which.q12 Z Q))) (puts ρ [(0, (Value.slice l_0 l_0n l_0c)), (1, (Value.agg ⟨h_1⟩))]) = ref07_Which.s62 Z Q l_0 l_0n l_0c h_1 := by kernel_rfl
def ref07_Which.j63 (Z : List PanicEntry → PT) (Q : Int → PT) : Fr → PT := (fun ρ => atL (ρ 0) fun l_0 l_0n l_0c => atN (ρ 1) fun h_1 => (ref07_Which.s62 Z Q l_0 l_0n l_0c h_1))
theorem ref07_Which.s62_ok (Z : List PanicEntry → PT) (Q : Int → PT) : Ok Tryd.prog Tryd.f23.ntmps Z ref07_Which.body (ref07_Which.q12 Z Q) (ref07_Which.j63 Z Q) := by
  intro E he ρ w a hr h
  rw [ref07_Which.q4] at he ⊢
  obtain ⟨l_0, l_0n, l_0c, e0, h⟩ := atL_e h
  obtain ⟨h_1, e1, h⟩ := atN_e h
  exact ok_at [(0, (Value.slice l_0 l_0n l_0c)), (1, (Value.agg ⟨h_1⟩))] (ok_seq (okC ref07_Which.c1 _ (by kernel_rfl)) (ok_seq (okC ref07_Which.c2 _ (by kernel_rfl)) (ref07_Which.o61 Z Q))) (puts_cons e0 (puts_cons e1 (fun p hp => puts_nil hp))) (ref07_Which.s62_eq Z Q ρ l_0 l_0n l_0c h_1) he hr h
def ref07_Which.F (Z : List PanicEntry → PT) (Q : Int → PT) (l_0 : Option Addr) (l_0n l_0c : Nat) (h_1 : List Value) : PT :=
  (ref07_Which.s62 Z Q l_0 l_0n l_0c h_1)
theorem ref07_Which.vc (Z : List PanicEntry → PT) (Q : Int → PT) (l_0 : Option Addr) (l_0n l_0c : Nat) (h_1 : List Value) (w : World) (h : ref07_Which.F Z Q l_0 l_0n l_0c h_1 w) : Calls Tryd.prog 23 ⟨[(Value.slice l_0 l_0n l_0c), (Value.agg ⟨h_1⟩)]⟩ w fun e w' => (∃ (r0 : Int), e = .returned (.int .i64 r0) ∧ Q r0 w') ∨ ∃ c, e = .panicked c ∧ Z c w' := by
  refine (calls_of_ok (args := [(Value.slice l_0 l_0n l_0c), (Value.agg ⟨h_1⟩)]) (w := w) (rs := [.tmp 4]) (fn := Tryd.f23) (c := ref07_Which.body) Tryd.func23 (by kernel_rfl) (by kernel_rfl) (Nat.le_of_ble_eq_true (by kernel_rfl)) (ref07_Which.s62_ok Z Q) (h)).mono fun e w' hR => ?_
  cases e with
  | returned v =>
    obtain ⟨va, rfl, hR⟩ := atI_e hR
    exact .inl ⟨va, rfl, hR⟩
  | panicked c => exact .inr ⟨c, rfl, hR⟩
  | outgrown => exact hR.elim
theorem ref07_Which.vc0 (Q : Int → PT) (l_0 : Option Addr) (l_0n l_0c : Nat) (h_1 : List Value) (w : World) (h : ref07_Which.F Z0 Q l_0 l_0n l_0c h_1 w) : Calls Tryd.prog 23 ⟨[(Value.slice l_0 l_0n l_0c), (Value.agg ⟨h_1⟩)]⟩ w fun e w' => (∃ (r0 : Int), e = .returned (.int .i64 r0) ∧ Q r0 w') :=
  (ref07_Which.vc Z0 Q l_0 l_0n l_0c h_1 w h).mono fun _ _ hR => hR.elim id fun ⟨_, _, hz⟩ => hz.elim
theorem ref07_Which.cal {Z : List PanicEntry → PT} {Q : Int → PT} {l_0 : Option Addr} {l_0n l_0c : Nat} {h_1 : List Value} {w : World} (h : ref07_Which.F Z Q l_0 l_0n l_0c h_1 w) : Go.Proofs.YtllgjjldnnmjkaaDoor.cal Tryd.prog Z 23 [(Value.slice l_0 l_0n l_0c), (Value.agg ⟨h_1⟩)] (isI .i64 fun r0 => Q r0) w := by
  refine (ref07_Which.vc Z Q l_0 l_0n l_0c h_1 w h).mono fun e w' hR => ?_
  rcases hR with ⟨r0, rfl, h⟩ | ⟨c, rfl, h⟩
  · show (isI .i64 fun r0 => Q r0) (.int .i64 r0) w'
    exact ⟨_, rfl, h⟩
  · exact h

/-! ### milepost/milepostref07.Says: function 22 -/
noncomputable def ref07_Says.body : Code := bodyC Tryd.f22
def ref07_Says.F (Z : List PanicEntry → PT) (Q : Int → Bool → PT) (l_0 : Option Addr) (l_0n l_0c : Nat) (h_1 : List Value) : PT :=
  (newC 37 h_1 fun h8 => (ldN 13 h8 fun v9 => (cal Tryd.prog Z 23 [(Value.slice l_0 l_0n l_0c), (Value.agg ⟨v9⟩)] (isI .i64 fun v10 => (pif (decide (v10 < 0)) (Q 0 false) (ixS l_0 l_0n v10 12 fun v11 => (ldI .i64 (v11.add 11) fun v12 => (Q v12 true))))))))
def ref07_Says.q1 (Z : List PanicEntry → PT) (Q : Int → Bool → PT) : QF := bodyQ Tryd.prog [.tmp 4, .tmp 5] (fun v => at2 v fun x y => atI .i64 x fun xa => atB y fun ya => Q xa ya)
theorem ref07_Says.eq (Z : List PanicEntry → PT) (Q : Int → Bool → PT) (l_0 : Option Addr) (l_0n l_0c : Nat) (h_1 : List Value) : comp Tryd.prog Z ref07_Says.body (ref07_Says.q1 Z Q) (fr0 [(Value.slice l_0 l_0n l_0c), (Value.agg ⟨h_1⟩)]) = ref07_Says.F Z Q l_0 l_0n l_0c h_1 := by kernel_rfl
theorem ref07_Says.vc (Z : List PanicEntry → PT) (Q : Int → Bool → PT) (l_0 : Option Addr) (l_0n l_0c : Nat) (h_1 : List Value) (w : World) (h : ref07_Says.F Z Q l_0 l_0n l_0c h_1 w) : Calls Tryd.prog 22 ⟨[(Value.slice l_0 l_0n l_0c), (Value.agg ⟨h_1⟩)]⟩ w fun e w' => (∃ (r0 : Int) (r1 : Bool), e = .returned (.tuple #[.int .i64 r0, .bool r1]) ∧ Q r0 r1 w') ∨ ∃ c, e = .panicked c ∧ Z c w' := by
  refine (calls_of_ok (args := [(Value.slice l_0 l_0n l_0c), (Value.agg ⟨h_1⟩)]) (w := w) (rs := [.tmp 4, .tmp 5]) (fn := Tryd.f22) (c := ref07_Says.body) Tryd.func22 (by kernel_rfl) (by kernel_rfl) (Nat.le_of_ble_eq_true (by kernel_rfl)) (okC ref07_Says.body (ref07_Says.q1 Z Q) (by kernel_rfl)) (by rw [ref07_Says.eq]; exact h)).mono fun e w' hR => ?_
  cases e with
  | returned v =>
    obtain ⟨x, y, rfl, hR⟩ := at2_e hR
    obtain ⟨xa, rfl, hR⟩ := atI_e hR
    obtain ⟨ya, rfl, hR⟩ := atB_e hR
    exact .inl ⟨xa, ya, rfl, hR⟩
  | panicked c => exact .inr ⟨c, rfl, hR⟩
  | outgrown => exact hR.elim
theorem ref07_Says.vc0 (Q : Int → Bool → PT) (l_0 : Option Addr) (l_0n l_0c : Nat) (h_1 : List Value) (w : World) (h : ref07_Says.F Z0 Q l_0 l_0n l_0c h_1 w) : Calls Tryd.prog 22 ⟨[(Value.slice l_0 l_0n l_0c), (Value.agg ⟨h_1⟩)]⟩ w fun e w' => (∃ (r0 : Int) (r1 : Bool), e = .returned (.tuple #[.int .i64 r0, .bool r1]) ∧ Q r0 r1 w') :=
  (ref07_Says.vc Z0 Q l_0 l_0n l_0c h_1 w h).mono fun _ _ hR => hR.elim id fun ⟨_, _, hz⟩ => hz.elim
theorem ref07_Says.cal {Z : List PanicEntry → PT} {Q : Int → Bool → PT} {l_0 : Option Addr} {l_0n l_0c : Nat} {h_1 : List Value} {w : World} (h : ref07_Says.F Z Q l_0 l_0n l_0c h_1 w) : Go.Proofs.YtllgjjldnnmjkaaDoor.cal Tryd.prog Z 22 [(Value.slice l_0 l_0n l_0c), (Value.agg ⟨h_1⟩)] (isT2 fun x y => (isI .i64 fun r0 => (isB fun r1 => Q r0 r1) y) x) w := by
  refine (ref07_Says.vc Z Q l_0 l_0n l_0c h_1 w h).mono fun e w' hR => ?_
  rcases hR with ⟨r0, r1, rfl, h⟩ | ⟨c, rfl, h⟩
  · show (isT2 fun x y => (isI .i64 fun r0 => (isB fun r1 => Q r0 r1) y) x) (.tuple #[.int .i64 r0, .bool r1]) w'
    exact ⟨_, _, rfl, ⟨_, rfl, ⟨_, rfl, h⟩⟩⟩
  · exact h

end Go.Proofs.YtllgjjldnnmjkaaDoor
