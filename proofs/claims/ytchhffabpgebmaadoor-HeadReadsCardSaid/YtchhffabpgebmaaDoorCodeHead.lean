/-
  The reading of the code of 16 functions, printed by gen.py off the translation; no condition.
-/
import Derived.Test.YtchhffabpgebmaaDoorWlFacts
namespace Go.Proofs.YtchhffabpgebmaaDoor
open Go.RowKit
set_option linter.unusedVariables false
set_option maxRecDepth 100000

/-! ### milepost/head.Place: function 16 -/
noncomputable def head_Place.body : Code := bodyC Tryd.f16
def head_Place.F (Z : List PanicEntry → PT) (Q : Int → Int → Int → PT) (f_0 : Int) : PT :=
  (pif (decide (f_0 < 0)) (Q 0 0 1) (pif (decide (f_0 ≥ 5)) (Q 0 0 1) (drew0 (cnd ((0 : Int) ≤ f_0 ∧ f_0 < ((5 : Nat) : Int)) (ldI .i64 (((⟨0, 0, none⟩ : Addr).add (f_0.toNat * 2)).add 0) fun v1 => (cnd ((0 : Int) ≤ f_0 ∧ f_0 < ((5 : Nat) : Int)) (ldI .i64 (((⟨0, 0, none⟩ : Addr).add (f_0.toNat * 2)).add 1) fun v2 => (Q v1 v2 0))))))))
def head_Place.q1 (Z : List PanicEntry → PT) (Q : Int → Int → Int → PT) : QF := bodyQ Tryd.prog [.tmp 2, .tmp 3, .tmp 4] (fun v => at3 v fun x y z => atI .i64 x fun xa => atI .i64 y fun ya => atI .i64 z fun za => Q xa ya za)
theorem head_Place.eq (Z : List PanicEntry → PT) (Q : Int → Int → Int → PT) (f_0 : Int) : comp Tryd.prog Z head_Place.body (head_Place.q1 Z Q) (fr0 [(Value.int .i64 f_0)]) = head_Place.F Z Q f_0 := by kernel_rfl
theorem head_Place.vc (Z : List PanicEntry → PT) (Q : Int → Int → Int → PT) (f_0 : Int) (w : World) (h : head_Place.F Z Q f_0 w) : Calls Tryd.prog 16 ⟨[(Value.int .i64 f_0)]⟩ w fun e w' => (∃ (r0 : Int) (r1 : Int) (r2 : Int), e = .returned (.tuple #[.int .i64 r0, .int .i64 r1, .int .i64 r2]) ∧ Q r0 r1 r2 w') ∨ ∃ c, e = .panicked c ∧ Z c w' := by
  refine (calls_of_ok (args := [(Value.int .i64 f_0)]) (w := w) (rs := [.tmp 2, .tmp 3, .tmp 4]) (fn := Tryd.f16) (c := head_Place.body) Tryd.func16 (by kernel_rfl) (by kernel_rfl) (Nat.le_of_ble_eq_true (by kernel_rfl)) (okC head_Place.body (head_Place.q1 Z Q) (by kernel_rfl)) (by rw [head_Place.eq]; exact h)).mono fun e w' hR => ?_
  cases e with
  | returned v =>
    obtain ⟨x, y, z, rfl, hR⟩ := at3_e hR
    obtain ⟨xa, rfl, hR⟩ := atI_e hR
    obtain ⟨ya, rfl, hR⟩ := atI_e hR
    obtain ⟨za, rfl, hR⟩ := atI_e hR
    exact .inl ⟨xa, ya, za, rfl, hR⟩
  | panicked c => exact .inr ⟨c, rfl, hR⟩
  | outgrown => exact hR.elim
theorem head_Place.vc0 (Q : Int → Int → Int → PT) (f_0 : Int) (w : World) (h : head_Place.F Z0 Q f_0 w) : Calls Tryd.prog 16 ⟨[(Value.int .i64 f_0)]⟩ w fun e w' => (∃ (r0 : Int) (r1 : Int) (r2 : Int), e = .returned (.tuple #[.int .i64 r0, .int .i64 r1, .int .i64 r2]) ∧ Q r0 r1 r2 w') :=
  (head_Place.vc Z0 Q f_0 w h).mono fun _ _ hR => hR.elim id fun ⟨_, _, hz⟩ => hz.elim
theorem head_Place.cal {Z : List PanicEntry → PT} {Q : Int → Int → Int → PT} {f_0 : Int} {w : World} (h : head_Place.F Z Q f_0 w) : Go.Proofs.YtchhffabpgebmaaDoor.cal Tryd.prog Z 16 [(Value.int .i64 f_0)] (isT3 fun x y z => (isI .i64 fun r0 => (isI .i64 fun r1 => (isI .i64 fun r2 => Q r0 r1 r2) z) y) x) w := by
  refine (head_Place.vc Z Q f_0 w h).mono fun e w' hR => ?_
  rcases hR with ⟨r0, r1, r2, rfl, h⟩ | ⟨c, rfl, h⟩
  · show (isT3 fun x y z => (isI .i64 fun r0 => (isI .i64 fun r1 => (isI .i64 fun r2 => Q r0 r1 r2) z) y) x) (.tuple #[.int .i64 r0, .int .i64 r1, .int .i64 r2]) w'
    exact ⟨_, _, _, rfl, ⟨_, rfl, ⟨_, rfl, ⟨_, rfl, h⟩⟩⟩⟩
  · exact h

/-! ### milepost/milepostref01.First: function 17 -/
noncomputable def ref01_First.body : Code := bodyC Tryd.f17
def ref01_First.F (Z : List PanicEntry → PT) (Q : Int → PT) (f_0 : Int) : PT :=
  (pif (f_0 == 0) (Q 0) (pif (f_0 == 1) (Q 32) (pif (f_0 == 2) (Q 64) (pif (f_0 == 3) (Q 80) (pif (f_0 == 4) (Q 96) (Q (-1)))))))
def ref01_First.q1 (Z : List PanicEntry → PT) (Q : Int → PT) : QF := bodyQ Tryd.prog [.tmp 2] (fun v => atI .i64 v fun va => Q va)
theorem ref01_First.eq (Z : List PanicEntry → PT) (Q : Int → PT) (f_0 : Int) : comp Tryd.prog Z ref01_First.body (ref01_First.q1 Z Q) (fr0 [(Value.int .i64 f_0)]) = ref01_First.F Z Q f_0 := by kernel_rfl
theorem ref01_First.vc (Z : List PanicEntry → PT) (Q : Int → PT) (f_0 : Int) (w : World) (h : ref01_First.F Z Q f_0 w) : Calls Tryd.prog 17 ⟨[(Value.int .i64 f_0)]⟩ w fun e w' => (∃ (r0 : Int), e = .returned (.int .i64 r0) ∧ Q r0 w') ∨ ∃ c, e = .panicked c ∧ Z c w' := by
  refine (calls_of_ok (args := [(Value.int .i64 f_0)]) (w := w) (rs := [.tmp 2]) (fn := Tryd.f17) (c := ref01_First.body) Tryd.func17 (by kernel_rfl) (by kernel_rfl) (Nat.le_of_ble_eq_true (by kernel_rfl)) (okC ref01_First.body (ref01_First.q1 Z Q) (by kernel_rfl)) (by rw [ref01_First.eq]; exact h)).mono fun e w' hR => ?_
  cases e with
  | returned v =>
    obtain ⟨va, rfl, hR⟩ := atI_e hR
    exact .inl ⟨va, rfl, hR⟩
  | panicked c => exact .inr ⟨c, rfl, hR⟩
  | outgrown => exact hR.elim
theorem ref01_First.vc0 (Q : Int → PT) (f_0 : Int) (w : World) (h : ref01_First.F Z0 Q f_0 w) : Calls Tryd.prog 17 ⟨[(Value.int .i64 f_0)]⟩ w fun e w' => (∃ (r0 : Int), e = .returned (.int .i64 r0) ∧ Q r0 w') :=
  (ref01_First.vc Z0 Q f_0 w h).mono fun _ _ hR => hR.elim id fun ⟨_, _, hz⟩ => hz.elim
theorem ref01_First.cal {Z : List PanicEntry → PT} {Q : Int → PT} {f_0 : Int} {w : World} (h : ref01_First.F Z Q f_0 w) : Go.Proofs.YtchhffabpgebmaaDoor.cal Tryd.prog Z 17 [(Value.int .i64 f_0)] (isI .i64 fun r0 => Q r0) w := by
  refine (ref01_First.vc Z Q f_0 w h).mono fun e w' hR => ?_
  rcases hR with ⟨r0, rfl, h⟩ | ⟨c, rfl, h⟩
  · show (isI .i64 fun r0 => Q r0) (.int .i64 r0) w'
    exact ⟨_, rfl, h⟩
  · exact h

/-! ### milepost/milepostref01.Width: function 18 -/
noncomputable def ref01_Width.body : Code := bodyC Tryd.f18
def ref01_Width.F (Z : List PanicEntry → PT) (Q : Int → PT) (f_0 : Int) : PT :=
  (pif (decide (f_0 < 2)) (Q 32) (pif (decide (f_0 < 4)) (Q 16) (Q 8)))
def ref01_Width.q1 (Z : List PanicEntry → PT) (Q : Int → PT) : QF := bodyQ Tryd.prog [.tmp 2] (fun v => atI .i64 v fun va => Q va)
theorem ref01_Width.eq (Z : List PanicEntry → PT) (Q : Int → PT) (f_0 : Int) : comp Tryd.prog Z ref01_Width.body (ref01_Width.q1 Z Q) (fr0 [(Value.int .i64 f_0)]) = ref01_Width.F Z Q f_0 := by kernel_rfl
theorem ref01_Width.vc (Z : List PanicEntry → PT) (Q : Int → PT) (f_0 : Int) (w : World) (h : ref01_Width.F Z Q f_0 w) : Calls Tryd.prog 18 ⟨[(Value.int .i64 f_0)]⟩ w fun e w' => (∃ (r0 : Int), e = .returned (.int .i64 r0) ∧ Q r0 w') ∨ ∃ c, e = .panicked c ∧ Z c w' := by
  refine (calls_of_ok (args := [(Value.int .i64 f_0)]) (w := w) (rs := [.tmp 2]) (fn := Tryd.f18) (c := ref01_Width.body) Tryd.func18 (by kernel_rfl) (by kernel_rfl) (Nat.le_of_ble_eq_true (by kernel_rfl)) (okC ref01_Width.body (ref01_Width.q1 Z Q) (by kernel_rfl)) (by rw [ref01_Width.eq]; exact h)).mono fun e w' hR => ?_
  cases e with
  | returned v =>
    obtain ⟨va, rfl, hR⟩ := atI_e hR
    exact .inl ⟨va, rfl, hR⟩
  | panicked c => exact .inr ⟨c, rfl, hR⟩
  | outgrown => exact hR.elim
theorem ref01_Width.vc0 (Q : Int → PT) (f_0 : Int) (w : World) (h : ref01_Width.F Z0 Q f_0 w) : Calls Tryd.prog 18 ⟨[(Value.int .i64 f_0)]⟩ w fun e w' => (∃ (r0 : Int), e = .returned (.int .i64 r0) ∧ Q r0 w') :=
  (ref01_Width.vc Z0 Q f_0 w h).mono fun _ _ hR => hR.elim id fun ⟨_, _, hz⟩ => hz.elim
theorem ref01_Width.cal {Z : List PanicEntry → PT} {Q : Int → PT} {f_0 : Int} {w : World} (h : ref01_Width.F Z Q f_0 w) : Go.Proofs.YtchhffabpgebmaaDoor.cal Tryd.prog Z 18 [(Value.int .i64 f_0)] (isI .i64 fun r0 => Q r0) w := by
  refine (ref01_Width.vc Z Q f_0 w h).mono fun e w' hR => ?_
  rcases hR with ⟨r0, rfl, h⟩ | ⟨c, rfl, h⟩
  · show (isI .i64 fun r0 => Q r0) (.int .i64 r0) w'
    exact ⟨_, rfl, h⟩
  · exact h

/-! ### milepost/milepostref01.Bit: function 21 -/
noncomputable def ref01_Bit.body : Code := bodyC Tryd.f21
def ref01_Bit.F (Z : List PanicEntry → PT) (Q : Bool → PT) (h_0 : List Value) (i_1 : Int) : PT :=
  (newC 26 h_0 fun h3 => (pif (decide (i_1 < 0)) (Q false) (pif (decide (i_1 > 103)) (Q false) (cnd ((8 : Int) ≠ 0) (cnd ((0 : Int) ≤ (IntKind.wrap .i64 (Int.tdiv i_1 8)) ∧ (IntKind.wrap .i64 (Int.tdiv i_1 8)) < ((13 : Nat) : Int)) (ldI .u8 (h3.add ((IntKind.wrap .i64 (Int.tdiv i_1 8)).toNat * 1)) fun v4 => (cnd ((8 : Int) ≠ 0) (cnd ((0 : Int) ≤ (IntKind.wrap .i64 ((7 : Int) - (Int.tmod i_1 8)))) (cnd ((2 : Int) ≠ 0) (Q ((Int.tmod (Int.fdiv v4 (2 ^ (min (IntKind.wrap .i64 ((7 : Int) - (Int.tmod i_1 8))).toNat (IntKind.bits .u8)))) 2) == 1)))))))))))
def ref01_Bit.q1 (Z : List PanicEntry → PT) (Q : Bool → PT) : QF := bodyQ Tryd.prog [.tmp 4] (fun v => atB v fun va => Q va)
theorem ref01_Bit.eq (Z : List PanicEntry → PT) (Q : Bool → PT) (h_0 : List Value) (i_1 : Int) : comp Tryd.prog Z ref01_Bit.body (ref01_Bit.q1 Z Q) (fr0 [(Value.agg ⟨h_0⟩), (Value.int .i64 i_1)]) = ref01_Bit.F Z Q h_0 i_1 := by kernel_rfl
theorem ref01_Bit.vc (Z : List PanicEntry → PT) (Q : Bool → PT) (h_0 : List Value) (i_1 : Int) (w : World) (h : ref01_Bit.F Z Q h_0 i_1 w) : Calls Tryd.prog 21 ⟨[(Value.agg ⟨h_0⟩), (Value.int .i64 i_1)]⟩ w fun e w' => (∃ (r0 : Bool), e = .returned (.bool r0) ∧ Q r0 w') ∨ ∃ c, e = .panicked c ∧ Z c w' := by
  refine (calls_of_ok (args := [(Value.agg ⟨h_0⟩), (Value.int .i64 i_1)]) (w := w) (rs := [.tmp 4]) (fn := Tryd.f21) (c := ref01_Bit.body) Tryd.func21 (by kernel_rfl) (by kernel_rfl) (Nat.le_of_ble_eq_true (by kernel_rfl)) (okC ref01_Bit.body (ref01_Bit.q1 Z Q) (by kernel_rfl)) (by rw [ref01_Bit.eq]; exact h)).mono fun e w' hR => ?_
  cases e with
  | returned v =>
    obtain ⟨va, rfl, hR⟩ := atB_e hR
    exact .inl ⟨va, rfl, hR⟩
  | panicked c => exact .inr ⟨c, rfl, hR⟩
  | outgrown => exact hR.elim
theorem ref01_Bit.vc0 (Q : Bool → PT) (h_0 : List Value) (i_1 : Int) (w : World) (h : ref01_Bit.F Z0 Q h_0 i_1 w) : Calls Tryd.prog 21 ⟨[(Value.agg ⟨h_0⟩), (Value.int .i64 i_1)]⟩ w fun e w' => (∃ (r0 : Bool), e = .returned (.bool r0) ∧ Q r0 w') :=
  (ref01_Bit.vc Z0 Q h_0 i_1 w h).mono fun _ _ hR => hR.elim id fun ⟨_, _, hz⟩ => hz.elim
theorem ref01_Bit.cal {Z : List PanicEntry → PT} {Q : Bool → PT} {h_0 : List Value} {i_1 : Int} {w : World} (h : ref01_Bit.F Z Q h_0 i_1 w) : Go.Proofs.YtchhffabpgebmaaDoor.cal Tryd.prog Z 21 [(Value.agg ⟨h_0⟩), (Value.int .i64 i_1)] (isB fun r0 => Q r0) w := by
  refine (ref01_Bit.vc Z Q h_0 i_1 w h).mono fun e w' hR => ?_
  rcases hR with ⟨r0, rfl, h⟩ | ⟨c, rfl, h⟩
  · show (isB fun r0 => Q r0) (.bool r0) w'
    exact ⟨_, rfl, h⟩
  · exact h

/-! ### milepost/milepostref01.Put: function 29 -/
noncomputable def ref01_Put.body : Code := bodyC Tryd.f29
def ref01_Put.F (Z : List PanicEntry → PT) (Q : List Value → PT) (h_0 : List Value) (i_1 : Int) (one_2 : Bool) : PT :=
  (newC 26 h_0 fun h23 => (newC 26 [(Value.int .u8 0), (Value.int .u8 0), (Value.int .u8 0), (Value.int .u8 0), (Value.int .u8 0), (Value.int .u8 0), (Value.int .u8 0), (Value.int .u8 0), (Value.int .u8 0), (Value.int .u8 0), (Value.int .u8 0), (Value.int .u8 0), (Value.int .u8 0)] fun v24 => (ldN 13 h23 fun v25 => (cal Tryd.prog Z 21 [(Value.agg ⟨v25⟩), (Value.int .i64 i_1)] (isB fun v26 => (pif (v26 == one_2) (ldN 13 h23 fun v27 => (stN 13 v24 v27 (ldN 13 v24 fun v28 => (Q v28)))) (pif (decide (i_1 < 0)) (ldN 13 h23 fun v29 => (stN 13 v24 v29 (ldN 13 v24 fun v30 => (Q v30)))) (pif (decide (i_1 > 103)) (ldN 13 h23 fun v31 => (stN 13 v24 v31 (ldN 13 v24 fun v32 => (Q v32)))) (pif one_2 (drawn fun S33 => (cnd ((8 : Int) ≠ 0) (cnd ((8 : Int) ≠ 0) (cnd ((0 : Int) ≤ (IntKind.wrap .i64 (Int.tdiv i_1 8)) ∧ (IntKind.wrap .i64 (Int.tdiv i_1 8)) < ((13 : Nat) : Int)) (hI S33 .u8 (h23.add ((IntKind.wrap .i64 (Int.tdiv i_1 8)).toNat * 1)) fun v34 => (cnd ((8 : Int) ≠ 0) (cnd ((0 : Int) ≤ (Int.tmod i_1 8)) (cnd ((0 : Int) ≤ (IntKind.wrap .i64 (Int.tdiv i_1 8)) ∧ (IntKind.wrap .i64 (Int.tdiv i_1 8)) < ((13 : Nat) : Int)) (st1 (h23.add ((IntKind.wrap .i64 (Int.tdiv i_1 8)).toNat * 1)) (Value.int .u8 (IntKind.wrap .u8 (v34 + (Int.fdiv (128 : Int) (2 ^ (min (Int.tmod i_1 8).toNat (IntKind.bits .u8))))))) (ldN 13 h23 fun v35 => (stN 13 v24 v35 (ldN 13 v24 fun v36 => (Q v36))))))))))))) (drawn fun S37 => (cnd ((8 : Int) ≠ 0) (cnd ((8 : Int) ≠ 0) (cnd ((0 : Int) ≤ (IntKind.wrap .i64 (Int.tdiv i_1 8)) ∧ (IntKind.wrap .i64 (Int.tdiv i_1 8)) < ((13 : Nat) : Int)) (hI S37 .u8 (h23.add ((IntKind.wrap .i64 (Int.tdiv i_1 8)).toNat * 1)) fun v38 => (cnd ((8 : Int) ≠ 0) (cnd ((0 : Int) ≤ (Int.tmod i_1 8)) (cnd ((0 : Int) ≤ (IntKind.wrap .i64 (Int.tdiv i_1 8)) ∧ (IntKind.wrap .i64 (Int.tdiv i_1 8)) < ((13 : Nat) : Int)) (st1 (h23.add ((IntKind.wrap .i64 (Int.tdiv i_1 8)).toNat * 1)) (Value.int .u8 (IntKind.wrap .u8 (v38 - (Int.fdiv (128 : Int) (2 ^ (min (Int.tmod i_1 8).toNat (IntKind.bits .u8))))))) (ldN 13 h23 fun v39 => (stN 13 v24 v39 (ldN 13 v24 fun v40 => (Q v40))))))))))))))))))))))
def ref01_Put.q1 (Z : List PanicEntry → PT) (Q : List Value → PT) : QF := bodyQ Tryd.prog [.cell 6 26] (fun v => atN v fun va => Q va)
theorem ref01_Put.eq (Z : List PanicEntry → PT) (Q : List Value → PT) (h_0 : List Value) (i_1 : Int) (one_2 : Bool) : comp Tryd.prog Z ref01_Put.body (ref01_Put.q1 Z Q) (fr0 [(Value.agg ⟨h_0⟩), (Value.int .i64 i_1), (Value.bool one_2)]) = ref01_Put.F Z Q h_0 i_1 one_2 := by kernel_rfl
theorem ref01_Put.vc (Z : List PanicEntry → PT) (Q : List Value → PT) (h_0 : List Value) (i_1 : Int) (one_2 : Bool) (w : World) (h : ref01_Put.F Z Q h_0 i_1 one_2 w) : Calls Tryd.prog 29 ⟨[(Value.agg ⟨h_0⟩), (Value.int .i64 i_1), (Value.bool one_2)]⟩ w fun e w' => (∃ (r0 : List Value), e = .returned (.agg ⟨r0⟩) ∧ Q r0 w') ∨ ∃ c, e = .panicked c ∧ Z c w' := by
  refine (calls_of_ok (args := [(Value.agg ⟨h_0⟩), (Value.int .i64 i_1), (Value.bool one_2)]) (w := w) (rs := [.cell 6 26]) (fn := Tryd.f29) (c := ref01_Put.body) Tryd.func29 (by kernel_rfl) (by kernel_rfl) (Nat.le_of_ble_eq_true (by kernel_rfl)) (okC ref01_Put.body (ref01_Put.q1 Z Q) (by kernel_rfl)) (by rw [ref01_Put.eq]; exact h)).mono fun e w' hR => ?_
  cases e with
  | returned v =>
    obtain ⟨va, rfl, hR⟩ := atN_e hR
    exact .inl ⟨va, rfl, hR⟩
  | panicked c => exact .inr ⟨c, rfl, hR⟩
  | outgrown => exact hR.elim
theorem ref01_Put.vc0 (Q : List Value → PT) (h_0 : List Value) (i_1 : Int) (one_2 : Bool) (w : World) (h : ref01_Put.F Z0 Q h_0 i_1 one_2 w) : Calls Tryd.prog 29 ⟨[(Value.agg ⟨h_0⟩), (Value.int .i64 i_1), (Value.bool one_2)]⟩ w fun e w' => (∃ (r0 : List Value), e = .returned (.agg ⟨r0⟩) ∧ Q r0 w') :=
  (ref01_Put.vc Z0 Q h_0 i_1 one_2 w h).mono fun _ _ hR => hR.elim id fun ⟨_, _, hz⟩ => hz.elim
theorem ref01_Put.cal {Z : List PanicEntry → PT} {Q : List Value → PT} {h_0 : List Value} {i_1 : Int} {one_2 : Bool} {w : World} (h : ref01_Put.F Z Q h_0 i_1 one_2 w) : Go.Proofs.YtchhffabpgebmaaDoor.cal Tryd.prog Z 29 [(Value.agg ⟨h_0⟩), (Value.int .i64 i_1), (Value.bool one_2)] (isN fun r0 => Q r0) w := by
  refine (ref01_Put.vc Z Q h_0 i_1 one_2 w h).mono fun e w' hR => ?_
  rcases hR with ⟨r0, rfl, h⟩ | ⟨c, rfl, h⟩
  · show (isN fun r0 => Q r0) (.agg ⟨r0⟩) w'
    exact ⟨_, rfl, h⟩
  · exact h

/-! ### milepost/head.Bit: function 20 -/
noncomputable def head_Bit.body : Code := bodyC Tryd.f20
def head_Bit.F (Z : List PanicEntry → PT) (Q : Bool → PT) (h_0 : List Value) (i_1 : Int) : PT :=
  (newC 26 h_0 fun h2 => (drew0 (pif (decide (i_1 ≥ 0)) (pif (decide (i_1 < 104)) (cnd ((8 : Int) ≠ 0) (cnd ((0 : Int) ≤ (IntKind.wrap .i64 (Int.tdiv i_1 8)) ∧ (IntKind.wrap .i64 (Int.tdiv i_1 8)) < ((13 : Nat) : Int)) (ldI .u8 (h2.add ((IntKind.wrap .i64 (Int.tdiv i_1 8)).toNat * 1)) fun v3 => (cnd ((8 : Int) ≠ 0) (cnd ((0 : Int) ≤ (Int.tmod i_1 8)) (Q ((IntKind.wrap .u8 (BitVec.ofInt (IntKind.bits .u8) v3 &&& BitVec.ofInt (IntKind.bits .u8) (Int.fdiv (128 : Int) (2 ^ (min (Int.tmod i_1 8).toNat (IntKind.bits .u8))))).toNat) != 0))))))) (Q false)) (Q false))))
def head_Bit.q1 (Z : List PanicEntry → PT) (Q : Bool → PT) : QF := bodyQ Tryd.prog [.tmp 4] (fun v => atB v fun va => Q va)
theorem head_Bit.eq (Z : List PanicEntry → PT) (Q : Bool → PT) (h_0 : List Value) (i_1 : Int) : comp Tryd.prog Z head_Bit.body (head_Bit.q1 Z Q) (fr0 [(Value.agg ⟨h_0⟩), (Value.int .i64 i_1)]) = head_Bit.F Z Q h_0 i_1 := by kernel_rfl
theorem head_Bit.vc (Z : List PanicEntry → PT) (Q : Bool → PT) (h_0 : List Value) (i_1 : Int) (w : World) (h : head_Bit.F Z Q h_0 i_1 w) : Calls Tryd.prog 20 ⟨[(Value.agg ⟨h_0⟩), (Value.int .i64 i_1)]⟩ w fun e w' => (∃ (r0 : Bool), e = .returned (.bool r0) ∧ Q r0 w') ∨ ∃ c, e = .panicked c ∧ Z c w' := by
  refine (calls_of_ok (args := [(Value.agg ⟨h_0⟩), (Value.int .i64 i_1)]) (w := w) (rs := [.tmp 4]) (fn := Tryd.f20) (c := head_Bit.body) Tryd.func20 (by kernel_rfl) (by kernel_rfl) (Nat.le_of_ble_eq_true (by kernel_rfl)) (okC head_Bit.body (head_Bit.q1 Z Q) (by kernel_rfl)) (by rw [head_Bit.eq]; exact h)).mono fun e w' hR => ?_
  cases e with
  | returned v =>
    obtain ⟨va, rfl, hR⟩ := atB_e hR
    exact .inl ⟨va, rfl, hR⟩
  | panicked c => exact .inr ⟨c, rfl, hR⟩
  | outgrown => exact hR.elim
theorem head_Bit.vc0 (Q : Bool → PT) (h_0 : List Value) (i_1 : Int) (w : World) (h : head_Bit.F Z0 Q h_0 i_1 w) : Calls Tryd.prog 20 ⟨[(Value.agg ⟨h_0⟩), (Value.int .i64 i_1)]⟩ w fun e w' => (∃ (r0 : Bool), e = .returned (.bool r0) ∧ Q r0 w') :=
  (head_Bit.vc Z0 Q h_0 i_1 w h).mono fun _ _ hR => hR.elim id fun ⟨_, _, hz⟩ => hz.elim
theorem head_Bit.cal {Z : List PanicEntry → PT} {Q : Bool → PT} {h_0 : List Value} {i_1 : Int} {w : World} (h : head_Bit.F Z Q h_0 i_1 w) : Go.Proofs.YtchhffabpgebmaaDoor.cal Tryd.prog Z 20 [(Value.agg ⟨h_0⟩), (Value.int .i64 i_1)] (isB fun r0 => Q r0) w := by
  refine (head_Bit.vc Z Q h_0 i_1 w h).mono fun e w' hR => ?_
  rcases hR with ⟨r0, rfl, h⟩ | ⟨c, rfl, h⟩
  · show (isB fun r0 => Q r0) (.bool r0) w'
    exact ⟨_, rfl, h⟩
  · exact h

/-! ### milepost/head.Flip: function 19 -/
noncomputable def head_Flip.body : Code := bodyC Tryd.f19
def head_Flip.F (Z : List PanicEntry → PT) (Q : List Value → PT) (h_0 : List Value) (i_1 : Int) : PT :=
  (newC 26 h_0 fun h7 => (newC 26 [(Value.int .u8 0), (Value.int .u8 0), (Value.int .u8 0), (Value.int .u8 0), (Value.int .u8 0), (Value.int .u8 0), (Value.int .u8 0), (Value.int .u8 0), (Value.int .u8 0), (Value.int .u8 0), (Value.int .u8 0), (Value.int .u8 0), (Value.int .u8 0)] fun v8 => (pif (decide (i_1 ≥ 0)) (pif (decide (i_1 < 104)) (drawn fun S9 => (cnd ((8 : Int) ≠ 0) (cnd ((0 : Int) ≤ (IntKind.wrap .i64 (Int.tdiv i_1 8)) ∧ (IntKind.wrap .i64 (Int.tdiv i_1 8)) < ((13 : Nat) : Int)) (hI S9 .u8 (h7.add ((IntKind.wrap .i64 (Int.tdiv i_1 8)).toNat * 1)) fun v10 => (cnd ((8 : Int) ≠ 0) (cnd ((0 : Int) ≤ (Int.tmod i_1 8)) (cnd ((0 : Int) ≤ (IntKind.wrap .i64 (Int.tdiv i_1 8)) ∧ (IntKind.wrap .i64 (Int.tdiv i_1 8)) < ((13 : Nat) : Int)) (st1 (h7.add ((IntKind.wrap .i64 (Int.tdiv i_1 8)).toNat * 1)) (Value.int .u8 (IntKind.wrap .u8 (BitVec.ofInt (IntKind.bits .u8) v10 ^^^ BitVec.ofInt (IntKind.bits .u8) (Int.fdiv (128 : Int) (2 ^ (min (Int.tmod i_1 8).toNat (IntKind.bits .u8))))).toNat)) (ldN 13 h7 fun v11 => (stN 13 v8 v11 (ldN 13 v8 fun v12 => (Q v12)))))))))))) (ldN 13 h7 fun v13 => (stN 13 v8 v13 (ldN 13 v8 fun v14 => (Q v14))))) (ldN 13 h7 fun v15 => (stN 13 v8 v15 (ldN 13 v8 fun v16 => (Q v16)))))))
def head_Flip.q1 (Z : List PanicEntry → PT) (Q : List Value → PT) : QF := bodyQ Tryd.prog [.cell 4 26] (fun v => atN v fun va => Q va)
theorem head_Flip.eq (Z : List PanicEntry → PT) (Q : List Value → PT) (h_0 : List Value) (i_1 : Int) : comp Tryd.prog Z head_Flip.body (head_Flip.q1 Z Q) (fr0 [(Value.agg ⟨h_0⟩), (Value.int .i64 i_1)]) = head_Flip.F Z Q h_0 i_1 := by kernel_rfl
theorem head_Flip.vc (Z : List PanicEntry → PT) (Q : List Value → PT) (h_0 : List Value) (i_1 : Int) (w : World) (h : head_Flip.F Z Q h_0 i_1 w) : Calls Tryd.prog 19 ⟨[(Value.agg ⟨h_0⟩), (Value.int .i64 i_1)]⟩ w fun e w' => (∃ (r0 : List Value), e = .returned (.agg ⟨r0⟩) ∧ Q r0 w') ∨ ∃ c, e = .panicked c ∧ Z c w' := by
  refine (calls_of_ok (args := [(Value.agg ⟨h_0⟩), (Value.int .i64 i_1)]) (w := w) (rs := [.cell 4 26]) (fn := Tryd.f19) (c := head_Flip.body) Tryd.func19 (by kernel_rfl) (by kernel_rfl) (Nat.le_of_ble_eq_true (by kernel_rfl)) (okC head_Flip.body (head_Flip.q1 Z Q) (by kernel_rfl)) (by rw [head_Flip.eq]; exact h)).mono fun e w' hR => ?_
  cases e with
  | returned v =>
    obtain ⟨va, rfl, hR⟩ := atN_e hR
    exact .inl ⟨va, rfl, hR⟩
  | panicked c => exact .inr ⟨c, rfl, hR⟩
  | outgrown => exact hR.elim
theorem head_Flip.vc0 (Q : List Value → PT) (h_0 : List Value) (i_1 : Int) (w : World) (h : head_Flip.F Z0 Q h_0 i_1 w) : Calls Tryd.prog 19 ⟨[(Value.agg ⟨h_0⟩), (Value.int .i64 i_1)]⟩ w fun e w' => (∃ (r0 : List Value), e = .returned (.agg ⟨r0⟩) ∧ Q r0 w') :=
  (head_Flip.vc Z0 Q h_0 i_1 w h).mono fun _ _ hR => hR.elim id fun ⟨_, _, hz⟩ => hz.elim
theorem head_Flip.cal {Z : List PanicEntry → PT} {Q : List Value → PT} {h_0 : List Value} {i_1 : Int} {w : World} (h : head_Flip.F Z Q h_0 i_1 w) : Go.Proofs.YtchhffabpgebmaaDoor.cal Tryd.prog Z 19 [(Value.agg ⟨h_0⟩), (Value.int .i64 i_1)] (isN fun r0 => Q r0) w := by
  refine (head_Flip.vc Z Q h_0 i_1 w h).mono fun e w' hR => ?_
  rcases hR with ⟨r0, rfl, h⟩ | ⟨c, rfl, h⟩
  · show (isN fun r0 => Q r0) (.agg ⟨r0⟩) w'
    exact ⟨_, rfl, h⟩
  · exact h

/-! ### milepost/head.Field: function 11 -/
noncomputable def head_Field.body : Code := bodyC Tryd.f11
noncomputable def head_Field.c1 : Code := sq1 head_Field.body
noncomputable def head_Field.c2 : Code := sq1 (sq2 head_Field.body)
noncomputable def head_Field.c3 : Code := sq1 (sq2 (sq2 head_Field.body))
noncomputable def head_Field.c4 : Code := sq1 (sq2 (sq2 (sq2 head_Field.body)))
noncomputable def head_Field.c5 : Code := sq2 (sq2 (sq2 (sq2 head_Field.body)))
theorem head_Field.q6 : head_Field.body = .seq head_Field.c1 (.seq head_Field.c2 (.seq head_Field.c3 (.seq head_Field.c4 head_Field.c5))) := by kernel_rfl
noncomputable def head_Field.c7 : Code := sq1 head_Field.c5
noncomputable def head_Field.c8 : Code := sq2 head_Field.c5
theorem head_Field.q9 : head_Field.c5 = .seq head_Field.c7 head_Field.c8 := by kernel_rfl
def head_Field.s10 (Z : List PanicEntry → PT) (Q : Int → Int → PT) (v_9 : Int) : PT :=
  (Q v_9 0)
def head_Field.q11 (Z : List PanicEntry → PT) (Q : Int → Int → PT) : QF := bodyQ Tryd.prog [.tmp 4, .tmp 5] (fun v => at2 v fun x y => atI .u32 x fun xa => atI .i64 y fun ya => Q xa ya)
theorem head_Field.s10_eq (Z : List PanicEntry → PT) (Q : Int → Int → PT) (ρ : Fr) (v_9 : Int) : comp Tryd.prog Z head_Field.c8 (head_Field.q11 Z Q) (puts ρ [(9, (Value.int .u32 v_9))]) = head_Field.s10 Z Q v_9 := by kernel_rfl
def head_Field.j12 (Z : List PanicEntry → PT) (Q : Int → Int → PT) : Fr → PT := (fun ρ => atI .u32 (ρ 9) fun v_9 => (head_Field.s10 Z Q v_9))
theorem head_Field.s10_ok (Z : List PanicEntry → PT) (Q : Int → Int → PT) : Ok Tryd.prog Tryd.f11.ntmps Z head_Field.c8 (head_Field.q11 Z Q) (head_Field.j12 Z Q) := by
  intro E he ρ w a hr h
  obtain ⟨v_9, e9, h⟩ := atI_e h
  exact ok_at [(9, (Value.int .u32 v_9))] (okC head_Field.c8 (head_Field.q11 Z Q) (by kernel_rfl)) (puts_cons e9 (fun p hp => puts_nil hp)) (head_Field.s10_eq Z Q ρ v_9) he hr h
noncomputable def head_Field.c13 : Code := sq1 head_Field.c7
noncomputable def head_Field.c14 : Code := sq2 head_Field.c7
theorem head_Field.q15 : head_Field.c7 = .seq head_Field.c13 head_Field.c14 := by kernel_rfl
noncomputable def head_Field.c16 : Code := blk head_Field.c14
theorem head_Field.q17 : head_Field.c14 = .block 0 head_Field.c16 := by kernel_rfl
noncomputable def head_Field.c18 : Code := lop head_Field.c16
theorem head_Field.q19 : head_Field.c16 = .loop head_Field.c18 := by kernel_rfl
def head_Field.q21 (Z : List PanicEntry → PT) (Q : Int → Int → PT) : QF := thenK (head_Field.j12 Z Q) (head_Field.q11 Z Q)
def head_Field.q22 (Z : List PanicEntry → PT) (Q : Int → Int → PT) : QF := inBl 0 (head_Field.q21 Z Q)
def head_Field.s23 (Z : List PanicEntry → PT) (Q : Int → Int → PT) (X1 : Int → Option Addr → Nat → Nat → Int → Int → PT) (v_9 : Int) (t_28 : Option Addr) (t_28n t_28c : Nat) (t_29 : Int) (t_30 : Int) : PT :=
  (pif (decide (t_30 < t_29)) (ixS t_28 t_28n t_30 1 fun v28 => (ldI .u8 v28 fun v29 => (cnd ((0 : Int) ≤ 8) (X1 (IntKind.wrap .u32 (BitVec.ofInt (IntKind.bits .u32) (IntKind.wrap .u32 (v_9 * 2 ^ (min (8 : Int).toNat (IntKind.bits .u32)))) ||| BitVec.ofInt (IntKind.bits .u32) (IntKind.wrap .u32 v29)).toNat) t_28 t_28n t_28c t_29 (IntKind.wrap .i64 (t_30 + 1)))))) (head_Field.s10 Z Q v_9))
def head_Field.j24 (Z : List PanicEntry → PT) (Q : Int → Int → PT) (X1 : Int → Option Addr → Nat → Nat → Int → Int → PT) : Fr → PT := (fun ρ => atI .u32 (ρ 9) fun v_9 => atL (ρ 28) fun t_28 t_28n t_28c => atI .i64 (ρ 29) fun t_29 => atI .i64 (ρ 30) fun t_30 => (X1 v_9 t_28 t_28n t_28c t_29 t_30))
def head_Field.q25 (Z : List PanicEntry → PT) (Q : Int → Int → PT) (X1 : Int → Option Addr → Nat → Nat → Int → Int → PT) : QF := thenK (head_Field.j24 Z Q X1) (head_Field.q22 Z Q)
theorem head_Field.s23_eq (Z : List PanicEntry → PT) (Q : Int → Int → PT) (X1 : Int → Option Addr → Nat → Nat → Int → Int → PT) (ρ : Fr) (v_9 : Int) (t_28 : Option Addr) (t_28n t_28c : Nat) (t_29 : Int) (t_30 : Int) : comp Tryd.prog Z head_Field.c18 (head_Field.q25 Z Q X1) (puts ρ [(9, (Value.int .u32 v_9)), (28, (Value.slice t_28 t_28n t_28c)), (29, (Value.int .i64 t_29)), (30, (Value.int .i64 t_30))]) = head_Field.s23 Z Q X1 v_9 t_28 t_28n t_28c t_29 t_30 := by kernel_rfl
def head_Field.j26 (Z : List PanicEntry → PT) (Q : Int → Int → PT) (X1 : Int → Option Addr → Nat → Nat → Int → Int → PT) : Fr → PT := (fun ρ => atI .u32 (ρ 9) fun v_9 => atL (ρ 28) fun t_28 t_28n t_28c => atI .i64 (ρ 29) fun t_29 => atI .i64 (ρ 30) fun t_30 => (head_Field.s23 Z Q X1 v_9 t_28 t_28n t_28c t_29 t_30))
theorem head_Field.s23_ok (Z : List PanicEntry → PT) (Q : Int → Int → PT) (X1 : Int → Option Addr → Nat → Nat → Int → Int → PT) : Ok Tryd.prog Tryd.f11.ntmps Z head_Field.c18 (head_Field.q25 Z Q X1) (head_Field.j26 Z Q X1) := by
  intro E he ρ w a hr h
  obtain ⟨v_9, e9, h⟩ := atI_e h
  obtain ⟨t_28, t_28n, t_28c, e28, h⟩ := atL_e h
  obtain ⟨t_29, e29, h⟩ := atI_e h
  obtain ⟨t_30, e30, h⟩ := atI_e h
  exact ok_at [(9, (Value.int .u32 v_9)), (28, (Value.slice t_28 t_28n t_28c)), (29, (Value.int .i64 t_29)), (30, (Value.int .i64 t_30))] (okC head_Field.c18 (head_Field.q25 Z Q X1) (by kernel_rfl)) (puts_cons e9 (puts_cons e28 (puts_cons e29 (puts_cons e30 (fun p hp => puts_nil hp))))) (head_Field.s23_eq Z Q X1 ρ v_9 t_28 t_28n t_28c t_29 t_30) he hr h
def head_Field.l20 (Z : List PanicEntry → PT) (Q : Int → Int → PT) : Nat → Int → Option Addr → Nat → Nat → Int → Int → PT
  | 0, _, _, _, _, _, _ => bad
  | k + 1, v_9, t_28, t_28n, t_28c, t_29, t_30 => (head_Field.s23 Z Q (head_Field.l20 Z Q k) v_9 t_28 t_28n t_28c t_29 t_30)
def head_Field.j27 (Z : List PanicEntry → PT) (Q : Int → Int → PT) (k : Nat) : Fr → PT := (fun ρ => atI .u32 (ρ 9) fun v_9 => atL (ρ 28) fun t_28 t_28n t_28c => atI .i64 (ρ 29) fun t_29 => atI .i64 (ρ 30) fun t_30 => (head_Field.l20 Z Q k v_9 t_28 t_28n t_28c t_29 t_30))
def head_Field.j28 (Z : List PanicEntry → PT) (Q : Int → Int → PT) : Fr → PT := (fun ρ => atI .u32 (ρ 9) fun v_9 => atL (ρ 28) fun t_28 t_28n t_28c => atI .i64 (ρ 29) fun t_29 => atI .i64 (ρ 30) fun t_30 => (exK fun k => head_Field.l20 Z Q k v_9 t_28 t_28n t_28c t_29 t_30))
theorem head_Field.o29 (Z : List PanicEntry → PT) (Q : Int → Int → PT) : Ok Tryd.prog Tryd.f11.ntmps Z head_Field.c16 (head_Field.q22 Z Q) (head_Field.j28 Z Q) := by
  rw [head_Field.q19]
  refine Ok.imp (ok_loop (J := head_Field.j27 Z Q) ?_ ?_) ?_
  · intro ρ w h
    obtain ⟨v_9, e9, h⟩ := atI_e h
    obtain ⟨t_28, t_28n, t_28c, e28, h⟩ := atL_e h
    obtain ⟨t_29, e29, h⟩ := atI_e h
    obtain ⟨t_30, e30, h⟩ := atI_e h
    exact h
  · intro k
    refine Ok.imp (head_Field.s23_ok Z Q (head_Field.l20 Z Q k)) fun ρ w h => ?_
    obtain ⟨v_9, e9, h⟩ := atI_e h
    obtain ⟨t_28, t_28n, t_28c, e28, h⟩ := atL_e h
    obtain ⟨t_29, e29, h⟩ := atI_e h
    obtain ⟨t_30, e30, h⟩ := atI_e h
    show (head_Field.j26 Z Q (head_Field.l20 Z Q k)) ρ w
    simp only [head_Field.j26]
    rw [e9]
    rw [e28]
    rw [e29]
    rw [e30]
    exact h
  · intro ρ w h
    obtain ⟨v_9, e9, h⟩ := atI_e h
    obtain ⟨t_28, t_28n, t_28c, e28, h⟩ := atL_e h
    obtain ⟨t_29, e29, h⟩ := atI_e h
    obtain ⟨t_30, e30, h⟩ := atI_e h
    obtain ⟨k, h⟩ := h
    refine ⟨k, ?_⟩
    show (atI .u32 (ρ 9) fun v_9 => atL (ρ 28) fun t_28 t_28n t_28c => atI .i64 (ρ 29) fun t_29 => atI .i64 (ρ 30) fun t_30 => (head_Field.l20 Z Q k v_9 t_28 t_28n t_28c t_29 t_30)) w
    rw [e9]
    rw [e28]
    rw [e29]
    rw [e30]
    exact h
theorem head_Field.o30 (Z : List PanicEntry → PT) (Q : Int → Int → PT) : Ok Tryd.prog Tryd.f11.ntmps Z head_Field.c14 (head_Field.q21 Z Q) (head_Field.j28 Z Q) := by
  rw [head_Field.q17]; exact ok_block (head_Field.o29 Z Q)
def head_Field.s31 (Z : List PanicEntry → PT) (Q : Int → Int → PT) (h_2 : Addr) (first_6 : Int) (width_7 : Int) (v_9 : Int) : PT :=
  (cnd ((8 : Int) ≠ 0) (cnd ((8 : Int) ≠ 0) (cnd ((8 : Int) ≠ 0) (slA h_2 13 (IntKind.wrap .i64 (Int.tdiv first_6 8)) (IntKind.wrap .i64 ((IntKind.wrap .i64 (Int.tdiv first_6 8)) + (IntKind.wrap .i64 (Int.tdiv width_7 8)))) 1 fun v30 v30n v30c => (exK fun k => head_Field.l20 Z Q k v_9 v30 v30n v30c ((v30n : Nat) : Int) 0)))))
theorem head_Field.s31_eq (Z : List PanicEntry → PT) (Q : Int → Int → PT) (ρ : Fr) (h_2 : Addr) (first_6 : Int) (width_7 : Int) (v_9 : Int) : (comp Tryd.prog Z head_Field.c13 (thenK (head_Field.j28 Z Q) (head_Field.q21 Z Q))) (puts ρ [(2, (Value.pointer (some h_2))), (6, (Value.int .i64 first_6)), (7, (Value.int .i64 width_7)), (9, (Value.int .u32 v_9))]) = head_Field.s31 Z Q h_2 first_6 width_7 v_9 := by kernel_rfl
def head_Field.j32 (Z : List PanicEntry → PT) (Q : Int → Int → PT) : Fr → PT := (fun ρ => atA (ρ 2) fun h_2 => atI .i64 (ρ 6) fun first_6 => atI .i64 (ρ 7) fun width_7 => atI .u32 (ρ 9) fun v_9 => (head_Field.s31 Z Q h_2 first_6 width_7 v_9))
theorem head_Field.s31_ok (Z : List PanicEntry → PT) (Q : Int → Int → PT) : Ok Tryd.prog Tryd.f11.ntmps Z head_Field.c7 (head_Field.q21 Z Q) (head_Field.j32 Z Q) := by
  intro E he ρ w a hr h
  rw [head_Field.q15] at he ⊢
  obtain ⟨h_2, e2, h⟩ := atA_e h
  obtain ⟨first_6, e6, h⟩ := atI_e h
  obtain ⟨width_7, e7, h⟩ := atI_e h
  obtain ⟨v_9, e9, h⟩ := atI_e h
  exact ok_at [(2, (Value.pointer (some h_2))), (6, (Value.int .i64 first_6)), (7, (Value.int .i64 width_7)), (9, (Value.int .u32 v_9))] (ok_seq (okC head_Field.c13 _ (by kernel_rfl)) (head_Field.o30 Z Q)) (puts_cons e2 (puts_cons e6 (puts_cons e7 (puts_cons e9 (fun p hp => puts_nil hp))))) (head_Field.s31_eq Z Q ρ h_2 first_6 width_7 v_9) he hr h
theorem head_Field.o33 (Z : List PanicEntry → PT) (Q : Int → Int → PT) : Ok Tryd.prog Tryd.f11.ntmps Z head_Field.c5 (head_Field.q11 Z Q) (head_Field.j32 Z Q) := by
  rw [head_Field.q9]; exact ok_seq (head_Field.s31_ok Z Q) (head_Field.s10_ok Z Q)
def head_Field.s34 (Z : List PanicEntry → PT) (Q : Int → Int → PT) (h_0 : List Value) (f_1 : Int) : PT :=
  (newC 26 h_0 fun h31 => (cal Tryd.prog Z 16 [(Value.int .i64 f_1)] (isT3 fun t32 t33 t34 => (isI .i64 fun v35 => ((isI .i64 fun v36 => ((isI .i64 fun v37 => (pif (v37 != 0) (Q 0 v37) (head_Field.s31 Z Q h31 v35 v36 0))) t34)) t33)) t32)))
theorem head_Field.s34_eq (Z : List PanicEntry → PT) (Q : Int → Int → PT) (ρ : Fr) (h_0 : List Value) (f_1 : Int) : (comp Tryd.prog Z head_Field.c1 (thenK (comp Tryd.prog Z head_Field.c2 (thenK (comp Tryd.prog Z head_Field.c3 (thenK (comp Tryd.prog Z head_Field.c4 (thenK (head_Field.j32 Z Q) (head_Field.q11 Z Q))) (head_Field.q11 Z Q))) (head_Field.q11 Z Q))) (head_Field.q11 Z Q))) (puts ρ [(0, (Value.agg ⟨h_0⟩)), (1, (Value.int .i64 f_1))]) = head_Field.s34 Z Q h_0 f_1 := by kernel_rfl
def head_Field.j35 (Z : List PanicEntry → PT) (Q : Int → Int → PT) : Fr → PT := (fun ρ => atN (ρ 0) fun h_0 => atI .i64 (ρ 1) fun f_1 => (head_Field.s34 Z Q h_0 f_1))
theorem head_Field.s34_ok (Z : List PanicEntry → PT) (Q : Int → Int → PT) : Ok Tryd.prog Tryd.f11.ntmps Z head_Field.body (head_Field.q11 Z Q) (head_Field.j35 Z Q) := by
  intro E he ρ w a hr h
  rw [head_Field.q6] at he ⊢
  obtain ⟨h_0, e0, h⟩ := atN_e h
  obtain ⟨f_1, e1, h⟩ := atI_e h
  exact ok_at [(0, (Value.agg ⟨h_0⟩)), (1, (Value.int .i64 f_1))] (ok_seq (okC head_Field.c1 _ (by kernel_rfl)) (ok_seq (okC head_Field.c2 _ (by kernel_rfl)) (ok_seq (okC head_Field.c3 _ (by kernel_rfl)) (ok_seq (okC head_Field.c4 _ (by kernel_rfl)) (head_Field.o33 Z Q))))) (puts_cons e0 (puts_cons e1 (fun p hp => puts_nil hp))) (head_Field.s34_eq Z Q ρ h_0 f_1) he hr h
def head_Field.F (Z : List PanicEntry → PT) (Q : Int → Int → PT) (h_0 : List Value) (f_1 : Int) : PT :=
  (head_Field.s34 Z Q h_0 f_1)
theorem head_Field.vc (Z : List PanicEntry → PT) (Q : Int → Int → PT) (h_0 : List Value) (f_1 : Int) (w : World) (h : head_Field.F Z Q h_0 f_1 w) : Calls Tryd.prog 11 ⟨[(Value.agg ⟨h_0⟩), (Value.int .i64 f_1)]⟩ w fun e w' => (∃ (r0 : Int) (r1 : Int), e = .returned (.tuple #[.int .u32 r0, .int .i64 r1]) ∧ Q r0 r1 w') ∨ ∃ c, e = .panicked c ∧ Z c w' := by
  refine (calls_of_ok (args := [(Value.agg ⟨h_0⟩), (Value.int .i64 f_1)]) (w := w) (rs := [.tmp 4, .tmp 5]) (fn := Tryd.f11) (c := head_Field.body) Tryd.func11 (by kernel_rfl) (by kernel_rfl) (Nat.le_of_ble_eq_true (by kernel_rfl)) (head_Field.s34_ok Z Q) (h)).mono fun e w' hR => ?_
  cases e with
  | returned v =>
    obtain ⟨x, y, rfl, hR⟩ := at2_e hR
    obtain ⟨xa, rfl, hR⟩ := atI_e hR
    obtain ⟨ya, rfl, hR⟩ := atI_e hR
    exact .inl ⟨xa, ya, rfl, hR⟩
  | panicked c => exact .inr ⟨c, rfl, hR⟩
  | outgrown => exact hR.elim
theorem head_Field.vc0 (Q : Int → Int → PT) (h_0 : List Value) (f_1 : Int) (w : World) (h : head_Field.F Z0 Q h_0 f_1 w) : Calls Tryd.prog 11 ⟨[(Value.agg ⟨h_0⟩), (Value.int .i64 f_1)]⟩ w fun e w' => (∃ (r0 : Int) (r1 : Int), e = .returned (.tuple #[.int .u32 r0, .int .i64 r1]) ∧ Q r0 r1 w') :=
  (head_Field.vc Z0 Q h_0 f_1 w h).mono fun _ _ hR => hR.elim id fun ⟨_, _, hz⟩ => hz.elim
theorem head_Field.cal {Z : List PanicEntry → PT} {Q : Int → Int → PT} {h_0 : List Value} {f_1 : Int} {w : World} (h : head_Field.F Z Q h_0 f_1 w) : Go.Proofs.YtchhffabpgebmaaDoor.cal Tryd.prog Z 11 [(Value.agg ⟨h_0⟩), (Value.int .i64 f_1)] (isT2 fun x y => (isI .u32 fun r0 => (isI .i64 fun r1 => Q r0 r1) y) x) w := by
  refine (head_Field.vc Z Q h_0 f_1 w h).mono fun e w' hR => ?_
  rcases hR with ⟨r0, r1, rfl, h⟩ | ⟨c, rfl, h⟩
  · show (isT2 fun x y => (isI .u32 fun r0 => (isI .i64 fun r1 => Q r0 r1) y) x) (.tuple #[.int .u32 r0, .int .i64 r1]) w'
    exact ⟨_, _, rfl, ⟨_, rfl, ⟨_, rfl, h⟩⟩⟩
  · exact h

/-! ### milepost/head.put: function 28 -/
noncomputable def head_put.body : Code := bodyC Tryd.f28
noncomputable def head_put.c1 : Code := sq1 head_put.body
noncomputable def head_put.c2 : Code := sq2 head_put.body
theorem head_put.q3 : head_put.body = .seq head_put.c1 head_put.c2 := by kernel_rfl
noncomputable def head_put.c4 : Code := sq1 head_put.c2
noncomputable def head_put.c5 : Code := sq2 head_put.c2
theorem head_put.q6 : head_put.c2 = .seq head_put.c4 head_put.c5 := by kernel_rfl
def head_put.s7 (Z : List PanicEntry → PT) (Q : List Value → PT) (h_3 : Addr) (t_6 : Addr) : PT :=
  (ldN 13 h_3 fun v4 => (stN 13 t_6 v4 (ldN 13 t_6 fun v5 => (Q v5))))
def head_put.q8 (Z : List PanicEntry → PT) (Q : List Value → PT) : QF := bodyQ Tryd.prog [.cell 6 26] (fun v => atN v fun va => Q va)
theorem head_put.s7_eq (Z : List PanicEntry → PT) (Q : List Value → PT) (ρ : Fr) (h_3 : Addr) (t_6 : Addr) : comp Tryd.prog Z head_put.c5 (head_put.q8 Z Q) (puts ρ [(3, (Value.pointer (some h_3))), (6, (Value.pointer (some t_6)))]) = head_put.s7 Z Q h_3 t_6 := by kernel_rfl
def head_put.j9 (Z : List PanicEntry → PT) (Q : List Value → PT) : Fr → PT := (fun ρ => atA (ρ 3) fun h_3 => atA (ρ 6) fun t_6 => (head_put.s7 Z Q h_3 t_6))
theorem head_put.s7_ok (Z : List PanicEntry → PT) (Q : List Value → PT) : Ok Tryd.prog Tryd.f28.ntmps Z head_put.c5 (head_put.q8 Z Q) (head_put.j9 Z Q) := by
  intro E he ρ w a hr h
  obtain ⟨h_3, e3, h⟩ := atA_e h
  obtain ⟨t_6, e6, h⟩ := atA_e h
  exact ok_at [(3, (Value.pointer (some h_3))), (6, (Value.pointer (some t_6)))] (okC head_put.c5 (head_put.q8 Z Q) (by kernel_rfl)) (puts_cons e3 (puts_cons e6 (fun p hp => puts_nil hp))) (head_put.s7_eq Z Q ρ h_3 t_6) he hr h
noncomputable def head_put.c10 : Code := sq1 head_put.c4
noncomputable def head_put.c11 : Code := sq2 head_put.c4
theorem head_put.q12 : head_put.c4 = .seq head_put.c10 head_put.c11 := by kernel_rfl
noncomputable def head_put.c13 : Code := blk head_put.c11
theorem head_put.q14 : head_put.c11 = .block 0 head_put.c13 := by kernel_rfl
noncomputable def head_put.c15 : Code := lop head_put.c13
theorem head_put.q16 : head_put.c13 = .loop head_put.c15 := by kernel_rfl
def head_put.q18 (Z : List PanicEntry → PT) (Q : List Value → PT) : QF := thenK (head_put.j9 Z Q) (head_put.q8 Z Q)
def head_put.q19 (Z : List PanicEntry → PT) (Q : List Value → PT) : QF := inBl 0 (head_put.q18 Z Q)
def head_put.s20 (Z : List PanicEntry → PT) (Q : List Value → PT) (X1 : Int → Addr → Addr → Addr → Int → PT) (v_2 : Int) (h_3 : Addr) (p_4 : Addr) (t_6 : Addr) (i_7 : Int) : PT :=
  (ldI .i64 (p_4.add 0) fun v11 => (cnd ((8 : Int) ≠ 0) (pif (decide (i_7 ≥ (IntKind.wrap .i64 (Int.tdiv v11 8)))) (cnd ((0 : Int) ≤ i_7 ∧ i_7 < ((13 : Nat) : Int)) (st1 (h_3.add (i_7.toNat * 1)) (Value.int .u8 (IntKind.wrap .u8 v_2)) (cnd ((0 : Int) ≤ 8) (X1 (Int.fdiv v_2 (2 ^ (min (8 : Int).toNat (IntKind.bits .u32)))) h_3 p_4 t_6 (IntKind.wrap .i64 (i_7 - 1)))))) (head_put.s7 Z Q h_3 t_6))))
def head_put.j21 (Z : List PanicEntry → PT) (Q : List Value → PT) (X1 : Int → Addr → Addr → Addr → Int → PT) : Fr → PT := (fun ρ => atI .u32 (ρ 2) fun v_2 => atA (ρ 3) fun h_3 => atA (ρ 4) fun p_4 => atA (ρ 6) fun t_6 => atI .i64 (ρ 7) fun i_7 => (X1 v_2 h_3 p_4 t_6 i_7))
def head_put.q22 (Z : List PanicEntry → PT) (Q : List Value → PT) (X1 : Int → Addr → Addr → Addr → Int → PT) : QF := thenK (head_put.j21 Z Q X1) (head_put.q19 Z Q)
theorem head_put.s20_eq (Z : List PanicEntry → PT) (Q : List Value → PT) (X1 : Int → Addr → Addr → Addr → Int → PT) (ρ : Fr) (v_2 : Int) (h_3 : Addr) (p_4 : Addr) (t_6 : Addr) (i_7 : Int) : comp Tryd.prog Z head_put.c15 (head_put.q22 Z Q X1) (puts ρ [(2, (Value.int .u32 v_2)), (3, (Value.pointer (some h_3))), (4, (Value.pointer (some p_4))), (6, (Value.pointer (some t_6))), (7, (Value.int .i64 i_7))]) = head_put.s20 Z Q X1 v_2 h_3 p_4 t_6 i_7 := by kernel_rfl
def head_put.j23 (Z : List PanicEntry → PT) (Q : List Value → PT) (X1 : Int → Addr → Addr → Addr → Int → PT) : Fr → PT := (fun ρ => atI .u32 (ρ 2) fun v_2 => atA (ρ 3) fun h_3 => atA (ρ 4) fun p_4 => atA (ρ 6) fun t_6 => atI .i64 (ρ 7) fun i_7 => (head_put.s20 Z Q X1 v_2 h_3 p_4 t_6 i_7))
theorem head_put.s20_ok (Z : List PanicEntry → PT) (Q : List Value → PT) (X1 : Int → Addr → Addr → Addr → Int → PT) : Ok Tryd.prog Tryd.f28.ntmps Z head_put.c15 (head_put.q22 Z Q X1) (head_put.j23 Z Q X1) := by
  intro E he ρ w a hr h
  obtain ⟨v_2, e2, h⟩ := atI_e h
  obtain ⟨h_3, e3, h⟩ := atA_e h
  obtain ⟨p_4, e4, h⟩ := atA_e h
  obtain ⟨t_6, e6, h⟩ := atA_e h
  obtain ⟨i_7, e7, h⟩ := atI_e h
  exact ok_at [(2, (Value.int .u32 v_2)), (3, (Value.pointer (some h_3))), (4, (Value.pointer (some p_4))), (6, (Value.pointer (some t_6))), (7, (Value.int .i64 i_7))] (okC head_put.c15 (head_put.q22 Z Q X1) (by kernel_rfl)) (puts_cons e2 (puts_cons e3 (puts_cons e4 (puts_cons e6 (puts_cons e7 (fun p hp => puts_nil hp)))))) (head_put.s20_eq Z Q X1 ρ v_2 h_3 p_4 t_6 i_7) he hr h
def head_put.l17 (Z : List PanicEntry → PT) (Q : List Value → PT) : Nat → Int → Addr → Addr → Addr → Int → PT
  | 0, _, _, _, _, _ => bad
  | k + 1, v_2, h_3, p_4, t_6, i_7 => (head_put.s20 Z Q (head_put.l17 Z Q k) v_2 h_3 p_4 t_6 i_7)
def head_put.j24 (Z : List PanicEntry → PT) (Q : List Value → PT) (k : Nat) : Fr → PT := (fun ρ => atI .u32 (ρ 2) fun v_2 => atA (ρ 3) fun h_3 => atA (ρ 4) fun p_4 => atA (ρ 6) fun t_6 => atI .i64 (ρ 7) fun i_7 => (head_put.l17 Z Q k v_2 h_3 p_4 t_6 i_7))
def head_put.j25 (Z : List PanicEntry → PT) (Q : List Value → PT) : Fr → PT := (fun ρ => atI .u32 (ρ 2) fun v_2 => atA (ρ 3) fun h_3 => atA (ρ 4) fun p_4 => atA (ρ 6) fun t_6 => atI .i64 (ρ 7) fun i_7 => (exK fun k => head_put.l17 Z Q k v_2 h_3 p_4 t_6 i_7))
theorem head_put.o26 (Z : List PanicEntry → PT) (Q : List Value → PT) : Ok Tryd.prog Tryd.f28.ntmps Z head_put.c13 (head_put.q19 Z Q) (head_put.j25 Z Q) := by
  rw [head_put.q16]
  refine Ok.imp (ok_loop (J := head_put.j24 Z Q) ?_ ?_) ?_
  · intro ρ w h
    obtain ⟨v_2, e2, h⟩ := atI_e h
    obtain ⟨h_3, e3, h⟩ := atA_e h
    obtain ⟨p_4, e4, h⟩ := atA_e h
    obtain ⟨t_6, e6, h⟩ := atA_e h
    obtain ⟨i_7, e7, h⟩ := atI_e h
    exact h
  · intro k
    refine Ok.imp (head_put.s20_ok Z Q (head_put.l17 Z Q k)) fun ρ w h => ?_
    obtain ⟨v_2, e2, h⟩ := atI_e h
    obtain ⟨h_3, e3, h⟩ := atA_e h
    obtain ⟨p_4, e4, h⟩ := atA_e h
    obtain ⟨t_6, e6, h⟩ := atA_e h
    obtain ⟨i_7, e7, h⟩ := atI_e h
    show (head_put.j23 Z Q (head_put.l17 Z Q k)) ρ w
    simp only [head_put.j23]
    rw [e2]
    rw [e3]
    rw [e4]
    rw [e6]
    rw [e7]
    exact h
  · intro ρ w h
    obtain ⟨v_2, e2, h⟩ := atI_e h
    obtain ⟨h_3, e3, h⟩ := atA_e h
    obtain ⟨p_4, e4, h⟩ := atA_e h
    obtain ⟨t_6, e6, h⟩ := atA_e h
    obtain ⟨i_7, e7, h⟩ := atI_e h
    obtain ⟨k, h⟩ := h
    refine ⟨k, ?_⟩
    show (atI .u32 (ρ 2) fun v_2 => atA (ρ 3) fun h_3 => atA (ρ 4) fun p_4 => atA (ρ 6) fun t_6 => atI .i64 (ρ 7) fun i_7 => (head_put.l17 Z Q k v_2 h_3 p_4 t_6 i_7)) w
    rw [e2]
    rw [e3]
    rw [e4]
    rw [e6]
    rw [e7]
    exact h
theorem head_put.o27 (Z : List PanicEntry → PT) (Q : List Value → PT) : Ok Tryd.prog Tryd.f28.ntmps Z head_put.c11 (head_put.q18 Z Q) (head_put.j25 Z Q) := by
  rw [head_put.q14]; exact ok_block (head_put.o26 Z Q)
def head_put.s28 (Z : List PanicEntry → PT) (Q : List Value → PT) (v_2 : Int) (h_3 : Addr) (p_4 : Addr) (t_6 : Addr) : PT :=
  (ldI .i64 (p_4.add 0) fun v12 => (cnd ((8 : Int) ≠ 0) (ldI .i64 (p_4.add 1) fun v13 => (cnd ((8 : Int) ≠ 0) (exK fun k => head_put.l17 Z Q k v_2 h_3 p_4 t_6 (IntKind.wrap .i64 ((IntKind.wrap .i64 ((IntKind.wrap .i64 (Int.tdiv v12 8)) + (IntKind.wrap .i64 (Int.tdiv v13 8)))) - 1)))))))
theorem head_put.s28_eq (Z : List PanicEntry → PT) (Q : List Value → PT) (ρ : Fr) (v_2 : Int) (h_3 : Addr) (p_4 : Addr) (t_6 : Addr) : (comp Tryd.prog Z head_put.c10 (thenK (head_put.j25 Z Q) (head_put.q18 Z Q))) (puts ρ [(2, (Value.int .u32 v_2)), (3, (Value.pointer (some h_3))), (4, (Value.pointer (some p_4))), (6, (Value.pointer (some t_6)))]) = head_put.s28 Z Q v_2 h_3 p_4 t_6 := by kernel_rfl
def head_put.j29 (Z : List PanicEntry → PT) (Q : List Value → PT) : Fr → PT := (fun ρ => atI .u32 (ρ 2) fun v_2 => atA (ρ 3) fun h_3 => atA (ρ 4) fun p_4 => atA (ρ 6) fun t_6 => (head_put.s28 Z Q v_2 h_3 p_4 t_6))
theorem head_put.s28_ok (Z : List PanicEntry → PT) (Q : List Value → PT) : Ok Tryd.prog Tryd.f28.ntmps Z head_put.c4 (head_put.q18 Z Q) (head_put.j29 Z Q) := by
  intro E he ρ w a hr h
  rw [head_put.q12] at he ⊢
  obtain ⟨v_2, e2, h⟩ := atI_e h
  obtain ⟨h_3, e3, h⟩ := atA_e h
  obtain ⟨p_4, e4, h⟩ := atA_e h
  obtain ⟨t_6, e6, h⟩ := atA_e h
  exact ok_at [(2, (Value.int .u32 v_2)), (3, (Value.pointer (some h_3))), (4, (Value.pointer (some p_4))), (6, (Value.pointer (some t_6)))] (ok_seq (okC head_put.c10 _ (by kernel_rfl)) (head_put.o27 Z Q)) (puts_cons e2 (puts_cons e3 (puts_cons e4 (puts_cons e6 (fun p hp => puts_nil hp))))) (head_put.s28_eq Z Q ρ v_2 h_3 p_4 t_6) he hr h
theorem head_put.o30 (Z : List PanicEntry → PT) (Q : List Value → PT) : Ok Tryd.prog Tryd.f28.ntmps Z head_put.c2 (head_put.q8 Z Q) (head_put.j29 Z Q) := by
  rw [head_put.q6]; exact ok_seq (head_put.s28_ok Z Q) (head_put.s7_ok Z Q)
def head_put.s31 (Z : List PanicEntry → PT) (Q : List Value → PT) (h_0 : List Value) (p_1 : List Value) (v_2 : Int) : PT :=
  (newC 26 h_0 fun h14 => (newC 51 p_1 fun p15 => (newC 26 [(Value.int .u8 0), (Value.int .u8 0), (Value.int .u8 0), (Value.int .u8 0), (Value.int .u8 0), (Value.int .u8 0), (Value.int .u8 0), (Value.int .u8 0), (Value.int .u8 0), (Value.int .u8 0), (Value.int .u8 0), (Value.int .u8 0), (Value.int .u8 0)] fun v16 => (head_put.s28 Z Q v_2 h14 p15 v16))))
theorem head_put.s31_eq (Z : List PanicEntry → PT) (Q : List Value → PT) (ρ : Fr) (h_0 : List Value) (p_1 : List Value) (v_2 : Int) : (comp Tryd.prog Z head_put.c1 (thenK (head_put.j29 Z Q) (head_put.q8 Z Q))) (puts ρ [(0, (Value.agg ⟨h_0⟩)), (1, (Value.agg ⟨p_1⟩)), (2, (Value.int .u32 v_2))]) = head_put.s31 Z Q h_0 p_1 v_2 := by kernel_rfl
def head_put.j32 (Z : List PanicEntry → PT) (Q : List Value → PT) : Fr → PT := (fun ρ => atN (ρ 0) fun h_0 => atN (ρ 1) fun p_1 => atI .u32 (ρ 2) fun v_2 => (head_put.s31 Z Q h_0 p_1 v_2))
theorem head_put.s31_ok (Z : List PanicEntry → PT) (Q : List Value → PT) : Ok Tryd.prog Tryd.f28.ntmps Z head_put.body (head_put.q8 Z Q) (head_put.j32 Z Q) := by
  intro E he ρ w a hr h
  rw [head_put.q3] at he ⊢
  obtain ⟨h_0, e0, h⟩ := atN_e h
  obtain ⟨p_1, e1, h⟩ := atN_e h
  obtain ⟨v_2, e2, h⟩ := atI_e h
  exact ok_at [(0, (Value.agg ⟨h_0⟩)), (1, (Value.agg ⟨p_1⟩)), (2, (Value.int .u32 v_2))] (ok_seq (okC head_put.c1 _ (by kernel_rfl)) (head_put.o30 Z Q)) (puts_cons e0 (puts_cons e1 (puts_cons e2 (fun p hp => puts_nil hp)))) (head_put.s31_eq Z Q ρ h_0 p_1 v_2) he hr h
def head_put.F (Z : List PanicEntry → PT) (Q : List Value → PT) (h_0 : List Value) (p_1 : List Value) (v_2 : Int) : PT :=
  (head_put.s31 Z Q h_0 p_1 v_2)
theorem head_put.vc (Z : List PanicEntry → PT) (Q : List Value → PT) (h_0 : List Value) (p_1 : List Value) (v_2 : Int) (w : World) (h : head_put.F Z Q h_0 p_1 v_2 w) : Calls Tryd.prog 28 ⟨[(Value.agg ⟨h_0⟩), (Value.agg ⟨p_1⟩), (Value.int .u32 v_2)]⟩ w fun e w' => (∃ (r0 : List Value), e = .returned (.agg ⟨r0⟩) ∧ Q r0 w') ∨ ∃ c, e = .panicked c ∧ Z c w' := by
  refine (calls_of_ok (args := [(Value.agg ⟨h_0⟩), (Value.agg ⟨p_1⟩), (Value.int .u32 v_2)]) (w := w) (rs := [.cell 6 26]) (fn := Tryd.f28) (c := head_put.body) Tryd.func28 (by kernel_rfl) (by kernel_rfl) (Nat.le_of_ble_eq_true (by kernel_rfl)) (head_put.s31_ok Z Q) (h)).mono fun e w' hR => ?_
  cases e with
  | returned v =>
    obtain ⟨va, rfl, hR⟩ := atN_e hR
    exact .inl ⟨va, rfl, hR⟩
  | panicked c => exact .inr ⟨c, rfl, hR⟩
  | outgrown => exact hR.elim
theorem head_put.vc0 (Q : List Value → PT) (h_0 : List Value) (p_1 : List Value) (v_2 : Int) (w : World) (h : head_put.F Z0 Q h_0 p_1 v_2 w) : Calls Tryd.prog 28 ⟨[(Value.agg ⟨h_0⟩), (Value.agg ⟨p_1⟩), (Value.int .u32 v_2)]⟩ w fun e w' => (∃ (r0 : List Value), e = .returned (.agg ⟨r0⟩) ∧ Q r0 w') :=
  (head_put.vc Z0 Q h_0 p_1 v_2 w h).mono fun _ _ hR => hR.elim id fun ⟨_, _, hz⟩ => hz.elim
theorem head_put.cal {Z : List PanicEntry → PT} {Q : List Value → PT} {h_0 : List Value} {p_1 : List Value} {v_2 : Int} {w : World} (h : head_put.F Z Q h_0 p_1 v_2 w) : Go.Proofs.YtchhffabpgebmaaDoor.cal Tryd.prog Z 28 [(Value.agg ⟨h_0⟩), (Value.agg ⟨p_1⟩), (Value.int .u32 v_2)] (isN fun r0 => Q r0) w := by
  refine (head_put.vc Z Q h_0 p_1 v_2 w h).mono fun e w' hR => ?_
  rcases hR with ⟨r0, rfl, h⟩ | ⟨c, rfl, h⟩
  · show (isN fun r0 => Q r0) (.agg ⟨r0⟩) w'
    exact ⟨_, rfl, h⟩
  · exact h

/-! ### milepost/head.Make: function 10 -/
noncomputable def head_Make.body : Code := bodyC Tryd.f10
noncomputable def head_Make.c1 : Code := sq1 head_Make.body
noncomputable def head_Make.c2 : Code := sq1 (sq2 head_Make.body)
noncomputable def head_Make.c3 : Code := sq2 (sq2 head_Make.body)
theorem head_Make.q4 : head_Make.body = .seq head_Make.c1 (.seq head_Make.c2 head_Make.c3) := by kernel_rfl
noncomputable def head_Make.c5 : Code := sq1 head_Make.c3
noncomputable def head_Make.c6 : Code := sq2 head_Make.c3
theorem head_Make.q7 : head_Make.c3 = .seq head_Make.c5 head_Make.c6 := by kernel_rfl
def head_Make.s8 (Z : List PanicEntry → PT) (Q : List Value → PT) (t_10 : Addr) (h_11 : Addr) : PT :=
  (ldN 13 h_11 fun v4 => (stN 13 t_10 v4 (ldN 13 t_10 fun v5 => (Q v5))))
def head_Make.q9 (Z : List PanicEntry → PT) (Q : List Value → PT) : QF := bodyQ Tryd.prog [.cell 10 26] (fun v => atN v fun va => Q va)
theorem head_Make.s8_eq (Z : List PanicEntry → PT) (Q : List Value → PT) (ρ : Fr) (t_10 : Addr) (h_11 : Addr) : comp Tryd.prog Z head_Make.c6 (head_Make.q9 Z Q) (puts ρ [(10, (Value.pointer (some t_10))), (11, (Value.pointer (some h_11)))]) = head_Make.s8 Z Q t_10 h_11 := by kernel_rfl
def head_Make.j10 (Z : List PanicEntry → PT) (Q : List Value → PT) : Fr → PT := (fun ρ => atA (ρ 10) fun t_10 => atA (ρ 11) fun h_11 => (head_Make.s8 Z Q t_10 h_11))
theorem head_Make.s8_ok (Z : List PanicEntry → PT) (Q : List Value → PT) : Ok Tryd.prog Tryd.f10.ntmps Z head_Make.c6 (head_Make.q9 Z Q) (head_Make.j10 Z Q) := by
  intro E he ρ w a hr h
  obtain ⟨t_10, e10, h⟩ := atA_e h
  obtain ⟨h_11, e11, h⟩ := atA_e h
  exact ok_at [(10, (Value.pointer (some t_10))), (11, (Value.pointer (some h_11)))] (okC head_Make.c6 (head_Make.q9 Z Q) (by kernel_rfl)) (puts_cons e10 (puts_cons e11 (fun p hp => puts_nil hp))) (head_Make.s8_eq Z Q ρ t_10 h_11) he hr h
noncomputable def head_Make.c11 : Code := sq1 head_Make.c5
noncomputable def head_Make.c12 : Code := sq2 head_Make.c5
theorem head_Make.q13 : head_Make.c5 = .seq head_Make.c11 head_Make.c12 := by kernel_rfl
noncomputable def head_Make.c14 : Code := blk head_Make.c12
theorem head_Make.q15 : head_Make.c12 = .block 0 head_Make.c14 := by kernel_rfl
noncomputable def head_Make.c16 : Code := lop head_Make.c14
theorem head_Make.q17 : head_Make.c14 = .loop head_Make.c16 := by kernel_rfl
def head_Make.q19 (Z : List PanicEntry → PT) (Q : List Value → PT) : QF := thenK (head_Make.j10 Z Q) (head_Make.q9 Z Q)
def head_Make.q20 (Z : List PanicEntry → PT) (Q : List Value → PT) : QF := inBl 0 (head_Make.q19 Z Q)
def head_Make.s21 (Z : List PanicEntry → PT) (Q : List Value → PT) (X1 : Addr → Addr → List Value → Int → PT) (t_10 : Addr) (h_11 : Addr) (t_22 : List Value) (t_23 : Int) : PT :=
  (pif (decide (t_23 < 5)) (cnd ((0 : Int) ≤ t_23 ∧ t_23 < ((5 : Nat) : Int)) (ptI .u32 t_22 (t_23.toNat * 1) fun v12 => (drawn fun S13 => (hN S13 13 h_11 fun v14 => (cnd ((0 : Int) ≤ t_23 ∧ t_23 < ((5 : Nat) : Int)) (hN S13 2 ((⟨0, 0, none⟩ : Addr).add (t_23.toNat * 2)) fun v15 => (cal Tryd.prog Z 28 [(Value.agg ⟨v14⟩), (Value.agg ⟨v15⟩), (Value.int .u32 v12)] (isN fun v16 => (sAnd S13 (stN 13 h_11 v16 (X1 t_10 h_11 t_22 (IntKind.wrap .i64 (t_23 + 1))))))))))))) (head_Make.s8 Z Q t_10 h_11))
def head_Make.j22 (Z : List PanicEntry → PT) (Q : List Value → PT) (X1 : Addr → Addr → List Value → Int → PT) : Fr → PT := (fun ρ => atA (ρ 10) fun t_10 => atA (ρ 11) fun h_11 => atN (ρ 22) fun t_22 => atI .i64 (ρ 23) fun t_23 => (X1 t_10 h_11 t_22 t_23))
def head_Make.q23 (Z : List PanicEntry → PT) (Q : List Value → PT) (X1 : Addr → Addr → List Value → Int → PT) : QF := thenK (head_Make.j22 Z Q X1) (head_Make.q20 Z Q)
theorem head_Make.s21_eq (Z : List PanicEntry → PT) (Q : List Value → PT) (X1 : Addr → Addr → List Value → Int → PT) (ρ : Fr) (t_10 : Addr) (h_11 : Addr) (t_22 : List Value) (t_23 : Int) : comp Tryd.prog Z head_Make.c16 (head_Make.q23 Z Q X1) (puts ρ [(10, (Value.pointer (some t_10))), (11, (Value.pointer (some h_11))), (22, (Value.agg ⟨t_22⟩)), (23, (Value.int .i64 t_23))]) = head_Make.s21 Z Q X1 t_10 h_11 t_22 t_23 := by kernel_rfl
def head_Make.j24 (Z : List PanicEntry → PT) (Q : List Value → PT) (X1 : Addr → Addr → List Value → Int → PT) : Fr → PT := (fun ρ => atA (ρ 10) fun t_10 => atA (ρ 11) fun h_11 => atN (ρ 22) fun t_22 => atI .i64 (ρ 23) fun t_23 => (head_Make.s21 Z Q X1 t_10 h_11 t_22 t_23))
theorem head_Make.s21_ok (Z : List PanicEntry → PT) (Q : List Value → PT) (X1 : Addr → Addr → List Value → Int → PT) : Ok Tryd.prog Tryd.f10.ntmps Z head_Make.c16 (head_Make.q23 Z Q X1) (head_Make.j24 Z Q X1) := by
  intro E he ρ w a hr h
  obtain ⟨t_10, e10, h⟩ := atA_e h
  obtain ⟨h_11, e11, h⟩ := atA_e h
  obtain ⟨t_22, e22, h⟩ := atN_e h
  obtain ⟨t_23, e23, h⟩ := atI_e h
  exact ok_at [(10, (Value.pointer (some t_10))), (11, (Value.pointer (some h_11))), (22, (Value.agg ⟨t_22⟩)), (23, (Value.int .i64 t_23))] (okC head_Make.c16 (head_Make.q23 Z Q X1) (by kernel_rfl)) (puts_cons e10 (puts_cons e11 (puts_cons e22 (puts_cons e23 (fun p hp => puts_nil hp))))) (head_Make.s21_eq Z Q X1 ρ t_10 h_11 t_22 t_23) he hr h
def head_Make.l18 (Z : List PanicEntry → PT) (Q : List Value → PT) : Nat → Addr → Addr → List Value → Int → PT
  | 0, _, _, _, _ => bad
  | k + 1, t_10, h_11, t_22, t_23 => (head_Make.s21 Z Q (head_Make.l18 Z Q k) t_10 h_11 t_22 t_23)
def head_Make.j25 (Z : List PanicEntry → PT) (Q : List Value → PT) (k : Nat) : Fr → PT := (fun ρ => atA (ρ 10) fun t_10 => atA (ρ 11) fun h_11 => atN (ρ 22) fun t_22 => atI .i64 (ρ 23) fun t_23 => (head_Make.l18 Z Q k t_10 h_11 t_22 t_23))
def head_Make.j26 (Z : List PanicEntry → PT) (Q : List Value → PT) : Fr → PT := (fun ρ => atA (ρ 10) fun t_10 => atA (ρ 11) fun h_11 => atN (ρ 22) fun t_22 => atI .i64 (ρ 23) fun t_23 => (exK fun k => head_Make.l18 Z Q k t_10 h_11 t_22 t_23))
theorem head_Make.o27 (Z : List PanicEntry → PT) (Q : List Value → PT) : Ok Tryd.prog Tryd.f10.ntmps Z head_Make.c14 (head_Make.q20 Z Q) (head_Make.j26 Z Q) := by
  rw [head_Make.q17]
  refine Ok.imp (ok_loop (J := head_Make.j25 Z Q) ?_ ?_) ?_
  · intro ρ w h
    obtain ⟨t_10, e10, h⟩ := atA_e h
    obtain ⟨h_11, e11, h⟩ := atA_e h
    obtain ⟨t_22, e22, h⟩ := atN_e h
    obtain ⟨t_23, e23, h⟩ := atI_e h
    exact h
  · intro k
    refine Ok.imp (head_Make.s21_ok Z Q (head_Make.l18 Z Q k)) fun ρ w h => ?_
    obtain ⟨t_10, e10, h⟩ := atA_e h
    obtain ⟨h_11, e11, h⟩ := atA_e h
    obtain ⟨t_22, e22, h⟩ := atN_e h
    obtain ⟨t_23, e23, h⟩ := atI_e h
    show (head_Make.j24 Z Q (head_Make.l18 Z Q k)) ρ w
    simp only [head_Make.j24]
    rw [e10]
    rw [e11]
    rw [e22]
    rw [e23]
    exact h
  · intro ρ w h
    obtain ⟨t_10, e10, h⟩ := atA_e h
    obtain ⟨h_11, e11, h⟩ := atA_e h
    obtain ⟨t_22, e22, h⟩ := atN_e h
    obtain ⟨t_23, e23, h⟩ := atI_e h
    obtain ⟨k, h⟩ := h
    refine ⟨k, ?_⟩
    show (atA (ρ 10) fun t_10 => atA (ρ 11) fun h_11 => atN (ρ 22) fun t_22 => atI .i64 (ρ 23) fun t_23 => (head_Make.l18 Z Q k t_10 h_11 t_22 t_23)) w
    rw [e10]
    rw [e11]
    rw [e22]
    rw [e23]
    exact h
theorem head_Make.o28 (Z : List PanicEntry → PT) (Q : List Value → PT) : Ok Tryd.prog Tryd.f10.ntmps Z head_Make.c12 (head_Make.q19 Z Q) (head_Make.j26 Z Q) := by
  rw [head_Make.q15]; exact ok_block (head_Make.o27 Z Q)
def head_Make.s29 (Z : List PanicEntry → PT) (Q : List Value → PT) (src_0 : Int) (dst_1 : Int) (sport_2 : Int) (dport_3 : Int) (proto_4 : Int) (t_10 : Addr) (h_11 : Addr) : PT :=
  (exK fun k => head_Make.l18 Z Q k t_10 h_11 [(Value.int .u32 src_0), (Value.int .u32 dst_1), (Value.int .u32 (IntKind.wrap .u32 sport_2)), (Value.int .u32 (IntKind.wrap .u32 dport_3)), (Value.int .u32 (IntKind.wrap .u32 proto_4))] 0)
theorem head_Make.s29_eq (Z : List PanicEntry → PT) (Q : List Value → PT) (ρ : Fr) (src_0 : Int) (dst_1 : Int) (sport_2 : Int) (dport_3 : Int) (proto_4 : Int) (t_10 : Addr) (h_11 : Addr) : (comp Tryd.prog Z head_Make.c11 (thenK (head_Make.j26 Z Q) (head_Make.q19 Z Q))) (puts ρ [(0, (Value.int .u32 src_0)), (1, (Value.int .u32 dst_1)), (2, (Value.int .u16 sport_2)), (3, (Value.int .u16 dport_3)), (4, (Value.int .u8 proto_4)), (10, (Value.pointer (some t_10))), (11, (Value.pointer (some h_11)))]) = head_Make.s29 Z Q src_0 dst_1 sport_2 dport_3 proto_4 t_10 h_11 := by kernel_rfl
def head_Make.j30 (Z : List PanicEntry → PT) (Q : List Value → PT) : Fr → PT := (fun ρ => atI .u32 (ρ 0) fun src_0 => atI .u32 (ρ 1) fun dst_1 => atI .u16 (ρ 2) fun sport_2 => atI .u16 (ρ 3) fun dport_3 => atI .u8 (ρ 4) fun proto_4 => atA (ρ 10) fun t_10 => atA (ρ 11) fun h_11 => (head_Make.s29 Z Q src_0 dst_1 sport_2 dport_3 proto_4 t_10 h_11))
theorem head_Make.s29_ok (Z : List PanicEntry → PT) (Q : List Value → PT) : Ok Tryd.prog Tryd.f10.ntmps Z head_Make.c5 (head_Make.q19 Z Q) (head_Make.j30 Z Q) := by
  intro E he ρ w a hr h
  rw [head_Make.q13] at he ⊢
  obtain ⟨src_0, e0, h⟩ := atI_e h
  obtain ⟨dst_1, e1, h⟩ := atI_e h
  obtain ⟨sport_2, e2, h⟩ := atI_e h
  obtain ⟨dport_3, e3, h⟩ := atI_e h
  obtain ⟨proto_4, e4, h⟩ := atI_e h
  obtain ⟨t_10, e10, h⟩ := atA_e h
  obtain ⟨h_11, e11, h⟩ := atA_e h
  exact ok_at [(0, (Value.int .u32 src_0)), (1, (Value.int .u32 dst_1)), (2, (Value.int .u16 sport_2)), (3, (Value.int .u16 dport_3)), (4, (Value.int .u8 proto_4)), (10, (Value.pointer (some t_10))), (11, (Value.pointer (some h_11)))] (ok_seq (okC head_Make.c11 _ (by kernel_rfl)) (head_Make.o28 Z Q)) (puts_cons e0 (puts_cons e1 (puts_cons e2 (puts_cons e3 (puts_cons e4 (puts_cons e10 (puts_cons e11 (fun p hp => puts_nil hp)))))))) (head_Make.s29_eq Z Q ρ src_0 dst_1 sport_2 dport_3 proto_4 t_10 h_11) he hr h
theorem head_Make.o31 (Z : List PanicEntry → PT) (Q : List Value → PT) : Ok Tryd.prog Tryd.f10.ntmps Z head_Make.c3 (head_Make.q9 Z Q) (head_Make.j30 Z Q) := by
  rw [head_Make.q7]; exact ok_seq (head_Make.s29_ok Z Q) (head_Make.s8_ok Z Q)
def head_Make.s32 (Z : List PanicEntry → PT) (Q : List Value → PT) (src_0 : Int) (dst_1 : Int) (sport_2 : Int) (dport_3 : Int) (proto_4 : Int) : PT :=
  (newC 26 [(Value.int .u8 0), (Value.int .u8 0), (Value.int .u8 0), (Value.int .u8 0), (Value.int .u8 0), (Value.int .u8 0), (Value.int .u8 0), (Value.int .u8 0), (Value.int .u8 0), (Value.int .u8 0), (Value.int .u8 0), (Value.int .u8 0), (Value.int .u8 0)] fun v17 => (newC 26 [(Value.int .u8 0), (Value.int .u8 0), (Value.int .u8 0), (Value.int .u8 0), (Value.int .u8 0), (Value.int .u8 0), (Value.int .u8 0), (Value.int .u8 0), (Value.int .u8 0), (Value.int .u8 0), (Value.int .u8 0), (Value.int .u8 0), (Value.int .u8 0)] fun h18 => (head_Make.s29 Z Q src_0 dst_1 sport_2 dport_3 proto_4 v17 h18)))
theorem head_Make.s32_eq (Z : List PanicEntry → PT) (Q : List Value → PT) (ρ : Fr) (src_0 : Int) (dst_1 : Int) (sport_2 : Int) (dport_3 : Int) (proto_4 : Int) : (comp Tryd.prog Z head_Make.c1 (thenK (comp Tryd.prog Z head_Make.c2 (thenK (head_Make.j30 Z Q) (head_Make.q9 Z Q))) (head_Make.q9 Z Q))) (puts ρ [(0, (Value.int .u32 src_0)), (1, (Value.int .u32 dst_1)), (2, (Value.int .u16 sport_2)), (3, (Value.int .u16 dport_3)), (4, (Value.int .u8 proto_4))]) = head_Make.s32 Z Q src_0 dst_1 sport_2 dport_3 proto_4 := by kernel_rfl
def head_Make.j33 (Z : List PanicEntry → PT) (Q : List Value → PT) : Fr → PT := (fun ρ => atI .u32 (ρ 0) fun src_0 => atI .u32 (ρ 1) fun dst_1 => atI .u16 (ρ 2) fun sport_2 => atI .u16 (ρ 3) fun dport_3 => atI .u8 (ρ 4) fun proto_4 => (head_Make.s32 Z Q src_0 dst_1 sport_2 dport_3 proto_4))
theorem head_Make.s32_ok (Z : List PanicEntry → PT) (Q : List Value → PT) : Ok Tryd.prog Tryd.f10.ntmps Z head_Make.body (head_Make.q9 Z Q) (head_Make.j33 Z Q) := by
  intro E he ρ w a hr h
  rw [head_Make.q4] at he ⊢
  obtain ⟨src_0, e0, h⟩ := atI_e h
  obtain ⟨dst_1, e1, h⟩ := atI_e h
  obtain ⟨sport_2, e2, h⟩ := atI_e h
  obtain ⟨dport_3, e3, h⟩ := atI_e h
  obtain ⟨proto_4, e4, h⟩ := atI_e h
  exact ok_at [(0, (Value.int .u32 src_0)), (1, (Value.int .u32 dst_1)), (2, (Value.int .u16 sport_2)), (3, (Value.int .u16 dport_3)), (4, (Value.int .u8 proto_4))] (ok_seq (okC head_Make.c1 _ (by kernel_rfl)) (ok_seq (okC head_Make.c2 _ (by kernel_rfl)) (head_Make.o31 Z Q))) (puts_cons e0 (puts_cons e1 (puts_cons e2 (puts_cons e3 (puts_cons e4 (fun p hp => puts_nil hp)))))) (head_Make.s32_eq Z Q ρ src_0 dst_1 sport_2 dport_3 proto_4) he hr h
def head_Make.F (Z : List PanicEntry → PT) (Q : List Value → PT) (src_0 : Int) (dst_1 : Int) (sport_2 : Int) (dport_3 : Int) (proto_4 : Int) : PT :=
  (head_Make.s32 Z Q src_0 dst_1 sport_2 dport_3 proto_4)
theorem head_Make.vc (Z : List PanicEntry → PT) (Q : List Value → PT) (src_0 : Int) (dst_1 : Int) (sport_2 : Int) (dport_3 : Int) (proto_4 : Int) (w : World) (h : head_Make.F Z Q src_0 dst_1 sport_2 dport_3 proto_4 w) : Calls Tryd.prog 10 ⟨[(Value.int .u32 src_0), (Value.int .u32 dst_1), (Value.int .u16 sport_2), (Value.int .u16 dport_3), (Value.int .u8 proto_4)]⟩ w fun e w' => (∃ (r0 : List Value), e = .returned (.agg ⟨r0⟩) ∧ Q r0 w') ∨ ∃ c, e = .panicked c ∧ Z c w' := by
  refine (calls_of_ok (args := [(Value.int .u32 src_0), (Value.int .u32 dst_1), (Value.int .u16 sport_2), (Value.int .u16 dport_3), (Value.int .u8 proto_4)]) (w := w) (rs := [.cell 10 26]) (fn := Tryd.f10) (c := head_Make.body) Tryd.func10 (by kernel_rfl) (by kernel_rfl) (Nat.le_of_ble_eq_true (by kernel_rfl)) (head_Make.s32_ok Z Q) (h)).mono fun e w' hR => ?_
  cases e with
  | returned v =>
    obtain ⟨va, rfl, hR⟩ := atN_e hR
    exact .inl ⟨va, rfl, hR⟩
  | panicked c => exact .inr ⟨c, rfl, hR⟩
  | outgrown => exact hR.elim
theorem head_Make.vc0 (Q : List Value → PT) (src_0 : Int) (dst_1 : Int) (sport_2 : Int) (dport_3 : Int) (proto_4 : Int) (w : World) (h : head_Make.F Z0 Q src_0 dst_1 sport_2 dport_3 proto_4 w) : Calls Tryd.prog 10 ⟨[(Value.int .u32 src_0), (Value.int .u32 dst_1), (Value.int .u16 sport_2), (Value.int .u16 dport_3), (Value.int .u8 proto_4)]⟩ w fun e w' => (∃ (r0 : List Value), e = .returned (.agg ⟨r0⟩) ∧ Q r0 w') :=
  (head_Make.vc Z0 Q src_0 dst_1 sport_2 dport_3 proto_4 w h).mono fun _ _ hR => hR.elim id fun ⟨_, _, hz⟩ => hz.elim
theorem head_Make.cal {Z : List PanicEntry → PT} {Q : List Value → PT} {src_0 : Int} {dst_1 : Int} {sport_2 : Int} {dport_3 : Int} {proto_4 : Int} {w : World} (h : head_Make.F Z Q src_0 dst_1 sport_2 dport_3 proto_4 w) : Go.Proofs.YtchhffabpgebmaaDoor.cal Tryd.prog Z 10 [(Value.int .u32 src_0), (Value.int .u32 dst_1), (Value.int .u16 sport_2), (Value.int .u16 dport_3), (Value.int .u8 proto_4)] (isN fun r0 => Q r0) w := by
  refine (head_Make.vc Z Q src_0 dst_1 sport_2 dport_3 proto_4 w h).mono fun e w' hR => ?_
  rcases hR with ⟨r0, rfl, h⟩ | ⟨c, rfl, h⟩
  · show (isN fun r0 => Q r0) (.agg ⟨r0⟩) w'
    exact ⟨_, rfl, h⟩
  · exact h

/-! ### milepost/head.With: function 14 -/
noncomputable def head_With.body : Code := bodyC Tryd.f14
def head_With.F (Z : List PanicEntry → PT) (Q : List Value → Int → PT) (h_0 : List Value) (f_1 : Int) (v_2 : Int) : PT :=
  (newC 26 h_0 fun h19 => (newC 26 [(Value.int .u8 0), (Value.int .u8 0), (Value.int .u8 0), (Value.int .u8 0), (Value.int .u8 0), (Value.int .u8 0), (Value.int .u8 0), (Value.int .u8 0), (Value.int .u8 0), (Value.int .u8 0), (Value.int .u8 0), (Value.int .u8 0), (Value.int .u8 0)] fun v20 => (cal Tryd.prog Z 16 [(Value.int .i64 f_1)] (isT3 fun t21 t22 t23 => (isI .i64 fun v24 => ((isI .i64 fun v25 => ((isI .i64 fun v26 => (pif (v26 != 0) (stN 13 v20 [(Value.int .u8 0), (Value.int .u8 0), (Value.int .u8 0), (Value.int .u8 0), (Value.int .u8 0), (Value.int .u8 0), (Value.int .u8 0), (Value.int .u8 0), (Value.int .u8 0), (Value.int .u8 0), (Value.int .u8 0), (Value.int .u8 0), (Value.int .u8 0)] (ldN 13 v20 fun v27 => (Q v27 v26))) (cnd ((0 : Int) ≤ v25) (pif ((Int.fdiv (IntKind.wrap .u64 v_2) (2 ^ (min v25.toNat (IntKind.bits .u64)))) != 0) (stN 13 v20 [(Value.int .u8 0), (Value.int .u8 0), (Value.int .u8 0), (Value.int .u8 0), (Value.int .u8 0), (Value.int .u8 0), (Value.int .u8 0), (Value.int .u8 0), (Value.int .u8 0), (Value.int .u8 0), (Value.int .u8 0), (Value.int .u8 0), (Value.int .u8 0)] (ldN 13 v20 fun v28 => (Q v28 10))) (drawn fun S29 => (hN S29 13 h19 fun v30 => (cnd ((0 : Int) ≤ f_1 ∧ f_1 < ((5 : Nat) : Int)) (hN S29 2 ((⟨0, 0, none⟩ : Addr).add (f_1.toNat * 2)) fun v31 => (cal Tryd.prog Z 28 [(Value.agg ⟨v30⟩), (Value.agg ⟨v31⟩), (Value.int .u32 v_2)] (isN fun v32 => (sAnd S29 (stN 13 v20 v32 (sAnd S29 (ldN 13 v20 fun v33 => (Q v33 0))))))))))))))) t23)) t22)) t21))))
def head_With.q1 (Z : List PanicEntry → PT) (Q : List Value → Int → PT) : QF := bodyQ Tryd.prog [.cell 6 26, .tmp 7] (fun v => at2 v fun x y => atN x fun xa => atI .i64 y fun ya => Q xa ya)
theorem head_With.eq (Z : List PanicEntry → PT) (Q : List Value → Int → PT) (h_0 : List Value) (f_1 : Int) (v_2 : Int) : comp Tryd.prog Z head_With.body (head_With.q1 Z Q) (fr0 [(Value.agg ⟨h_0⟩), (Value.int .i64 f_1), (Value.int .u32 v_2)]) = head_With.F Z Q h_0 f_1 v_2 := by kernel_rfl
theorem head_With.vc (Z : List PanicEntry → PT) (Q : List Value → Int → PT) (h_0 : List Value) (f_1 : Int) (v_2 : Int) (w : World) (h : head_With.F Z Q h_0 f_1 v_2 w) : Calls Tryd.prog 14 ⟨[(Value.agg ⟨h_0⟩), (Value.int .i64 f_1), (Value.int .u32 v_2)]⟩ w fun e w' => (∃ (r0 : List Value) (r1 : Int), e = .returned (.tuple #[.agg ⟨r0⟩, .int .i64 r1]) ∧ Q r0 r1 w') ∨ ∃ c, e = .panicked c ∧ Z c w' := by
  refine (calls_of_ok (args := [(Value.agg ⟨h_0⟩), (Value.int .i64 f_1), (Value.int .u32 v_2)]) (w := w) (rs := [.cell 6 26, .tmp 7]) (fn := Tryd.f14) (c := head_With.body) Tryd.func14 (by kernel_rfl) (by kernel_rfl) (Nat.le_of_ble_eq_true (by kernel_rfl)) (okC head_With.body (head_With.q1 Z Q) (by kernel_rfl)) (by rw [head_With.eq]; exact h)).mono fun e w' hR => ?_
  cases e with
  | returned v =>
    obtain ⟨x, y, rfl, hR⟩ := at2_e hR
    obtain ⟨xa, rfl, hR⟩ := atN_e hR
    obtain ⟨ya, rfl, hR⟩ := atI_e hR
    exact .inl ⟨xa, ya, rfl, hR⟩
  | panicked c => exact .inr ⟨c, rfl, hR⟩
  | outgrown => exact hR.elim
theorem head_With.vc0 (Q : List Value → Int → PT) (h_0 : List Value) (f_1 : Int) (v_2 : Int) (w : World) (h : head_With.F Z0 Q h_0 f_1 v_2 w) : Calls Tryd.prog 14 ⟨[(Value.agg ⟨h_0⟩), (Value.int .i64 f_1), (Value.int .u32 v_2)]⟩ w fun e w' => (∃ (r0 : List Value) (r1 : Int), e = .returned (.tuple #[.agg ⟨r0⟩, .int .i64 r1]) ∧ Q r0 r1 w') :=
  (head_With.vc Z0 Q h_0 f_1 v_2 w h).mono fun _ _ hR => hR.elim id fun ⟨_, _, hz⟩ => hz.elim
theorem head_With.cal {Z : List PanicEntry → PT} {Q : List Value → Int → PT} {h_0 : List Value} {f_1 : Int} {v_2 : Int} {w : World} (h : head_With.F Z Q h_0 f_1 v_2 w) : Go.Proofs.YtchhffabpgebmaaDoor.cal Tryd.prog Z 14 [(Value.agg ⟨h_0⟩), (Value.int .i64 f_1), (Value.int .u32 v_2)] (isT2 fun x y => (isN fun r0 => (isI .i64 fun r1 => Q r0 r1) y) x) w := by
  refine (head_With.vc Z Q h_0 f_1 v_2 w h).mono fun e w' hR => ?_
  rcases hR with ⟨r0, r1, rfl, h⟩ | ⟨c, rfl, h⟩
  · show (isT2 fun x y => (isN fun r0 => (isI .i64 fun r1 => Q r0 r1) y) x) (.tuple #[.agg ⟨r0⟩, .int .i64 r1]) w'
    exact ⟨_, _, rfl, ⟨_, rfl, ⟨_, rfl, h⟩⟩⟩
  · exact h

/-! ### milepost/milepostref01.Field: function 13 -/
noncomputable def ref01_Field.body : Code := bodyC Tryd.f13
noncomputable def ref01_Field.c1 : Code := sq1 ref01_Field.body
noncomputable def ref01_Field.c2 : Code := sq1 (sq2 ref01_Field.body)
noncomputable def ref01_Field.c3 : Code := sq1 (sq2 (sq2 ref01_Field.body))
noncomputable def ref01_Field.c4 : Code := sq2 (sq2 (sq2 ref01_Field.body))
theorem ref01_Field.q5 : ref01_Field.body = .seq ref01_Field.c1 (.seq ref01_Field.c2 (.seq ref01_Field.c3 ref01_Field.c4)) := by kernel_rfl
noncomputable def ref01_Field.c6 : Code := sq1 ref01_Field.c4
noncomputable def ref01_Field.c7 : Code := sq2 ref01_Field.c4
theorem ref01_Field.q8 : ref01_Field.c4 = .seq ref01_Field.c6 ref01_Field.c7 := by kernel_rfl
def ref01_Field.s9 (Z : List PanicEntry → PT) (Q : Int → Int → PT) (n_6 : Int) : PT :=
  (Q n_6 0)
def ref01_Field.q10 (Z : List PanicEntry → PT) (Q : Int → Int → PT) : QF := bodyQ Tryd.prog [.tmp 4, .tmp 5] (fun v => at2 v fun x y => atI .u32 x fun xa => atI .i64 y fun ya => Q xa ya)
theorem ref01_Field.s9_eq (Z : List PanicEntry → PT) (Q : Int → Int → PT) (ρ : Fr) (n_6 : Int) : comp Tryd.prog Z ref01_Field.c7 (ref01_Field.q10 Z Q) (puts ρ [(6, (Value.int .u32 n_6))]) = ref01_Field.s9 Z Q n_6 := by kernel_rfl
def ref01_Field.j11 (Z : List PanicEntry → PT) (Q : Int → Int → PT) : Fr → PT := (fun ρ => atI .u32 (ρ 6) fun n_6 => (ref01_Field.s9 Z Q n_6))
theorem ref01_Field.s9_ok (Z : List PanicEntry → PT) (Q : Int → Int → PT) : Ok Tryd.prog Tryd.f13.ntmps Z ref01_Field.c7 (ref01_Field.q10 Z Q) (ref01_Field.j11 Z Q) := by
  intro E he ρ w a hr h
  obtain ⟨n_6, e6, h⟩ := atI_e h
  exact ok_at [(6, (Value.int .u32 n_6))] (okC ref01_Field.c7 (ref01_Field.q10 Z Q) (by kernel_rfl)) (puts_cons e6 (fun p hp => puts_nil hp)) (ref01_Field.s9_eq Z Q ρ n_6) he hr h
noncomputable def ref01_Field.c12 : Code := sq1 ref01_Field.c6
noncomputable def ref01_Field.c13 : Code := sq2 ref01_Field.c6
theorem ref01_Field.q14 : ref01_Field.c6 = .seq ref01_Field.c12 ref01_Field.c13 := by kernel_rfl
noncomputable def ref01_Field.c15 : Code := blk ref01_Field.c13
theorem ref01_Field.q16 : ref01_Field.c13 = .block 0 ref01_Field.c15 := by kernel_rfl
noncomputable def ref01_Field.c17 : Code := lop ref01_Field.c15
theorem ref01_Field.q18 : ref01_Field.c15 = .loop ref01_Field.c17 := by kernel_rfl
def ref01_Field.q20 (Z : List PanicEntry → PT) (Q : Int → Int → PT) : QF := thenK (ref01_Field.j11 Z Q) (ref01_Field.q10 Z Q)
def ref01_Field.q21 (Z : List PanicEntry → PT) (Q : Int → Int → PT) : QF := inBl 0 (ref01_Field.q20 Z Q)
def ref01_Field.s22 (Z : List PanicEntry → PT) (Q : Int → Int → PT) (X1 : Int → Addr → Int → Int → PT) (f_1 : Int) (h_2 : Addr) (n_6 : Int) (i_7 : Int) : PT :=
  (cal Tryd.prog Z 18 [(Value.int .i64 f_1)] (isI .i64 fun v18 => (pif (decide (i_7 < v18)) (drawn fun S19 => (hN S19 13 h_2 fun v20 => (cal Tryd.prog Z 17 [(Value.int .i64 f_1)] (isI .i64 fun v21 => (sAnd S19 (cal Tryd.prog Z 21 [(Value.agg ⟨v20⟩), (Value.int .i64 (IntKind.wrap .i64 (v21 + i_7)))] (isB fun v22 => (sAnd S19 (pif v22 (X1 f_1 h_2 (IntKind.wrap .u32 ((IntKind.wrap .u32 (n_6 * 2)) + 1)) (IntKind.wrap .i64 (i_7 + 1))) (X1 f_1 h_2 (IntKind.wrap .u32 (n_6 * 2)) (IntKind.wrap .i64 (i_7 + 1)))))))))))) (ref01_Field.s9 Z Q n_6))))
def ref01_Field.j23 (Z : List PanicEntry → PT) (Q : Int → Int → PT) (X1 : Int → Addr → Int → Int → PT) : Fr → PT := (fun ρ => atI .i64 (ρ 1) fun f_1 => atA (ρ 2) fun h_2 => atI .u32 (ρ 6) fun n_6 => atI .i64 (ρ 7) fun i_7 => (X1 f_1 h_2 n_6 i_7))
def ref01_Field.q24 (Z : List PanicEntry → PT) (Q : Int → Int → PT) (X1 : Int → Addr → Int → Int → PT) : QF := thenK (ref01_Field.j23 Z Q X1) (ref01_Field.q21 Z Q)
theorem ref01_Field.s22_eq (Z : List PanicEntry → PT) (Q : Int → Int → PT) (X1 : Int → Addr → Int → Int → PT) (ρ : Fr) (f_1 : Int) (h_2 : Addr) (n_6 : Int) (i_7 : Int) : comp Tryd.prog Z ref01_Field.c17 (ref01_Field.q24 Z Q X1) (puts ρ [(1, (Value.int .i64 f_1)), (2, (Value.pointer (some h_2))), (6, (Value.int .u32 n_6)), (7, (Value.int .i64 i_7))]) = ref01_Field.s22 Z Q X1 f_1 h_2 n_6 i_7 := by kernel_rfl
def ref01_Field.j25 (Z : List PanicEntry → PT) (Q : Int → Int → PT) (X1 : Int → Addr → Int → Int → PT) : Fr → PT := (fun ρ => atI .i64 (ρ 1) fun f_1 => atA (ρ 2) fun h_2 => atI .u32 (ρ 6) fun n_6 => atI .i64 (ρ 7) fun i_7 => (ref01_Field.s22 Z Q X1 f_1 h_2 n_6 i_7))
theorem ref01_Field.s22_ok (Z : List PanicEntry → PT) (Q : Int → Int → PT) (X1 : Int → Addr → Int → Int → PT) : Ok Tryd.prog Tryd.f13.ntmps Z ref01_Field.c17 (ref01_Field.q24 Z Q X1) (ref01_Field.j25 Z Q X1) := by
  intro E he ρ w a hr h
  obtain ⟨f_1, e1, h⟩ := atI_e h
  obtain ⟨h_2, e2, h⟩ := atA_e h
  obtain ⟨n_6, e6, h⟩ := atI_e h
  obtain ⟨i_7, e7, h⟩ := atI_e h
  exact ok_at [(1, (Value.int .i64 f_1)), (2, (Value.pointer (some h_2))), (6, (Value.int .u32 n_6)), (7, (Value.int .i64 i_7))] (okC ref01_Field.c17 (ref01_Field.q24 Z Q X1) (by kernel_rfl)) (puts_cons e1 (puts_cons e2 (puts_cons e6 (puts_cons e7 (fun p hp => puts_nil hp))))) (ref01_Field.s22_eq Z Q X1 ρ f_1 h_2 n_6 i_7) he hr h
def ref01_Field.l19 (Z : List PanicEntry → PT) (Q : Int → Int → PT) : Nat → Int → Addr → Int → Int → PT
  | 0, _, _, _, _ => bad
  | k + 1, f_1, h_2, n_6, i_7 => (ref01_Field.s22 Z Q (ref01_Field.l19 Z Q k) f_1 h_2 n_6 i_7)
def ref01_Field.j26 (Z : List PanicEntry → PT) (Q : Int → Int → PT) (k : Nat) : Fr → PT := (fun ρ => atI .i64 (ρ 1) fun f_1 => atA (ρ 2) fun h_2 => atI .u32 (ρ 6) fun n_6 => atI .i64 (ρ 7) fun i_7 => (ref01_Field.l19 Z Q k f_1 h_2 n_6 i_7))
def ref01_Field.j27 (Z : List PanicEntry → PT) (Q : Int → Int → PT) : Fr → PT := (fun ρ => atI .i64 (ρ 1) fun f_1 => atA (ρ 2) fun h_2 => atI .u32 (ρ 6) fun n_6 => atI .i64 (ρ 7) fun i_7 => (exK fun k => ref01_Field.l19 Z Q k f_1 h_2 n_6 i_7))
theorem ref01_Field.o28 (Z : List PanicEntry → PT) (Q : Int → Int → PT) : Ok Tryd.prog Tryd.f13.ntmps Z ref01_Field.c15 (ref01_Field.q21 Z Q) (ref01_Field.j27 Z Q) := by
  rw [ref01_Field.q18]
  refine Ok.imp (ok_loop (J := ref01_Field.j26 Z Q) ?_ ?_) ?_
  · intro ρ w h
    obtain ⟨f_1, e1, h⟩ := atI_e h
    obtain ⟨h_2, e2, h⟩ := atA_e h
    obtain ⟨n_6, e6, h⟩ := atI_e h
    obtain ⟨i_7, e7, h⟩ := atI_e h
    exact h
  · intro k
    refine Ok.imp (ref01_Field.s22_ok Z Q (ref01_Field.l19 Z Q k)) fun ρ w h => ?_
    obtain ⟨f_1, e1, h⟩ := atI_e h
    obtain ⟨h_2, e2, h⟩ := atA_e h
    obtain ⟨n_6, e6, h⟩ := atI_e h
    obtain ⟨i_7, e7, h⟩ := atI_e h
    show (ref01_Field.j25 Z Q (ref01_Field.l19 Z Q k)) ρ w
    simp only [ref01_Field.j25]
    rw [e1]
    rw [e2]
    rw [e6]
    rw [e7]
    exact h
  · intro ρ w h
    obtain ⟨f_1, e1, h⟩ := atI_e h
    obtain ⟨h_2, e2, h⟩ := atA_e h
    obtain ⟨n_6, e6, h⟩ := atI_e h
    obtain ⟨i_7, e7, h⟩ := atI_e h
    obtain ⟨k, h⟩ := h
    refine ⟨k, ?_⟩
    show (atI .i64 (ρ 1) fun f_1 => atA (ρ 2) fun h_2 => atI .u32 (ρ 6) fun n_6 => atI .i64 (ρ 7) fun i_7 => (ref01_Field.l19 Z Q k f_1 h_2 n_6 i_7)) w
    rw [e1]
    rw [e2]
    rw [e6]
    rw [e7]
    exact h
theorem ref01_Field.o29 (Z : List PanicEntry → PT) (Q : Int → Int → PT) : Ok Tryd.prog Tryd.f13.ntmps Z ref01_Field.c13 (ref01_Field.q20 Z Q) (ref01_Field.j27 Z Q) := by
  rw [ref01_Field.q16]; exact ok_block (ref01_Field.o28 Z Q)
def ref01_Field.s30 (Z : List PanicEntry → PT) (Q : Int → Int → PT) (f_1 : Int) (h_2 : Addr) (n_6 : Int) : PT :=
  (exK fun k => ref01_Field.l19 Z Q k f_1 h_2 n_6 0)
theorem ref01_Field.s30_eq (Z : List PanicEntry → PT) (Q : Int → Int → PT) (ρ : Fr) (f_1 : Int) (h_2 : Addr) (n_6 : Int) : (comp Tryd.prog Z ref01_Field.c12 (thenK (ref01_Field.j27 Z Q) (ref01_Field.q20 Z Q))) (puts ρ [(1, (Value.int .i64 f_1)), (2, (Value.pointer (some h_2))), (6, (Value.int .u32 n_6))]) = ref01_Field.s30 Z Q f_1 h_2 n_6 := by kernel_rfl
def ref01_Field.j31 (Z : List PanicEntry → PT) (Q : Int → Int → PT) : Fr → PT := (fun ρ => atI .i64 (ρ 1) fun f_1 => atA (ρ 2) fun h_2 => atI .u32 (ρ 6) fun n_6 => (ref01_Field.s30 Z Q f_1 h_2 n_6))
theorem ref01_Field.s30_ok (Z : List PanicEntry → PT) (Q : Int → Int → PT) : Ok Tryd.prog Tryd.f13.ntmps Z ref01_Field.c6 (ref01_Field.q20 Z Q) (ref01_Field.j31 Z Q) := by
  intro E he ρ w a hr h
  rw [ref01_Field.q14] at he ⊢
  obtain ⟨f_1, e1, h⟩ := atI_e h
  obtain ⟨h_2, e2, h⟩ := atA_e h
  obtain ⟨n_6, e6, h⟩ := atI_e h
  exact ok_at [(1, (Value.int .i64 f_1)), (2, (Value.pointer (some h_2))), (6, (Value.int .u32 n_6))] (ok_seq (okC ref01_Field.c12 _ (by kernel_rfl)) (ref01_Field.o29 Z Q)) (puts_cons e1 (puts_cons e2 (puts_cons e6 (fun p hp => puts_nil hp)))) (ref01_Field.s30_eq Z Q ρ f_1 h_2 n_6) he hr h
theorem ref01_Field.o32 (Z : List PanicEntry → PT) (Q : Int → Int → PT) : Ok Tryd.prog Tryd.f13.ntmps Z ref01_Field.c4 (ref01_Field.q10 Z Q) (ref01_Field.j31 Z Q) := by
  rw [ref01_Field.q8]; exact ok_seq (ref01_Field.s30_ok Z Q) (ref01_Field.s9_ok Z Q)
def ref01_Field.s33 (Z : List PanicEntry → PT) (Q : Int → Int → PT) (h_0 : List Value) (f_1 : Int) : PT :=
  (newC 26 h_0 fun h23 => (cal Tryd.prog Z 17 [(Value.int .i64 f_1)] (isI .i64 fun v24 => (pif (decide (v24 < 0)) (Q 0 1) (ref01_Field.s30 Z Q f_1 h23 0)))))
theorem ref01_Field.s33_eq (Z : List PanicEntry → PT) (Q : Int → Int → PT) (ρ : Fr) (h_0 : List Value) (f_1 : Int) : (comp Tryd.prog Z ref01_Field.c1 (thenK (comp Tryd.prog Z ref01_Field.c2 (thenK (comp Tryd.prog Z ref01_Field.c3 (thenK (ref01_Field.j31 Z Q) (ref01_Field.q10 Z Q))) (ref01_Field.q10 Z Q))) (ref01_Field.q10 Z Q))) (puts ρ [(0, (Value.agg ⟨h_0⟩)), (1, (Value.int .i64 f_1))]) = ref01_Field.s33 Z Q h_0 f_1 := by kernel_rfl
def ref01_Field.j34 (Z : List PanicEntry → PT) (Q : Int → Int → PT) : Fr → PT := (fun ρ => atN (ρ 0) fun h_0 => atI .i64 (ρ 1) fun f_1 => (ref01_Field.s33 Z Q h_0 f_1))
theorem ref01_Field.s33_ok (Z : List PanicEntry → PT) (Q : Int → Int → PT) : Ok Tryd.prog Tryd.f13.ntmps Z ref01_Field.body (ref01_Field.q10 Z Q) (ref01_Field.j34 Z Q) := by
  intro E he ρ w a hr h
  rw [ref01_Field.q5] at he ⊢
  obtain ⟨h_0, e0, h⟩ := atN_e h
  obtain ⟨f_1, e1, h⟩ := atI_e h
  exact ok_at [(0, (Value.agg ⟨h_0⟩)), (1, (Value.int .i64 f_1))] (ok_seq (okC ref01_Field.c1 _ (by kernel_rfl)) (ok_seq (okC ref01_Field.c2 _ (by kernel_rfl)) (ok_seq (okC ref01_Field.c3 _ (by kernel_rfl)) (ref01_Field.o32 Z Q)))) (puts_cons e0 (puts_cons e1 (fun p hp => puts_nil hp))) (ref01_Field.s33_eq Z Q ρ h_0 f_1) he hr h
def ref01_Field.F (Z : List PanicEntry → PT) (Q : Int → Int → PT) (h_0 : List Value) (f_1 : Int) : PT :=
  (ref01_Field.s33 Z Q h_0 f_1)
theorem ref01_Field.vc (Z : List PanicEntry → PT) (Q : Int → Int → PT) (h_0 : List Value) (f_1 : Int) (w : World) (h : ref01_Field.F Z Q h_0 f_1 w) : Calls Tryd.prog 13 ⟨[(Value.agg ⟨h_0⟩), (Value.int .i64 f_1)]⟩ w fun e w' => (∃ (r0 : Int) (r1 : Int), e = .returned (.tuple #[.int .u32 r0, .int .i64 r1]) ∧ Q r0 r1 w') ∨ ∃ c, e = .panicked c ∧ Z c w' := by
  refine (calls_of_ok (args := [(Value.agg ⟨h_0⟩), (Value.int .i64 f_1)]) (w := w) (rs := [.tmp 4, .tmp 5]) (fn := Tryd.f13) (c := ref01_Field.body) Tryd.func13 (by kernel_rfl) (by kernel_rfl) (Nat.le_of_ble_eq_true (by kernel_rfl)) (ref01_Field.s33_ok Z Q) (h)).mono fun e w' hR => ?_
  cases e with
  | returned v =>
    obtain ⟨x, y, rfl, hR⟩ := at2_e hR
    obtain ⟨xa, rfl, hR⟩ := atI_e hR
    obtain ⟨ya, rfl, hR⟩ := atI_e hR
    exact .inl ⟨xa, ya, rfl, hR⟩
  | panicked c => exact .inr ⟨c, rfl, hR⟩
  | outgrown => exact hR.elim
theorem ref01_Field.vc0 (Q : Int → Int → PT) (h_0 : List Value) (f_1 : Int) (w : World) (h : ref01_Field.F Z0 Q h_0 f_1 w) : Calls Tryd.prog 13 ⟨[(Value.agg ⟨h_0⟩), (Value.int .i64 f_1)]⟩ w fun e w' => (∃ (r0 : Int) (r1 : Int), e = .returned (.tuple #[.int .u32 r0, .int .i64 r1]) ∧ Q r0 r1 w') :=
  (ref01_Field.vc Z0 Q h_0 f_1 w h).mono fun _ _ hR => hR.elim id fun ⟨_, _, hz⟩ => hz.elim
theorem ref01_Field.cal {Z : List PanicEntry → PT} {Q : Int → Int → PT} {h_0 : List Value} {f_1 : Int} {w : World} (h : ref01_Field.F Z Q h_0 f_1 w) : Go.Proofs.YtchhffabpgebmaaDoor.cal Tryd.prog Z 13 [(Value.agg ⟨h_0⟩), (Value.int .i64 f_1)] (isT2 fun x y => (isI .u32 fun r0 => (isI .i64 fun r1 => Q r0 r1) y) x) w := by
  refine (ref01_Field.vc Z Q h_0 f_1 w h).mono fun e w' hR => ?_
  rcases hR with ⟨r0, r1, rfl, h⟩ | ⟨c, rfl, h⟩
  · show (isT2 fun x y => (isI .u32 fun r0 => (isI .i64 fun r1 => Q r0 r1) y) x) (.tuple #[.int .u32 r0, .int .i64 r1]) w'
    exact ⟨_, _, rfl, ⟨_, rfl, ⟨_, rfl, h⟩⟩⟩
  · exact h

/-! ### milepost/milepostref01.With: function 15 -/
noncomputable def ref01_With.body : Code := bodyC Tryd.f15
noncomputable def ref01_With.c1 : Code := sq1 ref01_With.body
noncomputable def ref01_With.c2 : Code := sq1 (sq2 ref01_With.body)
noncomputable def ref01_With.c3 : Code := sq2 (sq2 ref01_With.body)
theorem ref01_With.q4 : ref01_With.body = .seq ref01_With.c1 (.seq ref01_With.c2 ref01_With.c3) := by kernel_rfl
noncomputable def ref01_With.c5 : Code := sq1 ref01_With.c3
noncomputable def ref01_With.c6 : Code := sq2 ref01_With.c3
theorem ref01_With.q7 : ref01_With.c3 = .seq ref01_With.c5 ref01_With.c6 := by kernel_rfl
def ref01_With.s8 (Z : List PanicEntry → PT) (Q : List Value → Int → PT) (v_2 : Int) (h_3 : Addr) (t_6 : Addr) : PT :=
  (pif (decide (v_2 > 0)) (stN 13 t_6 [(Value.int .u8 0), (Value.int .u8 0), (Value.int .u8 0), (Value.int .u8 0), (Value.int .u8 0), (Value.int .u8 0), (Value.int .u8 0), (Value.int .u8 0), (Value.int .u8 0), (Value.int .u8 0), (Value.int .u8 0), (Value.int .u8 0), (Value.int .u8 0)] (ldN 13 t_6 fun v7 => (Q v7 10))) (ldN 13 h_3 fun v8 => (stN 13 t_6 v8 (ldN 13 t_6 fun v9 => (Q v9 0)))))
def ref01_With.q9 (Z : List PanicEntry → PT) (Q : List Value → Int → PT) : QF := bodyQ Tryd.prog [.cell 6 26, .tmp 7] (fun v => at2 v fun x y => atN x fun xa => atI .i64 y fun ya => Q xa ya)
theorem ref01_With.s8_eq (Z : List PanicEntry → PT) (Q : List Value → Int → PT) (ρ : Fr) (v_2 : Int) (h_3 : Addr) (t_6 : Addr) : comp Tryd.prog Z ref01_With.c6 (ref01_With.q9 Z Q) (puts ρ [(2, (Value.int .u32 v_2)), (3, (Value.pointer (some h_3))), (6, (Value.pointer (some t_6)))]) = ref01_With.s8 Z Q v_2 h_3 t_6 := by kernel_rfl
def ref01_With.j10 (Z : List PanicEntry → PT) (Q : List Value → Int → PT) : Fr → PT := (fun ρ => atI .u32 (ρ 2) fun v_2 => atA (ρ 3) fun h_3 => atA (ρ 6) fun t_6 => (ref01_With.s8 Z Q v_2 h_3 t_6))
theorem ref01_With.s8_ok (Z : List PanicEntry → PT) (Q : List Value → Int → PT) : Ok Tryd.prog Tryd.f15.ntmps Z ref01_With.c6 (ref01_With.q9 Z Q) (ref01_With.j10 Z Q) := by
  intro E he ρ w a hr h
  obtain ⟨v_2, e2, h⟩ := atI_e h
  obtain ⟨h_3, e3, h⟩ := atA_e h
  obtain ⟨t_6, e6, h⟩ := atA_e h
  exact ok_at [(2, (Value.int .u32 v_2)), (3, (Value.pointer (some h_3))), (6, (Value.pointer (some t_6)))] (okC ref01_With.c6 (ref01_With.q9 Z Q) (by kernel_rfl)) (puts_cons e2 (puts_cons e3 (puts_cons e6 (fun p hp => puts_nil hp)))) (ref01_With.s8_eq Z Q ρ v_2 h_3 t_6) he hr h
noncomputable def ref01_With.c11 : Code := sq1 ref01_With.c5
noncomputable def ref01_With.c12 : Code := sq2 ref01_With.c5
theorem ref01_With.q13 : ref01_With.c5 = .seq ref01_With.c11 ref01_With.c12 := by kernel_rfl
noncomputable def ref01_With.c14 : Code := blk ref01_With.c12
theorem ref01_With.q15 : ref01_With.c12 = .block 0 ref01_With.c14 := by kernel_rfl
noncomputable def ref01_With.c16 : Code := lop ref01_With.c14
theorem ref01_With.q17 : ref01_With.c14 = .loop ref01_With.c16 := by kernel_rfl
def ref01_With.q19 (Z : List PanicEntry → PT) (Q : List Value → Int → PT) : QF := thenK (ref01_With.j10 Z Q) (ref01_With.q9 Z Q)
def ref01_With.q20 (Z : List PanicEntry → PT) (Q : List Value → Int → PT) : QF := inBl 0 (ref01_With.q19 Z Q)
def ref01_With.s21 (Z : List PanicEntry → PT) (Q : List Value → Int → PT) (X1 : Int → Int → Addr → Addr → Int → PT) (f_1 : Int) (v_2 : Int) (h_3 : Addr) (t_6 : Addr) (i_8 : Int) : PT :=
  (pif (decide (i_8 ≥ 0)) (drawn fun S19 => (hN S19 13 h_3 fun v20 => (cnd ((2 : Int) ≠ 0) (cal Tryd.prog Z 17 [(Value.int .i64 f_1)] (isI .i64 fun v21 => (sAnd S19 (cal Tryd.prog Z 29 [(Value.agg ⟨v20⟩), (Value.int .i64 (IntKind.wrap .i64 (v21 + i_8))), (Value.bool ((Int.tmod v_2 2) == 1))] (isN fun v22 => (sAnd S19 (stN 13 h_3 v22 (cnd ((2 : Int) ≠ 0) (X1 f_1 (IntKind.wrap .u32 (Int.tdiv v_2 2)) h_3 t_6 (IntKind.wrap .i64 (i_8 - 1)))))))))))))) (ref01_With.s8 Z Q v_2 h_3 t_6))
def ref01_With.j22 (Z : List PanicEntry → PT) (Q : List Value → Int → PT) (X1 : Int → Int → Addr → Addr → Int → PT) : Fr → PT := (fun ρ => atI .i64 (ρ 1) fun f_1 => atI .u32 (ρ 2) fun v_2 => atA (ρ 3) fun h_3 => atA (ρ 6) fun t_6 => atI .i64 (ρ 8) fun i_8 => (X1 f_1 v_2 h_3 t_6 i_8))
def ref01_With.q23 (Z : List PanicEntry → PT) (Q : List Value → Int → PT) (X1 : Int → Int → Addr → Addr → Int → PT) : QF := thenK (ref01_With.j22 Z Q X1) (ref01_With.q20 Z Q)
theorem ref01_With.s21_eq (Z : List PanicEntry → PT) (Q : List Value → Int → PT) (X1 : Int → Int → Addr → Addr → Int → PT) (ρ : Fr) (f_1 : Int) (v_2 : Int) (h_3 : Addr) (t_6 : Addr) (i_8 : Int) : comp Tryd.prog Z ref01_With.c16 (ref01_With.q23 Z Q X1) (puts ρ [(1, (Value.int .i64 f_1)), (2, (Value.int .u32 v_2)), (3, (Value.pointer (some h_3))), (6, (Value.pointer (some t_6))), (8, (Value.int .i64 i_8))]) = ref01_With.s21 Z Q X1 f_1 v_2 h_3 t_6 i_8 := by kernel_rfl
def ref01_With.j24 (Z : List PanicEntry → PT) (Q : List Value → Int → PT) (X1 : Int → Int → Addr → Addr → Int → PT) : Fr → PT := (fun ρ => atI .i64 (ρ 1) fun f_1 => atI .u32 (ρ 2) fun v_2 => atA (ρ 3) fun h_3 => atA (ρ 6) fun t_6 => atI .i64 (ρ 8) fun i_8 => (ref01_With.s21 Z Q X1 f_1 v_2 h_3 t_6 i_8))
theorem ref01_With.s21_ok (Z : List PanicEntry → PT) (Q : List Value → Int → PT) (X1 : Int → Int → Addr → Addr → Int → PT) : Ok Tryd.prog Tryd.f15.ntmps Z ref01_With.c16 (ref01_With.q23 Z Q X1) (ref01_With.j24 Z Q X1) := by
  intro E he ρ w a hr h
  obtain ⟨f_1, e1, h⟩ := atI_e h
  obtain ⟨v_2, e2, h⟩ := atI_e h
  obtain ⟨h_3, e3, h⟩ := atA_e h
  obtain ⟨t_6, e6, h⟩ := atA_e h
  obtain ⟨i_8, e8, h⟩ := atI_e h
  exact ok_at [(1, (Value.int .i64 f_1)), (2, (Value.int .u32 v_2)), (3, (Value.pointer (some h_3))), (6, (Value.pointer (some t_6))), (8, (Value.int .i64 i_8))] (okC ref01_With.c16 (ref01_With.q23 Z Q X1) (by kernel_rfl)) (puts_cons e1 (puts_cons e2 (puts_cons e3 (puts_cons e6 (puts_cons e8 (fun p hp => puts_nil hp)))))) (ref01_With.s21_eq Z Q X1 ρ f_1 v_2 h_3 t_6 i_8) he hr h
def ref01_With.l18 (Z : List PanicEntry → PT) (Q : List Value → Int → PT) : Nat → Int → Int → Addr → Addr → Int → PT
  | 0, _, _, _, _, _ => bad
  | k + 1, f_1, v_2, h_3, t_6, i_8 => (ref01_With.s21 Z Q (ref01_With.l18 Z Q k) f_1 v_2 h_3 t_6 i_8)
def ref01_With.j25 (Z : List PanicEntry → PT) (Q : List Value → Int → PT) (k : Nat) : Fr → PT := (fun ρ => atI .i64 (ρ 1) fun f_1 => atI .u32 (ρ 2) fun v_2 => atA (ρ 3) fun h_3 => atA (ρ 6) fun t_6 => atI .i64 (ρ 8) fun i_8 => (ref01_With.l18 Z Q k f_1 v_2 h_3 t_6 i_8))
def ref01_With.j26 (Z : List PanicEntry → PT) (Q : List Value → Int → PT) : Fr → PT := (fun ρ => atI .i64 (ρ 1) fun f_1 => atI .u32 (ρ 2) fun v_2 => atA (ρ 3) fun h_3 => atA (ρ 6) fun t_6 => atI .i64 (ρ 8) fun i_8 => (exK fun k => ref01_With.l18 Z Q k f_1 v_2 h_3 t_6 i_8))
theorem ref01_With.o27 (Z : List PanicEntry → PT) (Q : List Value → Int → PT) : Ok Tryd.prog Tryd.f15.ntmps Z ref01_With.c14 (ref01_With.q20 Z Q) (ref01_With.j26 Z Q) := by
  rw [ref01_With.q17]
  refine Ok.imp (ok_loop (J := ref01_With.j25 Z Q) ?_ ?_) ?_
  · intro ρ w h
    obtain ⟨f_1, e1, h⟩ := atI_e h
    obtain ⟨v_2, e2, h⟩ := atI_e h
    obtain ⟨h_3, e3, h⟩ := atA_e h
    obtain ⟨t_6, e6, h⟩ := atA_e h
    obtain ⟨i_8, e8, h⟩ := atI_e h
    exact h
  · intro k
    refine Ok.imp (ref01_With.s21_ok Z Q (ref01_With.l18 Z Q k)) fun ρ w h => ?_
    obtain ⟨f_1, e1, h⟩ := atI_e h
    obtain ⟨v_2, e2, h⟩ := atI_e h
    obtain ⟨h_3, e3, h⟩ := atA_e h
    obtain ⟨t_6, e6, h⟩ := atA_e h
    obtain ⟨i_8, e8, h⟩ := atI_e h
    show (ref01_With.j24 Z Q (ref01_With.l18 Z Q k)) ρ w
    simp only [ref01_With.j24]
    rw [e1]
    rw [e2]
    rw [e3]
    rw [e6]
    rw [e8]
    exact h
  · intro ρ w h
    obtain ⟨f_1, e1, h⟩ := atI_e h
    obtain ⟨v_2, e2, h⟩ := atI_e h
    obtain ⟨h_3, e3, h⟩ := atA_e h
    obtain ⟨t_6, e6, h⟩ := atA_e h
    obtain ⟨i_8, e8, h⟩ := atI_e h
    obtain ⟨k, h⟩ := h
    refine ⟨k, ?_⟩
    show (atI .i64 (ρ 1) fun f_1 => atI .u32 (ρ 2) fun v_2 => atA (ρ 3) fun h_3 => atA (ρ 6) fun t_6 => atI .i64 (ρ 8) fun i_8 => (ref01_With.l18 Z Q k f_1 v_2 h_3 t_6 i_8)) w
    rw [e1]
    rw [e2]
    rw [e3]
    rw [e6]
    rw [e8]
    exact h
theorem ref01_With.o28 (Z : List PanicEntry → PT) (Q : List Value → Int → PT) : Ok Tryd.prog Tryd.f15.ntmps Z ref01_With.c12 (ref01_With.q19 Z Q) (ref01_With.j26 Z Q) := by
  rw [ref01_With.q15]; exact ok_block (ref01_With.o27 Z Q)
def ref01_With.s29 (Z : List PanicEntry → PT) (Q : List Value → Int → PT) (f_1 : Int) (v_2 : Int) (h_3 : Addr) (t_6 : Addr) : PT :=
  (cal Tryd.prog Z 18 [(Value.int .i64 f_1)] (isI .i64 fun v23 => (exK fun k => ref01_With.l18 Z Q k f_1 v_2 h_3 t_6 (IntKind.wrap .i64 (v23 - 1)))))
theorem ref01_With.s29_eq (Z : List PanicEntry → PT) (Q : List Value → Int → PT) (ρ : Fr) (f_1 : Int) (v_2 : Int) (h_3 : Addr) (t_6 : Addr) : (comp Tryd.prog Z ref01_With.c11 (thenK (ref01_With.j26 Z Q) (ref01_With.q19 Z Q))) (puts ρ [(1, (Value.int .i64 f_1)), (2, (Value.int .u32 v_2)), (3, (Value.pointer (some h_3))), (6, (Value.pointer (some t_6)))]) = ref01_With.s29 Z Q f_1 v_2 h_3 t_6 := by kernel_rfl
def ref01_With.j30 (Z : List PanicEntry → PT) (Q : List Value → Int → PT) : Fr → PT := (fun ρ => atI .i64 (ρ 1) fun f_1 => atI .u32 (ρ 2) fun v_2 => atA (ρ 3) fun h_3 => atA (ρ 6) fun t_6 => (ref01_With.s29 Z Q f_1 v_2 h_3 t_6))
theorem ref01_With.s29_ok (Z : List PanicEntry → PT) (Q : List Value → Int → PT) : Ok Tryd.prog Tryd.f15.ntmps Z ref01_With.c5 (ref01_With.q19 Z Q) (ref01_With.j30 Z Q) := by
  intro E he ρ w a hr h
  rw [ref01_With.q13] at he ⊢
  obtain ⟨f_1, e1, h⟩ := atI_e h
  obtain ⟨v_2, e2, h⟩ := atI_e h
  obtain ⟨h_3, e3, h⟩ := atA_e h
  obtain ⟨t_6, e6, h⟩ := atA_e h
  exact ok_at [(1, (Value.int .i64 f_1)), (2, (Value.int .u32 v_2)), (3, (Value.pointer (some h_3))), (6, (Value.pointer (some t_6)))] (ok_seq (okC ref01_With.c11 _ (by kernel_rfl)) (ref01_With.o28 Z Q)) (puts_cons e1 (puts_cons e2 (puts_cons e3 (puts_cons e6 (fun p hp => puts_nil hp))))) (ref01_With.s29_eq Z Q ρ f_1 v_2 h_3 t_6) he hr h
theorem ref01_With.o31 (Z : List PanicEntry → PT) (Q : List Value → Int → PT) : Ok Tryd.prog Tryd.f15.ntmps Z ref01_With.c3 (ref01_With.q9 Z Q) (ref01_With.j30 Z Q) := by
  rw [ref01_With.q7]; exact ok_seq (ref01_With.s29_ok Z Q) (ref01_With.s8_ok Z Q)
def ref01_With.s32 (Z : List PanicEntry → PT) (Q : List Value → Int → PT) (h_0 : List Value) (f_1 : Int) (v_2 : Int) : PT :=
  (newC 26 h_0 fun h24 => (newC 26 [(Value.int .u8 0), (Value.int .u8 0), (Value.int .u8 0), (Value.int .u8 0), (Value.int .u8 0), (Value.int .u8 0), (Value.int .u8 0), (Value.int .u8 0), (Value.int .u8 0), (Value.int .u8 0), (Value.int .u8 0), (Value.int .u8 0), (Value.int .u8 0)] fun v25 => (cal Tryd.prog Z 17 [(Value.int .i64 f_1)] (isI .i64 fun v26 => (pif (decide (v26 < 0)) (stN 13 v25 [(Value.int .u8 0), (Value.int .u8 0), (Value.int .u8 0), (Value.int .u8 0), (Value.int .u8 0), (Value.int .u8 0), (Value.int .u8 0), (Value.int .u8 0), (Value.int .u8 0), (Value.int .u8 0), (Value.int .u8 0), (Value.int .u8 0), (Value.int .u8 0)] (ldN 13 v25 fun v27 => (Q v27 1))) (ref01_With.s29 Z Q f_1 v_2 h24 v25))))))
theorem ref01_With.s32_eq (Z : List PanicEntry → PT) (Q : List Value → Int → PT) (ρ : Fr) (h_0 : List Value) (f_1 : Int) (v_2 : Int) : (comp Tryd.prog Z ref01_With.c1 (thenK (comp Tryd.prog Z ref01_With.c2 (thenK (ref01_With.j30 Z Q) (ref01_With.q9 Z Q))) (ref01_With.q9 Z Q))) (puts ρ [(0, (Value.agg ⟨h_0⟩)), (1, (Value.int .i64 f_1)), (2, (Value.int .u32 v_2))]) = ref01_With.s32 Z Q h_0 f_1 v_2 := by kernel_rfl
def ref01_With.j33 (Z : List PanicEntry → PT) (Q : List Value → Int → PT) : Fr → PT := (fun ρ => atN (ρ 0) fun h_0 => atI .i64 (ρ 1) fun f_1 => atI .u32 (ρ 2) fun v_2 => (ref01_With.s32 Z Q h_0 f_1 v_2))
theorem ref01_With.s32_ok (Z : List PanicEntry → PT) (Q : List Value → Int → PT) : Ok Tryd.prog Tryd.f15.ntmps Z ref01_With.body (ref01_With.q9 Z Q) (ref01_With.j33 Z Q) := by
  intro E he ρ w a hr h
  rw [ref01_With.q4] at he ⊢
  obtain ⟨h_0, e0, h⟩ := atN_e h
  obtain ⟨f_1, e1, h⟩ := atI_e h
  obtain ⟨v_2, e2, h⟩ := atI_e h
  exact ok_at [(0, (Value.agg ⟨h_0⟩)), (1, (Value.int .i64 f_1)), (2, (Value.int .u32 v_2))] (ok_seq (okC ref01_With.c1 _ (by kernel_rfl)) (ok_seq (okC ref01_With.c2 _ (by kernel_rfl)) (ref01_With.o31 Z Q))) (puts_cons e0 (puts_cons e1 (puts_cons e2 (fun p hp => puts_nil hp)))) (ref01_With.s32_eq Z Q ρ h_0 f_1 v_2) he hr h
def ref01_With.F (Z : List PanicEntry → PT) (Q : List Value → Int → PT) (h_0 : List Value) (f_1 : Int) (v_2 : Int) : PT :=
  (ref01_With.s32 Z Q h_0 f_1 v_2)
theorem ref01_With.vc (Z : List PanicEntry → PT) (Q : List Value → Int → PT) (h_0 : List Value) (f_1 : Int) (v_2 : Int) (w : World) (h : ref01_With.F Z Q h_0 f_1 v_2 w) : Calls Tryd.prog 15 ⟨[(Value.agg ⟨h_0⟩), (Value.int .i64 f_1), (Value.int .u32 v_2)]⟩ w fun e w' => (∃ (r0 : List Value) (r1 : Int), e = .returned (.tuple #[.agg ⟨r0⟩, .int .i64 r1]) ∧ Q r0 r1 w') ∨ ∃ c, e = .panicked c ∧ Z c w' := by
  refine (calls_of_ok (args := [(Value.agg ⟨h_0⟩), (Value.int .i64 f_1), (Value.int .u32 v_2)]) (w := w) (rs := [.cell 6 26, .tmp 7]) (fn := Tryd.f15) (c := ref01_With.body) Tryd.func15 (by kernel_rfl) (by kernel_rfl) (Nat.le_of_ble_eq_true (by kernel_rfl)) (ref01_With.s32_ok Z Q) (h)).mono fun e w' hR => ?_
  cases e with
  | returned v =>
    obtain ⟨x, y, rfl, hR⟩ := at2_e hR
    obtain ⟨xa, rfl, hR⟩ := atN_e hR
    obtain ⟨ya, rfl, hR⟩ := atI_e hR
    exact .inl ⟨xa, ya, rfl, hR⟩
  | panicked c => exact .inr ⟨c, rfl, hR⟩
  | outgrown => exact hR.elim
theorem ref01_With.vc0 (Q : List Value → Int → PT) (h_0 : List Value) (f_1 : Int) (v_2 : Int) (w : World) (h : ref01_With.F Z0 Q h_0 f_1 v_2 w) : Calls Tryd.prog 15 ⟨[(Value.agg ⟨h_0⟩), (Value.int .i64 f_1), (Value.int .u32 v_2)]⟩ w fun e w' => (∃ (r0 : List Value) (r1 : Int), e = .returned (.tuple #[.agg ⟨r0⟩, .int .i64 r1]) ∧ Q r0 r1 w') :=
  (ref01_With.vc Z0 Q h_0 f_1 v_2 w h).mono fun _ _ hR => hR.elim id fun ⟨_, _, hz⟩ => hz.elim
theorem ref01_With.cal {Z : List PanicEntry → PT} {Q : List Value → Int → PT} {h_0 : List Value} {f_1 : Int} {v_2 : Int} {w : World} (h : ref01_With.F Z Q h_0 f_1 v_2 w) : Go.Proofs.YtchhffabpgebmaaDoor.cal Tryd.prog Z 15 [(Value.agg ⟨h_0⟩), (Value.int .i64 f_1), (Value.int .u32 v_2)] (isT2 fun x y => (isN fun r0 => (isI .i64 fun r1 => Q r0 r1) y) x) w := by
  refine (ref01_With.vc Z Q h_0 f_1 v_2 w h).mono fun e w' hR => ?_
  rcases hR with ⟨r0, r1, rfl, h⟩ | ⟨c, rfl, h⟩
  · show (isT2 fun x y => (isN fun r0 => (isI .i64 fun r1 => Q r0 r1) y) x) (.tuple #[.agg ⟨r0⟩, .int .i64 r1]) w'
    exact ⟨_, _, rfl, ⟨_, rfl, ⟨_, rfl, h⟩⟩⟩
  · exact h

/-! ### milepost/milepostref01.Make: function 12 -/
noncomputable def ref01_Make.body : Code := bodyC Tryd.f12
def ref01_Make.F (Z : List PanicEntry → PT) (Q : List Value → PT) (src_0 : Int) (dst_1 : Int) (sport_2 : Int) (dport_3 : Int) (proto_4 : Int) : PT :=
  (newC 26 [(Value.int .u8 0), (Value.int .u8 0), (Value.int .u8 0), (Value.int .u8 0), (Value.int .u8 0), (Value.int .u8 0), (Value.int .u8 0), (Value.int .u8 0), (Value.int .u8 0), (Value.int .u8 0), (Value.int .u8 0), (Value.int .u8 0), (Value.int .u8 0)] fun v82 => (cal Tryd.prog Z 15 [(Value.agg ⟨[(Value.int .u8 0), (Value.int .u8 0), (Value.int .u8 0), (Value.int .u8 0), (Value.int .u8 0), (Value.int .u8 0), (Value.int .u8 0), (Value.int .u8 0), (Value.int .u8 0), (Value.int .u8 0), (Value.int .u8 0), (Value.int .u8 0), (Value.int .u8 0)]⟩), (Value.int .i64 0), (Value.int .u32 src_0)] (isT2 fun t83 t84 => (isN fun v85 => ((isI .i64 fun v86 => (newC 26 [(Value.int .u8 0), (Value.int .u8 0), (Value.int .u8 0), (Value.int .u8 0), (Value.int .u8 0), (Value.int .u8 0), (Value.int .u8 0), (Value.int .u8 0), (Value.int .u8 0), (Value.int .u8 0), (Value.int .u8 0), (Value.int .u8 0), (Value.int .u8 0)] fun h87 => (stN 13 h87 v85 (ldN 13 h87 fun v88 => (cal Tryd.prog Z 15 [(Value.agg ⟨v88⟩), (Value.int .i64 1), (Value.int .u32 dst_1)] (isT2 fun t89 t90 => (isN fun v91 => ((isI .i64 fun v92 => (stN 13 h87 v91 (ldN 13 h87 fun v93 => (cal Tryd.prog Z 15 [(Value.agg ⟨v93⟩), (Value.int .i64 2), (Value.int .u32 sport_2)] (isT2 fun t94 t95 => (isN fun v96 => ((isI .i64 fun v97 => (stN 13 h87 v96 (ldN 13 h87 fun v98 => (cal Tryd.prog Z 15 [(Value.agg ⟨v98⟩), (Value.int .i64 3), (Value.int .u32 dport_3)] (isT2 fun t99 t100 => (isN fun v101 => ((isI .i64 fun v102 => (stN 13 h87 v101 (ldN 13 h87 fun v103 => (cal Tryd.prog Z 15 [(Value.agg ⟨v103⟩), (Value.int .i64 4), (Value.int .u32 proto_4)] (isT2 fun t104 t105 => (isN fun v106 => ((isI .i64 fun v107 => (stN 13 h87 v106 (ldN 13 h87 fun v108 => (stN 13 v82 v108 (ldN 13 v82 fun v109 => (Q v109)))))) t105)) t104))))) t100)) t99))))) t95)) t94))))) t90)) t89)))))) t84)) t83)))
def ref01_Make.q1 (Z : List PanicEntry → PT) (Q : List Value → PT) : QF := bodyQ Tryd.prog [.cell 10 26] (fun v => atN v fun va => Q va)
theorem ref01_Make.eq (Z : List PanicEntry → PT) (Q : List Value → PT) (src_0 : Int) (dst_1 : Int) (sport_2 : Int) (dport_3 : Int) (proto_4 : Int) : comp Tryd.prog Z ref01_Make.body (ref01_Make.q1 Z Q) (fr0 [(Value.int .u32 src_0), (Value.int .u32 dst_1), (Value.int .u32 sport_2), (Value.int .u32 dport_3), (Value.int .u32 proto_4)]) = ref01_Make.F Z Q src_0 dst_1 sport_2 dport_3 proto_4 := by kernel_rfl
theorem ref01_Make.vc (Z : List PanicEntry → PT) (Q : List Value → PT) (src_0 : Int) (dst_1 : Int) (sport_2 : Int) (dport_3 : Int) (proto_4 : Int) (w : World) (h : ref01_Make.F Z Q src_0 dst_1 sport_2 dport_3 proto_4 w) : Calls Tryd.prog 12 ⟨[(Value.int .u32 src_0), (Value.int .u32 dst_1), (Value.int .u32 sport_2), (Value.int .u32 dport_3), (Value.int .u32 proto_4)]⟩ w fun e w' => (∃ (r0 : List Value), e = .returned (.agg ⟨r0⟩) ∧ Q r0 w') ∨ ∃ c, e = .panicked c ∧ Z c w' := by
  refine (calls_of_ok (args := [(Value.int .u32 src_0), (Value.int .u32 dst_1), (Value.int .u32 sport_2), (Value.int .u32 dport_3), (Value.int .u32 proto_4)]) (w := w) (rs := [.cell 10 26]) (fn := Tryd.f12) (c := ref01_Make.body) Tryd.func12 (by kernel_rfl) (by kernel_rfl) (Nat.le_of_ble_eq_true (by kernel_rfl)) (okC ref01_Make.body (ref01_Make.q1 Z Q) (by kernel_rfl)) (by rw [ref01_Make.eq]; exact h)).mono fun e w' hR => ?_
  cases e with
  | returned v =>
    obtain ⟨va, rfl, hR⟩ := atN_e hR
    exact .inl ⟨va, rfl, hR⟩
  | panicked c => exact .inr ⟨c, rfl, hR⟩
  | outgrown => exact hR.elim
theorem ref01_Make.vc0 (Q : List Value → PT) (src_0 : Int) (dst_1 : Int) (sport_2 : Int) (dport_3 : Int) (proto_4 : Int) (w : World) (h : ref01_Make.F Z0 Q src_0 dst_1 sport_2 dport_3 proto_4 w) : Calls Tryd.prog 12 ⟨[(Value.int .u32 src_0), (Value.int .u32 dst_1), (Value.int .u32 sport_2), (Value.int .u32 dport_3), (Value.int .u32 proto_4)]⟩ w fun e w' => (∃ (r0 : List Value), e = .returned (.agg ⟨r0⟩) ∧ Q r0 w') :=
  (ref01_Make.vc Z0 Q src_0 dst_1 sport_2 dport_3 proto_4 w h).mono fun _ _ hR => hR.elim id fun ⟨_, _, hz⟩ => hz.elim
theorem ref01_Make.cal {Z : List PanicEntry → PT} {Q : List Value → PT} {src_0 : Int} {dst_1 : Int} {sport_2 : Int} {dport_3 : Int} {proto_4 : Int} {w : World} (h : ref01_Make.F Z Q src_0 dst_1 sport_2 dport_3 proto_4 w) : Go.Proofs.YtchhffabpgebmaaDoor.cal Tryd.prog Z 12 [(Value.int .u32 src_0), (Value.int .u32 dst_1), (Value.int .u32 sport_2), (Value.int .u32 dport_3), (Value.int .u32 proto_4)] (isN fun r0 => Q r0) w := by
  refine (ref01_Make.vc Z Q src_0 dst_1 sport_2 dport_3 proto_4 w h).mono fun e w' hR => ?_
  rcases hR with ⟨r0, rfl, h⟩ | ⟨c, rfl, h⟩
  · show (isN fun r0 => Q r0) (.agg ⟨r0⟩) w'
    exact ⟨_, rfl, h⟩
  · exact h

/-! ### milepost/head.Less: function 22 -/
noncomputable def head_Less.body : Code := bodyC Tryd.f22
noncomputable def head_Less.c1 : Code := sq1 head_Less.body
noncomputable def head_Less.c2 : Code := sq2 head_Less.body
theorem head_Less.q3 : head_Less.body = .seq head_Less.c1 head_Less.c2 := by kernel_rfl
noncomputable def head_Less.c4 : Code := sq1 head_Less.c2
noncomputable def head_Less.c5 : Code := sq2 head_Less.c2
theorem head_Less.q6 : head_Less.c2 = .seq head_Less.c4 head_Less.c5 := by kernel_rfl
def head_Less.s7 (Z : List PanicEntry → PT) (Q : Bool → PT)  : PT :=
  (Q false)
def head_Less.q8 (Z : List PanicEntry → PT) (Q : Bool → PT) : QF := bodyQ Tryd.prog [.tmp 4] (fun v => atB v fun va => Q va)
theorem head_Less.s7_eq (Z : List PanicEntry → PT) (Q : Bool → PT) (ρ : Fr)  : comp Tryd.prog Z head_Less.c5 (head_Less.q8 Z Q) (puts ρ []) = head_Less.s7 Z Q  := by kernel_rfl
def head_Less.j9 (Z : List PanicEntry → PT) (Q : Bool → PT) : Fr → PT := (fun ρ => (head_Less.s7 Z Q ))
theorem head_Less.s7_ok (Z : List PanicEntry → PT) (Q : Bool → PT) : Ok Tryd.prog Tryd.f22.ntmps Z head_Less.c5 (head_Less.q8 Z Q) (head_Less.j9 Z Q) := by
  intro E he ρ w a hr h
  exact ok_at [] (okC head_Less.c5 (head_Less.q8 Z Q) (by kernel_rfl)) (fun p hp => puts_nil hp) (head_Less.s7_eq Z Q ρ ) he hr h
noncomputable def head_Less.c10 : Code := sq1 head_Less.c4
noncomputable def head_Less.c11 : Code := sq2 head_Less.c4
theorem head_Less.q12 : head_Less.c4 = .seq head_Less.c10 head_Less.c11 := by kernel_rfl
noncomputable def head_Less.c13 : Code := blk head_Less.c11
theorem head_Less.q14 : head_Less.c11 = .block 0 head_Less.c13 := by kernel_rfl
noncomputable def head_Less.c15 : Code := lop head_Less.c13
theorem head_Less.q16 : head_Less.c13 = .loop head_Less.c15 := by kernel_rfl
def head_Less.q18 (Z : List PanicEntry → PT) (Q : Bool → PT) : QF := thenK (head_Less.j9 Z Q) (head_Less.q8 Z Q)
def head_Less.q19 (Z : List PanicEntry → PT) (Q : Bool → PT) : QF := inBl 0 (head_Less.q18 Z Q)
def head_Less.s20 (Z : List PanicEntry → PT) (Q : Bool → PT) (X1 : Addr → List Value → Int → PT) (b_3 : Addr) (t_7 : List Value) (t_8 : Int) : PT :=
  (pif (decide (t_8 < 13)) (cnd ((0 : Int) ≤ t_8 ∧ t_8 < ((13 : Nat) : Int)) (ptI .u8 t_7 (t_8.toNat * 1) fun v10 => (cnd ((0 : Int) ≤ t_8 ∧ t_8 < ((13 : Nat) : Int)) (ldI .u8 (b_3.add (t_8.toNat * 1)) fun v11 => (pif (v10 != v11) (cnd ((0 : Int) ≤ t_8 ∧ t_8 < ((13 : Nat) : Int)) (ldI .u8 (b_3.add (t_8.toNat * 1)) fun v12 => (Q (decide (v10 < v12))))) (X1 b_3 t_7 (IntKind.wrap .i64 (t_8 + 1)))))))) (head_Less.s7 Z Q ))
def head_Less.j21 (Z : List PanicEntry → PT) (Q : Bool → PT) (X1 : Addr → List Value → Int → PT) : Fr → PT := (fun ρ => atA (ρ 3) fun b_3 => atN (ρ 7) fun t_7 => atI .i64 (ρ 8) fun t_8 => (X1 b_3 t_7 t_8))
def head_Less.q22 (Z : List PanicEntry → PT) (Q : Bool → PT) (X1 : Addr → List Value → Int → PT) : QF := thenK (head_Less.j21 Z Q X1) (head_Less.q19 Z Q)
theorem head_Less.s20_eq (Z : List PanicEntry → PT) (Q : Bool → PT) (X1 : Addr → List Value → Int → PT) (ρ : Fr) (b_3 : Addr) (t_7 : List Value) (t_8 : Int) : comp Tryd.prog Z head_Less.c15 (head_Less.q22 Z Q X1) (puts ρ [(3, (Value.pointer (some b_3))), (7, (Value.agg ⟨t_7⟩)), (8, (Value.int .i64 t_8))]) = head_Less.s20 Z Q X1 b_3 t_7 t_8 := by kernel_rfl
def head_Less.j23 (Z : List PanicEntry → PT) (Q : Bool → PT) (X1 : Addr → List Value → Int → PT) : Fr → PT := (fun ρ => atA (ρ 3) fun b_3 => atN (ρ 7) fun t_7 => atI .i64 (ρ 8) fun t_8 => (head_Less.s20 Z Q X1 b_3 t_7 t_8))
theorem head_Less.s20_ok (Z : List PanicEntry → PT) (Q : Bool → PT) (X1 : Addr → List Value → Int → PT) : Ok Tryd.prog Tryd.f22.ntmps Z head_Less.c15 (head_Less.q22 Z Q X1) (head_Less.j23 Z Q X1) := by
  intro E he ρ w a hr h
  obtain ⟨b_3, e3, h⟩ := atA_e h
  obtain ⟨t_7, e7, h⟩ := atN_e h
  obtain ⟨t_8, e8, h⟩ := atI_e h
  exact ok_at [(3, (Value.pointer (some b_3))), (7, (Value.agg ⟨t_7⟩)), (8, (Value.int .i64 t_8))] (okC head_Less.c15 (head_Less.q22 Z Q X1) (by kernel_rfl)) (puts_cons e3 (puts_cons e7 (puts_cons e8 (fun p hp => puts_nil hp)))) (head_Less.s20_eq Z Q X1 ρ b_3 t_7 t_8) he hr h
def head_Less.l17 (Z : List PanicEntry → PT) (Q : Bool → PT) : Nat → Addr → List Value → Int → PT
  | 0, _, _, _ => bad
  | k + 1, b_3, t_7, t_8 => (head_Less.s20 Z Q (head_Less.l17 Z Q k) b_3 t_7 t_8)
def head_Less.j24 (Z : List PanicEntry → PT) (Q : Bool → PT) (k : Nat) : Fr → PT := (fun ρ => atA (ρ 3) fun b_3 => atN (ρ 7) fun t_7 => atI .i64 (ρ 8) fun t_8 => (head_Less.l17 Z Q k b_3 t_7 t_8))
def head_Less.j25 (Z : List PanicEntry → PT) (Q : Bool → PT) : Fr → PT := (fun ρ => atA (ρ 3) fun b_3 => atN (ρ 7) fun t_7 => atI .i64 (ρ 8) fun t_8 => (exK fun k => head_Less.l17 Z Q k b_3 t_7 t_8))
theorem head_Less.o26 (Z : List PanicEntry → PT) (Q : Bool → PT) : Ok Tryd.prog Tryd.f22.ntmps Z head_Less.c13 (head_Less.q19 Z Q) (head_Less.j25 Z Q) := by
  rw [head_Less.q16]
  refine Ok.imp (ok_loop (J := head_Less.j24 Z Q) ?_ ?_) ?_
  · intro ρ w h
    obtain ⟨b_3, e3, h⟩ := atA_e h
    obtain ⟨t_7, e7, h⟩ := atN_e h
    obtain ⟨t_8, e8, h⟩ := atI_e h
    exact h
  · intro k
    refine Ok.imp (head_Less.s20_ok Z Q (head_Less.l17 Z Q k)) fun ρ w h => ?_
    obtain ⟨b_3, e3, h⟩ := atA_e h
    obtain ⟨t_7, e7, h⟩ := atN_e h
    obtain ⟨t_8, e8, h⟩ := atI_e h
    show (head_Less.j23 Z Q (head_Less.l17 Z Q k)) ρ w
    simp only [head_Less.j23]
    rw [e3]
    rw [e7]
    rw [e8]
    exact h
  · intro ρ w h
    obtain ⟨b_3, e3, h⟩ := atA_e h
    obtain ⟨t_7, e7, h⟩ := atN_e h
    obtain ⟨t_8, e8, h⟩ := atI_e h
    obtain ⟨k, h⟩ := h
    refine ⟨k, ?_⟩
    show (atA (ρ 3) fun b_3 => atN (ρ 7) fun t_7 => atI .i64 (ρ 8) fun t_8 => (head_Less.l17 Z Q k b_3 t_7 t_8)) w
    rw [e3]
    rw [e7]
    rw [e8]
    exact h
theorem head_Less.o27 (Z : List PanicEntry → PT) (Q : Bool → PT) : Ok Tryd.prog Tryd.f22.ntmps Z head_Less.c11 (head_Less.q18 Z Q) (head_Less.j25 Z Q) := by
  rw [head_Less.q14]; exact ok_block (head_Less.o26 Z Q)
def head_Less.s28 (Z : List PanicEntry → PT) (Q : Bool → PT) (a_2 : Addr) (b_3 : Addr) : PT :=
  (ldN 13 a_2 fun v13 => (exK fun k => head_Less.l17 Z Q k b_3 v13 0))
theorem head_Less.s28_eq (Z : List PanicEntry → PT) (Q : Bool → PT) (ρ : Fr) (a_2 : Addr) (b_3 : Addr) : (comp Tryd.prog Z head_Less.c10 (thenK (head_Less.j25 Z Q) (head_Less.q18 Z Q))) (puts ρ [(2, (Value.pointer (some a_2))), (3, (Value.pointer (some b_3)))]) = head_Less.s28 Z Q a_2 b_3 := by kernel_rfl
def head_Less.j29 (Z : List PanicEntry → PT) (Q : Bool → PT) : Fr → PT := (fun ρ => atA (ρ 2) fun a_2 => atA (ρ 3) fun b_3 => (head_Less.s28 Z Q a_2 b_3))
theorem head_Less.s28_ok (Z : List PanicEntry → PT) (Q : Bool → PT) : Ok Tryd.prog Tryd.f22.ntmps Z head_Less.c4 (head_Less.q18 Z Q) (head_Less.j29 Z Q) := by
  intro E he ρ w a hr h
  rw [head_Less.q12] at he ⊢
  obtain ⟨a_2, e2, h⟩ := atA_e h
  obtain ⟨b_3, e3, h⟩ := atA_e h
  exact ok_at [(2, (Value.pointer (some a_2))), (3, (Value.pointer (some b_3)))] (ok_seq (okC head_Less.c10 _ (by kernel_rfl)) (head_Less.o27 Z Q)) (puts_cons e2 (puts_cons e3 (fun p hp => puts_nil hp))) (head_Less.s28_eq Z Q ρ a_2 b_3) he hr h
theorem head_Less.o30 (Z : List PanicEntry → PT) (Q : Bool → PT) : Ok Tryd.prog Tryd.f22.ntmps Z head_Less.c2 (head_Less.q8 Z Q) (head_Less.j29 Z Q) := by
  rw [head_Less.q6]; exact ok_seq (head_Less.s28_ok Z Q) (head_Less.s7_ok Z Q)
def head_Less.s31 (Z : List PanicEntry → PT) (Q : Bool → PT) (a_0 : List Value) (b_1 : List Value) : PT :=
  (newC 26 a_0 fun a14 => (newC 26 b_1 fun b15 => (head_Less.s28 Z Q a14 b15)))
theorem head_Less.s31_eq (Z : List PanicEntry → PT) (Q : Bool → PT) (ρ : Fr) (a_0 : List Value) (b_1 : List Value) : (comp Tryd.prog Z head_Less.c1 (thenK (head_Less.j29 Z Q) (head_Less.q8 Z Q))) (puts ρ [(0, (Value.agg ⟨a_0⟩)), (1, (Value.agg ⟨b_1⟩))]) = head_Less.s31 Z Q a_0 b_1 := by kernel_rfl
def head_Less.j32 (Z : List PanicEntry → PT) (Q : Bool → PT) : Fr → PT := (fun ρ => atN (ρ 0) fun a_0 => atN (ρ 1) fun b_1 => (head_Less.s31 Z Q a_0 b_1))
theorem head_Less.s31_ok (Z : List PanicEntry → PT) (Q : Bool → PT) : Ok Tryd.prog Tryd.f22.ntmps Z head_Less.body (head_Less.q8 Z Q) (head_Less.j32 Z Q) := by
  intro E he ρ w a hr h
  rw [head_Less.q3] at he ⊢
  obtain ⟨a_0, e0, h⟩ := atN_e h
  obtain ⟨b_1, e1, h⟩ := atN_e h
  exact ok_at [(0, (Value.agg ⟨a_0⟩)), (1, (Value.agg ⟨b_1⟩))] (ok_seq (okC head_Less.c1 _ (by kernel_rfl)) (head_Less.o30 Z Q)) (puts_cons e0 (puts_cons e1 (fun p hp => puts_nil hp))) (head_Less.s31_eq Z Q ρ a_0 b_1) he hr h
def head_Less.F (Z : List PanicEntry → PT) (Q : Bool → PT) (a_0 : List Value) (b_1 : List Value) : PT :=
  (head_Less.s31 Z Q a_0 b_1)
theorem head_Less.vc (Z : List PanicEntry → PT) (Q : Bool → PT) (a_0 : List Value) (b_1 : List Value) (w : World) (h : head_Less.F Z Q a_0 b_1 w) : Calls Tryd.prog 22 ⟨[(Value.agg ⟨a_0⟩), (Value.agg ⟨b_1⟩)]⟩ w fun e w' => (∃ (r0 : Bool), e = .returned (.bool r0) ∧ Q r0 w') ∨ ∃ c, e = .panicked c ∧ Z c w' := by
  refine (calls_of_ok (args := [(Value.agg ⟨a_0⟩), (Value.agg ⟨b_1⟩)]) (w := w) (rs := [.tmp 4]) (fn := Tryd.f22) (c := head_Less.body) Tryd.func22 (by kernel_rfl) (by kernel_rfl) (Nat.le_of_ble_eq_true (by kernel_rfl)) (head_Less.s31_ok Z Q) (h)).mono fun e w' hR => ?_
  cases e with
  | returned v =>
    obtain ⟨va, rfl, hR⟩ := atB_e hR
    exact .inl ⟨va, rfl, hR⟩
  | panicked c => exact .inr ⟨c, rfl, hR⟩
  | outgrown => exact hR.elim
theorem head_Less.vc0 (Q : Bool → PT) (a_0 : List Value) (b_1 : List Value) (w : World) (h : head_Less.F Z0 Q a_0 b_1 w) : Calls Tryd.prog 22 ⟨[(Value.agg ⟨a_0⟩), (Value.agg ⟨b_1⟩)]⟩ w fun e w' => (∃ (r0 : Bool), e = .returned (.bool r0) ∧ Q r0 w') :=
  (head_Less.vc Z0 Q a_0 b_1 w h).mono fun _ _ hR => hR.elim id fun ⟨_, _, hz⟩ => hz.elim
theorem head_Less.cal {Z : List PanicEntry → PT} {Q : Bool → PT} {a_0 : List Value} {b_1 : List Value} {w : World} (h : head_Less.F Z Q a_0 b_1 w) : Go.Proofs.YtchhffabpgebmaaDoor.cal Tryd.prog Z 22 [(Value.agg ⟨a_0⟩), (Value.agg ⟨b_1⟩)] (isB fun r0 => Q r0) w := by
  refine (head_Less.vc Z Q a_0 b_1 w h).mono fun e w' hR => ?_
  rcases hR with ⟨r0, rfl, h⟩ | ⟨c, rfl, h⟩
  · show (isB fun r0 => Q r0) (.bool r0) w'
    exact ⟨_, rfl, h⟩
  · exact h

/-! ### milepost/milepostref01.Less: function 23 -/
noncomputable def ref01_Less.body : Code := bodyC Tryd.f23
noncomputable def ref01_Less.c1 : Code := sq1 ref01_Less.body
noncomputable def ref01_Less.c2 : Code := sq2 ref01_Less.body
theorem ref01_Less.q3 : ref01_Less.body = .seq ref01_Less.c1 ref01_Less.c2 := by kernel_rfl
noncomputable def ref01_Less.c4 : Code := sq1 ref01_Less.c2
noncomputable def ref01_Less.c5 : Code := sq2 ref01_Less.c2
theorem ref01_Less.q6 : ref01_Less.c2 = .seq ref01_Less.c4 ref01_Less.c5 := by kernel_rfl
def ref01_Less.s7 (Z : List PanicEntry → PT) (Q : Bool → PT)  : PT :=
  (Q false)
def ref01_Less.q8 (Z : List PanicEntry → PT) (Q : Bool → PT) : QF := bodyQ Tryd.prog [.tmp 4] (fun v => atB v fun va => Q va)
theorem ref01_Less.s7_eq (Z : List PanicEntry → PT) (Q : Bool → PT) (ρ : Fr)  : comp Tryd.prog Z ref01_Less.c5 (ref01_Less.q8 Z Q) (puts ρ []) = ref01_Less.s7 Z Q  := by kernel_rfl
def ref01_Less.j9 (Z : List PanicEntry → PT) (Q : Bool → PT) : Fr → PT := (fun ρ => (ref01_Less.s7 Z Q ))
theorem ref01_Less.s7_ok (Z : List PanicEntry → PT) (Q : Bool → PT) : Ok Tryd.prog Tryd.f23.ntmps Z ref01_Less.c5 (ref01_Less.q8 Z Q) (ref01_Less.j9 Z Q) := by
  intro E he ρ w a hr h
  exact ok_at [] (okC ref01_Less.c5 (ref01_Less.q8 Z Q) (by kernel_rfl)) (fun p hp => puts_nil hp) (ref01_Less.s7_eq Z Q ρ ) he hr h
noncomputable def ref01_Less.c10 : Code := sq1 ref01_Less.c4
noncomputable def ref01_Less.c11 : Code := sq2 ref01_Less.c4
theorem ref01_Less.q12 : ref01_Less.c4 = .seq ref01_Less.c10 ref01_Less.c11 := by kernel_rfl
noncomputable def ref01_Less.c13 : Code := blk ref01_Less.c11
theorem ref01_Less.q14 : ref01_Less.c11 = .block 0 ref01_Less.c13 := by kernel_rfl
noncomputable def ref01_Less.c15 : Code := lop ref01_Less.c13
theorem ref01_Less.q16 : ref01_Less.c13 = .loop ref01_Less.c15 := by kernel_rfl
def ref01_Less.q18 (Z : List PanicEntry → PT) (Q : Bool → PT) : QF := thenK (ref01_Less.j9 Z Q) (ref01_Less.q8 Z Q)
def ref01_Less.q19 (Z : List PanicEntry → PT) (Q : Bool → PT) : QF := inBl 0 (ref01_Less.q18 Z Q)
def ref01_Less.s20 (Z : List PanicEntry → PT) (Q : Bool → PT) (X1 : Addr → Addr → Int → PT) (a_2 : Addr) (b_3 : Addr) (i_5 : Int) : PT :=
  (pif (decide (i_5 < 104)) (drawn fun S15 => (hN S15 13 a_2 fun v16 => (hN S15 13 b_3 fun v17 => (cal Tryd.prog Z 21 [(Value.agg ⟨v16⟩), (Value.int .i64 i_5)] (isB fun v18 => (sAnd S15 (cal Tryd.prog Z 21 [(Value.agg ⟨v17⟩), (Value.int .i64 i_5)] (isB fun v19 => (sAnd S15 (pif (!(v18 == v19)) (ldN 13 b_3 fun v20 => (cal Tryd.prog Z 21 [(Value.agg ⟨v20⟩), (Value.int .i64 i_5)] (isB fun v21 => (Q v21)))) (X1 a_2 b_3 (IntKind.wrap .i64 (i_5 + 1))))))))))))) (ref01_Less.s7 Z Q ))
def ref01_Less.j21 (Z : List PanicEntry → PT) (Q : Bool → PT) (X1 : Addr → Addr → Int → PT) : Fr → PT := (fun ρ => atA (ρ 2) fun a_2 => atA (ρ 3) fun b_3 => atI .i64 (ρ 5) fun i_5 => (X1 a_2 b_3 i_5))
def ref01_Less.q22 (Z : List PanicEntry → PT) (Q : Bool → PT) (X1 : Addr → Addr → Int → PT) : QF := thenK (ref01_Less.j21 Z Q X1) (ref01_Less.q19 Z Q)
theorem ref01_Less.s20_eq (Z : List PanicEntry → PT) (Q : Bool → PT) (X1 : Addr → Addr → Int → PT) (ρ : Fr) (a_2 : Addr) (b_3 : Addr) (i_5 : Int) : comp Tryd.prog Z ref01_Less.c15 (ref01_Less.q22 Z Q X1) (puts ρ [(2, (Value.pointer (some a_2))), (3, (Value.pointer (some b_3))), (5, (Value.int .i64 i_5))]) = ref01_Less.s20 Z Q X1 a_2 b_3 i_5 := by kernel_rfl
def ref01_Less.j23 (Z : List PanicEntry → PT) (Q : Bool → PT) (X1 : Addr → Addr → Int → PT) : Fr → PT := (fun ρ => atA (ρ 2) fun a_2 => atA (ρ 3) fun b_3 => atI .i64 (ρ 5) fun i_5 => (ref01_Less.s20 Z Q X1 a_2 b_3 i_5))
theorem ref01_Less.s20_ok (Z : List PanicEntry → PT) (Q : Bool → PT) (X1 : Addr → Addr → Int → PT) : Ok Tryd.prog Tryd.f23.ntmps Z ref01_Less.c15 (ref01_Less.q22 Z Q X1) (ref01_Less.j23 Z Q X1) := by
  intro E he ρ w a hr h
  obtain ⟨a_2, e2, h⟩ := atA_e h
  obtain ⟨b_3, e3, h⟩ := atA_e h
  obtain ⟨i_5, e5, h⟩ := atI_e h
  exact ok_at [(2, (Value.pointer (some a_2))), (3, (Value.pointer (some b_3))), (5, (Value.int .i64 i_5))] (okC ref01_Less.c15 (ref01_Less.q22 Z Q X1) (by kernel_rfl)) (puts_cons e2 (puts_cons e3 (puts_cons e5 (fun p hp => puts_nil hp)))) (ref01_Less.s20_eq Z Q X1 ρ a_2 b_3 i_5) he hr h
def ref01_Less.l17 (Z : List PanicEntry → PT) (Q : Bool → PT) : Nat → Addr → Addr → Int → PT
  | 0, _, _, _ => bad
  | k + 1, a_2, b_3, i_5 => (ref01_Less.s20 Z Q (ref01_Less.l17 Z Q k) a_2 b_3 i_5)
def ref01_Less.j24 (Z : List PanicEntry → PT) (Q : Bool → PT) (k : Nat) : Fr → PT := (fun ρ => atA (ρ 2) fun a_2 => atA (ρ 3) fun b_3 => atI .i64 (ρ 5) fun i_5 => (ref01_Less.l17 Z Q k a_2 b_3 i_5))
def ref01_Less.j25 (Z : List PanicEntry → PT) (Q : Bool → PT) : Fr → PT := (fun ρ => atA (ρ 2) fun a_2 => atA (ρ 3) fun b_3 => atI .i64 (ρ 5) fun i_5 => (exK fun k => ref01_Less.l17 Z Q k a_2 b_3 i_5))
theorem ref01_Less.o26 (Z : List PanicEntry → PT) (Q : Bool → PT) : Ok Tryd.prog Tryd.f23.ntmps Z ref01_Less.c13 (ref01_Less.q19 Z Q) (ref01_Less.j25 Z Q) := by
  rw [ref01_Less.q16]
  refine Ok.imp (ok_loop (J := ref01_Less.j24 Z Q) ?_ ?_) ?_
  · intro ρ w h
    obtain ⟨a_2, e2, h⟩ := atA_e h
    obtain ⟨b_3, e3, h⟩ := atA_e h
    obtain ⟨i_5, e5, h⟩ := atI_e h
    exact h
  · intro k
    refine Ok.imp (ref01_Less.s20_ok Z Q (ref01_Less.l17 Z Q k)) fun ρ w h => ?_
    obtain ⟨a_2, e2, h⟩ := atA_e h
    obtain ⟨b_3, e3, h⟩ := atA_e h
    obtain ⟨i_5, e5, h⟩ := atI_e h
    show (ref01_Less.j23 Z Q (ref01_Less.l17 Z Q k)) ρ w
    simp only [ref01_Less.j23]
    rw [e2]
    rw [e3]
    rw [e5]
    exact h
  · intro ρ w h
    obtain ⟨a_2, e2, h⟩ := atA_e h
    obtain ⟨b_3, e3, h⟩ := atA_e h
    obtain ⟨i_5, e5, h⟩ := atI_e h
    obtain ⟨k, h⟩ := h
    refine ⟨k, ?_⟩
    show (atA (ρ 2) fun a_2 => atA (ρ 3) fun b_3 => atI .i64 (ρ 5) fun i_5 => (ref01_Less.l17 Z Q k a_2 b_3 i_5)) w
    rw [e2]
    rw [e3]
    rw [e5]
    exact h
theorem ref01_Less.o27 (Z : List PanicEntry → PT) (Q : Bool → PT) : Ok Tryd.prog Tryd.f23.ntmps Z ref01_Less.c11 (ref01_Less.q18 Z Q) (ref01_Less.j25 Z Q) := by
  rw [ref01_Less.q14]; exact ok_block (ref01_Less.o26 Z Q)
def ref01_Less.s28 (Z : List PanicEntry → PT) (Q : Bool → PT) (a_2 : Addr) (b_3 : Addr) : PT :=
  (exK fun k => ref01_Less.l17 Z Q k a_2 b_3 0)
theorem ref01_Less.s28_eq (Z : List PanicEntry → PT) (Q : Bool → PT) (ρ : Fr) (a_2 : Addr) (b_3 : Addr) : (comp Tryd.prog Z ref01_Less.c10 (thenK (ref01_Less.j25 Z Q) (ref01_Less.q18 Z Q))) (puts ρ [(2, (Value.pointer (some a_2))), (3, (Value.pointer (some b_3)))]) = ref01_Less.s28 Z Q a_2 b_3 := by kernel_rfl
def ref01_Less.j29 (Z : List PanicEntry → PT) (Q : Bool → PT) : Fr → PT := (fun ρ => atA (ρ 2) fun a_2 => atA (ρ 3) fun b_3 => (ref01_Less.s28 Z Q a_2 b_3))
theorem ref01_Less.s28_ok (Z : List PanicEntry → PT) (Q : Bool → PT) : Ok Tryd.prog Tryd.f23.ntmps Z ref01_Less.c4 (ref01_Less.q18 Z Q) (ref01_Less.j29 Z Q) := by
  intro E he ρ w a hr h
  rw [ref01_Less.q12] at he ⊢
  obtain ⟨a_2, e2, h⟩ := atA_e h
  obtain ⟨b_3, e3, h⟩ := atA_e h
  exact ok_at [(2, (Value.pointer (some a_2))), (3, (Value.pointer (some b_3)))] (ok_seq (okC ref01_Less.c10 _ (by kernel_rfl)) (ref01_Less.o27 Z Q)) (puts_cons e2 (puts_cons e3 (fun p hp => puts_nil hp))) (ref01_Less.s28_eq Z Q ρ a_2 b_3) he hr h
theorem ref01_Less.o30 (Z : List PanicEntry → PT) (Q : Bool → PT) : Ok Tryd.prog Tryd.f23.ntmps Z ref01_Less.c2 (ref01_Less.q8 Z Q) (ref01_Less.j29 Z Q) := by
  rw [ref01_Less.q6]; exact ok_seq (ref01_Less.s28_ok Z Q) (ref01_Less.s7_ok Z Q)
def ref01_Less.s31 (Z : List PanicEntry → PT) (Q : Bool → PT) (a_0 : List Value) (b_1 : List Value) : PT :=
  (newC 26 a_0 fun a22 => (newC 26 b_1 fun b23 => (ref01_Less.s28 Z Q a22 b23)))
theorem ref01_Less.s31_eq (Z : List PanicEntry → PT) (Q : Bool → PT) (ρ : Fr) (a_0 : List Value) (b_1 : List Value) : (comp Tryd.prog Z ref01_Less.c1 (thenK (ref01_Less.j29 Z Q) (ref01_Less.q8 Z Q))) (puts ρ [(0, (Value.agg ⟨a_0⟩)), (1, (Value.agg ⟨b_1⟩))]) = ref01_Less.s31 Z Q a_0 b_1 := by kernel_rfl
def ref01_Less.j32 (Z : List PanicEntry → PT) (Q : Bool → PT) : Fr → PT := (fun ρ => atN (ρ 0) fun a_0 => atN (ρ 1) fun b_1 => (ref01_Less.s31 Z Q a_0 b_1))
theorem ref01_Less.s31_ok (Z : List PanicEntry → PT) (Q : Bool → PT) : Ok Tryd.prog Tryd.f23.ntmps Z ref01_Less.body (ref01_Less.q8 Z Q) (ref01_Less.j32 Z Q) := by
  intro E he ρ w a hr h
  rw [ref01_Less.q3] at he ⊢
  obtain ⟨a_0, e0, h⟩ := atN_e h
  obtain ⟨b_1, e1, h⟩ := atN_e h
  exact ok_at [(0, (Value.agg ⟨a_0⟩)), (1, (Value.agg ⟨b_1⟩))] (ok_seq (okC ref01_Less.c1 _ (by kernel_rfl)) (ref01_Less.o30 Z Q)) (puts_cons e0 (puts_cons e1 (fun p hp => puts_nil hp))) (ref01_Less.s31_eq Z Q ρ a_0 b_1) he hr h
def ref01_Less.F (Z : List PanicEntry → PT) (Q : Bool → PT) (a_0 : List Value) (b_1 : List Value) : PT :=
  (ref01_Less.s31 Z Q a_0 b_1)
theorem ref01_Less.vc (Z : List PanicEntry → PT) (Q : Bool → PT) (a_0 : List Value) (b_1 : List Value) (w : World) (h : ref01_Less.F Z Q a_0 b_1 w) : Calls Tryd.prog 23 ⟨[(Value.agg ⟨a_0⟩), (Value.agg ⟨b_1⟩)]⟩ w fun e w' => (∃ (r0 : Bool), e = .returned (.bool r0) ∧ Q r0 w') ∨ ∃ c, e = .panicked c ∧ Z c w' := by
  refine (calls_of_ok (args := [(Value.agg ⟨a_0⟩), (Value.agg ⟨b_1⟩)]) (w := w) (rs := [.tmp 4]) (fn := Tryd.f23) (c := ref01_Less.body) Tryd.func23 (by kernel_rfl) (by kernel_rfl) (Nat.le_of_ble_eq_true (by kernel_rfl)) (ref01_Less.s31_ok Z Q) (h)).mono fun e w' hR => ?_
  cases e with
  | returned v =>
    obtain ⟨va, rfl, hR⟩ := atB_e hR
    exact .inl ⟨va, rfl, hR⟩
  | panicked c => exact .inr ⟨c, rfl, hR⟩
  | outgrown => exact hR.elim
theorem ref01_Less.vc0 (Q : Bool → PT) (a_0 : List Value) (b_1 : List Value) (w : World) (h : ref01_Less.F Z0 Q a_0 b_1 w) : Calls Tryd.prog 23 ⟨[(Value.agg ⟨a_0⟩), (Value.agg ⟨b_1⟩)]⟩ w fun e w' => (∃ (r0 : Bool), e = .returned (.bool r0) ∧ Q r0 w') :=
  (ref01_Less.vc Z0 Q a_0 b_1 w h).mono fun _ _ hR => hR.elim id fun ⟨_, _, hz⟩ => hz.elim
theorem ref01_Less.cal {Z : List PanicEntry → PT} {Q : Bool → PT} {a_0 : List Value} {b_1 : List Value} {w : World} (h : ref01_Less.F Z Q a_0 b_1 w) : Go.Proofs.YtchhffabpgebmaaDoor.cal Tryd.prog Z 23 [(Value.agg ⟨a_0⟩), (Value.agg ⟨b_1⟩)] (isB fun r0 => Q r0) w := by
  refine (ref01_Less.vc Z Q a_0 b_1 w h).mono fun e w' hR => ?_
  rcases hR with ⟨r0, rfl, h⟩ | ⟨c, rfl, h⟩
  · show (isB fun r0 => Q r0) (.bool r0) w'
    exact ⟨_, rfl, h⟩
  · exact h

end Go.Proofs.YtchhffabpgebmaaDoor
