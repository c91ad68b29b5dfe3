/-
  The reading of the code of 14 functions, printed by gen.py off the translation; no condition.
-/
import Derived.Test.YthheldpjcndelaaWlFacts
namespace Go.Proofs.Ythheldpjcndelaa
open Go.RowKit
set_option linter.unusedVariables false
set_option maxRecDepth 100000

/-! ### milepost/hold.New: function 10 -/
noncomputable def hold_New.body : Code := bodyC Try.f10
def hold_New.F (Z : List PanicEntry → PT) (Q : Option Addr → PT) (inc_0 : Int) : PT :=
  (newC 49 [(Value.int .i64 inc_0), (Value.int .i64 0), (Value.int .i64 0), (Value.int .i64 0), (Value.int .i64 0), (Value.int .i64 0), (Value.int .i64 0), (Value.int .i64 0), (Value.int .i64 0)] fun v1 => (Q (some v1)))
def hold_New.q1 (Z : List PanicEntry → PT) (Q : Option Addr → PT) : QF := bodyQ [.tmp 2] (fun v => atP v fun va => Q va)
theorem hold_New.eq (Z : List PanicEntry → PT) (Q : Option Addr → PT) (inc_0 : Int) : comp Try.prog Z hold_New.body (hold_New.q1 Z Q) (fr0 [(Value.int .i64 inc_0)]) = hold_New.F Z Q inc_0 := by kernel_rfl
theorem hold_New.vc (Z : List PanicEntry → PT) (Q : Option Addr → PT) (inc_0 : Int) (w : World) (h : hold_New.F Z Q inc_0 w) : Calls Try.prog 10 ⟨[(Value.int .i64 inc_0)]⟩ w fun e w' => (∃ (r0 : Option Addr), e = .returned (.pointer r0) ∧ Q r0 w') ∨ ∃ c, e = .panicked c ∧ Z c w' := by
  refine (calls_of_ok (args := [(Value.int .i64 inc_0)]) (w := w) (rs := [.tmp 2]) (fn := Try.f10) (c := hold_New.body) Try.func10 (by kernel_rfl) (by kernel_rfl) (Nat.le_of_ble_eq_true (by kernel_rfl)) (okC hold_New.body (hold_New.q1 Z Q) (by kernel_rfl)) (by rw [hold_New.eq]; exact h)).mono fun e w' hR => ?_
  cases e with
  | returned v =>
    obtain ⟨va, rfl, hR⟩ := atP_e hR
    exact .inl ⟨va, rfl, hR⟩
  | panicked c => exact .inr ⟨c, rfl, hR⟩
  | outgrown => exact hR.elim
theorem hold_New.vc0 (Q : Option Addr → PT) (inc_0 : Int) (w : World) (h : hold_New.F Z0 Q inc_0 w) : Calls Try.prog 10 ⟨[(Value.int .i64 inc_0)]⟩ w fun e w' => (∃ (r0 : Option Addr), e = .returned (.pointer r0) ∧ Q r0 w') :=
  (hold_New.vc Z0 Q inc_0 w h).mono fun _ _ hR => hR.elim id fun ⟨_, _, hz⟩ => hz.elim
theorem hold_New.cal {Z : List PanicEntry → PT} {Q : Option Addr → PT} {inc_0 : Int} {w : World} (h : hold_New.F Z Q inc_0 w) : Go.Proofs.Ythheldpjcndelaa.cal Try.prog Z 10 [(Value.int .i64 inc_0)] (isP fun r0 => Q r0) w := by
  refine (hold_New.vc Z Q inc_0 w h).mono fun e w' hR => ?_
  rcases hR with ⟨r0, rfl, h⟩ | ⟨c, rfl, h⟩
  · show (isP fun r0 => Q r0) (.pointer r0) w'
    exact ⟨_, rfl, h⟩
  · exact h

/-! ### (*milepost/hold.Hold).Use: function 13 -/
noncomputable def hold_Hold_Use.body : Code := bodyC Try.f13
def hold_Hold_Use.F (Z : List PanicEntry → PT) (Q : Int → PT) (h_0 : Option Addr) : PT :=
  (pif (isNone h_0) (Q 0) (nn h_0 fun v1 => (ldI .i64 (v1.add 7) fun v2 => (Q v2))))
def hold_Hold_Use.q1 (Z : List PanicEntry → PT) (Q : Int → PT) : QF := bodyQ [.tmp 2] (fun v => atI .i64 v fun va => Q va)
theorem hold_Hold_Use.eq (Z : List PanicEntry → PT) (Q : Int → PT) (h_0 : Option Addr) : comp Try.prog Z hold_Hold_Use.body (hold_Hold_Use.q1 Z Q) (fr0 [(Value.pointer h_0)]) = hold_Hold_Use.F Z Q h_0 := by kernel_rfl
theorem hold_Hold_Use.vc (Z : List PanicEntry → PT) (Q : Int → PT) (h_0 : Option Addr) (w : World) (h : hold_Hold_Use.F Z Q h_0 w) : Calls Try.prog 13 ⟨[(Value.pointer h_0)]⟩ w fun e w' => (∃ (r0 : Int), e = .returned (.int .i64 r0) ∧ Q r0 w') ∨ ∃ c, e = .panicked c ∧ Z c w' := by
  refine (calls_of_ok (args := [(Value.pointer h_0)]) (w := w) (rs := [.tmp 2]) (fn := Try.f13) (c := hold_Hold_Use.body) Try.func13 (by kernel_rfl) (by kernel_rfl) (Nat.le_of_ble_eq_true (by kernel_rfl)) (okC hold_Hold_Use.body (hold_Hold_Use.q1 Z Q) (by kernel_rfl)) (by rw [hold_Hold_Use.eq]; exact h)).mono fun e w' hR => ?_
  cases e with
  | returned v =>
    obtain ⟨va, rfl, hR⟩ := atI_e hR
    exact .inl ⟨va, rfl, hR⟩
  | panicked c => exact .inr ⟨c, rfl, hR⟩
  | outgrown => exact hR.elim
theorem hold_Hold_Use.vc0 (Q : Int → PT) (h_0 : Option Addr) (w : World) (h : hold_Hold_Use.F Z0 Q h_0 w) : Calls Try.prog 13 ⟨[(Value.pointer h_0)]⟩ w fun e w' => (∃ (r0 : Int), e = .returned (.int .i64 r0) ∧ Q r0 w') :=
  (hold_Hold_Use.vc Z0 Q h_0 w h).mono fun _ _ hR => hR.elim id fun ⟨_, _, hz⟩ => hz.elim
theorem hold_Hold_Use.cal {Z : List PanicEntry → PT} {Q : Int → PT} {h_0 : Option Addr} {w : World} (h : hold_Hold_Use.F Z Q h_0 w) : Go.Proofs.Ythheldpjcndelaa.cal Try.prog Z 13 [(Value.pointer h_0)] (isI .i64 fun r0 => Q r0) w := by
  refine (hold_Hold_Use.vc Z Q h_0 w h).mono fun e w' hR => ?_
  rcases hR with ⟨r0, rfl, h⟩ | ⟨c, rfl, h⟩
  · show (isI .i64 fun r0 => Q r0) (.int .i64 r0) w'
    exact ⟨_, rfl, h⟩
  · exact h

/-! ### (*milepost/hold.Hold).Live: function 12 -/
noncomputable def hold_Hold_Live.body : Code := bodyC Try.f12
def hold_Hold_Live.F (Z : List PanicEntry → PT) (Q : Bool → PT) (h_0 : Option Addr) (now_1 : Int) (lease_2 : Int) : PT :=
  (cal Try.prog Z 13 [(Value.pointer h_0)] (isI .i64 fun v1 => (pif (decide (v1 > 0)) (nn h_0 fun v2 => (ldI .i64 (v2.add 8) fun v3 => (Q (decide ((IntKind.wrap .i64 ((if (if 1099511627776 < now_1 then 1099511627776 else now_1) > 0 then (if 1099511627776 < now_1 then 1099511627776 else now_1) else 0) - v3)) < lease_2))))) (Q false))))
def hold_Hold_Live.q1 (Z : List PanicEntry → PT) (Q : Bool → PT) : QF := bodyQ [.tmp 6] (fun v => atB v fun va => Q va)
theorem hold_Hold_Live.eq (Z : List PanicEntry → PT) (Q : Bool → PT) (h_0 : Option Addr) (now_1 : Int) (lease_2 : Int) : comp Try.prog Z hold_Hold_Live.body (hold_Hold_Live.q1 Z Q) (fr0 [(Value.pointer h_0), (Value.int .i64 now_1), (Value.int .i64 lease_2)]) = hold_Hold_Live.F Z Q h_0 now_1 lease_2 := by kernel_rfl
theorem hold_Hold_Live.vc (Z : List PanicEntry → PT) (Q : Bool → PT) (h_0 : Option Addr) (now_1 : Int) (lease_2 : Int) (w : World) (h : hold_Hold_Live.F Z Q h_0 now_1 lease_2 w) : Calls Try.prog 12 ⟨[(Value.pointer h_0), (Value.int .i64 now_1), (Value.int .i64 lease_2)]⟩ w fun e w' => (∃ (r0 : Bool), e = .returned (.bool r0) ∧ Q r0 w') ∨ ∃ c, e = .panicked c ∧ Z c w' := by
  refine (calls_of_ok (args := [(Value.pointer h_0), (Value.int .i64 now_1), (Value.int .i64 lease_2)]) (w := w) (rs := [.tmp 6]) (fn := Try.f12) (c := hold_Hold_Live.body) Try.func12 (by kernel_rfl) (by kernel_rfl) (Nat.le_of_ble_eq_true (by kernel_rfl)) (okC hold_Hold_Live.body (hold_Hold_Live.q1 Z Q) (by kernel_rfl)) (by rw [hold_Hold_Live.eq]; exact h)).mono fun e w' hR => ?_
  cases e with
  | returned v =>
    obtain ⟨va, rfl, hR⟩ := atB_e hR
    exact .inl ⟨va, rfl, hR⟩
  | panicked c => exact .inr ⟨c, rfl, hR⟩
  | outgrown => exact hR.elim
theorem hold_Hold_Live.vc0 (Q : Bool → PT) (h_0 : Option Addr) (now_1 : Int) (lease_2 : Int) (w : World) (h : hold_Hold_Live.F Z0 Q h_0 now_1 lease_2 w) : Calls Try.prog 12 ⟨[(Value.pointer h_0), (Value.int .i64 now_1), (Value.int .i64 lease_2)]⟩ w fun e w' => (∃ (r0 : Bool), e = .returned (.bool r0) ∧ Q r0 w') :=
  (hold_Hold_Live.vc Z0 Q h_0 now_1 lease_2 w h).mono fun _ _ hR => hR.elim id fun ⟨_, _, hz⟩ => hz.elim
theorem hold_Hold_Live.cal {Z : List PanicEntry → PT} {Q : Bool → PT} {h_0 : Option Addr} {now_1 : Int} {lease_2 : Int} {w : World} (h : hold_Hold_Live.F Z Q h_0 now_1 lease_2 w) : Go.Proofs.Ythheldpjcndelaa.cal Try.prog Z 12 [(Value.pointer h_0), (Value.int .i64 now_1), (Value.int .i64 lease_2)] (isB fun r0 => Q r0) w := by
  refine (hold_Hold_Live.vc Z Q h_0 now_1 lease_2 w h).mono fun e w' hR => ?_
  rcases hR with ⟨r0, rfl, h⟩ | ⟨c, rfl, h⟩
  · show (isB fun r0 => Q r0) (.bool r0) w'
    exact ⟨_, rfl, h⟩
  · exact h

/-! ### (*milepost/hold.Hold).part: function 27 -/
noncomputable def hold_Hold_part.body : Code := bodyC Try.f27
def hold_Hold_part.F (Z : List PanicEntry → PT) (Q : Option Addr → PT) (h_0 : Option Addr) (epoch_1 : Int) : PT :=
  (pif (isNone h_0) (Q none) (pif (decide (epoch_1 < 1)) (Q none) (nn h_0 fun v1 => (ldI .i64 ((v1.add 1).add 0) fun v2 => (pif (epoch_1 == v2) (nn h_0 fun v3 => (Q (some (v3.add 1)))) (nn h_0 fun v4 => (ldI .i64 ((v4.add 4).add 0) fun v5 => (pif (epoch_1 == v5) (nn h_0 fun v6 => (Q (some (v6.add 4)))) (Q none)))))))))
def hold_Hold_part.q1 (Z : List PanicEntry → PT) (Q : Option Addr → PT) : QF := bodyQ [.tmp 4] (fun v => atP v fun va => Q va)
theorem hold_Hold_part.eq (Z : List PanicEntry → PT) (Q : Option Addr → PT) (h_0 : Option Addr) (epoch_1 : Int) : comp Try.prog Z hold_Hold_part.body (hold_Hold_part.q1 Z Q) (fr0 [(Value.pointer h_0), (Value.int .i64 epoch_1)]) = hold_Hold_part.F Z Q h_0 epoch_1 := by kernel_rfl
theorem hold_Hold_part.vc (Z : List PanicEntry → PT) (Q : Option Addr → PT) (h_0 : Option Addr) (epoch_1 : Int) (w : World) (h : hold_Hold_part.F Z Q h_0 epoch_1 w) : Calls Try.prog 27 ⟨[(Value.pointer h_0), (Value.int .i64 epoch_1)]⟩ w fun e w' => (∃ (r0 : Option Addr), e = .returned (.pointer r0) ∧ Q r0 w') ∨ ∃ c, e = .panicked c ∧ Z c w' := by
  refine (calls_of_ok (args := [(Value.pointer h_0), (Value.int .i64 epoch_1)]) (w := w) (rs := [.tmp 4]) (fn := Try.f27) (c := hold_Hold_part.body) Try.func27 (by kernel_rfl) (by kernel_rfl) (Nat.le_of_ble_eq_true (by kernel_rfl)) (okC hold_Hold_part.body (hold_Hold_part.q1 Z Q) (by kernel_rfl)) (by rw [hold_Hold_part.eq]; exact h)).mono fun e w' hR => ?_
  cases e with
  | returned v =>
    obtain ⟨va, rfl, hR⟩ := atP_e hR
    exact .inl ⟨va, rfl, hR⟩
  | panicked c => exact .inr ⟨c, rfl, hR⟩
  | outgrown => exact hR.elim
theorem hold_Hold_part.vc0 (Q : Option Addr → PT) (h_0 : Option Addr) (epoch_1 : Int) (w : World) (h : hold_Hold_part.F Z0 Q h_0 epoch_1 w) : Calls Try.prog 27 ⟨[(Value.pointer h_0), (Value.int .i64 epoch_1)]⟩ w fun e w' => (∃ (r0 : Option Addr), e = .returned (.pointer r0) ∧ Q r0 w') :=
  (hold_Hold_part.vc Z0 Q h_0 epoch_1 w h).mono fun _ _ hR => hR.elim id fun ⟨_, _, hz⟩ => hz.elim
theorem hold_Hold_part.cal {Z : List PanicEntry → PT} {Q : Option Addr → PT} {h_0 : Option Addr} {epoch_1 : Int} {w : World} (h : hold_Hold_part.F Z Q h_0 epoch_1 w) : Go.Proofs.Ythheldpjcndelaa.cal Try.prog Z 27 [(Value.pointer h_0), (Value.int .i64 epoch_1)] (isP fun r0 => Q r0) w := by
  refine (hold_Hold_part.vc Z Q h_0 epoch_1 w h).mono fun e w' hR => ?_
  rcases hR with ⟨r0, rfl, h⟩ | ⟨c, rfl, h⟩
  · show (isP fun r0 => Q r0) (.pointer r0) w'
    exact ⟨_, rfl, h⟩
  · exact h

/-! ### (*milepost/hold.Hold).settle: function 31 -/
noncomputable def hold_Hold_settle.body : Code := bodyC Try.f31
def hold_Hold_settle.F (Z : List PanicEntry → PT) (Q : PT) (h_0 : Option Addr) : PT :=
  (nn h_0 fun v1 => (ldI .i64 (v1.add 7) fun v2 => (cal Try.prog Z 27 [(Value.pointer h_0), (Value.int .i64 v2)] (isP fun v3 => (pif (isNone v3) (nn h_0 fun v4 => (st1 (v4.add 7) (Value.int .i64 0) (nn h_0 fun v5 => (st1 (v5.add 8) (Value.int .i64 0) Q)))) Q)))))
def hold_Hold_settle.q1 (Z : List PanicEntry → PT) (Q : PT) : QF := bodyQ [] (fun v => atU v Q)
theorem hold_Hold_settle.eq (Z : List PanicEntry → PT) (Q : PT) (h_0 : Option Addr) : comp Try.prog Z hold_Hold_settle.body (hold_Hold_settle.q1 Z Q) (fr0 [(Value.pointer h_0)]) = hold_Hold_settle.F Z Q h_0 := by kernel_rfl
theorem hold_Hold_settle.vc (Z : List PanicEntry → PT) (Q : PT) (h_0 : Option Addr) (w : World) (h : hold_Hold_settle.F Z Q h_0 w) : Calls Try.prog 31 ⟨[(Value.pointer h_0)]⟩ w fun e w' => (e = .returned (.tuple #[]) ∧ Q w') ∨ ∃ c, e = .panicked c ∧ Z c w' := by
  refine (calls_of_ok (args := [(Value.pointer h_0)]) (w := w) (rs := []) (fn := Try.f31) (c := hold_Hold_settle.body) Try.func31 (by kernel_rfl) (by kernel_rfl) (Nat.le_of_ble_eq_true (by kernel_rfl)) (okC hold_Hold_settle.body (hold_Hold_settle.q1 Z Q) (by kernel_rfl)) (by rw [hold_Hold_settle.eq]; exact h)).mono fun e w' hR => ?_
  cases e with
  | returned v =>
    obtain ⟨rfl, h⟩ := atU_e hR
    exact .inl ⟨rfl, h⟩
  | panicked c => exact .inr ⟨c, rfl, hR⟩
  | outgrown => exact hR.elim
theorem hold_Hold_settle.vc0 (Q : PT) (h_0 : Option Addr) (w : World) (h : hold_Hold_settle.F Z0 Q h_0 w) : Calls Try.prog 31 ⟨[(Value.pointer h_0)]⟩ w fun e w' => (e = .returned (.tuple #[]) ∧ Q w') :=
  (hold_Hold_settle.vc Z0 Q h_0 w h).mono fun _ _ hR => hR.elim id fun ⟨_, _, hz⟩ => hz.elim
theorem hold_Hold_settle.cal {Z : List PanicEntry → PT} {Q : PT} {h_0 : Option Addr} {w : World} (h : hold_Hold_settle.F Z Q h_0 w) : Go.Proofs.Ythheldpjcndelaa.cal Try.prog Z 31 [(Value.pointer h_0)] (isU Q) w := by
  refine (hold_Hold_settle.vc Z Q h_0 w h).mono fun e w' hR => ?_
  rcases hR with ⟨rfl, h⟩ | ⟨c, rfl, h⟩
  · show (isU Q) (.tuple #[]) w'
    exact ⟨rfl, h⟩
  · exact h

/-! ### (*milepost/hold.Hold).lift: function 25 -/
noncomputable def hold_Hold_lift.body : Code := bodyC Try.f25
def hold_Hold_lift.F (Z : List PanicEntry → PT) (Q : PT) (h_0 : Option Addr) (floor_1 : Int) : PT :=
  (nn h_0 fun v1 => (ldI .i64 ((v1.add 1).add 0) fun v2 => (pif (decide (floor_1 ≤ v2)) Q (nn h_0 fun v3 => (ldI .i64 ((v3.add 4).add 0) fun v4 => (pif (floor_1 == v4) (nn h_0 fun v5 => (ldN 3 (v5.add 4) fun v6 => (nn h_0 fun v7 => (stN 3 (v7.add 1) v6 (cal Try.prog Z 31 [(Value.pointer h_0)] (isU Q)))))) (nn h_0 fun v8 => (ldI .i64 ((v8.add 4).add 0) fun v9 => (pif (decide (floor_1 > v9)) (nn h_0 fun v10 => (stN 3 (v10.add 1) [(Value.int .i64 floor_1), (Value.int .i64 0), (Value.int .i64 0)] (nn h_0 fun v11 => (ldN 3 (v11.add 1) fun v12 => (nn h_0 fun v13 => (stN 3 (v13.add 4) v12 (cal Try.prog Z 31 [(Value.pointer h_0)] (isU Q)))))))) (nn h_0 fun v14 => (stN 3 (v14.add 1) [(Value.int .i64 floor_1), (Value.int .i64 0), (Value.int .i64 0)] (cal Try.prog Z 31 [(Value.pointer h_0)] (isU Q)))))))))))))
def hold_Hold_lift.q1 (Z : List PanicEntry → PT) (Q : PT) : QF := bodyQ [] (fun v => atU v Q)
theorem hold_Hold_lift.eq (Z : List PanicEntry → PT) (Q : PT) (h_0 : Option Addr) (floor_1 : Int) : comp Try.prog Z hold_Hold_lift.body (hold_Hold_lift.q1 Z Q) (fr0 [(Value.pointer h_0), (Value.int .i64 floor_1)]) = hold_Hold_lift.F Z Q h_0 floor_1 := by kernel_rfl
theorem hold_Hold_lift.vc (Z : List PanicEntry → PT) (Q : PT) (h_0 : Option Addr) (floor_1 : Int) (w : World) (h : hold_Hold_lift.F Z Q h_0 floor_1 w) : Calls Try.prog 25 ⟨[(Value.pointer h_0), (Value.int .i64 floor_1)]⟩ w fun e w' => (e = .returned (.tuple #[]) ∧ Q w') ∨ ∃ c, e = .panicked c ∧ Z c w' := by
  refine (calls_of_ok (args := [(Value.pointer h_0), (Value.int .i64 floor_1)]) (w := w) (rs := []) (fn := Try.f25) (c := hold_Hold_lift.body) Try.func25 (by kernel_rfl) (by kernel_rfl) (Nat.le_of_ble_eq_true (by kernel_rfl)) (okC hold_Hold_lift.body (hold_Hold_lift.q1 Z Q) (by kernel_rfl)) (by rw [hold_Hold_lift.eq]; exact h)).mono fun e w' hR => ?_
  cases e with
  | returned v =>
    obtain ⟨rfl, h⟩ := atU_e hR
    exact .inl ⟨rfl, h⟩
  | panicked c => exact .inr ⟨c, rfl, hR⟩
  | outgrown => exact hR.elim
theorem hold_Hold_lift.vc0 (Q : PT) (h_0 : Option Addr) (floor_1 : Int) (w : World) (h : hold_Hold_lift.F Z0 Q h_0 floor_1 w) : Calls Try.prog 25 ⟨[(Value.pointer h_0), (Value.int .i64 floor_1)]⟩ w fun e w' => (e = .returned (.tuple #[]) ∧ Q w') :=
  (hold_Hold_lift.vc Z0 Q h_0 floor_1 w h).mono fun _ _ hR => hR.elim id fun ⟨_, _, hz⟩ => hz.elim
theorem hold_Hold_lift.cal {Z : List PanicEntry → PT} {Q : PT} {h_0 : Option Addr} {floor_1 : Int} {w : World} (h : hold_Hold_lift.F Z Q h_0 floor_1 w) : Go.Proofs.Ythheldpjcndelaa.cal Try.prog Z 25 [(Value.pointer h_0), (Value.int .i64 floor_1)] (isU Q) w := by
  refine (hold_Hold_lift.vc Z Q h_0 floor_1 w h).mono fun e w' hR => ?_
  rcases hR with ⟨rfl, h⟩ | ⟨c, rfl, h⟩
  · show (isU Q) (.tuple #[]) w'
    exact ⟨rfl, h⟩
  · exact h

/-! ### (*milepost/hold.Hold).reach: function 26 -/
noncomputable def hold_Hold_reach.body : Code := bodyC Try.f26
def hold_Hold_reach.F (Z : List PanicEntry → PT) (Q : PT) (h_0 : Option Addr) (epoch_1 : Int) : PT :=
  (nn h_0 fun v1 => (ldI .i64 ((v1.add 4).add 0) fun v2 => (pif (decide (epoch_1 > v2)) (nn h_0 fun v3 => (stN 3 (v3.add 4) [(Value.int .i64 epoch_1), (Value.int .i64 0), (Value.int .i64 0)] (cal Try.prog Z 31 [(Value.pointer h_0)] (isU Q)))) Q)))
def hold_Hold_reach.q1 (Z : List PanicEntry → PT) (Q : PT) : QF := bodyQ [] (fun v => atU v Q)
theorem hold_Hold_reach.eq (Z : List PanicEntry → PT) (Q : PT) (h_0 : Option Addr) (epoch_1 : Int) : comp Try.prog Z hold_Hold_reach.body (hold_Hold_reach.q1 Z Q) (fr0 [(Value.pointer h_0), (Value.int .i64 epoch_1)]) = hold_Hold_reach.F Z Q h_0 epoch_1 := by kernel_rfl
theorem hold_Hold_reach.vc (Z : List PanicEntry → PT) (Q : PT) (h_0 : Option Addr) (epoch_1 : Int) (w : World) (h : hold_Hold_reach.F Z Q h_0 epoch_1 w) : Calls Try.prog 26 ⟨[(Value.pointer h_0), (Value.int .i64 epoch_1)]⟩ w fun e w' => (e = .returned (.tuple #[]) ∧ Q w') ∨ ∃ c, e = .panicked c ∧ Z c w' := by
  refine (calls_of_ok (args := [(Value.pointer h_0), (Value.int .i64 epoch_1)]) (w := w) (rs := []) (fn := Try.f26) (c := hold_Hold_reach.body) Try.func26 (by kernel_rfl) (by kernel_rfl) (Nat.le_of_ble_eq_true (by kernel_rfl)) (okC hold_Hold_reach.body (hold_Hold_reach.q1 Z Q) (by kernel_rfl)) (by rw [hold_Hold_reach.eq]; exact h)).mono fun e w' hR => ?_
  cases e with
  | returned v =>
    obtain ⟨rfl, h⟩ := atU_e hR
    exact .inl ⟨rfl, h⟩
  | panicked c => exact .inr ⟨c, rfl, hR⟩
  | outgrown => exact hR.elim
theorem hold_Hold_reach.vc0 (Q : PT) (h_0 : Option Addr) (epoch_1 : Int) (w : World) (h : hold_Hold_reach.F Z0 Q h_0 epoch_1 w) : Calls Try.prog 26 ⟨[(Value.pointer h_0), (Value.int .i64 epoch_1)]⟩ w fun e w' => (e = .returned (.tuple #[]) ∧ Q w') :=
  (hold_Hold_reach.vc Z0 Q h_0 epoch_1 w h).mono fun _ _ hR => hR.elim id fun ⟨_, _, hz⟩ => hz.elim
theorem hold_Hold_reach.cal {Z : List PanicEntry → PT} {Q : PT} {h_0 : Option Addr} {epoch_1 : Int} {w : World} (h : hold_Hold_reach.F Z Q h_0 epoch_1 w) : Go.Proofs.Ythheldpjcndelaa.cal Try.prog Z 26 [(Value.pointer h_0), (Value.int .i64 epoch_1)] (isU Q) w := by
  refine (hold_Hold_reach.vc Z Q h_0 epoch_1 w h).mono fun e w' hR => ?_
  rcases hR with ⟨rfl, h⟩ | ⟨c, rfl, h⟩
  · show (isU Q) (.tuple #[]) w'
    exact ⟨rfl, h⟩
  · exact h

/-! ### (*milepost/hold.Hold).Item: function 15 -/
noncomputable def hold_Hold_Item.body : Code := bodyC Try.f15
def hold_Hold_Item.F (Z : List PanicEntry → PT) (Q : Int → PT) (h_0 : Option Addr) (floor_1 : Int) (epoch_2 : Int) (at_3 : Int) (of_4 : Int) : PT :=
  (pif (isNone h_0) (Q 0) (pif (decide (floor_1 < 0)) (Q 0) (pif (decide (epoch_2 < 1)) (Q 0) (pif (decide (at_3 < 0)) (Q 0) (pif (decide (of_4 ≤ at_3)) (Q 0) (cal Try.prog Z 25 [(Value.pointer h_0), (Value.int .i64 floor_1)] (isU (cal Try.prog Z 26 [(Value.pointer h_0), (Value.int .i64 epoch_2)] (isU (cal Try.prog Z 27 [(Value.pointer h_0), (Value.int .i64 epoch_2)] (isP fun v1 => (pif (isNone v1) (pif (isNone v1) (Q 0) (nn v1 fun v2 => (ldI .i64 (v2.add 1) fun v3 => (pif (decide (at_3 < v3)) (Q 2) (nn v1 fun v4 => (ldI .i64 (v4.add 1) fun v5 => (nn v1 fun v6 => (st1 (v6.add 1) (Value.int .i64 (IntKind.wrap .i64 (v5 + 1))) (nn v1 fun v7 => (st1 (v7.add 2) (Value.int .i64 of_4) (Q 1))))))))))) (nn v1 fun v8 => (ldI .i64 (v8.add 1) fun v9 => (pif (decide (v9 > 0)) (nn v1 fun v10 => (ldI .i64 (v10.add 2) fun v11 => (pif (v11 != of_4) (pif (v11 != of_4) (Q 0) (nn v1 fun v12 => (ldI .i64 (v12.add 1) fun v13 => (pif (decide (at_3 < v13)) (Q 2) (nn v1 fun v14 => (ldI .i64 (v14.add 1) fun v15 => (nn v1 fun v16 => (st1 (v16.add 1) (Value.int .i64 (IntKind.wrap .i64 (v15 + 1))) (nn v1 fun v17 => (st1 (v17.add 2) (Value.int .i64 of_4) (Q 1))))))))))) (nn v1 fun v18 => (ldI .i64 (v18.add 1) fun v19 => (pif (decide (at_3 > v19)) (Q 0) (nn v1 fun v20 => (ldI .i64 (v20.add 1) fun v21 => (pif (decide (at_3 < v21)) (Q 2) (nn v1 fun v22 => (ldI .i64 (v22.add 1) fun v23 => (nn v1 fun v24 => (st1 (v24.add 1) (Value.int .i64 (IntKind.wrap .i64 (v23 + 1))) (nn v1 fun v25 => (st1 (v25.add 2) (Value.int .i64 of_4) (Q 1)))))))))))))))) (nn v1 fun v26 => (ldI .i64 (v26.add 1) fun v27 => (pif (decide (at_3 > v27)) (Q 0) (nn v1 fun v28 => (ldI .i64 (v28.add 1) fun v29 => (pif (decide (at_3 < v29)) (Q 2) (nn v1 fun v30 => (ldI .i64 (v30.add 1) fun v31 => (nn v1 fun v32 => (st1 (v32.add 1) (Value.int .i64 (IntKind.wrap .i64 (v31 + 1))) (nn v1 fun v33 => (st1 (v33.add 2) (Value.int .i64 of_4) (Q 1))))))))))))))))))))))))))))
def hold_Hold_Item.q1 (Z : List PanicEntry → PT) (Q : Int → PT) : QF := bodyQ [.tmp 10] (fun v => atI .i64 v fun va => Q va)
theorem hold_Hold_Item.eq (Z : List PanicEntry → PT) (Q : Int → PT) (h_0 : Option Addr) (floor_1 : Int) (epoch_2 : Int) (at_3 : Int) (of_4 : Int) : comp Try.prog Z hold_Hold_Item.body (hold_Hold_Item.q1 Z Q) (fr0 [(Value.pointer h_0), (Value.int .i64 floor_1), (Value.int .i64 epoch_2), (Value.int .i64 at_3), (Value.int .i64 of_4)]) = hold_Hold_Item.F Z Q h_0 floor_1 epoch_2 at_3 of_4 := by kernel_rfl
theorem hold_Hold_Item.vc (Z : List PanicEntry → PT) (Q : Int → PT) (h_0 : Option Addr) (floor_1 : Int) (epoch_2 : Int) (at_3 : Int) (of_4 : Int) (w : World) (h : hold_Hold_Item.F Z Q h_0 floor_1 epoch_2 at_3 of_4 w) : Calls Try.prog 15 ⟨[(Value.pointer h_0), (Value.int .i64 floor_1), (Value.int .i64 epoch_2), (Value.int .i64 at_3), (Value.int .i64 of_4)]⟩ w fun e w' => (∃ (r0 : Int), e = .returned (.int .i64 r0) ∧ Q r0 w') ∨ ∃ c, e = .panicked c ∧ Z c w' := by
  refine (calls_of_ok (args := [(Value.pointer h_0), (Value.int .i64 floor_1), (Value.int .i64 epoch_2), (Value.int .i64 at_3), (Value.int .i64 of_4)]) (w := w) (rs := [.tmp 10]) (fn := Try.f15) (c := hold_Hold_Item.body) Try.func15 (by kernel_rfl) (by kernel_rfl) (Nat.le_of_ble_eq_true (by kernel_rfl)) (okC hold_Hold_Item.body (hold_Hold_Item.q1 Z Q) (by kernel_rfl)) (by rw [hold_Hold_Item.eq]; exact h)).mono fun e w' hR => ?_
  cases e with
  | returned v =>
    obtain ⟨va, rfl, hR⟩ := atI_e hR
    exact .inl ⟨va, rfl, hR⟩
  | panicked c => exact .inr ⟨c, rfl, hR⟩
  | outgrown => exact hR.elim
theorem hold_Hold_Item.vc0 (Q : Int → PT) (h_0 : Option Addr) (floor_1 : Int) (epoch_2 : Int) (at_3 : Int) (of_4 : Int) (w : World) (h : hold_Hold_Item.F Z0 Q h_0 floor_1 epoch_2 at_3 of_4 w) : Calls Try.prog 15 ⟨[(Value.pointer h_0), (Value.int .i64 floor_1), (Value.int .i64 epoch_2), (Value.int .i64 at_3), (Value.int .i64 of_4)]⟩ w fun e w' => (∃ (r0 : Int), e = .returned (.int .i64 r0) ∧ Q r0 w') :=
  (hold_Hold_Item.vc Z0 Q h_0 floor_1 epoch_2 at_3 of_4 w h).mono fun _ _ hR => hR.elim id fun ⟨_, _, hz⟩ => hz.elim
theorem hold_Hold_Item.cal {Z : List PanicEntry → PT} {Q : Int → PT} {h_0 : Option Addr} {floor_1 : Int} {epoch_2 : Int} {at_3 : Int} {of_4 : Int} {w : World} (h : hold_Hold_Item.F Z Q h_0 floor_1 epoch_2 at_3 of_4 w) : Go.Proofs.Ythheldpjcndelaa.cal Try.prog Z 15 [(Value.pointer h_0), (Value.int .i64 floor_1), (Value.int .i64 epoch_2), (Value.int .i64 at_3), (Value.int .i64 of_4)] (isI .i64 fun r0 => Q r0) w := by
  refine (hold_Hold_Item.vc Z Q h_0 floor_1 epoch_2 at_3 of_4 w h).mono fun e w' hR => ?_
  rcases hR with ⟨r0, rfl, h⟩ | ⟨c, rfl, h⟩
  · show (isI .i64 fun r0 => Q r0) (.int .i64 r0) w'
    exact ⟨_, rfl, h⟩
  · exact h

/-! ### (*milepost/hold.Hold).Count: function 16 -/
noncomputable def hold_Hold_Count.body : Code := bodyC Try.f16
def hold_Hold_Count.F (Z : List PanicEntry → PT) (Q : Int → Int → PT) (h_0 : Option Addr) (epoch_1 : Int) : PT :=
  (cal Try.prog Z 27 [(Value.pointer h_0), (Value.int .i64 epoch_1)] (isP fun v1 => (pif (!(isNone v1)) (drew0 (nn v1 fun v2 => (ldI .i64 (v2.add 1) fun v3 => (nn v1 fun v4 => (ldI .i64 (v4.add 2) fun v5 => (Q v3 v5)))))) (Q 0 0))))
def hold_Hold_Count.q1 (Z : List PanicEntry → PT) (Q : Int → Int → PT) : QF := bodyQ [.tmp 4, .tmp 5] (fun v => at2 v fun x y => atI .i64 x fun xa => atI .i64 y fun ya => Q xa ya)
theorem hold_Hold_Count.eq (Z : List PanicEntry → PT) (Q : Int → Int → PT) (h_0 : Option Addr) (epoch_1 : Int) : comp Try.prog Z hold_Hold_Count.body (hold_Hold_Count.q1 Z Q) (fr0 [(Value.pointer h_0), (Value.int .i64 epoch_1)]) = hold_Hold_Count.F Z Q h_0 epoch_1 := by kernel_rfl
theorem hold_Hold_Count.vc (Z : List PanicEntry → PT) (Q : Int → Int → PT) (h_0 : Option Addr) (epoch_1 : Int) (w : World) (h : hold_Hold_Count.F Z Q h_0 epoch_1 w) : Calls Try.prog 16 ⟨[(Value.pointer h_0), (Value.int .i64 epoch_1)]⟩ w fun e w' => (∃ (r0 : Int) (r1 : Int), e = .returned (.tuple #[.int .i64 r0, .int .i64 r1]) ∧ Q r0 r1 w') ∨ ∃ c, e = .panicked c ∧ Z c w' := by
  refine (calls_of_ok (args := [(Value.pointer h_0), (Value.int .i64 epoch_1)]) (w := w) (rs := [.tmp 4, .tmp 5]) (fn := Try.f16) (c := hold_Hold_Count.body) Try.func16 (by kernel_rfl) (by kernel_rfl) (Nat.le_of_ble_eq_true (by kernel_rfl)) (okC hold_Hold_Count.body (hold_Hold_Count.q1 Z Q) (by kernel_rfl)) (by rw [hold_Hold_Count.eq]; exact h)).mono fun e w' hR => ?_
  cases e with
  | returned v =>
    obtain ⟨x, y, rfl, hR⟩ := at2_e hR
    obtain ⟨xa, rfl, hR⟩ := atI_e hR
    obtain ⟨ya, rfl, hR⟩ := atI_e hR
    exact .inl ⟨xa, ya, rfl, hR⟩
  | panicked c => exact .inr ⟨c, rfl, hR⟩
  | outgrown => exact hR.elim
theorem hold_Hold_Count.vc0 (Q : Int → Int → PT) (h_0 : Option Addr) (epoch_1 : Int) (w : World) (h : hold_Hold_Count.F Z0 Q h_0 epoch_1 w) : Calls Try.prog 16 ⟨[(Value.pointer h_0), (Value.int .i64 epoch_1)]⟩ w fun e w' => (∃ (r0 : Int) (r1 : Int), e = .returned (.tuple #[.int .i64 r0, .int .i64 r1]) ∧ Q r0 r1 w') :=
  (hold_Hold_Count.vc Z0 Q h_0 epoch_1 w h).mono fun _ _ hR => hR.elim id fun ⟨_, _, hz⟩ => hz.elim
theorem hold_Hold_Count.cal {Z : List PanicEntry → PT} {Q : Int → Int → PT} {h_0 : Option Addr} {epoch_1 : Int} {w : World} (h : hold_Hold_Count.F Z Q h_0 epoch_1 w) : Go.Proofs.Ythheldpjcndelaa.cal Try.prog Z 16 [(Value.pointer h_0), (Value.int .i64 epoch_1)] (isT2 fun x y => (isI .i64 fun r0 => (isI .i64 fun r1 => Q r0 r1) y) x) w := by
  refine (hold_Hold_Count.vc Z Q h_0 epoch_1 w h).mono fun e w' hR => ?_
  rcases hR with ⟨r0, r1, rfl, h⟩ | ⟨c, rfl, h⟩
  · show (isT2 fun x y => (isI .i64 fun r0 => (isI .i64 fun r1 => Q r0 r1) y) x) (.tuple #[.int .i64 r0, .int .i64 r1]) w'
    exact ⟨_, _, rfl, ⟨_, rfl, ⟨_, rfl, h⟩⟩⟩
  · exact h

/-! ### (*milepost/hold.Hold).Full: function 14 -/
noncomputable def hold_Hold_Full.body : Code := bodyC Try.f14
def hold_Hold_Full.F (Z : List PanicEntry → PT) (Q : Bool → PT) (h_0 : Option Addr) (epoch_1 : Int) : PT :=
  (cal Try.prog Z 16 [(Value.pointer h_0), (Value.int .i64 epoch_1)] (isT2 fun t1 t2 => (isI .i64 fun v3 => ((isI .i64 fun v4 => (pif (decide (v4 > 0)) (Q (v3 == v4)) (Q false))) t2)) t1))
def hold_Hold_Full.q1 (Z : List PanicEntry → PT) (Q : Bool → PT) : QF := bodyQ [.tmp 4] (fun v => atB v fun va => Q va)
theorem hold_Hold_Full.eq (Z : List PanicEntry → PT) (Q : Bool → PT) (h_0 : Option Addr) (epoch_1 : Int) : comp Try.prog Z hold_Hold_Full.body (hold_Hold_Full.q1 Z Q) (fr0 [(Value.pointer h_0), (Value.int .i64 epoch_1)]) = hold_Hold_Full.F Z Q h_0 epoch_1 := by kernel_rfl
theorem hold_Hold_Full.vc (Z : List PanicEntry → PT) (Q : Bool → PT) (h_0 : Option Addr) (epoch_1 : Int) (w : World) (h : hold_Hold_Full.F Z Q h_0 epoch_1 w) : Calls Try.prog 14 ⟨[(Value.pointer h_0), (Value.int .i64 epoch_1)]⟩ w fun e w' => (∃ (r0 : Bool), e = .returned (.bool r0) ∧ Q r0 w') ∨ ∃ c, e = .panicked c ∧ Z c w' := by
  refine (calls_of_ok (args := [(Value.pointer h_0), (Value.int .i64 epoch_1)]) (w := w) (rs := [.tmp 4]) (fn := Try.f14) (c := hold_Hold_Full.body) Try.func14 (by kernel_rfl) (by kernel_rfl) (Nat.le_of_ble_eq_true (by kernel_rfl)) (okC hold_Hold_Full.body (hold_Hold_Full.q1 Z Q) (by kernel_rfl)) (by rw [hold_Hold_Full.eq]; exact h)).mono fun e w' hR => ?_
  cases e with
  | returned v =>
    obtain ⟨va, rfl, hR⟩ := atB_e hR
    exact .inl ⟨va, rfl, hR⟩
  | panicked c => exact .inr ⟨c, rfl, hR⟩
  | outgrown => exact hR.elim
theorem hold_Hold_Full.vc0 (Q : Bool → PT) (h_0 : Option Addr) (epoch_1 : Int) (w : World) (h : hold_Hold_Full.F Z0 Q h_0 epoch_1 w) : Calls Try.prog 14 ⟨[(Value.pointer h_0), (Value.int .i64 epoch_1)]⟩ w fun e w' => (∃ (r0 : Bool), e = .returned (.bool r0) ∧ Q r0 w') :=
  (hold_Hold_Full.vc Z0 Q h_0 epoch_1 w h).mono fun _ _ hR => hR.elim id fun ⟨_, _, hz⟩ => hz.elim
theorem hold_Hold_Full.cal {Z : List PanicEntry → PT} {Q : Bool → PT} {h_0 : Option Addr} {epoch_1 : Int} {w : World} (h : hold_Hold_Full.F Z Q h_0 epoch_1 w) : Go.Proofs.Ythheldpjcndelaa.cal Try.prog Z 14 [(Value.pointer h_0), (Value.int .i64 epoch_1)] (isB fun r0 => Q r0) w := by
  refine (hold_Hold_Full.vc Z Q h_0 epoch_1 w h).mono fun e w' hR => ?_
  rcases hR with ⟨r0, rfl, h⟩ | ⟨c, rfl, h⟩
  · show (isB fun r0 => Q r0) (.bool r0) w'
    exact ⟨_, rfl, h⟩
  · exact h

/-! ### (*milepost/hold.Hold).Lead: function 17 -/
noncomputable def hold_Hold_Lead.body : Code := bodyC Try.f17
def hold_Hold_Lead.F (Z : List PanicEntry → PT) (Q : Bool → PT) (h_0 : Option Addr) (sent_1 : Int) (use_2 : Int) (floor_3 : Int) : PT :=
  (pif (isNone h_0) (Q false) (pif (decide (sent_1 < 0)) (Q false) (pif (decide (use_2 < 0)) (Q false) (pif (decide (floor_3 < 0)) (Q false) (cal Try.prog Z 25 [(Value.pointer h_0), (Value.int .i64 floor_3)] (isU (cal Try.prog Z 14 [(Value.pointer h_0), (Value.int .i64 use_2)] (isB fun v1 => (pif v1 (nn h_0 fun v2 => (ldI .i64 (v2.add 7) fun v3 => (pif (decide (use_2 ≥ v3)) (nn h_0 fun v4 => (ldI .i64 (v4.add 7) fun v5 => (pif (decide (use_2 > v5)) (nn h_0 fun v6 => (st1 (v6.add 8) (Value.int .i64 sent_1) (nn h_0 fun v7 => (st1 (v7.add 7) (Value.int .i64 use_2) (nn h_0 fun v8 => (ldI .i64 (v8.add 8) fun v9 => (nn h_0 fun v10 => (st1 (v10.add 8) (Value.int .i64 (if sent_1 > v9 then sent_1 else v9)) (pif (decide (use_2 > 0)) (nn h_0 fun v11 => (ldI .i64 (v11.add 7) fun v12 => (Q (v12 == use_2)))) (Q false)))))))))) (nn h_0 fun v13 => (st1 (v13.add 7) (Value.int .i64 use_2) (nn h_0 fun v14 => (ldI .i64 (v14.add 8) fun v15 => (nn h_0 fun v16 => (st1 (v16.add 8) (Value.int .i64 (if sent_1 > v15 then sent_1 else v15)) (pif (decide (use_2 > 0)) (nn h_0 fun v17 => (ldI .i64 (v17.add 7) fun v18 => (Q (v18 == use_2)))) (Q false))))))))))) (pif (decide (use_2 > 0)) (nn h_0 fun v19 => (ldI .i64 (v19.add 7) fun v20 => (Q (v20 == use_2)))) (Q false))))) (pif (decide (use_2 > 0)) (nn h_0 fun v21 => (ldI .i64 (v21.add 7) fun v22 => (Q (v22 == use_2)))) (Q false)))))))))))
def hold_Hold_Lead.q1 (Z : List PanicEntry → PT) (Q : Bool → PT) : QF := bodyQ [.tmp 8] (fun v => atB v fun va => Q va)
theorem hold_Hold_Lead.eq (Z : List PanicEntry → PT) (Q : Bool → PT) (h_0 : Option Addr) (sent_1 : Int) (use_2 : Int) (floor_3 : Int) : comp Try.prog Z hold_Hold_Lead.body (hold_Hold_Lead.q1 Z Q) (fr0 [(Value.pointer h_0), (Value.int .i64 sent_1), (Value.int .i64 use_2), (Value.int .i64 floor_3)]) = hold_Hold_Lead.F Z Q h_0 sent_1 use_2 floor_3 := by kernel_rfl
theorem hold_Hold_Lead.vc (Z : List PanicEntry → PT) (Q : Bool → PT) (h_0 : Option Addr) (sent_1 : Int) (use_2 : Int) (floor_3 : Int) (w : World) (h : hold_Hold_Lead.F Z Q h_0 sent_1 use_2 floor_3 w) : Calls Try.prog 17 ⟨[(Value.pointer h_0), (Value.int .i64 sent_1), (Value.int .i64 use_2), (Value.int .i64 floor_3)]⟩ w fun e w' => (∃ (r0 : Bool), e = .returned (.bool r0) ∧ Q r0 w') ∨ ∃ c, e = .panicked c ∧ Z c w' := by
  refine (calls_of_ok (args := [(Value.pointer h_0), (Value.int .i64 sent_1), (Value.int .i64 use_2), (Value.int .i64 floor_3)]) (w := w) (rs := [.tmp 8]) (fn := Try.f17) (c := hold_Hold_Lead.body) Try.func17 (by kernel_rfl) (by kernel_rfl) (Nat.le_of_ble_eq_true (by kernel_rfl)) (okC hold_Hold_Lead.body (hold_Hold_Lead.q1 Z Q) (by kernel_rfl)) (by rw [hold_Hold_Lead.eq]; exact h)).mono fun e w' hR => ?_
  cases e with
  | returned v =>
    obtain ⟨va, rfl, hR⟩ := atB_e hR
    exact .inl ⟨va, rfl, hR⟩
  | panicked c => exact .inr ⟨c, rfl, hR⟩
  | outgrown => exact hR.elim
theorem hold_Hold_Lead.vc0 (Q : Bool → PT) (h_0 : Option Addr) (sent_1 : Int) (use_2 : Int) (floor_3 : Int) (w : World) (h : hold_Hold_Lead.F Z0 Q h_0 sent_1 use_2 floor_3 w) : Calls Try.prog 17 ⟨[(Value.pointer h_0), (Value.int .i64 sent_1), (Value.int .i64 use_2), (Value.int .i64 floor_3)]⟩ w fun e w' => (∃ (r0 : Bool), e = .returned (.bool r0) ∧ Q r0 w') :=
  (hold_Hold_Lead.vc Z0 Q h_0 sent_1 use_2 floor_3 w h).mono fun _ _ hR => hR.elim id fun ⟨_, _, hz⟩ => hz.elim
theorem hold_Hold_Lead.cal {Z : List PanicEntry → PT} {Q : Bool → PT} {h_0 : Option Addr} {sent_1 : Int} {use_2 : Int} {floor_3 : Int} {w : World} (h : hold_Hold_Lead.F Z Q h_0 sent_1 use_2 floor_3 w) : Go.Proofs.Ythheldpjcndelaa.cal Try.prog Z 17 [(Value.pointer h_0), (Value.int .i64 sent_1), (Value.int .i64 use_2), (Value.int .i64 floor_3)] (isB fun r0 => Q r0) w := by
  refine (hold_Hold_Lead.vc Z Q h_0 sent_1 use_2 floor_3 w h).mono fun e w' hR => ?_
  rcases hR with ⟨r0, rfl, h⟩ | ⟨c, rfl, h⟩
  · show (isB fun r0 => Q r0) (.bool r0) w'
    exact ⟨_, rfl, h⟩
  · exact h

/-! ### (*milepost/hold.Hold).Floor: function 18 -/
noncomputable def hold_Hold_Floor.body : Code := bodyC Try.f18
def hold_Hold_Floor.F (Z : List PanicEntry → PT) (Q : Int → PT) (h_0 : Option Addr) : PT :=
  (pif (isNone h_0) (Q 0) (nn h_0 fun v1 => (ldI .i64 ((v1.add 1).add 0) fun v2 => (Q v2))))
def hold_Hold_Floor.q1 (Z : List PanicEntry → PT) (Q : Int → PT) : QF := bodyQ [.tmp 2] (fun v => atI .i64 v fun va => Q va)
theorem hold_Hold_Floor.eq (Z : List PanicEntry → PT) (Q : Int → PT) (h_0 : Option Addr) : comp Try.prog Z hold_Hold_Floor.body (hold_Hold_Floor.q1 Z Q) (fr0 [(Value.pointer h_0)]) = hold_Hold_Floor.F Z Q h_0 := by kernel_rfl
theorem hold_Hold_Floor.vc (Z : List PanicEntry → PT) (Q : Int → PT) (h_0 : Option Addr) (w : World) (h : hold_Hold_Floor.F Z Q h_0 w) : Calls Try.prog 18 ⟨[(Value.pointer h_0)]⟩ w fun e w' => (∃ (r0 : Int), e = .returned (.int .i64 r0) ∧ Q r0 w') ∨ ∃ c, e = .panicked c ∧ Z c w' := by
  refine (calls_of_ok (args := [(Value.pointer h_0)]) (w := w) (rs := [.tmp 2]) (fn := Try.f18) (c := hold_Hold_Floor.body) Try.func18 (by kernel_rfl) (by kernel_rfl) (Nat.le_of_ble_eq_true (by kernel_rfl)) (okC hold_Hold_Floor.body (hold_Hold_Floor.q1 Z Q) (by kernel_rfl)) (by rw [hold_Hold_Floor.eq]; exact h)).mono fun e w' hR => ?_
  cases e with
  | returned v =>
    obtain ⟨va, rfl, hR⟩ := atI_e hR
    exact .inl ⟨va, rfl, hR⟩
  | panicked c => exact .inr ⟨c, rfl, hR⟩
  | outgrown => exact hR.elim
theorem hold_Hold_Floor.vc0 (Q : Int → PT) (h_0 : Option Addr) (w : World) (h : hold_Hold_Floor.F Z0 Q h_0 w) : Calls Try.prog 18 ⟨[(Value.pointer h_0)]⟩ w fun e w' => (∃ (r0 : Int), e = .returned (.int .i64 r0) ∧ Q r0 w') :=
  (hold_Hold_Floor.vc Z0 Q h_0 w h).mono fun _ _ hR => hR.elim id fun ⟨_, _, hz⟩ => hz.elim
theorem hold_Hold_Floor.cal {Z : List PanicEntry → PT} {Q : Int → PT} {h_0 : Option Addr} {w : World} (h : hold_Hold_Floor.F Z Q h_0 w) : Go.Proofs.Ythheldpjcndelaa.cal Try.prog Z 18 [(Value.pointer h_0)] (isI .i64 fun r0 => Q r0) w := by
  refine (hold_Hold_Floor.vc Z Q h_0 w h).mono fun e w' hR => ?_
  rcases hR with ⟨r0, rfl, h⟩ | ⟨c, rfl, h⟩
  · show (isI .i64 fun r0 => Q r0) (.int .i64 r0) w'
    exact ⟨_, rfl, h⟩
  · exact h

/-! ### (*milepost/hold.Hold).Top: function 19 -/
noncomputable def hold_Hold_Top.body : Code := bodyC Try.f19
def hold_Hold_Top.F (Z : List PanicEntry → PT) (Q : Int → PT) (h_0 : Option Addr) : PT :=
  (pif (isNone h_0) (Q 0) (nn h_0 fun v1 => (ldI .i64 ((v1.add 4).add 0) fun v2 => (Q v2))))
def hold_Hold_Top.q1 (Z : List PanicEntry → PT) (Q : Int → PT) : QF := bodyQ [.tmp 2] (fun v => atI .i64 v fun va => Q va)
theorem hold_Hold_Top.eq (Z : List PanicEntry → PT) (Q : Int → PT) (h_0 : Option Addr) : comp Try.prog Z hold_Hold_Top.body (hold_Hold_Top.q1 Z Q) (fr0 [(Value.pointer h_0)]) = hold_Hold_Top.F Z Q h_0 := by kernel_rfl
theorem hold_Hold_Top.vc (Z : List PanicEntry → PT) (Q : Int → PT) (h_0 : Option Addr) (w : World) (h : hold_Hold_Top.F Z Q h_0 w) : Calls Try.prog 19 ⟨[(Value.pointer h_0)]⟩ w fun e w' => (∃ (r0 : Int), e = .returned (.int .i64 r0) ∧ Q r0 w') ∨ ∃ c, e = .panicked c ∧ Z c w' := by
  refine (calls_of_ok (args := [(Value.pointer h_0)]) (w := w) (rs := [.tmp 2]) (fn := Try.f19) (c := hold_Hold_Top.body) Try.func19 (by kernel_rfl) (by kernel_rfl) (Nat.le_of_ble_eq_true (by kernel_rfl)) (okC hold_Hold_Top.body (hold_Hold_Top.q1 Z Q) (by kernel_rfl)) (by rw [hold_Hold_Top.eq]; exact h)).mono fun e w' hR => ?_
  cases e with
  | returned v =>
    obtain ⟨va, rfl, hR⟩ := atI_e hR
    exact .inl ⟨va, rfl, hR⟩
  | panicked c => exact .inr ⟨c, rfl, hR⟩
  | outgrown => exact hR.elim
theorem hold_Hold_Top.vc0 (Q : Int → PT) (h_0 : Option Addr) (w : World) (h : hold_Hold_Top.F Z0 Q h_0 w) : Calls Try.prog 19 ⟨[(Value.pointer h_0)]⟩ w fun e w' => (∃ (r0 : Int), e = .returned (.int .i64 r0) ∧ Q r0 w') :=
  (hold_Hold_Top.vc Z0 Q h_0 w h).mono fun _ _ hR => hR.elim id fun ⟨_, _, hz⟩ => hz.elim
theorem hold_Hold_Top.cal {Z : List PanicEntry → PT} {Q : Int → PT} {h_0 : Option Addr} {w : World} (h : hold_Hold_Top.F Z Q h_0 w) : Go.Proofs.Ythheldpjcndelaa.cal Try.prog Z 19 [(Value.pointer h_0)] (isI .i64 fun r0 => Q r0) w := by
  refine (hold_Hold_Top.vc Z Q h_0 w h).mono fun e w' hR => ?_
  rcases hR with ⟨r0, rfl, h⟩ | ⟨c, rfl, h⟩
  · show (isI .i64 fun r0 => Q r0) (.int .i64 r0) w'
    exact ⟨_, rfl, h⟩
  · exact h

/-! ### (*milepost/hold.Hold).Inc: function 22 -/
noncomputable def hold_Hold_Inc.body : Code := bodyC Try.f22
def hold_Hold_Inc.F (Z : List PanicEntry → PT) (Q : Int → PT) (h_0 : Option Addr) : PT :=
  (pif (isNone h_0) (Q 0) (nn h_0 fun v1 => (ldI .i64 (v1.add 0) fun v2 => (Q v2))))
def hold_Hold_Inc.q1 (Z : List PanicEntry → PT) (Q : Int → PT) : QF := bodyQ [.tmp 2] (fun v => atI .i64 v fun va => Q va)
theorem hold_Hold_Inc.eq (Z : List PanicEntry → PT) (Q : Int → PT) (h_0 : Option Addr) : comp Try.prog Z hold_Hold_Inc.body (hold_Hold_Inc.q1 Z Q) (fr0 [(Value.pointer h_0)]) = hold_Hold_Inc.F Z Q h_0 := by kernel_rfl
theorem hold_Hold_Inc.vc (Z : List PanicEntry → PT) (Q : Int → PT) (h_0 : Option Addr) (w : World) (h : hold_Hold_Inc.F Z Q h_0 w) : Calls Try.prog 22 ⟨[(Value.pointer h_0)]⟩ w fun e w' => (∃ (r0 : Int), e = .returned (.int .i64 r0) ∧ Q r0 w') ∨ ∃ c, e = .panicked c ∧ Z c w' := by
  refine (calls_of_ok (args := [(Value.pointer h_0)]) (w := w) (rs := [.tmp 2]) (fn := Try.f22) (c := hold_Hold_Inc.body) Try.func22 (by kernel_rfl) (by kernel_rfl) (Nat.le_of_ble_eq_true (by kernel_rfl)) (okC hold_Hold_Inc.body (hold_Hold_Inc.q1 Z Q) (by kernel_rfl)) (by rw [hold_Hold_Inc.eq]; exact h)).mono fun e w' hR => ?_
  cases e with
  | returned v =>
    obtain ⟨va, rfl, hR⟩ := atI_e hR
    exact .inl ⟨va, rfl, hR⟩
  | panicked c => exact .inr ⟨c, rfl, hR⟩
  | outgrown => exact hR.elim
theorem hold_Hold_Inc.vc0 (Q : Int → PT) (h_0 : Option Addr) (w : World) (h : hold_Hold_Inc.F Z0 Q h_0 w) : Calls Try.prog 22 ⟨[(Value.pointer h_0)]⟩ w fun e w' => (∃ (r0 : Int), e = .returned (.int .i64 r0) ∧ Q r0 w') :=
  (hold_Hold_Inc.vc Z0 Q h_0 w h).mono fun _ _ hR => hR.elim id fun ⟨_, _, hz⟩ => hz.elim
theorem hold_Hold_Inc.cal {Z : List PanicEntry → PT} {Q : Int → PT} {h_0 : Option Addr} {w : World} (h : hold_Hold_Inc.F Z Q h_0 w) : Go.Proofs.Ythheldpjcndelaa.cal Try.prog Z 22 [(Value.pointer h_0)] (isI .i64 fun r0 => Q r0) w := by
  refine (hold_Hold_Inc.vc Z Q h_0 w h).mono fun e w' hR => ?_
  rcases hR with ⟨r0, rfl, h⟩ | ⟨c, rfl, h⟩
  · show (isI .i64 fun r0 => Q r0) (.int .i64 r0) w'
    exact ⟨_, rfl, h⟩
  · exact h

end Go.Proofs.Ythheldpjcndelaa
