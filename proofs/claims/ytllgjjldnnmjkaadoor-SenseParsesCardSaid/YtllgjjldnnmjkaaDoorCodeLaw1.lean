/-
  The reading of the code of 4 functions, printed by gen.py off the translation; no condition.
-/
import Derived.Test.YtllgjjldnnmjkaaDoorWlFacts
namespace Go.Proofs.YtllgjjldnnmjkaaDoor
open Go.RowKit
set_option linter.unusedVariables false
set_option maxRecDepth 100000

/-! ### milepost/milepostlaw07.awake: function 11 -/
noncomputable def law07_awake.body : Code := bodyC Tryd.f11
def law07_awake.F (Z : List PanicEntry → PT) (Q : Bool → PT)  : PT :=
  (cal Tryd.prog Z 12 [(Value.string ⟨#[57, 32, 100, 112, 111, 114, 116, 32, 56, 48, 32, 45, 62, 32, 112, 111, 114, 116, 32, 49, 10, 57, 32, 115, 114, 99, 32, 49, 48, 46, 48, 46, 48, 46, 48, 47, 56, 32, 45, 62, 32, 112, 111, 114, 116, 32, 50, 10, 100, 101, 102, 97, 117, 108, 116, 32, 45, 62, 32, 100, 114, 111, 112]⟩)] (isT3 fun t51 t52 t53 => (isL fun v54 v54n v54c => ((isI .i64 fun v55 => ((isI .i64 fun v56 => (cal Tryd.prog Z 21 [(Value.slice v54 v54n v54c), (Value.agg ⟨[(Value.int .u8 10), (Value.int .u8 0), (Value.int .u8 0), (Value.int .u8 1), (Value.int .u8 0), (Value.int .u8 0), (Value.int .u8 0), (Value.int .u8 0), (Value.int .u8 0), (Value.int .u8 0), (Value.int .u8 0), (Value.int .u8 80), (Value.int .u8 0)]⟩)] (isT2 fun t57 t58 => (isI .i64 fun v59 => ((isB fun v60 => (cal Tryd.prog Z 21 [(Value.slice v54 v54n v54c), (Value.agg ⟨[(Value.int .u8 10), (Value.int .u8 0), (Value.int .u8 0), (Value.int .u8 1), (Value.int .u8 0), (Value.int .u8 0), (Value.int .u8 0), (Value.int .u8 0), (Value.int .u8 0), (Value.int .u8 0), (Value.int .u8 0), (Value.int .u8 81), (Value.int .u8 0)]⟩)] (isT2 fun t61 t62 => (isI .i64 fun v63 => ((isB fun v64 => (cal Tryd.prog Z 12 [(Value.string ⟨#[49, 32, 115, 114, 99, 32, 49, 46, 50, 46, 51, 46, 50, 53, 54, 32, 45, 62, 32, 100, 114, 111, 112]⟩)] (isT3 fun t65 t66 t67 => (isL fun v68 v68n v68c => ((isI .i64 fun v69 => ((isI .i64 fun v70 => (pif (v55 == 0) (pif v60 (pif v64 (pif (v59 == 1) (pif (v63 == 2) (pif (v69 == 10) (Q (v70 == 12)) (Q false)) (Q false)) (Q false)) (Q false)) (Q false)) (Q false))) t67)) t66)) t65))) t62)) t61))) t58)) t57))) t53)) t52)) t51))
def law07_awake.q1 (Z : List PanicEntry → PT) (Q : Bool → PT) : QF := bodyQ Tryd.prog [.tmp 0] (fun v => atB v fun va => Q va)
theorem law07_awake.eq (Z : List PanicEntry → PT) (Q : Bool → PT)  : comp Tryd.prog Z law07_awake.body (law07_awake.q1 Z Q) (fr0 []) = law07_awake.F Z Q  := by kernel_rfl
theorem law07_awake.vc (Z : List PanicEntry → PT) (Q : Bool → PT)  (w : World) (h : law07_awake.F Z Q  w) : Calls Tryd.prog 11 ⟨[]⟩ w fun e w' => (∃ (r0 : Bool), e = .returned (.bool r0) ∧ Q r0 w') ∨ ∃ c, e = .panicked c ∧ Z c w' := by
  refine (calls_of_ok (args := []) (w := w) (rs := [.tmp 0]) (fn := Tryd.f11) (c := law07_awake.body) Tryd.func11 (by kernel_rfl) (by kernel_rfl) (Nat.le_of_ble_eq_true (by kernel_rfl)) (okC law07_awake.body (law07_awake.q1 Z Q) (by kernel_rfl)) (by rw [law07_awake.eq]; exact h)).mono fun e w' hR => ?_
  cases e with
  | returned v =>
    obtain ⟨va, rfl, hR⟩ := atB_e hR
    exact .inl ⟨va, rfl, hR⟩
  | panicked c => exact .inr ⟨c, rfl, hR⟩
  | outgrown => exact hR.elim
theorem law07_awake.vc0 (Q : Bool → PT)  (w : World) (h : law07_awake.F Z0 Q  w) : Calls Tryd.prog 11 ⟨[]⟩ w fun e w' => (∃ (r0 : Bool), e = .returned (.bool r0) ∧ Q r0 w') :=
  (law07_awake.vc Z0 Q  w h).mono fun _ _ hR => hR.elim id fun ⟨_, _, hz⟩ => hz.elim
theorem law07_awake.cal {Z : List PanicEntry → PT} {Q : Bool → PT}  {w : World} (h : law07_awake.F Z Q  w) : Go.Proofs.YtllgjjldnnmjkaaDoor.cal Tryd.prog Z 11 [] (isB fun r0 => Q r0) w := by
  refine (law07_awake.vc Z Q  w h).mono fun e w' hR => ?_
  rcases hR with ⟨r0, rfl, h⟩ | ⟨c, rfl, h⟩
  · show (isB fun r0 => Q r0) (.bool r0) w'
    exact ⟨_, rfl, h⟩
  · exact h

/-! ### milepost/milepostlaw07.SenseReads: function 3 -/
noncomputable def law07_SenseReads.body : Code := bodyC Tryd.f3
def law07_SenseReads.F (Z : List PanicEntry → PT) (Q : Bool → PT) (s_0 : ByteArray) : PT :=
  (cal Tryd.prog Z 11 [] (isB fun v38 => (pif (!v38) (Q false) (cal Tryd.prog Z 12 [(Value.string s_0)] (isT3 fun t39 t40 t41 => (isL fun v42 v42n v42c => ((isI .i64 fun v43 => ((isI .i64 fun v44 => (cal Tryd.prog Z 13 [(Value.string s_0)] (isT3 fun t45 t46 t47 => (isL fun v48 v48n v48c => ((isI .i64 fun v49 => ((isI .i64 fun v50 => (pif (v43 != v49) (Q false) (pif (v44 != v50) (Q false) (cal Tryd.prog Z 14 [(Value.slice v42 v42n v42c), (Value.slice v48 v48n v48c)] (isB fun v51 => (pif (!v51) (Q false) (pif (v43 == 0) (pif (decide (((v42n : Nat) : Int) > 0)) (pif (v44 == 0) (Q true) (pif (v43 != 0) (pif (((v42n : Nat) : Int) == 0) (pif (decide (v44 ≥ 0)) (Q (decide (v44 ≤ ((s_0.size : Nat) : Int)))) (Q false)) (Q false)) (Q false))) (pif (v43 != 0) (pif (((v42n : Nat) : Int) == 0) (pif (decide (v44 ≥ 0)) (Q (decide (v44 ≤ ((s_0.size : Nat) : Int)))) (Q false)) (Q false)) (Q false))) (pif (v43 != 0) (pif (((v42n : Nat) : Int) == 0) (pif (decide (v44 ≥ 0)) (Q (decide (v44 ≤ ((s_0.size : Nat) : Int)))) (Q false)) (Q false)) (Q false))))))))) t47)) t46)) t45))) t41)) t40)) t39)))))
def law07_SenseReads.q1 (Z : List PanicEntry → PT) (Q : Bool → PT) : QF := bodyQ Tryd.prog [.tmp 2] (fun v => atB v fun va => Q va)
theorem law07_SenseReads.eq (Z : List PanicEntry → PT) (Q : Bool → PT) (s_0 : ByteArray) : comp Tryd.prog Z law07_SenseReads.body (law07_SenseReads.q1 Z Q) (fr0 [(Value.string s_0)]) = law07_SenseReads.F Z Q s_0 := by kernel_rfl
theorem law07_SenseReads.vc (Z : List PanicEntry → PT) (Q : Bool → PT) (s_0 : ByteArray) (w : World) (h : law07_SenseReads.F Z Q s_0 w) : Calls Tryd.prog 3 ⟨[(Value.string s_0)]⟩ w fun e w' => (∃ (r0 : Bool), e = .returned (.bool r0) ∧ Q r0 w') ∨ ∃ c, e = .panicked c ∧ Z c w' := by
  refine (calls_of_ok (args := [(Value.string s_0)]) (w := w) (rs := [.tmp 2]) (fn := Tryd.f3) (c := law07_SenseReads.body) Tryd.func3 (by kernel_rfl) (by kernel_rfl) (Nat.le_of_ble_eq_true (by kernel_rfl)) (okC law07_SenseReads.body (law07_SenseReads.q1 Z Q) (by kernel_rfl)) (by rw [law07_SenseReads.eq]; exact h)).mono fun e w' hR => ?_
  cases e with
  | returned v =>
    obtain ⟨va, rfl, hR⟩ := atB_e hR
    exact .inl ⟨va, rfl, hR⟩
  | panicked c => exact .inr ⟨c, rfl, hR⟩
  | outgrown => exact hR.elim
theorem law07_SenseReads.vc0 (Q : Bool → PT) (s_0 : ByteArray) (w : World) (h : law07_SenseReads.F Z0 Q s_0 w) : Calls Tryd.prog 3 ⟨[(Value.string s_0)]⟩ w fun e w' => (∃ (r0 : Bool), e = .returned (.bool r0) ∧ Q r0 w') :=
  (law07_SenseReads.vc Z0 Q s_0 w h).mono fun _ _ hR => hR.elim id fun ⟨_, _, hz⟩ => hz.elim
theorem law07_SenseReads.cal {Z : List PanicEntry → PT} {Q : Bool → PT} {s_0 : ByteArray} {w : World} (h : law07_SenseReads.F Z Q s_0 w) : Go.Proofs.YtllgjjldnnmjkaaDoor.cal Tryd.prog Z 3 [(Value.string s_0)] (isB fun r0 => Q r0) w := by
  refine (law07_SenseReads.vc Z Q s_0 w h).mono fun e w' hR => ?_
  rcases hR with ⟨r0, rfl, h⟩ | ⟨c, rfl, h⟩
  · show (isB fun r0 => Q r0) (.bool r0) w'
    exact ⟨_, rfl, h⟩
  · exact h

/-! ### milepost/milepostlaw07.SenseChecks: function 4 -/
noncomputable def law07_SenseChecks.body : Code := bodyC Tryd.f4
def law07_SenseChecks.F (Z : List PanicEntry → PT) (Q : Bool → PT) (l_0 : Option Addr) (l_0n l_0c : Nat) (size_1 : Int) : PT :=
  (cal Tryd.prog Z 11 [] (isB fun v28 => (pif (!v28) (Q false) (cal Tryd.prog Z 15 [(Value.slice l_0 l_0n l_0c)] (isB fun v29 => (pif v29 (Q true) (cal Tryd.prog Z 16 [(Value.slice l_0 l_0n l_0c), (Value.int .i64 size_1)] (isT3 fun t30 t31 t32 => (isL fun v33 v33n v33c => ((isI .i64 fun v34 => ((isI .i64 fun v35 => (cal Tryd.prog Z 17 [(Value.slice l_0 l_0n l_0c), (Value.int .i64 size_1)] (isT3 fun t36 t37 t38 => (isL fun v39 v39n v39c => ((isI .i64 fun v40 => ((isI .i64 fun v41 => (pif (v34 == v40) (pif (v35 == v41) (cal Tryd.prog Z 14 [(Value.slice v33 v33n v33c), (Value.slice v39 v39n v39c)] (isB fun v42 => (Q v42))) (Q false)) (Q false))) t38)) t37)) t36))) t32)) t31)) t30))))))))
def law07_SenseChecks.q1 (Z : List PanicEntry → PT) (Q : Bool → PT) : QF := bodyQ Tryd.prog [.tmp 4] (fun v => atB v fun va => Q va)
theorem law07_SenseChecks.eq (Z : List PanicEntry → PT) (Q : Bool → PT) (l_0 : Option Addr) (l_0n l_0c : Nat) (size_1 : Int) : comp Tryd.prog Z law07_SenseChecks.body (law07_SenseChecks.q1 Z Q) (fr0 [(Value.slice l_0 l_0n l_0c), (Value.int .i64 size_1)]) = law07_SenseChecks.F Z Q l_0 l_0n l_0c size_1 := by kernel_rfl
theorem law07_SenseChecks.vc (Z : List PanicEntry → PT) (Q : Bool → PT) (l_0 : Option Addr) (l_0n l_0c : Nat) (size_1 : Int) (w : World) (h : law07_SenseChecks.F Z Q l_0 l_0n l_0c size_1 w) : Calls Tryd.prog 4 ⟨[(Value.slice l_0 l_0n l_0c), (Value.int .i64 size_1)]⟩ w fun e w' => (∃ (r0 : Bool), e = .returned (.bool r0) ∧ Q r0 w') ∨ ∃ c, e = .panicked c ∧ Z c w' := by
  refine (calls_of_ok (args := [(Value.slice l_0 l_0n l_0c), (Value.int .i64 size_1)]) (w := w) (rs := [.tmp 4]) (fn := Tryd.f4) (c := law07_SenseChecks.body) Tryd.func4 (by kernel_rfl) (by kernel_rfl) (Nat.le_of_ble_eq_true (by kernel_rfl)) (okC law07_SenseChecks.body (law07_SenseChecks.q1 Z Q) (by kernel_rfl)) (by rw [law07_SenseChecks.eq]; exact h)).mono fun e w' hR => ?_
  cases e with
  | returned v =>
    obtain ⟨va, rfl, hR⟩ := atB_e hR
    exact .inl ⟨va, rfl, hR⟩
  | panicked c => exact .inr ⟨c, rfl, hR⟩
  | outgrown => exact hR.elim
theorem law07_SenseChecks.vc0 (Q : Bool → PT) (l_0 : Option Addr) (l_0n l_0c : Nat) (size_1 : Int) (w : World) (h : law07_SenseChecks.F Z0 Q l_0 l_0n l_0c size_1 w) : Calls Tryd.prog 4 ⟨[(Value.slice l_0 l_0n l_0c), (Value.int .i64 size_1)]⟩ w fun e w' => (∃ (r0 : Bool), e = .returned (.bool r0) ∧ Q r0 w') :=
  (law07_SenseChecks.vc Z0 Q l_0 l_0n l_0c size_1 w h).mono fun _ _ hR => hR.elim id fun ⟨_, _, hz⟩ => hz.elim
theorem law07_SenseChecks.cal {Z : List PanicEntry → PT} {Q : Bool → PT} {l_0 : Option Addr} {l_0n l_0c : Nat} {size_1 : Int} {w : World} (h : law07_SenseChecks.F Z Q l_0 l_0n l_0c size_1 w) : Go.Proofs.YtllgjjldnnmjkaaDoor.cal Tryd.prog Z 4 [(Value.slice l_0 l_0n l_0c), (Value.int .i64 size_1)] (isB fun r0 => Q r0) w := by
  refine (law07_SenseChecks.vc Z Q l_0 l_0n l_0c size_1 w h).mono fun e w' hR => ?_
  rcases hR with ⟨r0, rfl, h⟩ | ⟨c, rfl, h⟩
  · show (isB fun r0 => Q r0) (.bool r0) w'
    exact ⟨_, rfl, h⟩
  · exact h

/-! ### milepost/milepostlaw07.long: function 15 -/
noncomputable def law07_long.body : Code := bodyC Tryd.f15
noncomputable def law07_long.c1 : Code := sq1 law07_long.body
noncomputable def law07_long.c2 : Code := sq1 (sq2 law07_long.body)
noncomputable def law07_long.c3 : Code := sq2 (sq2 law07_long.body)
theorem law07_long.q4 : law07_long.body = .seq law07_long.c1 (.seq law07_long.c2 law07_long.c3) := by kernel_rfl
noncomputable def law07_long.c5 : Code := sq1 law07_long.c3
noncomputable def law07_long.c6 : Code := sq2 law07_long.c3
theorem law07_long.q7 : law07_long.c3 = .seq law07_long.c5 law07_long.c6 := by kernel_rfl
def law07_long.s8 (Z : List PanicEntry → PT) (Q : Bool → PT) (l_0 : Option Addr) (l_0n l_0c : Nat) (n_3 : Int) : PT :=
  (pif (decide (n_3 > 4000)) (Q true) (Q (decide (((l_0n : Nat) : Int) > 70))))
def law07_long.q9 (Z : List PanicEntry → PT) (Q : Bool → PT) : QF := bodyQ Tryd.prog [.tmp 2] (fun v => atB v fun va => Q va)
theorem law07_long.s8_eq (Z : List PanicEntry → PT) (Q : Bool → PT) (ρ : Fr) (l_0 : Option Addr) (l_0n l_0c : Nat) (n_3 : Int) : comp Tryd.prog Z law07_long.c6 (law07_long.q9 Z Q) (puts ρ [(0, (Value.slice l_0 l_0n l_0c)), (3, (Value.int .i64 n_3))]) = law07_long.s8 Z Q l_0 l_0n l_0c n_3 := by kernel_rfl
def law07_long.j10 (Z : List PanicEntry → PT) (Q : Bool → PT) : Fr → PT := (fun ρ => atL (ρ 0) fun l_0 l_0n l_0c => atI .i64 (ρ 3) fun n_3 => (law07_long.s8 Z Q l_0 l_0n l_0c n_3))
theorem law07_long.s8_ok (Z : List PanicEntry → PT) (Q : Bool → PT) : Ok Tryd.prog Tryd.f15.ntmps Z law07_long.c6 (law07_long.q9 Z Q) (law07_long.j10 Z Q) := by
  intro E he ρ w a hr h
  obtain ⟨l_0, l_0n, l_0c, e0, h⟩ := atL_e h
  obtain ⟨n_3, e3, h⟩ := atI_e h
  exact ok_at [(0, (Value.slice l_0 l_0n l_0c)), (3, (Value.int .i64 n_3))] (okC law07_long.c6 (law07_long.q9 Z Q) (by kernel_rfl)) (puts_cons e0 (puts_cons e3 (fun p hp => puts_nil hp))) (law07_long.s8_eq Z Q ρ l_0 l_0n l_0c n_3) he hr h
noncomputable def law07_long.c11 : Code := sq1 law07_long.c5
noncomputable def law07_long.c12 : Code := sq2 law07_long.c5
theorem law07_long.q13 : law07_long.c5 = .seq law07_long.c11 law07_long.c12 := by kernel_rfl
noncomputable def law07_long.c14 : Code := blk law07_long.c12
theorem law07_long.q15 : law07_long.c12 = .block 0 law07_long.c14 := by kernel_rfl
noncomputable def law07_long.c16 : Code := lop law07_long.c14
theorem law07_long.q17 : law07_long.c14 = .loop law07_long.c16 := by kernel_rfl
def law07_long.q19 (Z : List PanicEntry → PT) (Q : Bool → PT) : QF := thenK (law07_long.j10 Z Q) (law07_long.q9 Z Q)
def law07_long.q20 (Z : List PanicEntry → PT) (Q : Bool → PT) : QF := inBl 0 (law07_long.q19 Z Q)
noncomputable def law07_long.c21 : Code := sq1 law07_long.c16
noncomputable def law07_long.c22 : Code := sq2 law07_long.c16
theorem law07_long.q23 : law07_long.c16 = .seq law07_long.c21 law07_long.c22 := by kernel_rfl
noncomputable def law07_long.c24 : Code := sq1 law07_long.c22
noncomputable def law07_long.c25 : Code := sq2 law07_long.c22
theorem law07_long.q26 : law07_long.c22 = .seq law07_long.c24 law07_long.c25 := by kernel_rfl
def law07_long.s27 (Z : List PanicEntry → PT) (Q : Bool → PT) (X1 : Option Addr → Nat → Nat → Int → Int → PT) (l_0 : Option Addr) (l_0n l_0c : Nat) (n_3 : Int) (i_4 : Int) : PT :=
  (X1 l_0 l_0n l_0c n_3 (IntKind.wrap .i64 (i_4 + 1)))
def law07_long.j28 (Z : List PanicEntry → PT) (Q : Bool → PT) (X1 : Option Addr → Nat → Nat → Int → Int → PT) : Fr → PT := (fun ρ => atL (ρ 0) fun l_0 l_0n l_0c => atI .i64 (ρ 3) fun n_3 => atI .i64 (ρ 4) fun i_4 => (X1 l_0 l_0n l_0c n_3 i_4))
def law07_long.q29 (Z : List PanicEntry → PT) (Q : Bool → PT) (X1 : Option Addr → Nat → Nat → Int → Int → PT) : QF := thenK (law07_long.j28 Z Q X1) (law07_long.q20 Z Q)
theorem law07_long.s27_eq (Z : List PanicEntry → PT) (Q : Bool → PT) (X1 : Option Addr → Nat → Nat → Int → Int → PT) (ρ : Fr) (l_0 : Option Addr) (l_0n l_0c : Nat) (n_3 : Int) (i_4 : Int) : comp Tryd.prog Z law07_long.c25 (law07_long.q29 Z Q X1) (puts ρ [(0, (Value.slice l_0 l_0n l_0c)), (3, (Value.int .i64 n_3)), (4, (Value.int .i64 i_4))]) = law07_long.s27 Z Q X1 l_0 l_0n l_0c n_3 i_4 := by kernel_rfl
def law07_long.j30 (Z : List PanicEntry → PT) (Q : Bool → PT) (X1 : Option Addr → Nat → Nat → Int → Int → PT) : Fr → PT := (fun ρ => atL (ρ 0) fun l_0 l_0n l_0c => atI .i64 (ρ 3) fun n_3 => atI .i64 (ρ 4) fun i_4 => (law07_long.s27 Z Q X1 l_0 l_0n l_0c n_3 i_4))
theorem law07_long.s27_ok (Z : List PanicEntry → PT) (Q : Bool → PT) (X1 : Option Addr → Nat → Nat → Int → Int → PT) : Ok Tryd.prog Tryd.f15.ntmps Z law07_long.c25 (law07_long.q29 Z Q X1) (law07_long.j30 Z Q X1) := by
  intro E he ρ w a hr h
  obtain ⟨l_0, l_0n, l_0c, e0, h⟩ := atL_e h
  obtain ⟨n_3, e3, h⟩ := atI_e h
  obtain ⟨i_4, e4, h⟩ := atI_e h
  exact ok_at [(0, (Value.slice l_0 l_0n l_0c)), (3, (Value.int .i64 n_3)), (4, (Value.int .i64 i_4))] (okC law07_long.c25 (law07_long.q29 Z Q X1) (by kernel_rfl)) (puts_cons e0 (puts_cons e3 (puts_cons e4 (fun p hp => puts_nil hp)))) (law07_long.s27_eq Z Q X1 ρ l_0 l_0n l_0c n_3 i_4) he hr h
noncomputable def law07_long.c31 : Code := blk law07_long.c24
theorem law07_long.q32 : law07_long.c24 = .block 1 law07_long.c31 := by kernel_rfl
noncomputable def law07_long.c33 : Code := sq1 law07_long.c31
noncomputable def law07_long.c34 : Code := sq1 (sq2 law07_long.c31)
noncomputable def law07_long.c35 : Code := sq2 (sq2 law07_long.c31)
theorem law07_long.q36 : law07_long.c31 = .seq law07_long.c33 (.seq law07_long.c34 law07_long.c35) := by kernel_rfl
noncomputable def law07_long.c37 : Code := blk law07_long.c35
theorem law07_long.q38 : law07_long.c35 = .block 2 law07_long.c37 := by kernel_rfl
noncomputable def law07_long.c39 : Code := lop law07_long.c37
theorem law07_long.q40 : law07_long.c37 = .loop law07_long.c39 := by kernel_rfl
def law07_long.q42 (Z : List PanicEntry → PT) (Q : Bool → PT) (X1 : Option Addr → Nat → Nat → Int → Int → PT) : QF := thenK (law07_long.j30 Z Q X1) (law07_long.q29 Z Q X1)
def law07_long.q43 (Z : List PanicEntry → PT) (Q : Bool → PT) (X1 : Option Addr → Nat → Nat → Int → Int → PT) : QF := inBl 1 (law07_long.q42 Z Q X1)
def law07_long.q44 (Z : List PanicEntry → PT) (Q : Bool → PT) (X1 : Option Addr → Nat → Nat → Int → Int → PT) : QF := inBl 2 (law07_long.q43 Z Q X1)
def law07_long.s45 (Z : List PanicEntry → PT) (Q : Bool → PT) (X1 : Option Addr → Nat → Nat → Int → Int → PT) (X2 : Option Addr → Nat → Nat → Int → Int → Int → PT) (l_0 : Option Addr) (l_0n l_0c : Nat) (n_3 : Int) (i_4 : Int) (k_5 : Int) : PT :=
  (ixS l_0 l_0n i_4 8 fun v15 => (ldL (v15.add 4) fun v16 v16n v16c => (pif (decide (k_5 < ((v16n : Nat) : Int))) (pif (decide (n_3 ≤ 4000)) (ixS l_0 l_0n i_4 8 fun v17 => (ldL (v17.add 4) fun v18 v18n v18c => (ixS v18 v18n k_5 5 fun v19 => (ldL (v19.add 2) fun v20 v20n v20c => (X2 l_0 l_0n l_0c (IntKind.wrap .i64 (n_3 + (if 5000 < ((v20n : Nat) : Int) then 5000 else ((v20n : Nat) : Int)))) i_4 (IntKind.wrap .i64 (k_5 + 1))))))) (law07_long.s27 Z Q X1 l_0 l_0n l_0c n_3 i_4)) (law07_long.s27 Z Q X1 l_0 l_0n l_0c n_3 i_4))))
def law07_long.j46 (Z : List PanicEntry → PT) (Q : Bool → PT) (X1 : Option Addr → Nat → Nat → Int → Int → PT) (X2 : Option Addr → Nat → Nat → Int → Int → Int → PT) : Fr → PT := (fun ρ => atL (ρ 0) fun l_0 l_0n l_0c => atI .i64 (ρ 3) fun n_3 => atI .i64 (ρ 4) fun i_4 => atI .i64 (ρ 5) fun k_5 => (X2 l_0 l_0n l_0c n_3 i_4 k_5))
def law07_long.q47 (Z : List PanicEntry → PT) (Q : Bool → PT) (X1 : Option Addr → Nat → Nat → Int → Int → PT) (X2 : Option Addr → Nat → Nat → Int → Int → Int → PT) : QF := thenK (law07_long.j46 Z Q X1 X2) (law07_long.q44 Z Q X1)
theorem law07_long.s45_eq (Z : List PanicEntry → PT) (Q : Bool → PT) (X1 : Option Addr → Nat → Nat → Int → Int → PT) (X2 : Option Addr → Nat → Nat → Int → Int → Int → PT) (ρ : Fr) (l_0 : Option Addr) (l_0n l_0c : Nat) (n_3 : Int) (i_4 : Int) (k_5 : Int) : comp Tryd.prog Z law07_long.c39 (law07_long.q47 Z Q X1 X2) (puts ρ [(0, (Value.slice l_0 l_0n l_0c)), (3, (Value.int .i64 n_3)), (4, (Value.int .i64 i_4)), (5, (Value.int .i64 k_5))]) = law07_long.s45 Z Q X1 X2 l_0 l_0n l_0c n_3 i_4 k_5 := by kernel_rfl
def law07_long.j48 (Z : List PanicEntry → PT) (Q : Bool → PT) (X1 : Option Addr → Nat → Nat → Int → Int → PT) (X2 : Option Addr → Nat → Nat → Int → Int → Int → PT) : Fr → PT := (fun ρ => atL (ρ 0) fun l_0 l_0n l_0c => atI .i64 (ρ 3) fun n_3 => atI .i64 (ρ 4) fun i_4 => atI .i64 (ρ 5) fun k_5 => (law07_long.s45 Z Q X1 X2 l_0 l_0n l_0c n_3 i_4 k_5))
theorem law07_long.s45_ok (Z : List PanicEntry → PT) (Q : Bool → PT) (X1 : Option Addr → Nat → Nat → Int → Int → PT) (X2 : Option Addr → Nat → Nat → Int → Int → Int → PT) : Ok Tryd.prog Tryd.f15.ntmps Z law07_long.c39 (law07_long.q47 Z Q X1 X2) (law07_long.j48 Z Q X1 X2) := by
  intro E he ρ w a hr h
  obtain ⟨l_0, l_0n, l_0c, e0, h⟩ := atL_e h
  obtain ⟨n_3, e3, h⟩ := atI_e h
  obtain ⟨i_4, e4, h⟩ := atI_e h
  obtain ⟨k_5, e5, h⟩ := atI_e h
  exact ok_at [(0, (Value.slice l_0 l_0n l_0c)), (3, (Value.int .i64 n_3)), (4, (Value.int .i64 i_4)), (5, (Value.int .i64 k_5))] (okC law07_long.c39 (law07_long.q47 Z Q X1 X2) (by kernel_rfl)) (puts_cons e0 (puts_cons e3 (puts_cons e4 (puts_cons e5 (fun p hp => puts_nil hp))))) (law07_long.s45_eq Z Q X1 X2 ρ l_0 l_0n l_0c n_3 i_4 k_5) he hr h
def law07_long.l41 (Z : List PanicEntry → PT) (Q : Bool → PT) (X1 : Option Addr → Nat → Nat → Int → Int → PT) : Nat → Option Addr → Nat → Nat → Int → Int → Int → PT
  | 0, _, _, _, _, _, _ => bad
  | k + 1, l_0, l_0n, l_0c, n_3, i_4, k_5 => (law07_long.s45 Z Q X1 (law07_long.l41 Z Q X1 k) l_0 l_0n l_0c n_3 i_4 k_5)
def law07_long.j49 (Z : List PanicEntry → PT) (Q : Bool → PT) (X1 : Option Addr → Nat → Nat → Int → Int → PT) (k : Nat) : Fr → PT := (fun ρ => atL (ρ 0) fun l_0 l_0n l_0c => atI .i64 (ρ 3) fun n_3 => atI .i64 (ρ 4) fun i_4 => atI .i64 (ρ 5) fun k_5 => (law07_long.l41 Z Q X1 k l_0 l_0n l_0c n_3 i_4 k_5))
def law07_long.j50 (Z : List PanicEntry → PT) (Q : Bool → PT) (X1 : Option Addr → Nat → Nat → Int → Int → PT) : Fr → PT := (fun ρ => atL (ρ 0) fun l_0 l_0n l_0c => atI .i64 (ρ 3) fun n_3 => atI .i64 (ρ 4) fun i_4 => atI .i64 (ρ 5) fun k_5 => (exK fun k => law07_long.l41 Z Q X1 k l_0 l_0n l_0c n_3 i_4 k_5))
theorem law07_long.o51 (Z : List PanicEntry → PT) (Q : Bool → PT) (X1 : Option Addr → Nat → Nat → Int → Int → PT) : Ok Tryd.prog Tryd.f15.ntmps Z law07_long.c37 (law07_long.q44 Z Q X1) (law07_long.j50 Z Q X1) := by
  rw [law07_long.q40]
  refine Ok.imp (ok_loop (J := law07_long.j49 Z Q X1) ?_ ?_) ?_
  · intro ρ w h
    obtain ⟨l_0, l_0n, l_0c, e0, h⟩ := atL_e h
    obtain ⟨n_3, e3, h⟩ := atI_e h
    obtain ⟨i_4, e4, h⟩ := atI_e h
    obtain ⟨k_5, e5, h⟩ := atI_e h
    exact h
  · intro k
    refine Ok.imp (law07_long.s45_ok Z Q X1 (law07_long.l41 Z Q X1 k)) fun ρ w h => ?_
    obtain ⟨l_0, l_0n, l_0c, e0, h⟩ := atL_e h
    obtain ⟨n_3, e3, h⟩ := atI_e h
    obtain ⟨i_4, e4, h⟩ := atI_e h
    obtain ⟨k_5, e5, h⟩ := atI_e h
    show (law07_long.j48 Z Q X1 (law07_long.l41 Z Q X1 k)) ρ w
    simp only [law07_long.j48]
    rw [e0]
    rw [e3]
    rw [e4]
    rw [e5]
    exact h
  · intro ρ w h
    obtain ⟨l_0, l_0n, l_0c, e0, h⟩ := atL_e h
    obtain ⟨n_3, e3, h⟩ := atI_e h
    obtain ⟨i_4, e4, h⟩ := atI_e h
    obtain ⟨k_5, e5, h⟩ := atI_e h
    obtain ⟨k, h⟩ := h
    refine ⟨k, ?_⟩
    show (atL (ρ 0) fun l_0 l_0n l_0c => atI .i64 (ρ 3) fun n_3 => atI .i64 (ρ 4) fun i_4 => atI .i64 (ρ 5) fun k_5 => (law07_long.l41 Z Q X1 k l_0 l_0n l_0c n_3 i_4 k_5)) w
    rw [e0]
    rw [e3]
    rw [e4]
    rw [e5]
    exact h
theorem law07_long.o52 (Z : List PanicEntry → PT) (Q : Bool → PT) (X1 : Option Addr → Nat → Nat → Int → Int → PT) : Ok Tryd.prog Tryd.f15.ntmps Z law07_long.c35 (law07_long.q43 Z Q X1) (law07_long.j50 Z Q X1) := by
  rw [law07_long.q38]; exact ok_block (law07_long.o51 Z Q X1)
def law07_long.s53 (Z : List PanicEntry → PT) (Q : Bool → PT) (X1 : Option Addr → Nat → Nat → Int → Int → PT) (l_0 : Option Addr) (l_0n l_0c : Nat) (n_3 : Int) (i_4 : Int) : PT :=
  (ixS l_0 l_0n i_4 8 fun v21 => (ldL (v21.add 4) fun v22 v22n v22c => (exK fun k => law07_long.l41 Z Q X1 k l_0 l_0n l_0c (IntKind.wrap .i64 ((IntKind.wrap .i64 (n_3 + 1)) + (if 5000 < ((v22n : Nat) : Int) then 5000 else ((v22n : Nat) : Int)))) i_4 0)))
theorem law07_long.s53_eq (Z : List PanicEntry → PT) (Q : Bool → PT) (X1 : Option Addr → Nat → Nat → Int → Int → PT) (ρ : Fr) (l_0 : Option Addr) (l_0n l_0c : Nat) (n_3 : Int) (i_4 : Int) : (comp Tryd.prog Z law07_long.c33 (thenK (comp Tryd.prog Z law07_long.c34 (thenK (law07_long.j50 Z Q X1) (law07_long.q43 Z Q X1))) (law07_long.q43 Z Q X1))) (puts ρ [(0, (Value.slice l_0 l_0n l_0c)), (3, (Value.int .i64 n_3)), (4, (Value.int .i64 i_4))]) = law07_long.s53 Z Q X1 l_0 l_0n l_0c n_3 i_4 := by kernel_rfl
def law07_long.j54 (Z : List PanicEntry → PT) (Q : Bool → PT) (X1 : Option Addr → Nat → Nat → Int → Int → PT) : Fr → PT := (fun ρ => atL (ρ 0) fun l_0 l_0n l_0c => atI .i64 (ρ 3) fun n_3 => atI .i64 (ρ 4) fun i_4 => (law07_long.s53 Z Q X1 l_0 l_0n l_0c n_3 i_4))
theorem law07_long.s53_ok (Z : List PanicEntry → PT) (Q : Bool → PT) (X1 : Option Addr → Nat → Nat → Int → Int → PT) : Ok Tryd.prog Tryd.f15.ntmps Z law07_long.c31 (law07_long.q43 Z Q X1) (law07_long.j54 Z Q X1) := by
  intro E he ρ w a hr h
  rw [law07_long.q36] at he ⊢
  obtain ⟨l_0, l_0n, l_0c, e0, h⟩ := atL_e h
  obtain ⟨n_3, e3, h⟩ := atI_e h
  obtain ⟨i_4, e4, h⟩ := atI_e h
  exact ok_at [(0, (Value.slice l_0 l_0n l_0c)), (3, (Value.int .i64 n_3)), (4, (Value.int .i64 i_4))] (ok_seq (okC law07_long.c33 _ (by kernel_rfl)) (ok_seq (okC law07_long.c34 _ (by kernel_rfl)) (law07_long.o52 Z Q X1))) (puts_cons e0 (puts_cons e3 (puts_cons e4 (fun p hp => puts_nil hp)))) (law07_long.s53_eq Z Q X1 ρ l_0 l_0n l_0c n_3 i_4) he hr h
theorem law07_long.o55 (Z : List PanicEntry → PT) (Q : Bool → PT) (X1 : Option Addr → Nat → Nat → Int → Int → PT) : Ok Tryd.prog Tryd.f15.ntmps Z law07_long.c24 (law07_long.q42 Z Q X1) (law07_long.j54 Z Q X1) := by
  rw [law07_long.q32]; exact ok_block (law07_long.s53_ok Z Q X1)
theorem law07_long.o56 (Z : List PanicEntry → PT) (Q : Bool → PT) (X1 : Option Addr → Nat → Nat → Int → Int → PT) : Ok Tryd.prog Tryd.f15.ntmps Z law07_long.c22 (law07_long.q29 Z Q X1) (law07_long.j54 Z Q X1) := by
  rw [law07_long.q26]; exact ok_seq (law07_long.o55 Z Q X1) (law07_long.s27_ok Z Q X1)
def law07_long.s57 (Z : List PanicEntry → PT) (Q : Bool → PT) (X1 : Option Addr → Nat → Nat → Int → Int → PT) (l_0 : Option Addr) (l_0n l_0c : Nat) (n_3 : Int) (i_4 : Int) : PT :=
  (pif (decide (i_4 < ((l_0n : Nat) : Int))) (pif (decide (i_4 < 70)) (pif (decide (n_3 ≤ 4000)) (law07_long.s53 Z Q X1 l_0 l_0n l_0c n_3 i_4) (law07_long.s8 Z Q l_0 l_0n l_0c n_3)) (law07_long.s8 Z Q l_0 l_0n l_0c n_3)) (law07_long.s8 Z Q l_0 l_0n l_0c n_3))
theorem law07_long.s57_eq (Z : List PanicEntry → PT) (Q : Bool → PT) (X1 : Option Addr → Nat → Nat → Int → Int → PT) (ρ : Fr) (l_0 : Option Addr) (l_0n l_0c : Nat) (n_3 : Int) (i_4 : Int) : (comp Tryd.prog Z law07_long.c21 (thenK (law07_long.j54 Z Q X1) (law07_long.q29 Z Q X1))) (puts ρ [(0, (Value.slice l_0 l_0n l_0c)), (3, (Value.int .i64 n_3)), (4, (Value.int .i64 i_4))]) = law07_long.s57 Z Q X1 l_0 l_0n l_0c n_3 i_4 := by kernel_rfl
def law07_long.j58 (Z : List PanicEntry → PT) (Q : Bool → PT) (X1 : Option Addr → Nat → Nat → Int → Int → PT) : Fr → PT := (fun ρ => atL (ρ 0) fun l_0 l_0n l_0c => atI .i64 (ρ 3) fun n_3 => atI .i64 (ρ 4) fun i_4 => (law07_long.s57 Z Q X1 l_0 l_0n l_0c n_3 i_4))
theorem law07_long.s57_ok (Z : List PanicEntry → PT) (Q : Bool → PT) (X1 : Option Addr → Nat → Nat → Int → Int → PT) : Ok Tryd.prog Tryd.f15.ntmps Z law07_long.c16 (law07_long.q29 Z Q X1) (law07_long.j58 Z Q X1) := by
  intro E he ρ w a hr h
  rw [law07_long.q23] at he ⊢
  obtain ⟨l_0, l_0n, l_0c, e0, h⟩ := atL_e h
  obtain ⟨n_3, e3, h⟩ := atI_e h
  obtain ⟨i_4, e4, h⟩ := atI_e h
  exact ok_at [(0, (Value.slice l_0 l_0n l_0c)), (3, (Value.int .i64 n_3)), (4, (Value.int .i64 i_4))] (ok_seq (okC law07_long.c21 _ (by kernel_rfl)) (law07_long.o56 Z Q X1)) (puts_cons e0 (puts_cons e3 (puts_cons e4 (fun p hp => puts_nil hp)))) (law07_long.s57_eq Z Q X1 ρ l_0 l_0n l_0c n_3 i_4) he hr h
def law07_long.l18 (Z : List PanicEntry → PT) (Q : Bool → PT) : Nat → Option Addr → Nat → Nat → Int → Int → PT
  | 0, _, _, _, _, _ => bad
  | k + 1, l_0, l_0n, l_0c, n_3, i_4 => (law07_long.s57 Z Q (law07_long.l18 Z Q k) l_0 l_0n l_0c n_3 i_4)
def law07_long.j59 (Z : List PanicEntry → PT) (Q : Bool → PT) (k : Nat) : Fr → PT := (fun ρ => atL (ρ 0) fun l_0 l_0n l_0c => atI .i64 (ρ 3) fun n_3 => atI .i64 (ρ 4) fun i_4 => (law07_long.l18 Z Q k l_0 l_0n l_0c n_3 i_4))
def law07_long.j60 (Z : List PanicEntry → PT) (Q : Bool → PT) : Fr → PT := (fun ρ => atL (ρ 0) fun l_0 l_0n l_0c => atI .i64 (ρ 3) fun n_3 => atI .i64 (ρ 4) fun i_4 => (exK fun k => law07_long.l18 Z Q k l_0 l_0n l_0c n_3 i_4))
theorem law07_long.o61 (Z : List PanicEntry → PT) (Q : Bool → PT) : Ok Tryd.prog Tryd.f15.ntmps Z law07_long.c14 (law07_long.q20 Z Q) (law07_long.j60 Z Q) := by
  rw [law07_long.q17]
  refine Ok.imp (ok_loop (J := law07_long.j59 Z Q) ?_ ?_) ?_
  · intro ρ w h
    obtain ⟨l_0, l_0n, l_0c, e0, h⟩ := atL_e h
    obtain ⟨n_3, e3, h⟩ := atI_e h
    obtain ⟨i_4, e4, h⟩ := atI_e h
    exact h
  · intro k
    refine Ok.imp (law07_long.s57_ok Z Q (law07_long.l18 Z Q k)) fun ρ w h => ?_
    obtain ⟨l_0, l_0n, l_0c, e0, h⟩ := atL_e h
    obtain ⟨n_3, e3, h⟩ := atI_e h
    obtain ⟨i_4, e4, h⟩ := atI_e h
    show (law07_long.j58 Z Q (law07_long.l18 Z Q k)) ρ w
    simp only [law07_long.j58]
    rw [e0]
    rw [e3]
    rw [e4]
    exact h
  · intro ρ w h
    obtain ⟨l_0, l_0n, l_0c, e0, h⟩ := atL_e h
    obtain ⟨n_3, e3, h⟩ := atI_e h
    obtain ⟨i_4, e4, h⟩ := atI_e h
    obtain ⟨k, h⟩ := h
    refine ⟨k, ?_⟩
    show (atL (ρ 0) fun l_0 l_0n l_0c => atI .i64 (ρ 3) fun n_3 => atI .i64 (ρ 4) fun i_4 => (law07_long.l18 Z Q k l_0 l_0n l_0c n_3 i_4)) w
    rw [e0]
    rw [e3]
    rw [e4]
    exact h
theorem law07_long.o62 (Z : List PanicEntry → PT) (Q : Bool → PT) : Ok Tryd.prog Tryd.f15.ntmps Z law07_long.c12 (law07_long.q19 Z Q) (law07_long.j60 Z Q) := by
  rw [law07_long.q15]; exact ok_block (law07_long.o61 Z Q)
def law07_long.s63 (Z : List PanicEntry → PT) (Q : Bool → PT) (l_0 : Option Addr) (l_0n l_0c : Nat) (n_3 : Int) : PT :=
  (exK fun k => law07_long.l18 Z Q k l_0 l_0n l_0c n_3 0)
theorem law07_long.s63_eq (Z : List PanicEntry → PT) (Q : Bool → PT) (ρ : Fr) (l_0 : Option Addr) (l_0n l_0c : Nat) (n_3 : Int) : (comp Tryd.prog Z law07_long.c11 (thenK (law07_long.j60 Z Q) (law07_long.q19 Z Q))) (puts ρ [(0, (Value.slice l_0 l_0n l_0c)), (3, (Value.int .i64 n_3))]) = law07_long.s63 Z Q l_0 l_0n l_0c n_3 := by kernel_rfl
def law07_long.j64 (Z : List PanicEntry → PT) (Q : Bool → PT) : Fr → PT := (fun ρ => atL (ρ 0) fun l_0 l_0n l_0c => atI .i64 (ρ 3) fun n_3 => (law07_long.s63 Z Q l_0 l_0n l_0c n_3))
theorem law07_long.s63_ok (Z : List PanicEntry → PT) (Q : Bool → PT) : Ok Tryd.prog Tryd.f15.ntmps Z law07_long.c5 (law07_long.q19 Z Q) (law07_long.j64 Z Q) := by
  intro E he ρ w a hr h
  rw [law07_long.q13] at he ⊢
  obtain ⟨l_0, l_0n, l_0c, e0, h⟩ := atL_e h
  obtain ⟨n_3, e3, h⟩ := atI_e h
  exact ok_at [(0, (Value.slice l_0 l_0n l_0c)), (3, (Value.int .i64 n_3))] (ok_seq (okC law07_long.c11 _ (by kernel_rfl)) (law07_long.o62 Z Q)) (puts_cons e0 (puts_cons e3 (fun p hp => puts_nil hp))) (law07_long.s63_eq Z Q ρ l_0 l_0n l_0c n_3) he hr h
theorem law07_long.o65 (Z : List PanicEntry → PT) (Q : Bool → PT) : Ok Tryd.prog Tryd.f15.ntmps Z law07_long.c3 (law07_long.q9 Z Q) (law07_long.j64 Z Q) := by
  rw [law07_long.q7]; exact ok_seq (law07_long.s63_ok Z Q) (law07_long.s8_ok Z Q)
def law07_long.s66 (Z : List PanicEntry → PT) (Q : Bool → PT) (l_0 : Option Addr) (l_0n l_0c : Nat) : PT :=
  (law07_long.s63 Z Q l_0 l_0n l_0c 0)
theorem law07_long.s66_eq (Z : List PanicEntry → PT) (Q : Bool → PT) (ρ : Fr) (l_0 : Option Addr) (l_0n l_0c : Nat) : (comp Tryd.prog Z law07_long.c1 (thenK (comp Tryd.prog Z law07_long.c2 (thenK (law07_long.j64 Z Q) (law07_long.q9 Z Q))) (law07_long.q9 Z Q))) (puts ρ [(0, (Value.slice l_0 l_0n l_0c))]) = law07_long.s66 Z Q l_0 l_0n l_0c := by kernel_rfl
def law07_long.j67 (Z : List PanicEntry → PT) (Q : Bool → PT) : Fr → PT := (fun ρ => atL (ρ 0) fun l_0 l_0n l_0c => (law07_long.s66 Z Q l_0 l_0n l_0c))
theorem law07_long.s66_ok (Z : List PanicEntry → PT) (Q : Bool → PT) : Ok Tryd.prog Tryd.f15.ntmps Z law07_long.body (law07_long.q9 Z Q) (law07_long.j67 Z Q) := by
  intro E he ρ w a hr h
  rw [law07_long.q4] at he ⊢
  obtain ⟨l_0, l_0n, l_0c, e0, h⟩ := atL_e h
  exact ok_at [(0, (Value.slice l_0 l_0n l_0c))] (ok_seq (okC law07_long.c1 _ (by kernel_rfl)) (ok_seq (okC law07_long.c2 _ (by kernel_rfl)) (law07_long.o65 Z Q))) (puts_cons e0 (fun p hp => puts_nil hp)) (law07_long.s66_eq Z Q ρ l_0 l_0n l_0c) he hr h
def law07_long.F (Z : List PanicEntry → PT) (Q : Bool → PT) (l_0 : Option Addr) (l_0n l_0c : Nat) : PT :=
  (law07_long.s66 Z Q l_0 l_0n l_0c)
theorem law07_long.vc (Z : List PanicEntry → PT) (Q : Bool → PT) (l_0 : Option Addr) (l_0n l_0c : Nat) (w : World) (h : law07_long.F Z Q l_0 l_0n l_0c w) : Calls Tryd.prog 15 ⟨[(Value.slice l_0 l_0n l_0c)]⟩ w fun e w' => (∃ (r0 : Bool), e = .returned (.bool r0) ∧ Q r0 w') ∨ ∃ c, e = .panicked c ∧ Z c w' := by
  refine (calls_of_ok (args := [(Value.slice l_0 l_0n l_0c)]) (w := w) (rs := [.tmp 2]) (fn := Tryd.f15) (c := law07_long.body) Tryd.func15 (by kernel_rfl) (by kernel_rfl) (Nat.le_of_ble_eq_true (by kernel_rfl)) (law07_long.s66_ok Z Q) (h)).mono fun e w' hR => ?_
  cases e with
  | returned v =>
    obtain ⟨va, rfl, hR⟩ := atB_e hR
    exact .inl ⟨va, rfl, hR⟩
  | panicked c => exact .inr ⟨c, rfl, hR⟩
  | outgrown => exact hR.elim
theorem law07_long.vc0 (Q : Bool → PT) (l_0 : Option Addr) (l_0n l_0c : Nat) (w : World) (h : law07_long.F Z0 Q l_0 l_0n l_0c w) : Calls Tryd.prog 15 ⟨[(Value.slice l_0 l_0n l_0c)]⟩ w fun e w' => (∃ (r0 : Bool), e = .returned (.bool r0) ∧ Q r0 w') :=
  (law07_long.vc Z0 Q l_0 l_0n l_0c w h).mono fun _ _ hR => hR.elim id fun ⟨_, _, hz⟩ => hz.elim
theorem law07_long.cal {Z : List PanicEntry → PT} {Q : Bool → PT} {l_0 : Option Addr} {l_0n l_0c : Nat} {w : World} (h : law07_long.F Z Q l_0 l_0n l_0c w) : Go.Proofs.YtllgjjldnnmjkaaDoor.cal Tryd.prog Z 15 [(Value.slice l_0 l_0n l_0c)] (isB fun r0 => Q r0) w := by
  refine (law07_long.vc Z Q l_0 l_0n l_0c w h).mono fun e w' hR => ?_
  rcases hR with ⟨r0, rfl, h⟩ | ⟨c, rfl, h⟩
  · show (isB fun r0 => Q r0) (.bool r0) w'
    exact ⟨_, rfl, h⟩
  · exact h

end Go.Proofs.YtllgjjldnnmjkaaDoor
