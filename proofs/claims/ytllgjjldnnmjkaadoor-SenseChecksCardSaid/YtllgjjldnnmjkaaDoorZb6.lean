/-
  Texts of this claim, one behind the other: part 6 of 7. No condition.
-/
import Derived.Test.YtllgjjldnnmjkaaDoorZb5
set_option linter.unusedVariables false
set_option linter.unusedSimpArgs false
section
namespace Go.Proofs.YtllgjjldnnmjkaaDoor
open Go.RowKit
set_option maxRecDepth 100000

/-! ### milepost/milepostlaw07.awake: function 11 -/
noncomputable def law07_awake.body : Code := bodyC Tryd.f11
def law07_awake.F (Z : ZT) (Q : Bool → PT)  : PT :=
  (cal Tryd.prog Z 12 [(Value.string ⟨#[57, 32, 100, 112, 111, 114, 116, 32, 56, 48, 32, 45, 62, 32, 112, 111, 114, 116, 32, 49, 10, 57, 32, 115, 114, 99, 32, 49, 48, 46, 48, 46, 48, 46, 48, 47, 56, 32, 45, 62, 32, 112, 111, 114, 116, 32, 50, 10, 100, 101, 102, 97, 117, 108, 116, 32, 45, 62, 32, 100, 114, 111, 112]⟩)] (isT3 fun t51 t52 t53 => (isL fun v54 v54n v54c => ((isI .i64 fun v55 => ((isI .i64 fun v56 => (cal Tryd.prog Z 21 [(Value.slice v54 v54n v54c), (Value.agg ⟨[(Value.int .u8 10), (Value.int .u8 0), (Value.int .u8 0), (Value.int .u8 1), (Value.int .u8 0), (Value.int .u8 0), (Value.int .u8 0), (Value.int .u8 0), (Value.int .u8 0), (Value.int .u8 0), (Value.int .u8 0), (Value.int .u8 80), (Value.int .u8 0)]⟩)] (isT2 fun t57 t58 => (isI .i64 fun v59 => ((isB fun v60 => (cal Tryd.prog Z 21 [(Value.slice v54 v54n v54c), (Value.agg ⟨[(Value.int .u8 10), (Value.int .u8 0), (Value.int .u8 0), (Value.int .u8 1), (Value.int .u8 0), (Value.int .u8 0), (Value.int .u8 0), (Value.int .u8 0), (Value.int .u8 0), (Value.int .u8 0), (Value.int .u8 0), (Value.int .u8 81), (Value.int .u8 0)]⟩)] (isT2 fun t61 t62 => (isI .i64 fun v63 => ((isB fun v64 => (cal Tryd.prog Z 12 [(Value.string ⟨#[49, 32, 115, 114, 99, 32, 49, 46, 50, 46, 51, 46, 50, 53, 54, 32, 45, 62, 32, 100, 114, 111, 112]⟩)] (isT3 fun t65 t66 t67 => (isL fun v68 v68n v68c => ((isI .i64 fun v69 => ((isI .i64 fun v70 => (pif (v55 == 0) (pif v60 (pif v64 (pif (v59 == 1) (pif (v63 == 2) (pif (v69 == 10) (Q (v70 == 12)) (Q false)) (Q false)) (Q false)) (Q false)) (Q false)) (Q false))) t67)) t66)) t65))) t62)) t61))) t58)) t57))) t53)) t52)) t51))
def law07_awake.q1 (Z : ZT) (Q : Bool → PT) : QF := bodyQ Tryd.prog [.tmp 0] (fun v => atB v fun va => Q va)
theorem law07_awake.eq (Z : ZT) (Q : Bool → PT)  : comp Tryd.prog Z law07_awake.body (law07_awake.q1 Z Q) (fr0 []) = law07_awake.F Z Q  := by kernel_rfl
theorem law07_awake.vc (Z : ZT) (Q : Bool → PT)  (w : World) (h : law07_awake.F Z Q  w) : Calls Tryd.prog 11 ⟨[]⟩ w fun e w' => (∃ (r0 : Bool), e = .returned (.bool r0) ∧ Q r0 w') ∨ ∃ c, e = .panicked c ∧ Z c w' := by
  refine (calls_of_ok (args := []) (w := w) (rs := [.tmp 0]) (fn := Tryd.f11) (c := law07_awake.body) Tryd.func11 (by kernel_rfl) (by kernel_rfl) (Nat.le_of_ble_eq_true (by kernel_rfl)) (okC law07_awake.body (law07_awake.q1 Z Q) (by kernel_rfl)) (by rw [law07_awake.eq]; exact h)).mono fun e w' hR => ?_
  cases e with
  | returned v =>
    obtain ⟨va, rfl, hR⟩ := atB_e hR
    exact .inl ⟨va, rfl, hR⟩
  | panicked c => exact .inr ⟨c, rfl, hR⟩
  | outgrown => exact hR.elim
theorem law07_awake.vc0 (Q : Bool → PT)  (w : World) (h : law07_awake.F Z0 Q  w) : Calls Tryd.prog 11 ⟨[]⟩ w fun e w' => (∃ (r0 : Bool), e = .returned (.bool r0) ∧ Q r0 w') :=
  (law07_awake.vc Z0 Q  w h).mono fun _ _ hR => hR.elim id fun ⟨_, _, hz⟩ => hz.elim
theorem law07_awake.cal {Z : ZT} {Q : Bool → PT}  {w : World} (h : law07_awake.F Z Q  w) : Go.Proofs.YtllgjjldnnmjkaaDoor.cal Tryd.prog Z 11 [] (isB fun r0 => Q r0) w := by
  refine (law07_awake.vc Z Q  w h).mono fun e w' hR => ?_
  rcases hR with ⟨r0, rfl, h⟩ | ⟨c, rfl, h⟩
  · show (isB fun r0 => Q r0) (.bool r0) w'
    exact ⟨_, rfl, h⟩
  · exact h

/-! ### milepost/milepostlaw07.SenseReads: function 3 -/
noncomputable def law07_SenseReads.body : Code := bodyC Tryd.f3
def law07_SenseReads.F (Z : ZT) (Q : Bool → PT) (s_0 : ByteArray) : PT :=
  (cal Tryd.prog Z 11 [] (isB fun v38 => (pif (!v38) (Q false) (cal Tryd.prog Z 12 [(Value.string s_0)] (isT3 fun t39 t40 t41 => (isL fun v42 v42n v42c => ((isI .i64 fun v43 => ((isI .i64 fun v44 => (cal Tryd.prog Z 13 [(Value.string s_0)] (isT3 fun t45 t46 t47 => (isL fun v48 v48n v48c => ((isI .i64 fun v49 => ((isI .i64 fun v50 => (pif (v43 != v49) (Q false) (pif (v44 != v50) (Q false) (cal Tryd.prog Z 14 [(Value.slice v42 v42n v42c), (Value.slice v48 v48n v48c)] (isB fun v51 => (pif (!v51) (Q false) (pif (v43 == 0) (pif (decide (((v42n : Nat) : Int) > 0)) (pif (v44 == 0) (Q true) (pif (v43 != 0) (pif (((v42n : Nat) : Int) == 0) (pif (decide (v44 ≥ 0)) (Q (decide (v44 ≤ ((s_0.size : Nat) : Int)))) (Q false)) (Q false)) (Q false))) (pif (v43 != 0) (pif (((v42n : Nat) : Int) == 0) (pif (decide (v44 ≥ 0)) (Q (decide (v44 ≤ ((s_0.size : Nat) : Int)))) (Q false)) (Q false)) (Q false))) (pif (v43 != 0) (pif (((v42n : Nat) : Int) == 0) (pif (decide (v44 ≥ 0)) (Q (decide (v44 ≤ ((s_0.size : Nat) : Int)))) (Q false)) (Q false)) (Q false))))))))) t47)) t46)) t45))) t41)) t40)) t39)))))
def law07_SenseReads.q1 (Z : ZT) (Q : Bool → PT) : QF := bodyQ Tryd.prog [.tmp 2] (fun v => atB v fun va => Q va)
theorem law07_SenseReads.eq (Z : ZT) (Q : Bool → PT) (s_0 : ByteArray) : comp Tryd.prog Z law07_SenseReads.body (law07_SenseReads.q1 Z Q) (fr0 [(Value.string s_0)]) = law07_SenseReads.F Z Q s_0 := by kernel_rfl
theorem law07_SenseReads.vc (Z : ZT) (Q : Bool → PT) (s_0 : ByteArray) (w : World) (h : law07_SenseReads.F Z Q s_0 w) : Calls Tryd.prog 3 ⟨[(Value.string s_0)]⟩ w fun e w' => (∃ (r0 : Bool), e = .returned (.bool r0) ∧ Q r0 w') ∨ ∃ c, e = .panicked c ∧ Z c w' := by
  refine (calls_of_ok (args := [(Value.string s_0)]) (w := w) (rs := [.tmp 2]) (fn := Tryd.f3) (c := law07_SenseReads.body) Tryd.func3 (by kernel_rfl) (by kernel_rfl) (Nat.le_of_ble_eq_true (by kernel_rfl)) (okC law07_SenseReads.body (law07_SenseReads.q1 Z Q) (by kernel_rfl)) (by rw [law07_SenseReads.eq]; exact h)).mono fun e w' hR => ?_
  cases e with
  | returned v =>
    obtain ⟨va, rfl, hR⟩ := atB_e hR
    exact .inl ⟨va, rfl, hR⟩
  | panicked c => exact .inr ⟨c, rfl, hR⟩
  | outgrown => exact hR.elim
theorem law07_SenseReads.vc0 (Q : Bool → PT) (s_0 : ByteArray) (w : World) (h : law07_SenseReads.F Z0 Q s_0 w) : Calls Tryd.prog 3 ⟨[(Value.string s_0)]⟩ w fun e w' => (∃ (r0 : Bool), e = .returned (.bool r0) ∧ Q r0 w') :=
  (law07_SenseReads.vc Z0 Q s_0 w h).mono fun _ _ hR => hR.elim id fun ⟨_, _, hz⟩ => hz.elim
theorem law07_SenseReads.cal {Z : ZT} {Q : Bool → PT} {s_0 : ByteArray} {w : World} (h : law07_SenseReads.F Z Q s_0 w) : Go.Proofs.YtllgjjldnnmjkaaDoor.cal Tryd.prog Z 3 [(Value.string s_0)] (isB fun r0 => Q r0) w := by
  refine (law07_SenseReads.vc Z Q s_0 w h).mono fun e w' hR => ?_
  rcases hR with ⟨r0, rfl, h⟩ | ⟨c, rfl, h⟩
  · show (isB fun r0 => Q r0) (.bool r0) w'
    exact ⟨_, rfl, h⟩
  · exact h

/-! ### milepost/milepostlaw07.SenseChecks: function 4 -/
noncomputable def law07_SenseChecks.body : Code := bodyC Tryd.f4
def law07_SenseChecks.F (Z : ZT) (Q : Bool → PT) (l_0 : OA) (l_0n l_0c : Nat) (size_1 : Int) : PT :=
  (cal Tryd.prog Z 11 [] (isB fun v28 => (pif (!v28) (Q false) (cal Tryd.prog Z 15 [(Value.slice l_0 l_0n l_0c)] (isB fun v29 => (pif v29 (Q true) (cal Tryd.prog Z 16 [(Value.slice l_0 l_0n l_0c), (Value.int .i64 size_1)] (isT3 fun t30 t31 t32 => (isL fun v33 v33n v33c => ((isI .i64 fun v34 => ((isI .i64 fun v35 => (cal Tryd.prog Z 17 [(Value.slice l_0 l_0n l_0c), (Value.int .i64 size_1)] (isT3 fun t36 t37 t38 => (isL fun v39 v39n v39c => ((isI .i64 fun v40 => ((isI .i64 fun v41 => (pif (v34 == v40) (pif (v35 == v41) (cal Tryd.prog Z 14 [(Value.slice v33 v33n v33c), (Value.slice v39 v39n v39c)] (isB fun v42 => (Q v42))) (Q false)) (Q false))) t38)) t37)) t36))) t32)) t31)) t30))))))))
def law07_SenseChecks.q1 (Z : ZT) (Q : Bool → PT) : QF := bodyQ Tryd.prog [.tmp 4] (fun v => atB v fun va => Q va)
theorem law07_SenseChecks.eq (Z : ZT) (Q : Bool → PT) (l_0 : OA) (l_0n l_0c : Nat) (size_1 : Int) : comp Tryd.prog Z law07_SenseChecks.body (law07_SenseChecks.q1 Z Q) (fr0 [(Value.slice l_0 l_0n l_0c), (Value.int .i64 size_1)]) = law07_SenseChecks.F Z Q l_0 l_0n l_0c size_1 := by kernel_rfl
theorem law07_SenseChecks.vc (Z : ZT) (Q : Bool → PT) (l_0 : OA) (l_0n l_0c : Nat) (size_1 : Int) (w : World) (h : law07_SenseChecks.F Z Q l_0 l_0n l_0c size_1 w) : Calls Tryd.prog 4 ⟨[(Value.slice l_0 l_0n l_0c), (Value.int .i64 size_1)]⟩ w fun e w' => (∃ (r0 : Bool), e = .returned (.bool r0) ∧ Q r0 w') ∨ ∃ c, e = .panicked c ∧ Z c w' := by
  refine (calls_of_ok (args := [(Value.slice l_0 l_0n l_0c), (Value.int .i64 size_1)]) (w := w) (rs := [.tmp 4]) (fn := Tryd.f4) (c := law07_SenseChecks.body) Tryd.func4 (by kernel_rfl) (by kernel_rfl) (Nat.le_of_ble_eq_true (by kernel_rfl)) (okC law07_SenseChecks.body (law07_SenseChecks.q1 Z Q) (by kernel_rfl)) (by rw [law07_SenseChecks.eq]; exact h)).mono fun e w' hR => ?_
  cases e with
  | returned v =>
    obtain ⟨va, rfl, hR⟩ := atB_e hR
    exact .inl ⟨va, rfl, hR⟩
  | panicked c => exact .inr ⟨c, rfl, hR⟩
  | outgrown => exact hR.elim
theorem law07_SenseChecks.vc0 (Q : Bool → PT) (l_0 : OA) (l_0n l_0c : Nat) (size_1 : Int) (w : World) (h : law07_SenseChecks.F Z0 Q l_0 l_0n l_0c size_1 w) : Calls Tryd.prog 4 ⟨[(Value.slice l_0 l_0n l_0c), (Value.int .i64 size_1)]⟩ w fun e w' => (∃ (r0 : Bool), e = .returned (.bool r0) ∧ Q r0 w') :=
  (law07_SenseChecks.vc Z0 Q l_0 l_0n l_0c size_1 w h).mono fun _ _ hR => hR.elim id fun ⟨_, _, hz⟩ => hz.elim
theorem law07_SenseChecks.cal {Z : ZT} {Q : Bool → PT} {l_0 : OA} {l_0n l_0c : Nat} {size_1 : Int} {w : World} (h : law07_SenseChecks.F Z Q l_0 l_0n l_0c size_1 w) : Go.Proofs.YtllgjjldnnmjkaaDoor.cal Tryd.prog Z 4 [(Value.slice l_0 l_0n l_0c), (Value.int .i64 size_1)] (isB fun r0 => Q r0) w := by
  refine (law07_SenseChecks.vc Z Q l_0 l_0n l_0c size_1 w h).mono fun e w' hR => ?_
  rcases hR with ⟨r0, rfl, h⟩ | ⟨c, rfl, h⟩
  · show (isB fun r0 => Q r0) (.bool r0) w'
    exact ⟨_, rfl, h⟩
  · exact h

/-! ### milepost/milepostlaw07.long: function 15 -/
noncomputable def law07_long.body : Code := bodyC Tryd.f15
noncomputable def law07_long.c1 : Code := sq1 law07_long.body
noncomputable def law07_long.c2 : Code := sq1 (sq2 law07_long.body)
noncomputable def law07_long.c3 : Code := sq2 (sq2 law07_long.body)
theorem law07_long.q4 : law07_long.body = .seq law07_long.c1 (.seq law07_long.c2 law07_long.c3) := by kernel_rfl
noncomputable def law07_long.c5 : Code := sq1 law07_long.c3
noncomputable def law07_long.c6 : Code := sq2 law07_long.c3
theorem law07_long.q7 : law07_long.c3 = .seq law07_long.c5 law07_long.c6 := by kernel_rfl
def law07_long.s8 (Z : ZT) (Q : Bool → PT) (l_0 : OA) (l_0n l_0c : Nat) (n_3 : Int) : PT :=
  (pif (decide (n_3 > 4000)) (Q true) (Q (decide (((l_0n : Nat) : Int) > 70))))
def law07_long.q9 (Z : ZT) (Q : Bool → PT) : QF := bodyQ Tryd.prog [.tmp 2] (fun v => atB v fun va => Q va)
theorem law07_long.s8_eq (Z : ZT) (Q : Bool → PT) (ρ : Fr) (l_0 : OA) (l_0n l_0c : Nat) (n_3 : Int) : comp Tryd.prog Z law07_long.c6 (law07_long.q9 Z Q) (puts ρ [(0, (Value.slice l_0 l_0n l_0c)), (3, (Value.int .i64 n_3))]) = law07_long.s8 Z Q l_0 l_0n l_0c n_3 := by kernel_rfl
def law07_long.j10 (Z : ZT) (Q : Bool → PT) : Fr → PT := (fun ρ => atL (ρ 0) fun l_0 l_0n l_0c => atI .i64 (ρ 3) fun n_3 => (law07_long.s8 Z Q l_0 l_0n l_0c n_3))
theorem law07_long.s8_ok (Z : ZT) (Q : Bool → PT) : Ok Tryd.prog Tryd.f15.ntmps Z law07_long.c6 (law07_long.q9 Z Q) (law07_long.j10 Z Q) := by
  intro E he ρ w a hr h
  obtain ⟨l_0, l_0n, l_0c, e0, h⟩ := atL_e h
  obtain ⟨n_3, e3, h⟩ := atI_e h
  exact ok_at [(0, (Value.slice l_0 l_0n l_0c)), (3, (Value.int .i64 n_3))] (okC law07_long.c6 (law07_long.q9 Z Q) (by kernel_rfl)) (puts_cons e0 (puts_cons e3 (fun p hp => puts_nil hp))) (law07_long.s8_eq Z Q ρ l_0 l_0n l_0c n_3) he hr h
noncomputable def law07_long.c11 : Code := sq1 law07_long.c5
noncomputable def law07_long.c12 : Code := sq2 law07_long.c5
theorem law07_long.q13 : law07_long.c5 = .seq law07_long.c11 law07_long.c12 := by kernel_rfl
noncomputable def law07_long.c14 : Code := blk law07_long.c12
theorem law07_long.q15 : law07_long.c12 = .block 0 law07_long.c14 := by kernel_rfl
noncomputable def law07_long.c16 : Code := lop law07_long.c14
theorem law07_long.q17 : law07_long.c14 = .loop law07_long.c16 := by kernel_rfl
def law07_long.q19 (Z : ZT) (Q : Bool → PT) : QF := thenK (law07_long.j10 Z Q) (law07_long.q9 Z Q)
def law07_long.q20 (Z : ZT) (Q : Bool → PT) : QF := inBl 0 (law07_long.q19 Z Q)
noncomputable def law07_long.c21 : Code := sq1 law07_long.c16
noncomputable def law07_long.c22 : Code := sq2 law07_long.c16
theorem law07_long.q23 : law07_long.c16 = .seq law07_long.c21 law07_long.c22 := by kernel_rfl
noncomputable def law07_long.c24 : Code := sq1 law07_long.c22
noncomputable def law07_long.c25 : Code := sq2 law07_long.c22
theorem law07_long.q26 : law07_long.c22 = .seq law07_long.c24 law07_long.c25 := by kernel_rfl
def law07_long.s27 (Z : ZT) (Q : Bool → PT) (X1 : OA → Nat → Nat → Int → Int → PT) (l_0 : OA) (l_0n l_0c : Nat) (n_3 : Int) (i_4 : Int) : PT :=
  (X1 l_0 l_0n l_0c n_3 (IntKind.wrap .i64 (i_4 + 1)))
def law07_long.j28 (Z : ZT) (Q : Bool → PT) (X1 : OA → Nat → Nat → Int → Int → PT) : Fr → PT := (fun ρ => atL (ρ 0) fun l_0 l_0n l_0c => atI .i64 (ρ 3) fun n_3 => atI .i64 (ρ 4) fun i_4 => (X1 l_0 l_0n l_0c n_3 i_4))
def law07_long.q29 (Z : ZT) (Q : Bool → PT) (X1 : OA → Nat → Nat → Int → Int → PT) : QF := thenK (law07_long.j28 Z Q X1) (law07_long.q20 Z Q)
theorem law07_long.s27_eq (Z : ZT) (Q : Bool → PT) (X1 : OA → Nat → Nat → Int → Int → PT) (ρ : Fr) (l_0 : OA) (l_0n l_0c : Nat) (n_3 : Int) (i_4 : Int) : comp Tryd.prog Z law07_long.c25 (law07_long.q29 Z Q X1) (puts ρ [(0, (Value.slice l_0 l_0n l_0c)), (3, (Value.int .i64 n_3)), (4, (Value.int .i64 i_4))]) = law07_long.s27 Z Q X1 l_0 l_0n l_0c n_3 i_4 := by kernel_rfl
def law07_long.j30 (Z : ZT) (Q : Bool → PT) (X1 : OA → Nat → Nat → Int → Int → PT) : Fr → PT := (fun ρ => atL (ρ 0) fun l_0 l_0n l_0c => atI .i64 (ρ 3) fun n_3 => atI .i64 (ρ 4) fun i_4 => (law07_long.s27 Z Q X1 l_0 l_0n l_0c n_3 i_4))
theorem law07_long.s27_ok (Z : ZT) (Q : Bool → PT) (X1 : OA → Nat → Nat → Int → Int → PT) : Ok Tryd.prog Tryd.f15.ntmps Z law07_long.c25 (law07_long.q29 Z Q X1) (law07_long.j30 Z Q X1) := by
  intro E he ρ w a hr h
  obtain ⟨l_0, l_0n, l_0c, e0, h⟩ := atL_e h
  obtain ⟨n_3, e3, h⟩ := atI_e h
  obtain ⟨i_4, e4, h⟩ := atI_e h
  exact ok_at [(0, (Value.slice l_0 l_0n l_0c)), (3, (Value.int .i64 n_3)), (4, (Value.int .i64 i_4))] (okC law07_long.c25 (law07_long.q29 Z Q X1) (by kernel_rfl)) (puts_cons e0 (puts_cons e3 (puts_cons e4 (fun p hp => puts_nil hp)))) (law07_long.s27_eq Z Q X1 ρ l_0 l_0n l_0c n_3 i_4) he hr h
noncomputable def law07_long.c31 : Code := blk law07_long.c24
theorem law07_long.q32 : law07_long.c24 = .block 1 law07_long.c31 := by kernel_rfl
noncomputable def law07_long.c33 : Code := sq1 law07_long.c31
noncomputable def law07_long.c34 : Code := sq1 (sq2 law07_long.c31)
noncomputable def law07_long.c35 : Code := sq2 (sq2 law07_long.c31)
theorem law07_long.q36 : law07_long.c31 = .seq law07_long.c33 (.seq law07_long.c34 law07_long.c35) := by kernel_rfl
noncomputable def law07_long.c37 : Code := blk law07_long.c35
theorem law07_long.q38 : law07_long.c35 = .block 2 law07_long.c37 := by kernel_rfl
noncomputable def law07_long.c39 : Code := lop law07_long.c37
theorem law07_long.q40 : law07_long.c37 = .loop law07_long.c39 := by kernel_rfl
def law07_long.q42 (Z : ZT) (Q : Bool → PT) (X1 : OA → Nat → Nat → Int → Int → PT) : QF := thenK (law07_long.j30 Z Q X1) (law07_long.q29 Z Q X1)
def law07_long.q43 (Z : ZT) (Q : Bool → PT) (X1 : OA → Nat → Nat → Int → Int → PT) : QF := inBl 1 (law07_long.q42 Z Q X1)
def law07_long.q44 (Z : ZT) (Q : Bool → PT) (X1 : OA → Nat → Nat → Int → Int → PT) : QF := inBl 2 (law07_long.q43 Z Q X1)
def law07_long.s45 (Z : ZT) (Q : Bool → PT) (X1 : OA → Nat → Nat → Int → Int → PT) (X2 : OA → Nat → Nat → Int → Int → Int → PT) (l_0 : OA) (l_0n l_0c : Nat) (n_3 : Int) (i_4 : Int) (k_5 : Int) : PT :=
  (ixS l_0 l_0n i_4 8 fun v15 => (ldL (v15.add 4) fun v16 v16n v16c => (pif (decide (k_5 < ((v16n : Nat) : Int))) (pif (decide (n_3 ≤ 4000)) (ixS l_0 l_0n i_4 8 fun v17 => (ldL (v17.add 4) fun v18 v18n v18c => (ixS v18 v18n k_5 5 fun v19 => (ldL (v19.add 2) fun v20 v20n v20c => (X2 l_0 l_0n l_0c (IntKind.wrap .i64 (n_3 + (if 5000 < ((v20n : Nat) : Int) then 5000 else ((v20n : Nat) : Int)))) i_4 (IntKind.wrap .i64 (k_5 + 1))))))) (law07_long.s27 Z Q X1 l_0 l_0n l_0c n_3 i_4)) (law07_long.s27 Z Q X1 l_0 l_0n l_0c n_3 i_4))))
def law07_long.j46 (Z : ZT) (Q : Bool → PT) (X1 : OA → Nat → Nat → Int → Int → PT) (X2 : OA → Nat → Nat → Int → Int → Int → PT) : Fr → PT := (fun ρ => atL (ρ 0) fun l_0 l_0n l_0c => atI .i64 (ρ 3) fun n_3 => atI .i64 (ρ 4) fun i_4 => atI .i64 (ρ 5) fun k_5 => (X2 l_0 l_0n l_0c n_3 i_4 k_5))
def law07_long.q47 (Z : ZT) (Q : Bool → PT) (X1 : OA → Nat → Nat → Int → Int → PT) (X2 : OA → Nat → Nat → Int → Int → Int → PT) : QF := thenK (law07_long.j46 Z Q X1 X2) (law07_long.q44 Z Q X1)
theorem law07_long.s45_eq (Z : ZT) (Q : Bool → PT) (X1 : OA → Nat → Nat → Int → Int → PT) (X2 : OA → Nat → Nat → Int → Int → Int → PT) (ρ : Fr) (l_0 : OA) (l_0n l_0c : Nat) (n_3 : Int) (i_4 : Int) (k_5 : Int) : comp Tryd.prog Z law07_long.c39 (law07_long.q47 Z Q X1 X2) (puts ρ [(0, (Value.slice l_0 l_0n l_0c)), (3, (Value.int .i64 n_3)), (4, (Value.int .i64 i_4)), (5, (Value.int .i64 k_5))]) = law07_long.s45 Z Q X1 X2 l_0 l_0n l_0c n_3 i_4 k_5 := by kernel_rfl
def law07_long.j48 (Z : ZT) (Q : Bool → PT) (X1 : OA → Nat → Nat → Int → Int → PT) (X2 : OA → Nat → Nat → Int → Int → Int → PT) : Fr → PT := (fun ρ => atL (ρ 0) fun l_0 l_0n l_0c => atI .i64 (ρ 3) fun n_3 => atI .i64 (ρ 4) fun i_4 => atI .i64 (ρ 5) fun k_5 => (law07_long.s45 Z Q X1 X2 l_0 l_0n l_0c n_3 i_4 k_5))
theorem law07_long.s45_ok (Z : ZT) (Q : Bool → PT) (X1 : OA → Nat → Nat → Int → Int → PT) (X2 : OA → Nat → Nat → Int → Int → Int → PT) : Ok Tryd.prog Tryd.f15.ntmps Z law07_long.c39 (law07_long.q47 Z Q X1 X2) (law07_long.j48 Z Q X1 X2) := by
  intro E he ρ w a hr h
  obtain ⟨l_0, l_0n, l_0c, e0, h⟩ := atL_e h
  obtain ⟨n_3, e3, h⟩ := atI_e h
  obtain ⟨i_4, e4, h⟩ := atI_e h
  obtain ⟨k_5, e5, h⟩ := atI_e h
  exact ok_at [(0, (Value.slice l_0 l_0n l_0c)), (3, (Value.int .i64 n_3)), (4, (Value.int .i64 i_4)), (5, (Value.int .i64 k_5))] (okC law07_long.c39 (law07_long.q47 Z Q X1 X2) (by kernel_rfl)) (puts_cons e0 (puts_cons e3 (puts_cons e4 (puts_cons e5 (fun p hp => puts_nil hp))))) (law07_long.s45_eq Z Q X1 X2 ρ l_0 l_0n l_0c n_3 i_4 k_5) he hr h
def law07_long.l41 (Z : ZT) (Q : Bool → PT) (X1 : OA → Nat → Nat → Int → Int → PT) : Nat → OA → Nat → Nat → Int → Int → Int → PT
  | 0, _, _, _, _, _, _ => bad
  | k + 1, l_0, l_0n, l_0c, n_3, i_4, k_5 => (law07_long.s45 Z Q X1 (law07_long.l41 Z Q X1 k) l_0 l_0n l_0c n_3 i_4 k_5)
def law07_long.j49 (Z : ZT) (Q : Bool → PT) (X1 : OA → Nat → Nat → Int → Int → PT) (k : Nat) : Fr → PT := (fun ρ => atL (ρ 0) fun l_0 l_0n l_0c => atI .i64 (ρ 3) fun n_3 => atI .i64 (ρ 4) fun i_4 => atI .i64 (ρ 5) fun k_5 => (law07_long.l41 Z Q X1 k l_0 l_0n l_0c n_3 i_4 k_5))
def law07_long.j50 (Z : ZT) (Q : Bool → PT) (X1 : OA → Nat → Nat → Int → Int → PT) : Fr → PT := (fun ρ => atL (ρ 0) fun l_0 l_0n l_0c => atI .i64 (ρ 3) fun n_3 => atI .i64 (ρ 4) fun i_4 => atI .i64 (ρ 5) fun k_5 => (exK fun k => law07_long.l41 Z Q X1 k l_0 l_0n l_0c n_3 i_4 k_5))
theorem law07_long.o51 (Z : ZT) (Q : Bool → PT) (X1 : OA → Nat → Nat → Int → Int → PT) : Ok Tryd.prog Tryd.f15.ntmps Z law07_long.c37 (law07_long.q44 Z Q X1) (law07_long.j50 Z Q X1) := by
  rw [law07_long.q40]
  refine Ok.imp (ok_loop (J := law07_long.j49 Z Q X1) ?_ ?_) ?_
  · intro ρ w h
    obtain ⟨l_0, l_0n, l_0c, e0, h⟩ := atL_e h
    obtain ⟨n_3, e3, h⟩ := atI_e h
    obtain ⟨i_4, e4, h⟩ := atI_e h
    obtain ⟨k_5, e5, h⟩ := atI_e h
    exact h
  · intro k
    refine Ok.imp (law07_long.s45_ok Z Q X1 (law07_long.l41 Z Q X1 k)) fun ρ w h => ?_
    obtain ⟨l_0, l_0n, l_0c, e0, h⟩ := atL_e h
    obtain ⟨n_3, e3, h⟩ := atI_e h
    obtain ⟨i_4, e4, h⟩ := atI_e h
    obtain ⟨k_5, e5, h⟩ := atI_e h
    show (law07_long.j48 Z Q X1 (law07_long.l41 Z Q X1 k)) ρ w
    simp only [law07_long.j48]
    rw [e0]
    rw [e3]
    rw [e4]
    rw [e5]
    exact h
  · intro ρ w h
    obtain ⟨l_0, l_0n, l_0c, e0, h⟩ := atL_e h
    obtain ⟨n_3, e3, h⟩ := atI_e h
    obtain ⟨i_4, e4, h⟩ := atI_e h
    obtain ⟨k_5, e5, h⟩ := atI_e h
    obtain ⟨k, h⟩ := h
    refine ⟨k, ?_⟩
    show (atL (ρ 0) fun l_0 l_0n l_0c => atI .i64 (ρ 3) fun n_3 => atI .i64 (ρ 4) fun i_4 => atI .i64 (ρ 5) fun k_5 => (law07_long.l41 Z Q X1 k l_0 l_0n l_0c n_3 i_4 k_5)) w
    rw [e0]
    rw [e3]
    rw [e4]
    rw [e5]
    exact h
theorem law07_long.o52 (Z : ZT) (Q : Bool → PT) (X1 : OA → Nat → Nat → Int → Int → PT) : Ok Tryd.prog Tryd.f15.ntmps Z law07_long.c35 (law07_long.q43 Z Q X1) (law07_long.j50 Z Q X1) := by
  rw [law07_long.q38]; exact ok_block (law07_long.o51 Z Q X1)
def law07_long.s53 (Z : ZT) (Q : Bool → PT) (X1 : OA → Nat → Nat → Int → Int → PT) (l_0 : OA) (l_0n l_0c : Nat) (n_3 : Int) (i_4 : Int) : PT :=
  (ixS l_0 l_0n i_4 8 fun v21 => (ldL (v21.add 4) fun v22 v22n v22c => (exK fun k => law07_long.l41 Z Q X1 k l_0 l_0n l_0c (IntKind.wrap .i64 ((IntKind.wrap .i64 (n_3 + 1)) + (if 5000 < ((v22n : Nat) : Int) then 5000 else ((v22n : Nat) : Int)))) i_4 0)))
theorem law07_long.s53_eq (Z : ZT) (Q : Bool → PT) (X1 : OA → Nat → Nat → Int → Int → PT) (ρ : Fr) (l_0 : OA) (l_0n l_0c : Nat) (n_3 : Int) (i_4 : Int) : (comp Tryd.prog Z law07_long.c33 (thenK (comp Tryd.prog Z law07_long.c34 (thenK (law07_long.j50 Z Q X1) (law07_long.q43 Z Q X1))) (law07_long.q43 Z Q X1))) (puts ρ [(0, (Value.slice l_0 l_0n l_0c)), (3, (Value.int .i64 n_3)), (4, (Value.int .i64 i_4))]) = law07_long.s53 Z Q X1 l_0 l_0n l_0c n_3 i_4 := by kernel_rfl
def law07_long.j54 (Z : ZT) (Q : Bool → PT) (X1 : OA → Nat → Nat → Int → Int → PT) : Fr → PT := (fun ρ => atL (ρ 0) fun l_0 l_0n l_0c => atI .i64 (ρ 3) fun n_3 => atI .i64 (ρ 4) fun i_4 => (law07_long.s53 Z Q X1 l_0 l_0n l_0c n_3 i_4))
theorem law07_long.s53_ok (Z : ZT) (Q : Bool → PT) (X1 : OA → Nat → Nat → Int → Int → PT) : Ok Tryd.prog Tryd.f15.ntmps Z law07_long.c31 (law07_long.q43 Z Q X1) (law07_long.j54 Z Q X1) := by
  intro E he ρ w a hr h
  rw [law07_long.q36] at he ⊢
  obtain ⟨l_0, l_0n, l_0c, e0, h⟩ := atL_e h
  obtain ⟨n_3, e3, h⟩ := atI_e h
  obtain ⟨i_4, e4, h⟩ := atI_e h
  exact ok_at [(0, (Value.slice l_0 l_0n l_0c)), (3, (Value.int .i64 n_3)), (4, (Value.int .i64 i_4))] (ok_seq (okC law07_long.c33 _ (by kernel_rfl)) (ok_seq (okC law07_long.c34 _ (by kernel_rfl)) (law07_long.o52 Z Q X1))) (puts_cons e0 (puts_cons e3 (puts_cons e4 (fun p hp => puts_nil hp)))) (law07_long.s53_eq Z Q X1 ρ l_0 l_0n l_0c n_3 i_4) he hr h
theorem law07_long.o55 (Z : ZT) (Q : Bool → PT) (X1 : OA → Nat → Nat → Int → Int → PT) : Ok Tryd.prog Tryd.f15.ntmps Z law07_long.c24 (law07_long.q42 Z Q X1) (law07_long.j54 Z Q X1) := by
  rw [law07_long.q32]; exact ok_block (law07_long.s53_ok Z Q X1)
theorem law07_long.o56 (Z : ZT) (Q : Bool → PT) (X1 : OA → Nat → Nat → Int → Int → PT) : Ok Tryd.prog Tryd.f15.ntmps Z law07_long.c22 (law07_long.q29 Z Q X1) (law07_long.j54 Z Q X1) := by
  rw [law07_long.q26]; exact ok_seq (law07_long.o55 Z Q X1) (law07_long.s27_ok Z Q X1)
def law07_long.s57 (Z : ZT) (Q : Bool → PT) (X1 : OA → Nat → Nat → Int → Int → PT) (l_0 : OA) (l_0n l_0c : Nat) (n_3 : Int) (i_4 : Int) : PT :=
  (pif (decide (i_4 < ((l_0n : Nat) : Int))) (pif (decide (i_4 < 70)) (pif (decide (n_3 ≤ 4000)) (law07_long.s53 Z Q X1 l_0 l_0n l_0c n_3 i_4) (law07_long.s8 Z Q l_0 l_0n l_0c n_3)) (law07_long.s8 Z Q l_0 l_0n l_0c n_3)) (law07_long.s8 Z Q l_0 l_0n l_0c n_3))
theorem law07_long.s57_eq (Z : ZT) (Q : Bool → PT) (X1 : OA → Nat → Nat → Int → Int → PT) (ρ : Fr) (l_0 : OA) (l_0n l_0c : Nat) (n_3 : Int) (i_4 : Int) : (comp Tryd.prog Z law07_long.c21 (thenK (law07_long.j54 Z Q X1) (law07_long.q29 Z Q X1))) (puts ρ [(0, (Value.slice l_0 l_0n l_0c)), (3, (Value.int .i64 n_3)), (4, (Value.int .i64 i_4))]) = law07_long.s57 Z Q X1 l_0 l_0n l_0c n_3 i_4 := by kernel_rfl
def law07_long.j58 (Z : ZT) (Q : Bool → PT) (X1 : OA → Nat → Nat → Int → Int → PT) : Fr → PT := (fun ρ => atL (ρ 0) fun l_0 l_0n l_0c => atI .i64 (ρ 3) fun n_3 => atI .i64 (ρ 4) fun i_4 => (law07_long.s57 Z Q X1 l_0 l_0n l_0c n_3 i_4))
theorem law07_long.s57_ok (Z : ZT) (Q : Bool → PT) (X1 : OA → Nat → Nat → Int → Int → PT) : Ok Tryd.prog Tryd.f15.ntmps Z law07_long.c16 (law07_long.q29 Z Q X1) (law07_long.j58 Z Q X1) := by
  intro E he ρ w a hr h
  rw [law07_long.q23] at he ⊢
  obtain ⟨l_0, l_0n, l_0c, e0, h⟩ := atL_e h
  obtain ⟨n_3, e3, h⟩ := atI_e h
  obtain ⟨i_4, e4, h⟩ := atI_e h
  exact ok_at [(0, (Value.slice l_0 l_0n l_0c)), (3, (Value.int .i64 n_3)), (4, (Value.int .i64 i_4))] (ok_seq (okC law07_long.c21 _ (by kernel_rfl)) (law07_long.o56 Z Q X1)) (puts_cons e0 (puts_cons e3 (puts_cons e4 (fun p hp => puts_nil hp)))) (law07_long.s57_eq Z Q X1 ρ l_0 l_0n l_0c n_3 i_4) he hr h
def law07_long.l18 (Z : ZT) (Q : Bool → PT) : Nat → OA → Nat → Nat → Int → Int → PT
  | 0, _, _, _, _, _ => bad
  | k + 1, l_0, l_0n, l_0c, n_3, i_4 => (law07_long.s57 Z Q (law07_long.l18 Z Q k) l_0 l_0n l_0c n_3 i_4)
def law07_long.j59 (Z : ZT) (Q : Bool → PT) (k : Nat) : Fr → PT := (fun ρ => atL (ρ 0) fun l_0 l_0n l_0c => atI .i64 (ρ 3) fun n_3 => atI .i64 (ρ 4) fun i_4 => (law07_long.l18 Z Q k l_0 l_0n l_0c n_3 i_4))
def law07_long.j60 (Z : ZT) (Q : Bool → PT) : Fr → PT := (fun ρ => atL (ρ 0) fun l_0 l_0n l_0c => atI .i64 (ρ 3) fun n_3 => atI .i64 (ρ 4) fun i_4 => (exK fun k => law07_long.l18 Z Q k l_0 l_0n l_0c n_3 i_4))
theorem law07_long.o61 (Z : ZT) (Q : Bool → PT) : Ok Tryd.prog Tryd.f15.ntmps Z law07_long.c14 (law07_long.q20 Z Q) (law07_long.j60 Z Q) := by
  rw [law07_long.q17]
  refine Ok.imp (ok_loop (J := law07_long.j59 Z Q) ?_ ?_) ?_
  · intro ρ w h
    obtain ⟨l_0, l_0n, l_0c, e0, h⟩ := atL_e h
    obtain ⟨n_3, e3, h⟩ := atI_e h
    obtain ⟨i_4, e4, h⟩ := atI_e h
    exact h
  · intro k
    refine Ok.imp (law07_long.s57_ok Z Q (law07_long.l18 Z Q k)) fun ρ w h => ?_
    obtain ⟨l_0, l_0n, l_0c, e0, h⟩ := atL_e h
    obtain ⟨n_3, e3, h⟩ := atI_e h
    obtain ⟨i_4, e4, h⟩ := atI_e h
    show (law07_long.j58 Z Q (law07_long.l18 Z Q k)) ρ w
    simp only [law07_long.j58]
    rw [e0]
    rw [e3]
    rw [e4]
    exact h
  · intro ρ w h
    obtain ⟨l_0, l_0n, l_0c, e0, h⟩ := atL_e h
    obtain ⟨n_3, e3, h⟩ := atI_e h
    obtain ⟨i_4, e4, h⟩ := atI_e h
    obtain ⟨k, h⟩ := h
    refine ⟨k, ?_⟩
    show (atL (ρ 0) fun l_0 l_0n l_0c => atI .i64 (ρ 3) fun n_3 => atI .i64 (ρ 4) fun i_4 => (law07_long.l18 Z Q k l_0 l_0n l_0c n_3 i_4)) w
    rw [e0]
    rw [e3]
    rw [e4]
    exact h
theorem law07_long.o62 (Z : ZT) (Q : Bool → PT) : Ok Tryd.prog Tryd.f15.ntmps Z law07_long.c12 (law07_long.q19 Z Q) (law07_long.j60 Z Q) := by
  rw [law07_long.q15]; exact ok_block (law07_long.o61 Z Q)
def law07_long.s63 (Z : ZT) (Q : Bool → PT) (l_0 : OA) (l_0n l_0c : Nat) (n_3 : Int) : PT :=
  (exK fun k => law07_long.l18 Z Q k l_0 l_0n l_0c n_3 0)
theorem law07_long.s63_eq (Z : ZT) (Q : Bool → PT) (ρ : Fr) (l_0 : OA) (l_0n l_0c : Nat) (n_3 : Int) : (comp Tryd.prog Z law07_long.c11 (thenK (law07_long.j60 Z Q) (law07_long.q19 Z Q))) (puts ρ [(0, (Value.slice l_0 l_0n l_0c)), (3, (Value.int .i64 n_3))]) = law07_long.s63 Z Q l_0 l_0n l_0c n_3 := by kernel_rfl
def law07_long.j64 (Z : ZT) (Q : Bool → PT) : Fr → PT := (fun ρ => atL (ρ 0) fun l_0 l_0n l_0c => atI .i64 (ρ 3) fun n_3 => (law07_long.s63 Z Q l_0 l_0n l_0c n_3))
theorem law07_long.s63_ok (Z : ZT) (Q : Bool → PT) : Ok Tryd.prog Tryd.f15.ntmps Z law07_long.c5 (law07_long.q19 Z Q) (law07_long.j64 Z Q) := by
  intro E he ρ w a hr h
  rw [law07_long.q13] at he ⊢
  obtain ⟨l_0, l_0n, l_0c, e0, h⟩ := atL_e h
  obtain ⟨n_3, e3, h⟩ := atI_e h
  exact ok_at [(0, (Value.slice l_0 l_0n l_0c)), (3, (Value.int .i64 n_3))] (ok_seq (okC law07_long.c11 _ (by kernel_rfl)) (law07_long.o62 Z Q)) (puts_cons e0 (puts_cons e3 (fun p hp => puts_nil hp))) (law07_long.s63_eq Z Q ρ l_0 l_0n l_0c n_3) he hr h
theorem law07_long.o65 (Z : ZT) (Q : Bool → PT) : Ok Tryd.prog Tryd.f15.ntmps Z law07_long.c3 (law07_long.q9 Z Q) (law07_long.j64 Z Q) := by
  rw [law07_long.q7]; exact ok_seq (law07_long.s63_ok Z Q) (law07_long.s8_ok Z Q)
def law07_long.s66 (Z : ZT) (Q : Bool → PT) (l_0 : OA) (l_0n l_0c : Nat) : PT :=
  (law07_long.s63 Z Q l_0 l_0n l_0c 0)
theorem law07_long.s66_eq (Z : ZT) (Q : Bool → PT) (ρ : Fr) (l_0 : OA) (l_0n l_0c : Nat) : (comp Tryd.prog Z law07_long.c1 (thenK (comp Tryd.prog Z law07_long.c2 (thenK (law07_long.j64 Z Q) (law07_long.q9 Z Q))) (law07_long.q9 Z Q))) (puts ρ [(0, (Value.slice l_0 l_0n l_0c))]) = law07_long.s66 Z Q l_0 l_0n l_0c := by kernel_rfl
def law07_long.j67 (Z : ZT) (Q : Bool → PT) : Fr → PT := (fun ρ => atL (ρ 0) fun l_0 l_0n l_0c => (law07_long.s66 Z Q l_0 l_0n l_0c))
theorem law07_long.s66_ok (Z : ZT) (Q : Bool → PT) : Ok Tryd.prog Tryd.f15.ntmps Z law07_long.body (law07_long.q9 Z Q) (law07_long.j67 Z Q) := by
  intro E he ρ w a hr h
  rw [law07_long.q4] at he ⊢
  obtain ⟨l_0, l_0n, l_0c, e0, h⟩ := atL_e h
  exact ok_at [(0, (Value.slice l_0 l_0n l_0c))] (ok_seq (okC law07_long.c1 _ (by kernel_rfl)) (ok_seq (okC law07_long.c2 _ (by kernel_rfl)) (law07_long.o65 Z Q))) (puts_cons e0 (fun p hp => puts_nil hp)) (law07_long.s66_eq Z Q ρ l_0 l_0n l_0c) he hr h
def law07_long.F (Z : ZT) (Q : Bool → PT) (l_0 : OA) (l_0n l_0c : Nat) : PT :=
  (law07_long.s66 Z Q l_0 l_0n l_0c)
theorem law07_long.vc (Z : ZT) (Q : Bool → PT) (l_0 : OA) (l_0n l_0c : Nat) (w : World) (h : law07_long.F Z Q l_0 l_0n l_0c w) : Calls Tryd.prog 15 ⟨[(Value.slice l_0 l_0n l_0c)]⟩ w fun e w' => (∃ (r0 : Bool), e = .returned (.bool r0) ∧ Q r0 w') ∨ ∃ c, e = .panicked c ∧ Z c w' := by
  refine (calls_of_ok (args := [(Value.slice l_0 l_0n l_0c)]) (w := w) (rs := [.tmp 2]) (fn := Tryd.f15) (c := law07_long.body) Tryd.func15 (by kernel_rfl) (by kernel_rfl) (Nat.le_of_ble_eq_true (by kernel_rfl)) (law07_long.s66_ok Z Q) (h)).mono fun e w' hR => ?_
  cases e with
  | returned v =>
    obtain ⟨va, rfl, hR⟩ := atB_e hR
    exact .inl ⟨va, rfl, hR⟩
  | panicked c => exact .inr ⟨c, rfl, hR⟩
  | outgrown => exact hR.elim
theorem law07_long.vc0 (Q : Bool → PT) (l_0 : OA) (l_0n l_0c : Nat) (w : World) (h : law07_long.F Z0 Q l_0 l_0n l_0c w) : Calls Tryd.prog 15 ⟨[(Value.slice l_0 l_0n l_0c)]⟩ w fun e w' => (∃ (r0 : Bool), e = .returned (.bool r0) ∧ Q r0 w') :=
  (law07_long.vc Z0 Q l_0 l_0n l_0c w h).mono fun _ _ hR => hR.elim id fun ⟨_, _, hz⟩ => hz.elim
theorem law07_long.cal {Z : ZT} {Q : Bool → PT} {l_0 : OA} {l_0n l_0c : Nat} {w : World} (h : law07_long.F Z Q l_0 l_0n l_0c w) : Go.Proofs.YtllgjjldnnmjkaaDoor.cal Tryd.prog Z 15 [(Value.slice l_0 l_0n l_0c)] (isB fun r0 => Q r0) w := by
  refine (law07_long.vc Z Q l_0 l_0n l_0c w h).mono fun e w' hR => ?_
  rcases hR with ⟨r0, rfl, h⟩ | ⟨c, rfl, h⟩
  · show (isB fun r0 => Q r0) (.bool r0) w'
    exact ⟨_, rfl, h⟩
  · exact h

end Go.Proofs.YtllgjjldnnmjkaaDoor
end
section
set_option maxRecDepth 100000
namespace Go.Proofs.YtllgjjldnnmjkaaDoor
open Go.RowKit
def txA : ByteArray := ⟨#[57, 32, 100, 112, 111, 114, 116, 32, 56, 48, 32, 45, 62, 32, 112, 111, 114, 116, 32, 49, 10, 57, 32, 115, 114, 99, 32, 49, 48, 46, 48, 46, 48, 46, 48, 47, 56, 32, 45, 62, 32, 112, 111, 114, 116, 32, 50, 10, 100, 101, 102, 97, 117, 108, 116, 32, 45, 62, 32, 100, 114, 111, 112]⟩
def txB : ByteArray := ⟨#[49, 32, 115, 114, 99, 32, 49, 46, 50, 46, 51, 46, 50, 53, 54, 32, 45, 62, 32, 100, 114, 111, 112]⟩
def hdA : List UInt8 := [10, 0, 0, 1, 0, 0, 0, 0, 0, 0, 0, 80, 0]
def hdB : List UInt8 := [10, 0, 0, 1, 0, 0, 0, 0, 0, 0, 0, 81, 0]
theorem aw1 : (snRead txA).2 = (0, 0) := by kernel_rfl
theorem aw2 : (snRead txB).2 = (10, 12) := by kernel_rfl
theorem aw3 : snSays (snRead txA).1 hdA = (1, true) := by kernel_rfl
theorem aw4 : snSays (snRead txA).1 hdB = (2, true) := by kernel_rfl
/-! ### In range -/
theorem z32 : (0 : Int) < 4294967296 := by decide
theorem mixS_in (v n : Int) : 0 ≤ mixS v n ∧ mixS v n < 4294967296 := by
  unfold mixS
  rw [wrapU32]
  have := Nat.mod_lt ((BitVec.ofInt (IntKind.bits .u32) (IntKind.wrap .u32 (v * 2 ^ (min (8 : Int).toNat (IntKind.bits .u32)))) ||| BitVec.ofInt (IntKind.bits .u32) (IntKind.wrap .u32 (IntKind.wrap .i64 (BitVec.ofInt (IntKind.bits .i64) n &&& BitVec.ofInt (IntKind.bits .i64) 255).toNat))).toNat) (show 0 < 4294967296 by decide)
  omega
theorem snAddr_in : ∀ (l : List Fg) (i : Nat) (v b : Int), 0 ≤ v ∧ v < 4294967296 → 0 ≤ (snAddr l i v b).1 ∧ (snAddr l i v b).1 < 4294967296
  | [], _, v, b, h => h
  | n :: l, i, v, b, h => by
    unfold snAddr
    split
    · split
      · exact ⟨Int.le_refl _, z32⟩
      · exact snAddr_in l (i + 1) v _ h
    · split
      · exact ⟨Int.le_refl _, z32⟩
      · exact snAddr_in l (i + 1) _ b (mixS_in v n.n)
theorem snClause_ok {x : En} {c : Cl} (h : x.Ok) : (snClause x c).1.Ok := by
  have := snAddr_in c.nums 0 0 32 ⟨Int.le_refl _, by decide⟩
  unfold snClause
  split
  · exact ⟨this.1, this.2, h.d0, h.d1⟩
  split
  · exact ⟨h.s0, h.s1, this.1, this.2⟩
  split
  · exact ⟨h.s0, h.s1, h.d0, h.d1⟩
  split
  · exact ⟨h.s0, h.s1, h.d0, h.d1⟩
  · exact ⟨h.s0, h.s1, h.d0, h.d1⟩
theorem snClauses_ok {cs : List Cl} : ∀ (l : List Cl) (i : Nat) (x : En), x.Ok → (snClauses cs l i x).1.Ok
  | [], _, _, h => h
  | c :: l, i, x, h => by
    unfold snClauses
    split
    · exact h
    split
    · exact h
    split
    · exact h
    split
    · exact snClause_ok h
    · exact snClauses_ok l (i + 1) _ (snClause_ok h)
theorem snLine_ok (r : Rw) : (snLine r).1.Ok := by
  have h0 : ∀ p : Int, (⟨false, p, 0, 0, 0, 0, 0, 65535, 0, 65535, -1, 0⟩ : En).Ok := fun p => ⟨Int.le_refl _, z32, Int.le_refl _, z32⟩
  unfold snLine
  simp only
  split
  · exact h0 _
  · exact snClauses_ok _ _ _ (h0 _)
theorem snRow_ok (i : Nat) (had : Bool) (r : Rw) : (snRow i had r).1.Ok := by
  have h0 : en0.Ok := ⟨Int.le_refl _, by decide, Int.le_refl _, by decide⟩
  unfold snRow
  split
  · exact h0
  split
  · exact h0
  split
  · exact ⟨Int.le_refl _, by decide, Int.le_refl _, by decide⟩
  · exact snLine_ok r
theorem snAct_ok {r : Rw} {x : En} {f : Ft} (h : x.Ok) : (snAct r x f).1.Ok := by
  unfold snAct
  split
  · exact ⟨h.s0, h.s1, h.d0, h.d1⟩
  · exact h
theorem snRows_ok : ∀ (l : List Rw) (i : Nat) (had : Bool) (out : List En) (size : Int), (∀ x ∈ out, x.Ok) → ∀ x ∈ (snRows l i had out size).1, x.Ok
  | [], i, had, out, size, h => by
    unfold snRows
    split
    · exact h
    · simp
  | r :: l, i, had, out, size, h => by
    unfold snRows
    simp only
    split
    · simp
    · refine snRows_ok l _ _ _ _ fun x hx => ?_
      rcases List.mem_append.1 hx with hx | hx
      · exact h x hx
      · rw [List.mem_singleton.1 hx]
        exact snAct_ok (snRow_ok i had r)
theorem snCheck_ok (l : List Rw) (size : Int) : ∀ x ∈ (snCheck l size).1, x.Ok := snRows_ok l 0 false [] size (by simp)
theorem snRead_ok (s : ByteArray) : ∀ x ∈ (snRead s).1, x.Ok := by
  unfold snRead
  split
  · simp
  · exact snCheck_ok _ _
section
variable {Z : List PanicEntry → PT} {W w : World}
theorem Sep.en {o : Sl3} {l : List En} (h : Sep (fun _ => False) W w [fE o l]) : EnO w o l := (h.at (n := 0) rfl : Lst w 35 12 En.enc o.a o.n o.c l).ro En.enc_len
theorem awake_cal {K : Bool → PT} (hv : Places w) (hk : ∀ w', Ext w w' → K true w') : cal Tryd.prog Z 11 [] (isB fun v => K v) w := by
  refine law07_awake.cal ?_
  unfold law07_awake.F
  refine read_cal fun w1 o h1 => ?_
  have e1 := aw1
  unfold txA at e1
  rw [e1]
  have a3 := aw3
  have a4 := aw4
  unfold txA at a3 a4
  generalize hl : (snRead (⟨#[57, 32, 100, 112, 111, 114, 116, 32, 56, 48, 32, 45, 62, 32, 112, 111, 114, 116, 32, 49, 10, 57, 32, 115, 114, 99, 32, 49, 48, 46, 48, 46, 48, 46, 48, 47, 56, 32, 45, 62, 32, 112, 111, 114, 116, 32, 50, 10, 100, 101, 102, 97, 117, 108, 116, 32, 45, 62, 32, 100, 114, 111, 112]⟩ : ByteArray)).1 = l at h1 a3 a4
  have hok : ∀ x ∈ l, x.Ok := by rw [← hl]; exact snRead_ok _
  refine says_cal (h := hdA) (hv.ext h1.kept) rfl h1.en hok fun w2 k2 => ?_
  rw [a3]
  refine says_cal (h := hdB) ((hv.ext h1.kept).ext k2) rfl (h1.en.ext k2) hok fun w3 k3 => ?_
  rw [a4]
  refine read_cal fun w4 o4 h4 => ?_
  have e2 := aw2
  unfold txB at e2
  rw [e2]
  exact hk w4 ((h1.kept.trans k2).trans (k3.trans h4.kept))
end
end Go.Proofs.YtllgjjldnnmjkaaDoor
end
section
set_option maxRecDepth 100000
namespace Go.Proofs.YtllgjjldnnmjkaaDoor
open Go.RowKit
/-- A slice's things. -/
theorem ro_of_typ {α : Type} {W : World} {fuel : Nat} {t e : TypeId} {sz : Nat} {f : α → List Value} {P : α → Prop} {cs : List Value} (hu : Tryd.prog.underlying t = some (.slice e)) (hn : Tryd.prog.cellsOf e = sz) (h : Typ Tryd.prog W fuel t cs)
    (hx : ∀ fuel es, Typ Tryd.prog W fuel e es → ∃ x : α, es = f x ∧ P x) : ∃ (a : Option Addr) (n c : Nat) (l : List α), cs = [.slice a n c] ∧ Ro W sz f a n c l ∧ ∀ x ∈ l, P x := by
  subst hn
  cases fuel with
  | zero => exact h.elim
  | succ g =>
    unfold Typ at h
    rw [hu] at h
    rcases h with h | ⟨ad, n, c, rfl, h1, h2, h3⟩
    · exact ⟨none, 0, 0, [], h, ⟨rfl, Nat.le_refl _, Nat.zero_le _, fun i x hx => by simp at hx⟩, by simp⟩
    · have key : ∀ m, m ≤ n → ∃ l : List α, l.length = m ∧ (∀ i x, l[i]? = some x → cellsAt W (ad.add (i * Tryd.prog.cellsOf e)) (f x)) ∧ ∀ x ∈ l, P x := by
        intro m
        induction m with
        | zero => exact fun _ => ⟨[], rfl, fun i x hx => by simp at hx, by simp⟩
        | succ m ih =>
          intro hm
          obtain ⟨l, l1, l2, l3⟩ := ih (by omega)
          obtain ⟨es, e1, e2, e3⟩ := h3 m (by omega)
          obtain ⟨x, rfl, px⟩ := hx _ _ e3
          refine ⟨l ++ [x], by simp [l1], fun i y hy => ?_, fun y hy => ?_⟩
          · rw [List.getElem?_append] at hy
            split at hy
            · exact l2 i y hy
            · have hi := (List.getElem?_eq_some_iff.1 hy).1
              have : i = m := by simp at hi; omega
              subst this
              rw [l1, Nat.sub_self] at hy
              cases hy
              exact e2
          · rcases List.mem_append.1 hy with hy | hy
            · exact l3 y hy
            · rw [List.mem_singleton.1 hy]; exact px
      obtain ⟨l, l1, l2, l3⟩ := key n (Nat.le_refl _)
      exact ⟨some ad, n, c, l, rfl, ⟨l1.symm, h1, Nat.le_trans h1 h2, fun i x hx => ⟨ad, rfl, l2 i x hx⟩⟩, l3⟩
theorem ro_of_arg {α : Type} {W : World} {t e : TypeId} {sz : Nat} {f : α → List Value} {P : α → Prop} {v : Value} (hu : Tryd.prog.underlying t = some (.slice e)) (hn : Tryd.prog.cellsOf e = sz) (h : Arg W t v)
    (hx : ∀ fuel es, Typ Tryd.prog W fuel e es → ∃ x : α, es = f x ∧ P x) : ∃ (a : Option Addr) (n c : Nat) (l : List α), v = .slice a n c ∧ Ro W sz f a n c l ∧ ∀ x ∈ l, P x := by
  obtain ⟨fuel, ht⟩ := h.2
  obtain ⟨a, n, c, rfl, _⟩ := h.slice hu hn
  obtain ⟨a', n', c', l, e1, e2, e3⟩ := ro_of_typ hu hn ht hx
  simp [Value.cells] at e1
  obtain ⟨rfl, rfl, rfl⟩ := e1
  exact ⟨a, n, c, l, rfl, e2, e3⟩
section
variable {W : World} {fuel : Nat}
theorem c1I : Tryd.prog.cellsOf 3 = 1 := by kernel_rfl
theorem c1U : Tryd.prog.cellsOf 33 = 1 := by kernel_rfl
theorem c1B : Tryd.prog.cellsOf 4 = 1 := by kernel_rfl
theorem c1S : Tryd.prog.cellsOf 9 = 1 := by kernel_rfl
theorem en_of {cs : List Value} (h : Typ Tryd.prog W fuel 35 cs) : ∃ x : En, cs = x.enc ∧ x.Ok := by
  obtain ⟨hl, g, h⟩ := h.struct Tryd.underlying35 (n := 12) (by kernel_rfl)
  match cs, hl with
  | [a0, a1, a2, a3, a4, a5, a6, a7, a8, a9, aa, ab], _ =>
    simp only [List.mem_cons, List.not_mem_nil, or_false, forall_eq_or_imp, forall_eq] at h
    obtain ⟨h0, h1, h2, h3, h4, h5, h6, h7, h8, h9, ha, hb⟩ := h
    obtain ⟨x0, e0⟩ := Typ.bool Tryd.underlying4 h0
    obtain ⟨x1, e1, r1⟩ := Typ.int Tryd.underlying3 h1
    obtain ⟨x2, e2, r2⟩ := Typ.int Tryd.underlying33 h2
    obtain ⟨x3, e3, r3⟩ := Typ.int Tryd.underlying3 h3
    obtain ⟨x4, e4, r4⟩ := Typ.int Tryd.underlying33 h4
    obtain ⟨x5, e5, r5⟩ := Typ.int Tryd.underlying3 h5
    obtain ⟨x6, e6, r6⟩ := Typ.int Tryd.underlying3 h6
    obtain ⟨x7, e7, r7⟩ := Typ.int Tryd.underlying3 h7
    obtain ⟨x8, e8, r8⟩ := Typ.int Tryd.underlying3 h8
    obtain ⟨x9, e9, r9⟩ := Typ.int Tryd.underlying3 h9
    obtain ⟨xa, ea, ra⟩ := Typ.int Tryd.underlying3 ha
    obtain ⟨xb, eb, rb⟩ := Typ.int Tryd.underlying3 hb
    simp only [c1I, c1U, c1B, List.drop_succ_cons, List.drop_zero, List.take_succ_cons, List.take_zero, List.cons.injEq, and_true] at e0 e1 e2 e3 e4 e5 e6 e7 e8 e9 ea eb
    subst e0 e1 e2 e3 e4 e5 e6 e7 e8 e9 ea eb
    have q2 : 0 ≤ x2 ∧ x2 ≤ 4294967295 := r2
    have q4 : 0 ≤ x4 ∧ x4 ≤ 4294967295 := r4
    exact ⟨⟨x0, x1, x2, x3, x4, x5, x6, x7, x8, x9, xa, xb⟩, rfl, ⟨q2.1, by simp only; omega, q4.1, by simp only; omega⟩⟩
theorem en_arg {v : Value} (h : Arg W 35 v) : ∃ x : En, v = .agg ⟨x.enc⟩ ∧ x.Ok := by
  obtain ⟨cs, rfl, fuel, ht⟩ := h.agg Tryd.underlying35
  obtain ⟨x, rfl, hx⟩ := en_of ht
  exact ⟨x, rfl, hx⟩
theorem ens_arg {v : Value} (h : Arg W 23 v) : ∃ (o : Sl3) (l : List En), v = .slice o.a o.n o.c ∧ EnO W o l ∧ ∀ x ∈ l, x.Ok := by
  obtain ⟨a, n, c, l, rfl, h1, h2⟩ := ro_of_arg (f := En.enc) (P := En.Ok) (sz := 12) Tryd.underlying23 (by kernel_rfl) h fun fuel es ht => en_of ht
  exact ⟨⟨a, n, c⟩, l, rfl, h1, h2⟩
theorem fg_of {cs : List Value} (h : Typ Tryd.prog W fuel 49 cs) : ∃ x : Fg, cs = x.enc ∧ True := by
  obtain ⟨hl, g, h⟩ := h.struct Tryd.underlying49 (n := 2) (by kernel_rfl)
  match cs, hl with
  | [a0, a1], _ =>
    simp only [List.mem_cons, List.not_mem_nil, or_false, forall_eq_or_imp, forall_eq] at h
    obtain ⟨h0, h1⟩ := h
    obtain ⟨x0, e0, _⟩ := Typ.int Tryd.underlying3 h0
    obtain ⟨x1, e1, _⟩ := Typ.int Tryd.underlying3 h1
    simp only [c1I, List.drop_succ_cons, List.drop_zero, List.take_succ_cons, List.take_zero, List.cons.injEq, and_true] at e0 e1
    subst e0 e1
    exact ⟨⟨x0, x1⟩, rfl, trivial⟩
theorem c1F : Tryd.prog.cellsOf 53 = 1 := by kernel_rfl
theorem c2F : Tryd.prog.cellsOf 49 = 2 := by kernel_rfl
theorem c1C : Tryd.prog.cellsOf 50 = 1 := by kernel_rfl
theorem cl_of {cs : List Value} (h : Typ Tryd.prog W fuel 55 cs) : ∃ p : Cl × Sl3, cs = clEnc p ∧ NumsO W p.2 p.1.nums := by
  obtain ⟨hl, g, h⟩ := h.struct Tryd.underlying55 (n := 5) (by kernel_rfl)
  match cs, hl with
  | [a0, a1, a2, a3, a4], _ =>
    simp only [List.mem_cons, List.not_mem_nil, or_false, forall_eq_or_imp, forall_eq] at h
    obtain ⟨h0, h1, h2, h3, h4⟩ := h
    obtain ⟨x0, e0, _⟩ := Typ.str Tryd.underlying9 h0
    obtain ⟨x1, e1, _⟩ := Typ.int Tryd.underlying3 h1
    obtain ⟨sa, sn, sc, l, e2, r2, _⟩ := ro_of_typ (f := Fg.enc) (sz := 2) Tryd.underlying53 c2F h2 fun fuel es ht => fg_of ht
    obtain ⟨x3, e3⟩ := Typ.bool Tryd.underlying4 h3
    obtain ⟨x4, e4⟩ := Typ.bool Tryd.underlying4 h4
    simp only [c1I, c1S, c1B, c1F, List.drop_succ_cons, List.drop_zero, List.take_succ_cons, List.take_zero, List.cons.injEq, and_true] at e0 e1 e2 e3 e4
    subst e0 e1 e2 e3 e4
    exact ⟨(⟨x0, x1, l, x3, x4⟩, ⟨sa, sn, sc⟩), rfl, r2⟩
theorem rw_of {cs : List Value} (h : Typ Tryd.prog W fuel 52 cs) : ∃ p : Rw × Sl3, cs = rwEnc p ∧ ClsO W p.2 p.1.clauses := by
  obtain ⟨hl, g, h⟩ := h.struct Tryd.underlying52 (n := 8) (by kernel_rfl)
  match cs, hl with
  | [a0, a1, a2, a3, a4, a5, a6, a7], _ =>
    simp only [List.mem_cons, List.not_mem_nil, or_false, forall_eq_or_imp, forall_eq] at h
    obtain ⟨h0, h1, h2, h3, h4, h5⟩ := h
    obtain ⟨x0, e0, _⟩ := Typ.int Tryd.underlying3 h0
    obtain ⟨x1, e1⟩ := Typ.bool Tryd.underlying4 h1
    obtain ⟨x2, e2, _⟩ := fg_of h2
    obtain ⟨sa, sn, sc, l, e3, r3, p3⟩ := ro_of_typ (f := clEnc) (P := fun p => NumsO W p.2 p.1.nums) (sz := 5) Tryd.underlying50 (by kernel_rfl) h3 fun fuel es ht => cl_of ht
    obtain ⟨x4, e4⟩ := Typ.bool Tryd.underlying4 h4
    obtain ⟨x5, e5, _⟩ := fg_of h5
    simp only [c1I, c1B, c1C, c2F, Fg.enc, List.drop_succ_cons, List.drop_zero, List.take_succ_cons, List.take_zero, List.cons.injEq, and_true] at e0 e1 e2 e3 e4 e5
    obtain ⟨e2, e2'⟩ := e2
    obtain ⟨e5, e5'⟩ := e5
    subst e0 e1 e2 e2' e3 e4 e5 e5'
    exact ⟨(⟨x0, x1, ⟨x2.n, x2.pos⟩, l.map Prod.fst, x4, ⟨x5.n, x5.pos⟩⟩, ⟨sa, sn, sc⟩), rfl, l, rfl, r3, p3⟩
theorem raws_arg {v : Value} (h : Arg W 29 v) : ∃ (s : Sl3) (l : List Rw), v = .slice s.a s.n s.c ∧ RwsO W s l := by
  obtain ⟨a, n, c, l, rfl, h1, h2⟩ := ro_of_arg (f := rwEnc) (P := fun p => ClsO W p.2 p.1.clauses) (sz := 8) Tryd.underlying29 (by kernel_rfl) h fun fuel es ht => rw_of ht
  exact ⟨⟨a, n, c⟩, l.map Prod.fst, rfl, l, rfl, h1, h2⟩
/-- A header that came in. -/
theorem head_of {v : Value} (h : Arg W 37 v) : ∃ g : List UInt8, v = .agg ⟨encH g⟩ ∧ g.length = 13 := by
  obtain ⟨cs, rfl, fuel, ht⟩ := h.arr Tryd.underlying37
  cases fuel with
  | zero => exact ht.elim
  | succ f =>
    unfold Typ at ht
    rw [Tryd.underlying37] at ht
    obtain ⟨hl, ha⟩ := ht
    have c1 : Tryd.prog.cellsOf 37 = 13 := by kernel_rfl
    have c2 : Tryd.prog.cellsOf 5 = 1 := by kernel_rfl
    rw [c1] at hl
    rw [c2] at ha
    have key : ∀ n (l : List Value), l.length = n → (∀ i, i < n → Typ Tryd.prog W f 5 ((l.drop (i * 1)).take 1)) → ∃ g : List UInt8, l = encH g ∧ g.length = n := by
      intro n
      induction n with
      | zero => intro l hl _; exact ⟨[], by rw [List.eq_nil_of_length_eq_zero hl]; rfl, rfl⟩
      | succ n ih =>
        intro l hl ha
        cases l with
        | nil => simp at hl
        | cons x l =>
          obtain ⟨g, e1, e2⟩ := ih l (by simpa using hl) fun i hi => by
            have := ha (i + 1) (by omega)
            simpa [Nat.add_mul] using this
          obtain ⟨m, e3, e4, e5⟩ := Typ.int Tryd.underlying5 (ha 0 (by omega))
          simp at e3
          subst e3
          have e4 : 0 ≤ m := e4
          have e5 : m ≤ 255 := e5
          refine ⟨UInt8.ofNat m.toNat :: g, ?_, by simp [e2]⟩
          rw [e1]
          simp only [encH, List.map_cons, Extern.Stop.cell, UInt8.toNat_ofNat']
          congr 2
          show m = ((m.toNat % 256 : Nat) : Int)
          omega
    obtain ⟨g, e1, e2⟩ := key 13 _ hl ha
    exact ⟨g, by rw [← e1], e2⟩
theorem places_of {l : List (String × DataW Unit)} (h : laidMet Tryd.prog l W) (h1 : ("milepost/head.places", pairData placesL) ∈ l) : Places W :=
  varIs_pairs h h1 (by kernel_rfl) (t := 127) (e := 126) (i := 3) (m := 5) (by kernel_rfl) (by kernel_rfl) Tryd.underlying126 Tryd.underlying3 ⟨rfl, rfl, rfl, rfl⟩ (by kernel_rfl) (by kernel_rfl) (by kernel_rfl)
end
end Go.Proofs.YtllgjjldnnmjkaaDoor
end
section
set_option maxRecDepth 100000
namespace Go.Proofs.YtllgjjldnnmjkaaDoor
open Go.RowKit
theorem snClause_keep (x : En) (c : Cl) : (snClause x c).1.default = x.default ∧ (snClause x c).1.action = x.action := by
  unfold snClause
  split
  · exact ⟨rfl, rfl⟩
  split
  · exact ⟨rfl, rfl⟩
  split
  · exact ⟨rfl, rfl⟩
  split <;> exact ⟨rfl, rfl⟩
theorem snClauses_keep {cs : List Cl} : ∀ (l : List Cl) (i : Nat) (x : En), (snClauses cs l i x).1.default = x.default ∧ (snClauses cs l i x).1.action = x.action
  | [], _, _ => ⟨rfl, rfl⟩
  | c :: l, i, x => by
    have h := snClause_keep x c
    unfold snClauses
    split
    · exact ⟨rfl, rfl⟩
    split
    · exact ⟨rfl, rfl⟩
    split
    · exact ⟨rfl, rfl⟩
    split
    · exact h
    · have := snClauses_keep (cs := cs) l (i + 1) (snClause x c).1
      exact ⟨this.1.trans h.1, this.2.trans h.2⟩
theorem snLine_keep (r : Rw) : (snLine r).1.default = false ∧ (snLine r).1.action = 0 := by
  unfold snLine
  simp only
  split
  · exact ⟨rfl, rfl⟩
  · exact snClauses_keep _ _ _
theorem within_ok {n : Fg} {lo hi : Int} (h : (snWithin n lo hi).e = 0) : lo ≤ n.n ∧ n.n ≤ hi := by
  unfold snWithin at h
  split at h
  · simp at h
  split at h
  · simp at h
  · omega
/-- A row that is well. -/
theorem snRow_well {i : Nat} {had : Bool} {r : Rw} (h : (snAct r (snRow i had r).1 (snRow i had r).2.1).2.e = 0) :
    (snAct r (snRow i had r).1 (snRow i had r).2.1).1.default = r.default ∧ (0 ≤ (snAct r (snRow i had r).1 (snRow i had r).2.1).1.action ∧ (snAct r (snRow i had r).1 (snRow i had r).2.1).1.action ≤ 99) ∧ (snRow i had r).2.2 = (had || r.default) ∧ (r.default = true → had = false) := by
  have key : ∀ (x : En) (f : Ft), (snAct r x f).2.e = 0 → x.action = 0 → (snAct r x f).1.default = x.default ∧ 0 ≤ (snAct r x f).1.action ∧ (snAct r x f).1.action ≤ 99 := fun x f h hx => by
    unfold snAct at h ⊢
    split
    · rename_i e
      rw [if_pos e] at h
      have := within_ok h
      exact ⟨rfl, by simp only; omega, by simp only; omega⟩
    · exact ⟨rfl, by rw [hx]; exact Int.le_refl _, by rw [hx]; decide⟩
  have bad : ∀ (x : En) (e p : Int), e ≠ 0 → (snAct r x ⟨e, p⟩).2.e ≠ 0 := fun x e p he => by
    unfold snAct
    rw [if_neg (fun g => he g.1)]
    exact he
  unfold snRow at h ⊢
  by_cases h1 : i = 64
  · simp only [if_pos h1] at h
    exact absurd h (bad _ _ _ (by decide))
  simp only [if_neg h1] at h ⊢
  by_cases h2 : r.default = true ∧ had = true
  · simp only [if_pos h2] at h
    exact absurd h (bad _ _ _ (by decide))
  simp only [if_neg h2] at h ⊢
  by_cases h3 : r.default = true
  · simp only [if_pos h3] at h ⊢
    obtain ⟨g1, g2⟩ := key _ _ h rfl
    exact ⟨by rw [g1]; exact h3.symm, g2, by rw [h3, Bool.or_true], fun _ => by cases hd : had with
      | false => rfl
      | true => exact absurd ⟨h3, hd⟩ h2⟩
  · simp only [if_neg h3] at h ⊢
    have k := snLine_keep r
    obtain ⟨g1, g2⟩ := key _ _ h k.2
    have h3' : r.default = false := by simpa using h3
    exact ⟨by rw [g1, k.1, h3'], g2, by rw [h3', Bool.or_false], fun g => absurd g h3⟩
theorem snRows_no : ∀ (l : List Rw) (i : Nat) (had : Bool) (out : List En) (size : Int), (snRows l i had out size).2.1 ≠ 0 → (snRows l i had out size).1 = []
  | [], i, had, out, size, h => by
    unfold snRows at h ⊢
    split
    · rename_i e; rw [if_pos e] at h; exact absurd rfl h
    · rfl
  | r :: l, i, had, out, size, h => by
    unfold snRows at h ⊢
    simp only at h ⊢
    split
    · rfl
    · rename_i e
      rw [if_neg e] at h
      exact snRows_no l _ _ _ _ h
theorem snRows_yes : ∀ (l : List Rw) (i : Nat) (had : Bool) (out : List En) (size : Int), (snRows l i had out size).2.1 = 0 →
    ∃ es, (snRows l i had out size).1 = out ++ es ∧ (snRows l i had out size).2.2 = 0 ∧ es.length = l.length ∧ (∀ x ∈ es, 0 ≤ x.action ∧ x.action ≤ 99) ∧ es.countP (·.default) = (if had = true then 0 else 1)
  | [], i, had, out, size, h => by
    unfold snRows at h ⊢
    split
    · rename_i e
      exact ⟨[], by simp, rfl, rfl, by simp, by simp⟩
    · rename_i e; rw [if_neg e] at h; simp at h
  | r :: l, i, had, out, size, h => by
    unfold snRows at h ⊢
    simp only at h ⊢
    split
    · rename_i e; rw [if_pos e] at h; exact absurd h e
    · rename_i e
      rw [if_neg e] at h
      obtain ⟨w1, w2, w3, w4⟩ := snRow_well (i := i) (had := had) (r := r) (by simpa using e)
      generalize snAct r (snRow i had r).1 (snRow i had r).2.1 = u at h w1 w2 ⊢
      rw [w3] at h ⊢
      obtain ⟨es, e1, e2, e3, e4, e5⟩ := snRows_yes l (i + 1) (had || r.default) (out ++ [u.1]) size h
      refine ⟨u.1 :: es, by rw [e1]; simp, e2, by simp [e3], fun x hx => ?_, ?_⟩
      · rcases List.mem_cons.1 hx with rfl | hx
        · exact w2
        · exact e4 x hx
      · rw [List.countP_cons, e5, w1]
        cases hr : r.default with
        | true => rw [w4 hr]; rfl
        | false => rw [Bool.or_false]; simp
theorem snCheck_no {l : List Rw} {size : Int} (h : (snCheck l size).2.1 ≠ 0) : (snCheck l size).1 = [] := snRows_no _ _ _ _ _ h
theorem snCheck_yes {l : List Rw} {size : Int} (h : (snCheck l size).2.1 = 0) : (snCheck l size).2.2 = 0 ∧ (snCheck l size).1.length = l.length ∧ (∀ x ∈ (snCheck l size).1, 0 ≤ x.action ∧ x.action ≤ 99) ∧ (snCheck l size).1.countP (·.default) = 1 := by
  obtain ⟨es, e1, e2, e3, e4, e5⟩ := snRows_yes l 0 false [] size h
  unfold snCheck
  rw [e1, List.nil_append]
  exact ⟨e2, e3, e4, by simpa using e5⟩
theorem snRead_no {s : ByteArray} (h : (snRead s).2.1 ≠ 0) : (snRead s).1 = [] := by
  unfold snRead at h ⊢
  split
  · rfl
  · rename_i e; rw [if_neg e] at h; exact snCheck_no h
theorem snRead_yes {s : ByteArray} (h : (snRead s).2.1 = 0) : (parseS s).2.1 = 0 ∧ (snRead s).2.2 = 0 ∧ (snRead s).1.length = (parseS s).1.length ∧ (∀ x ∈ (snRead s).1, 0 ≤ x.action ∧ x.action ≤ 99) ∧ (snRead s).1.countP (·.default) = 1 := by
  unfold snRead at h ⊢
  split
  · rename_i e; rw [if_pos e] at h; exact absurd h e
  · rename_i e; rw [if_neg e] at h; exact ⟨by simpa using e, snCheck_yes h⟩
section
variable {l : List En} {h : List UInt8}
theorem dflS_some : ∀ (r : List En) (i : Nat) (b : Int), 0 < r.countP (·.default) → 0 ≤ dflS r i b
  | [], i, b, hc => by simp at hc
  | x :: r, i, b, hc => by
    unfold dflS
    split
    · split
      · rw [dflS_pos _ _ _ (by omega)]; omega
      · rename_i e
        rw [List.countP_cons, if_neg e] at hc
        exact dflS_some r (i + 1) b hc
    · omega
theorem snWhich_some (hc : 0 < l.countP (·.default)) : 0 ≤ snWhich l h := by
  rw [snWhich_eq]
  exact dflS_some l 0 _ hc
/-- A list with a default one says something; and if its actions are in range, so is that. -/
theorem snSays_some (hc : 0 < l.countP (·.default)) (ha : ∀ x ∈ l, 0 ≤ x.action ∧ x.action ≤ 99) : (snSays l h).2 = true ∧ 0 ≤ (snSays l h).1 ∧ (snSays l h).1 ≤ 99 := by
  have h0 := snWhich_some (h := h) hc
  have h1 := snWhich_lt (l := l) (h := h)
  unfold snSays
  rw [if_neg (by omega)]
  refine ⟨rfl, ha _ ?_⟩
  unfold enAt
  rw [List.getElem?_eq_getElem (show (snWhich l h).toNat < l.length by omega)]
  exact List.getElem_mem _
theorem snSays_nil : snSays [] h = (0, false) := rfl
end
end Go.Proofs.YtllgjjldnnmjkaaDoor
end
section
set_option maxRecDepth 100000
namespace Go.Proofs.YtllgjjldnnmjkaaDoor
open Go.RowKit
theorem same_tr {a b c : ByteArray} (h : same a c = true) (g : same b c = true) : same a b = true := by
  unfold same at *
  rw [beq_iff_eq] at *
  rw [h, g]
def portW (w : ByteArray) : Bool := same w wSport || same w wDport
/-! ### A clause's numbers -/
def mostS (w : ByteArray) (k : Nat) : Int := if portW w = true then 65535 else if same w wProto = false ∧ k = 4 then 32 else 255
def badN (c : Cl) (k : Nat) (n : Fg) : Bool := decide (n.n < 0) || decide (n.n > mostS c.word k) || (c.dash && portW c.word && (k == 1) && decide ((nthF c.nums 1).n < (nthF c.nums 0).n))
def numF (c : Cl) : List Fg → Nat → Ft
  | [], _ => ft0
  | n :: l, k => if badN c k n = true then ⟨10, n.pos⟩ else numF c l (k + 1)
def clF (c : Cl) : Ft := (snClause en0 c).2
theorem clF_eq (x : En) (c : Cl) : (snClause x c).2 = clF c := by
  unfold clF snClause
  split
  · rfl
  split
  · rfl
  split
  · rfl
  split <;> rfl
/-- A clause of which the numbers may be asked. -/
def Fit (c : Cl) : Prop := snMany c ≠ 0 ∧ (c.nums.length : Int) = snMany c
theorem words_ne : same wSrc wSport = false ∧ same wSrc wDport = false ∧ same wSrc wProto = false ∧ same wDst wSport = false ∧ same wDst wDport = false ∧ same wDst wProto = false ∧ same wSport wProto = false ∧ same wDport wProto = false ∧ same wSrc wDst = false ∧ same wSport wDport = false := by
  unfold same
  simp only [ByteArray.toList_eq]
  decide
theorem not_same {a b c : ByteArray} (h : same a b = true) (hn : same b c = false) : same a c = false := by
  cases e : same a c with
  | false => rfl
  | true =>
    have : same b c = true := by
      unfold same at *
      rw [beq_iff_eq] at *
      rw [← h, e]
    rw [this] at hn; cases hn
theorem within_e {n : Fg} {lo hi : Int} : (snWithin n lo hi).e ≠ 0 ↔ (n.n < lo ∨ n.n > hi) := by
  unfold snWithin
  split
  · rename_i h; exact ⟨fun _ => .inl h, fun _ => by simp⟩
  split
  · rename_i h; exact ⟨fun _ => .inr h, fun _ => by simp⟩
  · rename_i h g; exact ⟨fun h => absurd rfl h, fun k => by omega⟩
theorem within_bad {n : Fg} {lo hi : Int} (h : n.n < lo ∨ n.n > hi) : snWithin n lo hi = ⟨10, n.pos⟩ := by
  unfold snWithin
  split
  · rfl
  · rw [if_pos (by omega)]
theorem within_good {n : Fg} {lo hi : Int} (h : ¬ (n.n < lo ∨ n.n > hi)) : snWithin n lo hi = ft0 := by
  unfold snWithin
  rw [if_neg (by omega), if_neg (by omega)]
theorem addr_num {c : Cl} (hp : portW c.word = false) (hq : same c.word wProto = false) : ∀ (l : List Fg) (k : Nat) (v b : Int), (snAddr l k v b).2.2 = numF c l k
  | [], _, _, _ => rfl
  | n :: l, k, v, b => by
    have hb : badN c k n = (decide (n.n < 0) || decide (n.n > (if k = 4 then 32 else 255))) := by
      unfold badN mostS
      rw [hp, hq]
      by_cases e : k = 4 <;> simp [e]
    unfold snAddr numF
    rw [hb]
    by_cases e : k = 4
    · simp only [if_pos e]
      by_cases g : n.n < 0 ∨ n.n > 32
      · rw [if_pos (within_e.2 g), if_pos (by rcases g with g | g <;> simp [g])]
        exact within_bad g
      · rw [if_neg (fun h => g (within_e.1 h)), if_neg (by simp; omega)]
        exact addr_num hp hq l (k + 1) _ _
    · simp only [if_neg e]
      by_cases g : n.n < 0 ∨ n.n > 255
      · rw [if_pos (within_e.2 g), if_pos (by rcases g with g | g <;> simp [g])]
        exact within_bad g
      · rw [if_neg (fun h => g (within_e.1 h)), if_neg (by simp; omega)]
        exact addr_num hp hq l (k + 1) _ _
theorem ports_num {c : Cl} (hp : portW c.word = true) (hf : (c.nums.length : Int) = if c.dash = true then 2 else 1) : (snPorts c.nums).2.2 = numF c c.nums 0 := by
  have bad : ∀ (k : Nat) (n : Fg), badN c k n = (decide (n.n < 0) || decide (n.n > 65535) || (c.dash && (k == 1) && decide ((nthF c.nums 1).n < (nthF c.nums 0).n))) := fun k n => by
    unfold badN mostS
    rw [hp]; simp
  cases hd : c.dash with
  | true =>
    rw [hd, if_pos rfl] at hf
    match hn : c.nums with
    | [] => rw [hn] at hf; simp at hf
    | [a] => rw [hn] at hf; simp at hf
    | a :: b :: d :: l => rw [hn] at hf; simp at hf; omega
    | [a, b] =>
      unfold snPorts numF
      simp only [bad, hn, hd, nthF, List.length_cons, List.length_nil, List.getElem?_cons_zero, List.getElem?_cons_succ, Option.getD_some, Nat.zero_add, Nat.reduceAdd, Nat.reduceSub, Nat.reduceBEq, Bool.and_false, Bool.false_and, Bool.or_false, Bool.true_and, Bool.and_true]
      unfold snFirst
      by_cases g : a.n < 0 ∨ a.n > 65535
      · rw [if_pos (within_e.2 g), if_pos (by rcases g with g | g <;> simp [g])]
        exact within_bad g
      · rw [if_neg (fun h => g (within_e.1 h)), if_neg (by simp; omega)]
        unfold numF
        simp only [bad, hn, hd, nthF, List.getElem?_cons_zero, List.getElem?_cons_succ, Option.getD_some, Bool.true_and]
        unfold snFirst
        by_cases g2 : b.n < 0 ∨ b.n > 65535
        · rw [if_pos (within_e.2 g2), if_pos (by rcases g2 with g2 | g2 <;> simp [g2])]
          exact within_bad g2
        · rw [if_neg (fun h => g2 (within_e.1 h))]
          unfold snFirst
          by_cases g3 : b.n < a.n ∨ b.n > 65535
          · rw [if_pos (within_e.2 g3), if_pos (by simp; omega)]
            exact within_bad g3
          · rw [if_neg (fun h => g3 (within_e.1 h)), if_neg (by simp; omega)]
            rfl
  | false =>
    rw [hd, if_neg (by decide)] at hf
    match hn : c.nums with
    | [] => rw [hn] at hf; simp at hf
    | a :: b :: l => rw [hn] at hf; simp at hf; omega
    | [a] =>
      unfold snPorts numF
      simp only [bad, hn, hd, nthF, List.length_cons, List.length_nil, List.getElem?_cons_zero, Option.getD_some, Nat.zero_add, Nat.reduceAdd, Nat.reduceSub, Bool.false_and, Bool.or_false]
      unfold snFirst
      by_cases g : a.n < 0 ∨ a.n > 65535
      · rw [if_pos (within_e.2 g), if_pos (by rcases g with g | g <;> simp [g])]
        exact within_bad g
      · rw [if_neg (fun h => g (within_e.1 h)), if_neg (by simp; omega)]
        unfold snFirst
        rw [if_neg (fun h => g (within_e.1 h))]
        unfold snFirst
        rw [if_neg (fun h => by have := within_e.1 h; omega)]
        rfl
theorem many_src {c : Cl} (h : same c.word wSrc = true ∨ same c.word wDst = true) : snMany c = if c.slash = true then 5 else 4 := by unfold snMany; rw [if_pos h]
theorem src_not {c : Cl} (h : same c.word wSrc = true ∨ same c.word wDst = true) : portW c.word = false ∧ same c.word wProto = false := by
  obtain ⟨n1, n2, n3, n4, n5, n6, _⟩ := words_ne
  unfold portW
  rcases h with h | h
  · exact ⟨by rw [not_same h n1, not_same h n2]; rfl, not_same h n3⟩
  · exact ⟨by rw [not_same h n4, not_same h n5]; rfl, not_same h n6⟩
theorem port_many {c : Cl} (h1 : same c.word wSrc = false) (h2 : same c.word wDst = false) (h : portW c.word = true) : snMany c = if c.dash = true then 2 else 1 := by
  unfold snMany
  rw [if_neg (by simp [h1, h2])]
  unfold portW at h
  rw [if_pos (by simpa using h)]
theorem proto_of {c : Cl} (hf : snMany c ≠ 0) (h1 : same c.word wSrc = false) (h2 : same c.word wDst = false) (h : portW c.word = false) : same c.word wProto = true ∧ snMany c = 1 := by
  unfold snMany at hf ⊢
  unfold portW at h
  rw [Bool.or_eq_false_iff] at h
  rw [if_neg (show ¬ (same c.word wSrc = true ∨ same c.word wDst = true) by simp [h1, h2]), if_neg (show ¬ (same c.word wSport = true ∨ same c.word wDport = true) by simp [h])] at hf ⊢
  split
  · rename_i e; exact ⟨e, rfl⟩
  · rename_i e; rw [if_neg e] at hf; exact absurd rfl hf
/-- A clause's faults are what the document finds. -/
theorem clF_num {c : Cl} (hf : Fit c) : clF c = numF c c.nums 0 := by
  obtain ⟨f1, f2⟩ := hf
  unfold clF snClause
  by_cases h1 : same c.word wSrc = true
  · rw [if_pos h1]
    obtain ⟨g1, g2⟩ := src_not (.inl h1)
    exact addr_num g1 g2 _ _ _ _
  rw [if_neg h1]
  have h1 : same c.word wSrc = false := by simpa using h1
  by_cases h2 : same c.word wDst = true
  · rw [if_pos h2]
    obtain ⟨g1, g2⟩ := src_not (.inr h2)
    exact addr_num g1 g2 _ _ _ _
  rw [if_neg h2]
  have h2 : same c.word wDst = false := by simpa using h2
  by_cases h3 : same c.word wSport = true
  · rw [if_pos h3]
    have hp : portW c.word = true := by unfold portW; rw [h3]; rfl
    exact ports_num hp (by rw [f2]; exact port_many h1 h2 hp)
  rw [if_neg h3]
  by_cases h4 : same c.word wDport = true
  · rw [if_pos h4]
    have hp : portW c.word = true := by unfold portW; rw [h4, Bool.or_true]
    exact ports_num hp (by rw [f2]; exact port_many h1 h2 hp)
  rw [if_neg h4]
  have hp : portW c.word = false := by unfold portW; simp [h3, h4]
  obtain ⟨g1, g2⟩ := proto_of f1 h1 h2 hp
  rw [g2] at f2
  match hn : c.nums with
  | [] => rw [hn] at f2; simp at f2
  | a :: b :: l => rw [hn] at f2; simp at f2; omega
  | [a] =>
    unfold numF
    have hb : badN c 0 a = (decide (a.n < 0) || decide (a.n > 255)) := by
      unfold badN mostS
      rw [hp, g1]; simp
    rw [hb]
    show snWithin a 0 255 = _
    by_cases g : a.n < 0 ∨ a.n > 255
    · rw [if_pos (by rcases g with g | g <;> simp [g])]
      exact within_bad g
    · rw [if_neg (by simp; omega)]
      exact within_good g
/-! ### A line's faults -/
def rfCls (cs : List Cl) : List Cl → Nat → Ft
  | [], _ => ft0
  | c :: l, i =>
    if snMany c = 0 then ⟨8, c.pos⟩
    else if (c.nums.length : Int) ≠ snMany c then ⟨8, c.pos⟩
    else if (cs.take i).any (fun d => same d.word c.word) = true then ⟨9, c.pos⟩
    else if (numF c c.nums 0).e ≠ 0 then numF c c.nums 0
    else rfCls cs l (i + 1)
theorem many_nn (c : Cl) : 0 ≤ snMany c := by
  unfold snMany
  split
  · split <;> decide
  split
  · split <;> decide
  split <;> decide
theorem rfCls_eq {cs : List Cl} : ∀ (l : List Cl) (i : Nat) (x : En), (snClauses cs l i x).2 = rfCls cs l i
  | [], _, _ => rfl
  | c :: l, i, x => by
    unfold snClauses rfCls
    have hm := many_nn c
    by_cases h1 : c.nums.length = 0
    · rw [if_pos h1]
      by_cases h2 : snMany c = 0
      · rw [if_pos h2]
      · rw [if_neg h2, if_pos (by omega)]
    rw [if_neg h1]
    by_cases h2 : (c.nums.length : Int) ≠ snMany c
    · rw [if_pos h2]
      by_cases h3 : snMany c = 0
      · rw [if_pos h3]
      · rw [if_neg h3, if_pos h2]
    have h2' : (c.nums.length : Int) = snMany c := by omega
    rw [if_neg h2, if_neg (show ¬ snMany c = 0 by omega), if_neg h2]
    by_cases h3 : (cs.take i).any (fun d => same d.word c.word) = true
    · rw [if_pos h3, if_pos h3]
    rw [if_neg h3, if_neg h3, clF_eq, clF_num ⟨by omega, h2'⟩]
    by_cases h4 : (numF c c.nums 0).e ≠ 0
    · rw [if_pos h4, if_pos h4, clF_eq, clF_num ⟨by omega, h2'⟩]
    · rw [if_neg h4, if_neg h4]
      exact rfCls_eq l (i + 1) _
def rfFault (r : Rw) : Ft := if r.prio.n < 0 then ⟨10, r.prio.pos⟩ else if r.prio.n > 65535 then ⟨10, r.prio.pos⟩ else rfCls r.clauses r.clauses 0
theorem rfFault_eq (r : Rw) : (snLine r).2 = rfFault r := by
  unfold snLine rfFault
  simp only
  by_cases g : r.prio.n < 0 ∨ r.prio.n > 65535
  · rw [if_pos (within_e.2 g)]
    simp only
    rw [within_bad g]
    split
    · rfl
    · rw [if_pos (by omega)]
  · rw [if_neg (fun h => g (within_e.1 h)), if_neg (by omega), if_neg (by omega)]
    exact rfCls_eq _ _ _
end Go.Proofs.YtllgjjldnnmjkaaDoor
end
section
set_option maxRecDepth 100000
namespace Go.Proofs.YtllgjjldnnmjkaaDoor
open Go.RowKit
def mixD (v n : Int) : Int := IntKind.wrap .u32 ((IntKind.wrap .u32 (v * 256)) + (IntKind.wrap .u32 n))
theorem mix_eq {v n : Int} (h0 : 0 ≤ v) (h1 : v < 4294967296) (g0 : 0 ≤ n) (g1 : n ≤ 255) : mixS v n = mixD v n := by
  obtain ⟨x, rfl⟩ : ∃ x : Nat, v = x := ⟨v.toNat, by omega⟩
  obtain ⟨y, rfl⟩ : ∃ y : Nat, n = y := ⟨n.toNat, by omega⟩
  unfold mixS mixD
  have e1 : (x : Int) * 2 ^ (min (8 : Int).toNat (IntKind.bits .u32)) = ((x * 256 : Nat) : Int) := by
    rw [show min (8 : Int).toNat (IntKind.bits .u32) = 8 from rfl]; omega
  have e2 : (x : Int) * 256 = ((x * 256 : Nat) : Int) := by omega
  have e3 : IntKind.wrap .i64 (((BitVec.ofInt (IntKind.bits .i64) (y : Int) &&& BitVec.ofInt (IntKind.bits .i64) 255).toNat : Nat) : Int) = ((y : Nat) : Int) := by
    have a1 : (BitVec.ofInt (IntKind.bits .i64) (y : Int)).toNat = y := by
      show (BitVec.ofInt 64 (y : Int)).toNat = y
      rw [BitVec.toNat_ofInt]; omega
    have a2 : (BitVec.ofInt (IntKind.bits .i64) (255 : Int)).toNat = 2 ^ 8 - 1 := by decide
    rw [BitVec.toNat_and, a1, a2, Nat.and_two_pow_sub_one_eq_mod, Nat.mod_eq_of_lt (by omega)]
    exact wrap_nat (by omega)
  rw [e1, e2, e3, wrapU32 (x * 256), wrapU32 y, Nat.mod_eq_of_lt (show y < 4294967296 by omega)]
  rw [BitVec.toNat_or, ofN32 (Nat.mod_lt _ (by decide)), ofN32 (by omega), wrapU32]
  have e4 : x * 256 % 4294967296 = 2 ^ 8 * (x % 16777216) := by omega
  rw [e4, ← Nat.two_pow_add_eq_or_of_lt (show y < 2 ^ 8 by omega)]
  rw [show ((2 ^ 8 * (x % 16777216) : Nat) : Int) + (y : Int) = ((2 ^ 8 * (x % 16777216) + y : Nat) : Int) by omega, wrapU32]
theorem mixD_in (v n : Int) : 0 ≤ mixD v n ∧ mixD v n < 4294967296 := by
  unfold mixD
  exact ⟨Int.emod_nonneg _ (by decide), Int.emod_lt_of_pos _ (by decide)⟩
def foldD : List Fg → Int → Int
  | [], v => v
  | n :: l, v => foldD l (mixD v n.n)
/-- A clause's address and bits. -/
def prefC (c : Cl) : Int × Int := (foldD (c.nums.take 4) 0, if c.slash = true then (nthF c.nums 4).n else 32)
def portC (c : Cl) : Int × Int := ((nthF c.nums 0).n, if c.dash = true then (nthF c.nums 1).n else (nthF c.nums 0).n)
def findW (l : List Cl) (w : ByteArray) : Option Cl := l.find? fun c => same c.word w
def rfPref (r : Rw) (w : ByteArray) : Int × Int := match findW r.clauses w with
  | none => (0, 0)
  | some c => prefC c
def rfPort (r : Rw) (w : ByteArray) : Int × Int := match findW r.clauses w with
  | none => (0, 65535)
  | some c => portC c
def rfProto (r : Rw) : Int := match findW r.clauses wProto with
  | none => -1
  | some c => (nthF c.nums 0).n
def rfAct (r : Rw) : Int := if r.drop = true then 0 else r.port.n
def rfMean (r : Rw) : En :=
  if r.default = true then { en0 with default := true, action := rfAct r }
  else ⟨false, r.prio.n, (rfPref r wSrc).1, (rfPref r wSrc).2, (rfPref r wDst).1, (rfPref r wDst).2, (rfPort r wSport).1, (rfPort r wSport).2, (rfPort r wDport).1, (rfPort r wDport).2, rfProto r, rfAct r⟩
/-! ### No faults -/
theorem numF_ok {c : Cl} : ∀ {l : List Fg} {k : Nat}, (numF c l k).e = 0 → ∀ (i : Nat) (n : Fg), l[i]? = some n → badN c (k + i) n = false
  | n :: l, k, h, i, m, hm => by
    unfold numF at h
    split at h
    · simp at h
    · rename_i e
      cases i with
      | zero => cases hm; simpa using e
      | succ i =>
        have := numF_ok h i m hm
        rwa [show k + 1 + i = k + (i + 1) by omega] at this
theorem bad_lo {c : Cl} {k : Nat} {n : Fg} (h : badN c k n = false) : 0 ≤ n.n ∧ n.n ≤ mostS c.word k := by
  unfold badN at h
  simp only [Bool.or_eq_false_iff, decide_eq_false_iff_not] at h
  omega
theorem addr_val : ∀ (l : List Fg) (i : Nat) (v b : Int), (snAddr l i v b).2.2.e = 0 → 0 ≤ v ∧ v < 4294967296 → i + l.length ≤ 4 → (snAddr l i v b).1 = foldD l v ∧ (snAddr l i v b).2.1 = b
  | [], i, v, b, _, _, _ => ⟨rfl, rfl⟩
  | n :: l, i, v, b, h, hv, hi => by
    simp only [List.length_cons] at hi
    unfold snAddr at h ⊢
    simp only [if_neg (show ¬ i = 4 by omega)] at h ⊢
    split at h
    · rename_i e; exact absurd h e
    · rename_i e
      have e' : (snWithin n 0 255).e = 0 := by simpa using e
      have hn := within_ok e'
      rw [if_neg e]
      have := addr_val l (i + 1) (mixS v n.n) b h (mixS_in v n.n) (by omega)
      rw [mix_eq hv.1 hv.2 hn.1 hn.2] at this ⊢
      exact this
theorem addr_pref {c : Cl} (hs : same c.word wSrc = true ∨ same c.word wDst = true) (hf : (c.nums.length : Int) = snMany c) (h : (snAddr c.nums 0 0 32).2.2.e = 0) : ((snAddr c.nums 0 0 32).1, (snAddr c.nums 0 0 32).2.1) = prefC c := by
  rw [many_src hs] at hf
  unfold prefC
  cases hd : c.slash with
  | false =>
    rw [hd, if_neg (by decide)] at hf
    have hl : c.nums.length = 4 := by omega
    obtain ⟨g1, g2⟩ := addr_val c.nums 0 0 32 h ⟨Int.le_refl _, z32⟩ (by omega)
    rw [g1, g2, List.take_of_length_le (by omega)]
    rfl
  | true =>
    rw [hd, if_pos rfl] at hf
    match hn : c.nums with
    | [] => rw [hn] at hf; simp at hf
    | [_] => rw [hn] at hf; simp at hf
    | [_, _] => rw [hn] at hf; simp at hf
    | [_, _, _] => rw [hn] at hf; simp at hf
    | [_, _, _, _] => rw [hn] at hf; simp at hf
    | _ :: _ :: _ :: _ :: _ :: _ :: l => rw [hn] at hf; simp at hf; omega
    | [n0, n1, n2, n3, n4] =>
      rw [hn] at h
      unfold snAddr at h ⊢
      simp only [if_neg (show ¬ (0 : Nat) = 4 by decide)] at h ⊢
      split at h
      · rename_i e; exact absurd h e
      rename_i e0
      rw [if_neg e0]
      unfold snAddr at h ⊢
      simp only [if_neg (show ¬ (0 + 1 : Nat) = 4 by decide)] at h ⊢
      split at h
      · rename_i e; exact absurd h e
      rename_i e1
      rw [if_neg e1]
      unfold snAddr at h ⊢
      simp only [if_neg (show ¬ (0 + 1 + 1 : Nat) = 4 by decide)] at h ⊢
      split at h
      · rename_i e; exact absurd h e
      rename_i e2
      rw [if_neg e2]
      unfold snAddr at h ⊢
      simp only [if_neg (show ¬ (0 + 1 + 1 + 1 : Nat) = 4 by decide)] at h ⊢
      split at h
      · rename_i e; exact absurd h e
      rename_i e3
      rw [if_neg e3]
      unfold snAddr at h ⊢
      rw [if_pos (show (0 + 1 + 1 + 1 + 1 : Nat) = 4 from rfl)] at h ⊢
      split at h
      · rename_i e; exact absurd h e
      rename_i e4
      rw [if_neg e4]
      have w0 := within_ok (show (snWithin n0 0 255).e = 0 by simpa using e0)
      have w1 := within_ok (show (snWithin n1 0 255).e = 0 by simpa using e1)
      have w2 := within_ok (show (snWithin n2 0 255).e = 0 by simpa using e2)
      have w3 := within_ok (show (snWithin n3 0 255).e = 0 by simpa using e3)
      unfold snAddr
      simp only [nthF, List.getElem?_cons_succ, List.getElem?_cons_zero, Option.getD_some, if_true, List.take_succ_cons, List.take_zero, foldD]
      rw [mix_eq (Int.le_refl _) z32 w0.1 w0.2]
      have i0 := mixD_in 0 n0.n
      rw [mix_eq i0.1 i0.2 w1.1 w1.2]
      have i1 := mixD_in (mixD 0 n0.n) n1.n
      rw [mix_eq i1.1 i1.2 w2.1 w2.2]
      have i2 := mixD_in (mixD (mixD 0 n0.n) n1.n) n2.n
      rw [mix_eq i2.1 i2.2 w3.1 w3.2]
theorem port_val {c : Cl} (hf : (c.nums.length : Int) = if c.dash = true then 2 else 1) : ((snPorts c.nums).1, (snPorts c.nums).2.1) = portC c := by
  unfold snPorts portC
  simp only
  cases hd : c.dash with
  | true =>
    rw [hd, if_pos rfl] at hf
    rw [show c.nums.length - 1 = 1 by omega]; rfl
  | false =>
    rw [hd, if_neg (by decide)] at hf
    rw [show c.nums.length - 1 = 0 by omega]; rfl
/-! ### All clauses -/
def layC (x : En) (c : Cl) : En := (snClause x c).1
/-- Clauses without faults. -/
structure WellC (c : Cl) : Prop where
  fit : Fit c
  ok : (clF c).e = 0
theorem cls_well {cs : List Cl} : ∀ (l : List Cl) (i : Nat) (x : En), cs.drop i = l → (snClauses cs l i x).2.e = 0 →
    (snClauses cs l i x).1 = l.foldl layC x ∧ (∀ c ∈ l, WellC c) ∧ (∀ c ∈ l, ∀ d ∈ cs.take i, same d.word c.word = false) ∧ l.Pairwise (fun d c => same d.word c.word = false)
  | [], i, x, _, _ => ⟨rfl, by simp, by simp, List.Pairwise.nil⟩
  | c :: l, i, x, hl, h => by
    unfold snClauses at h ⊢
    have hm := many_nn c
    split at h
    · simp at h
    rename_i h1
    split at h
    · simp at h
    rename_i h2
    split at h
    · simp at h
    rename_i h3
    split at h
    · rename_i h4; exact absurd h h4
    rename_i h4
    rw [if_neg h1, if_neg h2, if_neg h3, if_neg h4]
    have hc : cs[i]? = some c := by
      have := congrArg (·[0]?) hl
      simpa using this
    have hl' : cs.drop (i + 1) = l := by rw [← List.drop_drop, hl]; rfl
    obtain ⟨g1, g2, g3, g4⟩ := cls_well l (i + 1) _ hl' h
    have ht : cs.take (i + 1) = cs.take i ++ [c] := by
      rw [List.take_add_one, hc]; rfl
    refine ⟨g1, fun d hd => ?_, fun d hd y hy => ?_, List.pairwise_cons.2 ⟨fun d hd => g3 d hd c (by rw [ht]; simp), g4⟩⟩
    · rcases List.mem_cons.1 hd with rfl | hd
      · exact ⟨⟨by omega, by omega⟩, by rw [← clF_eq x]; simpa using h4⟩
      · exact g2 d hd
    · rcases List.mem_cons.1 hd with rfl | hd
      · rw [Bool.not_eq_true, List.any_eq_false] at h3
        simpa using h3 y hy
      · exact g3 d hd y (by rw [ht]; exact List.mem_append_left _ hy)
theorem fold_get {β : Type} {g : En → β} {w : ByteArray} {val : Cl → β} (h1 : ∀ x c, WellC c → same c.word w = true → g (layC x c) = val c) (h2 : ∀ x c, WellC c → same c.word w = false → g (layC x c) = g x) :
    ∀ (l : List Cl) (x : En), (∀ c ∈ l, WellC c) → l.Pairwise (fun d c => same d.word c.word = false) → g (l.foldl layC x) = match findW l w with
      | some c => val c
      | none => g x
  | [], x, _, _ => rfl
  | c :: l, x, hw, hp => by
    have ih := fold_get h1 h2 l (layC x c) (fun d hd => hw d (List.mem_cons_of_mem _ hd)) (List.pairwise_cons.1 hp).2
    rw [List.foldl_cons, ih]
    have hwc := hw c (List.mem_cons_self ..)
    unfold findW
    rw [List.find?_cons]
    cases e : same c.word w with
    | true =>
      simp only
      have : l.find? (fun c => same c.word w) = none := by
        rw [List.find?_eq_none]
        intro d hd hs
        have := (List.pairwise_cons.1 hp).1 d hd
        rw [same_tr e hs] at this
        cases this
      rw [this]
      exact h1 x c hwc e
    | false =>
      simp only
      cases l.find? (fun c => same c.word w) with
      | none => exact h2 x c hwc e
      | some d => rfl
theorem lay_cases (x : En) (c : Cl) (hc : WellC c) :
    (same c.word wSrc = true ∧ same c.word wDst = false ∧ same c.word wSport = false ∧ same c.word wDport = false ∧ same c.word wProto = false ∧ layC x c = { x with src := (prefC c).1, srcBits := (prefC c).2 }) ∨
    (same c.word wSrc = false ∧ same c.word wDst = true ∧ same c.word wSport = false ∧ same c.word wDport = false ∧ same c.word wProto = false ∧ layC x c = { x with dst := (prefC c).1, dstBits := (prefC c).2 }) ∨
    (same c.word wSrc = false ∧ same c.word wDst = false ∧ same c.word wSport = true ∧ same c.word wDport = false ∧ same c.word wProto = false ∧ layC x c = { x with sLow := (portC c).1, sHigh := (portC c).2 }) ∨
    (same c.word wSrc = false ∧ same c.word wDst = false ∧ same c.word wSport = false ∧ same c.word wDport = true ∧ same c.word wProto = false ∧ layC x c = { x with dLow := (portC c).1, dHigh := (portC c).2 }) ∨
    (same c.word wSrc = false ∧ same c.word wDst = false ∧ same c.word wSport = false ∧ same c.word wDport = false ∧ same c.word wProto = true ∧ layC x c = { x with proto := (nthF c.nums 0).n }) := by
  obtain ⟨n1, n2, n3, n4, n5, n6, n7, n8, n9, n10⟩ := words_ne
  obtain ⟨⟨f1, f2⟩, ok⟩ := hc
  unfold clF snClause at ok
  unfold layC snClause
  by_cases h1 : same c.word wSrc = true
  · rw [if_pos h1] at ok ⊢
    have := addr_pref (.inl h1) f2 ok
    exact .inl ⟨h1, not_same h1 n9, not_same h1 n1, not_same h1 n2, not_same h1 n3, by rw [← this]⟩
  rw [if_neg h1] at ok ⊢
  have h1 : same c.word wSrc = false := by simpa using h1
  by_cases h2 : same c.word wDst = true
  · rw [if_pos h2] at ok ⊢
    have := addr_pref (.inr h2) f2 ok
    exact .inr (.inl ⟨h1, h2, not_same h2 n4, not_same h2 n5, not_same h2 n6, by rw [← this]⟩)
  rw [if_neg h2] at ok ⊢
  have h2 : same c.word wDst = false := by simpa using h2
  by_cases h3 : same c.word wSport = true
  · rw [if_pos h3] at ok ⊢
    have hp : portW c.word = true := by unfold portW; rw [h3]; rfl
    have := port_val (c := c) (by rw [f2]; exact port_many h1 h2 hp)
    exact .inr (.inr (.inl ⟨h1, h2, h3, not_same h3 n10, not_same h3 n7, by rw [← this]⟩))
  rw [if_neg h3] at ok ⊢
  have h3 : same c.word wSport = false := by simpa using h3
  by_cases h4 : same c.word wDport = true
  · rw [if_pos h4] at ok ⊢
    have hp : portW c.word = true := by unfold portW; rw [h4, Bool.or_true]
    have := port_val (c := c) (by rw [f2]; exact port_many h1 h2 hp)
    exact .inr (.inr (.inr (.inl ⟨h1, h2, h3, h4, not_same h4 n8, by rw [← this]⟩)))
  rw [if_neg h4]
  have h4 : same c.word wDport = false := by simpa using h4
  have hp : portW c.word = false := by unfold portW; simp [h3, h4]
  exact .inr (.inr (.inr (.inr ⟨h1, h2, h3, h4, (proto_of f1 h1 h2 hp).1, rfl⟩)))
/-- What a line without faults means. -/
theorem line_mean {r : Rw} (h : (snLine r).2.e = 0) : (snLine r).1 = ⟨false, r.prio.n, (rfPref r wSrc).1, (rfPref r wSrc).2, (rfPref r wDst).1, (rfPref r wDst).2, (rfPort r wSport).1, (rfPort r wSport).2, (rfPort r wDport).1, (rfPort r wDport).2, rfProto r, 0⟩ ∧ ∀ c ∈ r.clauses, Fit c := by
  unfold snLine at h ⊢
  simp only at h ⊢
  split at h
  · rename_i e; exact absurd h e
  rename_i e
  rw [if_neg e]
  obtain ⟨g1, g2, _, g4⟩ := cls_well r.clauses 0 _ rfl h
  refine ⟨?_, fun c hc => (g2 c hc).fit⟩
  rw [g1]
  generalize hx : (⟨false, r.prio.n, 0, 0, 0, 0, 0, 65535, 0, 65535, -1, 0⟩ : En) = x at g1
  have a1 := fold_get (g := fun x => (x.src, x.srcBits)) (w := wSrc) (val := prefC) (fun x c hc hs => by rcases lay_cases x c hc with h | h | h | h | h <;> simp_all) (fun x c hc hs => by rcases lay_cases x c hc with h | h | h | h | h <;> simp_all) r.clauses x g2 g4
  have a2 := fold_get (g := fun x => (x.dst, x.dstBits)) (w := wDst) (val := prefC) (fun x c hc hs => by rcases lay_cases x c hc with h | h | h | h | h <;> simp_all) (fun x c hc hs => by rcases lay_cases x c hc with h | h | h | h | h <;> simp_all) r.clauses x g2 g4
  have a3 := fold_get (g := fun x => (x.sLow, x.sHigh)) (w := wSport) (val := portC) (fun x c hc hs => by rcases lay_cases x c hc with h | h | h | h | h <;> simp_all) (fun x c hc hs => by rcases lay_cases x c hc with h | h | h | h | h <;> simp_all) r.clauses x g2 g4
  have a4 := fold_get (g := fun x => (x.dLow, x.dHigh)) (w := wDport) (val := portC) (fun x c hc hs => by rcases lay_cases x c hc with h | h | h | h | h <;> simp_all) (fun x c hc hs => by rcases lay_cases x c hc with h | h | h | h | h <;> simp_all) r.clauses x g2 g4
  have a5 := fold_get (g := fun x => x.proto) (w := wProto) (val := fun c => (nthF c.nums 0).n) (fun x c hc hs => by rcases lay_cases x c hc with h | h | h | h | h <;> simp_all) (fun x c hc hs => by rcases lay_cases x c hc with h | h | h | h | h <;> simp_all) r.clauses x g2 g4
  have a6 : ∀ (l : List Cl) (x : En), (∀ c ∈ l, WellC c) → (l.foldl layC x).default = x.default ∧ (l.foldl layC x).prio = x.prio ∧ (l.foldl layC x).action = x.action := fun l => by
    induction l with
    | nil => exact fun x _ => ⟨rfl, rfl, rfl⟩
    | cons c l ih =>
      intro x hw
      rw [List.foldl_cons]
      obtain ⟨i1, i2, i3⟩ := ih (layC x c) fun d hd => hw d (List.mem_cons_of_mem _ hd)
      rw [i1, i2, i3]
      rcases lay_cases x c (hw c (List.mem_cons_self ..)) with h | h | h | h | h <;> obtain ⟨_, _, _, _, _, e⟩ := h <;> rw [e] <;> exact ⟨rfl, rfl, rfl⟩
  obtain ⟨b1, b2, b3⟩ := a6 r.clauses x g2
  generalize r.clauses.foldl layC x = y at a1 a2 a3 a4 a5 b1 b2 b3
  have c1 : (y.src, y.srcBits) = rfPref r wSrc := by rw [a1]; unfold rfPref; cases findW r.clauses wSrc <;> (subst hx; rfl)
  have c2 : (y.dst, y.dstBits) = rfPref r wDst := by rw [a2]; unfold rfPref; cases findW r.clauses wDst <;> (subst hx; rfl)
  have c3 : (y.sLow, y.sHigh) = rfPort r wSport := by rw [a3]; unfold rfPort; cases findW r.clauses wSport <;> (subst hx; rfl)
  have c4 : (y.dLow, y.dHigh) = rfPort r wDport := by rw [a4]; unfold rfPort; cases findW r.clauses wDport <;> (subst hx; rfl)
  have c5 : y.proto = rfProto r := by rw [a5]; unfold rfProto; cases findW r.clauses wProto <;> (subst hx; rfl)
  rw [← c1, ← c2, ← c3, ← c4, ← c5]
  subst hx
  cases y
  simp only at b1 b2 b3
  subst b1 b2 b3
  rfl
/-- A row's entry is what the document says that it means. -/
theorem row_mean {i : Nat} {had : Bool} {r : Rw} (h : (snAct r (snRow i had r).1 (snRow i had r).2.1).2.e = 0) : (snAct r (snRow i had r).1 (snRow i had r).2.1).1 = rfMean r ∧ (r.default = false → ∀ c ∈ r.clauses, Fit c) := by
  have bad : ∀ (x : En) (e p : Int), e ≠ 0 → (snAct r x ⟨e, p⟩).2.e ≠ 0 := fun x e p he => by
    unfold snAct
    rw [if_neg (fun g => he g.1)]
    exact he
  have act : ∀ (x : En) (f : Ft), (snAct r x f).2.e = 0 → x.action = 0 → f.e = 0 ∧ (snAct r x f).1 = { x with action := rfAct r } := fun x f h hx => by
    unfold snAct rfAct at *
    by_cases g : f.e = 0 ∧ r.drop = false
    · rw [if_pos g] at h ⊢
      rw [if_neg (by simp [g.2])]
      exact ⟨g.1, rfl⟩
    · rw [if_neg g] at h ⊢
      have hd : r.drop = true := by
        cases hd : r.drop with
        | true => rfl
        | false => exact absurd ⟨h, hd⟩ g
      rw [if_pos hd]
      exact ⟨h, by cases x; simp only at hx; subst hx; rfl⟩
  unfold snRow at h ⊢
  by_cases h1 : i = 64
  · simp only [if_pos h1] at h
    exact absurd h (bad _ _ _ (by decide))
  simp only [if_neg h1] at h ⊢
  by_cases h2 : r.default = true ∧ had = true
  · simp only [if_pos h2] at h
    exact absurd h (bad _ _ _ (by decide))
  simp only [if_neg h2] at h ⊢
  by_cases h3 : r.default = true
  · simp only [if_pos h3] at h ⊢
    obtain ⟨_, g⟩ := act _ _ h rfl
    rw [g]
    unfold rfMean
    rw [if_pos h3]
    exact ⟨rfl, fun e => by rw [h3] at e; cases e⟩
  · simp only [if_neg h3] at h ⊢
    obtain ⟨g1, g2⟩ := act _ _ h (snLine_keep r).2
    obtain ⟨m1, m2⟩ := line_mean g1
    rw [g2, m1]
    unfold rfMean
    rw [if_neg h3]
    exact ⟨rfl, fun _ => m2⟩
end Go.Proofs.YtllgjjldnnmjkaaDoor
end
section
namespace Go.Proofs.YtllgjjldnnmjkaaDoor
open Go.RowKit
set_option maxRecDepth 100000

/-! ### milepost/milepostref07.Find: function 54 -/
noncomputable def ref07_Find.body : Code := bodyC Tryd.f54
noncomputable def ref07_Find.c1 : Code := sq1 ref07_Find.body
noncomputable def ref07_Find.c2 : Code := sq2 ref07_Find.body
theorem ref07_Find.q3 : ref07_Find.body = .seq ref07_Find.c1 ref07_Find.c2 := by kernel_rfl
noncomputable def ref07_Find.c4 : Code := sq1 ref07_Find.c2
noncomputable def ref07_Find.c5 : Code := sq2 ref07_Find.c2
theorem ref07_Find.q6 : ref07_Find.c2 = .seq ref07_Find.c4 ref07_Find.c5 := by kernel_rfl
def ref07_Find.s7 (Z : ZT) (Q : List Value → Bool → PT) (t_4 : Addr) : PT :=
  (stN 5 t_4 [(Value.string ⟨#[]⟩), (Value.int .i64 0), (Value.slice none 0 0), (Value.bool false), (Value.bool false)] (ldN 5 t_4 fun v3 => (Q v3 false)))
def ref07_Find.q8 (Z : ZT) (Q : List Value → Bool → PT) : QF := bodyQ Tryd.prog [.cell 4 55, .tmp 5] (fun v => at2 v fun x y => atN x fun xa => atB y fun ya => Q xa ya)
theorem ref07_Find.s7_eq (Z : ZT) (Q : List Value → Bool → PT) (ρ : Fr) (t_4 : Addr) : comp Tryd.prog Z ref07_Find.c5 (ref07_Find.q8 Z Q) (puts ρ [(4, (Value.pointer (some t_4)))]) = ref07_Find.s7 Z Q t_4 := by kernel_rfl
def ref07_Find.j9 (Z : ZT) (Q : List Value → Bool → PT) : Fr → PT := (fun ρ => atA (ρ 4) fun t_4 => (ref07_Find.s7 Z Q t_4))
theorem ref07_Find.s7_ok (Z : ZT) (Q : List Value → Bool → PT) : Ok Tryd.prog Tryd.f54.ntmps Z ref07_Find.c5 (ref07_Find.q8 Z Q) (ref07_Find.j9 Z Q) := by
  intro E he ρ w a hr h
  obtain ⟨t_4, e4, h⟩ := atA_e h
  exact ok_at [(4, (Value.pointer (some t_4)))] (okC ref07_Find.c5 (ref07_Find.q8 Z Q) (by kernel_rfl)) (puts_cons e4 (fun p hp => puts_nil hp)) (ref07_Find.s7_eq Z Q ρ t_4) he hr h
noncomputable def ref07_Find.c10 : Code := sq1 ref07_Find.c4
noncomputable def ref07_Find.c11 : Code := sq2 ref07_Find.c4
theorem ref07_Find.q12 : ref07_Find.c4 = .seq ref07_Find.c10 ref07_Find.c11 := by kernel_rfl
noncomputable def ref07_Find.c13 : Code := blk ref07_Find.c11
theorem ref07_Find.q14 : ref07_Find.c11 = .block 0 ref07_Find.c13 := by kernel_rfl
noncomputable def ref07_Find.c15 : Code := lop ref07_Find.c13
theorem ref07_Find.q16 : ref07_Find.c13 = .loop ref07_Find.c15 := by kernel_rfl
def ref07_Find.q18 (Z : ZT) (Q : List Value → Bool → PT) : QF := thenK (ref07_Find.j9 Z Q) (ref07_Find.q8 Z Q)
def ref07_Find.q19 (Z : ZT) (Q : List Value → Bool → PT) : QF := inBl 0 (ref07_Find.q18 Z Q)
def ref07_Find.s20 (Z : ZT) (Q : List Value → Bool → PT) (X1 : ByteArray → Addr → Addr → Int → PT) (word_1 : ByteArray) (r_2 : Addr) (t_4 : Addr) (i_6 : Int) : PT :=
  (ldL (r_2.add 4) fun v16 v16n v16c => (pif (decide (i_6 < ((v16n : Nat) : Int))) (ldL (r_2.add 4) fun v17 v17n v17c => (ixS v17 v17n i_6 5 fun v18 => (ldS (v18.add 0) fun v19 => (pif (v19.toList == word_1.toList) (ldL (r_2.add 4) fun v20 v20n v20c => (ixS v20 v20n i_6 5 fun v21 => (ldN 5 v21 fun v22 => (stN 5 t_4 v22 (ldN 5 t_4 fun v23 => (Q v23 true)))))) (X1 word_1 r_2 t_4 (IntKind.wrap .i64 (i_6 + 1))))))) (ref07_Find.s7 Z Q t_4)))
def ref07_Find.j21 (Z : ZT) (Q : List Value → Bool → PT) (X1 : ByteArray → Addr → Addr → Int → PT) : Fr → PT := (fun ρ => atS (ρ 1) fun word_1 => atA (ρ 2) fun r_2 => atA (ρ 4) fun t_4 => atI .i64 (ρ 6) fun i_6 => (X1 word_1 r_2 t_4 i_6))
def ref07_Find.q22 (Z : ZT) (Q : List Value → Bool → PT) (X1 : ByteArray → Addr → Addr → Int → PT) : QF := thenK (ref07_Find.j21 Z Q X1) (ref07_Find.q19 Z Q)
theorem ref07_Find.s20_eq (Z : ZT) (Q : List Value → Bool → PT) (X1 : ByteArray → Addr → Addr → Int → PT) (ρ : Fr) (word_1 : ByteArray) (r_2 : Addr) (t_4 : Addr) (i_6 : Int) : comp Tryd.prog Z ref07_Find.c15 (ref07_Find.q22 Z Q X1) (puts ρ [(1, (Value.string word_1)), (2, (Value.pointer (some r_2))), (4, (Value.pointer (some t_4))), (6, (Value.int .i64 i_6))]) = ref07_Find.s20 Z Q X1 word_1 r_2 t_4 i_6 := by kernel_rfl
def ref07_Find.j23 (Z : ZT) (Q : List Value → Bool → PT) (X1 : ByteArray → Addr → Addr → Int → PT) : Fr → PT := (fun ρ => atS (ρ 1) fun word_1 => atA (ρ 2) fun r_2 => atA (ρ 4) fun t_4 => atI .i64 (ρ 6) fun i_6 => (ref07_Find.s20 Z Q X1 word_1 r_2 t_4 i_6))
theorem ref07_Find.s20_ok (Z : ZT) (Q : List Value → Bool → PT) (X1 : ByteArray → Addr → Addr → Int → PT) : Ok Tryd.prog Tryd.f54.ntmps Z ref07_Find.c15 (ref07_Find.q22 Z Q X1) (ref07_Find.j23 Z Q X1) := by
  intro E he ρ w a hr h
  obtain ⟨word_1, e1, h⟩ := atS_e h
  obtain ⟨r_2, e2, h⟩ := atA_e h
  obtain ⟨t_4, e4, h⟩ := atA_e h
  obtain ⟨i_6, e6, h⟩ := atI_e h
  exact ok_at [(1, (Value.string word_1)), (2, (Value.pointer (some r_2))), (4, (Value.pointer (some t_4))), (6, (Value.int .i64 i_6))] (okC ref07_Find.c15 (ref07_Find.q22 Z Q X1) (by kernel_rfl)) (puts_cons e1 (puts_cons e2 (puts_cons e4 (puts_cons e6 (fun p hp => puts_nil hp))))) (ref07_Find.s20_eq Z Q X1 ρ word_1 r_2 t_4 i_6) he hr h
def ref07_Find.l17 (Z : ZT) (Q : List Value → Bool → PT) : Nat → ByteArray → Addr → Addr → Int → PT
  | 0, _, _, _, _ => bad
  | k + 1, word_1, r_2, t_4, i_6 => (ref07_Find.s20 Z Q (ref07_Find.l17 Z Q k) word_1 r_2 t_4 i_6)
def ref07_Find.j24 (Z : ZT) (Q : List Value → Bool → PT) (k : Nat) : Fr → PT := (fun ρ => atS (ρ 1) fun word_1 => atA (ρ 2) fun r_2 => atA (ρ 4) fun t_4 => atI .i64 (ρ 6) fun i_6 => (ref07_Find.l17 Z Q k word_1 r_2 t_4 i_6))
def ref07_Find.j25 (Z : ZT) (Q : List Value → Bool → PT) : Fr → PT := (fun ρ => atS (ρ 1) fun word_1 => atA (ρ 2) fun r_2 => atA (ρ 4) fun t_4 => atI .i64 (ρ 6) fun i_6 => (exK fun k => ref07_Find.l17 Z Q k word_1 r_2 t_4 i_6))
theorem ref07_Find.o26 (Z : ZT) (Q : List Value → Bool → PT) : Ok Tryd.prog Tryd.f54.ntmps Z ref07_Find.c13 (ref07_Find.q19 Z Q) (ref07_Find.j25 Z Q) := by
  rw [ref07_Find.q16]
  refine Ok.imp (ok_loop (J := ref07_Find.j24 Z Q) ?_ ?_) ?_
  · intro ρ w h
    obtain ⟨word_1, e1, h⟩ := atS_e h
    obtain ⟨r_2, e2, h⟩ := atA_e h
    obtain ⟨t_4, e4, h⟩ := atA_e h
    obtain ⟨i_6, e6, h⟩ := atI_e h
    exact h
  · intro k
    refine Ok.imp (ref07_Find.s20_ok Z Q (ref07_Find.l17 Z Q k)) fun ρ w h => ?_
    obtain ⟨word_1, e1, h⟩ := atS_e h
    obtain ⟨r_2, e2, h⟩ := atA_e h
    obtain ⟨t_4, e4, h⟩ := atA_e h
    obtain ⟨i_6, e6, h⟩ := atI_e h
    show (ref07_Find.j23 Z Q (ref07_Find.l17 Z Q k)) ρ w
    simp only [ref07_Find.j23]
    rw [e1]
    rw [e2]
    rw [e4]
    rw [e6]
    exact h
  · intro ρ w h
    obtain ⟨word_1, e1, h⟩ := atS_e h
    obtain ⟨r_2, e2, h⟩ := atA_e h
    obtain ⟨t_4, e4, h⟩ := atA_e h
    obtain ⟨i_6, e6, h⟩ := atI_e h
    obtain ⟨k, h⟩ := h
    refine ⟨k, ?_⟩
    show (atS (ρ 1) fun word_1 => atA (ρ 2) fun r_2 => atA (ρ 4) fun t_4 => atI .i64 (ρ 6) fun i_6 => (ref07_Find.l17 Z Q k word_1 r_2 t_4 i_6)) w
    rw [e1]
    rw [e2]
    rw [e4]
    rw [e6]
    exact h
theorem ref07_Find.o27 (Z : ZT) (Q : List Value → Bool → PT) : Ok Tryd.prog Tryd.f54.ntmps Z ref07_Find.c11 (ref07_Find.q18 Z Q) (ref07_Find.j25 Z Q) := by
  rw [ref07_Find.q14]; exact ok_block (ref07_Find.o26 Z Q)
def ref07_Find.s28 (Z : ZT) (Q : List Value → Bool → PT) (word_1 : ByteArray) (r_2 : Addr) (t_4 : Addr) : PT :=
  (exK fun k => ref07_Find.l17 Z Q k word_1 r_2 t_4 0)
theorem ref07_Find.s28_eq (Z : ZT) (Q : List Value → Bool → PT) (ρ : Fr) (word_1 : ByteArray) (r_2 : Addr) (t_4 : Addr) : (comp Tryd.prog Z ref07_Find.c10 (thenK (ref07_Find.j25 Z Q) (ref07_Find.q18 Z Q))) (puts ρ [(1, (Value.string word_1)), (2, (Value.pointer (some r_2))), (4, (Value.pointer (some t_4)))]) = ref07_Find.s28 Z Q word_1 r_2 t_4 := by kernel_rfl
def ref07_Find.j29 (Z : ZT) (Q : List Value → Bool → PT) : Fr → PT := (fun ρ => atS (ρ 1) fun word_1 => atA (ρ 2) fun r_2 => atA (ρ 4) fun t_4 => (ref07_Find.s28 Z Q word_1 r_2 t_4))
theorem ref07_Find.s28_ok (Z : ZT) (Q : List Value → Bool → PT) : Ok Tryd.prog Tryd.f54.ntmps Z ref07_Find.c4 (ref07_Find.q18 Z Q) (ref07_Find.j29 Z Q) := by
  intro E he ρ w a hr h
  rw [ref07_Find.q12] at he ⊢
  obtain ⟨word_1, e1, h⟩ := atS_e h
  obtain ⟨r_2, e2, h⟩ := atA_e h
  obtain ⟨t_4, e4, h⟩ := atA_e h
  exact ok_at [(1, (Value.string word_1)), (2, (Value.pointer (some r_2))), (4, (Value.pointer (some t_4)))] (ok_seq (okC ref07_Find.c10 _ (by kernel_rfl)) (ref07_Find.o27 Z Q)) (puts_cons e1 (puts_cons e2 (puts_cons e4 (fun p hp => puts_nil hp)))) (ref07_Find.s28_eq Z Q ρ word_1 r_2 t_4) he hr h
theorem ref07_Find.o30 (Z : ZT) (Q : List Value → Bool → PT) : Ok Tryd.prog Tryd.f54.ntmps Z ref07_Find.c2 (ref07_Find.q8 Z Q) (ref07_Find.j29 Z Q) := by
  rw [ref07_Find.q6]; exact ok_seq (ref07_Find.s28_ok Z Q) (ref07_Find.s7_ok Z Q)
def ref07_Find.s31 (Z : ZT) (Q : List Value → Bool → PT) (r_0 : List Value) (word_1 : ByteArray) : PT :=
  (newC 52 r_0 fun r24 => (newC 55 [(Value.string ⟨#[]⟩), (Value.int .i64 0), (Value.slice none 0 0), (Value.bool false), (Value.bool false)] fun v25 => (ref07_Find.s28 Z Q word_1 r24 v25)))
theorem ref07_Find.s31_eq (Z : ZT) (Q : List Value → Bool → PT) (ρ : Fr) (r_0 : List Value) (word_1 : ByteArray) : (comp Tryd.prog Z ref07_Find.c1 (thenK (ref07_Find.j29 Z Q) (ref07_Find.q8 Z Q))) (puts ρ [(0, (Value.agg ⟨r_0⟩)), (1, (Value.string word_1))]) = ref07_Find.s31 Z Q r_0 word_1 := by kernel_rfl
def ref07_Find.j32 (Z : ZT) (Q : List Value → Bool → PT) : Fr → PT := (fun ρ => atN (ρ 0) fun r_0 => atS (ρ 1) fun word_1 => (ref07_Find.s31 Z Q r_0 word_1))
theorem ref07_Find.s31_ok (Z : ZT) (Q : List Value → Bool → PT) : Ok Tryd.prog Tryd.f54.ntmps Z ref07_Find.body (ref07_Find.q8 Z Q) (ref07_Find.j32 Z Q) := by
  intro E he ρ w a hr h
  rw [ref07_Find.q3] at he ⊢
  obtain ⟨r_0, e0, h⟩ := atN_e h
  obtain ⟨word_1, e1, h⟩ := atS_e h
  exact ok_at [(0, (Value.agg ⟨r_0⟩)), (1, (Value.string word_1))] (ok_seq (okC ref07_Find.c1 _ (by kernel_rfl)) (ref07_Find.o30 Z Q)) (puts_cons e0 (puts_cons e1 (fun p hp => puts_nil hp))) (ref07_Find.s31_eq Z Q ρ r_0 word_1) he hr h
def ref07_Find.F (Z : ZT) (Q : List Value → Bool → PT) (r_0 : List Value) (word_1 : ByteArray) : PT :=
  (ref07_Find.s31 Z Q r_0 word_1)
theorem ref07_Find.vc (Z : ZT) (Q : List Value → Bool → PT) (r_0 : List Value) (word_1 : ByteArray) (w : World) (h : ref07_Find.F Z Q r_0 word_1 w) : Calls Tryd.prog 54 ⟨[(Value.agg ⟨r_0⟩), (Value.string word_1)]⟩ w fun e w' => (∃ (r0 : List Value) (r1 : Bool), e = .returned (.tuple #[.agg ⟨r0⟩, .bool r1]) ∧ Q r0 r1 w') ∨ ∃ c, e = .panicked c ∧ Z c w' := by
  refine (calls_of_ok (args := [(Value.agg ⟨r_0⟩), (Value.string word_1)]) (w := w) (rs := [.cell 4 55, .tmp 5]) (fn := Tryd.f54) (c := ref07_Find.body) Tryd.func54 (by kernel_rfl) (by kernel_rfl) (Nat.le_of_ble_eq_true (by kernel_rfl)) (ref07_Find.s31_ok Z Q) (h)).mono fun e w' hR => ?_
  cases e with
  | returned v =>
    obtain ⟨x, y, rfl, hR⟩ := at2_e hR
    obtain ⟨xa, rfl, hR⟩ := atN_e hR
    obtain ⟨ya, rfl, hR⟩ := atB_e hR
    exact .inl ⟨xa, ya, rfl, hR⟩
  | panicked c => exact .inr ⟨c, rfl, hR⟩
  | outgrown => exact hR.elim
theorem ref07_Find.vc0 (Q : List Value → Bool → PT) (r_0 : List Value) (word_1 : ByteArray) (w : World) (h : ref07_Find.F Z0 Q r_0 word_1 w) : Calls Tryd.prog 54 ⟨[(Value.agg ⟨r_0⟩), (Value.string word_1)]⟩ w fun e w' => (∃ (r0 : List Value) (r1 : Bool), e = .returned (.tuple #[.agg ⟨r0⟩, .bool r1]) ∧ Q r0 r1 w') :=
  (ref07_Find.vc Z0 Q r_0 word_1 w h).mono fun _ _ hR => hR.elim id fun ⟨_, _, hz⟩ => hz.elim
theorem ref07_Find.cal {Z : ZT} {Q : List Value → Bool → PT} {r_0 : List Value} {word_1 : ByteArray} {w : World} (h : ref07_Find.F Z Q r_0 word_1 w) : Go.Proofs.YtllgjjldnnmjkaaDoor.cal Tryd.prog Z 54 [(Value.agg ⟨r_0⟩), (Value.string word_1)] (isT2 fun x y => (isN fun r0 => (isB fun r1 => Q r0 r1) y) x) w := by
  refine (ref07_Find.vc Z Q r_0 word_1 w h).mono fun e w' hR => ?_
  rcases hR with ⟨r0, r1, rfl, h⟩ | ⟨c, rfl, h⟩
  · show (isT2 fun x y => (isN fun r0 => (isB fun r1 => Q r0 r1) y) x) (.tuple #[.agg ⟨r0⟩, .bool r1]) w'
    exact ⟨_, _, rfl, ⟨_, rfl, ⟨_, rfl, h⟩⟩⟩
  · exact h

/-! ### milepost/milepostref07.Must: function 50 -/
noncomputable def ref07_Must.body : Code := bodyC Tryd.f50
noncomputable def ref07_Must.c1 : Code := sq1 ref07_Must.body
noncomputable def ref07_Must.c2 : Code := sq1 (sq2 ref07_Must.body)
noncomputable def ref07_Must.c3 : Code := sq1 (sq2 (sq2 ref07_Must.body))
noncomputable def ref07_Must.c4 : Code := sq2 (sq2 (sq2 ref07_Must.body))
theorem ref07_Must.q5 : ref07_Must.body = .seq ref07_Must.c1 (.seq ref07_Must.c2 (.seq ref07_Must.c3 ref07_Must.c4)) := by kernel_rfl
def ref07_Must.s6 (Z : ZT) (Q : Int → PT) (c_1 : Addr) : PT :=
  (ldS (c_1.add 0) fun v76 => (pif (v76.toList == (⟨#[115, 112, 111, 114, 116]⟩ : ByteArray).toList) (Q 1) (ldS (c_1.add 0) fun v77 => (pif (v77.toList == (⟨#[100, 112, 111, 114, 116]⟩ : ByteArray).toList) (Q 1) (ldS (c_1.add 0) fun v78 => (pif (v78.toList == (⟨#[112, 114, 111, 116, 111]⟩ : ByteArray).toList) (Q 1) (Q 0)))))))
def ref07_Must.q7 (Z : ZT) (Q : Int → PT) : QF := bodyQ Tryd.prog [.tmp 2] (fun v => atI .i64 v fun va => Q va)
theorem ref07_Must.s6_eq (Z : ZT) (Q : Int → PT) (ρ : Fr) (c_1 : Addr) : comp Tryd.prog Z ref07_Must.c4 (ref07_Must.q7 Z Q) (puts ρ [(1, (Value.pointer (some c_1)))]) = ref07_Must.s6 Z Q c_1 := by kernel_rfl
def ref07_Must.j8 (Z : ZT) (Q : Int → PT) : Fr → PT := (fun ρ => atA (ρ 1) fun c_1 => (ref07_Must.s6 Z Q c_1))
theorem ref07_Must.s6_ok (Z : ZT) (Q : Int → PT) : Ok Tryd.prog Tryd.f50.ntmps Z ref07_Must.c4 (ref07_Must.q7 Z Q) (ref07_Must.j8 Z Q) := by
  intro E he ρ w a hr h
  obtain ⟨c_1, e1, h⟩ := atA_e h
  exact ok_at [(1, (Value.pointer (some c_1)))] (okC ref07_Must.c4 (ref07_Must.q7 Z Q) (by kernel_rfl)) (puts_cons e1 (fun p hp => puts_nil hp)) (ref07_Must.s6_eq Z Q ρ c_1) he hr h
def ref07_Must.s9 (Z : ZT) (Q : Int → PT) (c_0 : List Value) : PT :=
  (newC 55 c_0 fun c79 => (ldS (c79.add 0) fun v80 => (pif (v80.toList == (⟨#[115, 114, 99]⟩ : ByteArray).toList) (ldB (c79.add 3) fun v81 => (pif v81 (Q 5) (Q 4))) (ldS (c79.add 0) fun v82 => (pif (v82.toList == (⟨#[100, 115, 116]⟩ : ByteArray).toList) (ldB (c79.add 3) fun v83 => (pif v83 (Q 5) (Q 4))) (ldS (c79.add 0) fun v84 => (pif (v84.toList == (⟨#[115, 112, 111, 114, 116]⟩ : ByteArray).toList) (ldB (c79.add 4) fun v85 => (pif v85 (Q 2) (ref07_Must.s6 Z Q c79))) (ldS (c79.add 0) fun v86 => (pif (v86.toList == (⟨#[100, 112, 111, 114, 116]⟩ : ByteArray).toList) (ldB (c79.add 4) fun v87 => (pif v87 (Q 2) (ref07_Must.s6 Z Q c79))) (ref07_Must.s6 Z Q c79))))))))))
theorem ref07_Must.s9_eq (Z : ZT) (Q : Int → PT) (ρ : Fr) (c_0 : List Value) : (comp Tryd.prog Z ref07_Must.c1 (thenK (comp Tryd.prog Z ref07_Must.c2 (thenK (comp Tryd.prog Z ref07_Must.c3 (thenK (ref07_Must.j8 Z Q) (ref07_Must.q7 Z Q))) (ref07_Must.q7 Z Q))) (ref07_Must.q7 Z Q))) (puts ρ [(0, (Value.agg ⟨c_0⟩))]) = ref07_Must.s9 Z Q c_0 := by kernel_rfl
def ref07_Must.j10 (Z : ZT) (Q : Int → PT) : Fr → PT := (fun ρ => atN (ρ 0) fun c_0 => (ref07_Must.s9 Z Q c_0))
theorem ref07_Must.s9_ok (Z : ZT) (Q : Int → PT) : Ok Tryd.prog Tryd.f50.ntmps Z ref07_Must.body (ref07_Must.q7 Z Q) (ref07_Must.j10 Z Q) := by
  intro E he ρ w a hr h
  rw [ref07_Must.q5] at he ⊢
  obtain ⟨c_0, e0, h⟩ := atN_e h
  exact ok_at [(0, (Value.agg ⟨c_0⟩))] (ok_seq (okC ref07_Must.c1 _ (by kernel_rfl)) (ok_seq (okC ref07_Must.c2 _ (by kernel_rfl)) (ok_seq (okC ref07_Must.c3 _ (by kernel_rfl)) (ref07_Must.s6_ok Z Q)))) (puts_cons e0 (fun p hp => puts_nil hp)) (ref07_Must.s9_eq Z Q ρ c_0) he hr h
def ref07_Must.F (Z : ZT) (Q : Int → PT) (c_0 : List Value) : PT :=
  (ref07_Must.s9 Z Q c_0)
theorem ref07_Must.vc (Z : ZT) (Q : Int → PT) (c_0 : List Value) (w : World) (h : ref07_Must.F Z Q c_0 w) : Calls Tryd.prog 50 ⟨[(Value.agg ⟨c_0⟩)]⟩ w fun e w' => (∃ (r0 : Int), e = .returned (.int .i64 r0) ∧ Q r0 w') ∨ ∃ c, e = .panicked c ∧ Z c w' := by
  refine (calls_of_ok (args := [(Value.agg ⟨c_0⟩)]) (w := w) (rs := [.tmp 2]) (fn := Tryd.f50) (c := ref07_Must.body) Tryd.func50 (by kernel_rfl) (by kernel_rfl) (Nat.le_of_ble_eq_true (by kernel_rfl)) (ref07_Must.s9_ok Z Q) (h)).mono fun e w' hR => ?_
  cases e with
  | returned v =>
    obtain ⟨va, rfl, hR⟩ := atI_e hR
    exact .inl ⟨va, rfl, hR⟩
  | panicked c => exact .inr ⟨c, rfl, hR⟩
  | outgrown => exact hR.elim
theorem ref07_Must.vc0 (Q : Int → PT) (c_0 : List Value) (w : World) (h : ref07_Must.F Z0 Q c_0 w) : Calls Tryd.prog 50 ⟨[(Value.agg ⟨c_0⟩)]⟩ w fun e w' => (∃ (r0 : Int), e = .returned (.int .i64 r0) ∧ Q r0 w') :=
  (ref07_Must.vc Z0 Q c_0 w h).mono fun _ _ hR => hR.elim id fun ⟨_, _, hz⟩ => hz.elim
theorem ref07_Must.cal {Z : ZT} {Q : Int → PT} {c_0 : List Value} {w : World} (h : ref07_Must.F Z Q c_0 w) : Go.Proofs.YtllgjjldnnmjkaaDoor.cal Tryd.prog Z 50 [(Value.agg ⟨c_0⟩)] (isI .i64 fun r0 => Q r0) w := by
  refine (ref07_Must.vc Z Q c_0 w h).mono fun e w' hR => ?_
  rcases hR with ⟨r0, rfl, h⟩ | ⟨c, rfl, h⟩
  · show (isI .i64 fun r0 => Q r0) (.int .i64 r0) w'
    exact ⟨_, rfl, h⟩
  · exact h

/-! ### milepost/milepostref07.Most: function 51 -/
noncomputable def ref07_Most.body : Code := bodyC Tryd.f51
def ref07_Most.F (Z : ZT) (Q : Int → PT) (word_0 : ByteArray) (i_1 : Int) : PT :=
  (pif (word_0.toList == (⟨#[115, 112, 111, 114, 116]⟩ : ByteArray).toList) (Q 65535) (pif (word_0.toList == (⟨#[100, 112, 111, 114, 116]⟩ : ByteArray).toList) (Q 65535) (pif (!(word_0.toList == (⟨#[112, 114, 111, 116, 111]⟩ : ByteArray).toList)) (pif (i_1 == 4) (Q 32) (Q 255)) (Q 255))))
def ref07_Most.q1 (Z : ZT) (Q : Int → PT) : QF := bodyQ Tryd.prog [.tmp 4] (fun v => atI .i64 v fun va => Q va)
theorem ref07_Most.eq (Z : ZT) (Q : Int → PT) (word_0 : ByteArray) (i_1 : Int) : comp Tryd.prog Z ref07_Most.body (ref07_Most.q1 Z Q) (fr0 [(Value.string word_0), (Value.int .i64 i_1)]) = ref07_Most.F Z Q word_0 i_1 := by kernel_rfl
theorem ref07_Most.vc (Z : ZT) (Q : Int → PT) (word_0 : ByteArray) (i_1 : Int) (w : World) (h : ref07_Most.F Z Q word_0 i_1 w) : Calls Tryd.prog 51 ⟨[(Value.string word_0), (Value.int .i64 i_1)]⟩ w fun e w' => (∃ (r0 : Int), e = .returned (.int .i64 r0) ∧ Q r0 w') ∨ ∃ c, e = .panicked c ∧ Z c w' := by
  refine (calls_of_ok (args := [(Value.string word_0), (Value.int .i64 i_1)]) (w := w) (rs := [.tmp 4]) (fn := Tryd.f51) (c := ref07_Most.body) Tryd.func51 (by kernel_rfl) (by kernel_rfl) (Nat.le_of_ble_eq_true (by kernel_rfl)) (okC ref07_Most.body (ref07_Most.q1 Z Q) (by kernel_rfl)) (by rw [ref07_Most.eq]; exact h)).mono fun e w' hR => ?_
  cases e with
  | returned v =>
    obtain ⟨va, rfl, hR⟩ := atI_e hR
    exact .inl ⟨va, rfl, hR⟩
  | panicked c => exact .inr ⟨c, rfl, hR⟩
  | outgrown => exact hR.elim
theorem ref07_Most.vc0 (Q : Int → PT) (word_0 : ByteArray) (i_1 : Int) (w : World) (h : ref07_Most.F Z0 Q word_0 i_1 w) : Calls Tryd.prog 51 ⟨[(Value.string word_0), (Value.int .i64 i_1)]⟩ w fun e w' => (∃ (r0 : Int), e = .returned (.int .i64 r0) ∧ Q r0 w') :=
  (ref07_Most.vc Z0 Q word_0 i_1 w h).mono fun _ _ hR => hR.elim id fun ⟨_, _, hz⟩ => hz.elim
theorem ref07_Most.cal {Z : ZT} {Q : Int → PT} {word_0 : ByteArray} {i_1 : Int} {w : World} (h : ref07_Most.F Z Q word_0 i_1 w) : Go.Proofs.YtllgjjldnnmjkaaDoor.cal Tryd.prog Z 51 [(Value.string word_0), (Value.int .i64 i_1)] (isI .i64 fun r0 => Q r0) w := by
  refine (ref07_Most.vc Z Q word_0 i_1 w h).mono fun e w' hR => ?_
  rcases hR with ⟨r0, rfl, h⟩ | ⟨c, rfl, h⟩
  · show (isI .i64 fun r0 => Q r0) (.int .i64 r0) w'
    exact ⟨_, rfl, h⟩
  · exact h

/-! ### milepost/milepostref07.Fault: function 30 -/
noncomputable def ref07_Fault.body : Code := bodyC Tryd.f30
noncomputable def ref07_Fault.c1 : Code := sq1 ref07_Fault.body
noncomputable def ref07_Fault.c2 : Code := sq1 (sq2 ref07_Fault.body)
noncomputable def ref07_Fault.c3 : Code := sq2 (sq2 ref07_Fault.body)
theorem ref07_Fault.q4 : ref07_Fault.body = .seq ref07_Fault.c1 (.seq ref07_Fault.c2 ref07_Fault.c3) := by kernel_rfl
noncomputable def ref07_Fault.c5 : Code := sq1 ref07_Fault.c3
noncomputable def ref07_Fault.c6 : Code := sq2 ref07_Fault.c3
theorem ref07_Fault.q7 : ref07_Fault.c3 = .seq ref07_Fault.c5 ref07_Fault.c6 := by kernel_rfl
def ref07_Fault.s8 (Z : ZT) (Q : Int → Int → PT)  : PT :=
  (Q 0 0)
def ref07_Fault.q9 (Z : ZT) (Q : Int → Int → PT) : QF := bodyQ Tryd.prog [.tmp 2, .tmp 3] (fun v => at2 v fun x y => atI .i64 x fun xa => atI .i64 y fun ya => Q xa ya)
theorem ref07_Fault.s8_eq (Z : ZT) (Q : Int → Int → PT) (ρ : Fr)  : comp Tryd.prog Z ref07_Fault.c6 (ref07_Fault.q9 Z Q) (puts ρ []) = ref07_Fault.s8 Z Q  := by kernel_rfl
def ref07_Fault.j10 (Z : ZT) (Q : Int → Int → PT) : Fr → PT := (fun ρ => (ref07_Fault.s8 Z Q ))
theorem ref07_Fault.s8_ok (Z : ZT) (Q : Int → Int → PT) : Ok Tryd.prog Tryd.f30.ntmps Z ref07_Fault.c6 (ref07_Fault.q9 Z Q) (ref07_Fault.j10 Z Q) := by
  intro E he ρ w a hr h
  exact ok_at [] (okC ref07_Fault.c6 (ref07_Fault.q9 Z Q) (by kernel_rfl)) (fun p hp => puts_nil hp) (ref07_Fault.s8_eq Z Q ρ ) he hr h
noncomputable def ref07_Fault.c11 : Code := sq1 ref07_Fault.c5
noncomputable def ref07_Fault.c12 : Code := sq2 ref07_Fault.c5
theorem ref07_Fault.q13 : ref07_Fault.c5 = .seq ref07_Fault.c11 ref07_Fault.c12 := by kernel_rfl
noncomputable def ref07_Fault.c14 : Code := blk ref07_Fault.c12
theorem ref07_Fault.q15 : ref07_Fault.c12 = .block 0 ref07_Fault.c14 := by kernel_rfl
noncomputable def ref07_Fault.c16 : Code := lop ref07_Fault.c14
theorem ref07_Fault.q17 : ref07_Fault.c14 = .loop ref07_Fault.c16 := by kernel_rfl
def ref07_Fault.q19 (Z : ZT) (Q : Int → Int → PT) : QF := thenK (ref07_Fault.j10 Z Q) (ref07_Fault.q9 Z Q)
def ref07_Fault.q20 (Z : ZT) (Q : Int → Int → PT) : QF := inBl 0 (ref07_Fault.q19 Z Q)
noncomputable def ref07_Fault.c21 : Code := sq1 ref07_Fault.c16
noncomputable def ref07_Fault.c22 : Code := sq2 ref07_Fault.c16
theorem ref07_Fault.q23 : ref07_Fault.c16 = .seq ref07_Fault.c21 ref07_Fault.c22 := by kernel_rfl
noncomputable def ref07_Fault.c24 : Code := sq1 ref07_Fault.c22
noncomputable def ref07_Fault.c25 : Code := sq2 ref07_Fault.c22
theorem ref07_Fault.q26 : ref07_Fault.c22 = .seq ref07_Fault.c24 ref07_Fault.c25 := by kernel_rfl
def ref07_Fault.s27 (Z : ZT) (Q : Int → Int → PT) (X1 : Addr → Int → PT) (r_1 : Addr) (i_4 : Int) : PT :=
  (X1 r_1 (IntKind.wrap .i64 (i_4 + 1)))
def ref07_Fault.j28 (Z : ZT) (Q : Int → Int → PT) (X1 : Addr → Int → PT) : Fr → PT := (fun ρ => atA (ρ 1) fun r_1 => atI .i64 (ρ 4) fun i_4 => (X1 r_1 i_4))
def ref07_Fault.q29 (Z : ZT) (Q : Int → Int → PT) (X1 : Addr → Int → PT) : QF := thenK (ref07_Fault.j28 Z Q X1) (ref07_Fault.q20 Z Q)
theorem ref07_Fault.s27_eq (Z : ZT) (Q : Int → Int → PT) (X1 : Addr → Int → PT) (ρ : Fr) (r_1 : Addr) (i_4 : Int) : comp Tryd.prog Z ref07_Fault.c25 (ref07_Fault.q29 Z Q X1) (puts ρ [(1, (Value.pointer (some r_1))), (4, (Value.int .i64 i_4))]) = ref07_Fault.s27 Z Q X1 r_1 i_4 := by kernel_rfl
def ref07_Fault.j30 (Z : ZT) (Q : Int → Int → PT) (X1 : Addr → Int → PT) : Fr → PT := (fun ρ => atA (ρ 1) fun r_1 => atI .i64 (ρ 4) fun i_4 => (ref07_Fault.s27 Z Q X1 r_1 i_4))
theorem ref07_Fault.s27_ok (Z : ZT) (Q : Int → Int → PT) (X1 : Addr → Int → PT) : Ok Tryd.prog Tryd.f30.ntmps Z ref07_Fault.c25 (ref07_Fault.q29 Z Q X1) (ref07_Fault.j30 Z Q X1) := by
  intro E he ρ w a hr h
  obtain ⟨r_1, e1, h⟩ := atA_e h
  obtain ⟨i_4, e4, h⟩ := atI_e h
  exact ok_at [(1, (Value.pointer (some r_1))), (4, (Value.int .i64 i_4))] (okC ref07_Fault.c25 (ref07_Fault.q29 Z Q X1) (by kernel_rfl)) (puts_cons e1 (puts_cons e4 (fun p hp => puts_nil hp))) (ref07_Fault.s27_eq Z Q X1 ρ r_1 i_4) he hr h
noncomputable def ref07_Fault.c31 : Code := blk ref07_Fault.c24
theorem ref07_Fault.q32 : ref07_Fault.c24 = .block 1 ref07_Fault.c31 := by kernel_rfl
noncomputable def ref07_Fault.c33 : Code := sq1 ref07_Fault.c31
noncomputable def ref07_Fault.c34 : Code := sq1 (sq2 ref07_Fault.c31)
noncomputable def ref07_Fault.c35 : Code := sq2 (sq2 ref07_Fault.c31)
theorem ref07_Fault.q36 : ref07_Fault.c31 = .seq ref07_Fault.c33 (.seq ref07_Fault.c34 ref07_Fault.c35) := by kernel_rfl
noncomputable def ref07_Fault.c37 : Code := sq1 ref07_Fault.c35
noncomputable def ref07_Fault.c38 : Code := sq2 ref07_Fault.c35
theorem ref07_Fault.q39 : ref07_Fault.c35 = .seq ref07_Fault.c37 ref07_Fault.c38 := by kernel_rfl
noncomputable def ref07_Fault.c40 : Code := sq1 ref07_Fault.c38
noncomputable def ref07_Fault.c41 : Code := sq2 ref07_Fault.c38
theorem ref07_Fault.q42 : ref07_Fault.c38 = .seq ref07_Fault.c40 ref07_Fault.c41 := by kernel_rfl
noncomputable def ref07_Fault.c43 : Code := blk ref07_Fault.c41
theorem ref07_Fault.q44 : ref07_Fault.c41 = .block 4 ref07_Fault.c43 := by kernel_rfl
noncomputable def ref07_Fault.c45 : Code := lop ref07_Fault.c43
theorem ref07_Fault.q46 : ref07_Fault.c43 = .loop ref07_Fault.c45 := by kernel_rfl
def ref07_Fault.q48 (Z : ZT) (Q : Int → Int → PT) (X1 : Addr → Int → PT) : QF := thenK (ref07_Fault.j30 Z Q X1) (ref07_Fault.q29 Z Q X1)
def ref07_Fault.q49 (Z : ZT) (Q : Int → Int → PT) (X1 : Addr → Int → PT) : QF := inBl 1 (ref07_Fault.q48 Z Q X1)
def ref07_Fault.q50 (Z : ZT) (Q : Int → Int → PT) (X1 : Addr → Int → PT) : QF := inBl 4 (ref07_Fault.q49 Z Q X1)
noncomputable def ref07_Fault.c51 : Code := sq1 ref07_Fault.c45
noncomputable def ref07_Fault.c52 : Code := sq2 ref07_Fault.c45
theorem ref07_Fault.q53 : ref07_Fault.c45 = .seq ref07_Fault.c51 ref07_Fault.c52 := by kernel_rfl
noncomputable def ref07_Fault.c54 : Code := sq1 ref07_Fault.c52
noncomputable def ref07_Fault.c55 : Code := sq2 ref07_Fault.c52
theorem ref07_Fault.q56 : ref07_Fault.c52 = .seq ref07_Fault.c54 ref07_Fault.c55 := by kernel_rfl
def ref07_Fault.s57 (Z : ZT) (Q : Int → Int → PT) (X1 : Addr → Int → PT) (X2 : Addr → Int → Addr → Int → PT) (r_1 : Addr) (i_4 : Int) (c_5 : Addr) (k_7 : Int) : PT :=
  (X2 r_1 i_4 c_5 (IntKind.wrap .i64 (k_7 + 1)))
def ref07_Fault.j58 (Z : ZT) (Q : Int → Int → PT) (X1 : Addr → Int → PT) (X2 : Addr → Int → Addr → Int → PT) : Fr → PT := (fun ρ => atA (ρ 1) fun r_1 => atI .i64 (ρ 4) fun i_4 => atA (ρ 5) fun c_5 => atI .i64 (ρ 7) fun k_7 => (X2 r_1 i_4 c_5 k_7))
def ref07_Fault.q59 (Z : ZT) (Q : Int → Int → PT) (X1 : Addr → Int → PT) (X2 : Addr → Int → Addr → Int → PT) : QF := thenK (ref07_Fault.j58 Z Q X1 X2) (ref07_Fault.q50 Z Q X1)
theorem ref07_Fault.s57_eq (Z : ZT) (Q : Int → Int → PT) (X1 : Addr → Int → PT) (X2 : Addr → Int → Addr → Int → PT) (ρ : Fr) (r_1 : Addr) (i_4 : Int) (c_5 : Addr) (k_7 : Int) : comp Tryd.prog Z ref07_Fault.c55 (ref07_Fault.q59 Z Q X1 X2) (puts ρ [(1, (Value.pointer (some r_1))), (4, (Value.int .i64 i_4)), (5, (Value.pointer (some c_5))), (7, (Value.int .i64 k_7))]) = ref07_Fault.s57 Z Q X1 X2 r_1 i_4 c_5 k_7 := by kernel_rfl
def ref07_Fault.j60 (Z : ZT) (Q : Int → Int → PT) (X1 : Addr → Int → PT) (X2 : Addr → Int → Addr → Int → PT) : Fr → PT := (fun ρ => atA (ρ 1) fun r_1 => atI .i64 (ρ 4) fun i_4 => atA (ρ 5) fun c_5 => atI .i64 (ρ 7) fun k_7 => (ref07_Fault.s57 Z Q X1 X2 r_1 i_4 c_5 k_7))
theorem ref07_Fault.s57_ok (Z : ZT) (Q : Int → Int → PT) (X1 : Addr → Int → PT) (X2 : Addr → Int → Addr → Int → PT) : Ok Tryd.prog Tryd.f30.ntmps Z ref07_Fault.c55 (ref07_Fault.q59 Z Q X1 X2) (ref07_Fault.j60 Z Q X1 X2) := by
  intro E he ρ w a hr h
  obtain ⟨r_1, e1, h⟩ := atA_e h
  obtain ⟨i_4, e4, h⟩ := atI_e h
  obtain ⟨c_5, e5, h⟩ := atA_e h
  obtain ⟨k_7, e7, h⟩ := atI_e h
  exact ok_at [(1, (Value.pointer (some r_1))), (4, (Value.int .i64 i_4)), (5, (Value.pointer (some c_5))), (7, (Value.int .i64 k_7))] (okC ref07_Fault.c55 (ref07_Fault.q59 Z Q X1 X2) (by kernel_rfl)) (puts_cons e1 (puts_cons e4 (puts_cons e5 (puts_cons e7 (fun p hp => puts_nil hp))))) (ref07_Fault.s57_eq Z Q X1 X2 ρ r_1 i_4 c_5 k_7) he hr h
noncomputable def ref07_Fault.c61 : Code := blk ref07_Fault.c54
theorem ref07_Fault.q62 : ref07_Fault.c54 = .block 5 ref07_Fault.c61 := by kernel_rfl
noncomputable def ref07_Fault.c63 : Code := sq1 ref07_Fault.c61
noncomputable def ref07_Fault.c64 : Code := sq2 ref07_Fault.c61
theorem ref07_Fault.q65 : ref07_Fault.c61 = .seq ref07_Fault.c63 ref07_Fault.c64 := by kernel_rfl
def ref07_Fault.s66 (Z : ZT) (Q : Int → Int → PT) (X1 : Addr → Int → PT) (X2 : Addr → Int → Addr → Int → PT) (r_1 : Addr) (i_4 : Int) (c_5 : Addr) (k_7 : Int) (t_119 : Bool) : PT :=
  (pif t_119 (drew0 (ldL (c_5.add 2) fun v205 v205n v205c => (ixS v205 v205n k_7 2 fun v206 => (ldI .i64 (v206.add 1) fun v207 => (Q 10 v207))))) (ref07_Fault.s57 Z Q X1 X2 r_1 i_4 c_5 k_7))
def ref07_Fault.q67 (Z : ZT) (Q : Int → Int → PT) (X1 : Addr → Int → PT) (X2 : Addr → Int → Addr → Int → PT) : QF := thenK (ref07_Fault.j60 Z Q X1 X2) (ref07_Fault.q59 Z Q X1 X2)
def ref07_Fault.q68 (Z : ZT) (Q : Int → Int → PT) (X1 : Addr → Int → PT) (X2 : Addr → Int → Addr → Int → PT) : QF := inBl 5 (ref07_Fault.q67 Z Q X1 X2)
theorem ref07_Fault.s66_eq (Z : ZT) (Q : Int → Int → PT) (X1 : Addr → Int → PT) (X2 : Addr → Int → Addr → Int → PT) (ρ : Fr) (r_1 : Addr) (i_4 : Int) (c_5 : Addr) (k_7 : Int) (t_119 : Bool) : comp Tryd.prog Z ref07_Fault.c64 (ref07_Fault.q68 Z Q X1 X2) (puts ρ [(1, (Value.pointer (some r_1))), (4, (Value.int .i64 i_4)), (5, (Value.pointer (some c_5))), (7, (Value.int .i64 k_7)), (119, (Value.bool t_119))]) = ref07_Fault.s66 Z Q X1 X2 r_1 i_4 c_5 k_7 t_119 := by kernel_rfl
def ref07_Fault.j69 (Z : ZT) (Q : Int → Int → PT) (X1 : Addr → Int → PT) (X2 : Addr → Int → Addr → Int → PT) : Fr → PT := (fun ρ => atA (ρ 1) fun r_1 => atI .i64 (ρ 4) fun i_4 => atA (ρ 5) fun c_5 => atI .i64 (ρ 7) fun k_7 => atB (ρ 119) fun t_119 => (ref07_Fault.s66 Z Q X1 X2 r_1 i_4 c_5 k_7 t_119))
theorem ref07_Fault.s66_ok (Z : ZT) (Q : Int → Int → PT) (X1 : Addr → Int → PT) (X2 : Addr → Int → Addr → Int → PT) : Ok Tryd.prog Tryd.f30.ntmps Z ref07_Fault.c64 (ref07_Fault.q68 Z Q X1 X2) (ref07_Fault.j69 Z Q X1 X2) := by
  intro E he ρ w a hr h
  obtain ⟨r_1, e1, h⟩ := atA_e h
  obtain ⟨i_4, e4, h⟩ := atI_e h
  obtain ⟨c_5, e5, h⟩ := atA_e h
  obtain ⟨k_7, e7, h⟩ := atI_e h
  obtain ⟨t_119, e119, h⟩ := atB_e h
  exact ok_at [(1, (Value.pointer (some r_1))), (4, (Value.int .i64 i_4)), (5, (Value.pointer (some c_5))), (7, (Value.int .i64 k_7)), (119, (Value.bool t_119))] (okC ref07_Fault.c64 (ref07_Fault.q68 Z Q X1 X2) (by kernel_rfl)) (puts_cons e1 (puts_cons e4 (puts_cons e5 (puts_cons e7 (puts_cons e119 (fun p hp => puts_nil hp)))))) (ref07_Fault.s66_eq Z Q X1 X2 ρ r_1 i_4 c_5 k_7 t_119) he hr h
def ref07_Fault.s70 (Z : ZT) (Q : Int → Int → PT) (X1 : Addr → Int → PT) (X2 : Addr → Int → Addr → Int → PT) (r_1 : Addr) (i_4 : Int) (c_5 : Addr) (k_7 : Int) : PT :=
  (drawn fun S208 => (hL S208 (c_5.add 2) fun v209 v209n v209c => (ixS v209 v209n k_7 2 fun v210 => (hI S208 .i64 (v210.add 0) fun v211 => (pif (decide (v211 < 0)) (ref07_Fault.s66 Z Q X1 X2 r_1 i_4 c_5 k_7 true) (hL S208 (c_5.add 2) fun v212 v212n v212c => (ixS v212 v212n k_7 2 fun v213 => (hI S208 .i64 (v213.add 0) fun v214 => (hS S208 (c_5.add 0) fun v215 => (cal Tryd.prog Z 51 [(Value.string v215), (Value.int .i64 k_7)] (isI .i64 fun v216 => (sAnd S208 (pif (decide (v214 > v216)) (ref07_Fault.s66 Z Q X1 X2 r_1 i_4 c_5 k_7 true) (hB S208 (c_5.add 4) fun v217 => (pif v217 (hS S208 (c_5.add 0) fun v218 => (pif (v218.toList == (⟨#[115, 112, 111, 114, 116]⟩ : ByteArray).toList) (pif (k_7 == 1) (hL S208 (c_5.add 2) fun v219 v219n v219c => (ixS v219 v219n 1 2 fun v220 => (hI S208 .i64 (v220.add 0) fun v221 => (hL S208 (c_5.add 2) fun v222 v222n v222c => (ixS v222 v222n 0 2 fun v223 => (hI S208 .i64 (v223.add 0) fun v224 => (ref07_Fault.s66 Z Q X1 X2 r_1 i_4 c_5 k_7 (decide (v221 < v224))))))))) (ref07_Fault.s66 Z Q X1 X2 r_1 i_4 c_5 k_7 false)) (hS S208 (c_5.add 0) fun v225 => (pif (v225.toList == (⟨#[100, 112, 111, 114, 116]⟩ : ByteArray).toList) (pif (k_7 == 1) (hL S208 (c_5.add 2) fun v226 v226n v226c => (ixS v226 v226n 1 2 fun v227 => (hI S208 .i64 (v227.add 0) fun v228 => (hL S208 (c_5.add 2) fun v229 v229n v229c => (ixS v229 v229n 0 2 fun v230 => (hI S208 .i64 (v230.add 0) fun v231 => (ref07_Fault.s66 Z Q X1 X2 r_1 i_4 c_5 k_7 (decide (v228 < v231))))))))) (ref07_Fault.s66 Z Q X1 X2 r_1 i_4 c_5 k_7 false)) (ref07_Fault.s66 Z Q X1 X2 r_1 i_4 c_5 k_7 false))))) (ref07_Fault.s66 Z Q X1 X2 r_1 i_4 c_5 k_7 false))))))))))))))))
theorem ref07_Fault.s70_eq (Z : ZT) (Q : Int → Int → PT) (X1 : Addr → Int → PT) (X2 : Addr → Int → Addr → Int → PT) (ρ : Fr) (r_1 : Addr) (i_4 : Int) (c_5 : Addr) (k_7 : Int) : (comp Tryd.prog Z ref07_Fault.c63 (thenK (ref07_Fault.j69 Z Q X1 X2) (ref07_Fault.q68 Z Q X1 X2))) (puts ρ [(1, (Value.pointer (some r_1))), (4, (Value.int .i64 i_4)), (5, (Value.pointer (some c_5))), (7, (Value.int .i64 k_7))]) = ref07_Fault.s70 Z Q X1 X2 r_1 i_4 c_5 k_7 := by kernel_rfl
def ref07_Fault.j71 (Z : ZT) (Q : Int → Int → PT) (X1 : Addr → Int → PT) (X2 : Addr → Int → Addr → Int → PT) : Fr → PT := (fun ρ => atA (ρ 1) fun r_1 => atI .i64 (ρ 4) fun i_4 => atA (ρ 5) fun c_5 => atI .i64 (ρ 7) fun k_7 => (ref07_Fault.s70 Z Q X1 X2 r_1 i_4 c_5 k_7))
theorem ref07_Fault.s70_ok (Z : ZT) (Q : Int → Int → PT) (X1 : Addr → Int → PT) (X2 : Addr → Int → Addr → Int → PT) : Ok Tryd.prog Tryd.f30.ntmps Z ref07_Fault.c61 (ref07_Fault.q68 Z Q X1 X2) (ref07_Fault.j71 Z Q X1 X2) := by
  intro E he ρ w a hr h
  rw [ref07_Fault.q65] at he ⊢
  obtain ⟨r_1, e1, h⟩ := atA_e h
  obtain ⟨i_4, e4, h⟩ := atI_e h
  obtain ⟨c_5, e5, h⟩ := atA_e h
  obtain ⟨k_7, e7, h⟩ := atI_e h
  exact ok_at [(1, (Value.pointer (some r_1))), (4, (Value.int .i64 i_4)), (5, (Value.pointer (some c_5))), (7, (Value.int .i64 k_7))] (ok_seq (okC ref07_Fault.c63 _ (by kernel_rfl)) (ref07_Fault.s66_ok Z Q X1 X2)) (puts_cons e1 (puts_cons e4 (puts_cons e5 (puts_cons e7 (fun p hp => puts_nil hp))))) (ref07_Fault.s70_eq Z Q X1 X2 ρ r_1 i_4 c_5 k_7) he hr h
theorem ref07_Fault.o72 (Z : ZT) (Q : Int → Int → PT) (X1 : Addr → Int → PT) (X2 : Addr → Int → Addr → Int → PT) : Ok Tryd.prog Tryd.f30.ntmps Z ref07_Fault.c54 (ref07_Fault.q67 Z Q X1 X2) (ref07_Fault.j71 Z Q X1 X2) := by
  rw [ref07_Fault.q62]; exact ok_block (ref07_Fault.s70_ok Z Q X1 X2)
theorem ref07_Fault.o73 (Z : ZT) (Q : Int → Int → PT) (X1 : Addr → Int → PT) (X2 : Addr → Int → Addr → Int → PT) : Ok Tryd.prog Tryd.f30.ntmps Z ref07_Fault.c52 (ref07_Fault.q59 Z Q X1 X2) (ref07_Fault.j71 Z Q X1 X2) := by
  rw [ref07_Fault.q56]; exact ok_seq (ref07_Fault.o72 Z Q X1 X2) (ref07_Fault.s57_ok Z Q X1 X2)
def ref07_Fault.s74 (Z : ZT) (Q : Int → Int → PT) (X1 : Addr → Int → PT) (X2 : Addr → Int → Addr → Int → PT) (r_1 : Addr) (i_4 : Int) (c_5 : Addr) (k_7 : Int) : PT :=
  (ldL (c_5.add 2) fun v232 v232n v232c => (pif (decide (k_7 < ((v232n : Nat) : Int))) (ref07_Fault.s70 Z Q X1 X2 r_1 i_4 c_5 k_7) (ref07_Fault.s27 Z Q X1 r_1 i_4)))
theorem ref07_Fault.s74_eq (Z : ZT) (Q : Int → Int → PT) (X1 : Addr → Int → PT) (X2 : Addr → Int → Addr → Int → PT) (ρ : Fr) (r_1 : Addr) (i_4 : Int) (c_5 : Addr) (k_7 : Int) : (comp Tryd.prog Z ref07_Fault.c51 (thenK (ref07_Fault.j71 Z Q X1 X2) (ref07_Fault.q59 Z Q X1 X2))) (puts ρ [(1, (Value.pointer (some r_1))), (4, (Value.int .i64 i_4)), (5, (Value.pointer (some c_5))), (7, (Value.int .i64 k_7))]) = ref07_Fault.s74 Z Q X1 X2 r_1 i_4 c_5 k_7 := by kernel_rfl
def ref07_Fault.j75 (Z : ZT) (Q : Int → Int → PT) (X1 : Addr → Int → PT) (X2 : Addr → Int → Addr → Int → PT) : Fr → PT := (fun ρ => atA (ρ 1) fun r_1 => atI .i64 (ρ 4) fun i_4 => atA (ρ 5) fun c_5 => atI .i64 (ρ 7) fun k_7 => (ref07_Fault.s74 Z Q X1 X2 r_1 i_4 c_5 k_7))
theorem ref07_Fault.s74_ok (Z : ZT) (Q : Int → Int → PT) (X1 : Addr → Int → PT) (X2 : Addr → Int → Addr → Int → PT) : Ok Tryd.prog Tryd.f30.ntmps Z ref07_Fault.c45 (ref07_Fault.q59 Z Q X1 X2) (ref07_Fault.j75 Z Q X1 X2) := by
  intro E he ρ w a hr h
  rw [ref07_Fault.q53] at he ⊢
  obtain ⟨r_1, e1, h⟩ := atA_e h
  obtain ⟨i_4, e4, h⟩ := atI_e h
  obtain ⟨c_5, e5, h⟩ := atA_e h
  obtain ⟨k_7, e7, h⟩ := atI_e h
  exact ok_at [(1, (Value.pointer (some r_1))), (4, (Value.int .i64 i_4)), (5, (Value.pointer (some c_5))), (7, (Value.int .i64 k_7))] (ok_seq (okC ref07_Fault.c51 _ (by kernel_rfl)) (ref07_Fault.o73 Z Q X1 X2)) (puts_cons e1 (puts_cons e4 (puts_cons e5 (puts_cons e7 (fun p hp => puts_nil hp))))) (ref07_Fault.s74_eq Z Q X1 X2 ρ r_1 i_4 c_5 k_7) he hr h
def ref07_Fault.l47 (Z : ZT) (Q : Int → Int → PT) (X1 : Addr → Int → PT) : Nat → Addr → Int → Addr → Int → PT
  | 0, _, _, _, _ => bad
  | k + 1, r_1, i_4, c_5, k_7 => (ref07_Fault.s74 Z Q X1 (ref07_Fault.l47 Z Q X1 k) r_1 i_4 c_5 k_7)
def ref07_Fault.j76 (Z : ZT) (Q : Int → Int → PT) (X1 : Addr → Int → PT) (k : Nat) : Fr → PT := (fun ρ => atA (ρ 1) fun r_1 => atI .i64 (ρ 4) fun i_4 => atA (ρ 5) fun c_5 => atI .i64 (ρ 7) fun k_7 => (ref07_Fault.l47 Z Q X1 k r_1 i_4 c_5 k_7))
def ref07_Fault.j77 (Z : ZT) (Q : Int → Int → PT) (X1 : Addr → Int → PT) : Fr → PT := (fun ρ => atA (ρ 1) fun r_1 => atI .i64 (ρ 4) fun i_4 => atA (ρ 5) fun c_5 => atI .i64 (ρ 7) fun k_7 => (exK fun k => ref07_Fault.l47 Z Q X1 k r_1 i_4 c_5 k_7))
theorem ref07_Fault.o78 (Z : ZT) (Q : Int → Int → PT) (X1 : Addr → Int → PT) : Ok Tryd.prog Tryd.f30.ntmps Z ref07_Fault.c43 (ref07_Fault.q50 Z Q X1) (ref07_Fault.j77 Z Q X1) := by
  rw [ref07_Fault.q46]
  refine Ok.imp (ok_loop (J := ref07_Fault.j76 Z Q X1) ?_ ?_) ?_
  · intro ρ w h
    obtain ⟨r_1, e1, h⟩ := atA_e h
    obtain ⟨i_4, e4, h⟩ := atI_e h
    obtain ⟨c_5, e5, h⟩ := atA_e h
    obtain ⟨k_7, e7, h⟩ := atI_e h
    exact h
  · intro k
    refine Ok.imp (ref07_Fault.s74_ok Z Q X1 (ref07_Fault.l47 Z Q X1 k)) fun ρ w h => ?_
    obtain ⟨r_1, e1, h⟩ := atA_e h
    obtain ⟨i_4, e4, h⟩ := atI_e h
    obtain ⟨c_5, e5, h⟩ := atA_e h
    obtain ⟨k_7, e7, h⟩ := atI_e h
    show (ref07_Fault.j75 Z Q X1 (ref07_Fault.l47 Z Q X1 k)) ρ w
    simp only [ref07_Fault.j75]
    rw [e1]
    rw [e4]
    rw [e5]
    rw [e7]
    exact h
  · intro ρ w h
    obtain ⟨r_1, e1, h⟩ := atA_e h
    obtain ⟨i_4, e4, h⟩ := atI_e h
    obtain ⟨c_5, e5, h⟩ := atA_e h
    obtain ⟨k_7, e7, h⟩ := atI_e h
    obtain ⟨k, h⟩ := h
    refine ⟨k, ?_⟩
    show (atA (ρ 1) fun r_1 => atI .i64 (ρ 4) fun i_4 => atA (ρ 5) fun c_5 => atI .i64 (ρ 7) fun k_7 => (ref07_Fault.l47 Z Q X1 k r_1 i_4 c_5 k_7)) w
    rw [e1]
    rw [e4]
    rw [e5]
    rw [e7]
    exact h
theorem ref07_Fault.o79 (Z : ZT) (Q : Int → Int → PT) (X1 : Addr → Int → PT) : Ok Tryd.prog Tryd.f30.ntmps Z ref07_Fault.c41 (ref07_Fault.q49 Z Q X1) (ref07_Fault.j77 Z Q X1) := by
  rw [ref07_Fault.q44]; exact ok_block (ref07_Fault.o78 Z Q X1)
def ref07_Fault.s80 (Z : ZT) (Q : Int → Int → PT) (X1 : Addr → Int → PT) (r_1 : Addr) (i_4 : Int) (c_5 : Addr) : PT :=
  (exK fun k => ref07_Fault.l47 Z Q X1 k r_1 i_4 c_5 0)
theorem ref07_Fault.s80_eq (Z : ZT) (Q : Int → Int → PT) (X1 : Addr → Int → PT) (ρ : Fr) (r_1 : Addr) (i_4 : Int) (c_5 : Addr) : (comp Tryd.prog Z ref07_Fault.c40 (thenK (ref07_Fault.j77 Z Q X1) (ref07_Fault.q49 Z Q X1))) (puts ρ [(1, (Value.pointer (some r_1))), (4, (Value.int .i64 i_4)), (5, (Value.pointer (some c_5)))]) = ref07_Fault.s80 Z Q X1 r_1 i_4 c_5 := by kernel_rfl
def ref07_Fault.j81 (Z : ZT) (Q : Int → Int → PT) (X1 : Addr → Int → PT) : Fr → PT := (fun ρ => atA (ρ 1) fun r_1 => atI .i64 (ρ 4) fun i_4 => atA (ρ 5) fun c_5 => (ref07_Fault.s80 Z Q X1 r_1 i_4 c_5))
theorem ref07_Fault.s80_ok (Z : ZT) (Q : Int → Int → PT) (X1 : Addr → Int → PT) : Ok Tryd.prog Tryd.f30.ntmps Z ref07_Fault.c38 (ref07_Fault.q49 Z Q X1) (ref07_Fault.j81 Z Q X1) := by
  intro E he ρ w a hr h
  rw [ref07_Fault.q42] at he ⊢
  obtain ⟨r_1, e1, h⟩ := atA_e h
  obtain ⟨i_4, e4, h⟩ := atI_e h
  obtain ⟨c_5, e5, h⟩ := atA_e h
  exact ok_at [(1, (Value.pointer (some r_1))), (4, (Value.int .i64 i_4)), (5, (Value.pointer (some c_5)))] (ok_seq (okC ref07_Fault.c40 _ (by kernel_rfl)) (ref07_Fault.o79 Z Q X1)) (puts_cons e1 (puts_cons e4 (puts_cons e5 (fun p hp => puts_nil hp)))) (ref07_Fault.s80_eq Z Q X1 ρ r_1 i_4 c_5) he hr h
noncomputable def ref07_Fault.c82 : Code := sq1 ref07_Fault.c37
noncomputable def ref07_Fault.c83 : Code := sq2 ref07_Fault.c37
theorem ref07_Fault.q84 : ref07_Fault.c37 = .seq ref07_Fault.c82 ref07_Fault.c83 := by kernel_rfl
noncomputable def ref07_Fault.c85 : Code := blk ref07_Fault.c83
theorem ref07_Fault.q86 : ref07_Fault.c83 = .block 2 ref07_Fault.c85 := by kernel_rfl
noncomputable def ref07_Fault.c87 : Code := lop ref07_Fault.c85
theorem ref07_Fault.q88 : ref07_Fault.c85 = .loop ref07_Fault.c87 := by kernel_rfl
def ref07_Fault.q90 (Z : ZT) (Q : Int → Int → PT) (X1 : Addr → Int → PT) : QF := thenK (ref07_Fault.j81 Z Q X1) (ref07_Fault.q49 Z Q X1)
def ref07_Fault.q91 (Z : ZT) (Q : Int → Int → PT) (X1 : Addr → Int → PT) : QF := inBl 2 (ref07_Fault.q90 Z Q X1)
def ref07_Fault.s92 (Z : ZT) (Q : Int → Int → PT) (X1 : Addr → Int → PT) (X2 : Addr → Int → Addr → Int → PT) (r_1 : Addr) (i_4 : Int) (c_5 : Addr) (k_6 : Int) : PT :=
  (pif (decide (k_6 < i_4)) (drew0 (ldL (r_1.add 4) fun v242 v242n v242c => (ixS v242 v242n k_6 5 fun v243 => (ldS (v243.add 0) fun v244 => (ldS (c_5.add 0) fun v245 => (pif (v244.toList == v245.toList) (drew0 (ldI .i64 (c_5.add 1) fun v246 => (Q 9 v246))) (X2 r_1 i_4 c_5 (IntKind.wrap .i64 (k_6 + 1))))))))) (ref07_Fault.s80 Z Q X1 r_1 i_4 c_5))
def ref07_Fault.j93 (Z : ZT) (Q : Int → Int → PT) (X1 : Addr → Int → PT) (X2 : Addr → Int → Addr → Int → PT) : Fr → PT := (fun ρ => atA (ρ 1) fun r_1 => atI .i64 (ρ 4) fun i_4 => atA (ρ 5) fun c_5 => atI .i64 (ρ 6) fun k_6 => (X2 r_1 i_4 c_5 k_6))
def ref07_Fault.q94 (Z : ZT) (Q : Int → Int → PT) (X1 : Addr → Int → PT) (X2 : Addr → Int → Addr → Int → PT) : QF := thenK (ref07_Fault.j93 Z Q X1 X2) (ref07_Fault.q91 Z Q X1)
theorem ref07_Fault.s92_eq (Z : ZT) (Q : Int → Int → PT) (X1 : Addr → Int → PT) (X2 : Addr → Int → Addr → Int → PT) (ρ : Fr) (r_1 : Addr) (i_4 : Int) (c_5 : Addr) (k_6 : Int) : comp Tryd.prog Z ref07_Fault.c87 (ref07_Fault.q94 Z Q X1 X2) (puts ρ [(1, (Value.pointer (some r_1))), (4, (Value.int .i64 i_4)), (5, (Value.pointer (some c_5))), (6, (Value.int .i64 k_6))]) = ref07_Fault.s92 Z Q X1 X2 r_1 i_4 c_5 k_6 := by kernel_rfl
def ref07_Fault.j95 (Z : ZT) (Q : Int → Int → PT) (X1 : Addr → Int → PT) (X2 : Addr → Int → Addr → Int → PT) : Fr → PT := (fun ρ => atA (ρ 1) fun r_1 => atI .i64 (ρ 4) fun i_4 => atA (ρ 5) fun c_5 => atI .i64 (ρ 6) fun k_6 => (ref07_Fault.s92 Z Q X1 X2 r_1 i_4 c_5 k_6))
theorem ref07_Fault.s92_ok (Z : ZT) (Q : Int → Int → PT) (X1 : Addr → Int → PT) (X2 : Addr → Int → Addr → Int → PT) : Ok Tryd.prog Tryd.f30.ntmps Z ref07_Fault.c87 (ref07_Fault.q94 Z Q X1 X2) (ref07_Fault.j95 Z Q X1 X2) := by
  intro E he ρ w a hr h
  obtain ⟨r_1, e1, h⟩ := atA_e h
  obtain ⟨i_4, e4, h⟩ := atI_e h
  obtain ⟨c_5, e5, h⟩ := atA_e h
  obtain ⟨k_6, e6, h⟩ := atI_e h
  exact ok_at [(1, (Value.pointer (some r_1))), (4, (Value.int .i64 i_4)), (5, (Value.pointer (some c_5))), (6, (Value.int .i64 k_6))] (okC ref07_Fault.c87 (ref07_Fault.q94 Z Q X1 X2) (by kernel_rfl)) (puts_cons e1 (puts_cons e4 (puts_cons e5 (puts_cons e6 (fun p hp => puts_nil hp))))) (ref07_Fault.s92_eq Z Q X1 X2 ρ r_1 i_4 c_5 k_6) he hr h
def ref07_Fault.l89 (Z : ZT) (Q : Int → Int → PT) (X1 : Addr → Int → PT) : Nat → Addr → Int → Addr → Int → PT
  | 0, _, _, _, _ => bad
  | k + 1, r_1, i_4, c_5, k_6 => (ref07_Fault.s92 Z Q X1 (ref07_Fault.l89 Z Q X1 k) r_1 i_4 c_5 k_6)
def ref07_Fault.j96 (Z : ZT) (Q : Int → Int → PT) (X1 : Addr → Int → PT) (k : Nat) : Fr → PT := (fun ρ => atA (ρ 1) fun r_1 => atI .i64 (ρ 4) fun i_4 => atA (ρ 5) fun c_5 => atI .i64 (ρ 6) fun k_6 => (ref07_Fault.l89 Z Q X1 k r_1 i_4 c_5 k_6))
def ref07_Fault.j97 (Z : ZT) (Q : Int → Int → PT) (X1 : Addr → Int → PT) : Fr → PT := (fun ρ => atA (ρ 1) fun r_1 => atI .i64 (ρ 4) fun i_4 => atA (ρ 5) fun c_5 => atI .i64 (ρ 6) fun k_6 => (exK fun k => ref07_Fault.l89 Z Q X1 k r_1 i_4 c_5 k_6))
theorem ref07_Fault.o98 (Z : ZT) (Q : Int → Int → PT) (X1 : Addr → Int → PT) : Ok Tryd.prog Tryd.f30.ntmps Z ref07_Fault.c85 (ref07_Fault.q91 Z Q X1) (ref07_Fault.j97 Z Q X1) := by
  rw [ref07_Fault.q88]
  refine Ok.imp (ok_loop (J := ref07_Fault.j96 Z Q X1) ?_ ?_) ?_
  · intro ρ w h
    obtain ⟨r_1, e1, h⟩ := atA_e h
    obtain ⟨i_4, e4, h⟩ := atI_e h
    obtain ⟨c_5, e5, h⟩ := atA_e h
    obtain ⟨k_6, e6, h⟩ := atI_e h
    exact h
  · intro k
    refine Ok.imp (ref07_Fault.s92_ok Z Q X1 (ref07_Fault.l89 Z Q X1 k)) fun ρ w h => ?_
    obtain ⟨r_1, e1, h⟩ := atA_e h
    obtain ⟨i_4, e4, h⟩ := atI_e h
    obtain ⟨c_5, e5, h⟩ := atA_e h
    obtain ⟨k_6, e6, h⟩ := atI_e h
    show (ref07_Fault.j95 Z Q X1 (ref07_Fault.l89 Z Q X1 k)) ρ w
    simp only [ref07_Fault.j95]
    rw [e1]
    rw [e4]
    rw [e5]
    rw [e6]
    exact h
  · intro ρ w h
    obtain ⟨r_1, e1, h⟩ := atA_e h
    obtain ⟨i_4, e4, h⟩ := atI_e h
    obtain ⟨c_5, e5, h⟩ := atA_e h
    obtain ⟨k_6, e6, h⟩ := atI_e h
    obtain ⟨k, h⟩ := h
    refine ⟨k, ?_⟩
    show (atA (ρ 1) fun r_1 => atI .i64 (ρ 4) fun i_4 => atA (ρ 5) fun c_5 => atI .i64 (ρ 6) fun k_6 => (ref07_Fault.l89 Z Q X1 k r_1 i_4 c_5 k_6)) w
    rw [e1]
    rw [e4]
    rw [e5]
    rw [e6]
    exact h
theorem ref07_Fault.o99 (Z : ZT) (Q : Int → Int → PT) (X1 : Addr → Int → PT) : Ok Tryd.prog Tryd.f30.ntmps Z ref07_Fault.c83 (ref07_Fault.q90 Z Q X1) (ref07_Fault.j97 Z Q X1) := by
  rw [ref07_Fault.q86]; exact ok_block (ref07_Fault.o98 Z Q X1)
def ref07_Fault.s100 (Z : ZT) (Q : Int → Int → PT) (X1 : Addr → Int → PT) (r_1 : Addr) (i_4 : Int) (c_5 : Addr) : PT :=
  (exK fun k => ref07_Fault.l89 Z Q X1 k r_1 i_4 c_5 0)
theorem ref07_Fault.s100_eq (Z : ZT) (Q : Int → Int → PT) (X1 : Addr → Int → PT) (ρ : Fr) (r_1 : Addr) (i_4 : Int) (c_5 : Addr) : (comp Tryd.prog Z ref07_Fault.c82 (thenK (ref07_Fault.j97 Z Q X1) (ref07_Fault.q90 Z Q X1))) (puts ρ [(1, (Value.pointer (some r_1))), (4, (Value.int .i64 i_4)), (5, (Value.pointer (some c_5)))]) = ref07_Fault.s100 Z Q X1 r_1 i_4 c_5 := by kernel_rfl
def ref07_Fault.j101 (Z : ZT) (Q : Int → Int → PT) (X1 : Addr → Int → PT) : Fr → PT := (fun ρ => atA (ρ 1) fun r_1 => atI .i64 (ρ 4) fun i_4 => atA (ρ 5) fun c_5 => (ref07_Fault.s100 Z Q X1 r_1 i_4 c_5))
theorem ref07_Fault.s100_ok (Z : ZT) (Q : Int → Int → PT) (X1 : Addr → Int → PT) : Ok Tryd.prog Tryd.f30.ntmps Z ref07_Fault.c37 (ref07_Fault.q90 Z Q X1) (ref07_Fault.j101 Z Q X1) := by
  intro E he ρ w a hr h
  rw [ref07_Fault.q84] at he ⊢
  obtain ⟨r_1, e1, h⟩ := atA_e h
  obtain ⟨i_4, e4, h⟩ := atI_e h
  obtain ⟨c_5, e5, h⟩ := atA_e h
  exact ok_at [(1, (Value.pointer (some r_1))), (4, (Value.int .i64 i_4)), (5, (Value.pointer (some c_5)))] (ok_seq (okC ref07_Fault.c82 _ (by kernel_rfl)) (ref07_Fault.o99 Z Q X1)) (puts_cons e1 (puts_cons e4 (puts_cons e5 (fun p hp => puts_nil hp)))) (ref07_Fault.s100_eq Z Q X1 ρ r_1 i_4 c_5) he hr h
theorem ref07_Fault.o102 (Z : ZT) (Q : Int → Int → PT) (X1 : Addr → Int → PT) : Ok Tryd.prog Tryd.f30.ntmps Z ref07_Fault.c35 (ref07_Fault.q49 Z Q X1) (ref07_Fault.j101 Z Q X1) := by
  rw [ref07_Fault.q39]; exact ok_seq (ref07_Fault.s100_ok Z Q X1) (ref07_Fault.s80_ok Z Q X1)
def ref07_Fault.s103 (Z : ZT) (Q : Int → Int → PT) (X1 : Addr → Int → PT) (r_1 : Addr) (i_4 : Int) : PT :=
  (ldL (r_1.add 4) fun v247 v247n v247c => (ixS v247 v247n i_4 5 fun v248 => (ldN 5 v248 fun v249 => (newC 55 [(Value.string ⟨#[]⟩), (Value.int .i64 0), (Value.slice none 0 0), (Value.bool false), (Value.bool false)] fun c250 => (stN 5 c250 v249 (drawn fun S251 => (hN S251 5 c250 fun v252 => (cal Tryd.prog Z 50 [(Value.agg ⟨v252⟩)] (isI .i64 fun v253 => (sAnd S251 (pif (v253 == 0) (drew0 (ldI .i64 (c250.add 1) fun v254 => (Q 8 v254))) (hL S251 (c250.add 2) fun v255 v255n v255c => (hN S251 5 c250 fun v256 => (cal Tryd.prog Z 50 [(Value.agg ⟨v256⟩)] (isI .i64 fun v257 => (sAnd S251 (pif (((v255n : Nat) : Int) != v257) (drew0 (ldI .i64 (c250.add 1) fun v258 => (Q 8 v258))) (ref07_Fault.s100 Z Q X1 r_1 i_4 c250))))))))))))))))))
theorem ref07_Fault.s103_eq (Z : ZT) (Q : Int → Int → PT) (X1 : Addr → Int → PT) (ρ : Fr) (r_1 : Addr) (i_4 : Int) : (comp Tryd.prog Z ref07_Fault.c33 (thenK (comp Tryd.prog Z ref07_Fault.c34 (thenK (ref07_Fault.j101 Z Q X1) (ref07_Fault.q49 Z Q X1))) (ref07_Fault.q49 Z Q X1))) (puts ρ [(1, (Value.pointer (some r_1))), (4, (Value.int .i64 i_4))]) = ref07_Fault.s103 Z Q X1 r_1 i_4 := by kernel_rfl
def ref07_Fault.j104 (Z : ZT) (Q : Int → Int → PT) (X1 : Addr → Int → PT) : Fr → PT := (fun ρ => atA (ρ 1) fun r_1 => atI .i64 (ρ 4) fun i_4 => (ref07_Fault.s103 Z Q X1 r_1 i_4))
theorem ref07_Fault.s103_ok (Z : ZT) (Q : Int → Int → PT) (X1 : Addr → Int → PT) : Ok Tryd.prog Tryd.f30.ntmps Z ref07_Fault.c31 (ref07_Fault.q49 Z Q X1) (ref07_Fault.j104 Z Q X1) := by
  intro E he ρ w a hr h
  rw [ref07_Fault.q36] at he ⊢
  obtain ⟨r_1, e1, h⟩ := atA_e h
  obtain ⟨i_4, e4, h⟩ := atI_e h
  exact ok_at [(1, (Value.pointer (some r_1))), (4, (Value.int .i64 i_4))] (ok_seq (okC ref07_Fault.c33 _ (by kernel_rfl)) (ok_seq (okC ref07_Fault.c34 _ (by kernel_rfl)) (ref07_Fault.o102 Z Q X1))) (puts_cons e1 (puts_cons e4 (fun p hp => puts_nil hp))) (ref07_Fault.s103_eq Z Q X1 ρ r_1 i_4) he hr h
theorem ref07_Fault.o105 (Z : ZT) (Q : Int → Int → PT) (X1 : Addr → Int → PT) : Ok Tryd.prog Tryd.f30.ntmps Z ref07_Fault.c24 (ref07_Fault.q48 Z Q X1) (ref07_Fault.j104 Z Q X1) := by
  rw [ref07_Fault.q32]; exact ok_block (ref07_Fault.s103_ok Z Q X1)
theorem ref07_Fault.o106 (Z : ZT) (Q : Int → Int → PT) (X1 : Addr → Int → PT) : Ok Tryd.prog Tryd.f30.ntmps Z ref07_Fault.c22 (ref07_Fault.q29 Z Q X1) (ref07_Fault.j104 Z Q X1) := by
  rw [ref07_Fault.q26]; exact ok_seq (ref07_Fault.o105 Z Q X1) (ref07_Fault.s27_ok Z Q X1)
def ref07_Fault.s107 (Z : ZT) (Q : Int → Int → PT) (X1 : Addr → Int → PT) (r_1 : Addr) (i_4 : Int) : PT :=
  (ldL (r_1.add 4) fun v259 v259n v259c => (pif (decide (i_4 < ((v259n : Nat) : Int))) (ref07_Fault.s103 Z Q X1 r_1 i_4) (ref07_Fault.s8 Z Q )))
theorem ref07_Fault.s107_eq (Z : ZT) (Q : Int → Int → PT) (X1 : Addr → Int → PT) (ρ : Fr) (r_1 : Addr) (i_4 : Int) : (comp Tryd.prog Z ref07_Fault.c21 (thenK (ref07_Fault.j104 Z Q X1) (ref07_Fault.q29 Z Q X1))) (puts ρ [(1, (Value.pointer (some r_1))), (4, (Value.int .i64 i_4))]) = ref07_Fault.s107 Z Q X1 r_1 i_4 := by kernel_rfl
def ref07_Fault.j108 (Z : ZT) (Q : Int → Int → PT) (X1 : Addr → Int → PT) : Fr → PT := (fun ρ => atA (ρ 1) fun r_1 => atI .i64 (ρ 4) fun i_4 => (ref07_Fault.s107 Z Q X1 r_1 i_4))
theorem ref07_Fault.s107_ok (Z : ZT) (Q : Int → Int → PT) (X1 : Addr → Int → PT) : Ok Tryd.prog Tryd.f30.ntmps Z ref07_Fault.c16 (ref07_Fault.q29 Z Q X1) (ref07_Fault.j108 Z Q X1) := by
  intro E he ρ w a hr h
  rw [ref07_Fault.q23] at he ⊢
  obtain ⟨r_1, e1, h⟩ := atA_e h
  obtain ⟨i_4, e4, h⟩ := atI_e h
  exact ok_at [(1, (Value.pointer (some r_1))), (4, (Value.int .i64 i_4))] (ok_seq (okC ref07_Fault.c21 _ (by kernel_rfl)) (ref07_Fault.o106 Z Q X1)) (puts_cons e1 (puts_cons e4 (fun p hp => puts_nil hp))) (ref07_Fault.s107_eq Z Q X1 ρ r_1 i_4) he hr h
def ref07_Fault.l18 (Z : ZT) (Q : Int → Int → PT) : Nat → Addr → Int → PT
  | 0, _, _ => bad
  | k + 1, r_1, i_4 => (ref07_Fault.s107 Z Q (ref07_Fault.l18 Z Q k) r_1 i_4)
def ref07_Fault.j109 (Z : ZT) (Q : Int → Int → PT) (k : Nat) : Fr → PT := (fun ρ => atA (ρ 1) fun r_1 => atI .i64 (ρ 4) fun i_4 => (ref07_Fault.l18 Z Q k r_1 i_4))
def ref07_Fault.j110 (Z : ZT) (Q : Int → Int → PT) : Fr → PT := (fun ρ => atA (ρ 1) fun r_1 => atI .i64 (ρ 4) fun i_4 => (exK fun k => ref07_Fault.l18 Z Q k r_1 i_4))
theorem ref07_Fault.o111 (Z : ZT) (Q : Int → Int → PT) : Ok Tryd.prog Tryd.f30.ntmps Z ref07_Fault.c14 (ref07_Fault.q20 Z Q) (ref07_Fault.j110 Z Q) := by
  rw [ref07_Fault.q17]
  refine Ok.imp (ok_loop (J := ref07_Fault.j109 Z Q) ?_ ?_) ?_
  · intro ρ w h
    obtain ⟨r_1, e1, h⟩ := atA_e h
    obtain ⟨i_4, e4, h⟩ := atI_e h
    exact h
  · intro k
    refine Ok.imp (ref07_Fault.s107_ok Z Q (ref07_Fault.l18 Z Q k)) fun ρ w h => ?_
    obtain ⟨r_1, e1, h⟩ := atA_e h
    obtain ⟨i_4, e4, h⟩ := atI_e h
    show (ref07_Fault.j108 Z Q (ref07_Fault.l18 Z Q k)) ρ w
    simp only [ref07_Fault.j108]
    rw [e1]
    rw [e4]
    exact h
  · intro ρ w h
    obtain ⟨r_1, e1, h⟩ := atA_e h
    obtain ⟨i_4, e4, h⟩ := atI_e h
    obtain ⟨k, h⟩ := h
    refine ⟨k, ?_⟩
    show (atA (ρ 1) fun r_1 => atI .i64 (ρ 4) fun i_4 => (ref07_Fault.l18 Z Q k r_1 i_4)) w
    rw [e1]
    rw [e4]
    exact h
theorem ref07_Fault.o112 (Z : ZT) (Q : Int → Int → PT) : Ok Tryd.prog Tryd.f30.ntmps Z ref07_Fault.c12 (ref07_Fault.q19 Z Q) (ref07_Fault.j110 Z Q) := by
  rw [ref07_Fault.q15]; exact ok_block (ref07_Fault.o111 Z Q)
def ref07_Fault.s113 (Z : ZT) (Q : Int → Int → PT) (r_1 : Addr) : PT :=
  (exK fun k => ref07_Fault.l18 Z Q k r_1 0)
theorem ref07_Fault.s113_eq (Z : ZT) (Q : Int → Int → PT) (ρ : Fr) (r_1 : Addr) : (comp Tryd.prog Z ref07_Fault.c11 (thenK (ref07_Fault.j110 Z Q) (ref07_Fault.q19 Z Q))) (puts ρ [(1, (Value.pointer (some r_1)))]) = ref07_Fault.s113 Z Q r_1 := by kernel_rfl
def ref07_Fault.j114 (Z : ZT) (Q : Int → Int → PT) : Fr → PT := (fun ρ => atA (ρ 1) fun r_1 => (ref07_Fault.s113 Z Q r_1))
theorem ref07_Fault.s113_ok (Z : ZT) (Q : Int → Int → PT) : Ok Tryd.prog Tryd.f30.ntmps Z ref07_Fault.c5 (ref07_Fault.q19 Z Q) (ref07_Fault.j114 Z Q) := by
  intro E he ρ w a hr h
  rw [ref07_Fault.q13] at he ⊢
  obtain ⟨r_1, e1, h⟩ := atA_e h
  exact ok_at [(1, (Value.pointer (some r_1)))] (ok_seq (okC ref07_Fault.c11 _ (by kernel_rfl)) (ref07_Fault.o112 Z Q)) (puts_cons e1 (fun p hp => puts_nil hp)) (ref07_Fault.s113_eq Z Q ρ r_1) he hr h
theorem ref07_Fault.o115 (Z : ZT) (Q : Int → Int → PT) : Ok Tryd.prog Tryd.f30.ntmps Z ref07_Fault.c3 (ref07_Fault.q9 Z Q) (ref07_Fault.j114 Z Q) := by
  rw [ref07_Fault.q7]; exact ok_seq (ref07_Fault.s113_ok Z Q) (ref07_Fault.s8_ok Z Q)
def ref07_Fault.s116 (Z : ZT) (Q : Int → Int → PT) (r_0 : List Value) : PT :=
  (newC 52 r_0 fun r260 => (ldI .i64 ((r260.add 2).add 0) fun v261 => (pif (decide (v261 < 0)) (drew0 (ldI .i64 ((r260.add 2).add 1) fun v262 => (Q 10 v262))) (ldI .i64 ((r260.add 2).add 0) fun v263 => (pif (decide (v263 > 65535)) (drew0 (ldI .i64 ((r260.add 2).add 1) fun v264 => (Q 10 v264))) (ref07_Fault.s113 Z Q r260))))))
theorem ref07_Fault.s116_eq (Z : ZT) (Q : Int → Int → PT) (ρ : Fr) (r_0 : List Value) : (comp Tryd.prog Z ref07_Fault.c1 (thenK (comp Tryd.prog Z ref07_Fault.c2 (thenK (ref07_Fault.j114 Z Q) (ref07_Fault.q9 Z Q))) (ref07_Fault.q9 Z Q))) (puts ρ [(0, (Value.agg ⟨r_0⟩))]) = ref07_Fault.s116 Z Q r_0 := by kernel_rfl
def ref07_Fault.j117 (Z : ZT) (Q : Int → Int → PT) : Fr → PT := (fun ρ => atN (ρ 0) fun r_0 => (ref07_Fault.s116 Z Q r_0))
theorem ref07_Fault.s116_ok (Z : ZT) (Q : Int → Int → PT) : Ok Tryd.prog Tryd.f30.ntmps Z ref07_Fault.body (ref07_Fault.q9 Z Q) (ref07_Fault.j117 Z Q) := by
  intro E he ρ w a hr h
  rw [ref07_Fault.q4] at he ⊢
  obtain ⟨r_0, e0, h⟩ := atN_e h
  exact ok_at [(0, (Value.agg ⟨r_0⟩))] (ok_seq (okC ref07_Fault.c1 _ (by kernel_rfl)) (ok_seq (okC ref07_Fault.c2 _ (by kernel_rfl)) (ref07_Fault.o115 Z Q))) (puts_cons e0 (fun p hp => puts_nil hp)) (ref07_Fault.s116_eq Z Q ρ r_0) he hr h
def ref07_Fault.F (Z : ZT) (Q : Int → Int → PT) (r_0 : List Value) : PT :=
  (ref07_Fault.s116 Z Q r_0)
theorem ref07_Fault.vc (Z : ZT) (Q : Int → Int → PT) (r_0 : List Value) (w : World) (h : ref07_Fault.F Z Q r_0 w) : Calls Tryd.prog 30 ⟨[(Value.agg ⟨r_0⟩)]⟩ w fun e w' => (∃ (r0 : Int) (r1 : Int), e = .returned (.tuple #[.int .i64 r0, .int .i64 r1]) ∧ Q r0 r1 w') ∨ ∃ c, e = .panicked c ∧ Z c w' := by
  refine (calls_of_ok (args := [(Value.agg ⟨r_0⟩)]) (w := w) (rs := [.tmp 2, .tmp 3]) (fn := Tryd.f30) (c := ref07_Fault.body) Tryd.func30 (by kernel_rfl) (by kernel_rfl) (Nat.le_of_ble_eq_true (by kernel_rfl)) (ref07_Fault.s116_ok Z Q) (h)).mono fun e w' hR => ?_
  cases e with
  | returned v =>
    obtain ⟨x, y, rfl, hR⟩ := at2_e hR
    obtain ⟨xa, rfl, hR⟩ := atI_e hR
    obtain ⟨ya, rfl, hR⟩ := atI_e hR
    exact .inl ⟨xa, ya, rfl, hR⟩
  | panicked c => exact .inr ⟨c, rfl, hR⟩
  | outgrown => exact hR.elim
theorem ref07_Fault.vc0 (Q : Int → Int → PT) (r_0 : List Value) (w : World) (h : ref07_Fault.F Z0 Q r_0 w) : Calls Tryd.prog 30 ⟨[(Value.agg ⟨r_0⟩)]⟩ w fun e w' => (∃ (r0 : Int) (r1 : Int), e = .returned (.tuple #[.int .i64 r0, .int .i64 r1]) ∧ Q r0 r1 w') :=
  (ref07_Fault.vc Z0 Q r_0 w h).mono fun _ _ hR => hR.elim id fun ⟨_, _, hz⟩ => hz.elim
theorem ref07_Fault.cal {Z : ZT} {Q : Int → Int → PT} {r_0 : List Value} {w : World} (h : ref07_Fault.F Z Q r_0 w) : Go.Proofs.YtllgjjldnnmjkaaDoor.cal Tryd.prog Z 30 [(Value.agg ⟨r_0⟩)] (isT2 fun x y => (isI .i64 fun r0 => (isI .i64 fun r1 => Q r0 r1) y) x) w := by
  refine (ref07_Fault.vc Z Q r_0 w h).mono fun e w' hR => ?_
  rcases hR with ⟨r0, r1, rfl, h⟩ | ⟨c, rfl, h⟩
  · show (isT2 fun x y => (isI .i64 fun r0 => (isI .i64 fun r1 => Q r0 r1) y) x) (.tuple #[.int .i64 r0, .int .i64 r1]) w'
    exact ⟨_, _, rfl, ⟨_, rfl, ⟨_, rfl, h⟩⟩⟩
  · exact h

/-! ### milepost/milepostref07.Prefix: function 52 -/
noncomputable def ref07_Prefix.body : Code := bodyC Tryd.f52
noncomputable def ref07_Prefix.c1 : Code := sq1 ref07_Prefix.body
noncomputable def ref07_Prefix.c2 : Code := sq1 (sq2 ref07_Prefix.body)
noncomputable def ref07_Prefix.c3 : Code := sq1 (sq2 (sq2 ref07_Prefix.body))
noncomputable def ref07_Prefix.c4 : Code := sq1 (sq2 (sq2 (sq2 ref07_Prefix.body)))
noncomputable def ref07_Prefix.c5 : Code := sq2 (sq2 (sq2 (sq2 ref07_Prefix.body)))
theorem ref07_Prefix.q6 : ref07_Prefix.body = .seq ref07_Prefix.c1 (.seq ref07_Prefix.c2 (.seq ref07_Prefix.c3 (.seq ref07_Prefix.c4 ref07_Prefix.c5))) := by kernel_rfl
noncomputable def ref07_Prefix.c7 : Code := sq1 ref07_Prefix.c5
noncomputable def ref07_Prefix.c8 : Code := sq2 ref07_Prefix.c5
theorem ref07_Prefix.q9 : ref07_Prefix.c5 = .seq ref07_Prefix.c7 ref07_Prefix.c8 := by kernel_rfl
def ref07_Prefix.s10 (Z : ZT) (Q : Int → Int → PT) (c_6 : Addr) (v_8 : Int) : PT :=
  (ldB (c_6.add 3) fun v28 => (pif v28 (drew0 (ldL (c_6.add 2) fun v29 v29n v29c => (ixS v29 v29n 4 2 fun v30 => (ldI .i64 (v30.add 0) fun v31 => (Q v_8 v31))))) (Q v_8 32)))
def ref07_Prefix.q11 (Z : ZT) (Q : Int → Int → PT) : QF := bodyQ Tryd.prog [.tmp 4, .tmp 5] (fun v => at2 v fun x y => atI .u32 x fun xa => atI .i64 y fun ya => Q xa ya)
theorem ref07_Prefix.s10_eq (Z : ZT) (Q : Int → Int → PT) (ρ : Fr) (c_6 : Addr) (v_8 : Int) : comp Tryd.prog Z ref07_Prefix.c8 (ref07_Prefix.q11 Z Q) (puts ρ [(6, (Value.pointer (some c_6))), (8, (Value.int .u32 v_8))]) = ref07_Prefix.s10 Z Q c_6 v_8 := by kernel_rfl
def ref07_Prefix.j12 (Z : ZT) (Q : Int → Int → PT) : Fr → PT := (fun ρ => atA (ρ 6) fun c_6 => atI .u32 (ρ 8) fun v_8 => (ref07_Prefix.s10 Z Q c_6 v_8))
theorem ref07_Prefix.s10_ok (Z : ZT) (Q : Int → Int → PT) : Ok Tryd.prog Tryd.f52.ntmps Z ref07_Prefix.c8 (ref07_Prefix.q11 Z Q) (ref07_Prefix.j12 Z Q) := by
  intro E he ρ w a hr h
  obtain ⟨c_6, e6, h⟩ := atA_e h
  obtain ⟨v_8, e8, h⟩ := atI_e h
  exact ok_at [(6, (Value.pointer (some c_6))), (8, (Value.int .u32 v_8))] (okC ref07_Prefix.c8 (ref07_Prefix.q11 Z Q) (by kernel_rfl)) (puts_cons e6 (puts_cons e8 (fun p hp => puts_nil hp))) (ref07_Prefix.s10_eq Z Q ρ c_6 v_8) he hr h
noncomputable def ref07_Prefix.c13 : Code := sq1 ref07_Prefix.c7
noncomputable def ref07_Prefix.c14 : Code := sq2 ref07_Prefix.c7
theorem ref07_Prefix.q15 : ref07_Prefix.c7 = .seq ref07_Prefix.c13 ref07_Prefix.c14 := by kernel_rfl
noncomputable def ref07_Prefix.c16 : Code := blk ref07_Prefix.c14
theorem ref07_Prefix.q17 : ref07_Prefix.c14 = .block 0 ref07_Prefix.c16 := by kernel_rfl
noncomputable def ref07_Prefix.c18 : Code := lop ref07_Prefix.c16
theorem ref07_Prefix.q19 : ref07_Prefix.c16 = .loop ref07_Prefix.c18 := by kernel_rfl
def ref07_Prefix.q21 (Z : ZT) (Q : Int → Int → PT) : QF := thenK (ref07_Prefix.j12 Z Q) (ref07_Prefix.q11 Z Q)
def ref07_Prefix.q22 (Z : ZT) (Q : Int → Int → PT) : QF := inBl 0 (ref07_Prefix.q21 Z Q)
def ref07_Prefix.s23 (Z : ZT) (Q : Int → Int → PT) (X1 : Addr → Int → Int → PT) (c_6 : Addr) (v_8 : Int) (k_9 : Int) : PT :=
  (pif (decide (k_9 < 4)) (ldL (c_6.add 2) fun v35 v35n v35c => (ixS v35 v35n k_9 2 fun v36 => (ldI .i64 (v36.add 0) fun v37 => (X1 c_6 (IntKind.wrap .u32 ((IntKind.wrap .u32 (v_8 * 256)) + (IntKind.wrap .u32 v37))) (IntKind.wrap .i64 (k_9 + 1)))))) (ref07_Prefix.s10 Z Q c_6 v_8))
def ref07_Prefix.j24 (Z : ZT) (Q : Int → Int → PT) (X1 : Addr → Int → Int → PT) : Fr → PT := (fun ρ => atA (ρ 6) fun c_6 => atI .u32 (ρ 8) fun v_8 => atI .i64 (ρ 9) fun k_9 => (X1 c_6 v_8 k_9))
def ref07_Prefix.q25 (Z : ZT) (Q : Int → Int → PT) (X1 : Addr → Int → Int → PT) : QF := thenK (ref07_Prefix.j24 Z Q X1) (ref07_Prefix.q22 Z Q)
theorem ref07_Prefix.s23_eq (Z : ZT) (Q : Int → Int → PT) (X1 : Addr → Int → Int → PT) (ρ : Fr) (c_6 : Addr) (v_8 : Int) (k_9 : Int) : comp Tryd.prog Z ref07_Prefix.c18 (ref07_Prefix.q25 Z Q X1) (puts ρ [(6, (Value.pointer (some c_6))), (8, (Value.int .u32 v_8)), (9, (Value.int .i64 k_9))]) = ref07_Prefix.s23 Z Q X1 c_6 v_8 k_9 := by kernel_rfl
def ref07_Prefix.j26 (Z : ZT) (Q : Int → Int → PT) (X1 : Addr → Int → Int → PT) : Fr → PT := (fun ρ => atA (ρ 6) fun c_6 => atI .u32 (ρ 8) fun v_8 => atI .i64 (ρ 9) fun k_9 => (ref07_Prefix.s23 Z Q X1 c_6 v_8 k_9))
theorem ref07_Prefix.s23_ok (Z : ZT) (Q : Int → Int → PT) (X1 : Addr → Int → Int → PT) : Ok Tryd.prog Tryd.f52.ntmps Z ref07_Prefix.c18 (ref07_Prefix.q25 Z Q X1) (ref07_Prefix.j26 Z Q X1) := by
  intro E he ρ w a hr h
  obtain ⟨c_6, e6, h⟩ := atA_e h
  obtain ⟨v_8, e8, h⟩ := atI_e h
  obtain ⟨k_9, e9, h⟩ := atI_e h
  exact ok_at [(6, (Value.pointer (some c_6))), (8, (Value.int .u32 v_8)), (9, (Value.int .i64 k_9))] (okC ref07_Prefix.c18 (ref07_Prefix.q25 Z Q X1) (by kernel_rfl)) (puts_cons e6 (puts_cons e8 (puts_cons e9 (fun p hp => puts_nil hp)))) (ref07_Prefix.s23_eq Z Q X1 ρ c_6 v_8 k_9) he hr h
def ref07_Prefix.l20 (Z : ZT) (Q : Int → Int → PT) : Nat → Addr → Int → Int → PT
  | 0, _, _, _ => bad
  | k + 1, c_6, v_8, k_9 => (ref07_Prefix.s23 Z Q (ref07_Prefix.l20 Z Q k) c_6 v_8 k_9)
def ref07_Prefix.j27 (Z : ZT) (Q : Int → Int → PT) (k : Nat) : Fr → PT := (fun ρ => atA (ρ 6) fun c_6 => atI .u32 (ρ 8) fun v_8 => atI .i64 (ρ 9) fun k_9 => (ref07_Prefix.l20 Z Q k c_6 v_8 k_9))
def ref07_Prefix.j28 (Z : ZT) (Q : Int → Int → PT) : Fr → PT := (fun ρ => atA (ρ 6) fun c_6 => atI .u32 (ρ 8) fun v_8 => atI .i64 (ρ 9) fun k_9 => (exK fun k => ref07_Prefix.l20 Z Q k c_6 v_8 k_9))
theorem ref07_Prefix.o29 (Z : ZT) (Q : Int → Int → PT) : Ok Tryd.prog Tryd.f52.ntmps Z ref07_Prefix.c16 (ref07_Prefix.q22 Z Q) (ref07_Prefix.j28 Z Q) := by
  rw [ref07_Prefix.q19]
  refine Ok.imp (ok_loop (J := ref07_Prefix.j27 Z Q) ?_ ?_) ?_
  · intro ρ w h
    obtain ⟨c_6, e6, h⟩ := atA_e h
    obtain ⟨v_8, e8, h⟩ := atI_e h
    obtain ⟨k_9, e9, h⟩ := atI_e h
    exact h
  · intro k
    refine Ok.imp (ref07_Prefix.s23_ok Z Q (ref07_Prefix.l20 Z Q k)) fun ρ w h => ?_
    obtain ⟨c_6, e6, h⟩ := atA_e h
    obtain ⟨v_8, e8, h⟩ := atI_e h
    obtain ⟨k_9, e9, h⟩ := atI_e h
    show (ref07_Prefix.j26 Z Q (ref07_Prefix.l20 Z Q k)) ρ w
    simp only [ref07_Prefix.j26]
    rw [e6]
    rw [e8]
    rw [e9]
    exact h
  · intro ρ w h
    obtain ⟨c_6, e6, h⟩ := atA_e h
    obtain ⟨v_8, e8, h⟩ := atI_e h
    obtain ⟨k_9, e9, h⟩ := atI_e h
    obtain ⟨k, h⟩ := h
    refine ⟨k, ?_⟩
    show (atA (ρ 6) fun c_6 => atI .u32 (ρ 8) fun v_8 => atI .i64 (ρ 9) fun k_9 => (ref07_Prefix.l20 Z Q k c_6 v_8 k_9)) w
    rw [e6]
    rw [e8]
    rw [e9]
    exact h
theorem ref07_Prefix.o30 (Z : ZT) (Q : Int → Int → PT) : Ok Tryd.prog Tryd.f52.ntmps Z ref07_Prefix.c14 (ref07_Prefix.q21 Z Q) (ref07_Prefix.j28 Z Q) := by
  rw [ref07_Prefix.q17]; exact ok_block (ref07_Prefix.o29 Z Q)
def ref07_Prefix.s31 (Z : ZT) (Q : Int → Int → PT) (c_6 : Addr) (v_8 : Int) : PT :=
  (exK fun k => ref07_Prefix.l20 Z Q k c_6 v_8 0)
theorem ref07_Prefix.s31_eq (Z : ZT) (Q : Int → Int → PT) (ρ : Fr) (c_6 : Addr) (v_8 : Int) : (comp Tryd.prog Z ref07_Prefix.c13 (thenK (ref07_Prefix.j28 Z Q) (ref07_Prefix.q21 Z Q))) (puts ρ [(6, (Value.pointer (some c_6))), (8, (Value.int .u32 v_8))]) = ref07_Prefix.s31 Z Q c_6 v_8 := by kernel_rfl
def ref07_Prefix.j32 (Z : ZT) (Q : Int → Int → PT) : Fr → PT := (fun ρ => atA (ρ 6) fun c_6 => atI .u32 (ρ 8) fun v_8 => (ref07_Prefix.s31 Z Q c_6 v_8))
theorem ref07_Prefix.s31_ok (Z : ZT) (Q : Int → Int → PT) : Ok Tryd.prog Tryd.f52.ntmps Z ref07_Prefix.c7 (ref07_Prefix.q21 Z Q) (ref07_Prefix.j32 Z Q) := by
  intro E he ρ w a hr h
  rw [ref07_Prefix.q15] at he ⊢
  obtain ⟨c_6, e6, h⟩ := atA_e h
  obtain ⟨v_8, e8, h⟩ := atI_e h
  exact ok_at [(6, (Value.pointer (some c_6))), (8, (Value.int .u32 v_8))] (ok_seq (okC ref07_Prefix.c13 _ (by kernel_rfl)) (ref07_Prefix.o30 Z Q)) (puts_cons e6 (puts_cons e8 (fun p hp => puts_nil hp))) (ref07_Prefix.s31_eq Z Q ρ c_6 v_8) he hr h
theorem ref07_Prefix.o33 (Z : ZT) (Q : Int → Int → PT) : Ok Tryd.prog Tryd.f52.ntmps Z ref07_Prefix.c5 (ref07_Prefix.q11 Z Q) (ref07_Prefix.j32 Z Q) := by
  rw [ref07_Prefix.q9]; exact ok_seq (ref07_Prefix.s31_ok Z Q) (ref07_Prefix.s10_ok Z Q)
def ref07_Prefix.s34 (Z : ZT) (Q : Int → Int → PT) (r_0 : List Value) (word_1 : ByteArray) : PT :=
  (newC 52 r_0 fun r38 => (ldN 8 r38 fun v39 => (cal Tryd.prog Z 54 [(Value.agg ⟨v39⟩), (Value.string word_1)] (isT2 fun t40 t41 => (isN fun v42 => ((isB fun v43 => (newC 55 [(Value.string ⟨#[]⟩), (Value.int .i64 0), (Value.slice none 0 0), (Value.bool false), (Value.bool false)] fun c44 => (stN 5 c44 v42 (pif (!v43) (Q 0 0) (ref07_Prefix.s31 Z Q c44 0))))) t41)) t40))))
theorem ref07_Prefix.s34_eq (Z : ZT) (Q : Int → Int → PT) (ρ : Fr) (r_0 : List Value) (word_1 : ByteArray) : (comp Tryd.prog Z ref07_Prefix.c1 (thenK (comp Tryd.prog Z ref07_Prefix.c2 (thenK (comp Tryd.prog Z ref07_Prefix.c3 (thenK (comp Tryd.prog Z ref07_Prefix.c4 (thenK (ref07_Prefix.j32 Z Q) (ref07_Prefix.q11 Z Q))) (ref07_Prefix.q11 Z Q))) (ref07_Prefix.q11 Z Q))) (ref07_Prefix.q11 Z Q))) (puts ρ [(0, (Value.agg ⟨r_0⟩)), (1, (Value.string word_1))]) = ref07_Prefix.s34 Z Q r_0 word_1 := by kernel_rfl
def ref07_Prefix.j35 (Z : ZT) (Q : Int → Int → PT) : Fr → PT := (fun ρ => atN (ρ 0) fun r_0 => atS (ρ 1) fun word_1 => (ref07_Prefix.s34 Z Q r_0 word_1))
theorem ref07_Prefix.s34_ok (Z : ZT) (Q : Int → Int → PT) : Ok Tryd.prog Tryd.f52.ntmps Z ref07_Prefix.body (ref07_Prefix.q11 Z Q) (ref07_Prefix.j35 Z Q) := by
  intro E he ρ w a hr h
  rw [ref07_Prefix.q6] at he ⊢
  obtain ⟨r_0, e0, h⟩ := atN_e h
  obtain ⟨word_1, e1, h⟩ := atS_e h
  exact ok_at [(0, (Value.agg ⟨r_0⟩)), (1, (Value.string word_1))] (ok_seq (okC ref07_Prefix.c1 _ (by kernel_rfl)) (ok_seq (okC ref07_Prefix.c2 _ (by kernel_rfl)) (ok_seq (okC ref07_Prefix.c3 _ (by kernel_rfl)) (ok_seq (okC ref07_Prefix.c4 _ (by kernel_rfl)) (ref07_Prefix.o33 Z Q))))) (puts_cons e0 (puts_cons e1 (fun p hp => puts_nil hp))) (ref07_Prefix.s34_eq Z Q ρ r_0 word_1) he hr h
def ref07_Prefix.F (Z : ZT) (Q : Int → Int → PT) (r_0 : List Value) (word_1 : ByteArray) : PT :=
  (ref07_Prefix.s34 Z Q r_0 word_1)
theorem ref07_Prefix.vc (Z : ZT) (Q : Int → Int → PT) (r_0 : List Value) (word_1 : ByteArray) (w : World) (h : ref07_Prefix.F Z Q r_0 word_1 w) : Calls Tryd.prog 52 ⟨[(Value.agg ⟨r_0⟩), (Value.string word_1)]⟩ w fun e w' => (∃ (r0 : Int) (r1 : Int), e = .returned (.tuple #[.int .u32 r0, .int .i64 r1]) ∧ Q r0 r1 w') ∨ ∃ c, e = .panicked c ∧ Z c w' := by
  refine (calls_of_ok (args := [(Value.agg ⟨r_0⟩), (Value.string word_1)]) (w := w) (rs := [.tmp 4, .tmp 5]) (fn := Tryd.f52) (c := ref07_Prefix.body) Tryd.func52 (by kernel_rfl) (by kernel_rfl) (Nat.le_of_ble_eq_true (by kernel_rfl)) (ref07_Prefix.s34_ok Z Q) (h)).mono fun e w' hR => ?_
  cases e with
  | returned v =>
    obtain ⟨x, y, rfl, hR⟩ := at2_e hR
    obtain ⟨xa, rfl, hR⟩ := atI_e hR
    obtain ⟨ya, rfl, hR⟩ := atI_e hR
    exact .inl ⟨xa, ya, rfl, hR⟩
  | panicked c => exact .inr ⟨c, rfl, hR⟩
  | outgrown => exact hR.elim
theorem ref07_Prefix.vc0 (Q : Int → Int → PT) (r_0 : List Value) (word_1 : ByteArray) (w : World) (h : ref07_Prefix.F Z0 Q r_0 word_1 w) : Calls Tryd.prog 52 ⟨[(Value.agg ⟨r_0⟩), (Value.string word_1)]⟩ w fun e w' => (∃ (r0 : Int) (r1 : Int), e = .returned (.tuple #[.int .u32 r0, .int .i64 r1]) ∧ Q r0 r1 w') :=
  (ref07_Prefix.vc Z0 Q r_0 word_1 w h).mono fun _ _ hR => hR.elim id fun ⟨_, _, hz⟩ => hz.elim
theorem ref07_Prefix.cal {Z : ZT} {Q : Int → Int → PT} {r_0 : List Value} {word_1 : ByteArray} {w : World} (h : ref07_Prefix.F Z Q r_0 word_1 w) : Go.Proofs.YtllgjjldnnmjkaaDoor.cal Tryd.prog Z 52 [(Value.agg ⟨r_0⟩), (Value.string word_1)] (isT2 fun x y => (isI .u32 fun r0 => (isI .i64 fun r1 => Q r0 r1) y) x) w := by
  refine (ref07_Prefix.vc Z Q r_0 word_1 w h).mono fun e w' hR => ?_
  rcases hR with ⟨r0, r1, rfl, h⟩ | ⟨c, rfl, h⟩
  · show (isT2 fun x y => (isI .u32 fun r0 => (isI .i64 fun r1 => Q r0 r1) y) x) (.tuple #[.int .u32 r0, .int .i64 r1]) w'
    exact ⟨_, _, rfl, ⟨_, rfl, ⟨_, rfl, h⟩⟩⟩
  · exact h

/-! ### milepost/milepostref07.Ports: function 53 -/
noncomputable def ref07_Ports.body : Code := bodyC Tryd.f53
def ref07_Ports.F (Z : ZT) (Q : Int → Int → PT) (r_0 : List Value) (word_1 : ByteArray) : PT :=
  (newC 52 r_0 fun r31 => (ldN 8 r31 fun v32 => (cal Tryd.prog Z 54 [(Value.agg ⟨v32⟩), (Value.string word_1)] (isT2 fun t33 t34 => (isN fun v35 => ((isB fun v36 => (newC 55 [(Value.string ⟨#[]⟩), (Value.int .i64 0), (Value.slice none 0 0), (Value.bool false), (Value.bool false)] fun c37 => (stN 5 c37 v35 (pif (!v36) (Q 0 65535) (ldB (c37.add 4) fun v38 => (pif v38 (drew0 (ldL (c37.add 2) fun v39 v39n v39c => (ixS v39 v39n 0 2 fun v40 => (ldI .i64 (v40.add 0) fun v41 => (ldL (c37.add 2) fun v42 v42n v42c => (ixS v42 v42n 1 2 fun v43 => (ldI .i64 (v43.add 0) fun v44 => (Q v41 v44)))))))) (drew0 (ldL (c37.add 2) fun v45 v45n v45c => (ixS v45 v45n 0 2 fun v46 => (ldI .i64 (v46.add 0) fun v47 => (ldL (c37.add 2) fun v48 v48n v48c => (ixS v48 v48n 0 2 fun v49 => (ldI .i64 (v49.add 0) fun v50 => (Q v47 v50)))))))))))))) t34)) t33))))
def ref07_Ports.q1 (Z : ZT) (Q : Int → Int → PT) : QF := bodyQ Tryd.prog [.tmp 4, .tmp 5] (fun v => at2 v fun x y => atI .i64 x fun xa => atI .i64 y fun ya => Q xa ya)
theorem ref07_Ports.eq (Z : ZT) (Q : Int → Int → PT) (r_0 : List Value) (word_1 : ByteArray) : comp Tryd.prog Z ref07_Ports.body (ref07_Ports.q1 Z Q) (fr0 [(Value.agg ⟨r_0⟩), (Value.string word_1)]) = ref07_Ports.F Z Q r_0 word_1 := by kernel_rfl
theorem ref07_Ports.vc (Z : ZT) (Q : Int → Int → PT) (r_0 : List Value) (word_1 : ByteArray) (w : World) (h : ref07_Ports.F Z Q r_0 word_1 w) : Calls Tryd.prog 53 ⟨[(Value.agg ⟨r_0⟩), (Value.string word_1)]⟩ w fun e w' => (∃ (r0 : Int) (r1 : Int), e = .returned (.tuple #[.int .i64 r0, .int .i64 r1]) ∧ Q r0 r1 w') ∨ ∃ c, e = .panicked c ∧ Z c w' := by
  refine (calls_of_ok (args := [(Value.agg ⟨r_0⟩), (Value.string word_1)]) (w := w) (rs := [.tmp 4, .tmp 5]) (fn := Tryd.f53) (c := ref07_Ports.body) Tryd.func53 (by kernel_rfl) (by kernel_rfl) (Nat.le_of_ble_eq_true (by kernel_rfl)) (okC ref07_Ports.body (ref07_Ports.q1 Z Q) (by kernel_rfl)) (by rw [ref07_Ports.eq]; exact h)).mono fun e w' hR => ?_
  cases e with
  | returned v =>
    obtain ⟨x, y, rfl, hR⟩ := at2_e hR
    obtain ⟨xa, rfl, hR⟩ := atI_e hR
    obtain ⟨ya, rfl, hR⟩ := atI_e hR
    exact .inl ⟨xa, ya, rfl, hR⟩
  | panicked c => exact .inr ⟨c, rfl, hR⟩
  | outgrown => exact hR.elim
theorem ref07_Ports.vc0 (Q : Int → Int → PT) (r_0 : List Value) (word_1 : ByteArray) (w : World) (h : ref07_Ports.F Z0 Q r_0 word_1 w) : Calls Tryd.prog 53 ⟨[(Value.agg ⟨r_0⟩), (Value.string word_1)]⟩ w fun e w' => (∃ (r0 : Int) (r1 : Int), e = .returned (.tuple #[.int .i64 r0, .int .i64 r1]) ∧ Q r0 r1 w') :=
  (ref07_Ports.vc Z0 Q r_0 word_1 w h).mono fun _ _ hR => hR.elim id fun ⟨_, _, hz⟩ => hz.elim
theorem ref07_Ports.cal {Z : ZT} {Q : Int → Int → PT} {r_0 : List Value} {word_1 : ByteArray} {w : World} (h : ref07_Ports.F Z Q r_0 word_1 w) : Go.Proofs.YtllgjjldnnmjkaaDoor.cal Tryd.prog Z 53 [(Value.agg ⟨r_0⟩), (Value.string word_1)] (isT2 fun x y => (isI .i64 fun r0 => (isI .i64 fun r1 => Q r0 r1) y) x) w := by
  refine (ref07_Ports.vc Z Q r_0 word_1 w h).mono fun e w' hR => ?_
  rcases hR with ⟨r0, r1, rfl, h⟩ | ⟨c, rfl, h⟩
  · show (isT2 fun x y => (isI .i64 fun r0 => (isI .i64 fun r1 => Q r0 r1) y) x) (.tuple #[.int .i64 r0, .int .i64 r1]) w'
    exact ⟨_, _, rfl, ⟨_, rfl, ⟨_, rfl, h⟩⟩⟩
  · exact h

/-! ### milepost/milepostref07.Meaning: function 31 -/
noncomputable def ref07_Meaning.body : Code := bodyC Tryd.f31
noncomputable def ref07_Meaning.c1 : Code := sq1 ref07_Meaning.body
noncomputable def ref07_Meaning.c2 : Code := sq1 (sq2 ref07_Meaning.body)
noncomputable def ref07_Meaning.c3 : Code := sq1 (sq2 (sq2 ref07_Meaning.body))
noncomputable def ref07_Meaning.c4 : Code := sq2 (sq2 (sq2 ref07_Meaning.body))
theorem ref07_Meaning.q5 : ref07_Meaning.body = .seq ref07_Meaning.c1 (.seq ref07_Meaning.c2 (.seq ref07_Meaning.c3 ref07_Meaning.c4)) := by kernel_rfl
def ref07_Meaning.s6 (Z : ZT) (Q : List Value → PT) (r_1 : Addr) (t_2 : Addr) (act_3 : Int) : PT :=
  (ldB (r_1.add 1) fun v174 => (pif v174 (stN 12 t_2 [(Value.bool true), (Value.int .i64 0), (Value.int .u32 0), (Value.int .i64 0), (Value.int .u32 0), (Value.int .i64 0), (Value.int .i64 0), (Value.int .i64 0), (Value.int .i64 0), (Value.int .i64 0), (Value.int .i64 0), (Value.int .i64 act_3)] (ldN 12 t_2 fun v175 => (Q v175))) (ldN 8 r_1 fun v176 => (cal Tryd.prog Z 52 [(Value.agg ⟨v176⟩), (Value.string ⟨#[115, 114, 99]⟩)] (isT2 fun t177 t178 => (isI .u32 fun v179 => ((isI .i64 fun v180 => (ldN 8 r_1 fun v181 => (cal Tryd.prog Z 52 [(Value.agg ⟨v181⟩), (Value.string ⟨#[100, 115, 116]⟩)] (isT2 fun t182 t183 => (isI .u32 fun v184 => ((isI .i64 fun v185 => (ldN 8 r_1 fun v186 => (cal Tryd.prog Z 53 [(Value.agg ⟨v186⟩), (Value.string ⟨#[115, 112, 111, 114, 116]⟩)] (isT2 fun t187 t188 => (isI .i64 fun v189 => ((isI .i64 fun v190 => (ldN 8 r_1 fun v191 => (cal Tryd.prog Z 53 [(Value.agg ⟨v191⟩), (Value.string ⟨#[100, 112, 111, 114, 116]⟩)] (isT2 fun t192 t193 => (isI .i64 fun v194 => ((isI .i64 fun v195 => (ldI .i64 ((r_1.add 2).add 0) fun v196 => (runN Tryd.prog (Instr.build 35 ⟨[(1, (Value.int .i64 v196)), (11, (Value.int .i64 act_3)), (2, (Value.int .u32 v179)), (3, (Value.int .i64 v180)), (4, (Value.int .u32 v184)), (5, (Value.int .i64 v185)), (6, (Value.int .i64 v189)), (7, (Value.int .i64 v190)), (8, (Value.int .i64 v194)), (9, (Value.int .i64 v195)), (10, (Value.int .i64 (-1)))]⟩) fun v197 => (newC 35 [(Value.bool false), (Value.int .i64 0), (Value.int .u32 0), (Value.int .i64 0), (Value.int .u32 0), (Value.int .i64 0), (Value.int .i64 0), (Value.int .i64 0), (Value.int .i64 0), (Value.int .i64 0), (Value.int .i64 0), (Value.int .i64 0)] fun x198 => (stN 12 x198 v197 (ldN 8 r_1 fun v199 => (cal Tryd.prog Z 54 [(Value.agg ⟨v199⟩), (Value.string ⟨#[112, 114, 111, 116, 111]⟩)] (isT2 fun t200 t201 => (isN fun v202 => ((isB fun v203 => (newC 55 [(Value.string ⟨#[]⟩), (Value.int .i64 0), (Value.slice none 0 0), (Value.bool false), (Value.bool false)] fun c204 => (stN 5 c204 v202 (pif v203 (ldL (c204.add 2) fun v205 v205n v205c => (ixS v205 v205n 0 2 fun v206 => (ldI .i64 (v206.add 0) fun v207 => (st1 (x198.add 10) (Value.int .i64 v207) (ldN 12 x198 fun v208 => (stN 12 t_2 v208 (ldN 12 t_2 fun v209 => (Q v209)))))))) (ldN 12 x198 fun v210 => (stN 12 t_2 v210 (ldN 12 t_2 fun v211 => (Q v211)))))))) t201)) t200)))))))) t193)) t192)))) t188)) t187)))) t183)) t182)))) t178)) t177)))))
def ref07_Meaning.q7 (Z : ZT) (Q : List Value → PT) : QF := bodyQ Tryd.prog [.cell 2 35] (fun v => atN v fun va => Q va)
theorem ref07_Meaning.s6_eq (Z : ZT) (Q : List Value → PT) (ρ : Fr) (r_1 : Addr) (t_2 : Addr) (act_3 : Int) : comp Tryd.prog Z ref07_Meaning.c4 (ref07_Meaning.q7 Z Q) (puts ρ [(1, (Value.pointer (some r_1))), (2, (Value.pointer (some t_2))), (3, (Value.int .i64 act_3))]) = ref07_Meaning.s6 Z Q r_1 t_2 act_3 := by kernel_rfl
def ref07_Meaning.j8 (Z : ZT) (Q : List Value → PT) : Fr → PT := (fun ρ => atA (ρ 1) fun r_1 => atA (ρ 2) fun t_2 => atI .i64 (ρ 3) fun act_3 => (ref07_Meaning.s6 Z Q r_1 t_2 act_3))
theorem ref07_Meaning.s6_ok (Z : ZT) (Q : List Value → PT) : Ok Tryd.prog Tryd.f31.ntmps Z ref07_Meaning.c4 (ref07_Meaning.q7 Z Q) (ref07_Meaning.j8 Z Q) := by
  intro E he ρ w a hr h
  obtain ⟨r_1, e1, h⟩ := atA_e h
  obtain ⟨t_2, e2, h⟩ := atA_e h
  obtain ⟨act_3, e3, h⟩ := atI_e h
  exact ok_at [(1, (Value.pointer (some r_1))), (2, (Value.pointer (some t_2))), (3, (Value.int .i64 act_3))] (okC ref07_Meaning.c4 (ref07_Meaning.q7 Z Q) (by kernel_rfl)) (puts_cons e1 (puts_cons e2 (puts_cons e3 (fun p hp => puts_nil hp)))) (ref07_Meaning.s6_eq Z Q ρ r_1 t_2 act_3) he hr h
def ref07_Meaning.s9 (Z : ZT) (Q : List Value → PT) (r_0 : List Value) : PT :=
  (newC 52 r_0 fun r212 => (newC 35 [(Value.bool false), (Value.int .i64 0), (Value.int .u32 0), (Value.int .i64 0), (Value.int .u32 0), (Value.int .i64 0), (Value.int .i64 0), (Value.int .i64 0), (Value.int .i64 0), (Value.int .i64 0), (Value.int .i64 0), (Value.int .i64 0)] fun v213 => (ldI .i64 ((r212.add 6).add 0) fun v214 => (ldB (r212.add 5) fun v215 => (pif v215 (ref07_Meaning.s6 Z Q r212 v213 0) (ref07_Meaning.s6 Z Q r212 v213 v214))))))
theorem ref07_Meaning.s9_eq (Z : ZT) (Q : List Value → PT) (ρ : Fr) (r_0 : List Value) : (comp Tryd.prog Z ref07_Meaning.c1 (thenK (comp Tryd.prog Z ref07_Meaning.c2 (thenK (comp Tryd.prog Z ref07_Meaning.c3 (thenK (ref07_Meaning.j8 Z Q) (ref07_Meaning.q7 Z Q))) (ref07_Meaning.q7 Z Q))) (ref07_Meaning.q7 Z Q))) (puts ρ [(0, (Value.agg ⟨r_0⟩))]) = ref07_Meaning.s9 Z Q r_0 := by kernel_rfl
def ref07_Meaning.j10 (Z : ZT) (Q : List Value → PT) : Fr → PT := (fun ρ => atN (ρ 0) fun r_0 => (ref07_Meaning.s9 Z Q r_0))
theorem ref07_Meaning.s9_ok (Z : ZT) (Q : List Value → PT) : Ok Tryd.prog Tryd.f31.ntmps Z ref07_Meaning.body (ref07_Meaning.q7 Z Q) (ref07_Meaning.j10 Z Q) := by
  intro E he ρ w a hr h
  rw [ref07_Meaning.q5] at he ⊢
  obtain ⟨r_0, e0, h⟩ := atN_e h
  exact ok_at [(0, (Value.agg ⟨r_0⟩))] (ok_seq (okC ref07_Meaning.c1 _ (by kernel_rfl)) (ok_seq (okC ref07_Meaning.c2 _ (by kernel_rfl)) (ok_seq (okC ref07_Meaning.c3 _ (by kernel_rfl)) (ref07_Meaning.s6_ok Z Q)))) (puts_cons e0 (fun p hp => puts_nil hp)) (ref07_Meaning.s9_eq Z Q ρ r_0) he hr h
def ref07_Meaning.F (Z : ZT) (Q : List Value → PT) (r_0 : List Value) : PT :=
  (ref07_Meaning.s9 Z Q r_0)
theorem ref07_Meaning.vc (Z : ZT) (Q : List Value → PT) (r_0 : List Value) (w : World) (h : ref07_Meaning.F Z Q r_0 w) : Calls Tryd.prog 31 ⟨[(Value.agg ⟨r_0⟩)]⟩ w fun e w' => (∃ (r0 : List Value), e = .returned (.agg ⟨r0⟩) ∧ Q r0 w') ∨ ∃ c, e = .panicked c ∧ Z c w' := by
  refine (calls_of_ok (args := [(Value.agg ⟨r_0⟩)]) (w := w) (rs := [.cell 2 35]) (fn := Tryd.f31) (c := ref07_Meaning.body) Tryd.func31 (by kernel_rfl) (by kernel_rfl) (Nat.le_of_ble_eq_true (by kernel_rfl)) (ref07_Meaning.s9_ok Z Q) (h)).mono fun e w' hR => ?_
  cases e with
  | returned v =>
    obtain ⟨va, rfl, hR⟩ := atN_e hR
    exact .inl ⟨va, rfl, hR⟩
  | panicked c => exact .inr ⟨c, rfl, hR⟩
  | outgrown => exact hR.elim
theorem ref07_Meaning.vc0 (Q : List Value → PT) (r_0 : List Value) (w : World) (h : ref07_Meaning.F Z0 Q r_0 w) : Calls Tryd.prog 31 ⟨[(Value.agg ⟨r_0⟩)]⟩ w fun e w' => (∃ (r0 : List Value), e = .returned (.agg ⟨r0⟩) ∧ Q r0 w') :=
  (ref07_Meaning.vc Z0 Q r_0 w h).mono fun _ _ hR => hR.elim id fun ⟨_, _, hz⟩ => hz.elim
theorem ref07_Meaning.cal {Z : ZT} {Q : List Value → PT} {r_0 : List Value} {w : World} (h : ref07_Meaning.F Z Q r_0 w) : Go.Proofs.YtllgjjldnnmjkaaDoor.cal Tryd.prog Z 31 [(Value.agg ⟨r_0⟩)] (isN fun r0 => Q r0) w := by
  refine (ref07_Meaning.vc Z Q r_0 w h).mono fun e w' hR => ?_
  rcases hR with ⟨r0, rfl, h⟩ | ⟨c, rfl, h⟩
  · show (isN fun r0 => Q r0) (.agg ⟨r0⟩) w'
    exact ⟨_, rfl, h⟩
  · exact h

/-! ### milepost/milepostref07.Check: function 17 -/
noncomputable def ref07_Check.body : Code := bodyC Tryd.f17
noncomputable def ref07_Check.c1 : Code := sq1 ref07_Check.body
noncomputable def ref07_Check.c2 : Code := sq1 (sq2 ref07_Check.body)
noncomputable def ref07_Check.c3 : Code := sq1 (sq2 (sq2 ref07_Check.body))
noncomputable def ref07_Check.c4 : Code := sq2 (sq2 (sq2 ref07_Check.body))
theorem ref07_Check.q5 : ref07_Check.body = .seq ref07_Check.c1 (.seq ref07_Check.c2 (.seq ref07_Check.c3 ref07_Check.c4)) := by kernel_rfl
noncomputable def ref07_Check.c6 : Code := sq1 ref07_Check.c4
noncomputable def ref07_Check.c7 : Code := sq2 ref07_Check.c4
theorem ref07_Check.q8 : ref07_Check.c4 = .seq ref07_Check.c6 ref07_Check.c7 := by kernel_rfl
def ref07_Check.s9 (Z : ZT) (Q : OA → Nat → Nat → Int → Int → PT) (size_1 : Int) (out_7 : OA) (out_7n out_7c : Nat) (had_8 : Bool) : PT :=
  (pif (!had_8) (Q none 0 0 11 size_1) (Q out_7 out_7n out_7c 0 0))
def ref07_Check.q10 (Z : ZT) (Q : OA → Nat → Nat → Int → Int → PT) : QF := bodyQ Tryd.prog [.tmp 4, .tmp 5, .tmp 6] (fun v => at3 v fun x y z => atL x fun xa xn xc => atI .i64 y fun ya => atI .i64 z fun za => Q xa xn xc ya za)
theorem ref07_Check.s9_eq (Z : ZT) (Q : OA → Nat → Nat → Int → Int → PT) (ρ : Fr) (size_1 : Int) (out_7 : OA) (out_7n out_7c : Nat) (had_8 : Bool) : comp Tryd.prog Z ref07_Check.c7 (ref07_Check.q10 Z Q) (puts ρ [(1, (Value.int .i64 size_1)), (7, (Value.slice out_7 out_7n out_7c)), (8, (Value.bool had_8))]) = ref07_Check.s9 Z Q size_1 out_7 out_7n out_7c had_8 := by kernel_rfl
def ref07_Check.j11 (Z : ZT) (Q : OA → Nat → Nat → Int → Int → PT) : Fr → PT := (fun ρ => atI .i64 (ρ 1) fun size_1 => atL (ρ 7) fun out_7 out_7n out_7c => atB (ρ 8) fun had_8 => (ref07_Check.s9 Z Q size_1 out_7 out_7n out_7c had_8))
theorem ref07_Check.s9_ok (Z : ZT) (Q : OA → Nat → Nat → Int → Int → PT) : Ok Tryd.prog Tryd.f17.ntmps Z ref07_Check.c7 (ref07_Check.q10 Z Q) (ref07_Check.j11 Z Q) := by
  intro E he ρ w a hr h
  obtain ⟨size_1, e1, h⟩ := atI_e h
  obtain ⟨out_7, out_7n, out_7c, e7, h⟩ := atL_e h
  obtain ⟨had_8, e8, h⟩ := atB_e h
  exact ok_at [(1, (Value.int .i64 size_1)), (7, (Value.slice out_7 out_7n out_7c)), (8, (Value.bool had_8))] (okC ref07_Check.c7 (ref07_Check.q10 Z Q) (by kernel_rfl)) (puts_cons e1 (puts_cons e7 (puts_cons e8 (fun p hp => puts_nil hp)))) (ref07_Check.s9_eq Z Q ρ size_1 out_7 out_7n out_7c had_8) he hr h
noncomputable def ref07_Check.c12 : Code := sq1 ref07_Check.c6
noncomputable def ref07_Check.c13 : Code := sq2 ref07_Check.c6
theorem ref07_Check.q14 : ref07_Check.c6 = .seq ref07_Check.c12 ref07_Check.c13 := by kernel_rfl
noncomputable def ref07_Check.c15 : Code := blk ref07_Check.c13
theorem ref07_Check.q16 : ref07_Check.c13 = .block 0 ref07_Check.c15 := by kernel_rfl
noncomputable def ref07_Check.c17 : Code := lop ref07_Check.c15
theorem ref07_Check.q18 : ref07_Check.c15 = .loop ref07_Check.c17 := by kernel_rfl
def ref07_Check.q20 (Z : ZT) (Q : OA → Nat → Nat → Int → Int → PT) : QF := thenK (ref07_Check.j11 Z Q) (ref07_Check.q10 Z Q)
def ref07_Check.q21 (Z : ZT) (Q : OA → Nat → Nat → Int → Int → PT) : QF := inBl 0 (ref07_Check.q20 Z Q)
noncomputable def ref07_Check.c22 : Code := sq1 ref07_Check.c17
noncomputable def ref07_Check.c23 : Code := sq2 ref07_Check.c17
theorem ref07_Check.q24 : ref07_Check.c17 = .seq ref07_Check.c22 ref07_Check.c23 := by kernel_rfl
noncomputable def ref07_Check.c25 : Code := sq1 ref07_Check.c23
noncomputable def ref07_Check.c26 : Code := sq2 ref07_Check.c23
theorem ref07_Check.q27 : ref07_Check.c23 = .seq ref07_Check.c25 ref07_Check.c26 := by kernel_rfl
def ref07_Check.s28 (Z : ZT) (Q : OA → Nat → Nat → Int → Int → PT) (X1 : OA → Nat → Nat → Int → OA → Nat → Nat → Bool → Int → PT) (l_0 : OA) (l_0n l_0c : Nat) (size_1 : Int) (out_7 : OA) (out_7n out_7c : Nat) (had_8 : Bool) (i_9 : Int) : PT :=
  (X1 l_0 l_0n l_0c size_1 out_7 out_7n out_7c had_8 (IntKind.wrap .i64 (i_9 + 1)))
def ref07_Check.j29 (Z : ZT) (Q : OA → Nat → Nat → Int → Int → PT) (X1 : OA → Nat → Nat → Int → OA → Nat → Nat → Bool → Int → PT) : Fr → PT := (fun ρ => atL (ρ 0) fun l_0 l_0n l_0c => atI .i64 (ρ 1) fun size_1 => atL (ρ 7) fun out_7 out_7n out_7c => atB (ρ 8) fun had_8 => atI .i64 (ρ 9) fun i_9 => (X1 l_0 l_0n l_0c size_1 out_7 out_7n out_7c had_8 i_9))
def ref07_Check.q30 (Z : ZT) (Q : OA → Nat → Nat → Int → Int → PT) (X1 : OA → Nat → Nat → Int → OA → Nat → Nat → Bool → Int → PT) : QF := thenK (ref07_Check.j29 Z Q X1) (ref07_Check.q21 Z Q)
theorem ref07_Check.s28_eq (Z : ZT) (Q : OA → Nat → Nat → Int → Int → PT) (X1 : OA → Nat → Nat → Int → OA → Nat → Nat → Bool → Int → PT) (ρ : Fr) (l_0 : OA) (l_0n l_0c : Nat) (size_1 : Int) (out_7 : OA) (out_7n out_7c : Nat) (had_8 : Bool) (i_9 : Int) : comp Tryd.prog Z ref07_Check.c26 (ref07_Check.q30 Z Q X1) (puts ρ [(0, (Value.slice l_0 l_0n l_0c)), (1, (Value.int .i64 size_1)), (7, (Value.slice out_7 out_7n out_7c)), (8, (Value.bool had_8)), (9, (Value.int .i64 i_9))]) = ref07_Check.s28 Z Q X1 l_0 l_0n l_0c size_1 out_7 out_7n out_7c had_8 i_9 := by kernel_rfl
def ref07_Check.j31 (Z : ZT) (Q : OA → Nat → Nat → Int → Int → PT) (X1 : OA → Nat → Nat → Int → OA → Nat → Nat → Bool → Int → PT) : Fr → PT := (fun ρ => atL (ρ 0) fun l_0 l_0n l_0c => atI .i64 (ρ 1) fun size_1 => atL (ρ 7) fun out_7 out_7n out_7c => atB (ρ 8) fun had_8 => atI .i64 (ρ 9) fun i_9 => (ref07_Check.s28 Z Q X1 l_0 l_0n l_0c size_1 out_7 out_7n out_7c had_8 i_9))
theorem ref07_Check.s28_ok (Z : ZT) (Q : OA → Nat → Nat → Int → Int → PT) (X1 : OA → Nat → Nat → Int → OA → Nat → Nat → Bool → Int → PT) : Ok Tryd.prog Tryd.f17.ntmps Z ref07_Check.c26 (ref07_Check.q30 Z Q X1) (ref07_Check.j31 Z Q X1) := by
  intro E he ρ w a hr h
  obtain ⟨l_0, l_0n, l_0c, e0, h⟩ := atL_e h
  obtain ⟨size_1, e1, h⟩ := atI_e h
  obtain ⟨out_7, out_7n, out_7c, e7, h⟩ := atL_e h
  obtain ⟨had_8, e8, h⟩ := atB_e h
  obtain ⟨i_9, e9, h⟩ := atI_e h
  exact ok_at [(0, (Value.slice l_0 l_0n l_0c)), (1, (Value.int .i64 size_1)), (7, (Value.slice out_7 out_7n out_7c)), (8, (Value.bool had_8)), (9, (Value.int .i64 i_9))] (okC ref07_Check.c26 (ref07_Check.q30 Z Q X1) (by kernel_rfl)) (puts_cons e0 (puts_cons e1 (puts_cons e7 (puts_cons e8 (puts_cons e9 (fun p hp => puts_nil hp)))))) (ref07_Check.s28_eq Z Q X1 ρ l_0 l_0n l_0c size_1 out_7 out_7n out_7c had_8 i_9) he hr h
noncomputable def ref07_Check.c32 : Code := blk ref07_Check.c25
theorem ref07_Check.q33 : ref07_Check.c25 = .block 1 ref07_Check.c32 := by kernel_rfl
noncomputable def ref07_Check.c34 : Code := sq1 ref07_Check.c32
noncomputable def ref07_Check.c35 : Code := sq1 (sq2 ref07_Check.c32)
noncomputable def ref07_Check.c36 : Code := sq1 (sq2 (sq2 ref07_Check.c32))
noncomputable def ref07_Check.c37 : Code := sq2 (sq2 (sq2 ref07_Check.c32))
theorem ref07_Check.q38 : ref07_Check.c32 = .seq ref07_Check.c34 (.seq ref07_Check.c35 (.seq ref07_Check.c36 ref07_Check.c37)) := by kernel_rfl
noncomputable def ref07_Check.c39 : Code := sq1 ref07_Check.c37
noncomputable def ref07_Check.c40 : Code := sq2 ref07_Check.c37
theorem ref07_Check.q41 : ref07_Check.c37 = .seq ref07_Check.c39 ref07_Check.c40 := by kernel_rfl
noncomputable def ref07_Check.c42 : Code := sq1 ref07_Check.c40
noncomputable def ref07_Check.c43 : Code := sq1 (sq2 ref07_Check.c40)
noncomputable def ref07_Check.c44 : Code := sq2 (sq2 ref07_Check.c40)
theorem ref07_Check.q45 : ref07_Check.c40 = .seq ref07_Check.c42 (.seq ref07_Check.c43 ref07_Check.c44) := by kernel_rfl
def ref07_Check.s46 (Z : ZT) (Q : OA → Nat → Nat → Int → Int → PT) (X1 : OA → Nat → Nat → Int → OA → Nat → Nat → Bool → Int → PT) (l_0 : OA) (l_0n l_0c : Nat) (size_1 : Int) (out_7 : OA) (out_7n out_7c : Nat) (had_8 : Bool) (i_9 : Int) (r_10 : Addr) : PT :=
  (ldB (r_10.add 5) fun v135 => (pif (!v135) (ldI .i64 ((r_10.add 6).add 0) fun v136 => (pif (decide (v136 < 1)) (drew0 (ldI .i64 ((r_10.add 6).add 1) fun v137 => (Q none 0 0 10 v137))) (ldI .i64 ((r_10.add 6).add 0) fun v138 => (pif (decide (v138 > 99)) (drew0 (ldI .i64 ((r_10.add 6).add 1) fun v139 => (Q none 0 0 10 v139))) (ldN 8 r_10 fun v140 => (cal Tryd.prog Z 31 [(Value.agg ⟨v140⟩)] (isN fun v141 => (cnd (List.length v141 = 12) (newC 35 (v141 ++ ([])) fun v142 => (runL Tryd.prog (bi .append #[23, 23] 23 [false, false] [(Value.slice out_7 out_7n out_7c), (Value.slice (some v142) 1 1)]) fun v143 v143n v143c => (ref07_Check.s28 Z Q X1 l_0 l_0n l_0c size_1 v143 v143n v143c had_8 i_9))))))))))) (ldN 8 r_10 fun v144 => (cal Tryd.prog Z 31 [(Value.agg ⟨v144⟩)] (isN fun v145 => (cnd (List.length v145 = 12) (newC 35 (v145 ++ ([])) fun v146 => (runL Tryd.prog (bi .append #[23, 23] 23 [false, false] [(Value.slice out_7 out_7n out_7c), (Value.slice (some v146) 1 1)]) fun v147 v147n v147c => (ref07_Check.s28 Z Q X1 l_0 l_0n l_0c size_1 v147 v147n v147c had_8 i_9)))))))))
def ref07_Check.q47 (Z : ZT) (Q : OA → Nat → Nat → Int → Int → PT) (X1 : OA → Nat → Nat → Int → OA → Nat → Nat → Bool → Int → PT) : QF := thenK (ref07_Check.j31 Z Q X1) (ref07_Check.q30 Z Q X1)
def ref07_Check.q48 (Z : ZT) (Q : OA → Nat → Nat → Int → Int → PT) (X1 : OA → Nat → Nat → Int → OA → Nat → Nat → Bool → Int → PT) : QF := inBl 1 (ref07_Check.q47 Z Q X1)
theorem ref07_Check.s46_eq (Z : ZT) (Q : OA → Nat → Nat → Int → Int → PT) (X1 : OA → Nat → Nat → Int → OA → Nat → Nat → Bool → Int → PT) (ρ : Fr) (l_0 : OA) (l_0n l_0c : Nat) (size_1 : Int) (out_7 : OA) (out_7n out_7c : Nat) (had_8 : Bool) (i_9 : Int) (r_10 : Addr) : comp Tryd.prog Z ref07_Check.c44 (ref07_Check.q48 Z Q X1) (puts ρ [(0, (Value.slice l_0 l_0n l_0c)), (1, (Value.int .i64 size_1)), (7, (Value.slice out_7 out_7n out_7c)), (8, (Value.bool had_8)), (9, (Value.int .i64 i_9)), (10, (Value.pointer (some r_10)))]) = ref07_Check.s46 Z Q X1 l_0 l_0n l_0c size_1 out_7 out_7n out_7c had_8 i_9 r_10 := by kernel_rfl
def ref07_Check.j49 (Z : ZT) (Q : OA → Nat → Nat → Int → Int → PT) (X1 : OA → Nat → Nat → Int → OA → Nat → Nat → Bool → Int → PT) : Fr → PT := (fun ρ => atL (ρ 0) fun l_0 l_0n l_0c => atI .i64 (ρ 1) fun size_1 => atL (ρ 7) fun out_7 out_7n out_7c => atB (ρ 8) fun had_8 => atI .i64 (ρ 9) fun i_9 => atA (ρ 10) fun r_10 => (ref07_Check.s46 Z Q X1 l_0 l_0n l_0c size_1 out_7 out_7n out_7c had_8 i_9 r_10))
theorem ref07_Check.s46_ok (Z : ZT) (Q : OA → Nat → Nat → Int → Int → PT) (X1 : OA → Nat → Nat → Int → OA → Nat → Nat → Bool → Int → PT) : Ok Tryd.prog Tryd.f17.ntmps Z ref07_Check.c44 (ref07_Check.q48 Z Q X1) (ref07_Check.j49 Z Q X1) := by
  intro E he ρ w a hr h
  obtain ⟨l_0, l_0n, l_0c, e0, h⟩ := atL_e h
  obtain ⟨size_1, e1, h⟩ := atI_e h
  obtain ⟨out_7, out_7n, out_7c, e7, h⟩ := atL_e h
  obtain ⟨had_8, e8, h⟩ := atB_e h
  obtain ⟨i_9, e9, h⟩ := atI_e h
  obtain ⟨r_10, e10, h⟩ := atA_e h
  exact ok_at [(0, (Value.slice l_0 l_0n l_0c)), (1, (Value.int .i64 size_1)), (7, (Value.slice out_7 out_7n out_7c)), (8, (Value.bool had_8)), (9, (Value.int .i64 i_9)), (10, (Value.pointer (some r_10)))] (okC ref07_Check.c44 (ref07_Check.q48 Z Q X1) (by kernel_rfl)) (puts_cons e0 (puts_cons e1 (puts_cons e7 (puts_cons e8 (puts_cons e9 (puts_cons e10 (fun p hp => puts_nil hp))))))) (ref07_Check.s46_eq Z Q X1 ρ l_0 l_0n l_0c size_1 out_7 out_7n out_7c had_8 i_9 r_10) he hr h
def ref07_Check.s50 (Z : ZT) (Q : OA → Nat → Nat → Int → Int → PT) (X1 : OA → Nat → Nat → Int → OA → Nat → Nat → Bool → Int → PT) (l_0 : OA) (l_0n l_0c : Nat) (size_1 : Int) (out_7 : OA) (out_7n out_7c : Nat) (had_8 : Bool) (i_9 : Int) (r_10 : Addr) : PT :=
  (ldN 8 r_10 fun v148 => (cal Tryd.prog Z 30 [(Value.agg ⟨v148⟩)] (isT2 fun t149 t150 => (isI .i64 fun v151 => ((isI .i64 fun v152 => (ldB (r_10.add 1) fun v153 => (pif (!v153) (pif (v151 != 0) (Q none 0 0 v151 v152) (ref07_Check.s46 Z Q X1 l_0 l_0n l_0c size_1 out_7 out_7n out_7c had_8 i_9 r_10)) (ref07_Check.s46 Z Q X1 l_0 l_0n l_0c size_1 out_7 out_7n out_7c had_8 i_9 r_10)))) t150)) t149)))
theorem ref07_Check.s50_eq (Z : ZT) (Q : OA → Nat → Nat → Int → Int → PT) (X1 : OA → Nat → Nat → Int → OA → Nat → Nat → Bool → Int → PT) (ρ : Fr) (l_0 : OA) (l_0n l_0c : Nat) (size_1 : Int) (out_7 : OA) (out_7n out_7c : Nat) (had_8 : Bool) (i_9 : Int) (r_10 : Addr) : (comp Tryd.prog Z ref07_Check.c42 (thenK (comp Tryd.prog Z ref07_Check.c43 (thenK (ref07_Check.j49 Z Q X1) (ref07_Check.q48 Z Q X1))) (ref07_Check.q48 Z Q X1))) (puts ρ [(0, (Value.slice l_0 l_0n l_0c)), (1, (Value.int .i64 size_1)), (7, (Value.slice out_7 out_7n out_7c)), (8, (Value.bool had_8)), (9, (Value.int .i64 i_9)), (10, (Value.pointer (some r_10)))]) = ref07_Check.s50 Z Q X1 l_0 l_0n l_0c size_1 out_7 out_7n out_7c had_8 i_9 r_10 := by kernel_rfl
def ref07_Check.j51 (Z : ZT) (Q : OA → Nat → Nat → Int → Int → PT) (X1 : OA → Nat → Nat → Int → OA → Nat → Nat → Bool → Int → PT) : Fr → PT := (fun ρ => atL (ρ 0) fun l_0 l_0n l_0c => atI .i64 (ρ 1) fun size_1 => atL (ρ 7) fun out_7 out_7n out_7c => atB (ρ 8) fun had_8 => atI .i64 (ρ 9) fun i_9 => atA (ρ 10) fun r_10 => (ref07_Check.s50 Z Q X1 l_0 l_0n l_0c size_1 out_7 out_7n out_7c had_8 i_9 r_10))
theorem ref07_Check.s50_ok (Z : ZT) (Q : OA → Nat → Nat → Int → Int → PT) (X1 : OA → Nat → Nat → Int → OA → Nat → Nat → Bool → Int → PT) : Ok Tryd.prog Tryd.f17.ntmps Z ref07_Check.c40 (ref07_Check.q48 Z Q X1) (ref07_Check.j51 Z Q X1) := by
  intro E he ρ w a hr h
  rw [ref07_Check.q45] at he ⊢
  obtain ⟨l_0, l_0n, l_0c, e0, h⟩ := atL_e h
  obtain ⟨size_1, e1, h⟩ := atI_e h
  obtain ⟨out_7, out_7n, out_7c, e7, h⟩ := atL_e h
  obtain ⟨had_8, e8, h⟩ := atB_e h
  obtain ⟨i_9, e9, h⟩ := atI_e h
  obtain ⟨r_10, e10, h⟩ := atA_e h
  exact ok_at [(0, (Value.slice l_0 l_0n l_0c)), (1, (Value.int .i64 size_1)), (7, (Value.slice out_7 out_7n out_7c)), (8, (Value.bool had_8)), (9, (Value.int .i64 i_9)), (10, (Value.pointer (some r_10)))] (ok_seq (okC ref07_Check.c42 _ (by kernel_rfl)) (ok_seq (okC ref07_Check.c43 _ (by kernel_rfl)) (ref07_Check.s46_ok Z Q X1))) (puts_cons e0 (puts_cons e1 (puts_cons e7 (puts_cons e8 (puts_cons e9 (puts_cons e10 (fun p hp => puts_nil hp))))))) (ref07_Check.s50_eq Z Q X1 ρ l_0 l_0n l_0c size_1 out_7 out_7n out_7c had_8 i_9 r_10) he hr h
def ref07_Check.s52 (Z : ZT) (Q : OA → Nat → Nat → Int → Int → PT) (X1 : OA → Nat → Nat → Int → OA → Nat → Nat → Bool → Int → PT) (l_0 : OA) (l_0n l_0c : Nat) (size_1 : Int) (out_7 : OA) (out_7n out_7c : Nat) (had_8 : Bool) (i_9 : Int) (r_10 : Addr) : PT :=
  (pif had_8 (ref07_Check.s50 Z Q X1 l_0 l_0n l_0c size_1 out_7 out_7n out_7c true i_9 r_10) (ldB (r_10.add 1) fun v154 => (ref07_Check.s50 Z Q X1 l_0 l_0n l_0c size_1 out_7 out_7n out_7c v154 i_9 r_10)))
theorem ref07_Check.s52_eq (Z : ZT) (Q : OA → Nat → Nat → Int → Int → PT) (X1 : OA → Nat → Nat → Int → OA → Nat → Nat → Bool → Int → PT) (ρ : Fr) (l_0 : OA) (l_0n l_0c : Nat) (size_1 : Int) (out_7 : OA) (out_7n out_7c : Nat) (had_8 : Bool) (i_9 : Int) (r_10 : Addr) : (comp Tryd.prog Z ref07_Check.c39 (thenK (ref07_Check.j51 Z Q X1) (ref07_Check.q48 Z Q X1))) (puts ρ [(0, (Value.slice l_0 l_0n l_0c)), (1, (Value.int .i64 size_1)), (7, (Value.slice out_7 out_7n out_7c)), (8, (Value.bool had_8)), (9, (Value.int .i64 i_9)), (10, (Value.pointer (some r_10)))]) = ref07_Check.s52 Z Q X1 l_0 l_0n l_0c size_1 out_7 out_7n out_7c had_8 i_9 r_10 := by kernel_rfl
def ref07_Check.j53 (Z : ZT) (Q : OA → Nat → Nat → Int → Int → PT) (X1 : OA → Nat → Nat → Int → OA → Nat → Nat → Bool → Int → PT) : Fr → PT := (fun ρ => atL (ρ 0) fun l_0 l_0n l_0c => atI .i64 (ρ 1) fun size_1 => atL (ρ 7) fun out_7 out_7n out_7c => atB (ρ 8) fun had_8 => atI .i64 (ρ 9) fun i_9 => atA (ρ 10) fun r_10 => (ref07_Check.s52 Z Q X1 l_0 l_0n l_0c size_1 out_7 out_7n out_7c had_8 i_9 r_10))
theorem ref07_Check.s52_ok (Z : ZT) (Q : OA → Nat → Nat → Int → Int → PT) (X1 : OA → Nat → Nat → Int → OA → Nat → Nat → Bool → Int → PT) : Ok Tryd.prog Tryd.f17.ntmps Z ref07_Check.c37 (ref07_Check.q48 Z Q X1) (ref07_Check.j53 Z Q X1) := by
  intro E he ρ w a hr h
  rw [ref07_Check.q41] at he ⊢
  obtain ⟨l_0, l_0n, l_0c, e0, h⟩ := atL_e h
  obtain ⟨size_1, e1, h⟩ := atI_e h
  obtain ⟨out_7, out_7n, out_7c, e7, h⟩ := atL_e h
  obtain ⟨had_8, e8, h⟩ := atB_e h
  obtain ⟨i_9, e9, h⟩ := atI_e h
  obtain ⟨r_10, e10, h⟩ := atA_e h
  exact ok_at [(0, (Value.slice l_0 l_0n l_0c)), (1, (Value.int .i64 size_1)), (7, (Value.slice out_7 out_7n out_7c)), (8, (Value.bool had_8)), (9, (Value.int .i64 i_9)), (10, (Value.pointer (some r_10)))] (ok_seq (okC ref07_Check.c39 _ (by kernel_rfl)) (ref07_Check.s50_ok Z Q X1)) (puts_cons e0 (puts_cons e1 (puts_cons e7 (puts_cons e8 (puts_cons e9 (puts_cons e10 (fun p hp => puts_nil hp))))))) (ref07_Check.s52_eq Z Q X1 ρ l_0 l_0n l_0c size_1 out_7 out_7n out_7c had_8 i_9 r_10) he hr h
def ref07_Check.s54 (Z : ZT) (Q : OA → Nat → Nat → Int → Int → PT) (X1 : OA → Nat → Nat → Int → OA → Nat → Nat → Bool → Int → PT) (l_0 : OA) (l_0n l_0c : Nat) (size_1 : Int) (out_7 : OA) (out_7n out_7c : Nat) (had_8 : Bool) (i_9 : Int) : PT :=
  (ixS l_0 l_0n i_9 8 fun v155 => (ldN 8 v155 fun v156 => (newC 52 [(Value.int .i64 0), (Value.bool false), (Value.int .i64 0), (Value.int .i64 0), (Value.slice none 0 0), (Value.bool false), (Value.int .i64 0), (Value.int .i64 0)] fun r157 => (stN 8 r157 v156 (pif (decide (i_9 ≥ 64)) (drew0 (ldI .i64 (r157.add 0) fun v158 => (Q none 0 0 4 v158))) (ldB (r157.add 1) fun v159 => (pif v159 (pif had_8 (drew0 (ldI .i64 (r157.add 0) fun v160 => (Q none 0 0 9 v160))) (ref07_Check.s52 Z Q X1 l_0 l_0n l_0c size_1 out_7 out_7n out_7c had_8 i_9 r157)) (ref07_Check.s52 Z Q X1 l_0 l_0n l_0c size_1 out_7 out_7n out_7c had_8 i_9 r157))))))))
theorem ref07_Check.s54_eq (Z : ZT) (Q : OA → Nat → Nat → Int → Int → PT) (X1 : OA → Nat → Nat → Int → OA → Nat → Nat → Bool → Int → PT) (ρ : Fr) (l_0 : OA) (l_0n l_0c : Nat) (size_1 : Int) (out_7 : OA) (out_7n out_7c : Nat) (had_8 : Bool) (i_9 : Int) : (comp Tryd.prog Z ref07_Check.c34 (thenK (comp Tryd.prog Z ref07_Check.c35 (thenK (comp Tryd.prog Z ref07_Check.c36 (thenK (ref07_Check.j53 Z Q X1) (ref07_Check.q48 Z Q X1))) (ref07_Check.q48 Z Q X1))) (ref07_Check.q48 Z Q X1))) (puts ρ [(0, (Value.slice l_0 l_0n l_0c)), (1, (Value.int .i64 size_1)), (7, (Value.slice out_7 out_7n out_7c)), (8, (Value.bool had_8)), (9, (Value.int .i64 i_9))]) = ref07_Check.s54 Z Q X1 l_0 l_0n l_0c size_1 out_7 out_7n out_7c had_8 i_9 := by kernel_rfl
def ref07_Check.j55 (Z : ZT) (Q : OA → Nat → Nat → Int → Int → PT) (X1 : OA → Nat → Nat → Int → OA → Nat → Nat → Bool → Int → PT) : Fr → PT := (fun ρ => atL (ρ 0) fun l_0 l_0n l_0c => atI .i64 (ρ 1) fun size_1 => atL (ρ 7) fun out_7 out_7n out_7c => atB (ρ 8) fun had_8 => atI .i64 (ρ 9) fun i_9 => (ref07_Check.s54 Z Q X1 l_0 l_0n l_0c size_1 out_7 out_7n out_7c had_8 i_9))
theorem ref07_Check.s54_ok (Z : ZT) (Q : OA → Nat → Nat → Int → Int → PT) (X1 : OA → Nat → Nat → Int → OA → Nat → Nat → Bool → Int → PT) : Ok Tryd.prog Tryd.f17.ntmps Z ref07_Check.c32 (ref07_Check.q48 Z Q X1) (ref07_Check.j55 Z Q X1) := by
  intro E he ρ w a hr h
  rw [ref07_Check.q38] at he ⊢
  obtain ⟨l_0, l_0n, l_0c, e0, h⟩ := atL_e h
  obtain ⟨size_1, e1, h⟩ := atI_e h
  obtain ⟨out_7, out_7n, out_7c, e7, h⟩ := atL_e h
  obtain ⟨had_8, e8, h⟩ := atB_e h
  obtain ⟨i_9, e9, h⟩ := atI_e h
  exact ok_at [(0, (Value.slice l_0 l_0n l_0c)), (1, (Value.int .i64 size_1)), (7, (Value.slice out_7 out_7n out_7c)), (8, (Value.bool had_8)), (9, (Value.int .i64 i_9))] (ok_seq (okC ref07_Check.c34 _ (by kernel_rfl)) (ok_seq (okC ref07_Check.c35 _ (by kernel_rfl)) (ok_seq (okC ref07_Check.c36 _ (by kernel_rfl)) (ref07_Check.s52_ok Z Q X1)))) (puts_cons e0 (puts_cons e1 (puts_cons e7 (puts_cons e8 (puts_cons e9 (fun p hp => puts_nil hp)))))) (ref07_Check.s54_eq Z Q X1 ρ l_0 l_0n l_0c size_1 out_7 out_7n out_7c had_8 i_9) he hr h
theorem ref07_Check.o56 (Z : ZT) (Q : OA → Nat → Nat → Int → Int → PT) (X1 : OA → Nat → Nat → Int → OA → Nat → Nat → Bool → Int → PT) : Ok Tryd.prog Tryd.f17.ntmps Z ref07_Check.c25 (ref07_Check.q47 Z Q X1) (ref07_Check.j55 Z Q X1) := by
  rw [ref07_Check.q33]; exact ok_block (ref07_Check.s54_ok Z Q X1)
theorem ref07_Check.o57 (Z : ZT) (Q : OA → Nat → Nat → Int → Int → PT) (X1 : OA → Nat → Nat → Int → OA → Nat → Nat → Bool → Int → PT) : Ok Tryd.prog Tryd.f17.ntmps Z ref07_Check.c23 (ref07_Check.q30 Z Q X1) (ref07_Check.j55 Z Q X1) := by
  rw [ref07_Check.q27]; exact ok_seq (ref07_Check.o56 Z Q X1) (ref07_Check.s28_ok Z Q X1)
def ref07_Check.s58 (Z : ZT) (Q : OA → Nat → Nat → Int → Int → PT) (X1 : OA → Nat → Nat → Int → OA → Nat → Nat → Bool → Int → PT) (l_0 : OA) (l_0n l_0c : Nat) (size_1 : Int) (out_7 : OA) (out_7n out_7c : Nat) (had_8 : Bool) (i_9 : Int) : PT :=
  (pif (decide (i_9 < ((l_0n : Nat) : Int))) (ref07_Check.s54 Z Q X1 l_0 l_0n l_0c size_1 out_7 out_7n out_7c had_8 i_9) (ref07_Check.s9 Z Q size_1 out_7 out_7n out_7c had_8))
theorem ref07_Check.s58_eq (Z : ZT) (Q : OA → Nat → Nat → Int → Int → PT) (X1 : OA → Nat → Nat → Int → OA → Nat → Nat → Bool → Int → PT) (ρ : Fr) (l_0 : OA) (l_0n l_0c : Nat) (size_1 : Int) (out_7 : OA) (out_7n out_7c : Nat) (had_8 : Bool) (i_9 : Int) : (comp Tryd.prog Z ref07_Check.c22 (thenK (ref07_Check.j55 Z Q X1) (ref07_Check.q30 Z Q X1))) (puts ρ [(0, (Value.slice l_0 l_0n l_0c)), (1, (Value.int .i64 size_1)), (7, (Value.slice out_7 out_7n out_7c)), (8, (Value.bool had_8)), (9, (Value.int .i64 i_9))]) = ref07_Check.s58 Z Q X1 l_0 l_0n l_0c size_1 out_7 out_7n out_7c had_8 i_9 := by kernel_rfl
def ref07_Check.j59 (Z : ZT) (Q : OA → Nat → Nat → Int → Int → PT) (X1 : OA → Nat → Nat → Int → OA → Nat → Nat → Bool → Int → PT) : Fr → PT := (fun ρ => atL (ρ 0) fun l_0 l_0n l_0c => atI .i64 (ρ 1) fun size_1 => atL (ρ 7) fun out_7 out_7n out_7c => atB (ρ 8) fun had_8 => atI .i64 (ρ 9) fun i_9 => (ref07_Check.s58 Z Q X1 l_0 l_0n l_0c size_1 out_7 out_7n out_7c had_8 i_9))
theorem ref07_Check.s58_ok (Z : ZT) (Q : OA → Nat → Nat → Int → Int → PT) (X1 : OA → Nat → Nat → Int → OA → Nat → Nat → Bool → Int → PT) : Ok Tryd.prog Tryd.f17.ntmps Z ref07_Check.c17 (ref07_Check.q30 Z Q X1) (ref07_Check.j59 Z Q X1) := by
  intro E he ρ w a hr h
  rw [ref07_Check.q24] at he ⊢
  obtain ⟨l_0, l_0n, l_0c, e0, h⟩ := atL_e h
  obtain ⟨size_1, e1, h⟩ := atI_e h
  obtain ⟨out_7, out_7n, out_7c, e7, h⟩ := atL_e h
  obtain ⟨had_8, e8, h⟩ := atB_e h
  obtain ⟨i_9, e9, h⟩ := atI_e h
  exact ok_at [(0, (Value.slice l_0 l_0n l_0c)), (1, (Value.int .i64 size_1)), (7, (Value.slice out_7 out_7n out_7c)), (8, (Value.bool had_8)), (9, (Value.int .i64 i_9))] (ok_seq (okC ref07_Check.c22 _ (by kernel_rfl)) (ref07_Check.o57 Z Q X1)) (puts_cons e0 (puts_cons e1 (puts_cons e7 (puts_cons e8 (puts_cons e9 (fun p hp => puts_nil hp)))))) (ref07_Check.s58_eq Z Q X1 ρ l_0 l_0n l_0c size_1 out_7 out_7n out_7c had_8 i_9) he hr h
def ref07_Check.l19 (Z : ZT) (Q : OA → Nat → Nat → Int → Int → PT) : Nat → OA → Nat → Nat → Int → OA → Nat → Nat → Bool → Int → PT
  | 0, _, _, _, _, _, _, _, _, _ => bad
  | k + 1, l_0, l_0n, l_0c, size_1, out_7, out_7n, out_7c, had_8, i_9 => (ref07_Check.s58 Z Q (ref07_Check.l19 Z Q k) l_0 l_0n l_0c size_1 out_7 out_7n out_7c had_8 i_9)
def ref07_Check.j60 (Z : ZT) (Q : OA → Nat → Nat → Int → Int → PT) (k : Nat) : Fr → PT := (fun ρ => atL (ρ 0) fun l_0 l_0n l_0c => atI .i64 (ρ 1) fun size_1 => atL (ρ 7) fun out_7 out_7n out_7c => atB (ρ 8) fun had_8 => atI .i64 (ρ 9) fun i_9 => (ref07_Check.l19 Z Q k l_0 l_0n l_0c size_1 out_7 out_7n out_7c had_8 i_9))
def ref07_Check.j61 (Z : ZT) (Q : OA → Nat → Nat → Int → Int → PT) : Fr → PT := (fun ρ => atL (ρ 0) fun l_0 l_0n l_0c => atI .i64 (ρ 1) fun size_1 => atL (ρ 7) fun out_7 out_7n out_7c => atB (ρ 8) fun had_8 => atI .i64 (ρ 9) fun i_9 => (exK fun k => ref07_Check.l19 Z Q k l_0 l_0n l_0c size_1 out_7 out_7n out_7c had_8 i_9))
theorem ref07_Check.o62 (Z : ZT) (Q : OA → Nat → Nat → Int → Int → PT) : Ok Tryd.prog Tryd.f17.ntmps Z ref07_Check.c15 (ref07_Check.q21 Z Q) (ref07_Check.j61 Z Q) := by
  rw [ref07_Check.q18]
  refine Ok.imp (ok_loop (J := ref07_Check.j60 Z Q) ?_ ?_) ?_
  · intro ρ w h
    obtain ⟨l_0, l_0n, l_0c, e0, h⟩ := atL_e h
    obtain ⟨size_1, e1, h⟩ := atI_e h
    obtain ⟨out_7, out_7n, out_7c, e7, h⟩ := atL_e h
    obtain ⟨had_8, e8, h⟩ := atB_e h
    obtain ⟨i_9, e9, h⟩ := atI_e h
    exact h
  · intro k
    refine Ok.imp (ref07_Check.s58_ok Z Q (ref07_Check.l19 Z Q k)) fun ρ w h => ?_
    obtain ⟨l_0, l_0n, l_0c, e0, h⟩ := atL_e h
    obtain ⟨size_1, e1, h⟩ := atI_e h
    obtain ⟨out_7, out_7n, out_7c, e7, h⟩ := atL_e h
    obtain ⟨had_8, e8, h⟩ := atB_e h
    obtain ⟨i_9, e9, h⟩ := atI_e h
    show (ref07_Check.j59 Z Q (ref07_Check.l19 Z Q k)) ρ w
    simp only [ref07_Check.j59]
    rw [e0]
    rw [e1]
    rw [e7]
    rw [e8]
    rw [e9]
    exact h
  · intro ρ w h
    obtain ⟨l_0, l_0n, l_0c, e0, h⟩ := atL_e h
    obtain ⟨size_1, e1, h⟩ := atI_e h
    obtain ⟨out_7, out_7n, out_7c, e7, h⟩ := atL_e h
    obtain ⟨had_8, e8, h⟩ := atB_e h
    obtain ⟨i_9, e9, h⟩ := atI_e h
    obtain ⟨k, h⟩ := h
    refine ⟨k, ?_⟩
    show (atL (ρ 0) fun l_0 l_0n l_0c => atI .i64 (ρ 1) fun size_1 => atL (ρ 7) fun out_7 out_7n out_7c => atB (ρ 8) fun had_8 => atI .i64 (ρ 9) fun i_9 => (ref07_Check.l19 Z Q k l_0 l_0n l_0c size_1 out_7 out_7n out_7c had_8 i_9)) w
    rw [e0]
    rw [e1]
    rw [e7]
    rw [e8]
    rw [e9]
    exact h
theorem ref07_Check.o63 (Z : ZT) (Q : OA → Nat → Nat → Int → Int → PT) : Ok Tryd.prog Tryd.f17.ntmps Z ref07_Check.c13 (ref07_Check.q20 Z Q) (ref07_Check.j61 Z Q) := by
  rw [ref07_Check.q16]; exact ok_block (ref07_Check.o62 Z Q)
def ref07_Check.s64 (Z : ZT) (Q : OA → Nat → Nat → Int → Int → PT) (l_0 : OA) (l_0n l_0c : Nat) (size_1 : Int) (out_7 : OA) (out_7n out_7c : Nat) (had_8 : Bool) : PT :=
  (exK fun k => ref07_Check.l19 Z Q k l_0 l_0n l_0c size_1 out_7 out_7n out_7c had_8 0)
theorem ref07_Check.s64_eq (Z : ZT) (Q : OA → Nat → Nat → Int → Int → PT) (ρ : Fr) (l_0 : OA) (l_0n l_0c : Nat) (size_1 : Int) (out_7 : OA) (out_7n out_7c : Nat) (had_8 : Bool) : (comp Tryd.prog Z ref07_Check.c12 (thenK (ref07_Check.j61 Z Q) (ref07_Check.q20 Z Q))) (puts ρ [(0, (Value.slice l_0 l_0n l_0c)), (1, (Value.int .i64 size_1)), (7, (Value.slice out_7 out_7n out_7c)), (8, (Value.bool had_8))]) = ref07_Check.s64 Z Q l_0 l_0n l_0c size_1 out_7 out_7n out_7c had_8 := by kernel_rfl
def ref07_Check.j65 (Z : ZT) (Q : OA → Nat → Nat → Int → Int → PT) : Fr → PT := (fun ρ => atL (ρ 0) fun l_0 l_0n l_0c => atI .i64 (ρ 1) fun size_1 => atL (ρ 7) fun out_7 out_7n out_7c => atB (ρ 8) fun had_8 => (ref07_Check.s64 Z Q l_0 l_0n l_0c size_1 out_7 out_7n out_7c had_8))
theorem ref07_Check.s64_ok (Z : ZT) (Q : OA → Nat → Nat → Int → Int → PT) : Ok Tryd.prog Tryd.f17.ntmps Z ref07_Check.c6 (ref07_Check.q20 Z Q) (ref07_Check.j65 Z Q) := by
  intro E he ρ w a hr h
  rw [ref07_Check.q14] at he ⊢
  obtain ⟨l_0, l_0n, l_0c, e0, h⟩ := atL_e h
  obtain ⟨size_1, e1, h⟩ := atI_e h
  obtain ⟨out_7, out_7n, out_7c, e7, h⟩ := atL_e h
  obtain ⟨had_8, e8, h⟩ := atB_e h
  exact ok_at [(0, (Value.slice l_0 l_0n l_0c)), (1, (Value.int .i64 size_1)), (7, (Value.slice out_7 out_7n out_7c)), (8, (Value.bool had_8))] (ok_seq (okC ref07_Check.c12 _ (by kernel_rfl)) (ref07_Check.o63 Z Q)) (puts_cons e0 (puts_cons e1 (puts_cons e7 (puts_cons e8 (fun p hp => puts_nil hp))))) (ref07_Check.s64_eq Z Q ρ l_0 l_0n l_0c size_1 out_7 out_7n out_7c had_8) he hr h
theorem ref07_Check.o66 (Z : ZT) (Q : OA → Nat → Nat → Int → Int → PT) : Ok Tryd.prog Tryd.f17.ntmps Z ref07_Check.c4 (ref07_Check.q10 Z Q) (ref07_Check.j65 Z Q) := by
  rw [ref07_Check.q8]; exact ok_seq (ref07_Check.s64_ok Z Q) (ref07_Check.s9_ok Z Q)
def ref07_Check.s67 (Z : ZT) (Q : OA → Nat → Nat → Int → Int → PT) (l_0 : OA) (l_0n l_0c : Nat) (size_1 : Int) : PT :=
  (newC 35 [] fun v161 => (ref07_Check.s64 Z Q l_0 l_0n l_0c size_1 (some v161) 0 0 false))
theorem ref07_Check.s67_eq (Z : ZT) (Q : OA → Nat → Nat → Int → Int → PT) (ρ : Fr) (l_0 : OA) (l_0n l_0c : Nat) (size_1 : Int) : (comp Tryd.prog Z ref07_Check.c1 (thenK (comp Tryd.prog Z ref07_Check.c2 (thenK (comp Tryd.prog Z ref07_Check.c3 (thenK (ref07_Check.j65 Z Q) (ref07_Check.q10 Z Q))) (ref07_Check.q10 Z Q))) (ref07_Check.q10 Z Q))) (puts ρ [(0, (Value.slice l_0 l_0n l_0c)), (1, (Value.int .i64 size_1))]) = ref07_Check.s67 Z Q l_0 l_0n l_0c size_1 := by kernel_rfl
def ref07_Check.j68 (Z : ZT) (Q : OA → Nat → Nat → Int → Int → PT) : Fr → PT := (fun ρ => atL (ρ 0) fun l_0 l_0n l_0c => atI .i64 (ρ 1) fun size_1 => (ref07_Check.s67 Z Q l_0 l_0n l_0c size_1))
theorem ref07_Check.s67_ok (Z : ZT) (Q : OA → Nat → Nat → Int → Int → PT) : Ok Tryd.prog Tryd.f17.ntmps Z ref07_Check.body (ref07_Check.q10 Z Q) (ref07_Check.j68 Z Q) := by
  intro E he ρ w a hr h
  rw [ref07_Check.q5] at he ⊢
  obtain ⟨l_0, l_0n, l_0c, e0, h⟩ := atL_e h
  obtain ⟨size_1, e1, h⟩ := atI_e h
  exact ok_at [(0, (Value.slice l_0 l_0n l_0c)), (1, (Value.int .i64 size_1))] (ok_seq (okC ref07_Check.c1 _ (by kernel_rfl)) (ok_seq (okC ref07_Check.c2 _ (by kernel_rfl)) (ok_seq (okC ref07_Check.c3 _ (by kernel_rfl)) (ref07_Check.o66 Z Q)))) (puts_cons e0 (puts_cons e1 (fun p hp => puts_nil hp))) (ref07_Check.s67_eq Z Q ρ l_0 l_0n l_0c size_1) he hr h
def ref07_Check.F (Z : ZT) (Q : OA → Nat → Nat → Int → Int → PT) (l_0 : OA) (l_0n l_0c : Nat) (size_1 : Int) : PT :=
  (ref07_Check.s67 Z Q l_0 l_0n l_0c size_1)
theorem ref07_Check.vc (Z : ZT) (Q : OA → Nat → Nat → Int → Int → PT) (l_0 : OA) (l_0n l_0c : Nat) (size_1 : Int) (w : World) (h : ref07_Check.F Z Q l_0 l_0n l_0c size_1 w) : Calls Tryd.prog 17 ⟨[(Value.slice l_0 l_0n l_0c), (Value.int .i64 size_1)]⟩ w fun e w' => (∃ (r0 : OA) (r0n r0c : Nat) (r1 : Int) (r2 : Int), e = .returned (.tuple #[.slice r0 r0n r0c, .int .i64 r1, .int .i64 r2]) ∧ Q r0 r0n r0c r1 r2 w') ∨ ∃ c, e = .panicked c ∧ Z c w' := by
  refine (calls_of_ok (args := [(Value.slice l_0 l_0n l_0c), (Value.int .i64 size_1)]) (w := w) (rs := [.tmp 4, .tmp 5, .tmp 6]) (fn := Tryd.f17) (c := ref07_Check.body) Tryd.func17 (by kernel_rfl) (by kernel_rfl) (Nat.le_of_ble_eq_true (by kernel_rfl)) (ref07_Check.s67_ok Z Q) (h)).mono fun e w' hR => ?_
  cases e with
  | returned v =>
    obtain ⟨x, y, z, rfl, hR⟩ := at3_e hR
    obtain ⟨xa, xn, xc, rfl, hR⟩ := atL_e hR
    obtain ⟨ya, rfl, hR⟩ := atI_e hR
    obtain ⟨za, rfl, hR⟩ := atI_e hR
    exact .inl ⟨xa, xn, xc, ya, za, rfl, hR⟩
  | panicked c => exact .inr ⟨c, rfl, hR⟩
  | outgrown => exact hR.elim
theorem ref07_Check.vc0 (Q : OA → Nat → Nat → Int → Int → PT) (l_0 : OA) (l_0n l_0c : Nat) (size_1 : Int) (w : World) (h : ref07_Check.F Z0 Q l_0 l_0n l_0c size_1 w) : Calls Tryd.prog 17 ⟨[(Value.slice l_0 l_0n l_0c), (Value.int .i64 size_1)]⟩ w fun e w' => (∃ (r0 : OA) (r0n r0c : Nat) (r1 : Int) (r2 : Int), e = .returned (.tuple #[.slice r0 r0n r0c, .int .i64 r1, .int .i64 r2]) ∧ Q r0 r0n r0c r1 r2 w') :=
  (ref07_Check.vc Z0 Q l_0 l_0n l_0c size_1 w h).mono fun _ _ hR => hR.elim id fun ⟨_, _, hz⟩ => hz.elim
theorem ref07_Check.cal {Z : ZT} {Q : OA → Nat → Nat → Int → Int → PT} {l_0 : OA} {l_0n l_0c : Nat} {size_1 : Int} {w : World} (h : ref07_Check.F Z Q l_0 l_0n l_0c size_1 w) : Go.Proofs.YtllgjjldnnmjkaaDoor.cal Tryd.prog Z 17 [(Value.slice l_0 l_0n l_0c), (Value.int .i64 size_1)] (isT3 fun x y z => (isL fun r0 r0n r0c => (isI .i64 fun r1 => (isI .i64 fun r2 => Q r0 r0n r0c r1 r2) z) y) x) w := by
  refine (ref07_Check.vc Z Q l_0 l_0n l_0c size_1 w h).mono fun e w' hR => ?_
  rcases hR with ⟨r0, r0n, r0c, r1, r2, rfl, h⟩ | ⟨c, rfl, h⟩
  · show (isT3 fun x y z => (isL fun r0 r0n r0c => (isI .i64 fun r1 => (isI .i64 fun r2 => Q r0 r0n r0c r1 r2) z) y) x) (.tuple #[.slice r0 r0n r0c, .int .i64 r1, .int .i64 r2]) w'
    exact ⟨_, _, _, rfl, ⟨_, _, _, rfl, ⟨_, rfl, ⟨_, rfl, h⟩⟩⟩⟩
  · exact h

/-! ### milepost/milepostref07.Read: function 13 -/
noncomputable def ref07_Read.body : Code := bodyC Tryd.f13
def ref07_Read.F (Z : ZT) (Q : OA → Nat → Nat → Int → Int → PT) (s_0 : ByteArray) : PT :=
  (cal Tryd.prog Z 27 [(Value.string s_0)] (isT3 fun t13 t14 t15 => (isL fun v16 v16n v16c => ((isI .i64 fun v17 => ((isI .i64 fun v18 => (pif (v17 != 0) (Q none 0 0 v17 v18) (cal Tryd.prog Z 17 [(Value.slice v16 v16n v16c), (Value.int .i64 ((s_0.size : Nat) : Int))] (isT3 fun t19 t20 t21 => (isL fun v22 v22n v22c => ((isI .i64 fun v23 => ((isI .i64 fun v24 => (Q v22 v22n v22c v23 v24)) t21)) t20)) t19)))) t15)) t14)) t13))
def ref07_Read.q1 (Z : ZT) (Q : OA → Nat → Nat → Int → Int → PT) : QF := bodyQ Tryd.prog [.tmp 2, .tmp 3, .tmp 4] (fun v => at3 v fun x y z => atL x fun xa xn xc => atI .i64 y fun ya => atI .i64 z fun za => Q xa xn xc ya za)
theorem ref07_Read.eq (Z : ZT) (Q : OA → Nat → Nat → Int → Int → PT) (s_0 : ByteArray) : comp Tryd.prog Z ref07_Read.body (ref07_Read.q1 Z Q) (fr0 [(Value.string s_0)]) = ref07_Read.F Z Q s_0 := by kernel_rfl
theorem ref07_Read.vc (Z : ZT) (Q : OA → Nat → Nat → Int → Int → PT) (s_0 : ByteArray) (w : World) (h : ref07_Read.F Z Q s_0 w) : Calls Tryd.prog 13 ⟨[(Value.string s_0)]⟩ w fun e w' => (∃ (r0 : OA) (r0n r0c : Nat) (r1 : Int) (r2 : Int), e = .returned (.tuple #[.slice r0 r0n r0c, .int .i64 r1, .int .i64 r2]) ∧ Q r0 r0n r0c r1 r2 w') ∨ ∃ c, e = .panicked c ∧ Z c w' := by
  refine (calls_of_ok (args := [(Value.string s_0)]) (w := w) (rs := [.tmp 2, .tmp 3, .tmp 4]) (fn := Tryd.f13) (c := ref07_Read.body) Tryd.func13 (by kernel_rfl) (by kernel_rfl) (Nat.le_of_ble_eq_true (by kernel_rfl)) (okC ref07_Read.body (ref07_Read.q1 Z Q) (by kernel_rfl)) (by rw [ref07_Read.eq]; exact h)).mono fun e w' hR => ?_
  cases e with
  | returned v =>
    obtain ⟨x, y, z, rfl, hR⟩ := at3_e hR
    obtain ⟨xa, xn, xc, rfl, hR⟩ := atL_e hR
    obtain ⟨ya, rfl, hR⟩ := atI_e hR
    obtain ⟨za, rfl, hR⟩ := atI_e hR
    exact .inl ⟨xa, xn, xc, ya, za, rfl, hR⟩
  | panicked c => exact .inr ⟨c, rfl, hR⟩
  | outgrown => exact hR.elim
theorem ref07_Read.vc0 (Q : OA → Nat → Nat → Int → Int → PT) (s_0 : ByteArray) (w : World) (h : ref07_Read.F Z0 Q s_0 w) : Calls Tryd.prog 13 ⟨[(Value.string s_0)]⟩ w fun e w' => (∃ (r0 : OA) (r0n r0c : Nat) (r1 : Int) (r2 : Int), e = .returned (.tuple #[.slice r0 r0n r0c, .int .i64 r1, .int .i64 r2]) ∧ Q r0 r0n r0c r1 r2 w') :=
  (ref07_Read.vc Z0 Q s_0 w h).mono fun _ _ hR => hR.elim id fun ⟨_, _, hz⟩ => hz.elim
theorem ref07_Read.cal {Z : ZT} {Q : OA → Nat → Nat → Int → Int → PT} {s_0 : ByteArray} {w : World} (h : ref07_Read.F Z Q s_0 w) : Go.Proofs.YtllgjjldnnmjkaaDoor.cal Tryd.prog Z 13 [(Value.string s_0)] (isT3 fun x y z => (isL fun r0 r0n r0c => (isI .i64 fun r1 => (isI .i64 fun r2 => Q r0 r0n r0c r1 r2) z) y) x) w := by
  refine (ref07_Read.vc Z Q s_0 w h).mono fun e w' hR => ?_
  rcases hR with ⟨r0, r0n, r0c, r1, r2, rfl, h⟩ | ⟨c, rfl, h⟩
  · show (isT3 fun x y z => (isL fun r0 r0n r0c => (isI .i64 fun r1 => (isI .i64 fun r2 => Q r0 r0n r0c r1 r2) z) y) x) (.tuple #[.slice r0 r0n r0c, .int .i64 r1, .int .i64 r2]) w'
    exact ⟨_, _, _, rfl, ⟨_, _, _, rfl, ⟨_, rfl, ⟨_, rfl, h⟩⟩⟩⟩
  · exact h

/-! ### milepost/milepostref07.Same: function 14 -/
noncomputable def ref07_Same.body : Code := bodyC Tryd.f14
noncomputable def ref07_Same.c1 : Code := sq1 ref07_Same.body
noncomputable def ref07_Same.c2 : Code := sq1 (sq2 ref07_Same.body)
noncomputable def ref07_Same.c3 : Code := sq2 (sq2 ref07_Same.body)
theorem ref07_Same.q4 : ref07_Same.body = .seq ref07_Same.c1 (.seq ref07_Same.c2 ref07_Same.c3) := by kernel_rfl
noncomputable def ref07_Same.c5 : Code := sq1 ref07_Same.c3
noncomputable def ref07_Same.c6 : Code := sq2 ref07_Same.c3
theorem ref07_Same.q7 : ref07_Same.c3 = .seq ref07_Same.c5 ref07_Same.c6 := by kernel_rfl
def ref07_Same.s8 (Z : ZT) (Q : Bool → PT)  : PT :=
  (Q true)
def ref07_Same.q9 (Z : ZT) (Q : Bool → PT) : QF := bodyQ Tryd.prog [.tmp 4] (fun v => atB v fun va => Q va)
theorem ref07_Same.s8_eq (Z : ZT) (Q : Bool → PT) (ρ : Fr)  : comp Tryd.prog Z ref07_Same.c6 (ref07_Same.q9 Z Q) (puts ρ []) = ref07_Same.s8 Z Q  := by kernel_rfl
def ref07_Same.j10 (Z : ZT) (Q : Bool → PT) : Fr → PT := (fun ρ => (ref07_Same.s8 Z Q ))
theorem ref07_Same.s8_ok (Z : ZT) (Q : Bool → PT) : Ok Tryd.prog Tryd.f14.ntmps Z ref07_Same.c6 (ref07_Same.q9 Z Q) (ref07_Same.j10 Z Q) := by
  intro E he ρ w a hr h
  exact ok_at [] (okC ref07_Same.c6 (ref07_Same.q9 Z Q) (by kernel_rfl)) (fun p hp => puts_nil hp) (ref07_Same.s8_eq Z Q ρ ) he hr h
noncomputable def ref07_Same.c11 : Code := sq1 ref07_Same.c5
noncomputable def ref07_Same.c12 : Code := sq2 ref07_Same.c5
theorem ref07_Same.q13 : ref07_Same.c5 = .seq ref07_Same.c11 ref07_Same.c12 := by kernel_rfl
noncomputable def ref07_Same.c14 : Code := blk ref07_Same.c12
theorem ref07_Same.q15 : ref07_Same.c12 = .block 0 ref07_Same.c14 := by kernel_rfl
noncomputable def ref07_Same.c16 : Code := lop ref07_Same.c14
theorem ref07_Same.q17 : ref07_Same.c14 = .loop ref07_Same.c16 := by kernel_rfl
def ref07_Same.q19 (Z : ZT) (Q : Bool → PT) : QF := thenK (ref07_Same.j10 Z Q) (ref07_Same.q9 Z Q)
def ref07_Same.q20 (Z : ZT) (Q : Bool → PT) : QF := inBl 0 (ref07_Same.q19 Z Q)
def ref07_Same.s21 (Z : ZT) (Q : Bool → PT) (X1 : OA → Nat → Nat → OA → Nat → Nat → Int → PT) (a_0 : OA) (a_0n a_0c : Nat) (b_1 : OA) (b_1n b_1c : Nat) (i_5 : Int) : PT :=
  (pif (decide (i_5 < ((a_0n : Nat) : Int))) (drawn fun S13 => (ixS a_0 a_0n i_5 12 fun v14 => (hN S13 12 v14 fun v15 => (ixS b_1 b_1n i_5 12 fun v16 => (hN S13 12 v16 fun v17 => (runB Tryd.prog (do eqGuard .neq 35 (.tmp 20) (.tmp 24) (Value.agg ⟨v15⟩) (Value.agg ⟨v17⟩); binOp .neq 35 (Value.agg ⟨v15⟩) (Value.agg ⟨v17⟩)) fun v18 => (sAnd S13 (pif v18 (Q false) (X1 a_0 a_0n a_0c b_1 b_1n b_1c (IntKind.wrap .i64 (i_5 + 1))))))))))) (ref07_Same.s8 Z Q ))
def ref07_Same.j22 (Z : ZT) (Q : Bool → PT) (X1 : OA → Nat → Nat → OA → Nat → Nat → Int → PT) : Fr → PT := (fun ρ => atL (ρ 0) fun a_0 a_0n a_0c => atL (ρ 1) fun b_1 b_1n b_1c => atI .i64 (ρ 5) fun i_5 => (X1 a_0 a_0n a_0c b_1 b_1n b_1c i_5))
def ref07_Same.q23 (Z : ZT) (Q : Bool → PT) (X1 : OA → Nat → Nat → OA → Nat → Nat → Int → PT) : QF := thenK (ref07_Same.j22 Z Q X1) (ref07_Same.q20 Z Q)
theorem ref07_Same.s21_eq (Z : ZT) (Q : Bool → PT) (X1 : OA → Nat → Nat → OA → Nat → Nat → Int → PT) (ρ : Fr) (a_0 : OA) (a_0n a_0c : Nat) (b_1 : OA) (b_1n b_1c : Nat) (i_5 : Int) : comp Tryd.prog Z ref07_Same.c16 (ref07_Same.q23 Z Q X1) (puts ρ [(0, (Value.slice a_0 a_0n a_0c)), (1, (Value.slice b_1 b_1n b_1c)), (5, (Value.int .i64 i_5))]) = ref07_Same.s21 Z Q X1 a_0 a_0n a_0c b_1 b_1n b_1c i_5 := by kernel_rfl
def ref07_Same.j24 (Z : ZT) (Q : Bool → PT) (X1 : OA → Nat → Nat → OA → Nat → Nat → Int → PT) : Fr → PT := (fun ρ => atL (ρ 0) fun a_0 a_0n a_0c => atL (ρ 1) fun b_1 b_1n b_1c => atI .i64 (ρ 5) fun i_5 => (ref07_Same.s21 Z Q X1 a_0 a_0n a_0c b_1 b_1n b_1c i_5))
theorem ref07_Same.s21_ok (Z : ZT) (Q : Bool → PT) (X1 : OA → Nat → Nat → OA → Nat → Nat → Int → PT) : Ok Tryd.prog Tryd.f14.ntmps Z ref07_Same.c16 (ref07_Same.q23 Z Q X1) (ref07_Same.j24 Z Q X1) := by
  intro E he ρ w a hr h
  obtain ⟨a_0, a_0n, a_0c, e0, h⟩ := atL_e h
  obtain ⟨b_1, b_1n, b_1c, e1, h⟩ := atL_e h
  obtain ⟨i_5, e5, h⟩ := atI_e h
  exact ok_at [(0, (Value.slice a_0 a_0n a_0c)), (1, (Value.slice b_1 b_1n b_1c)), (5, (Value.int .i64 i_5))] (okC ref07_Same.c16 (ref07_Same.q23 Z Q X1) (by kernel_rfl)) (puts_cons e0 (puts_cons e1 (puts_cons e5 (fun p hp => puts_nil hp)))) (ref07_Same.s21_eq Z Q X1 ρ a_0 a_0n a_0c b_1 b_1n b_1c i_5) he hr h
def ref07_Same.l18 (Z : ZT) (Q : Bool → PT) : Nat → OA → Nat → Nat → OA → Nat → Nat → Int → PT
  | 0, _, _, _, _, _, _, _ => bad
  | k + 1, a_0, a_0n, a_0c, b_1, b_1n, b_1c, i_5 => (ref07_Same.s21 Z Q (ref07_Same.l18 Z Q k) a_0 a_0n a_0c b_1 b_1n b_1c i_5)
def ref07_Same.j25 (Z : ZT) (Q : Bool → PT) (k : Nat) : Fr → PT := (fun ρ => atL (ρ 0) fun a_0 a_0n a_0c => atL (ρ 1) fun b_1 b_1n b_1c => atI .i64 (ρ 5) fun i_5 => (ref07_Same.l18 Z Q k a_0 a_0n a_0c b_1 b_1n b_1c i_5))
def ref07_Same.j26 (Z : ZT) (Q : Bool → PT) : Fr → PT := (fun ρ => atL (ρ 0) fun a_0 a_0n a_0c => atL (ρ 1) fun b_1 b_1n b_1c => atI .i64 (ρ 5) fun i_5 => (exK fun k => ref07_Same.l18 Z Q k a_0 a_0n a_0c b_1 b_1n b_1c i_5))
theorem ref07_Same.o27 (Z : ZT) (Q : Bool → PT) : Ok Tryd.prog Tryd.f14.ntmps Z ref07_Same.c14 (ref07_Same.q20 Z Q) (ref07_Same.j26 Z Q) := by
  rw [ref07_Same.q17]
  refine Ok.imp (ok_loop (J := ref07_Same.j25 Z Q) ?_ ?_) ?_
  · intro ρ w h
    obtain ⟨a_0, a_0n, a_0c, e0, h⟩ := atL_e h
    obtain ⟨b_1, b_1n, b_1c, e1, h⟩ := atL_e h
    obtain ⟨i_5, e5, h⟩ := atI_e h
    exact h
  · intro k
    refine Ok.imp (ref07_Same.s21_ok Z Q (ref07_Same.l18 Z Q k)) fun ρ w h => ?_
    obtain ⟨a_0, a_0n, a_0c, e0, h⟩ := atL_e h
    obtain ⟨b_1, b_1n, b_1c, e1, h⟩ := atL_e h
    obtain ⟨i_5, e5, h⟩ := atI_e h
    show (ref07_Same.j24 Z Q (ref07_Same.l18 Z Q k)) ρ w
    simp only [ref07_Same.j24]
    rw [e0]
    rw [e1]
    rw [e5]
    exact h
  · intro ρ w h
    obtain ⟨a_0, a_0n, a_0c, e0, h⟩ := atL_e h
    obtain ⟨b_1, b_1n, b_1c, e1, h⟩ := atL_e h
    obtain ⟨i_5, e5, h⟩ := atI_e h
    obtain ⟨k, h⟩ := h
    refine ⟨k, ?_⟩
    show (atL (ρ 0) fun a_0 a_0n a_0c => atL (ρ 1) fun b_1 b_1n b_1c => atI .i64 (ρ 5) fun i_5 => (ref07_Same.l18 Z Q k a_0 a_0n a_0c b_1 b_1n b_1c i_5)) w
    rw [e0]
    rw [e1]
    rw [e5]
    exact h
theorem ref07_Same.o28 (Z : ZT) (Q : Bool → PT) : Ok Tryd.prog Tryd.f14.ntmps Z ref07_Same.c12 (ref07_Same.q19 Z Q) (ref07_Same.j26 Z Q) := by
  rw [ref07_Same.q15]; exact ok_block (ref07_Same.o27 Z Q)
def ref07_Same.s29 (Z : ZT) (Q : Bool → PT) (a_0 : OA) (a_0n a_0c : Nat) (b_1 : OA) (b_1n b_1c : Nat) : PT :=
  (exK fun k => ref07_Same.l18 Z Q k a_0 a_0n a_0c b_1 b_1n b_1c 0)
theorem ref07_Same.s29_eq (Z : ZT) (Q : Bool → PT) (ρ : Fr) (a_0 : OA) (a_0n a_0c : Nat) (b_1 : OA) (b_1n b_1c : Nat) : (comp Tryd.prog Z ref07_Same.c11 (thenK (ref07_Same.j26 Z Q) (ref07_Same.q19 Z Q))) (puts ρ [(0, (Value.slice a_0 a_0n a_0c)), (1, (Value.slice b_1 b_1n b_1c))]) = ref07_Same.s29 Z Q a_0 a_0n a_0c b_1 b_1n b_1c := by kernel_rfl
def ref07_Same.j30 (Z : ZT) (Q : Bool → PT) : Fr → PT := (fun ρ => atL (ρ 0) fun a_0 a_0n a_0c => atL (ρ 1) fun b_1 b_1n b_1c => (ref07_Same.s29 Z Q a_0 a_0n a_0c b_1 b_1n b_1c))
theorem ref07_Same.s29_ok (Z : ZT) (Q : Bool → PT) : Ok Tryd.prog Tryd.f14.ntmps Z ref07_Same.c5 (ref07_Same.q19 Z Q) (ref07_Same.j30 Z Q) := by
  intro E he ρ w a hr h
  rw [ref07_Same.q13] at he ⊢
  obtain ⟨a_0, a_0n, a_0c, e0, h⟩ := atL_e h
  obtain ⟨b_1, b_1n, b_1c, e1, h⟩ := atL_e h
  exact ok_at [(0, (Value.slice a_0 a_0n a_0c)), (1, (Value.slice b_1 b_1n b_1c))] (ok_seq (okC ref07_Same.c11 _ (by kernel_rfl)) (ref07_Same.o28 Z Q)) (puts_cons e0 (puts_cons e1 (fun p hp => puts_nil hp))) (ref07_Same.s29_eq Z Q ρ a_0 a_0n a_0c b_1 b_1n b_1c) he hr h
theorem ref07_Same.o31 (Z : ZT) (Q : Bool → PT) : Ok Tryd.prog Tryd.f14.ntmps Z ref07_Same.c3 (ref07_Same.q9 Z Q) (ref07_Same.j30 Z Q) := by
  rw [ref07_Same.q7]; exact ok_seq (ref07_Same.s29_ok Z Q) (ref07_Same.s8_ok Z Q)
def ref07_Same.s32 (Z : ZT) (Q : Bool → PT) (a_0 : OA) (a_0n a_0c : Nat) (b_1 : OA) (b_1n b_1c : Nat) : PT :=
  (pif (((a_0n : Nat) : Int) != ((b_1n : Nat) : Int)) (Q false) (ref07_Same.s29 Z Q a_0 a_0n a_0c b_1 b_1n b_1c))
theorem ref07_Same.s32_eq (Z : ZT) (Q : Bool → PT) (ρ : Fr) (a_0 : OA) (a_0n a_0c : Nat) (b_1 : OA) (b_1n b_1c : Nat) : (comp Tryd.prog Z ref07_Same.c1 (thenK (comp Tryd.prog Z ref07_Same.c2 (thenK (ref07_Same.j30 Z Q) (ref07_Same.q9 Z Q))) (ref07_Same.q9 Z Q))) (puts ρ [(0, (Value.slice a_0 a_0n a_0c)), (1, (Value.slice b_1 b_1n b_1c))]) = ref07_Same.s32 Z Q a_0 a_0n a_0c b_1 b_1n b_1c := by kernel_rfl
def ref07_Same.j33 (Z : ZT) (Q : Bool → PT) : Fr → PT := (fun ρ => atL (ρ 0) fun a_0 a_0n a_0c => atL (ρ 1) fun b_1 b_1n b_1c => (ref07_Same.s32 Z Q a_0 a_0n a_0c b_1 b_1n b_1c))
theorem ref07_Same.s32_ok (Z : ZT) (Q : Bool → PT) : Ok Tryd.prog Tryd.f14.ntmps Z ref07_Same.body (ref07_Same.q9 Z Q) (ref07_Same.j33 Z Q) := by
  intro E he ρ w a hr h
  rw [ref07_Same.q4] at he ⊢
  obtain ⟨a_0, a_0n, a_0c, e0, h⟩ := atL_e h
  obtain ⟨b_1, b_1n, b_1c, e1, h⟩ := atL_e h
  exact ok_at [(0, (Value.slice a_0 a_0n a_0c)), (1, (Value.slice b_1 b_1n b_1c))] (ok_seq (okC ref07_Same.c1 _ (by kernel_rfl)) (ok_seq (okC ref07_Same.c2 _ (by kernel_rfl)) (ref07_Same.o31 Z Q))) (puts_cons e0 (puts_cons e1 (fun p hp => puts_nil hp))) (ref07_Same.s32_eq Z Q ρ a_0 a_0n a_0c b_1 b_1n b_1c) he hr h
def ref07_Same.F (Z : ZT) (Q : Bool → PT) (a_0 : OA) (a_0n a_0c : Nat) (b_1 : OA) (b_1n b_1c : Nat) : PT :=
  (ref07_Same.s32 Z Q a_0 a_0n a_0c b_1 b_1n b_1c)
theorem ref07_Same.vc (Z : ZT) (Q : Bool → PT) (a_0 : OA) (a_0n a_0c : Nat) (b_1 : OA) (b_1n b_1c : Nat) (w : World) (h : ref07_Same.F Z Q a_0 a_0n a_0c b_1 b_1n b_1c w) : Calls Tryd.prog 14 ⟨[(Value.slice a_0 a_0n a_0c), (Value.slice b_1 b_1n b_1c)]⟩ w fun e w' => (∃ (r0 : Bool), e = .returned (.bool r0) ∧ Q r0 w') ∨ ∃ c, e = .panicked c ∧ Z c w' := by
  refine (calls_of_ok (args := [(Value.slice a_0 a_0n a_0c), (Value.slice b_1 b_1n b_1c)]) (w := w) (rs := [.tmp 4]) (fn := Tryd.f14) (c := ref07_Same.body) Tryd.func14 (by kernel_rfl) (by kernel_rfl) (Nat.le_of_ble_eq_true (by kernel_rfl)) (ref07_Same.s32_ok Z Q) (h)).mono fun e w' hR => ?_
  cases e with
  | returned v =>
    obtain ⟨va, rfl, hR⟩ := atB_e hR
    exact .inl ⟨va, rfl, hR⟩
  | panicked c => exact .inr ⟨c, rfl, hR⟩
  | outgrown => exact hR.elim
theorem ref07_Same.vc0 (Q : Bool → PT) (a_0 : OA) (a_0n a_0c : Nat) (b_1 : OA) (b_1n b_1c : Nat) (w : World) (h : ref07_Same.F Z0 Q a_0 a_0n a_0c b_1 b_1n b_1c w) : Calls Tryd.prog 14 ⟨[(Value.slice a_0 a_0n a_0c), (Value.slice b_1 b_1n b_1c)]⟩ w fun e w' => (∃ (r0 : Bool), e = .returned (.bool r0) ∧ Q r0 w') :=
  (ref07_Same.vc Z0 Q a_0 a_0n a_0c b_1 b_1n b_1c w h).mono fun _ _ hR => hR.elim id fun ⟨_, _, hz⟩ => hz.elim
theorem ref07_Same.cal {Z : ZT} {Q : Bool → PT} {a_0 : OA} {a_0n a_0c : Nat} {b_1 : OA} {b_1n b_1c : Nat} {w : World} (h : ref07_Same.F Z Q a_0 a_0n a_0c b_1 b_1n b_1c w) : Go.Proofs.YtllgjjldnnmjkaaDoor.cal Tryd.prog Z 14 [(Value.slice a_0 a_0n a_0c), (Value.slice b_1 b_1n b_1c)] (isB fun r0 => Q r0) w := by
  refine (ref07_Same.vc Z Q a_0 a_0n a_0c b_1 b_1n b_1c w h).mono fun e w' hR => ?_
  rcases hR with ⟨r0, rfl, h⟩ | ⟨c, rfl, h⟩
  · show (isB fun r0 => Q r0) (.bool r0) w'
    exact ⟨_, rfl, h⟩
  · exact h

end Go.Proofs.YtllgjjldnnmjkaaDoor
end
section
set_option maxRecDepth 100000
namespace Go.Proofs.YtllgjjldnnmjkaaDoor
open Go.RowKit
theorem ixS_held {α : Type} {w : World} {sz : Nat} {f : α → List Value} {a : Option Addr} {n c : Nat} {l : List α} {S : PT} {i : Nat} {x : α} {K : Addr → PT} (hr : Ro w sz f a n c l) (hS : ∀ w', S w' → Ro w' sz f a n c l) (hx : l[i]? = some x)
    (hk : ∀ ad, (∀ w', S w' → cellsAt w' ad (f x)) → K ad w) : ixS a n i sz K w := by
  obtain ⟨ad, h1, h2⟩ := hr.2.2.2 i x hx
  have hi := (List.getElem?_eq_some_iff.1 hx).1
  have hn := hr.1
  refine ixS_of h1 (by omega) (by omega) (hk _ fun w' hw' => ?_)
  obtain ⟨ad', g1, g2⟩ := (hS w' hw').2.2.2 i x hx
  rw [h1] at g1
  cases g1
  exact g2
def cl0 : Cl := ⟨noText, 0, [], false, false⟩
section
variable {Z : List PanicEntry → PT} {W w : World} {r : Rw} {s : Sl3}
theorem find_cal {K : List Value → Bool → PT} {wd : ByteArray} (hW : Ext W w) (hc : ClsO W s r.clauses) (h1 : ∀ c sc w', findW r.clauses wd = some c → NumsO W sc c.nums → Ext w w' → K (clEnc (c, sc)) true w') (h2 : findW r.clauses wd = none → ∀ w', Ext w w' → K (clEnc (cl0, ⟨none, 0, 0⟩)) false w') :
    cal Tryd.prog Z 54 [.agg ⟨rwEnc (r, s)⟩, .string wd] (isT2 fun x y => (isN fun r0 => (isB fun r1 => K r0 r1) y) x) w := by
  refine ref07_Find.cal ?_
  unfold ref07_Find.F ref07_Find.s31
  refine (Sep.start (fun _ => False) w).new fun w1 rb g1 k1 => ?_
  refine g1.new fun w2 tb g2 k2 => ?_
  unfold ref07_Find.s28
  obtain ⟨ps, p1, p2, p3⟩ := hc
  have hmax := p2.max
  have hn := p2.1
  have loop : ∀ (m j : Nat) (w' : World), ps.length = j + m → findW ((ps.drop j).map Prod.fst) wd = findW r.clauses wd → Sep (fun _ => False) w w' [fB tb (clEnc (cl0, ⟨none, 0, 0⟩)), fB rb (rwEnc (r, s))] →
      ref07_Find.l17 Z K (m + 1) wd ⟨rb, 0, none⟩ ⟨tb, 0, none⟩ j w' := by
    intro m
    induction m with
    | zero =>
      intro j w' hm he g
      unfold ref07_Find.l17 ref07_Find.s20
      simp only [add_mk, Nat.zero_add]
      refine g.ldL 1 (x := s.a) (y := s.n) (z := s.c) rfl rfl ?_
      rw [pif_dec, if_neg (by omega)]
      unfold ref07_Find.s7
      refine g.stN 0 rfl (by simp [clEnc]) rfl (clEnc_one (cl0, ⟨none, 0, 0⟩)) (lay_full rfl rfl) fun w3 g3 k3 => ?_
      refine g3.ldN 0 (vs := clEnc (cl0, ⟨none, 0, 0⟩)) rfl rfl rfl ?_
      rw [List.drop_eq_nil_of_le (by omega)] at he
      exact h2 he.symm w3 g3.kept
    | succ m ih =>
      intro j w' hm he g
      have hx := List.getElem?_eq_getElem (show j < ps.length by omega)
      have hmem := List.getElem_mem (show j < ps.length by omega)
      have hd := List.drop_eq_getElem_cons (show j < ps.length by omega)
      have hnums := p3 _ hmem
      generalize ps[j] = q at hx hd hnums
      obtain ⟨c, sc⟩ := q
      unfold ref07_Find.l17 ref07_Find.s20
      simp only [add_mk, Nat.zero_add]
      refine g.ldL 1 (x := s.a) (y := s.n) (z := s.c) rfl rfl ?_
      rw [pif_dec, if_pos (by omega)]
      refine g.ldL 1 (x := s.a) (y := s.n) (z := s.c) rfl rfl ?_
      refine ixS_Ro (p2.ext (hW.trans g.kept)) hx fun ad hcell => ?_
      refine ldS_of (hcell 0 (.string c.word) rfl) ?_
      change pif (same c.word wd) _ _ w'
      rw [hd, List.map_cons] at he
      unfold findW at he
      rw [List.find?_cons] at he
      cases e : same c.word wd with
      | true =>
        rw [pif_true]
        rw [e] at he
        refine g.ldL 1 (x := s.a) (y := s.n) (z := s.c) rfl rfl ?_
        refine ixS_Ro (p2.ext (hW.trans g.kept)) hx fun ad hcell => ?_
        refine ldN_at hcell rfl ?_
        refine g.stN 0 rfl (by simp [clEnc]) rfl (clEnc_one _) (lay_full rfl rfl) fun w3 g3 k3 => ?_
        refine g3.ldN 0 (vs := clEnc (c, sc)) rfl rfl rfl ?_
        exact h1 c sc w3 he.symm hnums g3.kept
      | false =>
        rw [pif_false]
        rw [e] at he
        rw [wrap_nat1 (by omega)]
        exact ih (j + 1) w' (by omega) he g
  exact exK_of (ps.length + 1) (loop ps.length 0 w2 (by omega) (by rw [p1]; rfl) g2)
theorem must_cal {K : Int → PT} {c : Cl} {sc : Sl3} (hk : ∀ w', Ext w w' → K (snMany c) w') : cal Tryd.prog Z 50 [.agg ⟨clEnc (c, sc)⟩] (isI .i64 fun v => K v) w := by
  refine ref07_Must.cal ?_
  unfold ref07_Must.F ref07_Must.s9
  refine (Sep.start (fun _ => False) w).new fun w1 b1 h1 k1 => ?_
  simp only [add_mk, Nat.zero_add]
  have hk := hk w1 h1.kept
  unfold snMany at hk
  have s6 : (same c.word wSrc = false ∧ same c.word wDst = false) → ((same c.word wSport = true ∨ same c.word wDport = true) → c.dash = false) → ref07_Must.s6 Z K ⟨b1, 0, none⟩ w1 := fun e1 e2 => by
    rw [if_neg (show ¬ (same c.word wSrc = true ∨ same c.word wDst = true) by simp [e1])] at hk
    unfold ref07_Must.s6
    simp only [add_mk, Nat.zero_add]
    refine h1.ldS 0 (x := c.word) rfl rfl ?_
    change pif (same c.word wSport) _ _ w1
    cases e3 : same c.word wSport with
    | true =>
      rw [if_pos (.inl e3), if_neg (by simp [e2 (.inl e3)])] at hk
      exact hk
    | false =>
      rw [pif_false]
      refine h1.ldS 0 (x := c.word) rfl rfl ?_
      change pif (same c.word wDport) _ _ w1
      cases e4 : same c.word wDport with
      | true =>
        rw [if_pos (.inr e4), if_neg (by simp [e2 (.inr e4)])] at hk
        exact hk
      | false =>
        rw [pif_false]
        rw [if_neg (by simp [e3, e4])] at hk
        refine h1.ldS 0 (x := c.word) rfl rfl ?_
        change pif (same c.word wProto) _ _ w1
        cases e5 : same c.word wProto with
        | true => rw [if_pos e5] at hk; exact hk
        | false => rw [if_neg (by simp [e5])] at hk; exact hk
  have slash : (same c.word wSrc = true ∨ same c.word wDst = true) → ldB ⟨b1, 3, none⟩ (fun v => pif v (K 5) (K 4)) w1 := fun e => by
    rw [if_pos e] at hk
    refine h1.ldB 0 (x := c.slash) rfl rfl ?_
    rw [pif_bool]
    split
    · rename_i h; rw [if_pos h] at hk; exact hk
    · rename_i h; rw [if_neg h] at hk; exact hk
  have dash : (same c.word wSrc = false ∧ same c.word wDst = false) → (same c.word wSport = true ∨ same c.word wDport = true) → ldB ⟨b1, 4, none⟩ (fun v => pif v (K 2) (ref07_Must.s6 Z K ⟨b1, 0, none⟩)) w1 := fun e1 e2 => by
    refine h1.ldB 0 (x := c.dash) rfl rfl ?_
    cases hd : c.dash with
    | true =>
      rw [if_neg (show ¬ (same c.word wSrc = true ∨ same c.word wDst = true) by simp [e1]), if_pos e2, if_pos hd] at hk
      exact hk
    | false => exact s6 e1 fun _ => hd
  refine h1.ldS 0 (x := c.word) rfl rfl ?_
  change pif (same c.word wSrc) _ _ w1
  cases e1 : same c.word wSrc with
  | true => exact slash (.inl e1)
  | false =>
  rw [pif_false]
  refine h1.ldS 0 (x := c.word) rfl rfl ?_
  change pif (same c.word wDst) _ _ w1
  cases e2 : same c.word wDst with
  | true => exact slash (.inr e2)
  | false =>
  rw [pif_false]
  refine h1.ldS 0 (x := c.word) rfl rfl ?_
  change pif (same c.word wSport) _ _ w1
  cases e3 : same c.word wSport with
  | true => exact dash ⟨e1, e2⟩ (.inl e3)
  | false =>
  rw [pif_false]
  refine h1.ldS 0 (x := c.word) rfl rfl ?_
  change pif (same c.word wDport) _ _ w1
  cases e4 : same c.word wDport with
  | true => exact dash ⟨e1, e2⟩ (.inr e4)
  | false => exact s6 ⟨e1, e2⟩ fun h => by simp [e3, e4] at h
theorem most_cal {K : Int → PT} {wd : ByteArray} {k : Nat} (hk : K (mostS wd k) w) : cal Tryd.prog Z 51 [.string wd, .int .i64 (k : Int)] (isI .i64 fun v => K v) w := by
  refine ref07_Most.cal ?_
  unfold ref07_Most.F
  unfold mostS portW at hk
  change pif (same wd wSport) _ (pif (same wd wDport) _ (pif (!(same wd wProto)) _ _)) w
  cases e1 : same wd wSport with
  | true => rw [if_pos (by simp [e1])] at hk; exact hk
  | false =>
  cases e2 : same wd wDport with
  | true => rw [if_pos (by simp [e2])] at hk; exact hk
  | false =>
  rw [if_neg (by simp [e1, e2])] at hk
  rw [pif_false, pif_false]
  cases e3 : same wd wProto with
  | true => rw [if_neg (by simp [e3])] at hk; exact hk
  | false =>
    rw [pif_not, pif_false, pif_beq]
    split
    · rename_i e4; rw [if_pos ⟨e3, by omega⟩] at hk; exact hk
    · rename_i e4; rw [if_neg (fun g => e4 (by have := g.2; omega))] at hk; exact hk
end
end Go.Proofs.YtllgjjldnnmjkaaDoor
end
section
set_option maxRecDepth 100000
namespace Go.Proofs.YtllgjjldnnmjkaaDoor
open Go.RowKit
section
variable {Z : List PanicEntry → PT} {Q : Int → Int → PT} {W w : World} {r : Rw} {s : Sl3} {rb cb : Nat} {c : Cl} {sc : Sl3} {R : Ft}
theorem num_loop {X1 : Addr → Int → PT} {i4 : Int} (hr : NumsO W sc c.nums) (hfit : Fit c) (hq : ∀ w', Ext W w' → Q R.e R.p w') :
    ∀ (m j : Nat) (w : World), c.nums.length = j + m → Sep (fun _ => False) W w [fB cb (clEnc (c, sc)), fB rb (rwEnc (r, s))] →
    ((numF c (c.nums.drop j) j).e ≠ 0 → numF c (c.nums.drop j) j = R) → ((numF c (c.nums.drop j) j).e = 0 → ∀ w', Sep (fun _ => False) W w' [fB cb (clEnc (c, sc)), fB rb (rwEnc (r, s))] → ref07_Fault.s27 Z Q X1 ⟨rb, 0, none⟩ i4 w') →
    ref07_Fault.l47 Z Q X1 (m + 1) ⟨rb, 0, none⟩ i4 ⟨cb, 0, none⟩ j w := by
  have hmax := hr.max
  have hn := hr.1
  intro m
  induction m with
  | zero =>
    intro j w hm g hT hF
    unfold ref07_Fault.l47 ref07_Fault.s74
    simp only [add_mk, Nat.zero_add]
    refine g.ldL 0 (x := sc.a) (y := sc.n) (z := sc.c) rfl rfl ?_
    rw [pif_dec, if_neg (by omega)]
    rw [List.drop_eq_nil_of_le (by omega)] at hF
    exact hF rfl w g
  | succ m ih =>
    intro j w hm g hT hF
    have hj : j < c.nums.length := by omega
    have hx := nth_at hj
    have hd : c.nums.drop j = nthF c.nums j :: c.nums.drop (j + 1) := by
      rw [List.drop_eq_getElem_cons hj]
      congr 1
      unfold nthF
      rw [List.getElem?_eq_getElem hj]; rfl
    unfold ref07_Fault.l47 ref07_Fault.s74
    simp only [add_mk, Nat.zero_add]
    refine g.ldL 0 (x := sc.a) (y := sc.n) (z := sc.c) rfl rfl ?_
    rw [pif_dec, if_pos (by omega)]
    rw [hd] at hT hF
    have hbad : badN c j (nthF c.nums j) = (decide ((nthF c.nums j).n < 0) || decide ((nthF c.nums j).n > mostS c.word j) || (c.dash && portW c.word && (j == 1) && decide ((nthF c.nums 1).n < (nthF c.nums 0).n))) := rfl
    generalize hxe : nthF c.nums j = x at hx hT hF hbad
    unfold numF at hT hF
    have fin : ∀ (b : Bool) (w : World), b = badN c j x → Sep (fun _ => False) W w [fB cb (clEnc (c, sc)), fB rb (rwEnc (r, s))] → ref07_Fault.s66 Z Q X1 (ref07_Fault.l47 Z Q X1 (m + 1)) ⟨rb, 0, none⟩ i4 ⟨cb, 0, none⟩ j b w := fun b w hb g => by
      unfold ref07_Fault.s66
      rw [← hb] at hT hF
      cases b with
      | true =>
        rw [pif_true]
        simp only [if_true] at hT
        have hR := hT (by simp)
        subst hR
        have g := g.drew
        show ldL _ _ w.drew
        simp only [add_mk, Nat.zero_add]
        refine g.ldL 0 (x := sc.a) (y := sc.n) (z := sc.c) rfl rfl ?_
        refine ixS_Ro (hr.ext g.kept) hx fun ad hcell => ?_
        exact ldI_at hcell (n := x.pos) rfl (hq _ g.kept)
      | false =>
        rw [pif_false]
        simp only [Bool.false_eq_true, if_false] at hT hF
        unfold ref07_Fault.s57
        rw [wrap_nat1 (by omega)]
        exact ih (j + 1) w (by omega) g hT hF
    unfold ref07_Fault.s70
    simp only [add_mk, Nat.zero_add]
    have all : ∀ {w'}, Sep (fun _ => False) W w' [fB cb (clEnc (c, sc)), fB rb (rwEnc (r, s))] → IsB w' cb (clEnc (c, sc)) ∧ NumsO w' sc c.nums := fun g => ⟨g.at (n := 0) rfl, Ro.ext hr g.kept⟩
    have B := fun (w' : World) (h : IsB w' cb (clEnc (c, sc)) ∧ NumsO w' sc c.nums) => h.2
    refine g.drawn (fun w' => IsB w' cb (clEnc (c, sc)) ∧ NumsO w' sc c.nums) (all g.drew) fun g => ?_
    refine hL_of (b := sc.a) (n := sc.n) (c := sc.c) (fun w' hw' => hw'.1.cell 2) ?_
    refine ixS_held (Ro.ext hr g.kept) B hx fun ad hcell => ?_
    refine hI_of (n := x.n) (fun w' hw' => hcell w' hw' 0 _ rfl) ?_
    rw [pif_dec]
    split
    · rename_i e1
      exact fin true _ (by rw [hbad, decide_eq_true e1]; rfl) g
    rename_i e1
    refine hL_of (b := sc.a) (n := sc.n) (c := sc.c) (fun w' hw' => hw'.1.cell 2) ?_
    refine ixS_held (Ro.ext hr g.kept) B hx fun ad hcell => ?_
    refine hI_of (n := x.n) (fun w' hw' => hcell w' hw' 0 _ rfl) ?_
    refine hS_of (n := c.word) (fun w' hw' => hw'.1.cell 0) ?_
    refine most_cal (sAnd_of (all g) ?_)
    rw [pif_dec]
    split
    · rename_i e2
      exact fin true _ (by rw [hbad, decide_eq_true e2, Bool.or_true]; rfl) g
    rename_i e2
    have hbad2 : badN c j x = (c.dash && portW c.word && (j == 1) && decide ((nthF c.nums 1).n < (nthF c.nums 0).n)) := by rw [hbad, decide_eq_false e1, decide_eq_false e2]; rfl
    refine hB_of (n := c.dash) (fun w' hw' => hw'.1.cell 4) ?_
    cases hdash : c.dash with
    | false =>
      rw [pif_false]
      exact fin false _ (by rw [hbad2, hdash]; rfl) g
    | true =>
    rw [pif_true]
    -- the second number against the first one
    have two : portW c.word = true → ∀ (hk : (j : Int) = 1), hL (fun w' => IsB w' cb (clEnc (c, sc)) ∧ NumsO w' sc c.nums) ⟨cb, 2, none⟩ (fun a n _ => ixS a n 1 2 fun p => hI (fun w' => IsB w' cb (clEnc (c, sc)) ∧ NumsO w' sc c.nums) .i64 (p.add 0) fun u => hL (fun w' => IsB w' cb (clEnc (c, sc)) ∧ NumsO w' sc c.nums) ⟨cb, 2, none⟩ fun a n _ => ixS a n 0 2 fun p => hI (fun w' => IsB w' cb (clEnc (c, sc)) ∧ NumsO w' sc c.nums) .i64 (p.add 0) fun v => ref07_Fault.s66 Z Q X1 (ref07_Fault.l47 Z Q X1 (m + 1)) ⟨rb, 0, none⟩ i4 ⟨cb, 0, none⟩ j (decide (u < v))) w.drew := fun hp hk => by
      have hj1 : j = 1 := by omega
      refine hL_of (b := sc.a) (n := sc.n) (c := sc.c) (fun w' hw' => hw'.1.cell 2) ?_
      refine ixS_held (i := 1) (Ro.ext hr g.kept) B (nth_at (show 1 < c.nums.length by omega)) fun ad hcell => ?_
      refine hI_of (n := (nthF c.nums 1).n) (fun w' hw' => hcell w' hw' 0 _ rfl) ?_
      refine hL_of (b := sc.a) (n := sc.n) (c := sc.c) (fun w' hw' => hw'.1.cell 2) ?_
      refine ixS_held (i := 0) (Ro.ext hr g.kept) B (nth_at (show 0 < c.nums.length by omega)) fun ad hcell => ?_
      refine hI_of (n := (nthF c.nums 0).n) (fun w' hw' => hcell w' hw' 0 _ rfl) ?_
      exact fin _ _ (by rw [hbad2, hdash, hp, hj1]; simp) g
    have one : portW c.word = true → ∀ (hk : ¬ (j : Int) = 1), ref07_Fault.s66 Z Q X1 (ref07_Fault.l47 Z Q X1 (m + 1)) ⟨rb, 0, none⟩ i4 ⟨cb, 0, none⟩ j false w.drew := fun hp hk => by
      have hj1 : (j == 1) = false := by rw [beq_eq_false_iff_ne]; omega
      exact fin _ _ (by rw [hbad2, hj1]; simp) g
    refine hS_of (n := c.word) (fun w' hw' => hw'.1.cell 0) ?_
    change pif (same c.word wSport) _ _ w.drew
    cases e3 : same c.word wSport with
    | true =>
      have hp : portW c.word = true := by unfold portW; rw [e3]; rfl
      rw [pif_true, pif_beq]
      split
      · rename_i e4; exact two hp e4
      · rename_i e4; exact one hp e4
    | false =>
    rw [pif_false]
    refine hS_of (n := c.word) (fun w' hw' => hw'.1.cell 0) ?_
    change pif (same c.word wDport) _ _ w.drew
    cases e4 : same c.word wDport with
    | true =>
      have hp : portW c.word = true := by unfold portW; rw [e4, Bool.or_true]
      rw [pif_true, pif_beq]
      split
      · rename_i e4; exact two hp e4
      · rename_i e4; exact one hp e4
    | false =>
      have hp : portW c.word = false := by unfold portW; rw [e3, e4]; rfl
      rw [pif_false]
      exact fin false _ (by rw [hbad2, hp]; simp) g
theorem twice_loop {X1 : Addr → Int → PT} {ps : List (Cl × Sl3)} {i : Nat} (hr : Ro W 5 clEnc s.a s.n s.c ps) (hi : i ≤ ps.length) (hq : ∀ w', Ext W w' → Q R.e R.p w') :
    ∀ (m k : Nat) (w : World), i = k + m → Sep (fun _ => False) W w [fB cb (clEnc (c, sc)), fB rb (rwEnc (r, s))] →
    (((ps.take i).drop k).any (fun d => same d.1.word c.word) = true → (⟨9, c.pos⟩ : Ft) = R) →
    (((ps.take i).drop k).any (fun d => same d.1.word c.word) = false → ∀ w', Sep (fun _ => False) W w' [fB cb (clEnc (c, sc)), fB rb (rwEnc (r, s))] → ref07_Fault.s80 Z Q X1 ⟨rb, 0, none⟩ i ⟨cb, 0, none⟩ w') →
    ref07_Fault.l89 Z Q X1 (m + 1) ⟨rb, 0, none⟩ i ⟨cb, 0, none⟩ k w := by
  have hmax := hr.max
  have hn := hr.1
  have hlen : (ps.take i).length = i := by rw [List.length_take]; omega
  intro m
  induction m with
  | zero =>
    intro k w hm g hT hF
    unfold ref07_Fault.l89 ref07_Fault.s92
    rw [pif_dec, if_neg (by omega)]
    refine hF ?_ w g
    rw [List.drop_eq_nil_of_le (by omega)]
    rfl
  | succ m ih =>
    intro k w hm g hT hF
    have hx := List.getElem?_eq_getElem (show k < ps.length by omega)
    have hd : (ps.take i).drop k = ps[k] :: (ps.take i).drop (k + 1) := by
      rw [List.drop_eq_getElem_cons (show k < (ps.take i).length by omega)]
      congr 1
      exact List.getElem_take
    unfold ref07_Fault.l89 ref07_Fault.s92
    rw [pif_dec, if_pos (by omega)]
    have g := g.drew
    show ldL _ _ w.drew
    simp only [add_mk, Nat.zero_add]
    refine g.ldL 1 (x := s.a) (y := s.n) (z := s.c) rfl rfl ?_
    refine ixS_Ro (hr.ext g.kept) hx fun ad hcell => ?_
    generalize ps[k] = d at hx hd hcell
    refine ldS_of (hcell 0 (.string d.1.word) rfl) ?_
    refine g.ldS 0 (x := c.word) rfl rfl ?_
    change pif (same d.1.word c.word) _ _ w.drew
    rw [hd, List.any_cons] at hT hF
    cases e : same d.1.word c.word with
    | true =>
      rw [e] at hT
      have hR := hT rfl
      subst hR
      rw [pif_true]
      exact g.drew.ldI 0 (x := c.pos) rfl rfl (hq _ g.drew.kept)
    | false =>
      rw [e, Bool.false_or] at hT hF
      rw [pif_false, wrap_nat1 (by omega)]
      exact ih (k + 1) _ (by omega) g hT hF
theorem fault_loop {ps : List (Cl × Sl3)} (hr : Ro W 5 clEnc s.a s.n s.c ps) (hp : ∀ p ∈ ps, NumsO W p.2 p.1.nums) (hq : ∀ w', Ext W w' → Q R.e R.p w') :
    ∀ (m j : Nat) (w : World), ps.length = j + m → rfCls (ps.map Prod.fst) ((ps.drop j).map Prod.fst) j = R → Sep (fun _ => False) W w [fB rb (rwEnc (r, s))] →
    ref07_Fault.l18 Z Q (m + 1) ⟨rb, 0, none⟩ j w := by
  have hmax := hr.max
  have hn := hr.1
  intro m
  induction m with
  | zero =>
    intro j w hm he g
    unfold ref07_Fault.l18 ref07_Fault.s107
    simp only [add_mk, Nat.zero_add]
    refine g.ldL 0 (x := s.a) (y := s.n) (z := s.c) rfl rfl ?_
    rw [pif_dec, if_neg (by omega)]
    unfold ref07_Fault.s8
    rw [List.drop_eq_nil_of_le (by omega)] at he
    subst he
    exact hq w g.kept
  | succ m ih =>
    intro j w hm he g
    have hx := List.getElem?_eq_getElem (show j < ps.length by omega)
    have hmem := List.getElem_mem (show j < ps.length by omega)
    have hd := List.drop_eq_getElem_cons (show j < ps.length by omega)
    unfold ref07_Fault.l18 ref07_Fault.s107
    simp only [add_mk, Nat.zero_add]
    refine g.ldL 0 (x := s.a) (y := s.n) (z := s.c) rfl rfl ?_
    rw [pif_dec, if_pos (by omega)]
    unfold ref07_Fault.s103
    simp only [add_mk, Nat.zero_add]
    refine g.ldL 0 (x := s.a) (y := s.n) (z := s.c) rfl rfl ?_
    refine ixS_Ro (hr.ext g.kept) hx fun ad hcell => ?_
    refine ldN_at hcell rfl ?_
    rw [hd] at he
    have hnums := hp _ hmem
    generalize ps[j] = q at hx hd he hnums
    obtain ⟨c, sc⟩ := q
    simp only [List.map_cons] at he
    unfold rfCls at he
    refine g.new fun w1 cb h1 k1 => ?_
    refine h1.stN 0 rfl (by simp) rfl (clEnc_one _) (lay_full rfl rfl) fun w2 h2 k2 => ?_
    have h2 : Sep (fun _ => False) W w2 [fB cb (clEnc (c, sc)), fB rb (rwEnc (r, s))] := h2
    have hnums : NumsO W sc c.nums := hnums
    have hcn : sc.n = c.nums.length := hnums.1
    have syn : ∀ (w : World), Sep (fun _ => False) W w [fB cb (clEnc (c, sc)), fB rb (rwEnc (r, s))] → (⟨8, c.pos⟩ : Ft) = R → drew0 (ldI .i64 ⟨cb, 1, none⟩ fun v => Q 8 v) w := fun w g e => by
      subst e
      exact g.drew.ldI 0 (x := c.pos) rfl rfl (hq _ g.drew.kept)
    refine h2.drawn (fun w' => IsB w' cb (clEnc (c, sc))) (h2.drew.at (n := 0) rfl) fun h3 => ?_
    refine hN_of (cs := clEnc (c, sc)) rfl (fun w' hw' => cellsAt_B hw' rfl) ?_
    refine must_cal fun w4 k4 => ?_
    have h4 := h3.ext k4
    refine sAnd_of (h4.at (n := 0) rfl) ?_
    simp only [add_mk, Nat.zero_add]
    rw [pif_beq]
    split
    · rename_i e0
      rw [if_pos e0] at he
      exact syn _ h4 he
    rename_i e0
    rw [if_neg e0] at he
    refine hL_of (b := sc.a) (n := sc.n) (c := sc.c) (fun w' hw' => hw'.cell 2) ?_
    refine hN_of (cs := clEnc (c, sc)) rfl (fun w' hw' => cellsAt_B hw' rfl) ?_
    refine must_cal fun w5 k5 => ?_
    have h5 := h4.ext k5
    refine sAnd_of (h5.at (n := 0) rfl) ?_
    rw [pif_bne]
    split
    case isFalse e1 =>
      rw [if_pos (by omega)] at he
      exact syn _ h5 he
    rename_i e1
    have hfit : Fit c := ⟨e0, by have h1 : (sc.n : Int) = snMany c := e1; have h2 : sc.n = c.nums.length := hnums.1; rw [← h1, h2]⟩
    rw [if_neg (show ¬ (c.nums.length : Int) ≠ snMany c by have := hfit.2; omega)] at he
    unfold ref07_Fault.s100
    have hany : ((ps.map Prod.fst).take j).any (fun d => same d.word c.word) = ((ps.take j).drop 0).any (fun d => same d.1.word c.word) := by
      rw [← List.map_take, List.any_map, List.drop_zero]
      rfl
    rw [hany] at he
    refine exK_of (j + 1) (twice_loop hr (by omega) hq j 0 w5 (by omega) h5 (fun e => ?_) (fun e w6 h6 => ?_))
    · rw [if_pos e] at he
      exact he
    rw [if_neg (by simp only [e]; decide)] at he
    unfold ref07_Fault.s80
    refine exK_of (c.nums.length + 1) (num_loop hnums hfit hq c.nums.length 0 w6 (by omega) h6 (fun e => ?_) (fun e w7 h7 => ?_))
    · rw [List.drop_zero] at e ⊢
      rw [if_pos e] at he
      exact he
    · rw [List.drop_zero] at e
      rw [if_neg (by simp only [e]; decide)] at he
      unfold ref07_Fault.s27
      rw [wrap_nat1 (by omega)]
      exact ih (j + 1) w7 (by omega) he (h7.drop 0)
theorem fault_cal {K : Int → Int → PT} (hc : ClsO w s r.clauses) (hk : ∀ w', Ext w w' → K (rfFault r).e (rfFault r).p w') :
    cal Tryd.prog Z 30 [.agg ⟨rwEnc (r, s)⟩] (isT2 fun x y => (isI .i64 fun r0 => (isI .i64 fun r1 => K r0 r1) y) x) w := by
  refine ref07_Fault.cal ?_
  unfold ref07_Fault.F ref07_Fault.s116
  refine (Sep.start (fun _ => False) w).new fun w1 rb g k1 => ?_
  simp only [add_mk, Nat.zero_add]
  unfold rfFault at hk
  refine g.ldI 0 (x := r.prio.n) rfl rfl ?_
  rw [pif_dec]
  split
  · rename_i e
    rw [if_pos e] at hk
    exact g.drew.ldI 0 (x := r.prio.pos) rfl rfl (hk _ g.drew.kept)
  rename_i e
  rw [if_neg e] at hk
  refine g.ldI 0 (x := r.prio.n) rfl rfl ?_
  rw [pif_dec]
  split
  · rename_i e
    rw [if_pos e] at hk
    exact g.drew.ldI 0 (x := r.prio.pos) rfl rfl (hk _ g.drew.kept)
  rename_i e
  rw [if_neg e] at hk
  unfold ref07_Fault.s113
  obtain ⟨ps, p1, p2, p3⟩ := hc
  rw [p1] at hk
  exact exK_of (ps.length + 1) (fault_loop p2 p3 hk ps.length 0 w1 (by omega) rfl g)
end
end Go.Proofs.YtllgjjldnnmjkaaDoor
end
section
set_option maxRecDepth 100000
namespace Go.Proofs.YtllgjjldnnmjkaaDoor
open Go.RowKit
section
variable {Z : List PanicEntry → PT} {W w : World} {r : Rw} {s : Sl3}
theorem foldD_take {l : List Fg} {v : Int} {j : Nat} (hj : j < 4) (h : j < l.length) : foldD ((l.take 4).drop j) v = foldD ((l.take 4).drop (j + 1)) (mixD v (nthF l j).n) := by
  have hl : j < (l.take 4).length := by rw [List.length_take]; omega
  rw [List.drop_eq_getElem_cons hl]
  have : (l.take 4)[j] = nthF l j := by
    rw [List.getElem_take]
    unfold nthF
    rw [List.getElem?_eq_getElem h]; rfl
  rw [this]; rfl
theorem prefix_cal {K : Int → Int → PT} {wd : ByteArray} (hc : ClsO w s r.clauses) (hw : ∀ c, findW r.clauses wd = some c → (c.nums.length : Int) = if c.slash = true then 5 else 4) (hk : ∀ w', Ext w w' → K (rfPref r wd).1 (rfPref r wd).2 w') :
    cal Tryd.prog Z 52 [.agg ⟨rwEnc (r, s)⟩, .string wd] (isT2 fun x y => (isI .u32 fun r0 => (isI .i64 fun r1 => K r0 r1) y) x) w := by
  refine ref07_Prefix.cal ?_
  unfold ref07_Prefix.F ref07_Prefix.s34
  refine (Sep.start (fun _ => False) w).new fun w1 rb g k1 => ?_
  refine g.ldN 0 (vs := rwEnc (r, s)) rfl rfl rfl ?_
  unfold rfPref at hk
  refine find_cal g.kept hc (fun c sc w2 e hn k2 => ?_) (fun e w2 k2 => ?_)
  · rw [e] at hk
    simp only [prefC] at hk
    have hlen := hw c e
    have g2 := g.ext k2
    refine g2.new fun w3 cb g3 k3 => ?_
    refine g3.stN 0 rfl (by simp) rfl (clEnc_one _) (lay_full rfl rfl) fun w4 g4 k4 => ?_
    have g4 : Sep (fun _ => False) w w4 [fB cb (clEnc (c, sc)), fB rb (rwEnc (r, s))] := g4
    rw [pif_not, pif_true]
    unfold ref07_Prefix.s31
    have h4 : 4 ≤ c.nums.length := by split at hlen <;> omega
    have loop : ∀ (m j : Nat) (v : Int), 4 = j + m → foldD ((c.nums.take 4).drop j) v = foldD (c.nums.take 4) 0 → ref07_Prefix.l20 Z K (m + 1) ⟨cb, 0, none⟩ v j w4 := by
      intro m
      induction m with
      | zero =>
        intro j v hm he
        unfold ref07_Prefix.l20 ref07_Prefix.s23
        rw [pif_dec, if_neg (by omega)]
        rw [List.drop_eq_nil_of_le (by rw [List.length_take]; omega)] at he
        have he : v = foldD (c.nums.take 4) 0 := he
        rw [← he] at hk
        unfold ref07_Prefix.s10
        simp only [add_mk, Nat.zero_add]
        refine g4.ldB 0 (x := c.slash) rfl rfl ?_
        rw [pif_bool]
        split
        · rename_i es
          rw [if_pos es] at hk hlen
          have g5 := g4.drew
          show ldL _ _ w4.drew
          refine g5.ldL 0 (x := sc.a) (y := sc.n) (z := sc.c) rfl rfl ?_
          refine ixS_Ro (i := 4) (Ro.ext hn g5.kept) (nth_at (show 4 < c.nums.length by omega)) fun ad hcell => ?_
          exact ldI_at hcell (n := (nthF c.nums 4).n) rfl (hk _ g5.kept)
        · rename_i es
          rw [if_neg es] at hk
          exact hk _ g4.kept
      | succ m ih =>
        intro j v hm he
        unfold ref07_Prefix.l20 ref07_Prefix.s23
        rw [pif_dec, if_pos (by omega)]
        simp only [add_mk, Nat.zero_add]
        refine g4.ldL 0 (x := sc.a) (y := sc.n) (z := sc.c) rfl rfl ?_
        refine ixS_Ro (Ro.ext hn g4.kept) (nth_at (show j < c.nums.length by omega)) fun ad hcell => ?_
        refine ldI_at hcell (n := (nthF c.nums j).n) rfl ?_
        rw [wrap_nat1 (by omega)]
        exact ih (j + 1) _ (by omega) (by rw [← he, foldD_take (show j < 4 by omega) (by omega)]; rfl)
    exact exK_of 5 (loop 4 0 0 (by omega) rfl)
  · rw [e] at hk
    have g2 := g.ext k2
    refine g2.new fun w3 cb g3 k3 => ?_
    refine g3.stN 0 rfl (by simp) rfl (clEnc_one _) (lay_full rfl rfl) fun w4 g4 k4 => ?_
    rw [pif_not, pif_false]
    exact hk w4 g4.kept
theorem ports2_cal {K : Int → Int → PT} {wd : ByteArray} (hc : ClsO w s r.clauses) (hw : ∀ c, findW r.clauses wd = some c → (c.nums.length : Int) = if c.dash = true then 2 else 1) (hk : ∀ w', Ext w w' → K (rfPort r wd).1 (rfPort r wd).2 w') :
    cal Tryd.prog Z 53 [.agg ⟨rwEnc (r, s)⟩, .string wd] (isT2 fun x y => (isI .i64 fun r0 => (isI .i64 fun r1 => K r0 r1) y) x) w := by
  refine ref07_Ports.cal ?_
  unfold ref07_Ports.F
  refine (Sep.start (fun _ => False) w).new fun w1 rb g k1 => ?_
  refine g.ldN 0 (vs := rwEnc (r, s)) rfl rfl rfl ?_
  unfold rfPort at hk
  refine find_cal g.kept hc (fun c sc w2 e hn k2 => ?_) (fun e w2 k2 => ?_)
  · rw [e] at hk
    simp only [portC] at hk
    have hlen := hw c e
    have g2 := g.ext k2
    refine g2.new fun w3 cb g3 k3 => ?_
    refine g3.stN 0 rfl (by simp) rfl (clEnc_one _) (lay_full rfl rfl) fun w4 g4 k4 => ?_
    have g4 : Sep (fun _ => False) w w4 [fB cb (clEnc (c, sc)), fB rb (rwEnc (r, s))] := g4
    rw [pif_not, pif_true]
    simp only [add_mk, Nat.zero_add]
    have h4 : 1 ≤ c.nums.length := by split at hlen <;> omega
    refine g4.ldB 0 (x := c.dash) rfl rfl ?_
    have g5 := g4.drew
    rw [pif_bool]
    split
    · rename_i es
      rw [if_pos es] at hk hlen
      show ldL _ _ w4.drew
      refine g5.ldL 0 (x := sc.a) (y := sc.n) (z := sc.c) rfl rfl ?_
      refine ixS_Ro (i := 0) (Ro.ext hn g5.kept) (nth_at (show 0 < c.nums.length by omega)) fun ad hcell => ?_
      refine ldI_at hcell (n := (nthF c.nums 0).n) rfl ?_
      refine g5.ldL 0 (x := sc.a) (y := sc.n) (z := sc.c) rfl rfl ?_
      refine ixS_Ro (i := 1) (Ro.ext hn g5.kept) (nth_at (show 1 < c.nums.length by omega)) fun ad hcell => ?_
      exact ldI_at hcell (n := (nthF c.nums 1).n) rfl (hk _ g5.kept)
    · rename_i es
      rw [if_neg es] at hk
      show ldL _ _ w4.drew
      refine g5.ldL 0 (x := sc.a) (y := sc.n) (z := sc.c) rfl rfl ?_
      refine ixS_Ro (i := 0) (Ro.ext hn g5.kept) (nth_at (show 0 < c.nums.length by omega)) fun ad hcell => ?_
      refine ldI_at hcell (n := (nthF c.nums 0).n) rfl ?_
      refine g5.ldL 0 (x := sc.a) (y := sc.n) (z := sc.c) rfl rfl ?_
      refine ixS_Ro (i := 0) (Ro.ext hn g5.kept) (nth_at (show 0 < c.nums.length by omega)) fun ad hcell => ?_
      exact ldI_at hcell (n := (nthF c.nums 0).n) rfl (hk _ g5.kept)
  · rw [e] at hk
    have g2 := g.ext k2
    refine g2.new fun w3 cb g3 k3 => ?_
    refine g3.stN 0 rfl (by simp) rfl (clEnc_one _) (lay_full rfl rfl) fun w4 g4 k4 => ?_
    rw [pif_not, pif_false]
    exact hk w4 g4.kept
theorem find_same {l : List Cl} {wd : ByteArray} {c : Cl} (h : findW l wd = some c) : same c.word wd = true ∧ c ∈ l := by
  unfold findW at h
  have h1 := List.find?_some (p := fun c : Cl => same c.word wd) h
  exact ⟨h1, List.mem_of_find?_eq_some h⟩
theorem fit_src {wd : ByteArray} {c : Cl} (hf : Fit c) (hs : same c.word wd = true) (hw : wd = wSrc ∨ wd = wDst) : (c.nums.length : Int) = if c.slash = true then 5 else 4 := by
  rw [hf.2]
  refine many_src ?_
  rcases hw with rfl | rfl
  · exact .inl hs
  · exact .inr hs
theorem fit_port {wd : ByteArray} {c : Cl} (hf : Fit c) (hs : same c.word wd = true) (hw : wd = wSport ∨ wd = wDport) : (c.nums.length : Int) = if c.dash = true then 2 else 1 := by
  obtain ⟨n1, n2, n3, n4, n5, n6, n7, n8, n9, n10⟩ := words_ne
  rw [hf.2]
  have sy : ∀ {a b : ByteArray}, same a b = false → same b a = false := fun {a b} h => by unfold same at *; rw [Bool.beq_comm]; exact h
  rcases hw with rfl | rfl
  · exact port_many (not_same hs (sy n1)) (not_same hs (sy n4)) (by unfold portW; rw [hs]; rfl)
  · exact port_many (not_same hs (sy n2)) (not_same hs (sy n5)) (by unfold portW; rw [hs, Bool.or_true])
theorem fit_proto {c : Cl} (hf : Fit c) : 0 < c.nums.length := by
  have := hf.2
  have := hf.1
  have := many_nn c
  omega
theorem meaning_cal {K : List Value → PT} (hc : ClsO w s r.clauses) (hfit : r.default = false → ∀ c ∈ r.clauses, Fit c) (hk : ∀ w', Ext w w' → K (rfMean r).enc w') :
    cal Tryd.prog Z 31 [.agg ⟨rwEnc (r, s)⟩] (isN fun v => K v) w := by
  refine ref07_Meaning.cal ?_
  unfold ref07_Meaning.F ref07_Meaning.s9
  refine (Sep.start (fun _ => False) w).new fun w1 rb g1 k1 => ?_
  refine g1.new fun w2 tb g2 k2 => ?_
  have g2 : Sep (fun _ => False) w w2 [fB tb en0.enc, fB rb (rwEnc (r, s))] := g2
  simp only [add_mk, Nat.zero_add]
  have fin : ref07_Meaning.s6 Z K ⟨rb, 0, none⟩ ⟨tb, 0, none⟩ (rfAct r) w2 := by
    unfold ref07_Meaning.s6
    simp only [add_mk, Nat.zero_add]
    refine g2.ldB 1 (x := r.default) rfl rfl ?_
    unfold rfMean at hk
    rw [pif_bool]
    split
    · rename_i ed
      rw [if_pos ed] at hk
      refine g2.stN 0 rfl (by simp [en0, En.enc]) rfl (En.enc_one { en0 with default := true, action := rfAct r }) (lay_full rfl rfl) fun w3 g3 k3 => ?_
      exact g3.ldN 0 (vs := En.enc { en0 with default := true, action := rfAct r }) rfl rfl rfl (hk w3 g3.kept)
    rename_i ed
    rw [if_neg ed] at hk
    have hfit := hfit (by simpa using ed)
    have hs : ∀ wd, wd = wSrc ∨ wd = wDst → ∀ c, findW r.clauses wd = some c → (c.nums.length : Int) = if c.slash = true then 5 else 4 := fun wd hw c hf => fit_src (hfit c (find_same hf).2) (find_same hf).1 hw
    have hp : ∀ wd, wd = wSport ∨ wd = wDport → ∀ c, findW r.clauses wd = some c → (c.nums.length : Int) = if c.dash = true then 2 else 1 := fun wd hw c hf => fit_port (hfit c (find_same hf).2) (find_same hf).1 hw
    refine g2.ldN 1 (vs := rwEnc (r, s)) rfl rfl rfl ?_
    refine prefix_cal (wd := wSrc) (hc.ext g2.kept) (hs _ (.inl rfl)) fun w3 k3 => ?_
    have g3 := g2.ext k3
    refine g3.ldN 1 (vs := rwEnc (r, s)) rfl rfl rfl ?_
    refine prefix_cal (wd := wDst) (hc.ext g3.kept) (hs _ (.inr rfl)) fun w4 k4 => ?_
    have g4 := g3.ext k4
    refine g4.ldN 1 (vs := rwEnc (r, s)) rfl rfl rfl ?_
    refine ports2_cal (wd := wSport) (hc.ext g4.kept) (hp _ (.inl rfl)) fun w5 k5 => ?_
    have g5 := g4.ext k5
    refine g5.ldN 1 (vs := rwEnc (r, s)) rfl rfl rfl ?_
    refine ports2_cal (wd := wDport) (hc.ext g5.kept) (hp _ (.inr rfl)) fun w6 k6 => ?_
    have g6 := g5.ext k6
    refine g6.ldI 1 (x := r.prio.n) rfl rfl ?_
    generalize rfPref r wSrc = a1 at hk ⊢
    generalize rfPref r wDst = a2 at hk ⊢
    generalize rfPort r wSport = a3 at hk ⊢
    generalize rfPort r wDport = a4 at hk ⊢
    generalize rfAct r = act at hk ⊢
    refine ⟨(⟨false, r.prio.n, a1.1, a1.2, a2.1, a2.2, a3.1, a3.2, a4.1, a4.2, -1, act⟩ : En).enc, w6, by kernel_rfl, ?_⟩
    generalize hx : (⟨false, r.prio.n, a1.1, a1.2, a2.1, a2.2, a3.1, a3.2, a4.1, a4.2, -1, act⟩ : En) = x
    refine g6.new fun w7 xb g7 k7 => ?_
    refine g7.stN 0 rfl (by simp) rfl (En.enc_one x) (lay_full rfl rfl) fun w8 g8 k8 => ?_
    have g8 : Sep (fun _ => False) w w8 [fB xb x.enc, fB tb en0.enc, fB rb (rwEnc (r, s))] := g8
    refine g8.ldN 2 (vs := rwEnc (r, s)) rfl rfl rfl ?_
    have out : ∀ (y : En) (w9 : World) (M : List Fct) (n : Nat), Sep (fun _ => False) w w9 M → M[n]? = some (fB xb y.enc) → M[n + 1]? = some (fB tb en0.enc) → (∀ w', Ext w w' → K y.enc w') → ldN 12 ⟨xb, 0, none⟩ (fun v => stN 12 ⟨tb, 0, none⟩ v (ldN 12 ⟨tb, 0, none⟩ fun u => K u)) w9 := fun y w9 M n g h1 h2 hk => by
      refine g.ldN n (vs := y.enc) h1 rfl rfl ?_
      refine g.stN (n + 1) h2 (by simp [en0, En.enc]) rfl (En.enc_one y) (lay_full rfl rfl) fun wa ga ka => ?_
      exact ga.ldN (n + 1) (vs := y.enc) (set_at h2) rfl rfl (hk wa ga.kept)
    refine find_cal (wd := wProto) g8.kept hc (fun c sc w9 e hn k9 => ?_) (fun e w9 k9 => ?_)
    · have g9 := g8.ext k9
      refine g9.new fun wa cb ga ka => ?_
      refine ga.stN 0 rfl (by simp) rfl (clEnc_one _) (lay_full rfl rfl) fun wb gb kb => ?_
      have gb : Sep (fun _ => False) w wb [fB cb (clEnc (c, sc)), fB xb x.enc, fB tb en0.enc, fB rb (rwEnc (r, s))] := gb
      rw [pif_true]
      simp only [add_mk, Nat.zero_add]
      refine gb.ldL 0 (x := sc.a) (y := sc.n) (z := sc.c) rfl rfl ?_
      refine ixS_Ro (i := 0) (Ro.ext hn gb.kept) (nth_at (fit_proto (hfit c (find_same e).2))) fun ad hcell => ?_
      refine ldI_at hcell (n := (nthF c.nums 0).n) rfl ?_
      refine gb.st1 1 rfl (by simp [En.enc]) rfl fun wc gc kc => ?_
      refine out { x with proto := (nthF c.nums 0).n } wc _ 1 gc rfl rfl ?_
      have : rfProto r = (nthF c.nums 0).n := by unfold rfProto; rw [e]
      rw [this] at hk
      subst hx
      exact hk
    · have g9 := g8.ext k9
      refine g9.new fun wa cb ga ka => ?_
      refine ga.stN 0 rfl (by simp) rfl (clEnc_one _) (lay_full rfl rfl) fun wb gb kb => ?_
      rw [pif_false]
      refine out x wb _ 1 gb rfl rfl ?_
      have : rfProto r = -1 := by unfold rfProto; rw [e]
      rw [this] at hk
      subst hx
      exact hk
  refine g2.ldI 1 (x := r.port.n) rfl rfl (g2.ldB 1 (x := r.drop) rfl rfl ?_)
  unfold rfAct at fin
  rw [pif_bool]
  split
  · rename_i e; rw [if_pos e] at fin; exact fin
  · rename_i e; rw [if_neg e] at fin; exact fin
end
end Go.Proofs.YtllgjjldnnmjkaaDoor
end
section
set_option maxRecDepth 100000
namespace Go.Proofs.YtllgjjldnnmjkaaDoor
open Go.RowKit
theorem step_kind {s : ByteArray} {i : Nat} {t : Tk} (h : (lexStep s i).1 = some t) : t.kind ≠ 0 := by
  unfold lexStep at h
  simp only at h
  grind
theorem lexAll_kind {s : ByteArray} : ∀ (m i : Nat) (out : List Tk), (∀ t ∈ out, t.kind ≠ 0) → ∀ t ∈ (lexAll s m i out).1, t.kind ≠ 0
  | 0, i, out, h => by unfold lexAll; exact h
  | m + 1, i, out, h => by
    unfold lexAll
    split
    · split
      · intro t ht; cases ht
      · refine lexAll_kind m _ _ fun t ht => ?_
        cases he : (lexStep s i).1 with
        | none => rw [he] at ht; exact h t ht
        | some t' =>
          rw [he] at ht
          rcases List.mem_append.1 ht with g | g
          · exact h t g
          · rw [List.mem_singleton.1 g]; exact step_kind he
    · exact h
theorem lexS_kind {s : ByteArray} : ∀ t ∈ (lexS s).1, t.kind ≠ 0 := by
  unfold lexS
  split
  · intro t ht; cases ht
  · exact lexAll_kind _ _ _ fun t ht => by cases ht
section
variable {l : List Tk} {en : Int} {i j : Nat} {e p : Int}
theorem want_no {k : Int} (h : wantS l en k i = .no e p) : e ≠ 0 := by unfold wantS at h; grind
theorem fig_no (h : figS l en i = .no e p) : e ≠ 0 := by unfold figS at h; grind [want_no]
theorem more_no {k : Int} {ns : List Fg} (h : moreS l en k i ns = .no e p) : e ≠ 0 := by unfold moreS at h; grind [fig_no]
theorem dots_no : ∀ {m i : Nat} {ns : List Fg}, dotsS l en m i ns = .no e p → e ≠ 0
  | 0, i, ns, h => by unfold dotsS at h; cases h
  | m + 1, i, ns, h => by
    unfold dotsS at h
    have := @dots_no m
    grind [want_no, fig_no]
theorem clause_no {had : List ByteArray} (h : clauseS l en had i = .no e p) : e ≠ 0 := by
  unfold clauseS at h
  simp only at h
  repeat' split at h
  all_goals cases h
  all_goals first
    | decide
    | exact fig_no ‹_›
    | exact dots_no ‹_›
    | exact more_no ‹_›
theorem clauses_no : ∀ {m i : Nat} {cs : List Cl}, clausesS l en m i cs = .no e p → e ≠ 0
  | 0, i, cs, h => by unfold clausesS at h; cases h
  | m + 1, i, cs, h => by
    unfold clausesS at h
    have := @clauses_no m
    grind [clause_no]
theorem tail_no {x : Rw} (h : tailS l en x i = .no e p) : e ≠ 0 := by unfold tailS at h; grind
theorem act_no {x : Rw} (h : actS l en x i = .no e p) : e ≠ 0 := by unfold actS at h; grind [want_no, fig_no, tail_no]
theorem line_no (h : lineS l en i = .no e p) : e ≠ 0 := by 
  unfold lineS at h
  simp only at h
  repeat' split at h
  all_goals first
    | exact act_no h
    | (cases h; first | exact fig_no ‹_› | exact clauses_no ‹_›)
theorem lines_no : ∀ {m i : Nat} {out : List Rw}, linesS l en m i out = .no e p → e ≠ 0
  | 0, i, out, h => by unfold linesS at h; cases h
  | m + 1, i, out, h => by
    unfold linesS at h
    have := @lines_no m
    grind [line_no]
end
end Go.Proofs.YtllgjjldnnmjkaaDoor
end
section
set_option maxRecDepth 100000
namespace Go.Proofs.YtllgjjldnnmjkaaDoor
open Go.RowKit
/-- The walk's place; what was wrong first, and where. -/
structure Ws where
  i : Nat
  b : Int
  p : Int
section
variable (l : List Tk) (en : Int)
def wrongW (e : Int) (s : Ws) : Ws := if s.b = 0 then ⟨s.i, e, (peekS l en s.i).pos⟩ else s
def skipW (s : Ws) : Ws := ⟨s.i + 1, s.b, s.p⟩
def kindW (k : Int) (s : Ws) : Ws := skipW (if (peekS l en s.i).kind ≠ k then wrongW l en 8 s else s)
def figV (s : Ws) : Fg := ⟨(peekS l en s.i).n, (peekS l en s.i).pos⟩
def figW (s : Ws) : Ws := kindW l en 2 s
def dotsW : Nat → Ws → List Fg → List Fg × Ws
  | 0, s, ns => (ns, s)
  | m + 1, s, ns => dotsW m (figW l en (kindW l en 3 s)) (ns ++ [figV l en (kindW l en 3 s)])
def moreW (k : Int) (s : Ws) (ns : List Fg) : List Fg × Bool × Ws := if (peekS l en s.i).kind = k then (ns ++ [figV l en (skipW s)], true, figW l en (skipW s)) else (ns, false, s)
def addrT (t : ByteArray) : Bool := same t wSrc || same t wDst
def portT (t : ByteArray) : Bool := same t wSport || same t wDport
def hadW (t : ByteArray) : List ByteArray → Ws → Ws
  | [], s => s
  | h :: r, s => hadW t r (if same h t = true then wrongW l en 9 s else s)
/-- Behind the first number. -/
def clauseW2 (t : Tk) (s : Ws) (f : Fg) : Cl × Ws :=
  let d := if addrT t.text = true then dotsW l en 3 s [f] else ([f], s)
  let m := if addrT t.text = true then moreW l en 4 d.2 d.1 else (d.1, false, d.2)
  let q := if portT t.text = true then moreW l en 5 m.2.2 m.1 else (m.1, false, m.2.2)
  (⟨t.text, t.pos, q.1, m.2.1, q.2.1⟩, q.2.2)
def clauseW1 (had : List ByteArray) (t : Tk) (s : Ws) : Ws :=
  hadW l en t.text had (if addrT t.text = false ∧ portT t.text = false ∧ same t.text wProto = false then wrongW l en 8 s else s)
def clauseW (had : List ByteArray) (s : Ws) : Cl × Ws :=
  let s1 := skipW (clauseW1 l en had (peekS l en s.i) s)
  clauseW2 l en (peekS l en s.i) (figW l en s1) (figV l en s1)
def clausesW : Nat → Ws → List Cl → List Cl × Ws
  | 0, s, cs => (cs, s)
  | m + 1, s, cs => if s.b = 0 ∧ (peekS l en s.i).kind = 1 then clausesW m (clauseW l en (cs.map Cl.word) s).2 (cs ++ [(clauseW l en (cs.map Cl.word) s).1]) else (cs, s)
def wordW (t : ByteArray) (s : Ws) : Bool := (peekS l en s.i).kind == 1 && same (peekS l en s.i).text t
def tailW (s : Ws) : Ws := if s.i < l.length ∧ (peekS l en s.i).kind ≠ 7 then wrongW l en 8 s else s
def actW2 (x : Rw) (s : Ws) : Rw × Ws :=
  if wordW l en wDrop s = true then ({ x with drop := true }, tailW l en (skipW s))
  else
    let s1 := skipW (if wordW l en wPort s = true then s else wrongW l en 8 s)
    ({ x with port := figV l en s1 }, tailW l en (figW l en s1))
def actW (x : Rw) (s : Ws) : Rw × Ws := actW2 l en x (kindW l en 6 s)
def rowW (s : Ws) : Rw × Ws :=
  if wordW l en wDefault s = true then actW l en { rw0 (peekS l en s.i).pos with default := true } (skipW s)
  else
    let c := clausesW l en (l.length - (figW l en s).i) (figW l en s) []
    actW l en { rw0 (peekS l en s.i).pos with prio := figV l en s, clauses := c.1 } c.2
def rowsW : Nat → Ws → List Rw → List Rw × Ws
  | 0, s, out => (out, s)
  | m + 1, s, out => if s.i < l.length ∧ s.b = 0 then
      (if (peekS l en s.i).kind = 7 then rowsW m (skipW s) out
       else rowsW m (rowW l en (if out.length = 64 then wrongW l en 4 s else s)).2 (out ++ [(rowW l en (if out.length = 64 then wrongW l en 4 s else s)).1]))
    else (out, s)
end
/-- What a part of the walk is to come to. -/
def RelW {α : Type} (s : Ws) (r : Res α) (a : α) (s' : Ws) : Prop := (s.b ≠ 0 → s'.b = s.b ∧ s'.p = s.p) ∧ (s.b = 0 → match r with
  | .ok x j => a = x ∧ s'.i = j ∧ s'.b = 0
  | .no e p => e ≠ 0 ∧ s'.b = e ∧ s'.p = p)
section
variable {l : List Tk} {en : Int} {s : Ws}
theorem wrong_rel {α : Type} {e : Int} (he : e ≠ 0) (x : α) : RelW s (.no e (peekS l en s.i).pos) x (wrongW l en e s) := by
  unfold RelW wrongW
  by_cases h : s.b = 0
  · simp [h, he]
  · simp [h]
theorem RelW.stay {α : Type} {r : Res α} {x y : α} {s1 s2 : Ws} (h : RelW s r x s1) (hn : ∀ a j, r ≠ .ok a j) (h2 : s1.b ≠ 0 → s2.b = s1.b ∧ s2.p = s1.p) : RelW s r y s2 := by
  refine ⟨fun hb => ?_, fun hb => ?_⟩
  · obtain ⟨g1, g2⟩ := h.1 hb
    obtain ⟨g3, g4⟩ := h2 (by rw [g1]; exact hb)
    exact ⟨g3.trans g1, g4.trans g2⟩
  · have := h.2 hb
    cases r with
    | ok a j => exact absurd rfl (hn a j)
    | no e p =>
      obtain ⟨g1, g2, g3⟩ := this
      obtain ⟨g4, g5⟩ := h2 (by rw [g2]; exact g1)
      exact ⟨g1, g4.trans g2, g5.trans g3⟩
theorem kind_rel {k : Int} : RelW s (wantS l en k s.i) (peekS l en s.i) (kindW l en k s) := by
  unfold wantS kindW skipW wrongW RelW
  by_cases h : s.b = 0 <;> by_cases g : (peekS l en s.i).kind = k <;> simp [h, g]
theorem fig_rel : RelW s (figS l en s.i) (figV l en s) (figW l en s) := by
  unfold figS figW figV wantS kindW skipW wrongW RelW
  by_cases h : s.b = 0 <;> by_cases g : (peekS l en s.i).kind = 2 <;> simp [h, g]
/-- A part behind a part. -/
theorem RelW.bind {α β : Type} {r : Res α} {x : α} {s1 s2 : Ws} (r2 : α → Nat → Res β) {y : β} {r3 : Res β} (h : RelW s r x s1) (h2 : RelW s1 (r2 x s1.i) y s2) (e1 : ∀ a j, r = .ok a j → r3 = r2 a j) (e2 : ∀ e p, r = .no e p → r3 = .no e p) : RelW s r3 y s2 := by
  refine ⟨fun hb => ?_, fun hb => ?_⟩
  · obtain ⟨g1, g2⟩ := h.1 hb
    obtain ⟨g3, g4⟩ := h2.1 (by rw [g1]; exact hb)
    exact ⟨g3.trans g1, g4.trans g2⟩
  · have := h.2 hb
    cases r with
    | ok a j =>
      obtain ⟨g1, g2, g3⟩ := this
      rw [e1 a j rfl, ← g1, ← g2]
      exact h2.2 g3
    | no e p =>
      obtain ⟨g1, g2, g3⟩ := this
      rw [e2 e p rfl]
      obtain ⟨g4, g5⟩ := h2.1 (by rw [g2]; exact g1)
      exact ⟨g1, g4.trans g2, g5.trans g3⟩
theorem RelW.pure {α : Type} {x : α} : RelW s (.ok x s.i) x s := ⟨fun _ => ⟨rfl, rfl⟩, fun h => ⟨rfl, rfl, h⟩⟩
theorem RelW.skip {α : Type} {r : Res α} {x : α} {s' : Ws} (h : RelW (skipW s) r x s') : RelW s r x s' := h
theorem more_rel {k : Int} {ns : List Fg} : RelW s (moreS l en k s.i ns) ((moreW l en k s ns).1, (moreW l en k s ns).2.1) (moreW l en k s ns).2.2 := by
  unfold moreS moreW
  by_cases g : (peekS l en s.i).kind = k
  · rw [if_neg (by simpa using g), if_pos g]
    simp only
    refine RelW.skip (s := s) ?_
    exact (fig_rel (l := l) (en := en) (s := skipW s)).bind (fun f j => .ok (ns ++ [f], true) j) RelW.pure (fun a j h => by have h : figS l en (s.i + 1) = .ok a j := h; rw [h]; try rfl) (fun a j h => by have h : figS l en (s.i + 1) = .no a j := h; rw [h]; try rfl)
  · rw [if_pos g, if_neg g]
    exact RelW.pure
theorem dots_rel : ∀ (m : Nat) (s : Ws) (ns : List Fg), RelW s (dotsS l en m s.i ns) (dotsW l en m s ns).1 (dotsW l en m s ns).2
  | 0, s, ns => RelW.pure
  | m + 1, s, ns => by
    unfold dotsW dotsS
    refine (kind_rel (l := l) (en := en) (s := s) (k := 3)).bind (fun _ j => match figS l en j with | .no e p => .no e p | .ok f j => dotsS l en m j (ns ++ [f])) ?_ (fun _ _ h => by rw [h]; try rfl) (fun _ _ h => by rw [h]; try rfl)
    exact (fig_rel (l := l) (en := en) (s := kindW l en 3 s)).bind (fun f j => dotsS l en m j (ns ++ [f])) (dots_rel m _ _) (fun _ _ h => by rw [h]; try rfl) (fun _ _ h => by rw [h]; try rfl)
theorem had_stay {t : ByteArray} : ∀ (hs : List ByteArray) (s : Ws), s.b ≠ 0 → hadW l en t hs s = s
  | [], s, h => rfl
  | a :: r, s, h => by
    unfold hadW
    split
    · have : wrongW l en 9 s = s := by unfold wrongW; rw [if_neg h]
      rw [this]
      exact had_stay r s h
    · exact had_stay r s h
theorem same_symm (a b : ByteArray) : same a b = same b a := by unfold same; exact Bool.beq_comm
theorem had_at {t : ByteArray} : ∀ (hs : List ByteArray) (s : Ws), hadW l en t hs s = if hs.any (same t) = true then wrongW l en 9 s else s
  | [], s => rfl
  | a :: r, s => by
    unfold hadW
    rw [List.any_cons, same_symm t a]
    by_cases h : same a t = true
    · rw [if_pos h, if_pos (by simp [h])]
      by_cases hb : s.b = 0
      · exact had_stay r _ (by unfold wrongW; rw [if_pos hb]; simp)
      · rw [show wrongW l en 9 s = s from by unfold wrongW; rw [if_neg hb]]
        exact had_stay r s hb
    · rw [if_neg h, had_at r s]
      simp [h]
theorem clause2_rel {t : Tk} {f : Fg} : RelW s (if (same t.text wSrc || same t.text wDst) = true then (match dotsS l en 3 s.i [f] with
          | .no e p => (.no e p : Res Cl)
          | .ok ns j => match moreS l en 4 j ns with
            | .no e p => .no e p
            | .ok r j => .ok ⟨t.text, t.pos, r.1, r.2, false⟩ j)
        else if (same t.text wSport || same t.text wDport) = true then (match moreS l en 5 s.i [f] with
          | .no e p => .no e p
          | .ok r j => .ok ⟨t.text, t.pos, r.1, false, r.2⟩ j)
        else .ok ⟨t.text, t.pos, [f], false, false⟩ s.i) (clauseW2 l en t s f).1 (clauseW2 l en t s f).2 := by
  unfold clauseW2
  simp only [addrT, portT]
  have ap : (same t.text wSrc || same t.text wDst) = true → (same t.text wSport || same t.text wDport) = false := fun h => by
    have tw : ∀ a b : ByteArray, same t.text a = true → same t.text b = true → a.toList = b.toList := fun a b h1 h2 => by
      unfold same at h1 h2
      exact (eq_of_beq h1).symm.trans (eq_of_beq h2)
    cases h1 : (same t.text wSport || same t.text wDport) with
    | false => rfl
    | true =>
      simp only [Bool.or_eq_true] at h h1
      rcases h with h | h <;> rcases h1 with g | g <;> exact absurd (tw _ _ h g) (by simp only [ByteArray.toList_eq]; decide)
  by_cases ha : (same t.text wSrc || same t.text wDst) = true
  · simp only [ha, ap ha, if_true, Bool.false_eq_true, if_false]
    refine (dots_rel (l := l) (en := en) 3 s [f]).bind (fun ns j => match moreS l en 4 j ns with
            | .no e p => (.no e p : Res Cl)
            | .ok r j => .ok ⟨t.text, t.pos, r.1, r.2, false⟩ j) ?_ (fun _ _ h => by rw [h]; try rfl) (fun _ _ h => by rw [h]; try rfl)
    exact (more_rel (l := l) (en := en) (s := (dotsW l en 3 s [f]).2) (k := 4) (ns := (dotsW l en 3 s [f]).1)).bind (fun r j => (.ok ⟨t.text, t.pos, r.1, r.2, false⟩ j : Res Cl)) RelW.pure (fun _ _ h => by rw [h]; try rfl) (fun _ _ h => by rw [h]; try rfl)
  · simp only [ha, Bool.false_eq_true, if_false]
    by_cases hp : (same t.text wSport || same t.text wDport) = true
    · simp only [hp, if_true]
      exact (more_rel (l := l) (en := en) (s := s) (k := 5) (ns := [f])).bind (fun r j => (.ok ⟨t.text, t.pos, r.1, false, r.2⟩ j : Res Cl)) RelW.pure (fun _ _ h => by rw [h]; try rfl) (fun _ _ h => by rw [h]; try rfl)
    · simp only [hp, Bool.false_eq_true, if_false]
      exact RelW.pure
theorem clauseW1_i {t : Tk} {had : List ByteArray} : (clauseW1 l en had t s).i = s.i := by
  unfold clauseW1
  rw [had_at]
  unfold wrongW
  grind
theorem clause2_stay {t : Tk} {f : Fg} (h : s.b ≠ 0) : (clauseW2 l en t s f).2.b = s.b ∧ (clauseW2 l en t s f).2.p = s.p := (clause2_rel (l := l) (en := en) (t := t) (f := f)).1 h
theorem clause_rel {had : List ByteArray} : RelW s (clauseS l en had s.i) (clauseW l en had s).1 (clauseW l en had s).2 := by
  unfold clauseS clauseW
  simp only
  generalize ht : peekS l en s.i = t
  have hi := clauseW1_i (l := l) (en := en) (s := s) (t := t) (had := had)
  have stay : ∀ s1 : Ws, s1.b ≠ 0 → (clauseW2 l en t (figW l en (skipW s1)) (figV l en (skipW s1))).2.b = s1.b ∧ (clauseW2 l en t (figW l en (skipW s1)) (figV l en (skipW s1))).2.p = s1.p := fun s1 h => by
    obtain ⟨g1, g2⟩ := (fig_rel (l := l) (en := en) (s := skipW s1)).1 h
    obtain ⟨g3, g4⟩ := clause2_stay (l := l) (en := en) (t := t) (f := figV l en (skipW s1)) (s := figW l en (skipW s1)) (by rw [g1]; exact h)
    exact ⟨g3.trans g1, g4.trans g2⟩
  have h1 : clauseW1 l en had t s = if (same t.text wSrc || same t.text wDst || same t.text wSport || same t.text wDport || same t.text wProto) = false then (if had.any (same t.text) = true then wrongW l en 9 (wrongW l en 8 s) else wrongW l en 8 s) else (if had.any (same t.text) = true then wrongW l en 9 s else s) := by
    unfold clauseW1 addrT portT
    rw [had_at]
    cases same t.text wSrc <;> cases same t.text wDst <;> cases same t.text wSport <;> cases same t.text wDport <;> cases same t.text wProto <;> simp
  by_cases hw : (same t.text wSrc || same t.text wDst || same t.text wSport || same t.text wDport || same t.text wProto) = false
  · rw [if_pos hw]
    rw [if_pos hw] at h1
    have e8 : RelW s (.no 8 t.pos) (clauseW2 l en t s ⟨0, 0⟩).1 (wrongW l en 8 s) := by rw [← ht]; exact wrong_rel (by decide) _
    have e9 : clauseW1 l en had t s = wrongW l en 8 s := by
      rw [h1]
      split
      · unfold wrongW
        by_cases hb : s.b = 0 <;> simp [hb]
      · rfl
    rw [e9]
    exact e8.stay (fun a j g => by cases g) (stay _)
  · rw [if_neg hw]
    rw [if_neg hw] at h1
    by_cases hh : had.any (same t.text) = true
    · rw [if_pos hh]
      rw [if_pos hh] at h1
      rw [h1]
      have e9 : RelW s (.no 9 t.pos) (clauseW2 l en t s ⟨0, 0⟩).1 (wrongW l en 9 s) := by rw [← ht]; exact wrong_rel (by decide) _
      exact e9.stay (fun a j g => by cases g) (stay _)
    · rw [if_neg hh]
      rw [if_neg hh] at h1
      rw [h1]
      refine RelW.skip (s := s) ?_
      exact (fig_rel (l := l) (en := en) (s := skipW s)).bind (fun f j => if (same t.text wSrc || same t.text wDst) = true then (match dotsS l en 3 j [f] with
          | .no e p => (.no e p : Res Cl)
          | .ok ns j => match moreS l en 4 j ns with
            | .no e p => .no e p
            | .ok r j => .ok ⟨t.text, t.pos, r.1, r.2, false⟩ j)
        else if (same t.text wSport || same t.text wDport) = true then (match moreS l en 5 j [f] with
          | .no e p => .no e p
          | .ok r j => .ok ⟨t.text, t.pos, r.1, false, r.2⟩ j)
        else .ok ⟨t.text, t.pos, [f], false, false⟩ j) clause2_rel (fun a j h => by have h : figS l en (s.i + 1) = .ok a j := h; rw [h]; try rfl) (fun a j h => by have h : figS l en (s.i + 1) = .no a j := h; rw [h]; try rfl)
theorem clauses_rel : ∀ (m : Nat) (s : Ws) (cs : List Cl), RelW s (clausesS l en m s.i cs) (clausesW l en m s cs).1 (clausesW l en m s cs).2
  | 0, s, cs => RelW.pure
  | m + 1, s, cs => by
    by_cases hb : s.b = 0
    · by_cases hk : (peekS l en s.i).kind = 1
      · have e : clausesW l en (m + 1) s cs = clausesW l en m (clauseW l en (cs.map Cl.word) s).2 (cs ++ [(clauseW l en (cs.map Cl.word) s).1]) := by conv => lhs; unfold clausesW; rw [if_pos ⟨hb, hk⟩]
        rw [e]
        unfold clausesS
        rw [if_pos hk]
        exact (clause_rel (l := l) (en := en) (s := s) (had := cs.map Cl.word)).bind (fun c j => clausesS l en m j (cs ++ [c])) (clauses_rel m _ _) (fun _ _ h => by rw [h]; try rfl) (fun _ _ h => by rw [h]; try rfl)
      · have e : clausesW l en (m + 1) s cs = (cs, s) := by conv => lhs; unfold clausesW; rw [if_neg (fun g => hk g.2)]
        rw [e]
        unfold clausesS
        rw [if_neg hk]
        exact RelW.pure
    · have e : clausesW l en (m + 1) s cs = (cs, s) := by conv => lhs; unfold clausesW; rw [if_neg (fun g => hb g.1)]
      rw [e]
      exact ⟨fun _ => ⟨rfl, rfl⟩, fun h => absurd h hb⟩
theorem tail_rel (h0 : ∀ t ∈ l, t.kind ≠ 0) {x : Rw} : RelW s (tailS l en x s.i) x (tailW l en s) := by
  unfold tailS tailW
  by_cases hi : s.i < l.length
  · have hk : (peekS l en s.i).kind ≠ 0 := by
      unfold peekS
      rw [if_pos hi, List.getElem?_eq_getElem hi]
      exact h0 _ (List.getElem_mem hi)
    by_cases h7 : (peekS l en s.i).kind = 7
    · rw [if_neg (fun g => g.1 h7), if_neg (fun g => g.2 h7)]
      exact RelW.pure
    · rw [if_pos ⟨h7, hk⟩, if_pos ⟨hi, h7⟩]
      exact wrong_rel (by decide) x
  · have hk : (peekS l en s.i).kind = 0 := by unfold peekS; rw [if_neg hi]
    rw [if_neg (fun g => g.2 hk), if_neg (fun g => hi g.1)]
    exact RelW.pure
theorem act_rel (h0 : ∀ t ∈ l, t.kind ≠ 0) {x : Rw} : RelW s (actS l en x s.i) (actW l en x s).1 (actW l en x s).2 := by
  unfold actS actW
  refine (kind_rel (l := l) (en := en) (s := s) (k := 6)).bind (fun _ j => if (peekS l en j).kind = 1 ∧ same (peekS l en j).text wDrop = true then tailS l en { x with drop := true } (j + 1)
    else if (peekS l en j).kind = 1 ∧ same (peekS l en j).text wPort = true then match figS l en (j + 1) with
      | .no e p => .no e p
      | .ok f k => tailS l en { x with port := f } k
    else .no 8 (peekS l en j).pos) ?_ (fun _ _ h => by rw [h]; try rfl) (fun _ _ h => by rw [h]; try rfl)
  generalize kindW l en 6 s = s1
  unfold actW2 wordW
  simp only [Bool.and_eq_true, beq_iff_eq]
  by_cases hd : (peekS l en s1.i).kind = 1 ∧ same (peekS l en s1.i).text wDrop = true
  · rw [if_pos hd, if_pos hd]
    exact RelW.skip (tail_rel h0)
  · rw [if_neg hd, if_neg hd]
    by_cases hp : (peekS l en s1.i).kind = 1 ∧ same (peekS l en s1.i).text wPort = true
    · rw [if_pos hp, if_pos hp]
      refine RelW.skip (s := s1) ?_
      exact (fig_rel (l := l) (en := en) (s := skipW s1)).bind (fun f k => tailS l en { x with port := f } k) (tail_rel h0) (fun a j h => by have h : figS l en (s1.i + 1) = .ok a j := h; rw [h]; try rfl) (fun a j h => by have h : figS l en (s1.i + 1) = .no a j := h; rw [h]; try rfl)
    · rw [if_neg hp, if_neg hp]
      have e8 : RelW s1 (.no 8 (peekS l en s1.i).pos) x (wrongW l en 8 s1) := wrong_rel (by decide) x
      refine e8.stay (fun a j g => by cases g) fun hb => ?_
      have g := (fig_rel (l := l) (en := en) (s := skipW (wrongW l en 8 s1))).1 hb
      have g2 := (tail_rel h0 (en := en) (x := x) (s := figW l en (skipW (wrongW l en 8 s1)))).1 (by rw [g.1]; exact hb)
      exact ⟨g2.1.trans g.1, g2.2.trans g.2⟩
theorem fig_i : (figW l en s).i = s.i + 1 := by
  unfold figW kindW skipW wrongW
  grind
theorem row_rel (h0 : ∀ t ∈ l, t.kind ≠ 0) : RelW s (lineS l en s.i) (rowW l en s).1 (rowW l en s).2 := by
  unfold lineS rowW wordW
  simp only [Bool.and_eq_true, beq_iff_eq]
  by_cases hd : (peekS l en s.i).kind = 1 ∧ same (peekS l en s.i).text wDefault = true
  · rw [if_pos hd, if_pos hd]
    exact RelW.skip (act_rel h0)
  · rw [if_neg hd, if_neg hd]
    refine (fig_rel (l := l) (en := en) (s := s)).bind (fun f j => match clausesS l en (l.length - j) j [] with
      | .no e p => .no e p
      | .ok cs j => actS l en { rw0 (peekS l en s.i).pos with prio := f, clauses := cs } j) ?_ (fun _ _ h => by rw [h]; try rfl) (fun _ _ h => by rw [h]; try rfl)
    exact (clauses_rel (l := l) (en := en) (l.length - (figW l en s).i) (figW l en s) []).bind (fun cs j => actS l en { rw0 (peekS l en s.i).pos with prio := figV l en s, clauses := cs } j) (act_rel h0) (fun _ _ h => by rw [h]; try rfl) (fun _ _ h => by rw [h]; try rfl)
theorem rows_stop : ∀ (m : Nat) (s : Ws) (out : List Rw), s.b ≠ 0 → rowsW l en m s out = (out, s)
  | 0, s, out, h => rfl
  | m + 1, s, out, h => by unfold rowsW; rw [if_neg (fun g => h g.2)]
theorem rows_rel (h0 : ∀ t ∈ l, t.kind ≠ 0) : ∀ (m : Nat) (s : Ws) (out : List Rw), s.b = 0 → (match linesS l en m s.i out with
      | .ok o j => (rowsW l en m s out).1 = o ∧ (rowsW l en m s out).2.b = 0
      | .no e p => e ≠ 0 ∧ (rowsW l en m s out).2.b = e ∧ (rowsW l en m s out).2.p = p)
  | 0, s, out, h => by unfold linesS rowsW; exact ⟨rfl, h⟩
  | m + 1, s, out, h => by
    by_cases hi : s.i < l.length
    · by_cases h7 : (peekS l en s.i).kind = 7
      · have e : rowsW l en (m + 1) s out = rowsW l en m (skipW s) out := by conv => lhs; unfold rowsW; rw [if_pos ⟨hi, h⟩, if_pos h7]
        rw [e]
        unfold linesS
        rw [if_pos hi, if_pos h7]
        exact rows_rel h0 m (skipW s) out h
      · by_cases h64 : out.length = 64
        · have e : rowsW l en (m + 1) s out = rowsW l en m (rowW l en (wrongW l en 4 s)).2 (out ++ [(rowW l en (wrongW l en 4 s)).1]) := by conv => lhs; unfold rowsW; rw [if_pos ⟨hi, h⟩, if_neg h7, if_pos h64]
          rw [e]
          unfold linesS
          rw [if_pos hi, if_neg h7, if_pos h64]
          have e4 : RelW s (.no 4 (peekS l en s.i).pos) (rowW l en s).1 (wrongW l en 4 s) := wrong_rel (by decide) _
          obtain ⟨g1, g2, g3⟩ := (e4.stay (y := (rowW l en s).1) (fun a j g => by cases g) (row_rel h0 (en := en) (s := wrongW l en 4 s)).1).2 h
          rw [rows_stop m _ _ (by rw [g2]; exact g1)]
          exact ⟨g1, g2, g3⟩
        · have e : rowsW l en (m + 1) s out = rowsW l en m (rowW l en s).2 (out ++ [(rowW l en s).1]) := by conv => lhs; unfold rowsW; rw [if_pos ⟨hi, h⟩, if_neg h7, if_neg h64]
          rw [e]
          unfold linesS
          rw [if_pos hi, if_neg h7, if_neg h64]
          have er := (row_rel h0 (en := en) (s := s)).2 h
          cases hl : lineS l en s.i with
          | ok x j =>
            rw [hl] at er
            obtain ⟨g1, g2, g3⟩ := er
            have := rows_rel h0 m (rowW l en s).2 (out ++ [(rowW l en s).1]) g3
            rw [g2] at this
            rw [g1] at this ⊢
            exact this
          | no e p =>
            rw [hl] at er
            obtain ⟨g1, g2, g3⟩ := er
            rw [rows_stop m _ _ (by rw [g2]; exact g1)]
            exact ⟨g1, g2, g3⟩
    · have e : rowsW l en (m + 1) s out = (out, s) := by conv => lhs; unfold rowsW; rw [if_neg (fun g => hi g.1)]
      rw [e]
      unfold linesS
      rw [if_neg hi]
      exact ⟨rfl, h⟩
end
end Go.Proofs.YtllgjjldnnmjkaaDoor
end
