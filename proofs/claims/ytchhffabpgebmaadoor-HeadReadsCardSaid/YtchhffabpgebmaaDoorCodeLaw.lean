/-
  The reading of the code of 7 functions, printed by gen.py off the translation; no condition.
-/
import Derived.Test.YtchhffabpgebmaaDoorWlFacts
namespace Go.Proofs.YtchhffabpgebmaaDoor
open Go.RowKit
set_option linter.unusedVariables false
set_option maxRecDepth 100000

/-! ### milepost/milepostlaw01.awake: function 9 -/
noncomputable def law01_awake.body : Code := bodyC Tryd.f9
def law01_awake.F (Z : List PanicEntry → PT) (Q : Bool → PT)  : PT :=
  (cal Tryd.prog Z 10 [(Value.int .u32 167772161), (Value.int .u32 16909060), (Value.int .u16 80), (Value.int .u16 53), (Value.int .u8 17)] (isN fun v11 => (newC 26 [(Value.int .u8 0), (Value.int .u8 0), (Value.int .u8 0), (Value.int .u8 0), (Value.int .u8 0), (Value.int .u8 0), (Value.int .u8 0), (Value.int .u8 0), (Value.int .u8 0), (Value.int .u8 0), (Value.int .u8 0), (Value.int .u8 0), (Value.int .u8 0)] fun h12 => (stN 13 h12 v11 (ldN 13 h12 fun v13 => (cal Tryd.prog Z 14 [(Value.agg ⟨v13⟩), (Value.int .i64 4), (Value.int .u32 256)] (isT2 fun t14 t15 => (isN fun v16 => ((isI .i64 fun v17 => (newC 26 [(Value.int .u8 0), (Value.int .u8 0), (Value.int .u8 0), (Value.int .u8 0), (Value.int .u8 0), (Value.int .u8 0), (Value.int .u8 0), (Value.int .u8 0), (Value.int .u8 0), (Value.int .u8 0), (Value.int .u8 0), (Value.int .u8 0), (Value.int .u8 0)] fun v18 => (stN 13 v18 v16 (ldN 13 h12 fun v19 => (cal Tryd.prog Z 24 [(Value.agg ⟨v19⟩)] (isS fun v20 => (pif (v20.toList == (⟨#[49, 48, 46, 48, 46, 48, 46, 49, 58, 56, 48, 62, 49, 46, 50, 46, 51, 46, 52, 58, 53, 51, 47, 49, 55]⟩ : ByteArray).toList) (pif (v17 == 10) (ldN 13 h12 fun v21 => (cal Tryd.prog Z 20 [(Value.agg ⟨v21⟩), (Value.int .i64 4)] (isB fun v22 => (pif v22 (ldN 13 h12 fun v23 => (cal Tryd.prog Z 20 [(Value.agg ⟨v23⟩), (Value.int .i64 5)] (isB fun v24 => (Q (!v24))))) (Q false))))) (Q false)) (Q false)))))))) t15)) t14)))))))
def law01_awake.q1 (Z : List PanicEntry → PT) (Q : Bool → PT) : QF := bodyQ Tryd.prog [.tmp 0] (fun v => atB v fun va => Q va)
theorem law01_awake.eq (Z : List PanicEntry → PT) (Q : Bool → PT)  : comp Tryd.prog Z law01_awake.body (law01_awake.q1 Z Q) (fr0 []) = law01_awake.F Z Q  := by kernel_rfl
theorem law01_awake.vc (Z : List PanicEntry → PT) (Q : Bool → PT)  (w : World) (h : law01_awake.F Z Q  w) : Calls Tryd.prog 9 ⟨[]⟩ w fun e w' => (∃ (r0 : Bool), e = .returned (.bool r0) ∧ Q r0 w') ∨ ∃ c, e = .panicked c ∧ Z c w' := by
  refine (calls_of_ok (args := []) (w := w) (rs := [.tmp 0]) (fn := Tryd.f9) (c := law01_awake.body) Tryd.func9 (by kernel_rfl) (by kernel_rfl) (Nat.le_of_ble_eq_true (by kernel_rfl)) (okC law01_awake.body (law01_awake.q1 Z Q) (by kernel_rfl)) (by rw [law01_awake.eq]; exact h)).mono fun e w' hR => ?_
  cases e with
  | returned v =>
    obtain ⟨va, rfl, hR⟩ := atB_e hR
    exact .inl ⟨va, rfl, hR⟩
  | panicked c => exact .inr ⟨c, rfl, hR⟩
  | outgrown => exact hR.elim
theorem law01_awake.vc0 (Q : Bool → PT)  (w : World) (h : law01_awake.F Z0 Q  w) : Calls Tryd.prog 9 ⟨[]⟩ w fun e w' => (∃ (r0 : Bool), e = .returned (.bool r0) ∧ Q r0 w') :=
  (law01_awake.vc Z0 Q  w h).mono fun _ _ hR => hR.elim id fun ⟨_, _, hz⟩ => hz.elim
theorem law01_awake.cal {Z : List PanicEntry → PT} {Q : Bool → PT}  {w : World} (h : law01_awake.F Z Q  w) : Go.Proofs.YtchhffabpgebmaaDoor.cal Tryd.prog Z 9 [] (isB fun r0 => Q r0) w := by
  refine (law01_awake.vc Z Q  w h).mono fun e w' hR => ?_
  rcases hR with ⟨r0, rfl, h⟩ | ⟨c, rfl, h⟩
  · show (isB fun r0 => Q r0) (.bool r0) w'
    exact ⟨_, rfl, h⟩
  · exact h

/-! ### milepost/milepostlaw01.HeadMakes: function 3 -/
noncomputable def law01_HeadMakes.body : Code := bodyC Tryd.f3
def law01_HeadMakes.F (Z : List PanicEntry → PT) (Q : Bool → PT) (src_0 : Int) (dst_1 : Int) (sport_2 : Int) (dport_3 : Int) (proto_4 : Int) : PT :=
  (cal Tryd.prog Z 9 [] (isB fun v96 => (pif (!v96) (Q false) (cal Tryd.prog Z 10 [(Value.int .u32 src_0), (Value.int .u32 dst_1), (Value.int .u16 sport_2), (Value.int .u16 dport_3), (Value.int .u8 proto_4)] (isN fun v97 => (newC 26 [(Value.int .u8 0), (Value.int .u8 0), (Value.int .u8 0), (Value.int .u8 0), (Value.int .u8 0), (Value.int .u8 0), (Value.int .u8 0), (Value.int .u8 0), (Value.int .u8 0), (Value.int .u8 0), (Value.int .u8 0), (Value.int .u8 0), (Value.int .u8 0)] fun h98 => (stN 13 h98 v97 (ldN 13 h98 fun v99 => (cal Tryd.prog Z 11 [(Value.agg ⟨v99⟩), (Value.int .i64 0)] (isT2 fun t100 t101 => (isI .u32 fun v102 => ((isI .i64 fun v103 => (ldN 13 h98 fun v104 => (cal Tryd.prog Z 11 [(Value.agg ⟨v104⟩), (Value.int .i64 1)] (isT2 fun t105 t106 => (isI .u32 fun v107 => ((isI .i64 fun v108 => (ldN 13 h98 fun v109 => (cal Tryd.prog Z 11 [(Value.agg ⟨v109⟩), (Value.int .i64 2)] (isT2 fun t110 t111 => (isI .u32 fun v112 => ((isI .i64 fun v113 => (ldN 13 h98 fun v114 => (cal Tryd.prog Z 11 [(Value.agg ⟨v114⟩), (Value.int .i64 3)] (isT2 fun t115 t116 => (isI .u32 fun v117 => ((isI .i64 fun v118 => (ldN 13 h98 fun v119 => (cal Tryd.prog Z 11 [(Value.agg ⟨v119⟩), (Value.int .i64 4)] (isT2 fun t120 t121 => (isI .u32 fun v122 => ((isI .i64 fun v123 => (drawn fun S124 => (hN S124 13 h98 fun v125 => (cal Tryd.prog Z 12 [(Value.int .u32 src_0), (Value.int .u32 dst_1), (Value.int .u32 (IntKind.wrap .u32 sport_2)), (Value.int .u32 (IntKind.wrap .u32 dport_3)), (Value.int .u32 (IntKind.wrap .u32 proto_4))] (isN fun v126 => (sAnd S124 (runB Tryd.prog (do eqGuard .eql 26 (.tmp 55) (.tmp 64) (Value.agg ⟨v125⟩) (Value.agg ⟨v126⟩); binOp .eql 26 (Value.agg ⟨v125⟩) (Value.agg ⟨v126⟩)) fun v127 => (sAnd S124 (pif v127 (pif (v103 == 0) (pif (v108 == 0) (pif (v113 == 0) (pif (v118 == 0) (pif (v123 == 0) (pif (v102 == src_0) (pif (v107 == dst_1) (pif (v112 == (IntKind.wrap .u32 sport_2)) (pif (v117 == (IntKind.wrap .u32 dport_3)) (Q (v122 == (IntKind.wrap .u32 proto_4))) (Q false)) (Q false)) (Q false)) (Q false)) (Q false)) (Q false)) (Q false)) (Q false)) (Q false)) (Q false)))))))))) t121)) t120)))) t116)) t115)))) t111)) t110)))) t106)) t105)))) t101)) t100))))))))))
def law01_HeadMakes.q1 (Z : List PanicEntry → PT) (Q : Bool → PT) : QF := bodyQ Tryd.prog [.tmp 10] (fun v => atB v fun va => Q va)
theorem law01_HeadMakes.eq (Z : List PanicEntry → PT) (Q : Bool → PT) (src_0 : Int) (dst_1 : Int) (sport_2 : Int) (dport_3 : Int) (proto_4 : Int) : comp Tryd.prog Z law01_HeadMakes.body (law01_HeadMakes.q1 Z Q) (fr0 [(Value.int .u32 src_0), (Value.int .u32 dst_1), (Value.int .u16 sport_2), (Value.int .u16 dport_3), (Value.int .u8 proto_4)]) = law01_HeadMakes.F Z Q src_0 dst_1 sport_2 dport_3 proto_4 := by kernel_rfl
theorem law01_HeadMakes.vc (Z : List PanicEntry → PT) (Q : Bool → PT) (src_0 : Int) (dst_1 : Int) (sport_2 : Int) (dport_3 : Int) (proto_4 : Int) (w : World) (h : law01_HeadMakes.F Z Q src_0 dst_1 sport_2 dport_3 proto_4 w) : Calls Tryd.prog 3 ⟨[(Value.int .u32 src_0), (Value.int .u32 dst_1), (Value.int .u16 sport_2), (Value.int .u16 dport_3), (Value.int .u8 proto_4)]⟩ w fun e w' => (∃ (r0 : Bool), e = .returned (.bool r0) ∧ Q r0 w') ∨ ∃ c, e = .panicked c ∧ Z c w' := by
  refine (calls_of_ok (args := [(Value.int .u32 src_0), (Value.int .u32 dst_1), (Value.int .u16 sport_2), (Value.int .u16 dport_3), (Value.int .u8 proto_4)]) (w := w) (rs := [.tmp 10]) (fn := Tryd.f3) (c := law01_HeadMakes.body) Tryd.func3 (by kernel_rfl) (by kernel_rfl) (Nat.le_of_ble_eq_true (by kernel_rfl)) (okC law01_HeadMakes.body (law01_HeadMakes.q1 Z Q) (by kernel_rfl)) (by rw [law01_HeadMakes.eq]; exact h)).mono fun e w' hR => ?_
  cases e with
  | returned v =>
    obtain ⟨va, rfl, hR⟩ := atB_e hR
    exact .inl ⟨va, rfl, hR⟩
  | panicked c => exact .inr ⟨c, rfl, hR⟩
  | outgrown => exact hR.elim
theorem law01_HeadMakes.vc0 (Q : Bool → PT) (src_0 : Int) (dst_1 : Int) (sport_2 : Int) (dport_3 : Int) (proto_4 : Int) (w : World) (h : law01_HeadMakes.F Z0 Q src_0 dst_1 sport_2 dport_3 proto_4 w) : Calls Tryd.prog 3 ⟨[(Value.int .u32 src_0), (Value.int .u32 dst_1), (Value.int .u16 sport_2), (Value.int .u16 dport_3), (Value.int .u8 proto_4)]⟩ w fun e w' => (∃ (r0 : Bool), e = .returned (.bool r0) ∧ Q r0 w') :=
  (law01_HeadMakes.vc Z0 Q src_0 dst_1 sport_2 dport_3 proto_4 w h).mono fun _ _ hR => hR.elim id fun ⟨_, _, hz⟩ => hz.elim
theorem law01_HeadMakes.cal {Z : List PanicEntry → PT} {Q : Bool → PT} {src_0 : Int} {dst_1 : Int} {sport_2 : Int} {dport_3 : Int} {proto_4 : Int} {w : World} (h : law01_HeadMakes.F Z Q src_0 dst_1 sport_2 dport_3 proto_4 w) : Go.Proofs.YtchhffabpgebmaaDoor.cal Tryd.prog Z 3 [(Value.int .u32 src_0), (Value.int .u32 dst_1), (Value.int .u16 sport_2), (Value.int .u16 dport_3), (Value.int .u8 proto_4)] (isB fun r0 => Q r0) w := by
  refine (law01_HeadMakes.vc Z Q src_0 dst_1 sport_2 dport_3 proto_4 w h).mono fun e w' hR => ?_
  rcases hR with ⟨r0, rfl, h⟩ | ⟨c, rfl, h⟩
  · show (isB fun r0 => Q r0) (.bool r0) w'
    exact ⟨_, rfl, h⟩
  · exact h

/-! ### milepost/milepostlaw01.HeadFields: function 4 -/
noncomputable def law01_HeadFields.body : Code := bodyC Tryd.f4
noncomputable def law01_HeadFields.c1 : Code := sq1 law01_HeadFields.body
noncomputable def law01_HeadFields.c2 : Code := sq1 (sq2 law01_HeadFields.body)
noncomputable def law01_HeadFields.c3 : Code := sq1 (sq2 (sq2 law01_HeadFields.body))
noncomputable def law01_HeadFields.c4 : Code := sq1 (sq2 (sq2 (sq2 law01_HeadFields.body)))
noncomputable def law01_HeadFields.c5 : Code := sq1 (sq2 (sq2 (sq2 (sq2 law01_HeadFields.body))))
noncomputable def law01_HeadFields.c6 : Code := sq1 (sq2 (sq2 (sq2 (sq2 (sq2 law01_HeadFields.body)))))
noncomputable def law01_HeadFields.c7 : Code := sq1 (sq2 (sq2 (sq2 (sq2 (sq2 (sq2 law01_HeadFields.body))))))
noncomputable def law01_HeadFields.c8 : Code := sq2 (sq2 (sq2 (sq2 (sq2 (sq2 (sq2 law01_HeadFields.body))))))
theorem law01_HeadFields.q9 : law01_HeadFields.body = .seq law01_HeadFields.c1 (.seq law01_HeadFields.c2 (.seq law01_HeadFields.c3 (.seq law01_HeadFields.c4 (.seq law01_HeadFields.c5 (.seq law01_HeadFields.c6 (.seq law01_HeadFields.c7 law01_HeadFields.c8)))))) := by kernel_rfl
noncomputable def law01_HeadFields.c10 : Code := sq1 law01_HeadFields.c8
noncomputable def law01_HeadFields.c11 : Code := sq2 law01_HeadFields.c8
theorem law01_HeadFields.q12 : law01_HeadFields.c8 = .seq law01_HeadFields.c10 law01_HeadFields.c11 := by kernel_rfl
def law01_HeadFields.s13 (Z : List PanicEntry → PT) (Q : Bool → PT) (f_1 : Int) (first_15 : Int) (width_16 : Int) (k_17 : Int) : PT :=
  (pif (k_17 != 0) (pif (first_15 == 0) (Q (width_16 == 0)) (Q false)) (cal Tryd.prog Z 17 [(Value.int .i64 f_1)] (isI .i64 fun v301 => (pif (first_15 == v301) (cal Tryd.prog Z 18 [(Value.int .i64 f_1)] (isI .i64 fun v302 => (Q (width_16 == v302)))) (Q false)))))
def law01_HeadFields.q14 (Z : List PanicEntry → PT) (Q : Bool → PT) : QF := bodyQ Tryd.prog [.tmp 6] (fun v => atB v fun va => Q va)
theorem law01_HeadFields.s13_eq (Z : List PanicEntry → PT) (Q : Bool → PT) (ρ : Fr) (f_1 : Int) (first_15 : Int) (width_16 : Int) (k_17 : Int) : comp Tryd.prog Z law01_HeadFields.c11 (law01_HeadFields.q14 Z Q) (puts ρ [(1, (Value.int .i64 f_1)), (15, (Value.int .i64 first_15)), (16, (Value.int .i64 width_16)), (17, (Value.int .i64 k_17))]) = law01_HeadFields.s13 Z Q f_1 first_15 width_16 k_17 := by kernel_rfl
def law01_HeadFields.j15 (Z : List PanicEntry → PT) (Q : Bool → PT) : Fr → PT := (fun ρ => atI .i64 (ρ 1) fun f_1 => atI .i64 (ρ 15) fun first_15 => atI .i64 (ρ 16) fun width_16 => atI .i64 (ρ 17) fun k_17 => (law01_HeadFields.s13 Z Q f_1 first_15 width_16 k_17))
theorem law01_HeadFields.s13_ok (Z : List PanicEntry → PT) (Q : Bool → PT) : Ok Tryd.prog Tryd.f4.ntmps Z law01_HeadFields.c11 (law01_HeadFields.q14 Z Q) (law01_HeadFields.j15 Z Q) := by
  intro E he ρ w a hr h
  obtain ⟨f_1, e1, h⟩ := atI_e h
  obtain ⟨first_15, e15, h⟩ := atI_e h
  obtain ⟨width_16, e16, h⟩ := atI_e h
  obtain ⟨k_17, e17, h⟩ := atI_e h
  exact ok_at [(1, (Value.int .i64 f_1)), (15, (Value.int .i64 first_15)), (16, (Value.int .i64 width_16)), (17, (Value.int .i64 k_17))] (okC law01_HeadFields.c11 (law01_HeadFields.q14 Z Q) (by kernel_rfl)) (puts_cons e1 (puts_cons e15 (puts_cons e16 (puts_cons e17 (fun p hp => puts_nil hp))))) (law01_HeadFields.s13_eq Z Q ρ f_1 first_15 width_16 k_17) he hr h
noncomputable def law01_HeadFields.c16 : Code := sq1 law01_HeadFields.c10
noncomputable def law01_HeadFields.c17 : Code := sq2 law01_HeadFields.c10
theorem law01_HeadFields.q18 : law01_HeadFields.c10 = .seq law01_HeadFields.c16 law01_HeadFields.c17 := by kernel_rfl
def law01_HeadFields.s19 (Z : List PanicEntry → PT) (Q : Bool → PT) (f_1 : Int) (first_15 : Int) (width_16 : Int) (k_17 : Int) (t_74 : Bool) : PT :=
  (pif t_74 (Q false) (law01_HeadFields.s13 Z Q f_1 first_15 width_16 k_17))
def law01_HeadFields.q20 (Z : List PanicEntry → PT) (Q : Bool → PT) : QF := thenK (law01_HeadFields.j15 Z Q) (law01_HeadFields.q14 Z Q)
theorem law01_HeadFields.s19_eq (Z : List PanicEntry → PT) (Q : Bool → PT) (ρ : Fr) (f_1 : Int) (first_15 : Int) (width_16 : Int) (k_17 : Int) (t_74 : Bool) : comp Tryd.prog Z law01_HeadFields.c17 (law01_HeadFields.q20 Z Q) (puts ρ [(1, (Value.int .i64 f_1)), (15, (Value.int .i64 first_15)), (16, (Value.int .i64 width_16)), (17, (Value.int .i64 k_17)), (74, (Value.bool t_74))]) = law01_HeadFields.s19 Z Q f_1 first_15 width_16 k_17 t_74 := by kernel_rfl
def law01_HeadFields.j21 (Z : List PanicEntry → PT) (Q : Bool → PT) : Fr → PT := (fun ρ => atI .i64 (ρ 1) fun f_1 => atI .i64 (ρ 15) fun first_15 => atI .i64 (ρ 16) fun width_16 => atI .i64 (ρ 17) fun k_17 => atB (ρ 74) fun t_74 => (law01_HeadFields.s19 Z Q f_1 first_15 width_16 k_17 t_74))
theorem law01_HeadFields.s19_ok (Z : List PanicEntry → PT) (Q : Bool → PT) : Ok Tryd.prog Tryd.f4.ntmps Z law01_HeadFields.c17 (law01_HeadFields.q20 Z Q) (law01_HeadFields.j21 Z Q) := by
  intro E he ρ w a hr h
  obtain ⟨f_1, e1, h⟩ := atI_e h
  obtain ⟨first_15, e15, h⟩ := atI_e h
  obtain ⟨width_16, e16, h⟩ := atI_e h
  obtain ⟨k_17, e17, h⟩ := atI_e h
  obtain ⟨t_74, e74, h⟩ := atB_e h
  exact ok_at [(1, (Value.int .i64 f_1)), (15, (Value.int .i64 first_15)), (16, (Value.int .i64 width_16)), (17, (Value.int .i64 k_17)), (74, (Value.bool t_74))] (okC law01_HeadFields.c17 (law01_HeadFields.q20 Z Q) (by kernel_rfl)) (puts_cons e1 (puts_cons e15 (puts_cons e16 (puts_cons e17 (puts_cons e74 (fun p hp => puts_nil hp)))))) (law01_HeadFields.s19_eq Z Q ρ f_1 first_15 width_16 k_17 t_74) he hr h
def law01_HeadFields.s22 (Z : List PanicEntry → PT) (Q : Bool → PT) (f_1 : Int) (a_7 : Int) (e_8 : Int) (b_9 : Int) (g_10 : Int) (c_11 : Addr) (i_12 : Int) (d_13 : Addr) (j_14 : Int) (first_15 : Int) (width_16 : Int) (k_17 : Int) : PT :=
  (pif (a_7 != b_9) (law01_HeadFields.s19 Z Q f_1 first_15 width_16 k_17 true) (pif (e_8 != g_10) (law01_HeadFields.s19 Z Q f_1 first_15 width_16 k_17 true) (ldN 13 c_11 fun v309 => (ldN 13 d_13 fun v310 => (runB Tryd.prog (do eqGuard .neq 26 (.tmp 61) (.tmp 62) (Value.agg ⟨v309⟩) (Value.agg ⟨v310⟩); binOp .neq 26 (Value.agg ⟨v309⟩) (Value.agg ⟨v310⟩)) fun v311 => (pif v311 (law01_HeadFields.s19 Z Q f_1 first_15 width_16 k_17 true) (pif (i_12 != j_14) (law01_HeadFields.s19 Z Q f_1 first_15 width_16 k_17 true) (law01_HeadFields.s19 Z Q f_1 first_15 width_16 k_17 (k_17 != e_8)))))))))
theorem law01_HeadFields.s22_eq (Z : List PanicEntry → PT) (Q : Bool → PT) (ρ : Fr) (f_1 : Int) (a_7 : Int) (e_8 : Int) (b_9 : Int) (g_10 : Int) (c_11 : Addr) (i_12 : Int) (d_13 : Addr) (j_14 : Int) (first_15 : Int) (width_16 : Int) (k_17 : Int) : (comp Tryd.prog Z law01_HeadFields.c16 (thenK (law01_HeadFields.j21 Z Q) (law01_HeadFields.q20 Z Q))) (puts ρ [(1, (Value.int .i64 f_1)), (7, (Value.int .u32 a_7)), (8, (Value.int .i64 e_8)), (9, (Value.int .u32 b_9)), (10, (Value.int .i64 g_10)), (11, (Value.pointer (some c_11))), (12, (Value.int .i64 i_12)), (13, (Value.pointer (some d_13))), (14, (Value.int .i64 j_14)), (15, (Value.int .i64 first_15)), (16, (Value.int .i64 width_16)), (17, (Value.int .i64 k_17))]) = law01_HeadFields.s22 Z Q f_1 a_7 e_8 b_9 g_10 c_11 i_12 d_13 j_14 first_15 width_16 k_17 := by kernel_rfl
def law01_HeadFields.j23 (Z : List PanicEntry → PT) (Q : Bool → PT) : Fr → PT := (fun ρ => atI .i64 (ρ 1) fun f_1 => atI .u32 (ρ 7) fun a_7 => atI .i64 (ρ 8) fun e_8 => atI .u32 (ρ 9) fun b_9 => atI .i64 (ρ 10) fun g_10 => atA (ρ 11) fun c_11 => atI .i64 (ρ 12) fun i_12 => atA (ρ 13) fun d_13 => atI .i64 (ρ 14) fun j_14 => atI .i64 (ρ 15) fun first_15 => atI .i64 (ρ 16) fun width_16 => atI .i64 (ρ 17) fun k_17 => (law01_HeadFields.s22 Z Q f_1 a_7 e_8 b_9 g_10 c_11 i_12 d_13 j_14 first_15 width_16 k_17))
theorem law01_HeadFields.s22_ok (Z : List PanicEntry → PT) (Q : Bool → PT) : Ok Tryd.prog Tryd.f4.ntmps Z law01_HeadFields.c10 (law01_HeadFields.q20 Z Q) (law01_HeadFields.j23 Z Q) := by
  intro E he ρ w a hr h
  rw [law01_HeadFields.q18] at he ⊢
  obtain ⟨f_1, e1, h⟩ := atI_e h
  obtain ⟨a_7, e7, h⟩ := atI_e h
  obtain ⟨e_8, e8, h⟩ := atI_e h
  obtain ⟨b_9, e9, h⟩ := atI_e h
  obtain ⟨g_10, e10, h⟩ := atI_e h
  obtain ⟨c_11, e11, h⟩ := atA_e h
  obtain ⟨i_12, e12, h⟩ := atI_e h
  obtain ⟨d_13, e13, h⟩ := atA_e h
  obtain ⟨j_14, e14, h⟩ := atI_e h
  obtain ⟨first_15, e15, h⟩ := atI_e h
  obtain ⟨width_16, e16, h⟩ := atI_e h
  obtain ⟨k_17, e17, h⟩ := atI_e h
  exact ok_at [(1, (Value.int .i64 f_1)), (7, (Value.int .u32 a_7)), (8, (Value.int .i64 e_8)), (9, (Value.int .u32 b_9)), (10, (Value.int .i64 g_10)), (11, (Value.pointer (some c_11))), (12, (Value.int .i64 i_12)), (13, (Value.pointer (some d_13))), (14, (Value.int .i64 j_14)), (15, (Value.int .i64 first_15)), (16, (Value.int .i64 width_16)), (17, (Value.int .i64 k_17))] (ok_seq (okC law01_HeadFields.c16 _ (by kernel_rfl)) (law01_HeadFields.s19_ok Z Q)) (puts_cons e1 (puts_cons e7 (puts_cons e8 (puts_cons e9 (puts_cons e10 (puts_cons e11 (puts_cons e12 (puts_cons e13 (puts_cons e14 (puts_cons e15 (puts_cons e16 (puts_cons e17 (fun p hp => puts_nil hp))))))))))))) (law01_HeadFields.s22_eq Z Q ρ f_1 a_7 e_8 b_9 g_10 c_11 i_12 d_13 j_14 first_15 width_16 k_17) he hr h
theorem law01_HeadFields.o24 (Z : List PanicEntry → PT) (Q : Bool → PT) : Ok Tryd.prog Tryd.f4.ntmps Z law01_HeadFields.c8 (law01_HeadFields.q14 Z Q) (law01_HeadFields.j23 Z Q) := by
  rw [law01_HeadFields.q12]; exact ok_seq (law01_HeadFields.s22_ok Z Q) (law01_HeadFields.s13_ok Z Q)
def law01_HeadFields.s25 (Z : List PanicEntry → PT) (Q : Bool → PT) (h_0 : List Value) (f_1 : Int) (v_2 : Int) : PT :=
  (newC 26 h_0 fun h312 => (cal Tryd.prog Z 9 [] (isB fun v313 => (pif (!v313) (Q false) (ldN 13 h312 fun v314 => (cal Tryd.prog Z 11 [(Value.agg ⟨v314⟩), (Value.int .i64 f_1)] (isT2 fun t315 t316 => (isI .u32 fun v317 => ((isI .i64 fun v318 => (ldN 13 h312 fun v319 => (cal Tryd.prog Z 13 [(Value.agg ⟨v319⟩), (Value.int .i64 f_1)] (isT2 fun t320 t321 => (isI .u32 fun v322 => ((isI .i64 fun v323 => (ldN 13 h312 fun v324 => (cal Tryd.prog Z 14 [(Value.agg ⟨v324⟩), (Value.int .i64 f_1), (Value.int .u32 v_2)] (isT2 fun t325 t326 => (isN fun v327 => ((isI .i64 fun v328 => (newC 26 [(Value.int .u8 0), (Value.int .u8 0), (Value.int .u8 0), (Value.int .u8 0), (Value.int .u8 0), (Value.int .u8 0), (Value.int .u8 0), (Value.int .u8 0), (Value.int .u8 0), (Value.int .u8 0), (Value.int .u8 0), (Value.int .u8 0), (Value.int .u8 0)] fun c329 => (stN 13 c329 v327 (ldN 13 h312 fun v330 => (cal Tryd.prog Z 15 [(Value.agg ⟨v330⟩), (Value.int .i64 f_1), (Value.int .u32 v_2)] (isT2 fun t331 t332 => (isN fun v333 => ((isI .i64 fun v334 => (newC 26 [(Value.int .u8 0), (Value.int .u8 0), (Value.int .u8 0), (Value.int .u8 0), (Value.int .u8 0), (Value.int .u8 0), (Value.int .u8 0), (Value.int .u8 0), (Value.int .u8 0), (Value.int .u8 0), (Value.int .u8 0), (Value.int .u8 0), (Value.int .u8 0)] fun d335 => (stN 13 d335 v333 (cal Tryd.prog Z 16 [(Value.int .i64 f_1)] (isT3 fun t336 t337 t338 => (isI .i64 fun v339 => ((isI .i64 fun v340 => ((isI .i64 fun v341 => (law01_HeadFields.s22 Z Q f_1 v317 v318 v322 v323 c329 v328 d335 v334 v339 v340 v341)) t338)) t337)) t336))))) t332)) t331)))))) t326)) t325)))) t321)) t320)))) t316)) t315)))))))
theorem law01_HeadFields.s25_eq (Z : List PanicEntry → PT) (Q : Bool → PT) (ρ : Fr) (h_0 : List Value) (f_1 : Int) (v_2 : Int) : (comp Tryd.prog Z law01_HeadFields.c1 (thenK (comp Tryd.prog Z law01_HeadFields.c2 (thenK (comp Tryd.prog Z law01_HeadFields.c3 (thenK (comp Tryd.prog Z law01_HeadFields.c4 (thenK (comp Tryd.prog Z law01_HeadFields.c5 (thenK (comp Tryd.prog Z law01_HeadFields.c6 (thenK (comp Tryd.prog Z law01_HeadFields.c7 (thenK (law01_HeadFields.j23 Z Q) (law01_HeadFields.q14 Z Q))) (law01_HeadFields.q14 Z Q))) (law01_HeadFields.q14 Z Q))) (law01_HeadFields.q14 Z Q))) (law01_HeadFields.q14 Z Q))) (law01_HeadFields.q14 Z Q))) (law01_HeadFields.q14 Z Q))) (puts ρ [(0, (Value.agg ⟨h_0⟩)), (1, (Value.int .i64 f_1)), (2, (Value.int .u32 v_2))]) = law01_HeadFields.s25 Z Q h_0 f_1 v_2 := by kernel_rfl
def law01_HeadFields.j26 (Z : List PanicEntry → PT) (Q : Bool → PT) : Fr → PT := (fun ρ => atN (ρ 0) fun h_0 => atI .i64 (ρ 1) fun f_1 => atI .u32 (ρ 2) fun v_2 => (law01_HeadFields.s25 Z Q h_0 f_1 v_2))
theorem law01_HeadFields.s25_ok (Z : List PanicEntry → PT) (Q : Bool → PT) : Ok Tryd.prog Tryd.f4.ntmps Z law01_HeadFields.body (law01_HeadFields.q14 Z Q) (law01_HeadFields.j26 Z Q) := by
  intro E he ρ w a hr h
  rw [law01_HeadFields.q9] at he ⊢
  obtain ⟨h_0, e0, h⟩ := atN_e h
  obtain ⟨f_1, e1, h⟩ := atI_e h
  obtain ⟨v_2, e2, h⟩ := atI_e h
  exact ok_at [(0, (Value.agg ⟨h_0⟩)), (1, (Value.int .i64 f_1)), (2, (Value.int .u32 v_2))] (ok_seq (okC law01_HeadFields.c1 _ (by kernel_rfl)) (ok_seq (okC law01_HeadFields.c2 _ (by kernel_rfl)) (ok_seq (okC law01_HeadFields.c3 _ (by kernel_rfl)) (ok_seq (okC law01_HeadFields.c4 _ (by kernel_rfl)) (ok_seq (okC law01_HeadFields.c5 _ (by kernel_rfl)) (ok_seq (okC law01_HeadFields.c6 _ (by kernel_rfl)) (ok_seq (okC law01_HeadFields.c7 _ (by kernel_rfl)) (law01_HeadFields.o24 Z Q)))))))) (puts_cons e0 (puts_cons e1 (puts_cons e2 (fun p hp => puts_nil hp)))) (law01_HeadFields.s25_eq Z Q ρ h_0 f_1 v_2) he hr h
def law01_HeadFields.F (Z : List PanicEntry → PT) (Q : Bool → PT) (h_0 : List Value) (f_1 : Int) (v_2 : Int) : PT :=
  (law01_HeadFields.s25 Z Q h_0 f_1 v_2)
theorem law01_HeadFields.vc (Z : List PanicEntry → PT) (Q : Bool → PT) (h_0 : List Value) (f_1 : Int) (v_2 : Int) (w : World) (h : law01_HeadFields.F Z Q h_0 f_1 v_2 w) : Calls Tryd.prog 4 ⟨[(Value.agg ⟨h_0⟩), (Value.int .i64 f_1), (Value.int .u32 v_2)]⟩ w fun e w' => (∃ (r0 : Bool), e = .returned (.bool r0) ∧ Q r0 w') ∨ ∃ c, e = .panicked c ∧ Z c w' := by
  refine (calls_of_ok (args := [(Value.agg ⟨h_0⟩), (Value.int .i64 f_1), (Value.int .u32 v_2)]) (w := w) (rs := [.tmp 6]) (fn := Tryd.f4) (c := law01_HeadFields.body) Tryd.func4 (by kernel_rfl) (by kernel_rfl) (Nat.le_of_ble_eq_true (by kernel_rfl)) (law01_HeadFields.s25_ok Z Q) (h)).mono fun e w' hR => ?_
  cases e with
  | returned v =>
    obtain ⟨va, rfl, hR⟩ := atB_e hR
    exact .inl ⟨va, rfl, hR⟩
  | panicked c => exact .inr ⟨c, rfl, hR⟩
  | outgrown => exact hR.elim
theorem law01_HeadFields.vc0 (Q : Bool → PT) (h_0 : List Value) (f_1 : Int) (v_2 : Int) (w : World) (h : law01_HeadFields.F Z0 Q h_0 f_1 v_2 w) : Calls Tryd.prog 4 ⟨[(Value.agg ⟨h_0⟩), (Value.int .i64 f_1), (Value.int .u32 v_2)]⟩ w fun e w' => (∃ (r0 : Bool), e = .returned (.bool r0) ∧ Q r0 w') :=
  (law01_HeadFields.vc Z0 Q h_0 f_1 v_2 w h).mono fun _ _ hR => hR.elim id fun ⟨_, _, hz⟩ => hz.elim
theorem law01_HeadFields.cal {Z : List PanicEntry → PT} {Q : Bool → PT} {h_0 : List Value} {f_1 : Int} {v_2 : Int} {w : World} (h : law01_HeadFields.F Z Q h_0 f_1 v_2 w) : Go.Proofs.YtchhffabpgebmaaDoor.cal Tryd.prog Z 4 [(Value.agg ⟨h_0⟩), (Value.int .i64 f_1), (Value.int .u32 v_2)] (isB fun r0 => Q r0) w := by
  refine (law01_HeadFields.vc Z Q h_0 f_1 v_2 w h).mono fun e w' hR => ?_
  rcases hR with ⟨r0, rfl, h⟩ | ⟨c, rfl, h⟩
  · show (isB fun r0 => Q r0) (.bool r0) w'
    exact ⟨_, rfl, h⟩
  · exact h

/-! ### milepost/milepostlaw01.HeadBits: function 5 -/
noncomputable def law01_HeadBits.body : Code := bodyC Tryd.f5
noncomputable def law01_HeadBits.c1 : Code := sq1 law01_HeadBits.body
noncomputable def law01_HeadBits.c2 : Code := sq1 (sq2 law01_HeadBits.body)
noncomputable def law01_HeadBits.c3 : Code := sq1 (sq2 (sq2 law01_HeadBits.body))
noncomputable def law01_HeadBits.c4 : Code := sq1 (sq2 (sq2 (sq2 law01_HeadBits.body)))
noncomputable def law01_HeadBits.c5 : Code := sq2 (sq2 (sq2 (sq2 law01_HeadBits.body)))
theorem law01_HeadBits.q6 : law01_HeadBits.body = .seq law01_HeadBits.c1 (.seq law01_HeadBits.c2 (.seq law01_HeadBits.c3 (.seq law01_HeadBits.c4 law01_HeadBits.c5))) := by kernel_rfl
def law01_HeadBits.s7 (Z : List PanicEntry → PT) (Q : Bool → PT) (i_1 : Int) (k_2 : Int) (h_3 : Addr) (g_7 : Addr) (in_8 : Bool) : PT :=
  (drawn fun S67 => (hN S67 13 h_3 fun v68 => (hN S67 13 h_3 fun v69 => (cal Tryd.prog Z 20 [(Value.agg ⟨v68⟩), (Value.int .i64 i_1)] (isB fun v70 => (sAnd S67 (cal Tryd.prog Z 21 [(Value.agg ⟨v69⟩), (Value.int .i64 i_1)] (isB fun v71 => (sAnd S67 (pif (!(v70 == v71)) (Q false) (hN S67 13 g_7 fun v72 => (hN S67 13 h_3 fun v73 => (cal Tryd.prog Z 19 [(Value.agg ⟨v72⟩), (Value.int .i64 i_1)] (isN fun v74 => (sAnd S67 (runB Tryd.prog (do eqGuard .neq 26 (.tmp 30) (.tmp 31) (Value.agg ⟨v74⟩) (Value.agg ⟨v73⟩); binOp .neq 26 (Value.agg ⟨v74⟩) (Value.agg ⟨v73⟩)) fun v75 => (sAnd S67 (pif v75 (Q false) (hN S67 13 g_7 fun v76 => (hN S67 13 h_3 fun v77 => (runB Tryd.prog (do eqGuard .neq 26 (.tmp 36) (.tmp 37) (Value.agg ⟨v76⟩) (Value.agg ⟨v77⟩); binOp .neq 26 (Value.agg ⟨v76⟩) (Value.agg ⟨v77⟩)) fun v78 => (sAnd S67 (pif (!(in_8 == v78)) (Q false) (drawn fun S79 => (hN S79 13 g_7 fun v80 => (hN S79 13 h_3 fun v81 => (cal Tryd.prog Z 20 [(Value.agg ⟨v80⟩), (Value.int .i64 k_2)] (isB fun v82 => (sAnd S79 (cal Tryd.prog Z 20 [(Value.agg ⟨v81⟩), (Value.int .i64 k_2)] (isB fun v83 => (sAnd S79 (pif in_8 (Q (v82 == (!(v83 == (i_1 == k_2))))) (Q (v82 == (!(v83 == false)))))))))))))))))))))))))))))))))))))
def law01_HeadBits.q8 (Z : List PanicEntry → PT) (Q : Bool → PT) : QF := bodyQ Tryd.prog [.tmp 6] (fun v => atB v fun va => Q va)
theorem law01_HeadBits.s7_eq (Z : List PanicEntry → PT) (Q : Bool → PT) (ρ : Fr) (i_1 : Int) (k_2 : Int) (h_3 : Addr) (g_7 : Addr) (in_8 : Bool) : comp Tryd.prog Z law01_HeadBits.c5 (law01_HeadBits.q8 Z Q) (puts ρ [(1, (Value.int .i64 i_1)), (2, (Value.int .i64 k_2)), (3, (Value.pointer (some h_3))), (7, (Value.pointer (some g_7))), (8, (Value.bool in_8))]) = law01_HeadBits.s7 Z Q i_1 k_2 h_3 g_7 in_8 := by kernel_rfl
def law01_HeadBits.j9 (Z : List PanicEntry → PT) (Q : Bool → PT) : Fr → PT := (fun ρ => atI .i64 (ρ 1) fun i_1 => atI .i64 (ρ 2) fun k_2 => atA (ρ 3) fun h_3 => atA (ρ 7) fun g_7 => atB (ρ 8) fun in_8 => (law01_HeadBits.s7 Z Q i_1 k_2 h_3 g_7 in_8))
theorem law01_HeadBits.s7_ok (Z : List PanicEntry → PT) (Q : Bool → PT) : Ok Tryd.prog Tryd.f5.ntmps Z law01_HeadBits.c5 (law01_HeadBits.q8 Z Q) (law01_HeadBits.j9 Z Q) := by
  intro E he ρ w a hr h
  obtain ⟨i_1, e1, h⟩ := atI_e h
  obtain ⟨k_2, e2, h⟩ := atI_e h
  obtain ⟨h_3, e3, h⟩ := atA_e h
  obtain ⟨g_7, e7, h⟩ := atA_e h
  obtain ⟨in_8, e8, h⟩ := atB_e h
  exact ok_at [(1, (Value.int .i64 i_1)), (2, (Value.int .i64 k_2)), (3, (Value.pointer (some h_3))), (7, (Value.pointer (some g_7))), (8, (Value.bool in_8))] (okC law01_HeadBits.c5 (law01_HeadBits.q8 Z Q) (by kernel_rfl)) (puts_cons e1 (puts_cons e2 (puts_cons e3 (puts_cons e7 (puts_cons e8 (fun p hp => puts_nil hp)))))) (law01_HeadBits.s7_eq Z Q ρ i_1 k_2 h_3 g_7 in_8) he hr h
def law01_HeadBits.s10 (Z : List PanicEntry → PT) (Q : Bool → PT) (h_0 : List Value) (i_1 : Int) (k_2 : Int) : PT :=
  (newC 26 h_0 fun h84 => (cal Tryd.prog Z 9 [] (isB fun v85 => (pif (!v85) (Q false) (ldN 13 h84 fun v86 => (cal Tryd.prog Z 19 [(Value.agg ⟨v86⟩), (Value.int .i64 i_1)] (isN fun v87 => (newC 26 [(Value.int .u8 0), (Value.int .u8 0), (Value.int .u8 0), (Value.int .u8 0), (Value.int .u8 0), (Value.int .u8 0), (Value.int .u8 0), (Value.int .u8 0), (Value.int .u8 0), (Value.int .u8 0), (Value.int .u8 0), (Value.int .u8 0), (Value.int .u8 0)] fun g88 => (stN 13 g88 v87 (pif (decide (i_1 ≥ 0)) (law01_HeadBits.s7 Z Q i_1 k_2 h84 g88 (decide (i_1 < 104))) (law01_HeadBits.s7 Z Q i_1 k_2 h84 g88 false)))))))))))
theorem law01_HeadBits.s10_eq (Z : List PanicEntry → PT) (Q : Bool → PT) (ρ : Fr) (h_0 : List Value) (i_1 : Int) (k_2 : Int) : (comp Tryd.prog Z law01_HeadBits.c1 (thenK (comp Tryd.prog Z law01_HeadBits.c2 (thenK (comp Tryd.prog Z law01_HeadBits.c3 (thenK (comp Tryd.prog Z law01_HeadBits.c4 (thenK (law01_HeadBits.j9 Z Q) (law01_HeadBits.q8 Z Q))) (law01_HeadBits.q8 Z Q))) (law01_HeadBits.q8 Z Q))) (law01_HeadBits.q8 Z Q))) (puts ρ [(0, (Value.agg ⟨h_0⟩)), (1, (Value.int .i64 i_1)), (2, (Value.int .i64 k_2))]) = law01_HeadBits.s10 Z Q h_0 i_1 k_2 := by kernel_rfl
def law01_HeadBits.j11 (Z : List PanicEntry → PT) (Q : Bool → PT) : Fr → PT := (fun ρ => atN (ρ 0) fun h_0 => atI .i64 (ρ 1) fun i_1 => atI .i64 (ρ 2) fun k_2 => (law01_HeadBits.s10 Z Q h_0 i_1 k_2))
theorem law01_HeadBits.s10_ok (Z : List PanicEntry → PT) (Q : Bool → PT) : Ok Tryd.prog Tryd.f5.ntmps Z law01_HeadBits.body (law01_HeadBits.q8 Z Q) (law01_HeadBits.j11 Z Q) := by
  intro E he ρ w a hr h
  rw [law01_HeadBits.q6] at he ⊢
  obtain ⟨h_0, e0, h⟩ := atN_e h
  obtain ⟨i_1, e1, h⟩ := atI_e h
  obtain ⟨k_2, e2, h⟩ := atI_e h
  exact ok_at [(0, (Value.agg ⟨h_0⟩)), (1, (Value.int .i64 i_1)), (2, (Value.int .i64 k_2))] (ok_seq (okC law01_HeadBits.c1 _ (by kernel_rfl)) (ok_seq (okC law01_HeadBits.c2 _ (by kernel_rfl)) (ok_seq (okC law01_HeadBits.c3 _ (by kernel_rfl)) (ok_seq (okC law01_HeadBits.c4 _ (by kernel_rfl)) (law01_HeadBits.s7_ok Z Q))))) (puts_cons e0 (puts_cons e1 (puts_cons e2 (fun p hp => puts_nil hp)))) (law01_HeadBits.s10_eq Z Q ρ h_0 i_1 k_2) he hr h
def law01_HeadBits.F (Z : List PanicEntry → PT) (Q : Bool → PT) (h_0 : List Value) (i_1 : Int) (k_2 : Int) : PT :=
  (law01_HeadBits.s10 Z Q h_0 i_1 k_2)
theorem law01_HeadBits.vc (Z : List PanicEntry → PT) (Q : Bool → PT) (h_0 : List Value) (i_1 : Int) (k_2 : Int) (w : World) (h : law01_HeadBits.F Z Q h_0 i_1 k_2 w) : Calls Tryd.prog 5 ⟨[(Value.agg ⟨h_0⟩), (Value.int .i64 i_1), (Value.int .i64 k_2)]⟩ w fun e w' => (∃ (r0 : Bool), e = .returned (.bool r0) ∧ Q r0 w') ∨ ∃ c, e = .panicked c ∧ Z c w' := by
  refine (calls_of_ok (args := [(Value.agg ⟨h_0⟩), (Value.int .i64 i_1), (Value.int .i64 k_2)]) (w := w) (rs := [.tmp 6]) (fn := Tryd.f5) (c := law01_HeadBits.body) Tryd.func5 (by kernel_rfl) (by kernel_rfl) (Nat.le_of_ble_eq_true (by kernel_rfl)) (law01_HeadBits.s10_ok Z Q) (h)).mono fun e w' hR => ?_
  cases e with
  | returned v =>
    obtain ⟨va, rfl, hR⟩ := atB_e hR
    exact .inl ⟨va, rfl, hR⟩
  | panicked c => exact .inr ⟨c, rfl, hR⟩
  | outgrown => exact hR.elim
theorem law01_HeadBits.vc0 (Q : Bool → PT) (h_0 : List Value) (i_1 : Int) (k_2 : Int) (w : World) (h : law01_HeadBits.F Z0 Q h_0 i_1 k_2 w) : Calls Tryd.prog 5 ⟨[(Value.agg ⟨h_0⟩), (Value.int .i64 i_1), (Value.int .i64 k_2)]⟩ w fun e w' => (∃ (r0 : Bool), e = .returned (.bool r0) ∧ Q r0 w') :=
  (law01_HeadBits.vc Z0 Q h_0 i_1 k_2 w h).mono fun _ _ hR => hR.elim id fun ⟨_, _, hz⟩ => hz.elim
theorem law01_HeadBits.cal {Z : List PanicEntry → PT} {Q : Bool → PT} {h_0 : List Value} {i_1 : Int} {k_2 : Int} {w : World} (h : law01_HeadBits.F Z Q h_0 i_1 k_2 w) : Go.Proofs.YtchhffabpgebmaaDoor.cal Tryd.prog Z 5 [(Value.agg ⟨h_0⟩), (Value.int .i64 i_1), (Value.int .i64 k_2)] (isB fun r0 => Q r0) w := by
  refine (law01_HeadBits.vc Z Q h_0 i_1 k_2 w h).mono fun e w' hR => ?_
  rcases hR with ⟨r0, rfl, h⟩ | ⟨c, rfl, h⟩
  · show (isB fun r0 => Q r0) (.bool r0) w'
    exact ⟨_, rfl, h⟩
  · exact h

/-! ### milepost/milepostlaw01.HeadOrder: function 6 -/
noncomputable def law01_HeadOrder.body : Code := bodyC Tryd.f6
noncomputable def law01_HeadOrder.c1 : Code := sq1 law01_HeadOrder.body
noncomputable def law01_HeadOrder.c2 : Code := sq1 (sq2 law01_HeadOrder.body)
noncomputable def law01_HeadOrder.c3 : Code := sq1 (sq2 (sq2 law01_HeadOrder.body))
noncomputable def law01_HeadOrder.c4 : Code := sq2 (sq2 (sq2 law01_HeadOrder.body))
theorem law01_HeadOrder.q5 : law01_HeadOrder.body = .seq law01_HeadOrder.c1 (.seq law01_HeadOrder.c2 (.seq law01_HeadOrder.c3 law01_HeadOrder.c4)) := by kernel_rfl
def law01_HeadOrder.s6 (Z : List PanicEntry → PT) (Q : Bool → PT) (a_3 : Addr) (b_4 : Addr) (c_5 : Addr) : PT :=
  (ldN 13 a_3 fun v151 => (ldN 13 b_4 fun v152 => (cal Tryd.prog Z 22 [(Value.agg ⟨v151⟩), (Value.agg ⟨v152⟩)] (isB fun v153 => (pif (!v153) (Q true) (ldN 13 b_4 fun v154 => (ldN 13 c_5 fun v155 => (cal Tryd.prog Z 22 [(Value.agg ⟨v154⟩), (Value.agg ⟨v155⟩)] (isB fun v156 => (pif (!v156) (Q true) (ldN 13 a_3 fun v157 => (ldN 13 c_5 fun v158 => (cal Tryd.prog Z 22 [(Value.agg ⟨v157⟩), (Value.agg ⟨v158⟩)] (isB fun v159 => (Q v159)))))))))))))))
def law01_HeadOrder.q7 (Z : List PanicEntry → PT) (Q : Bool → PT) : QF := bodyQ Tryd.prog [.tmp 6] (fun v => atB v fun va => Q va)
theorem law01_HeadOrder.s6_eq (Z : List PanicEntry → PT) (Q : Bool → PT) (ρ : Fr) (a_3 : Addr) (b_4 : Addr) (c_5 : Addr) : comp Tryd.prog Z law01_HeadOrder.c4 (law01_HeadOrder.q7 Z Q) (puts ρ [(3, (Value.pointer (some a_3))), (4, (Value.pointer (some b_4))), (5, (Value.pointer (some c_5)))]) = law01_HeadOrder.s6 Z Q a_3 b_4 c_5 := by kernel_rfl
def law01_HeadOrder.j8 (Z : List PanicEntry → PT) (Q : Bool → PT) : Fr → PT := (fun ρ => atA (ρ 3) fun a_3 => atA (ρ 4) fun b_4 => atA (ρ 5) fun c_5 => (law01_HeadOrder.s6 Z Q a_3 b_4 c_5))
theorem law01_HeadOrder.s6_ok (Z : List PanicEntry → PT) (Q : Bool → PT) : Ok Tryd.prog Tryd.f6.ntmps Z law01_HeadOrder.c4 (law01_HeadOrder.q7 Z Q) (law01_HeadOrder.j8 Z Q) := by
  intro E he ρ w a hr h
  obtain ⟨a_3, e3, h⟩ := atA_e h
  obtain ⟨b_4, e4, h⟩ := atA_e h
  obtain ⟨c_5, e5, h⟩ := atA_e h
  exact ok_at [(3, (Value.pointer (some a_3))), (4, (Value.pointer (some b_4))), (5, (Value.pointer (some c_5)))] (okC law01_HeadOrder.c4 (law01_HeadOrder.q7 Z Q) (by kernel_rfl)) (puts_cons e3 (puts_cons e4 (puts_cons e5 (fun p hp => puts_nil hp)))) (law01_HeadOrder.s6_eq Z Q ρ a_3 b_4 c_5) he hr h
def law01_HeadOrder.s9 (Z : List PanicEntry → PT) (Q : Bool → PT) (a_0 : List Value) (b_1 : List Value) (c_2 : List Value) : PT :=
  (newC 26 a_0 fun a160 => (newC 26 b_1 fun b161 => (newC 26 c_2 fun c162 => (cal Tryd.prog Z 9 [] (isB fun v163 => (pif (!v163) (Q false) (drawn fun S164 => (hN S164 13 a160 fun v165 => (hN S164 13 b161 fun v166 => (hN S164 13 a160 fun v167 => (hN S164 13 b161 fun v168 => (cal Tryd.prog Z 22 [(Value.agg ⟨v165⟩), (Value.agg ⟨v166⟩)] (isB fun v169 => (sAnd S164 (cal Tryd.prog Z 23 [(Value.agg ⟨v167⟩), (Value.agg ⟨v168⟩)] (isB fun v170 => (sAnd S164 (pif (!(v169 == v170)) (Q false) (hN S164 13 a160 fun v171 => (hN S164 13 a160 fun v172 => (cal Tryd.prog Z 22 [(Value.agg ⟨v171⟩), (Value.agg ⟨v172⟩)] (isB fun v173 => (sAnd S164 (pif v173 (Q false) (hN S164 13 a160 fun v174 => (hN S164 13 b161 fun v175 => (runB Tryd.prog (do eqGuard .neq 26 (.tmp 22) (.tmp 23) (Value.agg ⟨v174⟩) (Value.agg ⟨v175⟩); binOp .neq 26 (Value.agg ⟨v174⟩) (Value.agg ⟨v175⟩)) fun v176 => (sAnd S164 (pif v176 (hN S164 13 a160 fun v177 => (hN S164 13 b161 fun v178 => (hN S164 13 b161 fun v179 => (hN S164 13 a160 fun v180 => (cal Tryd.prog Z 22 [(Value.agg ⟨v177⟩), (Value.agg ⟨v178⟩)] (isB fun v181 => (sAnd S164 (cal Tryd.prog Z 22 [(Value.agg ⟨v179⟩), (Value.agg ⟨v180⟩)] (isB fun v182 => (sAnd S164 (pif (v181 == v182) (Q false) (law01_HeadOrder.s6 Z Q a160 b161 c162)))))))))))) (law01_HeadOrder.s6 Z Q a160 b161 c162))))))))))))))))))))))))))))))
theorem law01_HeadOrder.s9_eq (Z : List PanicEntry → PT) (Q : Bool → PT) (ρ : Fr) (a_0 : List Value) (b_1 : List Value) (c_2 : List Value) : (comp Tryd.prog Z law01_HeadOrder.c1 (thenK (comp Tryd.prog Z law01_HeadOrder.c2 (thenK (comp Tryd.prog Z law01_HeadOrder.c3 (thenK (law01_HeadOrder.j8 Z Q) (law01_HeadOrder.q7 Z Q))) (law01_HeadOrder.q7 Z Q))) (law01_HeadOrder.q7 Z Q))) (puts ρ [(0, (Value.agg ⟨a_0⟩)), (1, (Value.agg ⟨b_1⟩)), (2, (Value.agg ⟨c_2⟩))]) = law01_HeadOrder.s9 Z Q a_0 b_1 c_2 := by kernel_rfl
def law01_HeadOrder.j10 (Z : List PanicEntry → PT) (Q : Bool → PT) : Fr → PT := (fun ρ => atN (ρ 0) fun a_0 => atN (ρ 1) fun b_1 => atN (ρ 2) fun c_2 => (law01_HeadOrder.s9 Z Q a_0 b_1 c_2))
theorem law01_HeadOrder.s9_ok (Z : List PanicEntry → PT) (Q : Bool → PT) : Ok Tryd.prog Tryd.f6.ntmps Z law01_HeadOrder.body (law01_HeadOrder.q7 Z Q) (law01_HeadOrder.j10 Z Q) := by
  intro E he ρ w a hr h
  rw [law01_HeadOrder.q5] at he ⊢
  obtain ⟨a_0, e0, h⟩ := atN_e h
  obtain ⟨b_1, e1, h⟩ := atN_e h
  obtain ⟨c_2, e2, h⟩ := atN_e h
  exact ok_at [(0, (Value.agg ⟨a_0⟩)), (1, (Value.agg ⟨b_1⟩)), (2, (Value.agg ⟨c_2⟩))] (ok_seq (okC law01_HeadOrder.c1 _ (by kernel_rfl)) (ok_seq (okC law01_HeadOrder.c2 _ (by kernel_rfl)) (ok_seq (okC law01_HeadOrder.c3 _ (by kernel_rfl)) (law01_HeadOrder.s6_ok Z Q)))) (puts_cons e0 (puts_cons e1 (puts_cons e2 (fun p hp => puts_nil hp)))) (law01_HeadOrder.s9_eq Z Q ρ a_0 b_1 c_2) he hr h
def law01_HeadOrder.F (Z : List PanicEntry → PT) (Q : Bool → PT) (a_0 : List Value) (b_1 : List Value) (c_2 : List Value) : PT :=
  (law01_HeadOrder.s9 Z Q a_0 b_1 c_2)
theorem law01_HeadOrder.vc (Z : List PanicEntry → PT) (Q : Bool → PT) (a_0 : List Value) (b_1 : List Value) (c_2 : List Value) (w : World) (h : law01_HeadOrder.F Z Q a_0 b_1 c_2 w) : Calls Tryd.prog 6 ⟨[(Value.agg ⟨a_0⟩), (Value.agg ⟨b_1⟩), (Value.agg ⟨c_2⟩)]⟩ w fun e w' => (∃ (r0 : Bool), e = .returned (.bool r0) ∧ Q r0 w') ∨ ∃ c, e = .panicked c ∧ Z c w' := by
  refine (calls_of_ok (args := [(Value.agg ⟨a_0⟩), (Value.agg ⟨b_1⟩), (Value.agg ⟨c_2⟩)]) (w := w) (rs := [.tmp 6]) (fn := Tryd.f6) (c := law01_HeadOrder.body) Tryd.func6 (by kernel_rfl) (by kernel_rfl) (Nat.le_of_ble_eq_true (by kernel_rfl)) (law01_HeadOrder.s9_ok Z Q) (h)).mono fun e w' hR => ?_
  cases e with
  | returned v =>
    obtain ⟨va, rfl, hR⟩ := atB_e hR
    exact .inl ⟨va, rfl, hR⟩
  | panicked c => exact .inr ⟨c, rfl, hR⟩
  | outgrown => exact hR.elim
theorem law01_HeadOrder.vc0 (Q : Bool → PT) (a_0 : List Value) (b_1 : List Value) (c_2 : List Value) (w : World) (h : law01_HeadOrder.F Z0 Q a_0 b_1 c_2 w) : Calls Tryd.prog 6 ⟨[(Value.agg ⟨a_0⟩), (Value.agg ⟨b_1⟩), (Value.agg ⟨c_2⟩)]⟩ w fun e w' => (∃ (r0 : Bool), e = .returned (.bool r0) ∧ Q r0 w') :=
  (law01_HeadOrder.vc Z0 Q a_0 b_1 c_2 w h).mono fun _ _ hR => hR.elim id fun ⟨_, _, hz⟩ => hz.elim
theorem law01_HeadOrder.cal {Z : List PanicEntry → PT} {Q : Bool → PT} {a_0 : List Value} {b_1 : List Value} {c_2 : List Value} {w : World} (h : law01_HeadOrder.F Z Q a_0 b_1 c_2 w) : Go.Proofs.YtchhffabpgebmaaDoor.cal Tryd.prog Z 6 [(Value.agg ⟨a_0⟩), (Value.agg ⟨b_1⟩), (Value.agg ⟨c_2⟩)] (isB fun r0 => Q r0) w := by
  refine (law01_HeadOrder.vc Z Q a_0 b_1 c_2 w h).mono fun e w' hR => ?_
  rcases hR with ⟨r0, rfl, h⟩ | ⟨c, rfl, h⟩
  · show (isB fun r0 => Q r0) (.bool r0) w'
    exact ⟨_, rfl, h⟩
  · exact h

/-! ### milepost/milepostlaw01.HeadTexts: function 7 -/
noncomputable def law01_HeadTexts.body : Code := bodyC Tryd.f7
def law01_HeadTexts.F (Z : List PanicEntry → PT) (Q : Bool → PT) (h_0 : List Value) : PT :=
  (newC 26 h_0 fun h18 => (cal Tryd.prog Z 9 [] (isB fun v19 => (pif (!v19) (Q false) (ldN 13 h18 fun v20 => (cal Tryd.prog Z 24 [(Value.agg ⟨v20⟩)] (isS fun v21 => (cal Tryd.prog Z 25 [(Value.string v21)] (isT2 fun t22 t23 => (isN fun v24 => ((isI .i64 fun v25 => (newC 26 [(Value.int .u8 0), (Value.int .u8 0), (Value.int .u8 0), (Value.int .u8 0), (Value.int .u8 0), (Value.int .u8 0), (Value.int .u8 0), (Value.int .u8 0), (Value.int .u8 0), (Value.int .u8 0), (Value.int .u8 0), (Value.int .u8 0), (Value.int .u8 0)] fun g26 => (stN 13 g26 v24 (ldN 13 h18 fun v27 => (cal Tryd.prog Z 26 [(Value.agg ⟨v27⟩)] (isS fun v28 => (pif (v21.toList == v28.toList) (ldN 13 g26 fun v29 => (ldN 13 h18 fun v30 => (runB Tryd.prog (do eqGuard .eql 26 (.tmp 20) (.tmp 21) (Value.agg ⟨v29⟩) (Value.agg ⟨v30⟩); binOp .eql 26 (Value.agg ⟨v29⟩) (Value.agg ⟨v30⟩)) fun v31 => (pif v31 (Q (v25 == 0)) (Q false))))) (Q false)))))))) t23)) t22)))))))))
def law01_HeadTexts.q1 (Z : List PanicEntry → PT) (Q : Bool → PT) : QF := bodyQ Tryd.prog [.tmp 2] (fun v => atB v fun va => Q va)
theorem law01_HeadTexts.eq (Z : List PanicEntry → PT) (Q : Bool → PT) (h_0 : List Value) : comp Tryd.prog Z law01_HeadTexts.body (law01_HeadTexts.q1 Z Q) (fr0 [(Value.agg ⟨h_0⟩)]) = law01_HeadTexts.F Z Q h_0 := by kernel_rfl
theorem law01_HeadTexts.vc (Z : List PanicEntry → PT) (Q : Bool → PT) (h_0 : List Value) (w : World) (h : law01_HeadTexts.F Z Q h_0 w) : Calls Tryd.prog 7 ⟨[(Value.agg ⟨h_0⟩)]⟩ w fun e w' => (∃ (r0 : Bool), e = .returned (.bool r0) ∧ Q r0 w') ∨ ∃ c, e = .panicked c ∧ Z c w' := by
  refine (calls_of_ok (args := [(Value.agg ⟨h_0⟩)]) (w := w) (rs := [.tmp 2]) (fn := Tryd.f7) (c := law01_HeadTexts.body) Tryd.func7 (by kernel_rfl) (by kernel_rfl) (Nat.le_of_ble_eq_true (by kernel_rfl)) (okC law01_HeadTexts.body (law01_HeadTexts.q1 Z Q) (by kernel_rfl)) (by rw [law01_HeadTexts.eq]; exact h)).mono fun e w' hR => ?_
  cases e with
  | returned v =>
    obtain ⟨va, rfl, hR⟩ := atB_e hR
    exact .inl ⟨va, rfl, hR⟩
  | panicked c => exact .inr ⟨c, rfl, hR⟩
  | outgrown => exact hR.elim
theorem law01_HeadTexts.vc0 (Q : Bool → PT) (h_0 : List Value) (w : World) (h : law01_HeadTexts.F Z0 Q h_0 w) : Calls Tryd.prog 7 ⟨[(Value.agg ⟨h_0⟩)]⟩ w fun e w' => (∃ (r0 : Bool), e = .returned (.bool r0) ∧ Q r0 w') :=
  (law01_HeadTexts.vc Z0 Q h_0 w h).mono fun _ _ hR => hR.elim id fun ⟨_, _, hz⟩ => hz.elim
theorem law01_HeadTexts.cal {Z : List PanicEntry → PT} {Q : Bool → PT} {h_0 : List Value} {w : World} (h : law01_HeadTexts.F Z Q h_0 w) : Go.Proofs.YtchhffabpgebmaaDoor.cal Tryd.prog Z 7 [(Value.agg ⟨h_0⟩)] (isB fun r0 => Q r0) w := by
  refine (law01_HeadTexts.vc Z Q h_0 w h).mono fun e w' hR => ?_
  rcases hR with ⟨r0, rfl, h⟩ | ⟨c, rfl, h⟩
  · show (isB fun r0 => Q r0) (.bool r0) w'
    exact ⟨_, rfl, h⟩
  · exact h

/-! ### milepost/milepostlaw01.HeadReads: function 8 -/
noncomputable def law01_HeadReads.body : Code := bodyC Tryd.f8
def law01_HeadReads.F (Z : List PanicEntry → PT) (Q : Bool → PT) (s_0 : ByteArray) : PT :=
  (cal Tryd.prog Z 9 [] (isB fun v20 => (pif (!v20) (Q false) (cal Tryd.prog Z 25 [(Value.string s_0)] (isT2 fun t21 t22 => (isN fun v23 => ((isI .i64 fun v24 => (newC 26 [(Value.int .u8 0), (Value.int .u8 0), (Value.int .u8 0), (Value.int .u8 0), (Value.int .u8 0), (Value.int .u8 0), (Value.int .u8 0), (Value.int .u8 0), (Value.int .u8 0), (Value.int .u8 0), (Value.int .u8 0), (Value.int .u8 0), (Value.int .u8 0)] fun h25 => (stN 13 h25 v23 (cal Tryd.prog Z 27 [(Value.string s_0)] (isT2 fun t26 t27 => (isN fun v28 => ((isI .i64 fun v29 => (newC 26 [(Value.int .u8 0), (Value.int .u8 0), (Value.int .u8 0), (Value.int .u8 0), (Value.int .u8 0), (Value.int .u8 0), (Value.int .u8 0), (Value.int .u8 0), (Value.int .u8 0), (Value.int .u8 0), (Value.int .u8 0), (Value.int .u8 0), (Value.int .u8 0)] fun g30 => (stN 13 g30 v28 (ldN 13 h25 fun v31 => (ldN 13 g30 fun v32 => (runB Tryd.prog (do eqGuard .eql 26 (.tmp 19) (.tmp 20) (Value.agg ⟨v31⟩) (Value.agg ⟨v32⟩); binOp .eql 26 (Value.agg ⟨v31⟩) (Value.agg ⟨v32⟩)) fun v33 => (pif v33 (Q (v24 == v29)) (Q false)))))))) t27)) t26))))) t22)) t21)))))
def law01_HeadReads.q1 (Z : List PanicEntry → PT) (Q : Bool → PT) : QF := bodyQ Tryd.prog [.tmp 2] (fun v => atB v fun va => Q va)
theorem law01_HeadReads.eq (Z : List PanicEntry → PT) (Q : Bool → PT) (s_0 : ByteArray) : comp Tryd.prog Z law01_HeadReads.body (law01_HeadReads.q1 Z Q) (fr0 [(Value.string s_0)]) = law01_HeadReads.F Z Q s_0 := by kernel_rfl
theorem law01_HeadReads.vc (Z : List PanicEntry → PT) (Q : Bool → PT) (s_0 : ByteArray) (w : World) (h : law01_HeadReads.F Z Q s_0 w) : Calls Tryd.prog 8 ⟨[(Value.string s_0)]⟩ w fun e w' => (∃ (r0 : Bool), e = .returned (.bool r0) ∧ Q r0 w') ∨ ∃ c, e = .panicked c ∧ Z c w' := by
  refine (calls_of_ok (args := [(Value.string s_0)]) (w := w) (rs := [.tmp 2]) (fn := Tryd.f8) (c := law01_HeadReads.body) Tryd.func8 (by kernel_rfl) (by kernel_rfl) (Nat.le_of_ble_eq_true (by kernel_rfl)) (okC law01_HeadReads.body (law01_HeadReads.q1 Z Q) (by kernel_rfl)) (by rw [law01_HeadReads.eq]; exact h)).mono fun e w' hR => ?_
  cases e with
  | returned v =>
    obtain ⟨va, rfl, hR⟩ := atB_e hR
    exact .inl ⟨va, rfl, hR⟩
  | panicked c => exact .inr ⟨c, rfl, hR⟩
  | outgrown => exact hR.elim
theorem law01_HeadReads.vc0 (Q : Bool → PT) (s_0 : ByteArray) (w : World) (h : law01_HeadReads.F Z0 Q s_0 w) : Calls Tryd.prog 8 ⟨[(Value.string s_0)]⟩ w fun e w' => (∃ (r0 : Bool), e = .returned (.bool r0) ∧ Q r0 w') :=
  (law01_HeadReads.vc Z0 Q s_0 w h).mono fun _ _ hR => hR.elim id fun ⟨_, _, hz⟩ => hz.elim
theorem law01_HeadReads.cal {Z : List PanicEntry → PT} {Q : Bool → PT} {s_0 : ByteArray} {w : World} (h : law01_HeadReads.F Z Q s_0 w) : Go.Proofs.YtchhffabpgebmaaDoor.cal Tryd.prog Z 8 [(Value.string s_0)] (isB fun r0 => Q r0) w := by
  refine (law01_HeadReads.vc Z Q s_0 w h).mono fun e w' hR => ?_
  rcases hR with ⟨r0, rfl, h⟩ | ⟨c, rfl, h⟩
  · show (isB fun r0 => Q r0) (.bool r0) w'
    exact ⟨_, rfl, h⟩
  · exact h

end Go.Proofs.YtchhffabpgebmaaDoor
