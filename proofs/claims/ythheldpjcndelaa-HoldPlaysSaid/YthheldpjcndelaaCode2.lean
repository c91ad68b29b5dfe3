/-
  The reading of the code of 15 functions, printed by gen.py off the translation; no condition.
-/
import Derived.Test.YthheldpjcndelaaWlFacts
namespace Go.Proofs.Ythheldpjcndelaa
open Go.RowKit
set_option linter.unusedVariables false
set_option maxRecDepth 100000

/-! ### (*milepost/milepostref18.Hold).Item: function 20 -/
noncomputable def ref18_Hold_Item.body : Code := bodyC Try.f20
noncomputable def ref18_Hold_Item.c1 : Code := sq1 ref18_Hold_Item.body
noncomputable def ref18_Hold_Item.c2 : Code := sq1 (sq2 ref18_Hold_Item.body)
noncomputable def ref18_Hold_Item.c3 : Code := sq1 (sq2 (sq2 ref18_Hold_Item.body))
noncomputable def ref18_Hold_Item.c4 : Code := sq1 (sq2 (sq2 (sq2 ref18_Hold_Item.body)))
noncomputable def ref18_Hold_Item.c5 : Code := sq2 (sq2 (sq2 (sq2 ref18_Hold_Item.body)))
theorem ref18_Hold_Item.q6 : ref18_Hold_Item.body = .seq ref18_Hold_Item.c1 (.seq ref18_Hold_Item.c2 (.seq ref18_Hold_Item.c3 (.seq ref18_Hold_Item.c4 ref18_Hold_Item.c5))) := by kernel_rfl
noncomputable def ref18_Hold_Item.c7 : Code := sq1 ref18_Hold_Item.c5
noncomputable def ref18_Hold_Item.c8 : Code := sq2 ref18_Hold_Item.c5
theorem ref18_Hold_Item.q9 : ref18_Hold_Item.c5 = .seq ref18_Hold_Item.c7 ref18_Hold_Item.c8 := by kernel_rfl
noncomputable def ref18_Hold_Item.c10 : Code := sq1 ref18_Hold_Item.c8
noncomputable def ref18_Hold_Item.c11 : Code := sq2 ref18_Hold_Item.c8
theorem ref18_Hold_Item.q12 : ref18_Hold_Item.c8 = .seq ref18_Hold_Item.c10 ref18_Hold_Item.c11 := by kernel_rfl
def ref18_Hold_Item.s13 (Z : List PanicEntry → PT) (Q : Int → PT) (h_0 : Option Addr) (epoch_2 : Int) (at_3 : Int) (of_4 : Int) (n_11 : Int) : PT :=
  (pif (decide (at_3 < n_11)) (Q 2) (nn h_0 fun v48 => (ldL (v48.add 5) fun v49 v49n v49c => (cnd (List.length [(Value.int .i64 epoch_2), (Value.int .i64 of_4)] = 2) (newC 54 ([(Value.int .i64 epoch_2), (Value.int .i64 of_4)] ++ ([])) fun v50 => (runL Try.prog (bi .append #[41, 41] 41 [false, false] [(Value.slice v49 v49n v49c), (Value.slice (some v50) 1 1)]) fun v51 v51n v51c => (nn h_0 fun v52 => (st1 (v52.add 5) (Value.slice v51 v51n v51c) (Q 1)))))))))
def ref18_Hold_Item.q14 (Z : List PanicEntry → PT) (Q : Int → PT) : QF := bodyQ [.tmp 10] (fun v => atI .i64 v fun va => Q va)
theorem ref18_Hold_Item.s13_eq (Z : List PanicEntry → PT) (Q : Int → PT) (ρ : Fr) (h_0 : Option Addr) (epoch_2 : Int) (at_3 : Int) (of_4 : Int) (n_11 : Int) : comp Try.prog Z ref18_Hold_Item.c11 (ref18_Hold_Item.q14 Z Q) (puts ρ [(0, (Value.pointer h_0)), (2, (Value.int .i64 epoch_2)), (3, (Value.int .i64 at_3)), (4, (Value.int .i64 of_4)), (11, (Value.int .i64 n_11))]) = ref18_Hold_Item.s13 Z Q h_0 epoch_2 at_3 of_4 n_11 := by kernel_rfl
def ref18_Hold_Item.j15 (Z : List PanicEntry → PT) (Q : Int → PT) : Fr → PT := (fun ρ => atP (ρ 0) fun h_0 => atI .i64 (ρ 2) fun epoch_2 => atI .i64 (ρ 3) fun at_3 => atI .i64 (ρ 4) fun of_4 => atI .i64 (ρ 11) fun n_11 => (ref18_Hold_Item.s13 Z Q h_0 epoch_2 at_3 of_4 n_11))
theorem ref18_Hold_Item.s13_ok (Z : List PanicEntry → PT) (Q : Int → PT) : Ok Try.prog Try.f20.ntmps Z ref18_Hold_Item.c11 (ref18_Hold_Item.q14 Z Q) (ref18_Hold_Item.j15 Z Q) := by
  intro ρ w a hr h
  obtain ⟨h_0, e0, h⟩ := atP_e h
  obtain ⟨epoch_2, e2, h⟩ := atI_e h
  obtain ⟨at_3, e3, h⟩ := atI_e h
  obtain ⟨of_4, e4, h⟩ := atI_e h
  obtain ⟨n_11, e11, h⟩ := atI_e h
  exact ok_at [(0, (Value.pointer h_0)), (2, (Value.int .i64 epoch_2)), (3, (Value.int .i64 at_3)), (4, (Value.int .i64 of_4)), (11, (Value.int .i64 n_11))] (okC ref18_Hold_Item.c11 (ref18_Hold_Item.q14 Z Q) (by kernel_rfl)) (puts_cons e0 (puts_cons e2 (puts_cons e3 (puts_cons e4 (puts_cons e11 (fun p hp => puts_nil hp)))))) (ref18_Hold_Item.s13_eq Z Q ρ h_0 epoch_2 at_3 of_4 n_11) hr h
noncomputable def ref18_Hold_Item.c16 : Code := sq1 ref18_Hold_Item.c10
noncomputable def ref18_Hold_Item.c17 : Code := sq2 ref18_Hold_Item.c10
theorem ref18_Hold_Item.q18 : ref18_Hold_Item.c10 = .seq ref18_Hold_Item.c16 ref18_Hold_Item.c17 := by kernel_rfl
def ref18_Hold_Item.s19 (Z : List PanicEntry → PT) (Q : Int → PT) (h_0 : Option Addr) (epoch_2 : Int) (at_3 : Int) (of_4 : Int) (n_11 : Int) (t_76 : Bool) : PT :=
  (pif t_76 (Q 0) (ref18_Hold_Item.s13 Z Q h_0 epoch_2 at_3 of_4 n_11))
def ref18_Hold_Item.q20 (Z : List PanicEntry → PT) (Q : Int → PT) : QF := thenK (ref18_Hold_Item.j15 Z Q) (ref18_Hold_Item.q14 Z Q)
theorem ref18_Hold_Item.s19_eq (Z : List PanicEntry → PT) (Q : Int → PT) (ρ : Fr) (h_0 : Option Addr) (epoch_2 : Int) (at_3 : Int) (of_4 : Int) (n_11 : Int) (t_76 : Bool) : comp Try.prog Z ref18_Hold_Item.c17 (ref18_Hold_Item.q20 Z Q) (puts ρ [(0, (Value.pointer h_0)), (2, (Value.int .i64 epoch_2)), (3, (Value.int .i64 at_3)), (4, (Value.int .i64 of_4)), (11, (Value.int .i64 n_11)), (76, (Value.bool t_76))]) = ref18_Hold_Item.s19 Z Q h_0 epoch_2 at_3 of_4 n_11 t_76 := by kernel_rfl
def ref18_Hold_Item.j21 (Z : List PanicEntry → PT) (Q : Int → PT) : Fr → PT := (fun ρ => atP (ρ 0) fun h_0 => atI .i64 (ρ 2) fun epoch_2 => atI .i64 (ρ 3) fun at_3 => atI .i64 (ρ 4) fun of_4 => atI .i64 (ρ 11) fun n_11 => atB (ρ 76) fun t_76 => (ref18_Hold_Item.s19 Z Q h_0 epoch_2 at_3 of_4 n_11 t_76))
theorem ref18_Hold_Item.s19_ok (Z : List PanicEntry → PT) (Q : Int → PT) : Ok Try.prog Try.f20.ntmps Z ref18_Hold_Item.c17 (ref18_Hold_Item.q20 Z Q) (ref18_Hold_Item.j21 Z Q) := by
  intro ρ w a hr h
  obtain ⟨h_0, e0, h⟩ := atP_e h
  obtain ⟨epoch_2, e2, h⟩ := atI_e h
  obtain ⟨at_3, e3, h⟩ := atI_e h
  obtain ⟨of_4, e4, h⟩ := atI_e h
  obtain ⟨n_11, e11, h⟩ := atI_e h
  obtain ⟨t_76, e76, h⟩ := atB_e h
  exact ok_at [(0, (Value.pointer h_0)), (2, (Value.int .i64 epoch_2)), (3, (Value.int .i64 at_3)), (4, (Value.int .i64 of_4)), (11, (Value.int .i64 n_11)), (76, (Value.bool t_76))] (okC ref18_Hold_Item.c17 (ref18_Hold_Item.q20 Z Q) (by kernel_rfl)) (puts_cons e0 (puts_cons e2 (puts_cons e3 (puts_cons e4 (puts_cons e11 (puts_cons e76 (fun p hp => puts_nil hp))))))) (ref18_Hold_Item.s19_eq Z Q ρ h_0 epoch_2 at_3 of_4 n_11 t_76) hr h
def ref18_Hold_Item.s22 (Z : List PanicEntry → PT) (Q : Int → PT) (h_0 : Option Addr) (epoch_2 : Int) (at_3 : Int) (of_4 : Int) (n_11 : Int) (all_12 : Int) : PT :=
  (nn h_0 fun v61 => (ldI .i64 (v61.add 1) fun v62 => (pif (epoch_2 != v62) (nn h_0 fun v63 => (ldI .i64 (v63.add 2) fun v64 => (pif (epoch_2 != v64) (ref18_Hold_Item.s19 Z Q h_0 epoch_2 at_3 of_4 n_11 true) (pif (decide (n_11 > 0)) (pif (all_12 != of_4) (ref18_Hold_Item.s19 Z Q h_0 epoch_2 at_3 of_4 n_11 true) (ref18_Hold_Item.s19 Z Q h_0 epoch_2 at_3 of_4 n_11 (decide (at_3 > n_11)))) (ref18_Hold_Item.s19 Z Q h_0 epoch_2 at_3 of_4 n_11 (decide (at_3 > n_11))))))) (pif (decide (n_11 > 0)) (pif (all_12 != of_4) (ref18_Hold_Item.s19 Z Q h_0 epoch_2 at_3 of_4 n_11 true) (ref18_Hold_Item.s19 Z Q h_0 epoch_2 at_3 of_4 n_11 (decide (at_3 > n_11)))) (ref18_Hold_Item.s19 Z Q h_0 epoch_2 at_3 of_4 n_11 (decide (at_3 > n_11)))))))
theorem ref18_Hold_Item.s22_eq (Z : List PanicEntry → PT) (Q : Int → PT) (ρ : Fr) (h_0 : Option Addr) (epoch_2 : Int) (at_3 : Int) (of_4 : Int) (n_11 : Int) (all_12 : Int) : (comp Try.prog Z ref18_Hold_Item.c16 (thenK (ref18_Hold_Item.j21 Z Q) (ref18_Hold_Item.q20 Z Q))) (puts ρ [(0, (Value.pointer h_0)), (2, (Value.int .i64 epoch_2)), (3, (Value.int .i64 at_3)), (4, (Value.int .i64 of_4)), (11, (Value.int .i64 n_11)), (12, (Value.int .i64 all_12))]) = ref18_Hold_Item.s22 Z Q h_0 epoch_2 at_3 of_4 n_11 all_12 := by kernel_rfl
def ref18_Hold_Item.j23 (Z : List PanicEntry → PT) (Q : Int → PT) : Fr → PT := (fun ρ => atP (ρ 0) fun h_0 => atI .i64 (ρ 2) fun epoch_2 => atI .i64 (ρ 3) fun at_3 => atI .i64 (ρ 4) fun of_4 => atI .i64 (ρ 11) fun n_11 => atI .i64 (ρ 12) fun all_12 => (ref18_Hold_Item.s22 Z Q h_0 epoch_2 at_3 of_4 n_11 all_12))
theorem ref18_Hold_Item.s22_ok (Z : List PanicEntry → PT) (Q : Int → PT) : Ok Try.prog Try.f20.ntmps Z ref18_Hold_Item.c10 (ref18_Hold_Item.q20 Z Q) (ref18_Hold_Item.j23 Z Q) := by
  rw [ref18_Hold_Item.q18]
  intro ρ w a hr h
  obtain ⟨h_0, e0, h⟩ := atP_e h
  obtain ⟨epoch_2, e2, h⟩ := atI_e h
  obtain ⟨at_3, e3, h⟩ := atI_e h
  obtain ⟨of_4, e4, h⟩ := atI_e h
  obtain ⟨n_11, e11, h⟩ := atI_e h
  obtain ⟨all_12, e12, h⟩ := atI_e h
  exact ok_at [(0, (Value.pointer h_0)), (2, (Value.int .i64 epoch_2)), (3, (Value.int .i64 at_3)), (4, (Value.int .i64 of_4)), (11, (Value.int .i64 n_11)), (12, (Value.int .i64 all_12))] (ok_seq (okC ref18_Hold_Item.c16 _ (by kernel_rfl)) (ref18_Hold_Item.s19_ok Z Q)) (puts_cons e0 (puts_cons e2 (puts_cons e3 (puts_cons e4 (puts_cons e11 (puts_cons e12 (fun p hp => puts_nil hp))))))) (ref18_Hold_Item.s22_eq Z Q ρ h_0 epoch_2 at_3 of_4 n_11 all_12) hr h
theorem ref18_Hold_Item.o24 (Z : List PanicEntry → PT) (Q : Int → PT) : Ok Try.prog Try.f20.ntmps Z ref18_Hold_Item.c8 (ref18_Hold_Item.q14 Z Q) (ref18_Hold_Item.j23 Z Q) := by
  rw [ref18_Hold_Item.q12]; exact ok_seq (ref18_Hold_Item.s22_ok Z Q) (ref18_Hold_Item.s13_ok Z Q)
def ref18_Hold_Item.s25 (Z : List PanicEntry → PT) (Q : Int → PT) (h_0 : Option Addr) (epoch_2 : Int) (at_3 : Int) (of_4 : Int) : PT :=
  (cal Try.prog Z 24 [(Value.pointer h_0), (Value.int .i64 epoch_2)] (isT2 fun t65 t66 => (isI .i64 fun v67 => ((isI .i64 fun v68 => (ref18_Hold_Item.s22 Z Q h_0 epoch_2 at_3 of_4 v67 v68)) t66)) t65))
theorem ref18_Hold_Item.s25_eq (Z : List PanicEntry → PT) (Q : Int → PT) (ρ : Fr) (h_0 : Option Addr) (epoch_2 : Int) (at_3 : Int) (of_4 : Int) : (comp Try.prog Z ref18_Hold_Item.c7 (thenK (ref18_Hold_Item.j23 Z Q) (ref18_Hold_Item.q14 Z Q))) (puts ρ [(0, (Value.pointer h_0)), (2, (Value.int .i64 epoch_2)), (3, (Value.int .i64 at_3)), (4, (Value.int .i64 of_4))]) = ref18_Hold_Item.s25 Z Q h_0 epoch_2 at_3 of_4 := by kernel_rfl
def ref18_Hold_Item.j26 (Z : List PanicEntry → PT) (Q : Int → PT) : Fr → PT := (fun ρ => atP (ρ 0) fun h_0 => atI .i64 (ρ 2) fun epoch_2 => atI .i64 (ρ 3) fun at_3 => atI .i64 (ρ 4) fun of_4 => (ref18_Hold_Item.s25 Z Q h_0 epoch_2 at_3 of_4))
theorem ref18_Hold_Item.s25_ok (Z : List PanicEntry → PT) (Q : Int → PT) : Ok Try.prog Try.f20.ntmps Z ref18_Hold_Item.c5 (ref18_Hold_Item.q14 Z Q) (ref18_Hold_Item.j26 Z Q) := by
  rw [ref18_Hold_Item.q9]
  intro ρ w a hr h
  obtain ⟨h_0, e0, h⟩ := atP_e h
  obtain ⟨epoch_2, e2, h⟩ := atI_e h
  obtain ⟨at_3, e3, h⟩ := atI_e h
  obtain ⟨of_4, e4, h⟩ := atI_e h
  exact ok_at [(0, (Value.pointer h_0)), (2, (Value.int .i64 epoch_2)), (3, (Value.int .i64 at_3)), (4, (Value.int .i64 of_4))] (ok_seq (okC ref18_Hold_Item.c7 _ (by kernel_rfl)) (ref18_Hold_Item.o24 Z Q)) (puts_cons e0 (puts_cons e2 (puts_cons e3 (puts_cons e4 (fun p hp => puts_nil hp))))) (ref18_Hold_Item.s25_eq Z Q ρ h_0 epoch_2 at_3 of_4) hr h
def ref18_Hold_Item.s27 (Z : List PanicEntry → PT) (Q : Int → PT) (h_0 : Option Addr) (floor_1 : Int) (epoch_2 : Int) (at_3 : Int) (of_4 : Int) : PT :=
  (pif (decide (floor_1 < 0)) (Q 0) (pif (decide (epoch_2 < 1)) (Q 0) (pif (decide (at_3 < 0)) (Q 0) (pif (decide (of_4 ≤ at_3)) (Q 0) (cal Try.prog Z 28 [(Value.pointer h_0), (Value.int .i64 floor_1)] (isU (nn h_0 fun v69 => (ldI .i64 (v69.add 2) fun v70 => (pif (decide (epoch_2 > v70)) (nn h_0 fun v71 => (st1 (v71.add 2) (Value.int .i64 epoch_2) (cal Try.prog Z 29 [(Value.pointer h_0)] (isU (ref18_Hold_Item.s25 Z Q h_0 epoch_2 at_3 of_4))))) (ref18_Hold_Item.s25 Z Q h_0 epoch_2 at_3 of_4))))))))))
theorem ref18_Hold_Item.s27_eq (Z : List PanicEntry → PT) (Q : Int → PT) (ρ : Fr) (h_0 : Option Addr) (floor_1 : Int) (epoch_2 : Int) (at_3 : Int) (of_4 : Int) : (comp Try.prog Z ref18_Hold_Item.c1 (thenK (comp Try.prog Z ref18_Hold_Item.c2 (thenK (comp Try.prog Z ref18_Hold_Item.c3 (thenK (comp Try.prog Z ref18_Hold_Item.c4 (thenK (ref18_Hold_Item.j26 Z Q) (ref18_Hold_Item.q14 Z Q))) (ref18_Hold_Item.q14 Z Q))) (ref18_Hold_Item.q14 Z Q))) (ref18_Hold_Item.q14 Z Q))) (puts ρ [(0, (Value.pointer h_0)), (1, (Value.int .i64 floor_1)), (2, (Value.int .i64 epoch_2)), (3, (Value.int .i64 at_3)), (4, (Value.int .i64 of_4))]) = ref18_Hold_Item.s27 Z Q h_0 floor_1 epoch_2 at_3 of_4 := by kernel_rfl
def ref18_Hold_Item.j28 (Z : List PanicEntry → PT) (Q : Int → PT) : Fr → PT := (fun ρ => atP (ρ 0) fun h_0 => atI .i64 (ρ 1) fun floor_1 => atI .i64 (ρ 2) fun epoch_2 => atI .i64 (ρ 3) fun at_3 => atI .i64 (ρ 4) fun of_4 => (ref18_Hold_Item.s27 Z Q h_0 floor_1 epoch_2 at_3 of_4))
theorem ref18_Hold_Item.s27_ok (Z : List PanicEntry → PT) (Q : Int → PT) : Ok Try.prog Try.f20.ntmps Z ref18_Hold_Item.body (ref18_Hold_Item.q14 Z Q) (ref18_Hold_Item.j28 Z Q) := by
  rw [ref18_Hold_Item.q6]
  intro ρ w a hr h
  obtain ⟨h_0, e0, h⟩ := atP_e h
  obtain ⟨floor_1, e1, h⟩ := atI_e h
  obtain ⟨epoch_2, e2, h⟩ := atI_e h
  obtain ⟨at_3, e3, h⟩ := atI_e h
  obtain ⟨of_4, e4, h⟩ := atI_e h
  exact ok_at [(0, (Value.pointer h_0)), (1, (Value.int .i64 floor_1)), (2, (Value.int .i64 epoch_2)), (3, (Value.int .i64 at_3)), (4, (Value.int .i64 of_4))] (ok_seq (okC ref18_Hold_Item.c1 _ (by kernel_rfl)) (ok_seq (okC ref18_Hold_Item.c2 _ (by kernel_rfl)) (ok_seq (okC ref18_Hold_Item.c3 _ (by kernel_rfl)) (ok_seq (okC ref18_Hold_Item.c4 _ (by kernel_rfl)) (ref18_Hold_Item.s25_ok Z Q))))) (puts_cons e0 (puts_cons e1 (puts_cons e2 (puts_cons e3 (puts_cons e4 (fun p hp => puts_nil hp)))))) (ref18_Hold_Item.s27_eq Z Q ρ h_0 floor_1 epoch_2 at_3 of_4) hr h
def ref18_Hold_Item.F (Z : List PanicEntry → PT) (Q : Int → PT) (h_0 : Option Addr) (floor_1 : Int) (epoch_2 : Int) (at_3 : Int) (of_4 : Int) : PT :=
  (ref18_Hold_Item.s27 Z Q h_0 floor_1 epoch_2 at_3 of_4)
theorem ref18_Hold_Item.vc (Z : List PanicEntry → PT) (Q : Int → PT) (h_0 : Option Addr) (floor_1 : Int) (epoch_2 : Int) (at_3 : Int) (of_4 : Int) (w : World) (h : ref18_Hold_Item.F Z Q h_0 floor_1 epoch_2 at_3 of_4 w) : Calls Try.prog 20 ⟨[(Value.pointer h_0), (Value.int .i64 floor_1), (Value.int .i64 epoch_2), (Value.int .i64 at_3), (Value.int .i64 of_4)]⟩ w fun e w' => (∃ (r0 : Int), e = .returned (.int .i64 r0) ∧ Q r0 w') ∨ ∃ c, e = .panicked c ∧ Z c w' := by
  refine (calls_of_ok (args := [(Value.pointer h_0), (Value.int .i64 floor_1), (Value.int .i64 epoch_2), (Value.int .i64 at_3), (Value.int .i64 of_4)]) (w := w) (rs := [.tmp 10]) (fn := Try.f20) (c := ref18_Hold_Item.body) Try.func20 (by kernel_rfl) (by kernel_rfl) (Nat.le_of_ble_eq_true (by kernel_rfl)) (ref18_Hold_Item.s27_ok Z Q) (h)).mono fun e w' hR => ?_
  cases e with
  | returned v =>
    obtain ⟨va, rfl, hR⟩ := atI_e hR
    exact .inl ⟨va, rfl, hR⟩
  | panicked c => exact .inr ⟨c, rfl, hR⟩
  | outgrown => exact hR.elim
theorem ref18_Hold_Item.vc0 (Q : Int → PT) (h_0 : Option Addr) (floor_1 : Int) (epoch_2 : Int) (at_3 : Int) (of_4 : Int) (w : World) (h : ref18_Hold_Item.F Z0 Q h_0 floor_1 epoch_2 at_3 of_4 w) : Calls Try.prog 20 ⟨[(Value.pointer h_0), (Value.int .i64 floor_1), (Value.int .i64 epoch_2), (Value.int .i64 at_3), (Value.int .i64 of_4)]⟩ w fun e w' => (∃ (r0 : Int), e = .returned (.int .i64 r0) ∧ Q r0 w') :=
  (ref18_Hold_Item.vc Z0 Q h_0 floor_1 epoch_2 at_3 of_4 w h).mono fun _ _ hR => hR.elim id fun ⟨_, _, hz⟩ => hz.elim
theorem ref18_Hold_Item.cal {Z : List PanicEntry → PT} {Q : Int → PT} {h_0 : Option Addr} {floor_1 : Int} {epoch_2 : Int} {at_3 : Int} {of_4 : Int} {w : World} (h : ref18_Hold_Item.F Z Q h_0 floor_1 epoch_2 at_3 of_4 w) : Go.Proofs.Ythheldpjcndelaa.cal Try.prog Z 20 [(Value.pointer h_0), (Value.int .i64 floor_1), (Value.int .i64 epoch_2), (Value.int .i64 at_3), (Value.int .i64 of_4)] (isI .i64 fun r0 => Q r0) w := by
  refine (ref18_Hold_Item.vc Z Q h_0 floor_1 epoch_2 at_3 of_4 w h).mono fun e w' hR => ?_
  rcases hR with ⟨r0, rfl, h⟩ | ⟨c, rfl, h⟩
  · show (isI .i64 fun r0 => Q r0) (.int .i64 r0) w'
    exact ⟨_, rfl, h⟩
  · exact h

/-! ### (*milepost/milepostref18.Hold).Lead: function 21 -/
noncomputable def ref18_Hold_Lead.body : Code := bodyC Try.f21
noncomputable def ref18_Hold_Lead.c1 : Code := sq1 ref18_Hold_Lead.body
noncomputable def ref18_Hold_Lead.c2 : Code := sq1 (sq2 ref18_Hold_Lead.body)
noncomputable def ref18_Hold_Lead.c3 : Code := sq1 (sq2 (sq2 ref18_Hold_Lead.body))
noncomputable def ref18_Hold_Lead.c4 : Code := sq1 (sq2 (sq2 (sq2 ref18_Hold_Lead.body)))
noncomputable def ref18_Hold_Lead.c5 : Code := sq2 (sq2 (sq2 (sq2 ref18_Hold_Lead.body)))
theorem ref18_Hold_Lead.q6 : ref18_Hold_Lead.body = .seq ref18_Hold_Lead.c1 (.seq ref18_Hold_Lead.c2 (.seq ref18_Hold_Lead.c3 (.seq ref18_Hold_Lead.c4 ref18_Hold_Lead.c5))) := by kernel_rfl
noncomputable def ref18_Hold_Lead.c7 : Code := sq1 ref18_Hold_Lead.c5
noncomputable def ref18_Hold_Lead.c8 : Code := sq2 ref18_Hold_Lead.c5
theorem ref18_Hold_Lead.q9 : ref18_Hold_Lead.c5 = .seq ref18_Hold_Lead.c7 ref18_Hold_Lead.c8 := by kernel_rfl
def ref18_Hold_Lead.s10 (Z : List PanicEntry → PT) (Q : Bool → PT) (h_0 : Option Addr) (use_2 : Int) : PT :=
  (pif (decide (use_2 > 0)) (nn h_0 fun v52 => (ldI .i64 (v52.add 3) fun v53 => (Q (v53 == use_2)))) (Q false))
def ref18_Hold_Lead.q11 (Z : List PanicEntry → PT) (Q : Bool → PT) : QF := bodyQ [.tmp 8] (fun v => atB v fun va => Q va)
theorem ref18_Hold_Lead.s10_eq (Z : List PanicEntry → PT) (Q : Bool → PT) (ρ : Fr) (h_0 : Option Addr) (use_2 : Int) : comp Try.prog Z ref18_Hold_Lead.c8 (ref18_Hold_Lead.q11 Z Q) (puts ρ [(0, (Value.pointer h_0)), (2, (Value.int .i64 use_2))]) = ref18_Hold_Lead.s10 Z Q h_0 use_2 := by kernel_rfl
def ref18_Hold_Lead.j12 (Z : List PanicEntry → PT) (Q : Bool → PT) : Fr → PT := (fun ρ => atP (ρ 0) fun h_0 => atI .i64 (ρ 2) fun use_2 => (ref18_Hold_Lead.s10 Z Q h_0 use_2))
theorem ref18_Hold_Lead.s10_ok (Z : List PanicEntry → PT) (Q : Bool → PT) : Ok Try.prog Try.f21.ntmps Z ref18_Hold_Lead.c8 (ref18_Hold_Lead.q11 Z Q) (ref18_Hold_Lead.j12 Z Q) := by
  intro ρ w a hr h
  obtain ⟨h_0, e0, h⟩ := atP_e h
  obtain ⟨use_2, e2, h⟩ := atI_e h
  exact ok_at [(0, (Value.pointer h_0)), (2, (Value.int .i64 use_2))] (okC ref18_Hold_Lead.c8 (ref18_Hold_Lead.q11 Z Q) (by kernel_rfl)) (puts_cons e0 (puts_cons e2 (fun p hp => puts_nil hp))) (ref18_Hold_Lead.s10_eq Z Q ρ h_0 use_2) hr h
def ref18_Hold_Lead.s13 (Z : List PanicEntry → PT) (Q : Bool → PT) (h_0 : Option Addr) (sent_1 : Int) (use_2 : Int) : PT :=
  (cal Try.prog Z 30 [(Value.pointer h_0), (Value.int .i64 use_2)] (isB fun v54 => (pif v54 (nn h_0 fun v55 => (ldI .i64 (v55.add 3) fun v56 => (pif (decide (use_2 > v56)) (nn h_0 fun v57 => (st1 (v57.add 3) (Value.int .i64 use_2) (nn h_0 fun v58 => (st1 (v58.add 4) (Value.int .i64 sent_1) (ref18_Hold_Lead.s10 Z Q h_0 use_2))))) (ref18_Hold_Lead.s10 Z Q h_0 use_2)))) (ref18_Hold_Lead.s10 Z Q h_0 use_2))))
theorem ref18_Hold_Lead.s13_eq (Z : List PanicEntry → PT) (Q : Bool → PT) (ρ : Fr) (h_0 : Option Addr) (sent_1 : Int) (use_2 : Int) : (comp Try.prog Z ref18_Hold_Lead.c7 (thenK (ref18_Hold_Lead.j12 Z Q) (ref18_Hold_Lead.q11 Z Q))) (puts ρ [(0, (Value.pointer h_0)), (1, (Value.int .i64 sent_1)), (2, (Value.int .i64 use_2))]) = ref18_Hold_Lead.s13 Z Q h_0 sent_1 use_2 := by kernel_rfl
def ref18_Hold_Lead.j14 (Z : List PanicEntry → PT) (Q : Bool → PT) : Fr → PT := (fun ρ => atP (ρ 0) fun h_0 => atI .i64 (ρ 1) fun sent_1 => atI .i64 (ρ 2) fun use_2 => (ref18_Hold_Lead.s13 Z Q h_0 sent_1 use_2))
theorem ref18_Hold_Lead.s13_ok (Z : List PanicEntry → PT) (Q : Bool → PT) : Ok Try.prog Try.f21.ntmps Z ref18_Hold_Lead.c5 (ref18_Hold_Lead.q11 Z Q) (ref18_Hold_Lead.j14 Z Q) := by
  rw [ref18_Hold_Lead.q9]
  intro ρ w a hr h
  obtain ⟨h_0, e0, h⟩ := atP_e h
  obtain ⟨sent_1, e1, h⟩ := atI_e h
  obtain ⟨use_2, e2, h⟩ := atI_e h
  exact ok_at [(0, (Value.pointer h_0)), (1, (Value.int .i64 sent_1)), (2, (Value.int .i64 use_2))] (ok_seq (okC ref18_Hold_Lead.c7 _ (by kernel_rfl)) (ref18_Hold_Lead.s10_ok Z Q)) (puts_cons e0 (puts_cons e1 (puts_cons e2 (fun p hp => puts_nil hp)))) (ref18_Hold_Lead.s13_eq Z Q ρ h_0 sent_1 use_2) hr h
def ref18_Hold_Lead.s15 (Z : List PanicEntry → PT) (Q : Bool → PT) (h_0 : Option Addr) (sent_1 : Int) (use_2 : Int) (floor_3 : Int) : PT :=
  (pif (decide (sent_1 < 0)) (Q false) (pif (decide (use_2 < 0)) (Q false) (pif (decide (floor_3 < 0)) (Q false) (cal Try.prog Z 28 [(Value.pointer h_0), (Value.int .i64 floor_3)] (isU (cal Try.prog Z 30 [(Value.pointer h_0), (Value.int .i64 use_2)] (isB fun v59 => (pif v59 (nn h_0 fun v60 => (ldI .i64 (v60.add 3) fun v61 => (pif (use_2 == v61) (nn h_0 fun v62 => (ldI .i64 (v62.add 4) fun v63 => (pif (decide (sent_1 > v63)) (nn h_0 fun v64 => (st1 (v64.add 4) (Value.int .i64 sent_1) (ref18_Hold_Lead.s13 Z Q h_0 sent_1 use_2))) (ref18_Hold_Lead.s13 Z Q h_0 sent_1 use_2)))) (ref18_Hold_Lead.s13 Z Q h_0 sent_1 use_2)))) (ref18_Hold_Lead.s13 Z Q h_0 sent_1 use_2)))))))))
theorem ref18_Hold_Lead.s15_eq (Z : List PanicEntry → PT) (Q : Bool → PT) (ρ : Fr) (h_0 : Option Addr) (sent_1 : Int) (use_2 : Int) (floor_3 : Int) : (comp Try.prog Z ref18_Hold_Lead.c1 (thenK (comp Try.prog Z ref18_Hold_Lead.c2 (thenK (comp Try.prog Z ref18_Hold_Lead.c3 (thenK (comp Try.prog Z ref18_Hold_Lead.c4 (thenK (ref18_Hold_Lead.j14 Z Q) (ref18_Hold_Lead.q11 Z Q))) (ref18_Hold_Lead.q11 Z Q))) (ref18_Hold_Lead.q11 Z Q))) (ref18_Hold_Lead.q11 Z Q))) (puts ρ [(0, (Value.pointer h_0)), (1, (Value.int .i64 sent_1)), (2, (Value.int .i64 use_2)), (3, (Value.int .i64 floor_3))]) = ref18_Hold_Lead.s15 Z Q h_0 sent_1 use_2 floor_3 := by kernel_rfl
def ref18_Hold_Lead.j16 (Z : List PanicEntry → PT) (Q : Bool → PT) : Fr → PT := (fun ρ => atP (ρ 0) fun h_0 => atI .i64 (ρ 1) fun sent_1 => atI .i64 (ρ 2) fun use_2 => atI .i64 (ρ 3) fun floor_3 => (ref18_Hold_Lead.s15 Z Q h_0 sent_1 use_2 floor_3))
theorem ref18_Hold_Lead.s15_ok (Z : List PanicEntry → PT) (Q : Bool → PT) : Ok Try.prog Try.f21.ntmps Z ref18_Hold_Lead.body (ref18_Hold_Lead.q11 Z Q) (ref18_Hold_Lead.j16 Z Q) := by
  rw [ref18_Hold_Lead.q6]
  intro ρ w a hr h
  obtain ⟨h_0, e0, h⟩ := atP_e h
  obtain ⟨sent_1, e1, h⟩ := atI_e h
  obtain ⟨use_2, e2, h⟩ := atI_e h
  obtain ⟨floor_3, e3, h⟩ := atI_e h
  exact ok_at [(0, (Value.pointer h_0)), (1, (Value.int .i64 sent_1)), (2, (Value.int .i64 use_2)), (3, (Value.int .i64 floor_3))] (ok_seq (okC ref18_Hold_Lead.c1 _ (by kernel_rfl)) (ok_seq (okC ref18_Hold_Lead.c2 _ (by kernel_rfl)) (ok_seq (okC ref18_Hold_Lead.c3 _ (by kernel_rfl)) (ok_seq (okC ref18_Hold_Lead.c4 _ (by kernel_rfl)) (ref18_Hold_Lead.s13_ok Z Q))))) (puts_cons e0 (puts_cons e1 (puts_cons e2 (puts_cons e3 (fun p hp => puts_nil hp))))) (ref18_Hold_Lead.s15_eq Z Q ρ h_0 sent_1 use_2 floor_3) hr h
def ref18_Hold_Lead.F (Z : List PanicEntry → PT) (Q : Bool → PT) (h_0 : Option Addr) (sent_1 : Int) (use_2 : Int) (floor_3 : Int) : PT :=
  (ref18_Hold_Lead.s15 Z Q h_0 sent_1 use_2 floor_3)
theorem ref18_Hold_Lead.vc (Z : List PanicEntry → PT) (Q : Bool → PT) (h_0 : Option Addr) (sent_1 : Int) (use_2 : Int) (floor_3 : Int) (w : World) (h : ref18_Hold_Lead.F Z Q h_0 sent_1 use_2 floor_3 w) : Calls Try.prog 21 ⟨[(Value.pointer h_0), (Value.int .i64 sent_1), (Value.int .i64 use_2), (Value.int .i64 floor_3)]⟩ w fun e w' => (∃ (r0 : Bool), e = .returned (.bool r0) ∧ Q r0 w') ∨ ∃ c, e = .panicked c ∧ Z c w' := by
  refine (calls_of_ok (args := [(Value.pointer h_0), (Value.int .i64 sent_1), (Value.int .i64 use_2), (Value.int .i64 floor_3)]) (w := w) (rs := [.tmp 8]) (fn := Try.f21) (c := ref18_Hold_Lead.body) Try.func21 (by kernel_rfl) (by kernel_rfl) (Nat.le_of_ble_eq_true (by kernel_rfl)) (ref18_Hold_Lead.s15_ok Z Q) (h)).mono fun e w' hR => ?_
  cases e with
  | returned v =>
    obtain ⟨va, rfl, hR⟩ := atB_e hR
    exact .inl ⟨va, rfl, hR⟩
  | panicked c => exact .inr ⟨c, rfl, hR⟩
  | outgrown => exact hR.elim
theorem ref18_Hold_Lead.vc0 (Q : Bool → PT) (h_0 : Option Addr) (sent_1 : Int) (use_2 : Int) (floor_3 : Int) (w : World) (h : ref18_Hold_Lead.F Z0 Q h_0 sent_1 use_2 floor_3 w) : Calls Try.prog 21 ⟨[(Value.pointer h_0), (Value.int .i64 sent_1), (Value.int .i64 use_2), (Value.int .i64 floor_3)]⟩ w fun e w' => (∃ (r0 : Bool), e = .returned (.bool r0) ∧ Q r0 w') :=
  (ref18_Hold_Lead.vc Z0 Q h_0 sent_1 use_2 floor_3 w h).mono fun _ _ hR => hR.elim id fun ⟨_, _, hz⟩ => hz.elim
theorem ref18_Hold_Lead.cal {Z : List PanicEntry → PT} {Q : Bool → PT} {h_0 : Option Addr} {sent_1 : Int} {use_2 : Int} {floor_3 : Int} {w : World} (h : ref18_Hold_Lead.F Z Q h_0 sent_1 use_2 floor_3 w) : Go.Proofs.Ythheldpjcndelaa.cal Try.prog Z 21 [(Value.pointer h_0), (Value.int .i64 sent_1), (Value.int .i64 use_2), (Value.int .i64 floor_3)] (isB fun r0 => Q r0) w := by
  refine (ref18_Hold_Lead.vc Z Q h_0 sent_1 use_2 floor_3 w h).mono fun e w' hR => ?_
  rcases hR with ⟨r0, rfl, h⟩ | ⟨c, rfl, h⟩
  · show (isB fun r0 => Q r0) (.bool r0) w'
    exact ⟨_, rfl, h⟩
  · exact h

/-! ### (*milepost/milepostref18.Hold).Live: function 23 -/
noncomputable def ref18_Hold_Live.body : Code := bodyC Try.f23
def ref18_Hold_Live.F (Z : List PanicEntry → PT) (Q : Bool → PT) (h_0 : Option Addr) (now_1 : Int) (lease_2 : Int) : PT :=
  (nn h_0 fun v1 => (ldI .i64 (v1.add 3) fun v2 => (pif (decide (v2 > 0)) (nn h_0 fun v3 => (ldI .i64 (v3.add 4) fun v4 => (Q (decide ((IntKind.wrap .i64 ((if 1099511627776 < (if 0 > now_1 then 0 else now_1) then 1099511627776 else (if 0 > now_1 then 0 else now_1)) - v4)) < lease_2))))) (Q false))))
def ref18_Hold_Live.q1 (Z : List PanicEntry → PT) (Q : Bool → PT) : QF := bodyQ [.tmp 6] (fun v => atB v fun va => Q va)
theorem ref18_Hold_Live.eq (Z : List PanicEntry → PT) (Q : Bool → PT) (h_0 : Option Addr) (now_1 : Int) (lease_2 : Int) : comp Try.prog Z ref18_Hold_Live.body (ref18_Hold_Live.q1 Z Q) (fr0 [(Value.pointer h_0), (Value.int .i64 now_1), (Value.int .i64 lease_2)]) = ref18_Hold_Live.F Z Q h_0 now_1 lease_2 := by kernel_rfl
theorem ref18_Hold_Live.vc (Z : List PanicEntry → PT) (Q : Bool → PT) (h_0 : Option Addr) (now_1 : Int) (lease_2 : Int) (w : World) (h : ref18_Hold_Live.F Z Q h_0 now_1 lease_2 w) : Calls Try.prog 23 ⟨[(Value.pointer h_0), (Value.int .i64 now_1), (Value.int .i64 lease_2)]⟩ w fun e w' => (∃ (r0 : Bool), e = .returned (.bool r0) ∧ Q r0 w') ∨ ∃ c, e = .panicked c ∧ Z c w' := by
  refine (calls_of_ok (args := [(Value.pointer h_0), (Value.int .i64 now_1), (Value.int .i64 lease_2)]) (w := w) (rs := [.tmp 6]) (fn := Try.f23) (c := ref18_Hold_Live.body) Try.func23 (by kernel_rfl) (by kernel_rfl) (Nat.le_of_ble_eq_true (by kernel_rfl)) (okC ref18_Hold_Live.body (ref18_Hold_Live.q1 Z Q) (by kernel_rfl)) (by rw [ref18_Hold_Live.eq]; exact h)).mono fun e w' hR => ?_
  cases e with
  | returned v =>
    obtain ⟨va, rfl, hR⟩ := atB_e hR
    exact .inl ⟨va, rfl, hR⟩
  | panicked c => exact .inr ⟨c, rfl, hR⟩
  | outgrown => exact hR.elim
theorem ref18_Hold_Live.vc0 (Q : Bool → PT) (h_0 : Option Addr) (now_1 : Int) (lease_2 : Int) (w : World) (h : ref18_Hold_Live.F Z0 Q h_0 now_1 lease_2 w) : Calls Try.prog 23 ⟨[(Value.pointer h_0), (Value.int .i64 now_1), (Value.int .i64 lease_2)]⟩ w fun e w' => (∃ (r0 : Bool), e = .returned (.bool r0) ∧ Q r0 w') :=
  (ref18_Hold_Live.vc Z0 Q h_0 now_1 lease_2 w h).mono fun _ _ hR => hR.elim id fun ⟨_, _, hz⟩ => hz.elim
theorem ref18_Hold_Live.cal {Z : List PanicEntry → PT} {Q : Bool → PT} {h_0 : Option Addr} {now_1 : Int} {lease_2 : Int} {w : World} (h : ref18_Hold_Live.F Z Q h_0 now_1 lease_2 w) : Go.Proofs.Ythheldpjcndelaa.cal Try.prog Z 23 [(Value.pointer h_0), (Value.int .i64 now_1), (Value.int .i64 lease_2)] (isB fun r0 => Q r0) w := by
  refine (ref18_Hold_Live.vc Z Q h_0 now_1 lease_2 w h).mono fun e w' hR => ?_
  rcases hR with ⟨r0, rfl, h⟩ | ⟨c, rfl, h⟩
  · show (isB fun r0 => Q r0) (.bool r0) w'
    exact ⟨_, rfl, h⟩
  · exact h

/-! ### (*milepost/milepostref18.Hold).Count: function 24 -/
noncomputable def ref18_Hold_Count.body : Code := bodyC Try.f24
noncomputable def ref18_Hold_Count.c1 : Code := sq1 ref18_Hold_Count.body
noncomputable def ref18_Hold_Count.c2 : Code := sq1 (sq2 ref18_Hold_Count.body)
noncomputable def ref18_Hold_Count.c3 : Code := sq1 (sq2 (sq2 ref18_Hold_Count.body))
noncomputable def ref18_Hold_Count.c4 : Code := sq2 (sq2 (sq2 ref18_Hold_Count.body))
theorem ref18_Hold_Count.q5 : ref18_Hold_Count.body = .seq ref18_Hold_Count.c1 (.seq ref18_Hold_Count.c2 (.seq ref18_Hold_Count.c3 ref18_Hold_Count.c4)) := by kernel_rfl
noncomputable def ref18_Hold_Count.c6 : Code := sq1 ref18_Hold_Count.c4
noncomputable def ref18_Hold_Count.c7 : Code := sq2 ref18_Hold_Count.c4
theorem ref18_Hold_Count.q8 : ref18_Hold_Count.c4 = .seq ref18_Hold_Count.c6 ref18_Hold_Count.c7 := by kernel_rfl
def ref18_Hold_Count.s9 (Z : List PanicEntry → PT) (Q : Int → Int → PT) (n_6 : Int) (of_7 : Int) : PT :=
  (Q n_6 of_7)
def ref18_Hold_Count.q10 (Z : List PanicEntry → PT) (Q : Int → Int → PT) : QF := bodyQ [.tmp 4, .tmp 5] (fun v => at2 v fun x y => atI .i64 x fun xa => atI .i64 y fun ya => Q xa ya)
theorem ref18_Hold_Count.s9_eq (Z : List PanicEntry → PT) (Q : Int → Int → PT) (ρ : Fr) (n_6 : Int) (of_7 : Int) : comp Try.prog Z ref18_Hold_Count.c7 (ref18_Hold_Count.q10 Z Q) (puts ρ [(6, (Value.int .i64 n_6)), (7, (Value.int .i64 of_7))]) = ref18_Hold_Count.s9 Z Q n_6 of_7 := by kernel_rfl
def ref18_Hold_Count.j11 (Z : List PanicEntry → PT) (Q : Int → Int → PT) : Fr → PT := (fun ρ => atI .i64 (ρ 6) fun n_6 => atI .i64 (ρ 7) fun of_7 => (ref18_Hold_Count.s9 Z Q n_6 of_7))
theorem ref18_Hold_Count.s9_ok (Z : List PanicEntry → PT) (Q : Int → Int → PT) : Ok Try.prog Try.f24.ntmps Z ref18_Hold_Count.c7 (ref18_Hold_Count.q10 Z Q) (ref18_Hold_Count.j11 Z Q) := by
  intro ρ w a hr h
  obtain ⟨n_6, e6, h⟩ := atI_e h
  obtain ⟨of_7, e7, h⟩ := atI_e h
  exact ok_at [(6, (Value.int .i64 n_6)), (7, (Value.int .i64 of_7))] (okC ref18_Hold_Count.c7 (ref18_Hold_Count.q10 Z Q) (by kernel_rfl)) (puts_cons e6 (puts_cons e7 (fun p hp => puts_nil hp))) (ref18_Hold_Count.s9_eq Z Q ρ n_6 of_7) hr h
noncomputable def ref18_Hold_Count.c12 : Code := sq1 ref18_Hold_Count.c6
noncomputable def ref18_Hold_Count.c13 : Code := sq2 ref18_Hold_Count.c6
theorem ref18_Hold_Count.q14 : ref18_Hold_Count.c6 = .seq ref18_Hold_Count.c12 ref18_Hold_Count.c13 := by kernel_rfl
noncomputable def ref18_Hold_Count.c15 : Code := blk ref18_Hold_Count.c13
theorem ref18_Hold_Count.q16 : ref18_Hold_Count.c13 = .block 0 ref18_Hold_Count.c15 := by kernel_rfl
noncomputable def ref18_Hold_Count.c17 : Code := lop ref18_Hold_Count.c15
theorem ref18_Hold_Count.q18 : ref18_Hold_Count.c15 = .loop ref18_Hold_Count.c17 := by kernel_rfl
def ref18_Hold_Count.q20 (Z : List PanicEntry → PT) (Q : Int → Int → PT) : QF := thenK (ref18_Hold_Count.j11 Z Q) (ref18_Hold_Count.q10 Z Q)
def ref18_Hold_Count.q21 (Z : List PanicEntry → PT) (Q : Int → Int → PT) : QF := inBl 0 (ref18_Hold_Count.q20 Z Q)
def ref18_Hold_Count.s22 (Z : List PanicEntry → PT) (Q : Int → Int → PT) (X1 : Option Addr → Int → Int → Int → Int → PT) (h_0 : Option Addr) (epoch_1 : Int) (n_6 : Int) (of_7 : Int) (i_8 : Int) : PT :=
  (nn h_0 fun v19 => (ldL (v19.add 5) fun v20 v20n v20c => (pif (decide (i_8 < ((v20n : Nat) : Int))) (nn h_0 fun v21 => (ldL (v21.add 5) fun v22 v22n v22c => (ixS v22 v22n i_8 2 fun v23 => (ldI .i64 (v23.add 0) fun v24 => (pif (v24 == epoch_1) (nn h_0 fun v25 => (ldL (v25.add 5) fun v26 v26n v26c => (ixS v26 v26n i_8 2 fun v27 => (ldI .i64 (v27.add 1) fun v28 => (X1 h_0 epoch_1 (IntKind.wrap .i64 (n_6 + 1)) v28 (IntKind.wrap .i64 (i_8 + 1))))))) (X1 h_0 epoch_1 n_6 of_7 (IntKind.wrap .i64 (i_8 + 1)))))))) (ref18_Hold_Count.s9 Z Q n_6 of_7))))
def ref18_Hold_Count.j23 (Z : List PanicEntry → PT) (Q : Int → Int → PT) (X1 : Option Addr → Int → Int → Int → Int → PT) : Fr → PT := (fun ρ => atP (ρ 0) fun h_0 => atI .i64 (ρ 1) fun epoch_1 => atI .i64 (ρ 6) fun n_6 => atI .i64 (ρ 7) fun of_7 => atI .i64 (ρ 8) fun i_8 => (X1 h_0 epoch_1 n_6 of_7 i_8))
def ref18_Hold_Count.q24 (Z : List PanicEntry → PT) (Q : Int → Int → PT) (X1 : Option Addr → Int → Int → Int → Int → PT) : QF := thenK (ref18_Hold_Count.j23 Z Q X1) (ref18_Hold_Count.q21 Z Q)
theorem ref18_Hold_Count.s22_eq (Z : List PanicEntry → PT) (Q : Int → Int → PT) (X1 : Option Addr → Int → Int → Int → Int → PT) (ρ : Fr) (h_0 : Option Addr) (epoch_1 : Int) (n_6 : Int) (of_7 : Int) (i_8 : Int) : comp Try.prog Z ref18_Hold_Count.c17 (ref18_Hold_Count.q24 Z Q X1) (puts ρ [(0, (Value.pointer h_0)), (1, (Value.int .i64 epoch_1)), (6, (Value.int .i64 n_6)), (7, (Value.int .i64 of_7)), (8, (Value.int .i64 i_8))]) = ref18_Hold_Count.s22 Z Q X1 h_0 epoch_1 n_6 of_7 i_8 := by kernel_rfl
def ref18_Hold_Count.j25 (Z : List PanicEntry → PT) (Q : Int → Int → PT) (X1 : Option Addr → Int → Int → Int → Int → PT) : Fr → PT := (fun ρ => atP (ρ 0) fun h_0 => atI .i64 (ρ 1) fun epoch_1 => atI .i64 (ρ 6) fun n_6 => atI .i64 (ρ 7) fun of_7 => atI .i64 (ρ 8) fun i_8 => (ref18_Hold_Count.s22 Z Q X1 h_0 epoch_1 n_6 of_7 i_8))
theorem ref18_Hold_Count.s22_ok (Z : List PanicEntry → PT) (Q : Int → Int → PT) (X1 : Option Addr → Int → Int → Int → Int → PT) : Ok Try.prog Try.f24.ntmps Z ref18_Hold_Count.c17 (ref18_Hold_Count.q24 Z Q X1) (ref18_Hold_Count.j25 Z Q X1) := by
  intro ρ w a hr h
  obtain ⟨h_0, e0, h⟩ := atP_e h
  obtain ⟨epoch_1, e1, h⟩ := atI_e h
  obtain ⟨n_6, e6, h⟩ := atI_e h
  obtain ⟨of_7, e7, h⟩ := atI_e h
  obtain ⟨i_8, e8, h⟩ := atI_e h
  exact ok_at [(0, (Value.pointer h_0)), (1, (Value.int .i64 epoch_1)), (6, (Value.int .i64 n_6)), (7, (Value.int .i64 of_7)), (8, (Value.int .i64 i_8))] (okC ref18_Hold_Count.c17 (ref18_Hold_Count.q24 Z Q X1) (by kernel_rfl)) (puts_cons e0 (puts_cons e1 (puts_cons e6 (puts_cons e7 (puts_cons e8 (fun p hp => puts_nil hp)))))) (ref18_Hold_Count.s22_eq Z Q X1 ρ h_0 epoch_1 n_6 of_7 i_8) hr h
def ref18_Hold_Count.l19 (Z : List PanicEntry → PT) (Q : Int → Int → PT) : Nat → Option Addr → Int → Int → Int → Int → PT
  | 0, _, _, _, _, _ => bad
  | k + 1, h_0, epoch_1, n_6, of_7, i_8 => (ref18_Hold_Count.s22 Z Q (ref18_Hold_Count.l19 Z Q k) h_0 epoch_1 n_6 of_7 i_8)
def ref18_Hold_Count.j26 (Z : List PanicEntry → PT) (Q : Int → Int → PT) (k : Nat) : Fr → PT := (fun ρ => atP (ρ 0) fun h_0 => atI .i64 (ρ 1) fun epoch_1 => atI .i64 (ρ 6) fun n_6 => atI .i64 (ρ 7) fun of_7 => atI .i64 (ρ 8) fun i_8 => (ref18_Hold_Count.l19 Z Q k h_0 epoch_1 n_6 of_7 i_8))
def ref18_Hold_Count.j27 (Z : List PanicEntry → PT) (Q : Int → Int → PT) : Fr → PT := (fun ρ => atP (ρ 0) fun h_0 => atI .i64 (ρ 1) fun epoch_1 => atI .i64 (ρ 6) fun n_6 => atI .i64 (ρ 7) fun of_7 => atI .i64 (ρ 8) fun i_8 => (exK fun k => ref18_Hold_Count.l19 Z Q k h_0 epoch_1 n_6 of_7 i_8))
theorem ref18_Hold_Count.o28 (Z : List PanicEntry → PT) (Q : Int → Int → PT) : Ok Try.prog Try.f24.ntmps Z ref18_Hold_Count.c15 (ref18_Hold_Count.q21 Z Q) (ref18_Hold_Count.j27 Z Q) := by
  rw [ref18_Hold_Count.q18]
  refine Ok.imp (ok_loop (J := ref18_Hold_Count.j26 Z Q) ?_ ?_) ?_
  · intro ρ w h
    obtain ⟨h_0, e0, h⟩ := atP_e h
    obtain ⟨epoch_1, e1, h⟩ := atI_e h
    obtain ⟨n_6, e6, h⟩ := atI_e h
    obtain ⟨of_7, e7, h⟩ := atI_e h
    obtain ⟨i_8, e8, h⟩ := atI_e h
    exact h
  · intro k
    refine Ok.imp (ref18_Hold_Count.s22_ok Z Q (ref18_Hold_Count.l19 Z Q k)) fun ρ w h => ?_
    obtain ⟨h_0, e0, h⟩ := atP_e h
    obtain ⟨epoch_1, e1, h⟩ := atI_e h
    obtain ⟨n_6, e6, h⟩ := atI_e h
    obtain ⟨of_7, e7, h⟩ := atI_e h
    obtain ⟨i_8, e8, h⟩ := atI_e h
    show (ref18_Hold_Count.j25 Z Q (ref18_Hold_Count.l19 Z Q k)) ρ w
    simp only [ref18_Hold_Count.j25]
    rw [e0]
    rw [e1]
    rw [e6]
    rw [e7]
    rw [e8]
    exact h
  · intro ρ w h
    obtain ⟨h_0, e0, h⟩ := atP_e h
    obtain ⟨epoch_1, e1, h⟩ := atI_e h
    obtain ⟨n_6, e6, h⟩ := atI_e h
    obtain ⟨of_7, e7, h⟩ := atI_e h
    obtain ⟨i_8, e8, h⟩ := atI_e h
    obtain ⟨k, h⟩ := h
    refine ⟨k, ?_⟩
    show (atP (ρ 0) fun h_0 => atI .i64 (ρ 1) fun epoch_1 => atI .i64 (ρ 6) fun n_6 => atI .i64 (ρ 7) fun of_7 => atI .i64 (ρ 8) fun i_8 => (ref18_Hold_Count.l19 Z Q k h_0 epoch_1 n_6 of_7 i_8)) w
    rw [e0]
    rw [e1]
    rw [e6]
    rw [e7]
    rw [e8]
    exact h
theorem ref18_Hold_Count.o29 (Z : List PanicEntry → PT) (Q : Int → Int → PT) : Ok Try.prog Try.f24.ntmps Z ref18_Hold_Count.c13 (ref18_Hold_Count.q20 Z Q) (ref18_Hold_Count.j27 Z Q) := by
  rw [ref18_Hold_Count.q16]; exact ok_block (ref18_Hold_Count.o28 Z Q)
def ref18_Hold_Count.s30 (Z : List PanicEntry → PT) (Q : Int → Int → PT) (h_0 : Option Addr) (epoch_1 : Int) (n_6 : Int) (of_7 : Int) : PT :=
  (exK fun k => ref18_Hold_Count.l19 Z Q k h_0 epoch_1 n_6 of_7 0)
theorem ref18_Hold_Count.s30_eq (Z : List PanicEntry → PT) (Q : Int → Int → PT) (ρ : Fr) (h_0 : Option Addr) (epoch_1 : Int) (n_6 : Int) (of_7 : Int) : (comp Try.prog Z ref18_Hold_Count.c12 (thenK (ref18_Hold_Count.j27 Z Q) (ref18_Hold_Count.q20 Z Q))) (puts ρ [(0, (Value.pointer h_0)), (1, (Value.int .i64 epoch_1)), (6, (Value.int .i64 n_6)), (7, (Value.int .i64 of_7))]) = ref18_Hold_Count.s30 Z Q h_0 epoch_1 n_6 of_7 := by kernel_rfl
def ref18_Hold_Count.j31 (Z : List PanicEntry → PT) (Q : Int → Int → PT) : Fr → PT := (fun ρ => atP (ρ 0) fun h_0 => atI .i64 (ρ 1) fun epoch_1 => atI .i64 (ρ 6) fun n_6 => atI .i64 (ρ 7) fun of_7 => (ref18_Hold_Count.s30 Z Q h_0 epoch_1 n_6 of_7))
theorem ref18_Hold_Count.s30_ok (Z : List PanicEntry → PT) (Q : Int → Int → PT) : Ok Try.prog Try.f24.ntmps Z ref18_Hold_Count.c6 (ref18_Hold_Count.q20 Z Q) (ref18_Hold_Count.j31 Z Q) := by
  rw [ref18_Hold_Count.q14]
  intro ρ w a hr h
  obtain ⟨h_0, e0, h⟩ := atP_e h
  obtain ⟨epoch_1, e1, h⟩ := atI_e h
  obtain ⟨n_6, e6, h⟩ := atI_e h
  obtain ⟨of_7, e7, h⟩ := atI_e h
  exact ok_at [(0, (Value.pointer h_0)), (1, (Value.int .i64 epoch_1)), (6, (Value.int .i64 n_6)), (7, (Value.int .i64 of_7))] (ok_seq (okC ref18_Hold_Count.c12 _ (by kernel_rfl)) (ref18_Hold_Count.o29 Z Q)) (puts_cons e0 (puts_cons e1 (puts_cons e6 (puts_cons e7 (fun p hp => puts_nil hp))))) (ref18_Hold_Count.s30_eq Z Q ρ h_0 epoch_1 n_6 of_7) hr h
theorem ref18_Hold_Count.o32 (Z : List PanicEntry → PT) (Q : Int → Int → PT) : Ok Try.prog Try.f24.ntmps Z ref18_Hold_Count.c4 (ref18_Hold_Count.q10 Z Q) (ref18_Hold_Count.j31 Z Q) := by
  rw [ref18_Hold_Count.q8]; exact ok_seq (ref18_Hold_Count.s30_ok Z Q) (ref18_Hold_Count.s9_ok Z Q)
def ref18_Hold_Count.s33 (Z : List PanicEntry → PT) (Q : Int → Int → PT) (h_0 : Option Addr) (epoch_1 : Int) : PT :=
  (ref18_Hold_Count.s30 Z Q h_0 epoch_1 0 0)
theorem ref18_Hold_Count.s33_eq (Z : List PanicEntry → PT) (Q : Int → Int → PT) (ρ : Fr) (h_0 : Option Addr) (epoch_1 : Int) : (comp Try.prog Z ref18_Hold_Count.c1 (thenK (comp Try.prog Z ref18_Hold_Count.c2 (thenK (comp Try.prog Z ref18_Hold_Count.c3 (thenK (ref18_Hold_Count.j31 Z Q) (ref18_Hold_Count.q10 Z Q))) (ref18_Hold_Count.q10 Z Q))) (ref18_Hold_Count.q10 Z Q))) (puts ρ [(0, (Value.pointer h_0)), (1, (Value.int .i64 epoch_1))]) = ref18_Hold_Count.s33 Z Q h_0 epoch_1 := by kernel_rfl
def ref18_Hold_Count.j34 (Z : List PanicEntry → PT) (Q : Int → Int → PT) : Fr → PT := (fun ρ => atP (ρ 0) fun h_0 => atI .i64 (ρ 1) fun epoch_1 => (ref18_Hold_Count.s33 Z Q h_0 epoch_1))
theorem ref18_Hold_Count.s33_ok (Z : List PanicEntry → PT) (Q : Int → Int → PT) : Ok Try.prog Try.f24.ntmps Z ref18_Hold_Count.body (ref18_Hold_Count.q10 Z Q) (ref18_Hold_Count.j34 Z Q) := by
  rw [ref18_Hold_Count.q5]
  intro ρ w a hr h
  obtain ⟨h_0, e0, h⟩ := atP_e h
  obtain ⟨epoch_1, e1, h⟩ := atI_e h
  exact ok_at [(0, (Value.pointer h_0)), (1, (Value.int .i64 epoch_1))] (ok_seq (okC ref18_Hold_Count.c1 _ (by kernel_rfl)) (ok_seq (okC ref18_Hold_Count.c2 _ (by kernel_rfl)) (ok_seq (okC ref18_Hold_Count.c3 _ (by kernel_rfl)) (ref18_Hold_Count.o32 Z Q)))) (puts_cons e0 (puts_cons e1 (fun p hp => puts_nil hp))) (ref18_Hold_Count.s33_eq Z Q ρ h_0 epoch_1) hr h
def ref18_Hold_Count.F (Z : List PanicEntry → PT) (Q : Int → Int → PT) (h_0 : Option Addr) (epoch_1 : Int) : PT :=
  (ref18_Hold_Count.s33 Z Q h_0 epoch_1)
theorem ref18_Hold_Count.vc (Z : List PanicEntry → PT) (Q : Int → Int → PT) (h_0 : Option Addr) (epoch_1 : Int) (w : World) (h : ref18_Hold_Count.F Z Q h_0 epoch_1 w) : Calls Try.prog 24 ⟨[(Value.pointer h_0), (Value.int .i64 epoch_1)]⟩ w fun e w' => (∃ (r0 : Int) (r1 : Int), e = .returned (.tuple #[.int .i64 r0, .int .i64 r1]) ∧ Q r0 r1 w') ∨ ∃ c, e = .panicked c ∧ Z c w' := by
  refine (calls_of_ok (args := [(Value.pointer h_0), (Value.int .i64 epoch_1)]) (w := w) (rs := [.tmp 4, .tmp 5]) (fn := Try.f24) (c := ref18_Hold_Count.body) Try.func24 (by kernel_rfl) (by kernel_rfl) (Nat.le_of_ble_eq_true (by kernel_rfl)) (ref18_Hold_Count.s33_ok Z Q) (h)).mono fun e w' hR => ?_
  cases e with
  | returned v =>
    obtain ⟨x, y, rfl, hR⟩ := at2_e hR
    obtain ⟨xa, rfl, hR⟩ := atI_e hR
    obtain ⟨ya, rfl, hR⟩ := atI_e hR
    exact .inl ⟨xa, ya, rfl, hR⟩
  | panicked c => exact .inr ⟨c, rfl, hR⟩
  | outgrown => exact hR.elim
theorem ref18_Hold_Count.vc0 (Q : Int → Int → PT) (h_0 : Option Addr) (epoch_1 : Int) (w : World) (h : ref18_Hold_Count.F Z0 Q h_0 epoch_1 w) : Calls Try.prog 24 ⟨[(Value.pointer h_0), (Value.int .i64 epoch_1)]⟩ w fun e w' => (∃ (r0 : Int) (r1 : Int), e = .returned (.tuple #[.int .i64 r0, .int .i64 r1]) ∧ Q r0 r1 w') :=
  (ref18_Hold_Count.vc Z0 Q h_0 epoch_1 w h).mono fun _ _ hR => hR.elim id fun ⟨_, _, hz⟩ => hz.elim
theorem ref18_Hold_Count.cal {Z : List PanicEntry → PT} {Q : Int → Int → PT} {h_0 : Option Addr} {epoch_1 : Int} {w : World} (h : ref18_Hold_Count.F Z Q h_0 epoch_1 w) : Go.Proofs.Ythheldpjcndelaa.cal Try.prog Z 24 [(Value.pointer h_0), (Value.int .i64 epoch_1)] (isT2 fun x y => (isI .i64 fun r0 => (isI .i64 fun r1 => Q r0 r1) y) x) w := by
  refine (ref18_Hold_Count.vc Z Q h_0 epoch_1 w h).mono fun e w' hR => ?_
  rcases hR with ⟨r0, r1, rfl, h⟩ | ⟨c, rfl, h⟩
  · show (isT2 fun x y => (isI .i64 fun r0 => (isI .i64 fun r1 => Q r0 r1) y) x) (.tuple #[.int .i64 r0, .int .i64 r1]) w'
    exact ⟨_, _, rfl, ⟨_, rfl, ⟨_, rfl, h⟩⟩⟩
  · exact h

/-! ### (*milepost/milepostref18.Hold).Lift: function 28 -/
noncomputable def ref18_Hold_Lift.body : Code := bodyC Try.f28
def ref18_Hold_Lift.F (Z : List PanicEntry → PT) (Q : PT) (h_0 : Option Addr) (floor_1 : Int) : PT :=
  (nn h_0 fun v8 => (ldI .i64 (v8.add 1) fun v9 => (pif (decide (floor_1 > v9)) (nn h_0 fun v10 => (st1 (v10.add 1) (Value.int .i64 floor_1) (nn h_0 fun v11 => (ldI .i64 (v11.add 2) fun v12 => (nn h_0 fun v13 => (st1 (v13.add 2) (Value.int .i64 (if floor_1 > v12 then floor_1 else v12)) (cal Try.prog Z 29 [(Value.pointer h_0)] (isU Q)))))))) Q)))
def ref18_Hold_Lift.q1 (Z : List PanicEntry → PT) (Q : PT) : QF := bodyQ [] (fun v => atU v Q)
theorem ref18_Hold_Lift.eq (Z : List PanicEntry → PT) (Q : PT) (h_0 : Option Addr) (floor_1 : Int) : comp Try.prog Z ref18_Hold_Lift.body (ref18_Hold_Lift.q1 Z Q) (fr0 [(Value.pointer h_0), (Value.int .i64 floor_1)]) = ref18_Hold_Lift.F Z Q h_0 floor_1 := by kernel_rfl
theorem ref18_Hold_Lift.vc (Z : List PanicEntry → PT) (Q : PT) (h_0 : Option Addr) (floor_1 : Int) (w : World) (h : ref18_Hold_Lift.F Z Q h_0 floor_1 w) : Calls Try.prog 28 ⟨[(Value.pointer h_0), (Value.int .i64 floor_1)]⟩ w fun e w' => (e = .returned (.tuple #[]) ∧ Q w') ∨ ∃ c, e = .panicked c ∧ Z c w' := by
  refine (calls_of_ok (args := [(Value.pointer h_0), (Value.int .i64 floor_1)]) (w := w) (rs := []) (fn := Try.f28) (c := ref18_Hold_Lift.body) Try.func28 (by kernel_rfl) (by kernel_rfl) (Nat.le_of_ble_eq_true (by kernel_rfl)) (okC ref18_Hold_Lift.body (ref18_Hold_Lift.q1 Z Q) (by kernel_rfl)) (by rw [ref18_Hold_Lift.eq]; exact h)).mono fun e w' hR => ?_
  cases e with
  | returned v =>
    obtain ⟨rfl, h⟩ := atU_e hR
    exact .inl ⟨rfl, h⟩
  | panicked c => exact .inr ⟨c, rfl, hR⟩
  | outgrown => exact hR.elim
theorem ref18_Hold_Lift.vc0 (Q : PT) (h_0 : Option Addr) (floor_1 : Int) (w : World) (h : ref18_Hold_Lift.F Z0 Q h_0 floor_1 w) : Calls Try.prog 28 ⟨[(Value.pointer h_0), (Value.int .i64 floor_1)]⟩ w fun e w' => (e = .returned (.tuple #[]) ∧ Q w') :=
  (ref18_Hold_Lift.vc Z0 Q h_0 floor_1 w h).mono fun _ _ hR => hR.elim id fun ⟨_, _, hz⟩ => hz.elim
theorem ref18_Hold_Lift.cal {Z : List PanicEntry → PT} {Q : PT} {h_0 : Option Addr} {floor_1 : Int} {w : World} (h : ref18_Hold_Lift.F Z Q h_0 floor_1 w) : Go.Proofs.Ythheldpjcndelaa.cal Try.prog Z 28 [(Value.pointer h_0), (Value.int .i64 floor_1)] (isU Q) w := by
  refine (ref18_Hold_Lift.vc Z Q h_0 floor_1 w h).mono fun e w' hR => ?_
  rcases hR with ⟨rfl, h⟩ | ⟨c, rfl, h⟩
  · show (isU Q) (.tuple #[]) w'
    exact ⟨rfl, h⟩
  · exact h

/-! ### (*milepost/milepostref18.Hold).Forget: function 29 -/
noncomputable def ref18_Hold_Forget.body : Code := bodyC Try.f29
noncomputable def ref18_Hold_Forget.c1 : Code := sq1 ref18_Hold_Forget.body
noncomputable def ref18_Hold_Forget.c2 : Code := sq2 ref18_Hold_Forget.body
theorem ref18_Hold_Forget.q3 : ref18_Hold_Forget.body = .seq ref18_Hold_Forget.c1 ref18_Hold_Forget.c2 := by kernel_rfl
noncomputable def ref18_Hold_Forget.c4 : Code := sq1 ref18_Hold_Forget.c2
noncomputable def ref18_Hold_Forget.c5 : Code := sq2 ref18_Hold_Forget.c2
theorem ref18_Hold_Forget.q6 : ref18_Hold_Forget.c2 = .seq ref18_Hold_Forget.c4 ref18_Hold_Forget.c5 := by kernel_rfl
def ref18_Hold_Forget.s7 (Z : List PanicEntry → PT) (Q : PT) (h_0 : Option Addr) (out_2 : Option Addr) (out_2n out_2c : Nat) : PT :=
  (nn h_0 fun v13 => (st1 (v13.add 5) (Value.slice out_2 out_2n out_2c) (drew0 (nn h_0 fun v14 => (ldI .i64 (v14.add 3) fun v15 => (nn h_0 fun v16 => (ldI .i64 (v16.add 1) fun v17 => (pif (v15 != v17) (nn h_0 fun v18 => (ldI .i64 (v18.add 3) fun v19 => (nn h_0 fun v20 => (ldI .i64 (v20.add 2) fun v21 => (pif (v19 != v21) (nn h_0 fun v22 => (st1 (v22.add 3) (Value.int .i64 0) (nn h_0 fun v23 => (st1 (v23.add 4) (Value.int .i64 0) Q)))) Q))))) Q))))))))
def ref18_Hold_Forget.q8 (Z : List PanicEntry → PT) (Q : PT) : QF := bodyQ [] (fun v => atU v Q)
theorem ref18_Hold_Forget.s7_eq (Z : List PanicEntry → PT) (Q : PT) (ρ : Fr) (h_0 : Option Addr) (out_2 : Option Addr) (out_2n out_2c : Nat) : comp Try.prog Z ref18_Hold_Forget.c5 (ref18_Hold_Forget.q8 Z Q) (puts ρ [(0, (Value.pointer h_0)), (2, (Value.slice out_2 out_2n out_2c))]) = ref18_Hold_Forget.s7 Z Q h_0 out_2 out_2n out_2c := by kernel_rfl
def ref18_Hold_Forget.j9 (Z : List PanicEntry → PT) (Q : PT) : Fr → PT := (fun ρ => atP (ρ 0) fun h_0 => atL (ρ 2) fun out_2 out_2n out_2c => (ref18_Hold_Forget.s7 Z Q h_0 out_2 out_2n out_2c))
theorem ref18_Hold_Forget.s7_ok (Z : List PanicEntry → PT) (Q : PT) : Ok Try.prog Try.f29.ntmps Z ref18_Hold_Forget.c5 (ref18_Hold_Forget.q8 Z Q) (ref18_Hold_Forget.j9 Z Q) := by
  intro ρ w a hr h
  obtain ⟨h_0, e0, h⟩ := atP_e h
  obtain ⟨out_2, out_2n, out_2c, e2, h⟩ := atL_e h
  exact ok_at [(0, (Value.pointer h_0)), (2, (Value.slice out_2 out_2n out_2c))] (okC ref18_Hold_Forget.c5 (ref18_Hold_Forget.q8 Z Q) (by kernel_rfl)) (puts_cons e0 (puts_cons e2 (fun p hp => puts_nil hp))) (ref18_Hold_Forget.s7_eq Z Q ρ h_0 out_2 out_2n out_2c) hr h
noncomputable def ref18_Hold_Forget.c10 : Code := sq1 ref18_Hold_Forget.c4
noncomputable def ref18_Hold_Forget.c11 : Code := sq2 ref18_Hold_Forget.c4
theorem ref18_Hold_Forget.q12 : ref18_Hold_Forget.c4 = .seq ref18_Hold_Forget.c10 ref18_Hold_Forget.c11 := by kernel_rfl
noncomputable def ref18_Hold_Forget.c13 : Code := blk ref18_Hold_Forget.c11
theorem ref18_Hold_Forget.q14 : ref18_Hold_Forget.c11 = .block 0 ref18_Hold_Forget.c13 := by kernel_rfl
noncomputable def ref18_Hold_Forget.c15 : Code := lop ref18_Hold_Forget.c13
theorem ref18_Hold_Forget.q16 : ref18_Hold_Forget.c13 = .loop ref18_Hold_Forget.c15 := by kernel_rfl
def ref18_Hold_Forget.q18 (Z : List PanicEntry → PT) (Q : PT) : QF := thenK (ref18_Hold_Forget.j9 Z Q) (ref18_Hold_Forget.q8 Z Q)
def ref18_Hold_Forget.q19 (Z : List PanicEntry → PT) (Q : PT) : QF := inBl 0 (ref18_Hold_Forget.q18 Z Q)
noncomputable def ref18_Hold_Forget.c20 : Code := sq1 ref18_Hold_Forget.c15
noncomputable def ref18_Hold_Forget.c21 : Code := sq2 ref18_Hold_Forget.c15
theorem ref18_Hold_Forget.q22 : ref18_Hold_Forget.c15 = .seq ref18_Hold_Forget.c20 ref18_Hold_Forget.c21 := by kernel_rfl
noncomputable def ref18_Hold_Forget.c23 : Code := sq1 ref18_Hold_Forget.c21
noncomputable def ref18_Hold_Forget.c24 : Code := sq2 ref18_Hold_Forget.c21
theorem ref18_Hold_Forget.q25 : ref18_Hold_Forget.c21 = .seq ref18_Hold_Forget.c23 ref18_Hold_Forget.c24 := by kernel_rfl
def ref18_Hold_Forget.s26 (Z : List PanicEntry → PT) (Q : PT) (X1 : Option Addr → Option Addr → Nat → Nat → Int → PT) (h_0 : Option Addr) (out_2 : Option Addr) (out_2n out_2c : Nat) (i_3 : Int) : PT :=
  (X1 h_0 out_2 out_2n out_2c (IntKind.wrap .i64 (i_3 + 1)))
def ref18_Hold_Forget.j27 (Z : List PanicEntry → PT) (Q : PT) (X1 : Option Addr → Option Addr → Nat → Nat → Int → PT) : Fr → PT := (fun ρ => atP (ρ 0) fun h_0 => atL (ρ 2) fun out_2 out_2n out_2c => atI .i64 (ρ 3) fun i_3 => (X1 h_0 out_2 out_2n out_2c i_3))
def ref18_Hold_Forget.q28 (Z : List PanicEntry → PT) (Q : PT) (X1 : Option Addr → Option Addr → Nat → Nat → Int → PT) : QF := thenK (ref18_Hold_Forget.j27 Z Q X1) (ref18_Hold_Forget.q19 Z Q)
theorem ref18_Hold_Forget.s26_eq (Z : List PanicEntry → PT) (Q : PT) (X1 : Option Addr → Option Addr → Nat → Nat → Int → PT) (ρ : Fr) (h_0 : Option Addr) (out_2 : Option Addr) (out_2n out_2c : Nat) (i_3 : Int) : comp Try.prog Z ref18_Hold_Forget.c24 (ref18_Hold_Forget.q28 Z Q X1) (puts ρ [(0, (Value.pointer h_0)), (2, (Value.slice out_2 out_2n out_2c)), (3, (Value.int .i64 i_3))]) = ref18_Hold_Forget.s26 Z Q X1 h_0 out_2 out_2n out_2c i_3 := by kernel_rfl
def ref18_Hold_Forget.j29 (Z : List PanicEntry → PT) (Q : PT) (X1 : Option Addr → Option Addr → Nat → Nat → Int → PT) : Fr → PT := (fun ρ => atP (ρ 0) fun h_0 => atL (ρ 2) fun out_2 out_2n out_2c => atI .i64 (ρ 3) fun i_3 => (ref18_Hold_Forget.s26 Z Q X1 h_0 out_2 out_2n out_2c i_3))
theorem ref18_Hold_Forget.s26_ok (Z : List PanicEntry → PT) (Q : PT) (X1 : Option Addr → Option Addr → Nat → Nat → Int → PT) : Ok Try.prog Try.f29.ntmps Z ref18_Hold_Forget.c24 (ref18_Hold_Forget.q28 Z Q X1) (ref18_Hold_Forget.j29 Z Q X1) := by
  intro ρ w a hr h
  obtain ⟨h_0, e0, h⟩ := atP_e h
  obtain ⟨out_2, out_2n, out_2c, e2, h⟩ := atL_e h
  obtain ⟨i_3, e3, h⟩ := atI_e h
  exact ok_at [(0, (Value.pointer h_0)), (2, (Value.slice out_2 out_2n out_2c)), (3, (Value.int .i64 i_3))] (okC ref18_Hold_Forget.c24 (ref18_Hold_Forget.q28 Z Q X1) (by kernel_rfl)) (puts_cons e0 (puts_cons e2 (puts_cons e3 (fun p hp => puts_nil hp)))) (ref18_Hold_Forget.s26_eq Z Q X1 ρ h_0 out_2 out_2n out_2c i_3) hr h
noncomputable def ref18_Hold_Forget.c30 : Code := blk ref18_Hold_Forget.c23
theorem ref18_Hold_Forget.q31 : ref18_Hold_Forget.c23 = .block 1 ref18_Hold_Forget.c30 := by kernel_rfl
noncomputable def ref18_Hold_Forget.c32 : Code := sq1 ref18_Hold_Forget.c30
noncomputable def ref18_Hold_Forget.c33 : Code := sq2 ref18_Hold_Forget.c30
theorem ref18_Hold_Forget.q34 : ref18_Hold_Forget.c30 = .seq ref18_Hold_Forget.c32 ref18_Hold_Forget.c33 := by kernel_rfl
def ref18_Hold_Forget.s35 (Z : List PanicEntry → PT) (Q : PT) (X1 : Option Addr → Option Addr → Nat → Nat → Int → PT) (h_0 : Option Addr) (out_2 : Option Addr) (out_2n out_2c : Nat) (i_3 : Int) (t_41 : Bool) : PT :=
  (pif t_41 (nn h_0 fun v116 => (ldL (v116.add 5) fun v117 v117n v117c => (ixS v117 v117n i_3 2 fun v118 => (ldN 2 v118 fun v119 => (cnd (List.length v119 = 2) (newC 54 (v119 ++ ([])) fun v120 => (runL Try.prog (bi .append #[41, 41] 41 [false, false] [(Value.slice out_2 out_2n out_2c), (Value.slice (some v120) 1 1)]) fun v121 v121n v121c => (ref18_Hold_Forget.s26 Z Q X1 h_0 v121 v121n v121c i_3)))))))) (ref18_Hold_Forget.s26 Z Q X1 h_0 out_2 out_2n out_2c i_3))
def ref18_Hold_Forget.q36 (Z : List PanicEntry → PT) (Q : PT) (X1 : Option Addr → Option Addr → Nat → Nat → Int → PT) : QF := thenK (ref18_Hold_Forget.j29 Z Q X1) (ref18_Hold_Forget.q28 Z Q X1)
def ref18_Hold_Forget.q37 (Z : List PanicEntry → PT) (Q : PT) (X1 : Option Addr → Option Addr → Nat → Nat → Int → PT) : QF := inBl 1 (ref18_Hold_Forget.q36 Z Q X1)
theorem ref18_Hold_Forget.s35_eq (Z : List PanicEntry → PT) (Q : PT) (X1 : Option Addr → Option Addr → Nat → Nat → Int → PT) (ρ : Fr) (h_0 : Option Addr) (out_2 : Option Addr) (out_2n out_2c : Nat) (i_3 : Int) (t_41 : Bool) : comp Try.prog Z ref18_Hold_Forget.c33 (ref18_Hold_Forget.q37 Z Q X1) (puts ρ [(0, (Value.pointer h_0)), (2, (Value.slice out_2 out_2n out_2c)), (3, (Value.int .i64 i_3)), (41, (Value.bool t_41))]) = ref18_Hold_Forget.s35 Z Q X1 h_0 out_2 out_2n out_2c i_3 t_41 := by kernel_rfl
def ref18_Hold_Forget.j38 (Z : List PanicEntry → PT) (Q : PT) (X1 : Option Addr → Option Addr → Nat → Nat → Int → PT) : Fr → PT := (fun ρ => atP (ρ 0) fun h_0 => atL (ρ 2) fun out_2 out_2n out_2c => atI .i64 (ρ 3) fun i_3 => atB (ρ 41) fun t_41 => (ref18_Hold_Forget.s35 Z Q X1 h_0 out_2 out_2n out_2c i_3 t_41))
theorem ref18_Hold_Forget.s35_ok (Z : List PanicEntry → PT) (Q : PT) (X1 : Option Addr → Option Addr → Nat → Nat → Int → PT) : Ok Try.prog Try.f29.ntmps Z ref18_Hold_Forget.c33 (ref18_Hold_Forget.q37 Z Q X1) (ref18_Hold_Forget.j38 Z Q X1) := by
  intro ρ w a hr h
  obtain ⟨h_0, e0, h⟩ := atP_e h
  obtain ⟨out_2, out_2n, out_2c, e2, h⟩ := atL_e h
  obtain ⟨i_3, e3, h⟩ := atI_e h
  obtain ⟨t_41, e41, h⟩ := atB_e h
  exact ok_at [(0, (Value.pointer h_0)), (2, (Value.slice out_2 out_2n out_2c)), (3, (Value.int .i64 i_3)), (41, (Value.bool t_41))] (okC ref18_Hold_Forget.c33 (ref18_Hold_Forget.q37 Z Q X1) (by kernel_rfl)) (puts_cons e0 (puts_cons e2 (puts_cons e3 (puts_cons e41 (fun p hp => puts_nil hp))))) (ref18_Hold_Forget.s35_eq Z Q X1 ρ h_0 out_2 out_2n out_2c i_3 t_41) hr h
def ref18_Hold_Forget.s39 (Z : List PanicEntry → PT) (Q : PT) (X1 : Option Addr → Option Addr → Nat → Nat → Int → PT) (h_0 : Option Addr) (out_2 : Option Addr) (out_2n out_2c : Nat) (i_3 : Int) : PT :=
  (drew0 (nn h_0 fun v122 => (ldL (v122.add 5) fun v123 v123n v123c => (ixS v123 v123n i_3 2 fun v124 => (ldI .i64 (v124.add 0) fun v125 => (nn h_0 fun v126 => (ldI .i64 (v126.add 1) fun v127 => (pif (v125 == v127) (ref18_Hold_Forget.s35 Z Q X1 h_0 out_2 out_2n out_2c i_3 true) (nn h_0 fun v128 => (ldL (v128.add 5) fun v129 v129n v129c => (ixS v129 v129n i_3 2 fun v130 => (ldI .i64 (v130.add 0) fun v131 => (nn h_0 fun v132 => (ldI .i64 (v132.add 2) fun v133 => (ref18_Hold_Forget.s35 Z Q X1 h_0 out_2 out_2n out_2c i_3 (v131 == v133))))))))))))))))
theorem ref18_Hold_Forget.s39_eq (Z : List PanicEntry → PT) (Q : PT) (X1 : Option Addr → Option Addr → Nat → Nat → Int → PT) (ρ : Fr) (h_0 : Option Addr) (out_2 : Option Addr) (out_2n out_2c : Nat) (i_3 : Int) : (comp Try.prog Z ref18_Hold_Forget.c32 (thenK (ref18_Hold_Forget.j38 Z Q X1) (ref18_Hold_Forget.q37 Z Q X1))) (puts ρ [(0, (Value.pointer h_0)), (2, (Value.slice out_2 out_2n out_2c)), (3, (Value.int .i64 i_3))]) = ref18_Hold_Forget.s39 Z Q X1 h_0 out_2 out_2n out_2c i_3 := by kernel_rfl
def ref18_Hold_Forget.j40 (Z : List PanicEntry → PT) (Q : PT) (X1 : Option Addr → Option Addr → Nat → Nat → Int → PT) : Fr → PT := (fun ρ => atP (ρ 0) fun h_0 => atL (ρ 2) fun out_2 out_2n out_2c => atI .i64 (ρ 3) fun i_3 => (ref18_Hold_Forget.s39 Z Q X1 h_0 out_2 out_2n out_2c i_3))
theorem ref18_Hold_Forget.s39_ok (Z : List PanicEntry → PT) (Q : PT) (X1 : Option Addr → Option Addr → Nat → Nat → Int → PT) : Ok Try.prog Try.f29.ntmps Z ref18_Hold_Forget.c30 (ref18_Hold_Forget.q37 Z Q X1) (ref18_Hold_Forget.j40 Z Q X1) := by
  rw [ref18_Hold_Forget.q34]
  intro ρ w a hr h
  obtain ⟨h_0, e0, h⟩ := atP_e h
  obtain ⟨out_2, out_2n, out_2c, e2, h⟩ := atL_e h
  obtain ⟨i_3, e3, h⟩ := atI_e h
  exact ok_at [(0, (Value.pointer h_0)), (2, (Value.slice out_2 out_2n out_2c)), (3, (Value.int .i64 i_3))] (ok_seq (okC ref18_Hold_Forget.c32 _ (by kernel_rfl)) (ref18_Hold_Forget.s35_ok Z Q X1)) (puts_cons e0 (puts_cons e2 (puts_cons e3 (fun p hp => puts_nil hp)))) (ref18_Hold_Forget.s39_eq Z Q X1 ρ h_0 out_2 out_2n out_2c i_3) hr h
theorem ref18_Hold_Forget.o41 (Z : List PanicEntry → PT) (Q : PT) (X1 : Option Addr → Option Addr → Nat → Nat → Int → PT) : Ok Try.prog Try.f29.ntmps Z ref18_Hold_Forget.c23 (ref18_Hold_Forget.q36 Z Q X1) (ref18_Hold_Forget.j40 Z Q X1) := by
  rw [ref18_Hold_Forget.q31]; exact ok_block (ref18_Hold_Forget.s39_ok Z Q X1)
theorem ref18_Hold_Forget.o42 (Z : List PanicEntry → PT) (Q : PT) (X1 : Option Addr → Option Addr → Nat → Nat → Int → PT) : Ok Try.prog Try.f29.ntmps Z ref18_Hold_Forget.c21 (ref18_Hold_Forget.q28 Z Q X1) (ref18_Hold_Forget.j40 Z Q X1) := by
  rw [ref18_Hold_Forget.q25]; exact ok_seq (ref18_Hold_Forget.o41 Z Q X1) (ref18_Hold_Forget.s26_ok Z Q X1)
def ref18_Hold_Forget.s43 (Z : List PanicEntry → PT) (Q : PT) (X1 : Option Addr → Option Addr → Nat → Nat → Int → PT) (h_0 : Option Addr) (out_2 : Option Addr) (out_2n out_2c : Nat) (i_3 : Int) : PT :=
  (nn h_0 fun v134 => (ldL (v134.add 5) fun v135 v135n v135c => (pif (decide (i_3 < ((v135n : Nat) : Int))) (ref18_Hold_Forget.s39 Z Q X1 h_0 out_2 out_2n out_2c i_3) (ref18_Hold_Forget.s7 Z Q h_0 out_2 out_2n out_2c))))
theorem ref18_Hold_Forget.s43_eq (Z : List PanicEntry → PT) (Q : PT) (X1 : Option Addr → Option Addr → Nat → Nat → Int → PT) (ρ : Fr) (h_0 : Option Addr) (out_2 : Option Addr) (out_2n out_2c : Nat) (i_3 : Int) : (comp Try.prog Z ref18_Hold_Forget.c20 (thenK (ref18_Hold_Forget.j40 Z Q X1) (ref18_Hold_Forget.q28 Z Q X1))) (puts ρ [(0, (Value.pointer h_0)), (2, (Value.slice out_2 out_2n out_2c)), (3, (Value.int .i64 i_3))]) = ref18_Hold_Forget.s43 Z Q X1 h_0 out_2 out_2n out_2c i_3 := by kernel_rfl
def ref18_Hold_Forget.j44 (Z : List PanicEntry → PT) (Q : PT) (X1 : Option Addr → Option Addr → Nat → Nat → Int → PT) : Fr → PT := (fun ρ => atP (ρ 0) fun h_0 => atL (ρ 2) fun out_2 out_2n out_2c => atI .i64 (ρ 3) fun i_3 => (ref18_Hold_Forget.s43 Z Q X1 h_0 out_2 out_2n out_2c i_3))
theorem ref18_Hold_Forget.s43_ok (Z : List PanicEntry → PT) (Q : PT) (X1 : Option Addr → Option Addr → Nat → Nat → Int → PT) : Ok Try.prog Try.f29.ntmps Z ref18_Hold_Forget.c15 (ref18_Hold_Forget.q28 Z Q X1) (ref18_Hold_Forget.j44 Z Q X1) := by
  rw [ref18_Hold_Forget.q22]
  intro ρ w a hr h
  obtain ⟨h_0, e0, h⟩ := atP_e h
  obtain ⟨out_2, out_2n, out_2c, e2, h⟩ := atL_e h
  obtain ⟨i_3, e3, h⟩ := atI_e h
  exact ok_at [(0, (Value.pointer h_0)), (2, (Value.slice out_2 out_2n out_2c)), (3, (Value.int .i64 i_3))] (ok_seq (okC ref18_Hold_Forget.c20 _ (by kernel_rfl)) (ref18_Hold_Forget.o42 Z Q X1)) (puts_cons e0 (puts_cons e2 (puts_cons e3 (fun p hp => puts_nil hp)))) (ref18_Hold_Forget.s43_eq Z Q X1 ρ h_0 out_2 out_2n out_2c i_3) hr h
def ref18_Hold_Forget.l17 (Z : List PanicEntry → PT) (Q : PT) : Nat → Option Addr → Option Addr → Nat → Nat → Int → PT
  | 0, _, _, _, _, _ => bad
  | k + 1, h_0, out_2, out_2n, out_2c, i_3 => (ref18_Hold_Forget.s43 Z Q (ref18_Hold_Forget.l17 Z Q k) h_0 out_2 out_2n out_2c i_3)
def ref18_Hold_Forget.j45 (Z : List PanicEntry → PT) (Q : PT) (k : Nat) : Fr → PT := (fun ρ => atP (ρ 0) fun h_0 => atL (ρ 2) fun out_2 out_2n out_2c => atI .i64 (ρ 3) fun i_3 => (ref18_Hold_Forget.l17 Z Q k h_0 out_2 out_2n out_2c i_3))
def ref18_Hold_Forget.j46 (Z : List PanicEntry → PT) (Q : PT) : Fr → PT := (fun ρ => atP (ρ 0) fun h_0 => atL (ρ 2) fun out_2 out_2n out_2c => atI .i64 (ρ 3) fun i_3 => (exK fun k => ref18_Hold_Forget.l17 Z Q k h_0 out_2 out_2n out_2c i_3))
theorem ref18_Hold_Forget.o47 (Z : List PanicEntry → PT) (Q : PT) : Ok Try.prog Try.f29.ntmps Z ref18_Hold_Forget.c13 (ref18_Hold_Forget.q19 Z Q) (ref18_Hold_Forget.j46 Z Q) := by
  rw [ref18_Hold_Forget.q16]
  refine Ok.imp (ok_loop (J := ref18_Hold_Forget.j45 Z Q) ?_ ?_) ?_
  · intro ρ w h
    obtain ⟨h_0, e0, h⟩ := atP_e h
    obtain ⟨out_2, out_2n, out_2c, e2, h⟩ := atL_e h
    obtain ⟨i_3, e3, h⟩ := atI_e h
    exact h
  · intro k
    refine Ok.imp (ref18_Hold_Forget.s43_ok Z Q (ref18_Hold_Forget.l17 Z Q k)) fun ρ w h => ?_
    obtain ⟨h_0, e0, h⟩ := atP_e h
    obtain ⟨out_2, out_2n, out_2c, e2, h⟩ := atL_e h
    obtain ⟨i_3, e3, h⟩ := atI_e h
    show (ref18_Hold_Forget.j44 Z Q (ref18_Hold_Forget.l17 Z Q k)) ρ w
    simp only [ref18_Hold_Forget.j44]
    rw [e0]
    rw [e2]
    rw [e3]
    exact h
  · intro ρ w h
    obtain ⟨h_0, e0, h⟩ := atP_e h
    obtain ⟨out_2, out_2n, out_2c, e2, h⟩ := atL_e h
    obtain ⟨i_3, e3, h⟩ := atI_e h
    obtain ⟨k, h⟩ := h
    refine ⟨k, ?_⟩
    show (atP (ρ 0) fun h_0 => atL (ρ 2) fun out_2 out_2n out_2c => atI .i64 (ρ 3) fun i_3 => (ref18_Hold_Forget.l17 Z Q k h_0 out_2 out_2n out_2c i_3)) w
    rw [e0]
    rw [e2]
    rw [e3]
    exact h
theorem ref18_Hold_Forget.o48 (Z : List PanicEntry → PT) (Q : PT) : Ok Try.prog Try.f29.ntmps Z ref18_Hold_Forget.c11 (ref18_Hold_Forget.q18 Z Q) (ref18_Hold_Forget.j46 Z Q) := by
  rw [ref18_Hold_Forget.q14]; exact ok_block (ref18_Hold_Forget.o47 Z Q)
def ref18_Hold_Forget.s49 (Z : List PanicEntry → PT) (Q : PT) (h_0 : Option Addr) (out_2 : Option Addr) (out_2n out_2c : Nat) : PT :=
  (exK fun k => ref18_Hold_Forget.l17 Z Q k h_0 out_2 out_2n out_2c 0)
theorem ref18_Hold_Forget.s49_eq (Z : List PanicEntry → PT) (Q : PT) (ρ : Fr) (h_0 : Option Addr) (out_2 : Option Addr) (out_2n out_2c : Nat) : (comp Try.prog Z ref18_Hold_Forget.c10 (thenK (ref18_Hold_Forget.j46 Z Q) (ref18_Hold_Forget.q18 Z Q))) (puts ρ [(0, (Value.pointer h_0)), (2, (Value.slice out_2 out_2n out_2c))]) = ref18_Hold_Forget.s49 Z Q h_0 out_2 out_2n out_2c := by kernel_rfl
def ref18_Hold_Forget.j50 (Z : List PanicEntry → PT) (Q : PT) : Fr → PT := (fun ρ => atP (ρ 0) fun h_0 => atL (ρ 2) fun out_2 out_2n out_2c => (ref18_Hold_Forget.s49 Z Q h_0 out_2 out_2n out_2c))
theorem ref18_Hold_Forget.s49_ok (Z : List PanicEntry → PT) (Q : PT) : Ok Try.prog Try.f29.ntmps Z ref18_Hold_Forget.c4 (ref18_Hold_Forget.q18 Z Q) (ref18_Hold_Forget.j50 Z Q) := by
  rw [ref18_Hold_Forget.q12]
  intro ρ w a hr h
  obtain ⟨h_0, e0, h⟩ := atP_e h
  obtain ⟨out_2, out_2n, out_2c, e2, h⟩ := atL_e h
  exact ok_at [(0, (Value.pointer h_0)), (2, (Value.slice out_2 out_2n out_2c))] (ok_seq (okC ref18_Hold_Forget.c10 _ (by kernel_rfl)) (ref18_Hold_Forget.o48 Z Q)) (puts_cons e0 (puts_cons e2 (fun p hp => puts_nil hp))) (ref18_Hold_Forget.s49_eq Z Q ρ h_0 out_2 out_2n out_2c) hr h
theorem ref18_Hold_Forget.o51 (Z : List PanicEntry → PT) (Q : PT) : Ok Try.prog Try.f29.ntmps Z ref18_Hold_Forget.c2 (ref18_Hold_Forget.q8 Z Q) (ref18_Hold_Forget.j50 Z Q) := by
  rw [ref18_Hold_Forget.q6]; exact ok_seq (ref18_Hold_Forget.s49_ok Z Q) (ref18_Hold_Forget.s7_ok Z Q)
def ref18_Hold_Forget.s52 (Z : List PanicEntry → PT) (Q : PT) (h_0 : Option Addr) : PT :=
  (newC 54 [] fun v136 => (ref18_Hold_Forget.s49 Z Q h_0 (some v136) 0 0))
theorem ref18_Hold_Forget.s52_eq (Z : List PanicEntry → PT) (Q : PT) (ρ : Fr) (h_0 : Option Addr) : (comp Try.prog Z ref18_Hold_Forget.c1 (thenK (ref18_Hold_Forget.j50 Z Q) (ref18_Hold_Forget.q8 Z Q))) (puts ρ [(0, (Value.pointer h_0))]) = ref18_Hold_Forget.s52 Z Q h_0 := by kernel_rfl
def ref18_Hold_Forget.j53 (Z : List PanicEntry → PT) (Q : PT) : Fr → PT := (fun ρ => atP (ρ 0) fun h_0 => (ref18_Hold_Forget.s52 Z Q h_0))
theorem ref18_Hold_Forget.s52_ok (Z : List PanicEntry → PT) (Q : PT) : Ok Try.prog Try.f29.ntmps Z ref18_Hold_Forget.body (ref18_Hold_Forget.q8 Z Q) (ref18_Hold_Forget.j53 Z Q) := by
  rw [ref18_Hold_Forget.q3]
  intro ρ w a hr h
  obtain ⟨h_0, e0, h⟩ := atP_e h
  exact ok_at [(0, (Value.pointer h_0))] (ok_seq (okC ref18_Hold_Forget.c1 _ (by kernel_rfl)) (ref18_Hold_Forget.o51 Z Q)) (puts_cons e0 (fun p hp => puts_nil hp)) (ref18_Hold_Forget.s52_eq Z Q ρ h_0) hr h
def ref18_Hold_Forget.F (Z : List PanicEntry → PT) (Q : PT) (h_0 : Option Addr) : PT :=
  (ref18_Hold_Forget.s52 Z Q h_0)
theorem ref18_Hold_Forget.vc (Z : List PanicEntry → PT) (Q : PT) (h_0 : Option Addr) (w : World) (h : ref18_Hold_Forget.F Z Q h_0 w) : Calls Try.prog 29 ⟨[(Value.pointer h_0)]⟩ w fun e w' => (e = .returned (.tuple #[]) ∧ Q w') ∨ ∃ c, e = .panicked c ∧ Z c w' := by
  refine (calls_of_ok (args := [(Value.pointer h_0)]) (w := w) (rs := []) (fn := Try.f29) (c := ref18_Hold_Forget.body) Try.func29 (by kernel_rfl) (by kernel_rfl) (Nat.le_of_ble_eq_true (by kernel_rfl)) (ref18_Hold_Forget.s52_ok Z Q) (h)).mono fun e w' hR => ?_
  cases e with
  | returned v =>
    obtain ⟨rfl, h⟩ := atU_e hR
    exact .inl ⟨rfl, h⟩
  | panicked c => exact .inr ⟨c, rfl, hR⟩
  | outgrown => exact hR.elim
theorem ref18_Hold_Forget.vc0 (Q : PT) (h_0 : Option Addr) (w : World) (h : ref18_Hold_Forget.F Z0 Q h_0 w) : Calls Try.prog 29 ⟨[(Value.pointer h_0)]⟩ w fun e w' => (e = .returned (.tuple #[]) ∧ Q w') :=
  (ref18_Hold_Forget.vc Z0 Q h_0 w h).mono fun _ _ hR => hR.elim id fun ⟨_, _, hz⟩ => hz.elim
theorem ref18_Hold_Forget.cal {Z : List PanicEntry → PT} {Q : PT} {h_0 : Option Addr} {w : World} (h : ref18_Hold_Forget.F Z Q h_0 w) : Go.Proofs.Ythheldpjcndelaa.cal Try.prog Z 29 [(Value.pointer h_0)] (isU Q) w := by
  refine (ref18_Hold_Forget.vc Z Q h_0 w h).mono fun e w' hR => ?_
  rcases hR with ⟨rfl, h⟩ | ⟨c, rfl, h⟩
  · show (isU Q) (.tuple #[]) w'
    exact ⟨rfl, h⟩
  · exact h

/-! ### (*milepost/milepostref18.Hold).Full: function 30 -/
noncomputable def ref18_Hold_Full.body : Code := bodyC Try.f30
def ref18_Hold_Full.F (Z : List PanicEntry → PT) (Q : Bool → PT) (h_0 : Option Addr) (epoch_1 : Int) : PT :=
  (cal Try.prog Z 24 [(Value.pointer h_0), (Value.int .i64 epoch_1)] (isT2 fun t5 t6 => (isI .i64 fun v7 => ((isI .i64 fun v8 => (pif (decide (v7 > 0)) (Q (v7 == v8)) (Q false))) t6)) t5))
def ref18_Hold_Full.q1 (Z : List PanicEntry → PT) (Q : Bool → PT) : QF := bodyQ [.tmp 4] (fun v => atB v fun va => Q va)
theorem ref18_Hold_Full.eq (Z : List PanicEntry → PT) (Q : Bool → PT) (h_0 : Option Addr) (epoch_1 : Int) : comp Try.prog Z ref18_Hold_Full.body (ref18_Hold_Full.q1 Z Q) (fr0 [(Value.pointer h_0), (Value.int .i64 epoch_1)]) = ref18_Hold_Full.F Z Q h_0 epoch_1 := by kernel_rfl
theorem ref18_Hold_Full.vc (Z : List PanicEntry → PT) (Q : Bool → PT) (h_0 : Option Addr) (epoch_1 : Int) (w : World) (h : ref18_Hold_Full.F Z Q h_0 epoch_1 w) : Calls Try.prog 30 ⟨[(Value.pointer h_0), (Value.int .i64 epoch_1)]⟩ w fun e w' => (∃ (r0 : Bool), e = .returned (.bool r0) ∧ Q r0 w') ∨ ∃ c, e = .panicked c ∧ Z c w' := by
  refine (calls_of_ok (args := [(Value.pointer h_0), (Value.int .i64 epoch_1)]) (w := w) (rs := [.tmp 4]) (fn := Try.f30) (c := ref18_Hold_Full.body) Try.func30 (by kernel_rfl) (by kernel_rfl) (Nat.le_of_ble_eq_true (by kernel_rfl)) (okC ref18_Hold_Full.body (ref18_Hold_Full.q1 Z Q) (by kernel_rfl)) (by rw [ref18_Hold_Full.eq]; exact h)).mono fun e w' hR => ?_
  cases e with
  | returned v =>
    obtain ⟨va, rfl, hR⟩ := atB_e hR
    exact .inl ⟨va, rfl, hR⟩
  | panicked c => exact .inr ⟨c, rfl, hR⟩
  | outgrown => exact hR.elim
theorem ref18_Hold_Full.vc0 (Q : Bool → PT) (h_0 : Option Addr) (epoch_1 : Int) (w : World) (h : ref18_Hold_Full.F Z0 Q h_0 epoch_1 w) : Calls Try.prog 30 ⟨[(Value.pointer h_0), (Value.int .i64 epoch_1)]⟩ w fun e w' => (∃ (r0 : Bool), e = .returned (.bool r0) ∧ Q r0 w') :=
  (ref18_Hold_Full.vc Z0 Q h_0 epoch_1 w h).mono fun _ _ hR => hR.elim id fun ⟨_, _, hz⟩ => hz.elim
theorem ref18_Hold_Full.cal {Z : List PanicEntry → PT} {Q : Bool → PT} {h_0 : Option Addr} {epoch_1 : Int} {w : World} (h : ref18_Hold_Full.F Z Q h_0 epoch_1 w) : Go.Proofs.Ythheldpjcndelaa.cal Try.prog Z 30 [(Value.pointer h_0), (Value.int .i64 epoch_1)] (isB fun r0 => Q r0) w := by
  refine (ref18_Hold_Full.vc Z Q h_0 epoch_1 w h).mono fun e w' hR => ?_
  rcases hR with ⟨r0, rfl, h⟩ | ⟨c, rfl, h⟩
  · show (isB fun r0 => Q r0) (.bool r0) w'
    exact ⟨_, rfl, h⟩
  · exact h

/-! ### milepost/milepostlaw18.awake: function 9 -/
noncomputable def law18_awake.body : Code := bodyC Try.f9
def law18_awake.F (Z : List PanicEntry → PT) (Q : Bool → PT)  : PT :=
  (cal Try.prog Z 10 [(Value.int .i64 1)] (isP fun v22 => (cal Try.prog Z 15 [(Value.pointer v22), (Value.int .i64 0), (Value.int .i64 1), (Value.int .i64 0), (Value.int .i64 2)] (isI .i64 fun v23 => (cal Try.prog Z 15 [(Value.pointer v22), (Value.int .i64 0), (Value.int .i64 1), (Value.int .i64 0), (Value.int .i64 2)] (isI .i64 fun v24 => (cal Try.prog Z 17 [(Value.pointer v22), (Value.int .i64 5), (Value.int .i64 1), (Value.int .i64 0)] (isB fun v25 => (cal Try.prog Z 15 [(Value.pointer v22), (Value.int .i64 0), (Value.int .i64 1), (Value.int .i64 1), (Value.int .i64 2)] (isI .i64 fun v26 => (cal Try.prog Z 17 [(Value.pointer v22), (Value.int .i64 5), (Value.int .i64 1), (Value.int .i64 0)] (isB fun v27 => (pif (v23 == 1) (pif (v24 == 2) (pif (!v25) (pif (v26 == 1) (pif v27 (cal Try.prog Z 12 [(Value.pointer v22), (Value.int .i64 7), (Value.int .i64 3)] (isB fun v28 => (pif v28 (cal Try.prog Z 12 [(Value.pointer v22), (Value.int .i64 8), (Value.int .i64 3)] (isB fun v29 => (pif (!v29) (cal Try.prog Z 13 [(Value.pointer v22)] (isI .i64 fun v30 => (Q (v30 == 1)))) (Q false)))) (Q false)))) (Q false)) (Q false)) (Q false)) (Q false)) (Q false))))))))))))))
def law18_awake.q1 (Z : List PanicEntry → PT) (Q : Bool → PT) : QF := bodyQ [.tmp 0] (fun v => atB v fun va => Q va)
theorem law18_awake.eq (Z : List PanicEntry → PT) (Q : Bool → PT)  : comp Try.prog Z law18_awake.body (law18_awake.q1 Z Q) (fr0 []) = law18_awake.F Z Q  := by kernel_rfl
theorem law18_awake.vc (Z : List PanicEntry → PT) (Q : Bool → PT)  (w : World) (h : law18_awake.F Z Q  w) : Calls Try.prog 9 ⟨[]⟩ w fun e w' => (∃ (r0 : Bool), e = .returned (.bool r0) ∧ Q r0 w') ∨ ∃ c, e = .panicked c ∧ Z c w' := by
  refine (calls_of_ok (args := []) (w := w) (rs := [.tmp 0]) (fn := Try.f9) (c := law18_awake.body) Try.func9 (by kernel_rfl) (by kernel_rfl) (Nat.le_of_ble_eq_true (by kernel_rfl)) (okC law18_awake.body (law18_awake.q1 Z Q) (by kernel_rfl)) (by rw [law18_awake.eq]; exact h)).mono fun e w' hR => ?_
  cases e with
  | returned v =>
    obtain ⟨va, rfl, hR⟩ := atB_e hR
    exact .inl ⟨va, rfl, hR⟩
  | panicked c => exact .inr ⟨c, rfl, hR⟩
  | outgrown => exact hR.elim
theorem law18_awake.vc0 (Q : Bool → PT)  (w : World) (h : law18_awake.F Z0 Q  w) : Calls Try.prog 9 ⟨[]⟩ w fun e w' => (∃ (r0 : Bool), e = .returned (.bool r0) ∧ Q r0 w') :=
  (law18_awake.vc Z0 Q  w h).mono fun _ _ hR => hR.elim id fun ⟨_, _, hz⟩ => hz.elim
theorem law18_awake.cal {Z : List PanicEntry → PT} {Q : Bool → PT}  {w : World} (h : law18_awake.F Z Q  w) : Go.Proofs.Ythheldpjcndelaa.cal Try.prog Z 9 [] (isB fun r0 => Q r0) w := by
  refine (law18_awake.vc Z Q  w h).mono fun e w' hR => ?_
  rcases hR with ⟨r0, rfl, h⟩ | ⟨c, rfl, h⟩
  · show (isB fun r0 => Q r0) (.bool r0) w'
    exact ⟨_, rfl, h⟩
  · exact h

/-! ### milepost/milepostlaw18.does: function 11 -/
noncomputable def law18_does.body : Code := bodyC Try.f11
def law18_does.F (Z : List PanicEntry → PT) (Q : Int → PT) (h_0 : Option Addr) (x_1 : List Value) : PT :=
  (newC 28 x_1 fun x25 => (ldB (x25.add 0) fun v26 => (pif (!v26) (ldI .i64 (x25.add 1) fun v27 => (ldI .i64 (x25.add 2) fun v28 => (ldI .i64 (x25.add 3) fun v29 => (ldI .i64 (x25.add 4) fun v30 => (cal Try.prog Z 15 [(Value.pointer h_0), (Value.int .i64 v27), (Value.int .i64 v28), (Value.int .i64 v29), (Value.int .i64 v30)] (isI .i64 fun v31 => (Q v31))))))) (ldI .i64 (x25.add 5) fun v32 => (ldI .i64 (x25.add 2) fun v33 => (ldI .i64 (x25.add 1) fun v34 => (cal Try.prog Z 17 [(Value.pointer h_0), (Value.int .i64 v32), (Value.int .i64 v33), (Value.int .i64 v34)] (isB fun v35 => (pif v35 (Q 1) (Q 0))))))))))
def law18_does.q1 (Z : List PanicEntry → PT) (Q : Int → PT) : QF := bodyQ [.tmp 4] (fun v => atI .i64 v fun va => Q va)
theorem law18_does.eq (Z : List PanicEntry → PT) (Q : Int → PT) (h_0 : Option Addr) (x_1 : List Value) : comp Try.prog Z law18_does.body (law18_does.q1 Z Q) (fr0 [(Value.pointer h_0), (Value.agg ⟨x_1⟩)]) = law18_does.F Z Q h_0 x_1 := by kernel_rfl
theorem law18_does.vc (Z : List PanicEntry → PT) (Q : Int → PT) (h_0 : Option Addr) (x_1 : List Value) (w : World) (h : law18_does.F Z Q h_0 x_1 w) : Calls Try.prog 11 ⟨[(Value.pointer h_0), (Value.agg ⟨x_1⟩)]⟩ w fun e w' => (∃ (r0 : Int), e = .returned (.int .i64 r0) ∧ Q r0 w') ∨ ∃ c, e = .panicked c ∧ Z c w' := by
  refine (calls_of_ok (args := [(Value.pointer h_0), (Value.agg ⟨x_1⟩)]) (w := w) (rs := [.tmp 4]) (fn := Try.f11) (c := law18_does.body) Try.func11 (by kernel_rfl) (by kernel_rfl) (Nat.le_of_ble_eq_true (by kernel_rfl)) (okC law18_does.body (law18_does.q1 Z Q) (by kernel_rfl)) (by rw [law18_does.eq]; exact h)).mono fun e w' hR => ?_
  cases e with
  | returned v =>
    obtain ⟨va, rfl, hR⟩ := atI_e hR
    exact .inl ⟨va, rfl, hR⟩
  | panicked c => exact .inr ⟨c, rfl, hR⟩
  | outgrown => exact hR.elim
theorem law18_does.vc0 (Q : Int → PT) (h_0 : Option Addr) (x_1 : List Value) (w : World) (h : law18_does.F Z0 Q h_0 x_1 w) : Calls Try.prog 11 ⟨[(Value.pointer h_0), (Value.agg ⟨x_1⟩)]⟩ w fun e w' => (∃ (r0 : Int), e = .returned (.int .i64 r0) ∧ Q r0 w') :=
  (law18_does.vc Z0 Q h_0 x_1 w h).mono fun _ _ hR => hR.elim id fun ⟨_, _, hz⟩ => hz.elim
theorem law18_does.cal {Z : List PanicEntry → PT} {Q : Int → PT} {h_0 : Option Addr} {x_1 : List Value} {w : World} (h : law18_does.F Z Q h_0 x_1 w) : Go.Proofs.Ythheldpjcndelaa.cal Try.prog Z 11 [(Value.pointer h_0), (Value.agg ⟨x_1⟩)] (isI .i64 fun r0 => Q r0) w := by
  refine (law18_does.vc Z Q h_0 x_1 w h).mono fun e w' hR => ?_
  rcases hR with ⟨r0, rfl, h⟩ | ⟨c, rfl, h⟩
  · show (isI .i64 fun r0 => Q r0) (.int .i64 r0) w'
    exact ⟨_, rfl, h⟩
  · exact h

/-! ### milepost/milepostlaw18.HoldLease: function 3 -/
noncomputable def law18_HoldLease.body : Code := bodyC Try.f3
noncomputable def law18_HoldLease.c1 : Code := sq1 law18_HoldLease.body
noncomputable def law18_HoldLease.c2 : Code := sq1 (sq2 law18_HoldLease.body)
noncomputable def law18_HoldLease.c3 : Code := sq1 (sq2 (sq2 law18_HoldLease.body))
noncomputable def law18_HoldLease.c4 : Code := sq1 (sq2 (sq2 (sq2 law18_HoldLease.body)))
noncomputable def law18_HoldLease.c5 : Code := sq2 (sq2 (sq2 (sq2 law18_HoldLease.body)))
theorem law18_HoldLease.q6 : law18_HoldLease.body = .seq law18_HoldLease.c1 (.seq law18_HoldLease.c2 (.seq law18_HoldLease.c3 (.seq law18_HoldLease.c4 law18_HoldLease.c5))) := by kernel_rfl
noncomputable def law18_HoldLease.c7 : Code := sq1 law18_HoldLease.c5
noncomputable def law18_HoldLease.c8 : Code := sq2 law18_HoldLease.c5
theorem law18_HoldLease.q9 : law18_HoldLease.c5 = .seq law18_HoldLease.c7 law18_HoldLease.c8 := by kernel_rfl
def law18_HoldLease.s10 (Z : List PanicEntry → PT) (Q : Bool → PT)  : PT :=
  (Q true)
def law18_HoldLease.q11 (Z : List PanicEntry → PT) (Q : Bool → PT) : QF := bodyQ [.tmp 6] (fun v => atB v fun va => Q va)
theorem law18_HoldLease.s10_eq (Z : List PanicEntry → PT) (Q : Bool → PT) (ρ : Fr)  : comp Try.prog Z law18_HoldLease.c8 (law18_HoldLease.q11 Z Q) (puts ρ []) = law18_HoldLease.s10 Z Q  := by kernel_rfl
def law18_HoldLease.j12 (Z : List PanicEntry → PT) (Q : Bool → PT) : Fr → PT := (fun ρ => (law18_HoldLease.s10 Z Q ))
theorem law18_HoldLease.s10_ok (Z : List PanicEntry → PT) (Q : Bool → PT) : Ok Try.prog Try.f3.ntmps Z law18_HoldLease.c8 (law18_HoldLease.q11 Z Q) (law18_HoldLease.j12 Z Q) := by
  intro ρ w a hr h
  exact ok_at [] (okC law18_HoldLease.c8 (law18_HoldLease.q11 Z Q) (by kernel_rfl)) (fun p hp => puts_nil hp) (law18_HoldLease.s10_eq Z Q ρ ) hr h
noncomputable def law18_HoldLease.c13 : Code := sq1 law18_HoldLease.c7
noncomputable def law18_HoldLease.c14 : Code := sq2 law18_HoldLease.c7
theorem law18_HoldLease.q15 : law18_HoldLease.c7 = .seq law18_HoldLease.c13 law18_HoldLease.c14 := by kernel_rfl
noncomputable def law18_HoldLease.c16 : Code := blk law18_HoldLease.c14
theorem law18_HoldLease.q17 : law18_HoldLease.c14 = .block 0 law18_HoldLease.c16 := by kernel_rfl
noncomputable def law18_HoldLease.c18 : Code := lop law18_HoldLease.c16
theorem law18_HoldLease.q19 : law18_HoldLease.c16 = .loop law18_HoldLease.c18 := by kernel_rfl
def law18_HoldLease.q21 (Z : List PanicEntry → PT) (Q : Bool → PT) : QF := thenK (law18_HoldLease.j12 Z Q) (law18_HoldLease.q11 Z Q)
def law18_HoldLease.q22 (Z : List PanicEntry → PT) (Q : Bool → PT) : QF := inBl 0 (law18_HoldLease.q21 Z Q)
noncomputable def law18_HoldLease.c23 : Code := sq1 law18_HoldLease.c18
noncomputable def law18_HoldLease.c24 : Code := sq2 law18_HoldLease.c18
theorem law18_HoldLease.q25 : law18_HoldLease.c18 = .seq law18_HoldLease.c23 law18_HoldLease.c24 := by kernel_rfl
noncomputable def law18_HoldLease.c26 : Code := sq1 law18_HoldLease.c24
noncomputable def law18_HoldLease.c27 : Code := sq2 law18_HoldLease.c24
theorem law18_HoldLease.q28 : law18_HoldLease.c24 = .seq law18_HoldLease.c26 law18_HoldLease.c27 := by kernel_rfl
def law18_HoldLease.s29 (Z : List PanicEntry → PT) (Q : Bool → PT) (X1 : Option Addr → Nat → Nat → Int → Int → Option Addr → Int → PT) (l_0 : Option Addr) (l_0n l_0c : Nat) (now_1 : Int) (lease_2 : Int) (h_7 : Option Addr) (i_8 : Int) : PT :=
  (X1 l_0 l_0n l_0c now_1 lease_2 h_7 (IntKind.wrap .i64 (i_8 + 1)))
def law18_HoldLease.j30 (Z : List PanicEntry → PT) (Q : Bool → PT) (X1 : Option Addr → Nat → Nat → Int → Int → Option Addr → Int → PT) : Fr → PT := (fun ρ => atL (ρ 0) fun l_0 l_0n l_0c => atI .i64 (ρ 1) fun now_1 => atI .i64 (ρ 2) fun lease_2 => atP (ρ 7) fun h_7 => atI .i64 (ρ 8) fun i_8 => (X1 l_0 l_0n l_0c now_1 lease_2 h_7 i_8))
def law18_HoldLease.q31 (Z : List PanicEntry → PT) (Q : Bool → PT) (X1 : Option Addr → Nat → Nat → Int → Int → Option Addr → Int → PT) : QF := thenK (law18_HoldLease.j30 Z Q X1) (law18_HoldLease.q22 Z Q)
theorem law18_HoldLease.s29_eq (Z : List PanicEntry → PT) (Q : Bool → PT) (X1 : Option Addr → Nat → Nat → Int → Int → Option Addr → Int → PT) (ρ : Fr) (l_0 : Option Addr) (l_0n l_0c : Nat) (now_1 : Int) (lease_2 : Int) (h_7 : Option Addr) (i_8 : Int) : comp Try.prog Z law18_HoldLease.c27 (law18_HoldLease.q31 Z Q X1) (puts ρ [(0, (Value.slice l_0 l_0n l_0c)), (1, (Value.int .i64 now_1)), (2, (Value.int .i64 lease_2)), (7, (Value.pointer h_7)), (8, (Value.int .i64 i_8))]) = law18_HoldLease.s29 Z Q X1 l_0 l_0n l_0c now_1 lease_2 h_7 i_8 := by kernel_rfl
def law18_HoldLease.j32 (Z : List PanicEntry → PT) (Q : Bool → PT) (X1 : Option Addr → Nat → Nat → Int → Int → Option Addr → Int → PT) : Fr → PT := (fun ρ => atL (ρ 0) fun l_0 l_0n l_0c => atI .i64 (ρ 1) fun now_1 => atI .i64 (ρ 2) fun lease_2 => atP (ρ 7) fun h_7 => atI .i64 (ρ 8) fun i_8 => (law18_HoldLease.s29 Z Q X1 l_0 l_0n l_0c now_1 lease_2 h_7 i_8))
theorem law18_HoldLease.s29_ok (Z : List PanicEntry → PT) (Q : Bool → PT) (X1 : Option Addr → Nat → Nat → Int → Int → Option Addr → Int → PT) : Ok Try.prog Try.f3.ntmps Z law18_HoldLease.c27 (law18_HoldLease.q31 Z Q X1) (law18_HoldLease.j32 Z Q X1) := by
  intro ρ w a hr h
  obtain ⟨l_0, l_0n, l_0c, e0, h⟩ := atL_e h
  obtain ⟨now_1, e1, h⟩ := atI_e h
  obtain ⟨lease_2, e2, h⟩ := atI_e h
  obtain ⟨h_7, e7, h⟩ := atP_e h
  obtain ⟨i_8, e8, h⟩ := atI_e h
  exact ok_at [(0, (Value.slice l_0 l_0n l_0c)), (1, (Value.int .i64 now_1)), (2, (Value.int .i64 lease_2)), (7, (Value.pointer h_7)), (8, (Value.int .i64 i_8))] (okC law18_HoldLease.c27 (law18_HoldLease.q31 Z Q X1) (by kernel_rfl)) (puts_cons e0 (puts_cons e1 (puts_cons e2 (puts_cons e7 (puts_cons e8 (fun p hp => puts_nil hp)))))) (law18_HoldLease.s29_eq Z Q X1 ρ l_0 l_0n l_0c now_1 lease_2 h_7 i_8) hr h
noncomputable def law18_HoldLease.c33 : Code := blk law18_HoldLease.c26
theorem law18_HoldLease.q34 : law18_HoldLease.c26 = .block 1 law18_HoldLease.c33 := by kernel_rfl
noncomputable def law18_HoldLease.c35 : Code := sq1 law18_HoldLease.c33
noncomputable def law18_HoldLease.c36 : Code := sq1 (sq2 law18_HoldLease.c33)
noncomputable def law18_HoldLease.c37 : Code := sq1 (sq2 (sq2 law18_HoldLease.c33))
noncomputable def law18_HoldLease.c38 : Code := sq2 (sq2 (sq2 law18_HoldLease.c33))
theorem law18_HoldLease.q39 : law18_HoldLease.c33 = .seq law18_HoldLease.c35 (.seq law18_HoldLease.c36 (.seq law18_HoldLease.c37 law18_HoldLease.c38)) := by kernel_rfl
noncomputable def law18_HoldLease.c40 : Code := sq1 law18_HoldLease.c38
noncomputable def law18_HoldLease.c41 : Code := sq2 law18_HoldLease.c38
theorem law18_HoldLease.q42 : law18_HoldLease.c38 = .seq law18_HoldLease.c40 law18_HoldLease.c41 := by kernel_rfl
def law18_HoldLease.s43 (Z : List PanicEntry → PT) (Q : Bool → PT) (X1 : Option Addr → Nat → Nat → Int → Int → Option Addr → Int → PT) (l_0 : Option Addr) (l_0n l_0c : Nat) (now_1 : Int) (lease_2 : Int) (h_7 : Option Addr) (i_8 : Int) (found_9 : Bool) : PT :=
  (pif (!found_9) (Q false) (law18_HoldLease.s29 Z Q X1 l_0 l_0n l_0c now_1 lease_2 h_7 i_8))
def law18_HoldLease.q44 (Z : List PanicEntry → PT) (Q : Bool → PT) (X1 : Option Addr → Nat → Nat → Int → Int → Option Addr → Int → PT) : QF := thenK (law18_HoldLease.j32 Z Q X1) (law18_HoldLease.q31 Z Q X1)
def law18_HoldLease.q45 (Z : List PanicEntry → PT) (Q : Bool → PT) (X1 : Option Addr → Nat → Nat → Int → Int → Option Addr → Int → PT) : QF := inBl 1 (law18_HoldLease.q44 Z Q X1)
theorem law18_HoldLease.s43_eq (Z : List PanicEntry → PT) (Q : Bool → PT) (X1 : Option Addr → Nat → Nat → Int → Int → Option Addr → Int → PT) (ρ : Fr) (l_0 : Option Addr) (l_0n l_0c : Nat) (now_1 : Int) (lease_2 : Int) (h_7 : Option Addr) (i_8 : Int) (found_9 : Bool) : comp Try.prog Z law18_HoldLease.c41 (law18_HoldLease.q45 Z Q X1) (puts ρ [(0, (Value.slice l_0 l_0n l_0c)), (1, (Value.int .i64 now_1)), (2, (Value.int .i64 lease_2)), (7, (Value.pointer h_7)), (8, (Value.int .i64 i_8)), (9, (Value.bool found_9))]) = law18_HoldLease.s43 Z Q X1 l_0 l_0n l_0c now_1 lease_2 h_7 i_8 found_9 := by kernel_rfl
def law18_HoldLease.j46 (Z : List PanicEntry → PT) (Q : Bool → PT) (X1 : Option Addr → Nat → Nat → Int → Int → Option Addr → Int → PT) : Fr → PT := (fun ρ => atL (ρ 0) fun l_0 l_0n l_0c => atI .i64 (ρ 1) fun now_1 => atI .i64 (ρ 2) fun lease_2 => atP (ρ 7) fun h_7 => atI .i64 (ρ 8) fun i_8 => atB (ρ 9) fun found_9 => (law18_HoldLease.s43 Z Q X1 l_0 l_0n l_0c now_1 lease_2 h_7 i_8 found_9))
theorem law18_HoldLease.s43_ok (Z : List PanicEntry → PT) (Q : Bool → PT) (X1 : Option Addr → Nat → Nat → Int → Int → Option Addr → Int → PT) : Ok Try.prog Try.f3.ntmps Z law18_HoldLease.c41 (law18_HoldLease.q45 Z Q X1) (law18_HoldLease.j46 Z Q X1) := by
  intro ρ w a hr h
  obtain ⟨l_0, l_0n, l_0c, e0, h⟩ := atL_e h
  obtain ⟨now_1, e1, h⟩ := atI_e h
  obtain ⟨lease_2, e2, h⟩ := atI_e h
  obtain ⟨h_7, e7, h⟩ := atP_e h
  obtain ⟨i_8, e8, h⟩ := atI_e h
  obtain ⟨found_9, e9, h⟩ := atB_e h
  exact ok_at [(0, (Value.slice l_0 l_0n l_0c)), (1, (Value.int .i64 now_1)), (2, (Value.int .i64 lease_2)), (7, (Value.pointer h_7)), (8, (Value.int .i64 i_8)), (9, (Value.bool found_9))] (okC law18_HoldLease.c41 (law18_HoldLease.q45 Z Q X1) (by kernel_rfl)) (puts_cons e0 (puts_cons e1 (puts_cons e2 (puts_cons e7 (puts_cons e8 (puts_cons e9 (fun p hp => puts_nil hp))))))) (law18_HoldLease.s43_eq Z Q X1 ρ l_0 l_0n l_0c now_1 lease_2 h_7 i_8 found_9) hr h
noncomputable def law18_HoldLease.c47 : Code := sq1 law18_HoldLease.c40
noncomputable def law18_HoldLease.c48 : Code := sq2 law18_HoldLease.c40
theorem law18_HoldLease.q49 : law18_HoldLease.c40 = .seq law18_HoldLease.c47 law18_HoldLease.c48 := by kernel_rfl
noncomputable def law18_HoldLease.c50 : Code := blk law18_HoldLease.c48
theorem law18_HoldLease.q51 : law18_HoldLease.c48 = .block 2 law18_HoldLease.c50 := by kernel_rfl
noncomputable def law18_HoldLease.c52 : Code := lop law18_HoldLease.c50
theorem law18_HoldLease.q53 : law18_HoldLease.c50 = .loop law18_HoldLease.c52 := by kernel_rfl
def law18_HoldLease.q55 (Z : List PanicEntry → PT) (Q : Bool → PT) (X1 : Option Addr → Nat → Nat → Int → Int → Option Addr → Int → PT) : QF := thenK (law18_HoldLease.j46 Z Q X1) (law18_HoldLease.q45 Z Q X1)
def law18_HoldLease.q56 (Z : List PanicEntry → PT) (Q : Bool → PT) (X1 : Option Addr → Nat → Nat → Int → Int → Option Addr → Int → PT) : QF := inBl 2 (law18_HoldLease.q55 Z Q X1)
noncomputable def law18_HoldLease.c57 : Code := sq1 law18_HoldLease.c52
noncomputable def law18_HoldLease.c58 : Code := sq1 (sq2 law18_HoldLease.c52)
noncomputable def law18_HoldLease.c59 : Code := sq2 (sq2 law18_HoldLease.c52)
theorem law18_HoldLease.q60 : law18_HoldLease.c52 = .seq law18_HoldLease.c57 (.seq law18_HoldLease.c58 law18_HoldLease.c59) := by kernel_rfl
def law18_HoldLease.s61 (Z : List PanicEntry → PT) (Q : Bool → PT) (X1 : Option Addr → Nat → Nat → Int → Int → Option Addr → Int → PT) (X2 : Option Addr → Nat → Nat → Int → Int → Option Addr → Int → Bool → Int → PT) (l_0 : Option Addr) (l_0n l_0c : Nat) (now_1 : Int) (lease_2 : Int) (h_7 : Option Addr) (i_8 : Int) (found_9 : Bool) (k_10 : Int) : PT :=
  (X2 l_0 l_0n l_0c now_1 lease_2 h_7 i_8 found_9 (IntKind.wrap .i64 (k_10 + 1)))
def law18_HoldLease.j62 (Z : List PanicEntry → PT) (Q : Bool → PT) (X1 : Option Addr → Nat → Nat → Int → Int → Option Addr → Int → PT) (X2 : Option Addr → Nat → Nat → Int → Int → Option Addr → Int → Bool → Int → PT) : Fr → PT := (fun ρ => atL (ρ 0) fun l_0 l_0n l_0c => atI .i64 (ρ 1) fun now_1 => atI .i64 (ρ 2) fun lease_2 => atP (ρ 7) fun h_7 => atI .i64 (ρ 8) fun i_8 => atB (ρ 9) fun found_9 => atI .i64 (ρ 10) fun k_10 => (X2 l_0 l_0n l_0c now_1 lease_2 h_7 i_8 found_9 k_10))
def law18_HoldLease.q63 (Z : List PanicEntry → PT) (Q : Bool → PT) (X1 : Option Addr → Nat → Nat → Int → Int → Option Addr → Int → PT) (X2 : Option Addr → Nat → Nat → Int → Int → Option Addr → Int → Bool → Int → PT) : QF := thenK (law18_HoldLease.j62 Z Q X1 X2) (law18_HoldLease.q56 Z Q X1)
theorem law18_HoldLease.s61_eq (Z : List PanicEntry → PT) (Q : Bool → PT) (X1 : Option Addr → Nat → Nat → Int → Int → Option Addr → Int → PT) (X2 : Option Addr → Nat → Nat → Int → Int → Option Addr → Int → Bool → Int → PT) (ρ : Fr) (l_0 : Option Addr) (l_0n l_0c : Nat) (now_1 : Int) (lease_2 : Int) (h_7 : Option Addr) (i_8 : Int) (found_9 : Bool) (k_10 : Int) : comp Try.prog Z law18_HoldLease.c59 (law18_HoldLease.q63 Z Q X1 X2) (puts ρ [(0, (Value.slice l_0 l_0n l_0c)), (1, (Value.int .i64 now_1)), (2, (Value.int .i64 lease_2)), (7, (Value.pointer h_7)), (8, (Value.int .i64 i_8)), (9, (Value.bool found_9)), (10, (Value.int .i64 k_10))]) = law18_HoldLease.s61 Z Q X1 X2 l_0 l_0n l_0c now_1 lease_2 h_7 i_8 found_9 k_10 := by kernel_rfl
def law18_HoldLease.j64 (Z : List PanicEntry → PT) (Q : Bool → PT) (X1 : Option Addr → Nat → Nat → Int → Int → Option Addr → Int → PT) (X2 : Option Addr → Nat → Nat → Int → Int → Option Addr → Int → Bool → Int → PT) : Fr → PT := (fun ρ => atL (ρ 0) fun l_0 l_0n l_0c => atI .i64 (ρ 1) fun now_1 => atI .i64 (ρ 2) fun lease_2 => atP (ρ 7) fun h_7 => atI .i64 (ρ 8) fun i_8 => atB (ρ 9) fun found_9 => atI .i64 (ρ 10) fun k_10 => (law18_HoldLease.s61 Z Q X1 X2 l_0 l_0n l_0c now_1 lease_2 h_7 i_8 found_9 k_10))
theorem law18_HoldLease.s61_ok (Z : List PanicEntry → PT) (Q : Bool → PT) (X1 : Option Addr → Nat → Nat → Int → Int → Option Addr → Int → PT) (X2 : Option Addr → Nat → Nat → Int → Int → Option Addr → Int → Bool → Int → PT) : Ok Try.prog Try.f3.ntmps Z law18_HoldLease.c59 (law18_HoldLease.q63 Z Q X1 X2) (law18_HoldLease.j64 Z Q X1 X2) := by
  intro ρ w a hr h
  obtain ⟨l_0, l_0n, l_0c, e0, h⟩ := atL_e h
  obtain ⟨now_1, e1, h⟩ := atI_e h
  obtain ⟨lease_2, e2, h⟩ := atI_e h
  obtain ⟨h_7, e7, h⟩ := atP_e h
  obtain ⟨i_8, e8, h⟩ := atI_e h
  obtain ⟨found_9, e9, h⟩ := atB_e h
  obtain ⟨k_10, e10, h⟩ := atI_e h
  exact ok_at [(0, (Value.slice l_0 l_0n l_0c)), (1, (Value.int .i64 now_1)), (2, (Value.int .i64 lease_2)), (7, (Value.pointer h_7)), (8, (Value.int .i64 i_8)), (9, (Value.bool found_9)), (10, (Value.int .i64 k_10))] (okC law18_HoldLease.c59 (law18_HoldLease.q63 Z Q X1 X2) (by kernel_rfl)) (puts_cons e0 (puts_cons e1 (puts_cons e2 (puts_cons e7 (puts_cons e8 (puts_cons e9 (puts_cons e10 (fun p hp => puts_nil hp)))))))) (law18_HoldLease.s61_eq Z Q X1 X2 ρ l_0 l_0n l_0c now_1 lease_2 h_7 i_8 found_9 k_10) hr h
def law18_HoldLease.s65 (Z : List PanicEntry → PT) (Q : Bool → PT) (X1 : Option Addr → Nat → Nat → Int → Int → Option Addr → Int → PT) (X2 : Option Addr → Nat → Nat → Int → Int → Option Addr → Int → Bool → Int → PT) (l_0 : Option Addr) (l_0n l_0c : Nat) (now_1 : Int) (lease_2 : Int) (h_7 : Option Addr) (i_8 : Int) (found_9 : Bool) (k_10 : Int) : PT :=
  (pif (decide (k_10 ≤ i_8)) (drawn fun S42 => (pif found_9 (law18_HoldLease.s61 Z Q X1 X2 l_0 l_0n l_0c now_1 lease_2 h_7 i_8 true k_10) (ixS l_0 l_0n k_10 6 fun v43 => (hB S42 (v43.add 0) fun v44 => (pif v44 (ixS l_0 l_0n k_10 6 fun v45 => (hI S42 .i64 (v45.add 2) fun v46 => (cal Try.prog Z 13 [(Value.pointer h_7)] (isI .i64 fun v47 => (sAnd S42 (pif (v46 == v47) (ixS l_0 l_0n k_10 6 fun v48 => (hI S42 .i64 (v48.add 5) fun v49 => (pif (decide (v49 ≥ 0)) (ixS l_0 l_0n k_10 6 fun v50 => (hI S42 .i64 (v50.add 5) fun v51 => (pif (decide (v51 > 2199023255552)) (law18_HoldLease.s61 Z Q X1 X2 l_0 l_0n l_0c now_1 lease_2 h_7 i_8 true k_10) (ixS l_0 l_0n k_10 6 fun v52 => (hI S42 .i64 (v52.add 5) fun v53 => (law18_HoldLease.s61 Z Q X1 X2 l_0 l_0n l_0c now_1 lease_2 h_7 i_8 (decide ((IntKind.wrap .i64 (now_1 - v53)) < lease_2)) k_10)))))) (law18_HoldLease.s61 Z Q X1 X2 l_0 l_0n l_0c now_1 lease_2 h_7 i_8 false k_10)))) (law18_HoldLease.s61 Z Q X1 X2 l_0 l_0n l_0c now_1 lease_2 h_7 i_8 false k_10))))))) (law18_HoldLease.s61 Z Q X1 X2 l_0 l_0n l_0c now_1 lease_2 h_7 i_8 false k_10)))))) (law18_HoldLease.s43 Z Q X1 l_0 l_0n l_0c now_1 lease_2 h_7 i_8 found_9))
theorem law18_HoldLease.s65_eq (Z : List PanicEntry → PT) (Q : Bool → PT) (X1 : Option Addr → Nat → Nat → Int → Int → Option Addr → Int → PT) (X2 : Option Addr → Nat → Nat → Int → Int → Option Addr → Int → Bool → Int → PT) (ρ : Fr) (l_0 : Option Addr) (l_0n l_0c : Nat) (now_1 : Int) (lease_2 : Int) (h_7 : Option Addr) (i_8 : Int) (found_9 : Bool) (k_10 : Int) : (comp Try.prog Z law18_HoldLease.c57 (thenK (comp Try.prog Z law18_HoldLease.c58 (thenK (law18_HoldLease.j64 Z Q X1 X2) (law18_HoldLease.q63 Z Q X1 X2))) (law18_HoldLease.q63 Z Q X1 X2))) (puts ρ [(0, (Value.slice l_0 l_0n l_0c)), (1, (Value.int .i64 now_1)), (2, (Value.int .i64 lease_2)), (7, (Value.pointer h_7)), (8, (Value.int .i64 i_8)), (9, (Value.bool found_9)), (10, (Value.int .i64 k_10))]) = law18_HoldLease.s65 Z Q X1 X2 l_0 l_0n l_0c now_1 lease_2 h_7 i_8 found_9 k_10 := by kernel_rfl
def law18_HoldLease.j66 (Z : List PanicEntry → PT) (Q : Bool → PT) (X1 : Option Addr → Nat → Nat → Int → Int → Option Addr → Int → PT) (X2 : Option Addr → Nat → Nat → Int → Int → Option Addr → Int → Bool → Int → PT) : Fr → PT := (fun ρ => atL (ρ 0) fun l_0 l_0n l_0c => atI .i64 (ρ 1) fun now_1 => atI .i64 (ρ 2) fun lease_2 => atP (ρ 7) fun h_7 => atI .i64 (ρ 8) fun i_8 => atB (ρ 9) fun found_9 => atI .i64 (ρ 10) fun k_10 => (law18_HoldLease.s65 Z Q X1 X2 l_0 l_0n l_0c now_1 lease_2 h_7 i_8 found_9 k_10))
theorem law18_HoldLease.s65_ok (Z : List PanicEntry → PT) (Q : Bool → PT) (X1 : Option Addr → Nat → Nat → Int → Int → Option Addr → Int → PT) (X2 : Option Addr → Nat → Nat → Int → Int → Option Addr → Int → Bool → Int → PT) : Ok Try.prog Try.f3.ntmps Z law18_HoldLease.c52 (law18_HoldLease.q63 Z Q X1 X2) (law18_HoldLease.j66 Z Q X1 X2) := by
  rw [law18_HoldLease.q60]
  intro ρ w a hr h
  obtain ⟨l_0, l_0n, l_0c, e0, h⟩ := atL_e h
  obtain ⟨now_1, e1, h⟩ := atI_e h
  obtain ⟨lease_2, e2, h⟩ := atI_e h
  obtain ⟨h_7, e7, h⟩ := atP_e h
  obtain ⟨i_8, e8, h⟩ := atI_e h
  obtain ⟨found_9, e9, h⟩ := atB_e h
  obtain ⟨k_10, e10, h⟩ := atI_e h
  exact ok_at [(0, (Value.slice l_0 l_0n l_0c)), (1, (Value.int .i64 now_1)), (2, (Value.int .i64 lease_2)), (7, (Value.pointer h_7)), (8, (Value.int .i64 i_8)), (9, (Value.bool found_9)), (10, (Value.int .i64 k_10))] (ok_seq (okC law18_HoldLease.c57 _ (by kernel_rfl)) (ok_seq (okC law18_HoldLease.c58 _ (by kernel_rfl)) (law18_HoldLease.s61_ok Z Q X1 X2))) (puts_cons e0 (puts_cons e1 (puts_cons e2 (puts_cons e7 (puts_cons e8 (puts_cons e9 (puts_cons e10 (fun p hp => puts_nil hp)))))))) (law18_HoldLease.s65_eq Z Q X1 X2 ρ l_0 l_0n l_0c now_1 lease_2 h_7 i_8 found_9 k_10) hr h
def law18_HoldLease.l54 (Z : List PanicEntry → PT) (Q : Bool → PT) (X1 : Option Addr → Nat → Nat → Int → Int → Option Addr → Int → PT) : Nat → Option Addr → Nat → Nat → Int → Int → Option Addr → Int → Bool → Int → PT
  | 0, _, _, _, _, _, _, _, _, _ => bad
  | k + 1, l_0, l_0n, l_0c, now_1, lease_2, h_7, i_8, found_9, k_10 => (law18_HoldLease.s65 Z Q X1 (law18_HoldLease.l54 Z Q X1 k) l_0 l_0n l_0c now_1 lease_2 h_7 i_8 found_9 k_10)
def law18_HoldLease.j67 (Z : List PanicEntry → PT) (Q : Bool → PT) (X1 : Option Addr → Nat → Nat → Int → Int → Option Addr → Int → PT) (k : Nat) : Fr → PT := (fun ρ => atL (ρ 0) fun l_0 l_0n l_0c => atI .i64 (ρ 1) fun now_1 => atI .i64 (ρ 2) fun lease_2 => atP (ρ 7) fun h_7 => atI .i64 (ρ 8) fun i_8 => atB (ρ 9) fun found_9 => atI .i64 (ρ 10) fun k_10 => (law18_HoldLease.l54 Z Q X1 k l_0 l_0n l_0c now_1 lease_2 h_7 i_8 found_9 k_10))
def law18_HoldLease.j68 (Z : List PanicEntry → PT) (Q : Bool → PT) (X1 : Option Addr → Nat → Nat → Int → Int → Option Addr → Int → PT) : Fr → PT := (fun ρ => atL (ρ 0) fun l_0 l_0n l_0c => atI .i64 (ρ 1) fun now_1 => atI .i64 (ρ 2) fun lease_2 => atP (ρ 7) fun h_7 => atI .i64 (ρ 8) fun i_8 => atB (ρ 9) fun found_9 => atI .i64 (ρ 10) fun k_10 => (exK fun k => law18_HoldLease.l54 Z Q X1 k l_0 l_0n l_0c now_1 lease_2 h_7 i_8 found_9 k_10))
theorem law18_HoldLease.o69 (Z : List PanicEntry → PT) (Q : Bool → PT) (X1 : Option Addr → Nat → Nat → Int → Int → Option Addr → Int → PT) : Ok Try.prog Try.f3.ntmps Z law18_HoldLease.c50 (law18_HoldLease.q56 Z Q X1) (law18_HoldLease.j68 Z Q X1) := by
  rw [law18_HoldLease.q53]
  refine Ok.imp (ok_loop (J := law18_HoldLease.j67 Z Q X1) ?_ ?_) ?_
  · intro ρ w h
    obtain ⟨l_0, l_0n, l_0c, e0, h⟩ := atL_e h
    obtain ⟨now_1, e1, h⟩ := atI_e h
    obtain ⟨lease_2, e2, h⟩ := atI_e h
    obtain ⟨h_7, e7, h⟩ := atP_e h
    obtain ⟨i_8, e8, h⟩ := atI_e h
    obtain ⟨found_9, e9, h⟩ := atB_e h
    obtain ⟨k_10, e10, h⟩ := atI_e h
    exact h
  · intro k
    refine Ok.imp (law18_HoldLease.s65_ok Z Q X1 (law18_HoldLease.l54 Z Q X1 k)) fun ρ w h => ?_
    obtain ⟨l_0, l_0n, l_0c, e0, h⟩ := atL_e h
    obtain ⟨now_1, e1, h⟩ := atI_e h
    obtain ⟨lease_2, e2, h⟩ := atI_e h
    obtain ⟨h_7, e7, h⟩ := atP_e h
    obtain ⟨i_8, e8, h⟩ := atI_e h
    obtain ⟨found_9, e9, h⟩ := atB_e h
    obtain ⟨k_10, e10, h⟩ := atI_e h
    show (law18_HoldLease.j66 Z Q X1 (law18_HoldLease.l54 Z Q X1 k)) ρ w
    simp only [law18_HoldLease.j66]
    rw [e0]
    rw [e1]
    rw [e2]
    rw [e7]
    rw [e8]
    rw [e9]
    rw [e10]
    exact h
  · intro ρ w h
    obtain ⟨l_0, l_0n, l_0c, e0, h⟩ := atL_e h
    obtain ⟨now_1, e1, h⟩ := atI_e h
    obtain ⟨lease_2, e2, h⟩ := atI_e h
    obtain ⟨h_7, e7, h⟩ := atP_e h
    obtain ⟨i_8, e8, h⟩ := atI_e h
    obtain ⟨found_9, e9, h⟩ := atB_e h
    obtain ⟨k_10, e10, h⟩ := atI_e h
    obtain ⟨k, h⟩ := h
    refine ⟨k, ?_⟩
    show (atL (ρ 0) fun l_0 l_0n l_0c => atI .i64 (ρ 1) fun now_1 => atI .i64 (ρ 2) fun lease_2 => atP (ρ 7) fun h_7 => atI .i64 (ρ 8) fun i_8 => atB (ρ 9) fun found_9 => atI .i64 (ρ 10) fun k_10 => (law18_HoldLease.l54 Z Q X1 k l_0 l_0n l_0c now_1 lease_2 h_7 i_8 found_9 k_10)) w
    rw [e0]
    rw [e1]
    rw [e2]
    rw [e7]
    rw [e8]
    rw [e9]
    rw [e10]
    exact h
theorem law18_HoldLease.o70 (Z : List PanicEntry → PT) (Q : Bool → PT) (X1 : Option Addr → Nat → Nat → Int → Int → Option Addr → Int → PT) : Ok Try.prog Try.f3.ntmps Z law18_HoldLease.c48 (law18_HoldLease.q55 Z Q X1) (law18_HoldLease.j68 Z Q X1) := by
  rw [law18_HoldLease.q51]; exact ok_block (law18_HoldLease.o69 Z Q X1)
def law18_HoldLease.s71 (Z : List PanicEntry → PT) (Q : Bool → PT) (X1 : Option Addr → Nat → Nat → Int → Int → Option Addr → Int → PT) (l_0 : Option Addr) (l_0n l_0c : Nat) (now_1 : Int) (lease_2 : Int) (h_7 : Option Addr) (i_8 : Int) (found_9 : Bool) : PT :=
  (exK fun k => law18_HoldLease.l54 Z Q X1 k l_0 l_0n l_0c now_1 lease_2 h_7 i_8 found_9 0)
theorem law18_HoldLease.s71_eq (Z : List PanicEntry → PT) (Q : Bool → PT) (X1 : Option Addr → Nat → Nat → Int → Int → Option Addr → Int → PT) (ρ : Fr) (l_0 : Option Addr) (l_0n l_0c : Nat) (now_1 : Int) (lease_2 : Int) (h_7 : Option Addr) (i_8 : Int) (found_9 : Bool) : (comp Try.prog Z law18_HoldLease.c47 (thenK (law18_HoldLease.j68 Z Q X1) (law18_HoldLease.q55 Z Q X1))) (puts ρ [(0, (Value.slice l_0 l_0n l_0c)), (1, (Value.int .i64 now_1)), (2, (Value.int .i64 lease_2)), (7, (Value.pointer h_7)), (8, (Value.int .i64 i_8)), (9, (Value.bool found_9))]) = law18_HoldLease.s71 Z Q X1 l_0 l_0n l_0c now_1 lease_2 h_7 i_8 found_9 := by kernel_rfl
def law18_HoldLease.j72 (Z : List PanicEntry → PT) (Q : Bool → PT) (X1 : Option Addr → Nat → Nat → Int → Int → Option Addr → Int → PT) : Fr → PT := (fun ρ => atL (ρ 0) fun l_0 l_0n l_0c => atI .i64 (ρ 1) fun now_1 => atI .i64 (ρ 2) fun lease_2 => atP (ρ 7) fun h_7 => atI .i64 (ρ 8) fun i_8 => atB (ρ 9) fun found_9 => (law18_HoldLease.s71 Z Q X1 l_0 l_0n l_0c now_1 lease_2 h_7 i_8 found_9))
theorem law18_HoldLease.s71_ok (Z : List PanicEntry → PT) (Q : Bool → PT) (X1 : Option Addr → Nat → Nat → Int → Int → Option Addr → Int → PT) : Ok Try.prog Try.f3.ntmps Z law18_HoldLease.c40 (law18_HoldLease.q55 Z Q X1) (law18_HoldLease.j72 Z Q X1) := by
  rw [law18_HoldLease.q49]
  intro ρ w a hr h
  obtain ⟨l_0, l_0n, l_0c, e0, h⟩ := atL_e h
  obtain ⟨now_1, e1, h⟩ := atI_e h
  obtain ⟨lease_2, e2, h⟩ := atI_e h
  obtain ⟨h_7, e7, h⟩ := atP_e h
  obtain ⟨i_8, e8, h⟩ := atI_e h
  obtain ⟨found_9, e9, h⟩ := atB_e h
  exact ok_at [(0, (Value.slice l_0 l_0n l_0c)), (1, (Value.int .i64 now_1)), (2, (Value.int .i64 lease_2)), (7, (Value.pointer h_7)), (8, (Value.int .i64 i_8)), (9, (Value.bool found_9))] (ok_seq (okC law18_HoldLease.c47 _ (by kernel_rfl)) (law18_HoldLease.o70 Z Q X1)) (puts_cons e0 (puts_cons e1 (puts_cons e2 (puts_cons e7 (puts_cons e8 (puts_cons e9 (fun p hp => puts_nil hp))))))) (law18_HoldLease.s71_eq Z Q X1 ρ l_0 l_0n l_0c now_1 lease_2 h_7 i_8 found_9) hr h
theorem law18_HoldLease.o73 (Z : List PanicEntry → PT) (Q : Bool → PT) (X1 : Option Addr → Nat → Nat → Int → Int → Option Addr → Int → PT) : Ok Try.prog Try.f3.ntmps Z law18_HoldLease.c38 (law18_HoldLease.q45 Z Q X1) (law18_HoldLease.j72 Z Q X1) := by
  rw [law18_HoldLease.q42]; exact ok_seq (law18_HoldLease.s71_ok Z Q X1) (law18_HoldLease.s43_ok Z Q X1)
def law18_HoldLease.s74 (Z : List PanicEntry → PT) (Q : Bool → PT) (X1 : Option Addr → Nat → Nat → Int → Int → Option Addr → Int → PT) (l_0 : Option Addr) (l_0n l_0c : Nat) (now_1 : Int) (lease_2 : Int) (h_7 : Option Addr) (i_8 : Int) : PT :=
  (ixS l_0 l_0n i_8 6 fun v54 => (ldN 6 v54 fun v55 => (cal Try.prog Z 11 [(Value.pointer h_7), (Value.agg ⟨v55⟩)] (isI .i64 fun v56 => (cal Try.prog Z 12 [(Value.pointer h_7), (Value.int .i64 now_1), (Value.int .i64 lease_2)] (isB fun v57 => (pif (!v57) (law18_HoldLease.s29 Z Q X1 l_0 l_0n l_0c now_1 lease_2 h_7 i_8) (law18_HoldLease.s71 Z Q X1 l_0 l_0n l_0c now_1 lease_2 h_7 i_8 false))))))))
theorem law18_HoldLease.s74_eq (Z : List PanicEntry → PT) (Q : Bool → PT) (X1 : Option Addr → Nat → Nat → Int → Int → Option Addr → Int → PT) (ρ : Fr) (l_0 : Option Addr) (l_0n l_0c : Nat) (now_1 : Int) (lease_2 : Int) (h_7 : Option Addr) (i_8 : Int) : (comp Try.prog Z law18_HoldLease.c35 (thenK (comp Try.prog Z law18_HoldLease.c36 (thenK (comp Try.prog Z law18_HoldLease.c37 (thenK (law18_HoldLease.j72 Z Q X1) (law18_HoldLease.q45 Z Q X1))) (law18_HoldLease.q45 Z Q X1))) (law18_HoldLease.q45 Z Q X1))) (puts ρ [(0, (Value.slice l_0 l_0n l_0c)), (1, (Value.int .i64 now_1)), (2, (Value.int .i64 lease_2)), (7, (Value.pointer h_7)), (8, (Value.int .i64 i_8))]) = law18_HoldLease.s74 Z Q X1 l_0 l_0n l_0c now_1 lease_2 h_7 i_8 := by kernel_rfl
def law18_HoldLease.j75 (Z : List PanicEntry → PT) (Q : Bool → PT) (X1 : Option Addr → Nat → Nat → Int → Int → Option Addr → Int → PT) : Fr → PT := (fun ρ => atL (ρ 0) fun l_0 l_0n l_0c => atI .i64 (ρ 1) fun now_1 => atI .i64 (ρ 2) fun lease_2 => atP (ρ 7) fun h_7 => atI .i64 (ρ 8) fun i_8 => (law18_HoldLease.s74 Z Q X1 l_0 l_0n l_0c now_1 lease_2 h_7 i_8))
theorem law18_HoldLease.s74_ok (Z : List PanicEntry → PT) (Q : Bool → PT) (X1 : Option Addr → Nat → Nat → Int → Int → Option Addr → Int → PT) : Ok Try.prog Try.f3.ntmps Z law18_HoldLease.c33 (law18_HoldLease.q45 Z Q X1) (law18_HoldLease.j75 Z Q X1) := by
  rw [law18_HoldLease.q39]
  intro ρ w a hr h
  obtain ⟨l_0, l_0n, l_0c, e0, h⟩ := atL_e h
  obtain ⟨now_1, e1, h⟩ := atI_e h
  obtain ⟨lease_2, e2, h⟩ := atI_e h
  obtain ⟨h_7, e7, h⟩ := atP_e h
  obtain ⟨i_8, e8, h⟩ := atI_e h
  exact ok_at [(0, (Value.slice l_0 l_0n l_0c)), (1, (Value.int .i64 now_1)), (2, (Value.int .i64 lease_2)), (7, (Value.pointer h_7)), (8, (Value.int .i64 i_8))] (ok_seq (okC law18_HoldLease.c35 _ (by kernel_rfl)) (ok_seq (okC law18_HoldLease.c36 _ (by kernel_rfl)) (ok_seq (okC law18_HoldLease.c37 _ (by kernel_rfl)) (law18_HoldLease.o73 Z Q X1)))) (puts_cons e0 (puts_cons e1 (puts_cons e2 (puts_cons e7 (puts_cons e8 (fun p hp => puts_nil hp)))))) (law18_HoldLease.s74_eq Z Q X1 ρ l_0 l_0n l_0c now_1 lease_2 h_7 i_8) hr h
theorem law18_HoldLease.o76 (Z : List PanicEntry → PT) (Q : Bool → PT) (X1 : Option Addr → Nat → Nat → Int → Int → Option Addr → Int → PT) : Ok Try.prog Try.f3.ntmps Z law18_HoldLease.c26 (law18_HoldLease.q44 Z Q X1) (law18_HoldLease.j75 Z Q X1) := by
  rw [law18_HoldLease.q34]; exact ok_block (law18_HoldLease.s74_ok Z Q X1)
theorem law18_HoldLease.o77 (Z : List PanicEntry → PT) (Q : Bool → PT) (X1 : Option Addr → Nat → Nat → Int → Int → Option Addr → Int → PT) : Ok Try.prog Try.f3.ntmps Z law18_HoldLease.c24 (law18_HoldLease.q31 Z Q X1) (law18_HoldLease.j75 Z Q X1) := by
  rw [law18_HoldLease.q28]; exact ok_seq (law18_HoldLease.o76 Z Q X1) (law18_HoldLease.s29_ok Z Q X1)
def law18_HoldLease.s78 (Z : List PanicEntry → PT) (Q : Bool → PT) (X1 : Option Addr → Nat → Nat → Int → Int → Option Addr → Int → PT) (l_0 : Option Addr) (l_0n l_0c : Nat) (now_1 : Int) (lease_2 : Int) (h_7 : Option Addr) (i_8 : Int) : PT :=
  (pif (decide (i_8 < ((l_0n : Nat) : Int))) (pif (decide (i_8 < 80)) (law18_HoldLease.s74 Z Q X1 l_0 l_0n l_0c now_1 lease_2 h_7 i_8) (law18_HoldLease.s10 Z Q )) (law18_HoldLease.s10 Z Q ))
theorem law18_HoldLease.s78_eq (Z : List PanicEntry → PT) (Q : Bool → PT) (X1 : Option Addr → Nat → Nat → Int → Int → Option Addr → Int → PT) (ρ : Fr) (l_0 : Option Addr) (l_0n l_0c : Nat) (now_1 : Int) (lease_2 : Int) (h_7 : Option Addr) (i_8 : Int) : (comp Try.prog Z law18_HoldLease.c23 (thenK (law18_HoldLease.j75 Z Q X1) (law18_HoldLease.q31 Z Q X1))) (puts ρ [(0, (Value.slice l_0 l_0n l_0c)), (1, (Value.int .i64 now_1)), (2, (Value.int .i64 lease_2)), (7, (Value.pointer h_7)), (8, (Value.int .i64 i_8))]) = law18_HoldLease.s78 Z Q X1 l_0 l_0n l_0c now_1 lease_2 h_7 i_8 := by kernel_rfl
def law18_HoldLease.j79 (Z : List PanicEntry → PT) (Q : Bool → PT) (X1 : Option Addr → Nat → Nat → Int → Int → Option Addr → Int → PT) : Fr → PT := (fun ρ => atL (ρ 0) fun l_0 l_0n l_0c => atI .i64 (ρ 1) fun now_1 => atI .i64 (ρ 2) fun lease_2 => atP (ρ 7) fun h_7 => atI .i64 (ρ 8) fun i_8 => (law18_HoldLease.s78 Z Q X1 l_0 l_0n l_0c now_1 lease_2 h_7 i_8))
theorem law18_HoldLease.s78_ok (Z : List PanicEntry → PT) (Q : Bool → PT) (X1 : Option Addr → Nat → Nat → Int → Int → Option Addr → Int → PT) : Ok Try.prog Try.f3.ntmps Z law18_HoldLease.c18 (law18_HoldLease.q31 Z Q X1) (law18_HoldLease.j79 Z Q X1) := by
  rw [law18_HoldLease.q25]
  intro ρ w a hr h
  obtain ⟨l_0, l_0n, l_0c, e0, h⟩ := atL_e h
  obtain ⟨now_1, e1, h⟩ := atI_e h
  obtain ⟨lease_2, e2, h⟩ := atI_e h
  obtain ⟨h_7, e7, h⟩ := atP_e h
  obtain ⟨i_8, e8, h⟩ := atI_e h
  exact ok_at [(0, (Value.slice l_0 l_0n l_0c)), (1, (Value.int .i64 now_1)), (2, (Value.int .i64 lease_2)), (7, (Value.pointer h_7)), (8, (Value.int .i64 i_8))] (ok_seq (okC law18_HoldLease.c23 _ (by kernel_rfl)) (law18_HoldLease.o77 Z Q X1)) (puts_cons e0 (puts_cons e1 (puts_cons e2 (puts_cons e7 (puts_cons e8 (fun p hp => puts_nil hp)))))) (law18_HoldLease.s78_eq Z Q X1 ρ l_0 l_0n l_0c now_1 lease_2 h_7 i_8) hr h
def law18_HoldLease.l20 (Z : List PanicEntry → PT) (Q : Bool → PT) : Nat → Option Addr → Nat → Nat → Int → Int → Option Addr → Int → PT
  | 0, _, _, _, _, _, _, _ => bad
  | k + 1, l_0, l_0n, l_0c, now_1, lease_2, h_7, i_8 => (law18_HoldLease.s78 Z Q (law18_HoldLease.l20 Z Q k) l_0 l_0n l_0c now_1 lease_2 h_7 i_8)
def law18_HoldLease.j80 (Z : List PanicEntry → PT) (Q : Bool → PT) (k : Nat) : Fr → PT := (fun ρ => atL (ρ 0) fun l_0 l_0n l_0c => atI .i64 (ρ 1) fun now_1 => atI .i64 (ρ 2) fun lease_2 => atP (ρ 7) fun h_7 => atI .i64 (ρ 8) fun i_8 => (law18_HoldLease.l20 Z Q k l_0 l_0n l_0c now_1 lease_2 h_7 i_8))
def law18_HoldLease.j81 (Z : List PanicEntry → PT) (Q : Bool → PT) : Fr → PT := (fun ρ => atL (ρ 0) fun l_0 l_0n l_0c => atI .i64 (ρ 1) fun now_1 => atI .i64 (ρ 2) fun lease_2 => atP (ρ 7) fun h_7 => atI .i64 (ρ 8) fun i_8 => (exK fun k => law18_HoldLease.l20 Z Q k l_0 l_0n l_0c now_1 lease_2 h_7 i_8))
theorem law18_HoldLease.o82 (Z : List PanicEntry → PT) (Q : Bool → PT) : Ok Try.prog Try.f3.ntmps Z law18_HoldLease.c16 (law18_HoldLease.q22 Z Q) (law18_HoldLease.j81 Z Q) := by
  rw [law18_HoldLease.q19]
  refine Ok.imp (ok_loop (J := law18_HoldLease.j80 Z Q) ?_ ?_) ?_
  · intro ρ w h
    obtain ⟨l_0, l_0n, l_0c, e0, h⟩ := atL_e h
    obtain ⟨now_1, e1, h⟩ := atI_e h
    obtain ⟨lease_2, e2, h⟩ := atI_e h
    obtain ⟨h_7, e7, h⟩ := atP_e h
    obtain ⟨i_8, e8, h⟩ := atI_e h
    exact h
  · intro k
    refine Ok.imp (law18_HoldLease.s78_ok Z Q (law18_HoldLease.l20 Z Q k)) fun ρ w h => ?_
    obtain ⟨l_0, l_0n, l_0c, e0, h⟩ := atL_e h
    obtain ⟨now_1, e1, h⟩ := atI_e h
    obtain ⟨lease_2, e2, h⟩ := atI_e h
    obtain ⟨h_7, e7, h⟩ := atP_e h
    obtain ⟨i_8, e8, h⟩ := atI_e h
    show (law18_HoldLease.j79 Z Q (law18_HoldLease.l20 Z Q k)) ρ w
    simp only [law18_HoldLease.j79]
    rw [e0]
    rw [e1]
    rw [e2]
    rw [e7]
    rw [e8]
    exact h
  · intro ρ w h
    obtain ⟨l_0, l_0n, l_0c, e0, h⟩ := atL_e h
    obtain ⟨now_1, e1, h⟩ := atI_e h
    obtain ⟨lease_2, e2, h⟩ := atI_e h
    obtain ⟨h_7, e7, h⟩ := atP_e h
    obtain ⟨i_8, e8, h⟩ := atI_e h
    obtain ⟨k, h⟩ := h
    refine ⟨k, ?_⟩
    show (atL (ρ 0) fun l_0 l_0n l_0c => atI .i64 (ρ 1) fun now_1 => atI .i64 (ρ 2) fun lease_2 => atP (ρ 7) fun h_7 => atI .i64 (ρ 8) fun i_8 => (law18_HoldLease.l20 Z Q k l_0 l_0n l_0c now_1 lease_2 h_7 i_8)) w
    rw [e0]
    rw [e1]
    rw [e2]
    rw [e7]
    rw [e8]
    exact h
theorem law18_HoldLease.o83 (Z : List PanicEntry → PT) (Q : Bool → PT) : Ok Try.prog Try.f3.ntmps Z law18_HoldLease.c14 (law18_HoldLease.q21 Z Q) (law18_HoldLease.j81 Z Q) := by
  rw [law18_HoldLease.q17]; exact ok_block (law18_HoldLease.o82 Z Q)
def law18_HoldLease.s84 (Z : List PanicEntry → PT) (Q : Bool → PT) (l_0 : Option Addr) (l_0n l_0c : Nat) (now_1 : Int) (lease_2 : Int) (h_7 : Option Addr) : PT :=
  (exK fun k => law18_HoldLease.l20 Z Q k l_0 l_0n l_0c now_1 lease_2 h_7 0)
theorem law18_HoldLease.s84_eq (Z : List PanicEntry → PT) (Q : Bool → PT) (ρ : Fr) (l_0 : Option Addr) (l_0n l_0c : Nat) (now_1 : Int) (lease_2 : Int) (h_7 : Option Addr) : (comp Try.prog Z law18_HoldLease.c13 (thenK (law18_HoldLease.j81 Z Q) (law18_HoldLease.q21 Z Q))) (puts ρ [(0, (Value.slice l_0 l_0n l_0c)), (1, (Value.int .i64 now_1)), (2, (Value.int .i64 lease_2)), (7, (Value.pointer h_7))]) = law18_HoldLease.s84 Z Q l_0 l_0n l_0c now_1 lease_2 h_7 := by kernel_rfl
def law18_HoldLease.j85 (Z : List PanicEntry → PT) (Q : Bool → PT) : Fr → PT := (fun ρ => atL (ρ 0) fun l_0 l_0n l_0c => atI .i64 (ρ 1) fun now_1 => atI .i64 (ρ 2) fun lease_2 => atP (ρ 7) fun h_7 => (law18_HoldLease.s84 Z Q l_0 l_0n l_0c now_1 lease_2 h_7))
theorem law18_HoldLease.s84_ok (Z : List PanicEntry → PT) (Q : Bool → PT) : Ok Try.prog Try.f3.ntmps Z law18_HoldLease.c7 (law18_HoldLease.q21 Z Q) (law18_HoldLease.j85 Z Q) := by
  rw [law18_HoldLease.q15]
  intro ρ w a hr h
  obtain ⟨l_0, l_0n, l_0c, e0, h⟩ := atL_e h
  obtain ⟨now_1, e1, h⟩ := atI_e h
  obtain ⟨lease_2, e2, h⟩ := atI_e h
  obtain ⟨h_7, e7, h⟩ := atP_e h
  exact ok_at [(0, (Value.slice l_0 l_0n l_0c)), (1, (Value.int .i64 now_1)), (2, (Value.int .i64 lease_2)), (7, (Value.pointer h_7))] (ok_seq (okC law18_HoldLease.c13 _ (by kernel_rfl)) (law18_HoldLease.o83 Z Q)) (puts_cons e0 (puts_cons e1 (puts_cons e2 (puts_cons e7 (fun p hp => puts_nil hp))))) (law18_HoldLease.s84_eq Z Q ρ l_0 l_0n l_0c now_1 lease_2 h_7) hr h
theorem law18_HoldLease.o86 (Z : List PanicEntry → PT) (Q : Bool → PT) : Ok Try.prog Try.f3.ntmps Z law18_HoldLease.c5 (law18_HoldLease.q11 Z Q) (law18_HoldLease.j85 Z Q) := by
  rw [law18_HoldLease.q9]; exact ok_seq (law18_HoldLease.s84_ok Z Q) (law18_HoldLease.s10_ok Z Q)
def law18_HoldLease.s87 (Z : List PanicEntry → PT) (Q : Bool → PT) (l_0 : Option Addr) (l_0n l_0c : Nat) (now_1 : Int) (lease_2 : Int) : PT :=
  (cal Try.prog Z 9 [] (isB fun v58 => (pif (!v58) (Q false) (pif (decide (now_1 < 0)) (Q true) (pif (decide (now_1 > 1099511627776)) (Q true) (cal Try.prog Z 10 [(Value.int .i64 1)] (isP fun v59 => (law18_HoldLease.s84 Z Q l_0 l_0n l_0c now_1 lease_2 v59))))))))
theorem law18_HoldLease.s87_eq (Z : List PanicEntry → PT) (Q : Bool → PT) (ρ : Fr) (l_0 : Option Addr) (l_0n l_0c : Nat) (now_1 : Int) (lease_2 : Int) : (comp Try.prog Z law18_HoldLease.c1 (thenK (comp Try.prog Z law18_HoldLease.c2 (thenK (comp Try.prog Z law18_HoldLease.c3 (thenK (comp Try.prog Z law18_HoldLease.c4 (thenK (law18_HoldLease.j85 Z Q) (law18_HoldLease.q11 Z Q))) (law18_HoldLease.q11 Z Q))) (law18_HoldLease.q11 Z Q))) (law18_HoldLease.q11 Z Q))) (puts ρ [(0, (Value.slice l_0 l_0n l_0c)), (1, (Value.int .i64 now_1)), (2, (Value.int .i64 lease_2))]) = law18_HoldLease.s87 Z Q l_0 l_0n l_0c now_1 lease_2 := by kernel_rfl
def law18_HoldLease.j88 (Z : List PanicEntry → PT) (Q : Bool → PT) : Fr → PT := (fun ρ => atL (ρ 0) fun l_0 l_0n l_0c => atI .i64 (ρ 1) fun now_1 => atI .i64 (ρ 2) fun lease_2 => (law18_HoldLease.s87 Z Q l_0 l_0n l_0c now_1 lease_2))
theorem law18_HoldLease.s87_ok (Z : List PanicEntry → PT) (Q : Bool → PT) : Ok Try.prog Try.f3.ntmps Z law18_HoldLease.body (law18_HoldLease.q11 Z Q) (law18_HoldLease.j88 Z Q) := by
  rw [law18_HoldLease.q6]
  intro ρ w a hr h
  obtain ⟨l_0, l_0n, l_0c, e0, h⟩ := atL_e h
  obtain ⟨now_1, e1, h⟩ := atI_e h
  obtain ⟨lease_2, e2, h⟩ := atI_e h
  exact ok_at [(0, (Value.slice l_0 l_0n l_0c)), (1, (Value.int .i64 now_1)), (2, (Value.int .i64 lease_2))] (ok_seq (okC law18_HoldLease.c1 _ (by kernel_rfl)) (ok_seq (okC law18_HoldLease.c2 _ (by kernel_rfl)) (ok_seq (okC law18_HoldLease.c3 _ (by kernel_rfl)) (ok_seq (okC law18_HoldLease.c4 _ (by kernel_rfl)) (law18_HoldLease.o86 Z Q))))) (puts_cons e0 (puts_cons e1 (puts_cons e2 (fun p hp => puts_nil hp)))) (law18_HoldLease.s87_eq Z Q ρ l_0 l_0n l_0c now_1 lease_2) hr h
def law18_HoldLease.F (Z : List PanicEntry → PT) (Q : Bool → PT) (l_0 : Option Addr) (l_0n l_0c : Nat) (now_1 : Int) (lease_2 : Int) : PT :=
  (law18_HoldLease.s87 Z Q l_0 l_0n l_0c now_1 lease_2)
theorem law18_HoldLease.vc (Z : List PanicEntry → PT) (Q : Bool → PT) (l_0 : Option Addr) (l_0n l_0c : Nat) (now_1 : Int) (lease_2 : Int) (w : World) (h : law18_HoldLease.F Z Q l_0 l_0n l_0c now_1 lease_2 w) : Calls Try.prog 3 ⟨[(Value.slice l_0 l_0n l_0c), (Value.int .i64 now_1), (Value.int .i64 lease_2)]⟩ w fun e w' => (∃ (r0 : Bool), e = .returned (.bool r0) ∧ Q r0 w') ∨ ∃ c, e = .panicked c ∧ Z c w' := by
  refine (calls_of_ok (args := [(Value.slice l_0 l_0n l_0c), (Value.int .i64 now_1), (Value.int .i64 lease_2)]) (w := w) (rs := [.tmp 6]) (fn := Try.f3) (c := law18_HoldLease.body) Try.func3 (by kernel_rfl) (by kernel_rfl) (Nat.le_of_ble_eq_true (by kernel_rfl)) (law18_HoldLease.s87_ok Z Q) (h)).mono fun e w' hR => ?_
  cases e with
  | returned v =>
    obtain ⟨va, rfl, hR⟩ := atB_e hR
    exact .inl ⟨va, rfl, hR⟩
  | panicked c => exact .inr ⟨c, rfl, hR⟩
  | outgrown => exact hR.elim
theorem law18_HoldLease.vc0 (Q : Bool → PT) (l_0 : Option Addr) (l_0n l_0c : Nat) (now_1 : Int) (lease_2 : Int) (w : World) (h : law18_HoldLease.F Z0 Q l_0 l_0n l_0c now_1 lease_2 w) : Calls Try.prog 3 ⟨[(Value.slice l_0 l_0n l_0c), (Value.int .i64 now_1), (Value.int .i64 lease_2)]⟩ w fun e w' => (∃ (r0 : Bool), e = .returned (.bool r0) ∧ Q r0 w') :=
  (law18_HoldLease.vc Z0 Q l_0 l_0n l_0c now_1 lease_2 w h).mono fun _ _ hR => hR.elim id fun ⟨_, _, hz⟩ => hz.elim
theorem law18_HoldLease.cal {Z : List PanicEntry → PT} {Q : Bool → PT} {l_0 : Option Addr} {l_0n l_0c : Nat} {now_1 : Int} {lease_2 : Int} {w : World} (h : law18_HoldLease.F Z Q l_0 l_0n l_0c now_1 lease_2 w) : Go.Proofs.Ythheldpjcndelaa.cal Try.prog Z 3 [(Value.slice l_0 l_0n l_0c), (Value.int .i64 now_1), (Value.int .i64 lease_2)] (isB fun r0 => Q r0) w := by
  refine (law18_HoldLease.vc Z Q l_0 l_0n l_0c now_1 lease_2 w h).mono fun e w' hR => ?_
  rcases hR with ⟨r0, rfl, h⟩ | ⟨c, rfl, h⟩
  · show (isB fun r0 => Q r0) (.bool r0) w'
    exact ⟨_, rfl, h⟩
  · exact h

/-! ### milepost/milepostlaw18.HoldFills: function 4 -/
noncomputable def law18_HoldFills.body : Code := bodyC Try.f4
noncomputable def law18_HoldFills.c1 : Code := sq1 law18_HoldFills.body
noncomputable def law18_HoldFills.c2 : Code := sq1 (sq2 law18_HoldFills.body)
noncomputable def law18_HoldFills.c3 : Code := sq1 (sq2 (sq2 law18_HoldFills.body))
noncomputable def law18_HoldFills.c4 : Code := sq1 (sq2 (sq2 (sq2 law18_HoldFills.body)))
noncomputable def law18_HoldFills.c5 : Code := sq1 (sq2 (sq2 (sq2 (sq2 law18_HoldFills.body))))
noncomputable def law18_HoldFills.c6 : Code := sq1 (sq2 (sq2 (sq2 (sq2 (sq2 law18_HoldFills.body)))))
noncomputable def law18_HoldFills.c7 : Code := sq2 (sq2 (sq2 (sq2 (sq2 (sq2 law18_HoldFills.body)))))
theorem law18_HoldFills.q8 : law18_HoldFills.body = .seq law18_HoldFills.c1 (.seq law18_HoldFills.c2 (.seq law18_HoldFills.c3 (.seq law18_HoldFills.c4 (.seq law18_HoldFills.c5 (.seq law18_HoldFills.c6 law18_HoldFills.c7))))) := by kernel_rfl
noncomputable def law18_HoldFills.c9 : Code := sq1 law18_HoldFills.c7
noncomputable def law18_HoldFills.c10 : Code := sq2 law18_HoldFills.c7
theorem law18_HoldFills.q11 : law18_HoldFills.c7 = .seq law18_HoldFills.c9 law18_HoldFills.c10 := by kernel_rfl
def law18_HoldFills.s12 (Z : List PanicEntry → PT) (Q : Bool → PT) (of_0 : Int) (epoch_1 : Int) (h_9 : Option Addr) : PT :=
  (cal Try.prog Z 16 [(Value.pointer h_9), (Value.int .i64 epoch_1)] (isT2 fun t12 t13 => (isI .i64 fun v14 => ((isI .i64 fun v15 => (cal Try.prog Z 14 [(Value.pointer h_9), (Value.int .i64 epoch_1)] (isB fun v16 => (pif v16 (pif (v14 == of_0) (pif (v15 == of_0) (cal Try.prog Z 17 [(Value.pointer h_9), (Value.int .i64 0), (Value.int .i64 epoch_1), (Value.int .i64 epoch_1)] (isB fun v17 => (pif v17 (cal Try.prog Z 13 [(Value.pointer h_9)] (isI .i64 fun v18 => (Q (v18 == epoch_1)))) (Q false)))) (Q false)) (Q false)) (Q false))))) t13)) t12))
def law18_HoldFills.q13 (Z : List PanicEntry → PT) (Q : Bool → PT) : QF := bodyQ [.tmp 8] (fun v => atB v fun va => Q va)
theorem law18_HoldFills.s12_eq (Z : List PanicEntry → PT) (Q : Bool → PT) (ρ : Fr) (of_0 : Int) (epoch_1 : Int) (h_9 : Option Addr) : comp Try.prog Z law18_HoldFills.c10 (law18_HoldFills.q13 Z Q) (puts ρ [(0, (Value.int .i64 of_0)), (1, (Value.int .i64 epoch_1)), (9, (Value.pointer h_9))]) = law18_HoldFills.s12 Z Q of_0 epoch_1 h_9 := by kernel_rfl
def law18_HoldFills.j14 (Z : List PanicEntry → PT) (Q : Bool → PT) : Fr → PT := (fun ρ => atI .i64 (ρ 0) fun of_0 => atI .i64 (ρ 1) fun epoch_1 => atP (ρ 9) fun h_9 => (law18_HoldFills.s12 Z Q of_0 epoch_1 h_9))
theorem law18_HoldFills.s12_ok (Z : List PanicEntry → PT) (Q : Bool → PT) : Ok Try.prog Try.f4.ntmps Z law18_HoldFills.c10 (law18_HoldFills.q13 Z Q) (law18_HoldFills.j14 Z Q) := by
  intro ρ w a hr h
  obtain ⟨of_0, e0, h⟩ := atI_e h
  obtain ⟨epoch_1, e1, h⟩ := atI_e h
  obtain ⟨h_9, e9, h⟩ := atP_e h
  exact ok_at [(0, (Value.int .i64 of_0)), (1, (Value.int .i64 epoch_1)), (9, (Value.pointer h_9))] (okC law18_HoldFills.c10 (law18_HoldFills.q13 Z Q) (by kernel_rfl)) (puts_cons e0 (puts_cons e1 (puts_cons e9 (fun p hp => puts_nil hp)))) (law18_HoldFills.s12_eq Z Q ρ of_0 epoch_1 h_9) hr h
noncomputable def law18_HoldFills.c15 : Code := sq1 law18_HoldFills.c9
noncomputable def law18_HoldFills.c16 : Code := sq2 law18_HoldFills.c9
theorem law18_HoldFills.q17 : law18_HoldFills.c9 = .seq law18_HoldFills.c15 law18_HoldFills.c16 := by kernel_rfl
noncomputable def law18_HoldFills.c18 : Code := blk law18_HoldFills.c16
theorem law18_HoldFills.q19 : law18_HoldFills.c16 = .block 0 law18_HoldFills.c18 := by kernel_rfl
noncomputable def law18_HoldFills.c20 : Code := lop law18_HoldFills.c18
theorem law18_HoldFills.q21 : law18_HoldFills.c18 = .loop law18_HoldFills.c20 := by kernel_rfl
def law18_HoldFills.q23 (Z : List PanicEntry → PT) (Q : Bool → PT) : QF := thenK (law18_HoldFills.j14 Z Q) (law18_HoldFills.q13 Z Q)
def law18_HoldFills.q24 (Z : List PanicEntry → PT) (Q : Bool → PT) : QF := inBl 0 (law18_HoldFills.q23 Z Q)
noncomputable def law18_HoldFills.c25 : Code := sq1 law18_HoldFills.c20
noncomputable def law18_HoldFills.c26 : Code := sq2 law18_HoldFills.c20
theorem law18_HoldFills.q27 : law18_HoldFills.c20 = .seq law18_HoldFills.c25 law18_HoldFills.c26 := by kernel_rfl
noncomputable def law18_HoldFills.c28 : Code := sq1 law18_HoldFills.c26
noncomputable def law18_HoldFills.c29 : Code := sq2 law18_HoldFills.c26
theorem law18_HoldFills.q30 : law18_HoldFills.c26 = .seq law18_HoldFills.c28 law18_HoldFills.c29 := by kernel_rfl
def law18_HoldFills.s31 (Z : List PanicEntry → PT) (Q : Bool → PT) (X1 : Int → Int → Int → Int → Option Addr → Int → PT) (of_0 : Int) (epoch_1 : Int) (floor_2 : Int) (odd_3 : Int) (h_9 : Option Addr) (i_10 : Int) : PT :=
  (X1 of_0 epoch_1 floor_2 odd_3 h_9 (IntKind.wrap .i64 (i_10 + 1)))
def law18_HoldFills.j32 (Z : List PanicEntry → PT) (Q : Bool → PT) (X1 : Int → Int → Int → Int → Option Addr → Int → PT) : Fr → PT := (fun ρ => atI .i64 (ρ 0) fun of_0 => atI .i64 (ρ 1) fun epoch_1 => atI .i64 (ρ 2) fun floor_2 => atI .i64 (ρ 3) fun odd_3 => atP (ρ 9) fun h_9 => atI .i64 (ρ 10) fun i_10 => (X1 of_0 epoch_1 floor_2 odd_3 h_9 i_10))
def law18_HoldFills.q33 (Z : List PanicEntry → PT) (Q : Bool → PT) (X1 : Int → Int → Int → Int → Option Addr → Int → PT) : QF := thenK (law18_HoldFills.j32 Z Q X1) (law18_HoldFills.q24 Z Q)
theorem law18_HoldFills.s31_eq (Z : List PanicEntry → PT) (Q : Bool → PT) (X1 : Int → Int → Int → Int → Option Addr → Int → PT) (ρ : Fr) (of_0 : Int) (epoch_1 : Int) (floor_2 : Int) (odd_3 : Int) (h_9 : Option Addr) (i_10 : Int) : comp Try.prog Z law18_HoldFills.c29 (law18_HoldFills.q33 Z Q X1) (puts ρ [(0, (Value.int .i64 of_0)), (1, (Value.int .i64 epoch_1)), (2, (Value.int .i64 floor_2)), (3, (Value.int .i64 odd_3)), (9, (Value.pointer h_9)), (10, (Value.int .i64 i_10))]) = law18_HoldFills.s31 Z Q X1 of_0 epoch_1 floor_2 odd_3 h_9 i_10 := by kernel_rfl
def law18_HoldFills.j34 (Z : List PanicEntry → PT) (Q : Bool → PT) (X1 : Int → Int → Int → Int → Option Addr → Int → PT) : Fr → PT := (fun ρ => atI .i64 (ρ 0) fun of_0 => atI .i64 (ρ 1) fun epoch_1 => atI .i64 (ρ 2) fun floor_2 => atI .i64 (ρ 3) fun odd_3 => atP (ρ 9) fun h_9 => atI .i64 (ρ 10) fun i_10 => (law18_HoldFills.s31 Z Q X1 of_0 epoch_1 floor_2 odd_3 h_9 i_10))
theorem law18_HoldFills.s31_ok (Z : List PanicEntry → PT) (Q : Bool → PT) (X1 : Int → Int → Int → Int → Option Addr → Int → PT) : Ok Try.prog Try.f4.ntmps Z law18_HoldFills.c29 (law18_HoldFills.q33 Z Q X1) (law18_HoldFills.j34 Z Q X1) := by
  intro ρ w a hr h
  obtain ⟨of_0, e0, h⟩ := atI_e h
  obtain ⟨epoch_1, e1, h⟩ := atI_e h
  obtain ⟨floor_2, e2, h⟩ := atI_e h
  obtain ⟨odd_3, e3, h⟩ := atI_e h
  obtain ⟨h_9, e9, h⟩ := atP_e h
  obtain ⟨i_10, e10, h⟩ := atI_e h
  exact ok_at [(0, (Value.int .i64 of_0)), (1, (Value.int .i64 epoch_1)), (2, (Value.int .i64 floor_2)), (3, (Value.int .i64 odd_3)), (9, (Value.pointer h_9)), (10, (Value.int .i64 i_10))] (okC law18_HoldFills.c29 (law18_HoldFills.q33 Z Q X1) (by kernel_rfl)) (puts_cons e0 (puts_cons e1 (puts_cons e2 (puts_cons e3 (puts_cons e9 (puts_cons e10 (fun p hp => puts_nil hp))))))) (law18_HoldFills.s31_eq Z Q X1 ρ of_0 epoch_1 floor_2 odd_3 h_9 i_10) hr h
noncomputable def law18_HoldFills.c35 : Code := blk law18_HoldFills.c28
theorem law18_HoldFills.q36 : law18_HoldFills.c28 = .block 1 law18_HoldFills.c35 := by kernel_rfl
noncomputable def law18_HoldFills.c37 : Code := sq1 law18_HoldFills.c35
noncomputable def law18_HoldFills.c38 : Code := sq2 law18_HoldFills.c35
theorem law18_HoldFills.q39 : law18_HoldFills.c35 = .seq law18_HoldFills.c37 law18_HoldFills.c38 := by kernel_rfl
def law18_HoldFills.s40 (Z : List PanicEntry → PT) (Q : Bool → PT) (X1 : Int → Int → Int → Int → Option Addr → Int → PT) (of_0 : Int) (epoch_1 : Int) (floor_2 : Int) (odd_3 : Int) (h_9 : Option Addr) (i_10 : Int) (t_65 : Bool) : PT :=
  (pif t_65 (Q false) (law18_HoldFills.s31 Z Q X1 of_0 epoch_1 floor_2 odd_3 h_9 i_10))
def law18_HoldFills.q41 (Z : List PanicEntry → PT) (Q : Bool → PT) (X1 : Int → Int → Int → Int → Option Addr → Int → PT) : QF := thenK (law18_HoldFills.j34 Z Q X1) (law18_HoldFills.q33 Z Q X1)
def law18_HoldFills.q42 (Z : List PanicEntry → PT) (Q : Bool → PT) (X1 : Int → Int → Int → Int → Option Addr → Int → PT) : QF := inBl 1 (law18_HoldFills.q41 Z Q X1)
theorem law18_HoldFills.s40_eq (Z : List PanicEntry → PT) (Q : Bool → PT) (X1 : Int → Int → Int → Int → Option Addr → Int → PT) (ρ : Fr) (of_0 : Int) (epoch_1 : Int) (floor_2 : Int) (odd_3 : Int) (h_9 : Option Addr) (i_10 : Int) (t_65 : Bool) : comp Try.prog Z law18_HoldFills.c38 (law18_HoldFills.q42 Z Q X1) (puts ρ [(0, (Value.int .i64 of_0)), (1, (Value.int .i64 epoch_1)), (2, (Value.int .i64 floor_2)), (3, (Value.int .i64 odd_3)), (9, (Value.pointer h_9)), (10, (Value.int .i64 i_10)), (65, (Value.bool t_65))]) = law18_HoldFills.s40 Z Q X1 of_0 epoch_1 floor_2 odd_3 h_9 i_10 t_65 := by kernel_rfl
def law18_HoldFills.j43 (Z : List PanicEntry → PT) (Q : Bool → PT) (X1 : Int → Int → Int → Int → Option Addr → Int → PT) : Fr → PT := (fun ρ => atI .i64 (ρ 0) fun of_0 => atI .i64 (ρ 1) fun epoch_1 => atI .i64 (ρ 2) fun floor_2 => atI .i64 (ρ 3) fun odd_3 => atP (ρ 9) fun h_9 => atI .i64 (ρ 10) fun i_10 => atB (ρ 65) fun t_65 => (law18_HoldFills.s40 Z Q X1 of_0 epoch_1 floor_2 odd_3 h_9 i_10 t_65))
theorem law18_HoldFills.s40_ok (Z : List PanicEntry → PT) (Q : Bool → PT) (X1 : Int → Int → Int → Int → Option Addr → Int → PT) : Ok Try.prog Try.f4.ntmps Z law18_HoldFills.c38 (law18_HoldFills.q42 Z Q X1) (law18_HoldFills.j43 Z Q X1) := by
  intro ρ w a hr h
  obtain ⟨of_0, e0, h⟩ := atI_e h
  obtain ⟨epoch_1, e1, h⟩ := atI_e h
  obtain ⟨floor_2, e2, h⟩ := atI_e h
  obtain ⟨odd_3, e3, h⟩ := atI_e h
  obtain ⟨h_9, e9, h⟩ := atP_e h
  obtain ⟨i_10, e10, h⟩ := atI_e h
  obtain ⟨t_65, e65, h⟩ := atB_e h
  exact ok_at [(0, (Value.int .i64 of_0)), (1, (Value.int .i64 epoch_1)), (2, (Value.int .i64 floor_2)), (3, (Value.int .i64 odd_3)), (9, (Value.pointer h_9)), (10, (Value.int .i64 i_10)), (65, (Value.bool t_65))] (okC law18_HoldFills.c38 (law18_HoldFills.q42 Z Q X1) (by kernel_rfl)) (puts_cons e0 (puts_cons e1 (puts_cons e2 (puts_cons e3 (puts_cons e9 (puts_cons e10 (puts_cons e65 (fun p hp => puts_nil hp)))))))) (law18_HoldFills.s40_eq Z Q X1 ρ of_0 epoch_1 floor_2 odd_3 h_9 i_10 t_65) hr h
def law18_HoldFills.s44 (Z : List PanicEntry → PT) (Q : Bool → PT) (X1 : Int → Int → Int → Int → Option Addr → Int → PT) (of_0 : Int) (epoch_1 : Int) (floor_2 : Int) (odd_3 : Int) (h_9 : Option Addr) (i_10 : Int) : PT :=
  (cal Try.prog Z 14 [(Value.pointer h_9), (Value.int .i64 epoch_1)] (isB fun v61 => (pif v61 (law18_HoldFills.s40 Z Q X1 of_0 epoch_1 floor_2 odd_3 h_9 i_10 true) (pif (decide (odd_3 > i_10)) (cal Try.prog Z 15 [(Value.pointer h_9), (Value.int .i64 floor_2), (Value.int .i64 epoch_1), (Value.int .i64 odd_3), (Value.int .i64 (if odd_3 > of_0 then odd_3 else of_0))] (isI .i64 fun v62 => (pif (v62 != 0) (law18_HoldFills.s40 Z Q X1 of_0 epoch_1 floor_2 odd_3 h_9 i_10 true) (cal Try.prog Z 15 [(Value.pointer h_9), (Value.int .i64 floor_2), (Value.int .i64 epoch_1), (Value.int .i64 i_10), (Value.int .i64 of_0)] (isI .i64 fun v63 => (pif (v63 != 1) (law18_HoldFills.s40 Z Q X1 of_0 epoch_1 floor_2 odd_3 h_9 i_10 true) (cal Try.prog Z 15 [(Value.pointer h_9), (Value.int .i64 floor_2), (Value.int .i64 epoch_1), (Value.int .i64 i_10), (Value.int .i64 of_0)] (isI .i64 fun v64 => (law18_HoldFills.s40 Z Q X1 of_0 epoch_1 floor_2 odd_3 h_9 i_10 (v64 != 2)))))))))) (cal Try.prog Z 15 [(Value.pointer h_9), (Value.int .i64 floor_2), (Value.int .i64 epoch_1), (Value.int .i64 i_10), (Value.int .i64 of_0)] (isI .i64 fun v65 => (pif (v65 != 1) (law18_HoldFills.s40 Z Q X1 of_0 epoch_1 floor_2 odd_3 h_9 i_10 true) (cal Try.prog Z 15 [(Value.pointer h_9), (Value.int .i64 floor_2), (Value.int .i64 epoch_1), (Value.int .i64 i_10), (Value.int .i64 of_0)] (isI .i64 fun v66 => (law18_HoldFills.s40 Z Q X1 of_0 epoch_1 floor_2 odd_3 h_9 i_10 (v66 != 2)))))))))))
theorem law18_HoldFills.s44_eq (Z : List PanicEntry → PT) (Q : Bool → PT) (X1 : Int → Int → Int → Int → Option Addr → Int → PT) (ρ : Fr) (of_0 : Int) (epoch_1 : Int) (floor_2 : Int) (odd_3 : Int) (h_9 : Option Addr) (i_10 : Int) : (comp Try.prog Z law18_HoldFills.c37 (thenK (law18_HoldFills.j43 Z Q X1) (law18_HoldFills.q42 Z Q X1))) (puts ρ [(0, (Value.int .i64 of_0)), (1, (Value.int .i64 epoch_1)), (2, (Value.int .i64 floor_2)), (3, (Value.int .i64 odd_3)), (9, (Value.pointer h_9)), (10, (Value.int .i64 i_10))]) = law18_HoldFills.s44 Z Q X1 of_0 epoch_1 floor_2 odd_3 h_9 i_10 := by kernel_rfl
def law18_HoldFills.j45 (Z : List PanicEntry → PT) (Q : Bool → PT) (X1 : Int → Int → Int → Int → Option Addr → Int → PT) : Fr → PT := (fun ρ => atI .i64 (ρ 0) fun of_0 => atI .i64 (ρ 1) fun epoch_1 => atI .i64 (ρ 2) fun floor_2 => atI .i64 (ρ 3) fun odd_3 => atP (ρ 9) fun h_9 => atI .i64 (ρ 10) fun i_10 => (law18_HoldFills.s44 Z Q X1 of_0 epoch_1 floor_2 odd_3 h_9 i_10))
theorem law18_HoldFills.s44_ok (Z : List PanicEntry → PT) (Q : Bool → PT) (X1 : Int → Int → Int → Int → Option Addr → Int → PT) : Ok Try.prog Try.f4.ntmps Z law18_HoldFills.c35 (law18_HoldFills.q42 Z Q X1) (law18_HoldFills.j45 Z Q X1) := by
  rw [law18_HoldFills.q39]
  intro ρ w a hr h
  obtain ⟨of_0, e0, h⟩ := atI_e h
  obtain ⟨epoch_1, e1, h⟩ := atI_e h
  obtain ⟨floor_2, e2, h⟩ := atI_e h
  obtain ⟨odd_3, e3, h⟩ := atI_e h
  obtain ⟨h_9, e9, h⟩ := atP_e h
  obtain ⟨i_10, e10, h⟩ := atI_e h
  exact ok_at [(0, (Value.int .i64 of_0)), (1, (Value.int .i64 epoch_1)), (2, (Value.int .i64 floor_2)), (3, (Value.int .i64 odd_3)), (9, (Value.pointer h_9)), (10, (Value.int .i64 i_10))] (ok_seq (okC law18_HoldFills.c37 _ (by kernel_rfl)) (law18_HoldFills.s40_ok Z Q X1)) (puts_cons e0 (puts_cons e1 (puts_cons e2 (puts_cons e3 (puts_cons e9 (puts_cons e10 (fun p hp => puts_nil hp))))))) (law18_HoldFills.s44_eq Z Q X1 ρ of_0 epoch_1 floor_2 odd_3 h_9 i_10) hr h
theorem law18_HoldFills.o46 (Z : List PanicEntry → PT) (Q : Bool → PT) (X1 : Int → Int → Int → Int → Option Addr → Int → PT) : Ok Try.prog Try.f4.ntmps Z law18_HoldFills.c28 (law18_HoldFills.q41 Z Q X1) (law18_HoldFills.j45 Z Q X1) := by
  rw [law18_HoldFills.q36]; exact ok_block (law18_HoldFills.s44_ok Z Q X1)
theorem law18_HoldFills.o47 (Z : List PanicEntry → PT) (Q : Bool → PT) (X1 : Int → Int → Int → Int → Option Addr → Int → PT) : Ok Try.prog Try.f4.ntmps Z law18_HoldFills.c26 (law18_HoldFills.q33 Z Q X1) (law18_HoldFills.j45 Z Q X1) := by
  rw [law18_HoldFills.q30]; exact ok_seq (law18_HoldFills.o46 Z Q X1) (law18_HoldFills.s31_ok Z Q X1)
def law18_HoldFills.s48 (Z : List PanicEntry → PT) (Q : Bool → PT) (X1 : Int → Int → Int → Int → Option Addr → Int → PT) (of_0 : Int) (epoch_1 : Int) (floor_2 : Int) (odd_3 : Int) (h_9 : Option Addr) (i_10 : Int) : PT :=
  (pif (decide (i_10 < of_0)) (law18_HoldFills.s44 Z Q X1 of_0 epoch_1 floor_2 odd_3 h_9 i_10) (law18_HoldFills.s12 Z Q of_0 epoch_1 h_9))
theorem law18_HoldFills.s48_eq (Z : List PanicEntry → PT) (Q : Bool → PT) (X1 : Int → Int → Int → Int → Option Addr → Int → PT) (ρ : Fr) (of_0 : Int) (epoch_1 : Int) (floor_2 : Int) (odd_3 : Int) (h_9 : Option Addr) (i_10 : Int) : (comp Try.prog Z law18_HoldFills.c25 (thenK (law18_HoldFills.j45 Z Q X1) (law18_HoldFills.q33 Z Q X1))) (puts ρ [(0, (Value.int .i64 of_0)), (1, (Value.int .i64 epoch_1)), (2, (Value.int .i64 floor_2)), (3, (Value.int .i64 odd_3)), (9, (Value.pointer h_9)), (10, (Value.int .i64 i_10))]) = law18_HoldFills.s48 Z Q X1 of_0 epoch_1 floor_2 odd_3 h_9 i_10 := by kernel_rfl
def law18_HoldFills.j49 (Z : List PanicEntry → PT) (Q : Bool → PT) (X1 : Int → Int → Int → Int → Option Addr → Int → PT) : Fr → PT := (fun ρ => atI .i64 (ρ 0) fun of_0 => atI .i64 (ρ 1) fun epoch_1 => atI .i64 (ρ 2) fun floor_2 => atI .i64 (ρ 3) fun odd_3 => atP (ρ 9) fun h_9 => atI .i64 (ρ 10) fun i_10 => (law18_HoldFills.s48 Z Q X1 of_0 epoch_1 floor_2 odd_3 h_9 i_10))
theorem law18_HoldFills.s48_ok (Z : List PanicEntry → PT) (Q : Bool → PT) (X1 : Int → Int → Int → Int → Option Addr → Int → PT) : Ok Try.prog Try.f4.ntmps Z law18_HoldFills.c20 (law18_HoldFills.q33 Z Q X1) (law18_HoldFills.j49 Z Q X1) := by
  rw [law18_HoldFills.q27]
  intro ρ w a hr h
  obtain ⟨of_0, e0, h⟩ := atI_e h
  obtain ⟨epoch_1, e1, h⟩ := atI_e h
  obtain ⟨floor_2, e2, h⟩ := atI_e h
  obtain ⟨odd_3, e3, h⟩ := atI_e h
  obtain ⟨h_9, e9, h⟩ := atP_e h
  obtain ⟨i_10, e10, h⟩ := atI_e h
  exact ok_at [(0, (Value.int .i64 of_0)), (1, (Value.int .i64 epoch_1)), (2, (Value.int .i64 floor_2)), (3, (Value.int .i64 odd_3)), (9, (Value.pointer h_9)), (10, (Value.int .i64 i_10))] (ok_seq (okC law18_HoldFills.c25 _ (by kernel_rfl)) (law18_HoldFills.o47 Z Q X1)) (puts_cons e0 (puts_cons e1 (puts_cons e2 (puts_cons e3 (puts_cons e9 (puts_cons e10 (fun p hp => puts_nil hp))))))) (law18_HoldFills.s48_eq Z Q X1 ρ of_0 epoch_1 floor_2 odd_3 h_9 i_10) hr h
def law18_HoldFills.l22 (Z : List PanicEntry → PT) (Q : Bool → PT) : Nat → Int → Int → Int → Int → Option Addr → Int → PT
  | 0, _, _, _, _, _, _ => bad
  | k + 1, of_0, epoch_1, floor_2, odd_3, h_9, i_10 => (law18_HoldFills.s48 Z Q (law18_HoldFills.l22 Z Q k) of_0 epoch_1 floor_2 odd_3 h_9 i_10)
def law18_HoldFills.j50 (Z : List PanicEntry → PT) (Q : Bool → PT) (k : Nat) : Fr → PT := (fun ρ => atI .i64 (ρ 0) fun of_0 => atI .i64 (ρ 1) fun epoch_1 => atI .i64 (ρ 2) fun floor_2 => atI .i64 (ρ 3) fun odd_3 => atP (ρ 9) fun h_9 => atI .i64 (ρ 10) fun i_10 => (law18_HoldFills.l22 Z Q k of_0 epoch_1 floor_2 odd_3 h_9 i_10))
def law18_HoldFills.j51 (Z : List PanicEntry → PT) (Q : Bool → PT) : Fr → PT := (fun ρ => atI .i64 (ρ 0) fun of_0 => atI .i64 (ρ 1) fun epoch_1 => atI .i64 (ρ 2) fun floor_2 => atI .i64 (ρ 3) fun odd_3 => atP (ρ 9) fun h_9 => atI .i64 (ρ 10) fun i_10 => (exK fun k => law18_HoldFills.l22 Z Q k of_0 epoch_1 floor_2 odd_3 h_9 i_10))
theorem law18_HoldFills.o52 (Z : List PanicEntry → PT) (Q : Bool → PT) : Ok Try.prog Try.f4.ntmps Z law18_HoldFills.c18 (law18_HoldFills.q24 Z Q) (law18_HoldFills.j51 Z Q) := by
  rw [law18_HoldFills.q21]
  refine Ok.imp (ok_loop (J := law18_HoldFills.j50 Z Q) ?_ ?_) ?_
  · intro ρ w h
    obtain ⟨of_0, e0, h⟩ := atI_e h
    obtain ⟨epoch_1, e1, h⟩ := atI_e h
    obtain ⟨floor_2, e2, h⟩ := atI_e h
    obtain ⟨odd_3, e3, h⟩ := atI_e h
    obtain ⟨h_9, e9, h⟩ := atP_e h
    obtain ⟨i_10, e10, h⟩ := atI_e h
    exact h
  · intro k
    refine Ok.imp (law18_HoldFills.s48_ok Z Q (law18_HoldFills.l22 Z Q k)) fun ρ w h => ?_
    obtain ⟨of_0, e0, h⟩ := atI_e h
    obtain ⟨epoch_1, e1, h⟩ := atI_e h
    obtain ⟨floor_2, e2, h⟩ := atI_e h
    obtain ⟨odd_3, e3, h⟩ := atI_e h
    obtain ⟨h_9, e9, h⟩ := atP_e h
    obtain ⟨i_10, e10, h⟩ := atI_e h
    show (law18_HoldFills.j49 Z Q (law18_HoldFills.l22 Z Q k)) ρ w
    simp only [law18_HoldFills.j49]
    rw [e0]
    rw [e1]
    rw [e2]
    rw [e3]
    rw [e9]
    rw [e10]
    exact h
  · intro ρ w h
    obtain ⟨of_0, e0, h⟩ := atI_e h
    obtain ⟨epoch_1, e1, h⟩ := atI_e h
    obtain ⟨floor_2, e2, h⟩ := atI_e h
    obtain ⟨odd_3, e3, h⟩ := atI_e h
    obtain ⟨h_9, e9, h⟩ := atP_e h
    obtain ⟨i_10, e10, h⟩ := atI_e h
    obtain ⟨k, h⟩ := h
    refine ⟨k, ?_⟩
    show (atI .i64 (ρ 0) fun of_0 => atI .i64 (ρ 1) fun epoch_1 => atI .i64 (ρ 2) fun floor_2 => atI .i64 (ρ 3) fun odd_3 => atP (ρ 9) fun h_9 => atI .i64 (ρ 10) fun i_10 => (law18_HoldFills.l22 Z Q k of_0 epoch_1 floor_2 odd_3 h_9 i_10)) w
    rw [e0]
    rw [e1]
    rw [e2]
    rw [e3]
    rw [e9]
    rw [e10]
    exact h
theorem law18_HoldFills.o53 (Z : List PanicEntry → PT) (Q : Bool → PT) : Ok Try.prog Try.f4.ntmps Z law18_HoldFills.c16 (law18_HoldFills.q23 Z Q) (law18_HoldFills.j51 Z Q) := by
  rw [law18_HoldFills.q19]; exact ok_block (law18_HoldFills.o52 Z Q)
def law18_HoldFills.s54 (Z : List PanicEntry → PT) (Q : Bool → PT) (of_0 : Int) (epoch_1 : Int) (floor_2 : Int) (odd_3 : Int) (h_9 : Option Addr) : PT :=
  (exK fun k => law18_HoldFills.l22 Z Q k of_0 epoch_1 floor_2 odd_3 h_9 0)
theorem law18_HoldFills.s54_eq (Z : List PanicEntry → PT) (Q : Bool → PT) (ρ : Fr) (of_0 : Int) (epoch_1 : Int) (floor_2 : Int) (odd_3 : Int) (h_9 : Option Addr) : (comp Try.prog Z law18_HoldFills.c15 (thenK (law18_HoldFills.j51 Z Q) (law18_HoldFills.q23 Z Q))) (puts ρ [(0, (Value.int .i64 of_0)), (1, (Value.int .i64 epoch_1)), (2, (Value.int .i64 floor_2)), (3, (Value.int .i64 odd_3)), (9, (Value.pointer h_9))]) = law18_HoldFills.s54 Z Q of_0 epoch_1 floor_2 odd_3 h_9 := by kernel_rfl
def law18_HoldFills.j55 (Z : List PanicEntry → PT) (Q : Bool → PT) : Fr → PT := (fun ρ => atI .i64 (ρ 0) fun of_0 => atI .i64 (ρ 1) fun epoch_1 => atI .i64 (ρ 2) fun floor_2 => atI .i64 (ρ 3) fun odd_3 => atP (ρ 9) fun h_9 => (law18_HoldFills.s54 Z Q of_0 epoch_1 floor_2 odd_3 h_9))
theorem law18_HoldFills.s54_ok (Z : List PanicEntry → PT) (Q : Bool → PT) : Ok Try.prog Try.f4.ntmps Z law18_HoldFills.c9 (law18_HoldFills.q23 Z Q) (law18_HoldFills.j55 Z Q) := by
  rw [law18_HoldFills.q17]
  intro ρ w a hr h
  obtain ⟨of_0, e0, h⟩ := atI_e h
  obtain ⟨epoch_1, e1, h⟩ := atI_e h
  obtain ⟨floor_2, e2, h⟩ := atI_e h
  obtain ⟨odd_3, e3, h⟩ := atI_e h
  obtain ⟨h_9, e9, h⟩ := atP_e h
  exact ok_at [(0, (Value.int .i64 of_0)), (1, (Value.int .i64 epoch_1)), (2, (Value.int .i64 floor_2)), (3, (Value.int .i64 odd_3)), (9, (Value.pointer h_9))] (ok_seq (okC law18_HoldFills.c15 _ (by kernel_rfl)) (law18_HoldFills.o53 Z Q)) (puts_cons e0 (puts_cons e1 (puts_cons e2 (puts_cons e3 (puts_cons e9 (fun p hp => puts_nil hp)))))) (law18_HoldFills.s54_eq Z Q ρ of_0 epoch_1 floor_2 odd_3 h_9) hr h
theorem law18_HoldFills.o56 (Z : List PanicEntry → PT) (Q : Bool → PT) : Ok Try.prog Try.f4.ntmps Z law18_HoldFills.c7 (law18_HoldFills.q13 Z Q) (law18_HoldFills.j55 Z Q) := by
  rw [law18_HoldFills.q11]; exact ok_seq (law18_HoldFills.s54_ok Z Q) (law18_HoldFills.s12_ok Z Q)
def law18_HoldFills.s57 (Z : List PanicEntry → PT) (Q : Bool → PT) (of_0 : Int) (epoch_1 : Int) (floor_2 : Int) (odd_3 : Int) : PT :=
  (cal Try.prog Z 9 [] (isB fun v67 => (pif (!v67) (Q false) (cal Try.prog Z 10 [(Value.int .i64 1)] (isP fun v68 => (law18_HoldFills.s54 Z Q (IntKind.wrap .i64 ((1 : Int) + (IntKind.wrap .i64 (BitVec.ofInt (IntKind.bits .i64) of_0 &&& BitVec.ofInt (IntKind.bits .i64) 63).toNat))) (IntKind.wrap .i64 ((2 : Int) + (IntKind.wrap .i64 (BitVec.ofInt (IntKind.bits .i64) epoch_1 &&& BitVec.ofInt (IntKind.bits .i64) 1023).toNat))) (IntKind.wrap .i64 (BitVec.ofInt (IntKind.bits .i64) floor_2 &&& BitVec.ofInt (IntKind.bits .i64) 1).toNat) odd_3 v68))))))
theorem law18_HoldFills.s57_eq (Z : List PanicEntry → PT) (Q : Bool → PT) (ρ : Fr) (of_0 : Int) (epoch_1 : Int) (floor_2 : Int) (odd_3 : Int) : (comp Try.prog Z law18_HoldFills.c1 (thenK (comp Try.prog Z law18_HoldFills.c2 (thenK (comp Try.prog Z law18_HoldFills.c3 (thenK (comp Try.prog Z law18_HoldFills.c4 (thenK (comp Try.prog Z law18_HoldFills.c5 (thenK (comp Try.prog Z law18_HoldFills.c6 (thenK (law18_HoldFills.j55 Z Q) (law18_HoldFills.q13 Z Q))) (law18_HoldFills.q13 Z Q))) (law18_HoldFills.q13 Z Q))) (law18_HoldFills.q13 Z Q))) (law18_HoldFills.q13 Z Q))) (law18_HoldFills.q13 Z Q))) (puts ρ [(0, (Value.int .i64 of_0)), (1, (Value.int .i64 epoch_1)), (2, (Value.int .i64 floor_2)), (3, (Value.int .i64 odd_3))]) = law18_HoldFills.s57 Z Q of_0 epoch_1 floor_2 odd_3 := by kernel_rfl
def law18_HoldFills.j58 (Z : List PanicEntry → PT) (Q : Bool → PT) : Fr → PT := (fun ρ => atI .i64 (ρ 0) fun of_0 => atI .i64 (ρ 1) fun epoch_1 => atI .i64 (ρ 2) fun floor_2 => atI .i64 (ρ 3) fun odd_3 => (law18_HoldFills.s57 Z Q of_0 epoch_1 floor_2 odd_3))
theorem law18_HoldFills.s57_ok (Z : List PanicEntry → PT) (Q : Bool → PT) : Ok Try.prog Try.f4.ntmps Z law18_HoldFills.body (law18_HoldFills.q13 Z Q) (law18_HoldFills.j58 Z Q) := by
  rw [law18_HoldFills.q8]
  intro ρ w a hr h
  obtain ⟨of_0, e0, h⟩ := atI_e h
  obtain ⟨epoch_1, e1, h⟩ := atI_e h
  obtain ⟨floor_2, e2, h⟩ := atI_e h
  obtain ⟨odd_3, e3, h⟩ := atI_e h
  exact ok_at [(0, (Value.int .i64 of_0)), (1, (Value.int .i64 epoch_1)), (2, (Value.int .i64 floor_2)), (3, (Value.int .i64 odd_3))] (ok_seq (okC law18_HoldFills.c1 _ (by kernel_rfl)) (ok_seq (okC law18_HoldFills.c2 _ (by kernel_rfl)) (ok_seq (okC law18_HoldFills.c3 _ (by kernel_rfl)) (ok_seq (okC law18_HoldFills.c4 _ (by kernel_rfl)) (ok_seq (okC law18_HoldFills.c5 _ (by kernel_rfl)) (ok_seq (okC law18_HoldFills.c6 _ (by kernel_rfl)) (law18_HoldFills.o56 Z Q))))))) (puts_cons e0 (puts_cons e1 (puts_cons e2 (puts_cons e3 (fun p hp => puts_nil hp))))) (law18_HoldFills.s57_eq Z Q ρ of_0 epoch_1 floor_2 odd_3) hr h
def law18_HoldFills.F (Z : List PanicEntry → PT) (Q : Bool → PT) (of_0 : Int) (epoch_1 : Int) (floor_2 : Int) (odd_3 : Int) : PT :=
  (law18_HoldFills.s57 Z Q of_0 epoch_1 floor_2 odd_3)
theorem law18_HoldFills.vc (Z : List PanicEntry → PT) (Q : Bool → PT) (of_0 : Int) (epoch_1 : Int) (floor_2 : Int) (odd_3 : Int) (w : World) (h : law18_HoldFills.F Z Q of_0 epoch_1 floor_2 odd_3 w) : Calls Try.prog 4 ⟨[(Value.int .i64 of_0), (Value.int .i64 epoch_1), (Value.int .i64 floor_2), (Value.int .i64 odd_3)]⟩ w fun e w' => (∃ (r0 : Bool), e = .returned (.bool r0) ∧ Q r0 w') ∨ ∃ c, e = .panicked c ∧ Z c w' := by
  refine (calls_of_ok (args := [(Value.int .i64 of_0), (Value.int .i64 epoch_1), (Value.int .i64 floor_2), (Value.int .i64 odd_3)]) (w := w) (rs := [.tmp 8]) (fn := Try.f4) (c := law18_HoldFills.body) Try.func4 (by kernel_rfl) (by kernel_rfl) (Nat.le_of_ble_eq_true (by kernel_rfl)) (law18_HoldFills.s57_ok Z Q) (h)).mono fun e w' hR => ?_
  cases e with
  | returned v =>
    obtain ⟨va, rfl, hR⟩ := atB_e hR
    exact .inl ⟨va, rfl, hR⟩
  | panicked c => exact .inr ⟨c, rfl, hR⟩
  | outgrown => exact hR.elim
theorem law18_HoldFills.vc0 (Q : Bool → PT) (of_0 : Int) (epoch_1 : Int) (floor_2 : Int) (odd_3 : Int) (w : World) (h : law18_HoldFills.F Z0 Q of_0 epoch_1 floor_2 odd_3 w) : Calls Try.prog 4 ⟨[(Value.int .i64 of_0), (Value.int .i64 epoch_1), (Value.int .i64 floor_2), (Value.int .i64 odd_3)]⟩ w fun e w' => (∃ (r0 : Bool), e = .returned (.bool r0) ∧ Q r0 w') :=
  (law18_HoldFills.vc Z0 Q of_0 epoch_1 floor_2 odd_3 w h).mono fun _ _ hR => hR.elim id fun ⟨_, _, hz⟩ => hz.elim
theorem law18_HoldFills.cal {Z : List PanicEntry → PT} {Q : Bool → PT} {of_0 : Int} {epoch_1 : Int} {floor_2 : Int} {odd_3 : Int} {w : World} (h : law18_HoldFills.F Z Q of_0 epoch_1 floor_2 odd_3 w) : Go.Proofs.Ythheldpjcndelaa.cal Try.prog Z 4 [(Value.int .i64 of_0), (Value.int .i64 epoch_1), (Value.int .i64 floor_2), (Value.int .i64 odd_3)] (isB fun r0 => Q r0) w := by
  refine (law18_HoldFills.vc Z Q of_0 epoch_1 floor_2 odd_3 w h).mono fun e w' hR => ?_
  rcases hR with ⟨r0, rfl, h⟩ | ⟨c, rfl, h⟩
  · show (isB fun r0 => Q r0) (.bool r0) w'
    exact ⟨_, rfl, h⟩
  · exact h

/-! ### milepost/milepostlaw18.HoldTwo: function 5 -/
noncomputable def law18_HoldTwo.body : Code := bodyC Try.f5
noncomputable def law18_HoldTwo.c1 : Code := sq1 law18_HoldTwo.body
noncomputable def law18_HoldTwo.c2 : Code := sq1 (sq2 law18_HoldTwo.body)
noncomputable def law18_HoldTwo.c3 : Code := sq1 (sq2 (sq2 law18_HoldTwo.body))
noncomputable def law18_HoldTwo.c4 : Code := sq1 (sq2 (sq2 (sq2 law18_HoldTwo.body)))
noncomputable def law18_HoldTwo.c5 : Code := sq1 (sq2 (sq2 (sq2 (sq2 law18_HoldTwo.body))))
noncomputable def law18_HoldTwo.c6 : Code := sq2 (sq2 (sq2 (sq2 (sq2 law18_HoldTwo.body))))
theorem law18_HoldTwo.q7 : law18_HoldTwo.body = .seq law18_HoldTwo.c1 (.seq law18_HoldTwo.c2 (.seq law18_HoldTwo.c3 (.seq law18_HoldTwo.c4 (.seq law18_HoldTwo.c5 law18_HoldTwo.c6)))) := by kernel_rfl
noncomputable def law18_HoldTwo.c8 : Code := sq1 law18_HoldTwo.c6
noncomputable def law18_HoldTwo.c9 : Code := sq2 law18_HoldTwo.c6
theorem law18_HoldTwo.q10 : law18_HoldTwo.c6 = .seq law18_HoldTwo.c8 law18_HoldTwo.c9 := by kernel_rfl
def law18_HoldTwo.s11 (Z : List PanicEntry → PT) (Q : Bool → PT)  : PT :=
  (Q true)
def law18_HoldTwo.q12 (Z : List PanicEntry → PT) (Q : Bool → PT) : QF := bodyQ [.tmp 4] (fun v => atB v fun va => Q va)
theorem law18_HoldTwo.s11_eq (Z : List PanicEntry → PT) (Q : Bool → PT) (ρ : Fr)  : comp Try.prog Z law18_HoldTwo.c9 (law18_HoldTwo.q12 Z Q) (puts ρ []) = law18_HoldTwo.s11 Z Q  := by kernel_rfl
def law18_HoldTwo.j13 (Z : List PanicEntry → PT) (Q : Bool → PT) : Fr → PT := (fun ρ => (law18_HoldTwo.s11 Z Q ))
theorem law18_HoldTwo.s11_ok (Z : List PanicEntry → PT) (Q : Bool → PT) : Ok Try.prog Try.f5.ntmps Z law18_HoldTwo.c9 (law18_HoldTwo.q12 Z Q) (law18_HoldTwo.j13 Z Q) := by
  intro ρ w a hr h
  exact ok_at [] (okC law18_HoldTwo.c9 (law18_HoldTwo.q12 Z Q) (by kernel_rfl)) (fun p hp => puts_nil hp) (law18_HoldTwo.s11_eq Z Q ρ ) hr h
noncomputable def law18_HoldTwo.c14 : Code := sq1 law18_HoldTwo.c8
noncomputable def law18_HoldTwo.c15 : Code := sq2 law18_HoldTwo.c8
theorem law18_HoldTwo.q16 : law18_HoldTwo.c8 = .seq law18_HoldTwo.c14 law18_HoldTwo.c15 := by kernel_rfl
noncomputable def law18_HoldTwo.c17 : Code := blk law18_HoldTwo.c15
theorem law18_HoldTwo.q18 : law18_HoldTwo.c15 = .block 0 law18_HoldTwo.c17 := by kernel_rfl
noncomputable def law18_HoldTwo.c19 : Code := lop law18_HoldTwo.c17
theorem law18_HoldTwo.q20 : law18_HoldTwo.c17 = .loop law18_HoldTwo.c19 := by kernel_rfl
def law18_HoldTwo.q22 (Z : List PanicEntry → PT) (Q : Bool → PT) : QF := thenK (law18_HoldTwo.j13 Z Q) (law18_HoldTwo.q12 Z Q)
def law18_HoldTwo.q23 (Z : List PanicEntry → PT) (Q : Bool → PT) : QF := inBl 0 (law18_HoldTwo.q22 Z Q)
noncomputable def law18_HoldTwo.c24 : Code := sq1 law18_HoldTwo.c19
noncomputable def law18_HoldTwo.c25 : Code := sq2 law18_HoldTwo.c19
theorem law18_HoldTwo.q26 : law18_HoldTwo.c19 = .seq law18_HoldTwo.c24 law18_HoldTwo.c25 := by kernel_rfl
noncomputable def law18_HoldTwo.c27 : Code := sq1 law18_HoldTwo.c25
noncomputable def law18_HoldTwo.c28 : Code := sq2 law18_HoldTwo.c25
theorem law18_HoldTwo.q29 : law18_HoldTwo.c25 = .seq law18_HoldTwo.c27 law18_HoldTwo.c28 := by kernel_rfl
def law18_HoldTwo.s30 (Z : List PanicEntry → PT) (Q : Bool → PT) (X1 : Option Addr → Nat → Nat → Int → Option Addr → Int → Int → Int → PT) (l_0 : Option Addr) (l_0n l_0c : Nat) (epoch_1 : Int) (h_5 : Option Addr) (floor_6 : Int) (top_7 : Int) (i_8 : Int) : PT :=
  (X1 l_0 l_0n l_0c epoch_1 h_5 floor_6 top_7 (IntKind.wrap .i64 (i_8 + 1)))
def law18_HoldTwo.j31 (Z : List PanicEntry → PT) (Q : Bool → PT) (X1 : Option Addr → Nat → Nat → Int → Option Addr → Int → Int → Int → PT) : Fr → PT := (fun ρ => atL (ρ 0) fun l_0 l_0n l_0c => atI .i64 (ρ 1) fun epoch_1 => atP (ρ 5) fun h_5 => atI .i64 (ρ 6) fun floor_6 => atI .i64 (ρ 7) fun top_7 => atI .i64 (ρ 8) fun i_8 => (X1 l_0 l_0n l_0c epoch_1 h_5 floor_6 top_7 i_8))
def law18_HoldTwo.q32 (Z : List PanicEntry → PT) (Q : Bool → PT) (X1 : Option Addr → Nat → Nat → Int → Option Addr → Int → Int → Int → PT) : QF := thenK (law18_HoldTwo.j31 Z Q X1) (law18_HoldTwo.q23 Z Q)
theorem law18_HoldTwo.s30_eq (Z : List PanicEntry → PT) (Q : Bool → PT) (X1 : Option Addr → Nat → Nat → Int → Option Addr → Int → Int → Int → PT) (ρ : Fr) (l_0 : Option Addr) (l_0n l_0c : Nat) (epoch_1 : Int) (h_5 : Option Addr) (floor_6 : Int) (top_7 : Int) (i_8 : Int) : comp Try.prog Z law18_HoldTwo.c28 (law18_HoldTwo.q32 Z Q X1) (puts ρ [(0, (Value.slice l_0 l_0n l_0c)), (1, (Value.int .i64 epoch_1)), (5, (Value.pointer h_5)), (6, (Value.int .i64 floor_6)), (7, (Value.int .i64 top_7)), (8, (Value.int .i64 i_8))]) = law18_HoldTwo.s30 Z Q X1 l_0 l_0n l_0c epoch_1 h_5 floor_6 top_7 i_8 := by kernel_rfl
def law18_HoldTwo.j33 (Z : List PanicEntry → PT) (Q : Bool → PT) (X1 : Option Addr → Nat → Nat → Int → Option Addr → Int → Int → Int → PT) : Fr → PT := (fun ρ => atL (ρ 0) fun l_0 l_0n l_0c => atI .i64 (ρ 1) fun epoch_1 => atP (ρ 5) fun h_5 => atI .i64 (ρ 6) fun floor_6 => atI .i64 (ρ 7) fun top_7 => atI .i64 (ρ 8) fun i_8 => (law18_HoldTwo.s30 Z Q X1 l_0 l_0n l_0c epoch_1 h_5 floor_6 top_7 i_8))
theorem law18_HoldTwo.s30_ok (Z : List PanicEntry → PT) (Q : Bool → PT) (X1 : Option Addr → Nat → Nat → Int → Option Addr → Int → Int → Int → PT) : Ok Try.prog Try.f5.ntmps Z law18_HoldTwo.c28 (law18_HoldTwo.q32 Z Q X1) (law18_HoldTwo.j33 Z Q X1) := by
  intro ρ w a hr h
  obtain ⟨l_0, l_0n, l_0c, e0, h⟩ := atL_e h
  obtain ⟨epoch_1, e1, h⟩ := atI_e h
  obtain ⟨h_5, e5, h⟩ := atP_e h
  obtain ⟨floor_6, e6, h⟩ := atI_e h
  obtain ⟨top_7, e7, h⟩ := atI_e h
  obtain ⟨i_8, e8, h⟩ := atI_e h
  exact ok_at [(0, (Value.slice l_0 l_0n l_0c)), (1, (Value.int .i64 epoch_1)), (5, (Value.pointer h_5)), (6, (Value.int .i64 floor_6)), (7, (Value.int .i64 top_7)), (8, (Value.int .i64 i_8))] (okC law18_HoldTwo.c28 (law18_HoldTwo.q32 Z Q X1) (by kernel_rfl)) (puts_cons e0 (puts_cons e1 (puts_cons e5 (puts_cons e6 (puts_cons e7 (puts_cons e8 (fun p hp => puts_nil hp))))))) (law18_HoldTwo.s30_eq Z Q X1 ρ l_0 l_0n l_0c epoch_1 h_5 floor_6 top_7 i_8) hr h
noncomputable def law18_HoldTwo.c34 : Code := blk law18_HoldTwo.c27
theorem law18_HoldTwo.q35 : law18_HoldTwo.c27 = .block 1 law18_HoldTwo.c34 := by kernel_rfl
noncomputable def law18_HoldTwo.c36 : Code := sq1 law18_HoldTwo.c34
noncomputable def law18_HoldTwo.c37 : Code := sq1 (sq2 law18_HoldTwo.c34)
noncomputable def law18_HoldTwo.c38 : Code := sq1 (sq2 (sq2 law18_HoldTwo.c34))
noncomputable def law18_HoldTwo.c39 : Code := sq1 (sq2 (sq2 (sq2 law18_HoldTwo.c34)))
noncomputable def law18_HoldTwo.c40 : Code := sq1 (sq2 (sq2 (sq2 (sq2 law18_HoldTwo.c34))))
noncomputable def law18_HoldTwo.c41 : Code := sq2 (sq2 (sq2 (sq2 (sq2 law18_HoldTwo.c34))))
theorem law18_HoldTwo.q42 : law18_HoldTwo.c34 = .seq law18_HoldTwo.c36 (.seq law18_HoldTwo.c37 (.seq law18_HoldTwo.c38 (.seq law18_HoldTwo.c39 (.seq law18_HoldTwo.c40 law18_HoldTwo.c41)))) := by kernel_rfl
noncomputable def law18_HoldTwo.c43 : Code := blk law18_HoldTwo.c41
theorem law18_HoldTwo.q44 : law18_HoldTwo.c41 = .block 2 law18_HoldTwo.c43 := by kernel_rfl
noncomputable def law18_HoldTwo.c45 : Code := lop law18_HoldTwo.c43
theorem law18_HoldTwo.q46 : law18_HoldTwo.c43 = .loop law18_HoldTwo.c45 := by kernel_rfl
def law18_HoldTwo.q48 (Z : List PanicEntry → PT) (Q : Bool → PT) (X1 : Option Addr → Nat → Nat → Int → Option Addr → Int → Int → Int → PT) : QF := thenK (law18_HoldTwo.j33 Z Q X1) (law18_HoldTwo.q32 Z Q X1)
def law18_HoldTwo.q49 (Z : List PanicEntry → PT) (Q : Bool → PT) (X1 : Option Addr → Nat → Nat → Int → Option Addr → Int → Int → Int → PT) : QF := inBl 1 (law18_HoldTwo.q48 Z Q X1)
def law18_HoldTwo.q50 (Z : List PanicEntry → PT) (Q : Bool → PT) (X1 : Option Addr → Nat → Nat → Int → Option Addr → Int → Int → Int → PT) : QF := inBl 2 (law18_HoldTwo.q49 Z Q X1)
noncomputable def law18_HoldTwo.c51 : Code := sq1 law18_HoldTwo.c45
noncomputable def law18_HoldTwo.c52 : Code := sq2 law18_HoldTwo.c45
theorem law18_HoldTwo.q53 : law18_HoldTwo.c45 = .seq law18_HoldTwo.c51 law18_HoldTwo.c52 := by kernel_rfl
noncomputable def law18_HoldTwo.c54 : Code := sq1 law18_HoldTwo.c52
noncomputable def law18_HoldTwo.c55 : Code := sq2 law18_HoldTwo.c52
theorem law18_HoldTwo.q56 : law18_HoldTwo.c52 = .seq law18_HoldTwo.c54 law18_HoldTwo.c55 := by kernel_rfl
def law18_HoldTwo.s57 (Z : List PanicEntry → PT) (Q : Bool → PT) (X1 : Option Addr → Nat → Nat → Int → Option Addr → Int → Int → Int → PT) (X2 : Option Addr → Nat → Nat → Int → Option Addr → Int → Int → Int → Int → PT) (l_0 : Option Addr) (l_0n l_0c : Nat) (epoch_1 : Int) (h_5 : Option Addr) (floor_6 : Int) (top_7 : Int) (i_8 : Int) (k_9 : Int) : PT :=
  (X2 l_0 l_0n l_0c epoch_1 h_5 floor_6 top_7 i_8 (IntKind.wrap .i64 (k_9 + 1)))
def law18_HoldTwo.j58 (Z : List PanicEntry → PT) (Q : Bool → PT) (X1 : Option Addr → Nat → Nat → Int → Option Addr → Int → Int → Int → PT) (X2 : Option Addr → Nat → Nat → Int → Option Addr → Int → Int → Int → Int → PT) : Fr → PT := (fun ρ => atL (ρ 0) fun l_0 l_0n l_0c => atI .i64 (ρ 1) fun epoch_1 => atP (ρ 5) fun h_5 => atI .i64 (ρ 6) fun floor_6 => atI .i64 (ρ 7) fun top_7 => atI .i64 (ρ 8) fun i_8 => atI .i64 (ρ 9) fun k_9 => (X2 l_0 l_0n l_0c epoch_1 h_5 floor_6 top_7 i_8 k_9))
def law18_HoldTwo.q59 (Z : List PanicEntry → PT) (Q : Bool → PT) (X1 : Option Addr → Nat → Nat → Int → Option Addr → Int → Int → Int → PT) (X2 : Option Addr → Nat → Nat → Int → Option Addr → Int → Int → Int → Int → PT) : QF := thenK (law18_HoldTwo.j58 Z Q X1 X2) (law18_HoldTwo.q50 Z Q X1)
theorem law18_HoldTwo.s57_eq (Z : List PanicEntry → PT) (Q : Bool → PT) (X1 : Option Addr → Nat → Nat → Int → Option Addr → Int → Int → Int → PT) (X2 : Option Addr → Nat → Nat → Int → Option Addr → Int → Int → Int → Int → PT) (ρ : Fr) (l_0 : Option Addr) (l_0n l_0c : Nat) (epoch_1 : Int) (h_5 : Option Addr) (floor_6 : Int) (top_7 : Int) (i_8 : Int) (k_9 : Int) : comp Try.prog Z law18_HoldTwo.c55 (law18_HoldTwo.q59 Z Q X1 X2) (puts ρ [(0, (Value.slice l_0 l_0n l_0c)), (1, (Value.int .i64 epoch_1)), (5, (Value.pointer h_5)), (6, (Value.int .i64 floor_6)), (7, (Value.int .i64 top_7)), (8, (Value.int .i64 i_8)), (9, (Value.int .i64 k_9))]) = law18_HoldTwo.s57 Z Q X1 X2 l_0 l_0n l_0c epoch_1 h_5 floor_6 top_7 i_8 k_9 := by kernel_rfl
def law18_HoldTwo.j60 (Z : List PanicEntry → PT) (Q : Bool → PT) (X1 : Option Addr → Nat → Nat → Int → Option Addr → Int → Int → Int → PT) (X2 : Option Addr → Nat → Nat → Int → Option Addr → Int → Int → Int → Int → PT) : Fr → PT := (fun ρ => atL (ρ 0) fun l_0 l_0n l_0c => atI .i64 (ρ 1) fun epoch_1 => atP (ρ 5) fun h_5 => atI .i64 (ρ 6) fun floor_6 => atI .i64 (ρ 7) fun top_7 => atI .i64 (ρ 8) fun i_8 => atI .i64 (ρ 9) fun k_9 => (law18_HoldTwo.s57 Z Q X1 X2 l_0 l_0n l_0c epoch_1 h_5 floor_6 top_7 i_8 k_9))
theorem law18_HoldTwo.s57_ok (Z : List PanicEntry → PT) (Q : Bool → PT) (X1 : Option Addr → Nat → Nat → Int → Option Addr → Int → Int → Int → PT) (X2 : Option Addr → Nat → Nat → Int → Option Addr → Int → Int → Int → Int → PT) : Ok Try.prog Try.f5.ntmps Z law18_HoldTwo.c55 (law18_HoldTwo.q59 Z Q X1 X2) (law18_HoldTwo.j60 Z Q X1 X2) := by
  intro ρ w a hr h
  obtain ⟨l_0, l_0n, l_0c, e0, h⟩ := atL_e h
  obtain ⟨epoch_1, e1, h⟩ := atI_e h
  obtain ⟨h_5, e5, h⟩ := atP_e h
  obtain ⟨floor_6, e6, h⟩ := atI_e h
  obtain ⟨top_7, e7, h⟩ := atI_e h
  obtain ⟨i_8, e8, h⟩ := atI_e h
  obtain ⟨k_9, e9, h⟩ := atI_e h
  exact ok_at [(0, (Value.slice l_0 l_0n l_0c)), (1, (Value.int .i64 epoch_1)), (5, (Value.pointer h_5)), (6, (Value.int .i64 floor_6)), (7, (Value.int .i64 top_7)), (8, (Value.int .i64 i_8)), (9, (Value.int .i64 k_9))] (okC law18_HoldTwo.c55 (law18_HoldTwo.q59 Z Q X1 X2) (by kernel_rfl)) (puts_cons e0 (puts_cons e1 (puts_cons e5 (puts_cons e6 (puts_cons e7 (puts_cons e8 (puts_cons e9 (fun p hp => puts_nil hp)))))))) (law18_HoldTwo.s57_eq Z Q X1 X2 ρ l_0 l_0n l_0c epoch_1 h_5 floor_6 top_7 i_8 k_9) hr h
noncomputable def law18_HoldTwo.c61 : Code := blk law18_HoldTwo.c54
theorem law18_HoldTwo.q62 : law18_HoldTwo.c54 = .block 3 law18_HoldTwo.c61 := by kernel_rfl
noncomputable def law18_HoldTwo.c63 : Code := sq1 law18_HoldTwo.c61
noncomputable def law18_HoldTwo.c64 : Code := sq1 (sq2 law18_HoldTwo.c61)
noncomputable def law18_HoldTwo.c65 : Code := sq2 (sq2 law18_HoldTwo.c61)
theorem law18_HoldTwo.q66 : law18_HoldTwo.c61 = .seq law18_HoldTwo.c63 (.seq law18_HoldTwo.c64 law18_HoldTwo.c65) := by kernel_rfl
def law18_HoldTwo.s67 (Z : List PanicEntry → PT) (Q : Bool → PT) (X1 : Option Addr → Nat → Nat → Int → Option Addr → Int → Int → Int → PT) (X2 : Option Addr → Nat → Nat → Int → Option Addr → Int → Int → Int → Int → PT) (l_0 : Option Addr) (l_0n l_0c : Nat) (epoch_1 : Int) (h_5 : Option Addr) (floor_6 : Int) (top_7 : Int) (i_8 : Int) (k_9 : Int) (e_10 : Int) : PT :=
  (cal Try.prog Z 16 [(Value.pointer h_5), (Value.int .i64 e_10)] (isT2 fun t71 t72 => (isI .i64 fun v73 => ((isI .i64 fun v74 => (pif (decide (v73 > v74)) (Q false) (pif (decide (v73 < 0)) (Q false) (pif (decide (v73 > 0)) (pif (e_10 != floor_6) (pif (e_10 != top_7) (Q false) (law18_HoldTwo.s57 Z Q X1 X2 l_0 l_0n l_0c epoch_1 h_5 floor_6 top_7 i_8 k_9)) (law18_HoldTwo.s57 Z Q X1 X2 l_0 l_0n l_0c epoch_1 h_5 floor_6 top_7 i_8 k_9)) (law18_HoldTwo.s57 Z Q X1 X2 l_0 l_0n l_0c epoch_1 h_5 floor_6 top_7 i_8 k_9))))) t72)) t71))
def law18_HoldTwo.q68 (Z : List PanicEntry → PT) (Q : Bool → PT) (X1 : Option Addr → Nat → Nat → Int → Option Addr → Int → Int → Int → PT) (X2 : Option Addr → Nat → Nat → Int → Option Addr → Int → Int → Int → Int → PT) : QF := thenK (law18_HoldTwo.j60 Z Q X1 X2) (law18_HoldTwo.q59 Z Q X1 X2)
def law18_HoldTwo.q69 (Z : List PanicEntry → PT) (Q : Bool → PT) (X1 : Option Addr → Nat → Nat → Int → Option Addr → Int → Int → Int → PT) (X2 : Option Addr → Nat → Nat → Int → Option Addr → Int → Int → Int → Int → PT) : QF := inBl 3 (law18_HoldTwo.q68 Z Q X1 X2)
theorem law18_HoldTwo.s67_eq (Z : List PanicEntry → PT) (Q : Bool → PT) (X1 : Option Addr → Nat → Nat → Int → Option Addr → Int → Int → Int → PT) (X2 : Option Addr → Nat → Nat → Int → Option Addr → Int → Int → Int → Int → PT) (ρ : Fr) (l_0 : Option Addr) (l_0n l_0c : Nat) (epoch_1 : Int) (h_5 : Option Addr) (floor_6 : Int) (top_7 : Int) (i_8 : Int) (k_9 : Int) (e_10 : Int) : comp Try.prog Z law18_HoldTwo.c65 (law18_HoldTwo.q69 Z Q X1 X2) (puts ρ [(0, (Value.slice l_0 l_0n l_0c)), (1, (Value.int .i64 epoch_1)), (5, (Value.pointer h_5)), (6, (Value.int .i64 floor_6)), (7, (Value.int .i64 top_7)), (8, (Value.int .i64 i_8)), (9, (Value.int .i64 k_9)), (10, (Value.int .i64 e_10))]) = law18_HoldTwo.s67 Z Q X1 X2 l_0 l_0n l_0c epoch_1 h_5 floor_6 top_7 i_8 k_9 e_10 := by kernel_rfl
def law18_HoldTwo.j70 (Z : List PanicEntry → PT) (Q : Bool → PT) (X1 : Option Addr → Nat → Nat → Int → Option Addr → Int → Int → Int → PT) (X2 : Option Addr → Nat → Nat → Int → Option Addr → Int → Int → Int → Int → PT) : Fr → PT := (fun ρ => atL (ρ 0) fun l_0 l_0n l_0c => atI .i64 (ρ 1) fun epoch_1 => atP (ρ 5) fun h_5 => atI .i64 (ρ 6) fun floor_6 => atI .i64 (ρ 7) fun top_7 => atI .i64 (ρ 8) fun i_8 => atI .i64 (ρ 9) fun k_9 => atI .i64 (ρ 10) fun e_10 => (law18_HoldTwo.s67 Z Q X1 X2 l_0 l_0n l_0c epoch_1 h_5 floor_6 top_7 i_8 k_9 e_10))
theorem law18_HoldTwo.s67_ok (Z : List PanicEntry → PT) (Q : Bool → PT) (X1 : Option Addr → Nat → Nat → Int → Option Addr → Int → Int → Int → PT) (X2 : Option Addr → Nat → Nat → Int → Option Addr → Int → Int → Int → Int → PT) : Ok Try.prog Try.f5.ntmps Z law18_HoldTwo.c65 (law18_HoldTwo.q69 Z Q X1 X2) (law18_HoldTwo.j70 Z Q X1 X2) := by
  intro ρ w a hr h
  obtain ⟨l_0, l_0n, l_0c, e0, h⟩ := atL_e h
  obtain ⟨epoch_1, e1, h⟩ := atI_e h
  obtain ⟨h_5, e5, h⟩ := atP_e h
  obtain ⟨floor_6, e6, h⟩ := atI_e h
  obtain ⟨top_7, e7, h⟩ := atI_e h
  obtain ⟨i_8, e8, h⟩ := atI_e h
  obtain ⟨k_9, e9, h⟩ := atI_e h
  obtain ⟨e_10, e10, h⟩ := atI_e h
  exact ok_at [(0, (Value.slice l_0 l_0n l_0c)), (1, (Value.int .i64 epoch_1)), (5, (Value.pointer h_5)), (6, (Value.int .i64 floor_6)), (7, (Value.int .i64 top_7)), (8, (Value.int .i64 i_8)), (9, (Value.int .i64 k_9)), (10, (Value.int .i64 e_10))] (okC law18_HoldTwo.c65 (law18_HoldTwo.q69 Z Q X1 X2) (by kernel_rfl)) (puts_cons e0 (puts_cons e1 (puts_cons e5 (puts_cons e6 (puts_cons e7 (puts_cons e8 (puts_cons e9 (puts_cons e10 (fun p hp => puts_nil hp))))))))) (law18_HoldTwo.s67_eq Z Q X1 X2 ρ l_0 l_0n l_0c epoch_1 h_5 floor_6 top_7 i_8 k_9 e_10) hr h
def law18_HoldTwo.s71 (Z : List PanicEntry → PT) (Q : Bool → PT) (X1 : Option Addr → Nat → Nat → Int → Option Addr → Int → Int → Int → PT) (X2 : Option Addr → Nat → Nat → Int → Option Addr → Int → Int → Int → Int → PT) (l_0 : Option Addr) (l_0n l_0c : Nat) (epoch_1 : Int) (h_5 : Option Addr) (floor_6 : Int) (top_7 : Int) (i_8 : Int) (k_9 : Int) : PT :=
  (pif (decide (k_9 ≥ 0)) (ixS l_0 l_0n k_9 6 fun v75 => (ldI .i64 (v75.add 2) fun v76 => (law18_HoldTwo.s67 Z Q X1 X2 l_0 l_0n l_0c epoch_1 h_5 floor_6 top_7 i_8 k_9 v76))) (law18_HoldTwo.s67 Z Q X1 X2 l_0 l_0n l_0c epoch_1 h_5 floor_6 top_7 i_8 k_9 epoch_1))
theorem law18_HoldTwo.s71_eq (Z : List PanicEntry → PT) (Q : Bool → PT) (X1 : Option Addr → Nat → Nat → Int → Option Addr → Int → Int → Int → PT) (X2 : Option Addr → Nat → Nat → Int → Option Addr → Int → Int → Int → Int → PT) (ρ : Fr) (l_0 : Option Addr) (l_0n l_0c : Nat) (epoch_1 : Int) (h_5 : Option Addr) (floor_6 : Int) (top_7 : Int) (i_8 : Int) (k_9 : Int) : (comp Try.prog Z law18_HoldTwo.c63 (thenK (comp Try.prog Z law18_HoldTwo.c64 (thenK (law18_HoldTwo.j70 Z Q X1 X2) (law18_HoldTwo.q69 Z Q X1 X2))) (law18_HoldTwo.q69 Z Q X1 X2))) (puts ρ [(0, (Value.slice l_0 l_0n l_0c)), (1, (Value.int .i64 epoch_1)), (5, (Value.pointer h_5)), (6, (Value.int .i64 floor_6)), (7, (Value.int .i64 top_7)), (8, (Value.int .i64 i_8)), (9, (Value.int .i64 k_9))]) = law18_HoldTwo.s71 Z Q X1 X2 l_0 l_0n l_0c epoch_1 h_5 floor_6 top_7 i_8 k_9 := by kernel_rfl
def law18_HoldTwo.j72 (Z : List PanicEntry → PT) (Q : Bool → PT) (X1 : Option Addr → Nat → Nat → Int → Option Addr → Int → Int → Int → PT) (X2 : Option Addr → Nat → Nat → Int → Option Addr → Int → Int → Int → Int → PT) : Fr → PT := (fun ρ => atL (ρ 0) fun l_0 l_0n l_0c => atI .i64 (ρ 1) fun epoch_1 => atP (ρ 5) fun h_5 => atI .i64 (ρ 6) fun floor_6 => atI .i64 (ρ 7) fun top_7 => atI .i64 (ρ 8) fun i_8 => atI .i64 (ρ 9) fun k_9 => (law18_HoldTwo.s71 Z Q X1 X2 l_0 l_0n l_0c epoch_1 h_5 floor_6 top_7 i_8 k_9))
theorem law18_HoldTwo.s71_ok (Z : List PanicEntry → PT) (Q : Bool → PT) (X1 : Option Addr → Nat → Nat → Int → Option Addr → Int → Int → Int → PT) (X2 : Option Addr → Nat → Nat → Int → Option Addr → Int → Int → Int → Int → PT) : Ok Try.prog Try.f5.ntmps Z law18_HoldTwo.c61 (law18_HoldTwo.q69 Z Q X1 X2) (law18_HoldTwo.j72 Z Q X1 X2) := by
  rw [law18_HoldTwo.q66]
  intro ρ w a hr h
  obtain ⟨l_0, l_0n, l_0c, e0, h⟩ := atL_e h
  obtain ⟨epoch_1, e1, h⟩ := atI_e h
  obtain ⟨h_5, e5, h⟩ := atP_e h
  obtain ⟨floor_6, e6, h⟩ := atI_e h
  obtain ⟨top_7, e7, h⟩ := atI_e h
  obtain ⟨i_8, e8, h⟩ := atI_e h
  obtain ⟨k_9, e9, h⟩ := atI_e h
  exact ok_at [(0, (Value.slice l_0 l_0n l_0c)), (1, (Value.int .i64 epoch_1)), (5, (Value.pointer h_5)), (6, (Value.int .i64 floor_6)), (7, (Value.int .i64 top_7)), (8, (Value.int .i64 i_8)), (9, (Value.int .i64 k_9))] (ok_seq (okC law18_HoldTwo.c63 _ (by kernel_rfl)) (ok_seq (okC law18_HoldTwo.c64 _ (by kernel_rfl)) (law18_HoldTwo.s67_ok Z Q X1 X2))) (puts_cons e0 (puts_cons e1 (puts_cons e5 (puts_cons e6 (puts_cons e7 (puts_cons e8 (puts_cons e9 (fun p hp => puts_nil hp)))))))) (law18_HoldTwo.s71_eq Z Q X1 X2 ρ l_0 l_0n l_0c epoch_1 h_5 floor_6 top_7 i_8 k_9) hr h
theorem law18_HoldTwo.o73 (Z : List PanicEntry → PT) (Q : Bool → PT) (X1 : Option Addr → Nat → Nat → Int → Option Addr → Int → Int → Int → PT) (X2 : Option Addr → Nat → Nat → Int → Option Addr → Int → Int → Int → Int → PT) : Ok Try.prog Try.f5.ntmps Z law18_HoldTwo.c54 (law18_HoldTwo.q68 Z Q X1 X2) (law18_HoldTwo.j72 Z Q X1 X2) := by
  rw [law18_HoldTwo.q62]; exact ok_block (law18_HoldTwo.s71_ok Z Q X1 X2)
theorem law18_HoldTwo.o74 (Z : List PanicEntry → PT) (Q : Bool → PT) (X1 : Option Addr → Nat → Nat → Int → Option Addr → Int → Int → Int → PT) (X2 : Option Addr → Nat → Nat → Int → Option Addr → Int → Int → Int → Int → PT) : Ok Try.prog Try.f5.ntmps Z law18_HoldTwo.c52 (law18_HoldTwo.q59 Z Q X1 X2) (law18_HoldTwo.j72 Z Q X1 X2) := by
  rw [law18_HoldTwo.q56]; exact ok_seq (law18_HoldTwo.o73 Z Q X1 X2) (law18_HoldTwo.s57_ok Z Q X1 X2)
def law18_HoldTwo.s75 (Z : List PanicEntry → PT) (Q : Bool → PT) (X1 : Option Addr → Nat → Nat → Int → Option Addr → Int → Int → Int → PT) (X2 : Option Addr → Nat → Nat → Int → Option Addr → Int → Int → Int → Int → PT) (l_0 : Option Addr) (l_0n l_0c : Nat) (epoch_1 : Int) (h_5 : Option Addr) (floor_6 : Int) (top_7 : Int) (i_8 : Int) (k_9 : Int) : PT :=
  (pif (decide (k_9 < i_8)) (law18_HoldTwo.s71 Z Q X1 X2 l_0 l_0n l_0c epoch_1 h_5 floor_6 top_7 i_8 k_9) (law18_HoldTwo.s30 Z Q X1 l_0 l_0n l_0c epoch_1 h_5 floor_6 top_7 i_8))
theorem law18_HoldTwo.s75_eq (Z : List PanicEntry → PT) (Q : Bool → PT) (X1 : Option Addr → Nat → Nat → Int → Option Addr → Int → Int → Int → PT) (X2 : Option Addr → Nat → Nat → Int → Option Addr → Int → Int → Int → Int → PT) (ρ : Fr) (l_0 : Option Addr) (l_0n l_0c : Nat) (epoch_1 : Int) (h_5 : Option Addr) (floor_6 : Int) (top_7 : Int) (i_8 : Int) (k_9 : Int) : (comp Try.prog Z law18_HoldTwo.c51 (thenK (law18_HoldTwo.j72 Z Q X1 X2) (law18_HoldTwo.q59 Z Q X1 X2))) (puts ρ [(0, (Value.slice l_0 l_0n l_0c)), (1, (Value.int .i64 epoch_1)), (5, (Value.pointer h_5)), (6, (Value.int .i64 floor_6)), (7, (Value.int .i64 top_7)), (8, (Value.int .i64 i_8)), (9, (Value.int .i64 k_9))]) = law18_HoldTwo.s75 Z Q X1 X2 l_0 l_0n l_0c epoch_1 h_5 floor_6 top_7 i_8 k_9 := by kernel_rfl
def law18_HoldTwo.j76 (Z : List PanicEntry → PT) (Q : Bool → PT) (X1 : Option Addr → Nat → Nat → Int → Option Addr → Int → Int → Int → PT) (X2 : Option Addr → Nat → Nat → Int → Option Addr → Int → Int → Int → Int → PT) : Fr → PT := (fun ρ => atL (ρ 0) fun l_0 l_0n l_0c => atI .i64 (ρ 1) fun epoch_1 => atP (ρ 5) fun h_5 => atI .i64 (ρ 6) fun floor_6 => atI .i64 (ρ 7) fun top_7 => atI .i64 (ρ 8) fun i_8 => atI .i64 (ρ 9) fun k_9 => (law18_HoldTwo.s75 Z Q X1 X2 l_0 l_0n l_0c epoch_1 h_5 floor_6 top_7 i_8 k_9))
theorem law18_HoldTwo.s75_ok (Z : List PanicEntry → PT) (Q : Bool → PT) (X1 : Option Addr → Nat → Nat → Int → Option Addr → Int → Int → Int → PT) (X2 : Option Addr → Nat → Nat → Int → Option Addr → Int → Int → Int → Int → PT) : Ok Try.prog Try.f5.ntmps Z law18_HoldTwo.c45 (law18_HoldTwo.q59 Z Q X1 X2) (law18_HoldTwo.j76 Z Q X1 X2) := by
  rw [law18_HoldTwo.q53]
  intro ρ w a hr h
  obtain ⟨l_0, l_0n, l_0c, e0, h⟩ := atL_e h
  obtain ⟨epoch_1, e1, h⟩ := atI_e h
  obtain ⟨h_5, e5, h⟩ := atP_e h
  obtain ⟨floor_6, e6, h⟩ := atI_e h
  obtain ⟨top_7, e7, h⟩ := atI_e h
  obtain ⟨i_8, e8, h⟩ := atI_e h
  obtain ⟨k_9, e9, h⟩ := atI_e h
  exact ok_at [(0, (Value.slice l_0 l_0n l_0c)), (1, (Value.int .i64 epoch_1)), (5, (Value.pointer h_5)), (6, (Value.int .i64 floor_6)), (7, (Value.int .i64 top_7)), (8, (Value.int .i64 i_8)), (9, (Value.int .i64 k_9))] (ok_seq (okC law18_HoldTwo.c51 _ (by kernel_rfl)) (law18_HoldTwo.o74 Z Q X1 X2)) (puts_cons e0 (puts_cons e1 (puts_cons e5 (puts_cons e6 (puts_cons e7 (puts_cons e8 (puts_cons e9 (fun p hp => puts_nil hp)))))))) (law18_HoldTwo.s75_eq Z Q X1 X2 ρ l_0 l_0n l_0c epoch_1 h_5 floor_6 top_7 i_8 k_9) hr h
def law18_HoldTwo.l47 (Z : List PanicEntry → PT) (Q : Bool → PT) (X1 : Option Addr → Nat → Nat → Int → Option Addr → Int → Int → Int → PT) : Nat → Option Addr → Nat → Nat → Int → Option Addr → Int → Int → Int → Int → PT
  | 0, _, _, _, _, _, _, _, _, _ => bad
  | k + 1, l_0, l_0n, l_0c, epoch_1, h_5, floor_6, top_7, i_8, k_9 => (law18_HoldTwo.s75 Z Q X1 (law18_HoldTwo.l47 Z Q X1 k) l_0 l_0n l_0c epoch_1 h_5 floor_6 top_7 i_8 k_9)
def law18_HoldTwo.j77 (Z : List PanicEntry → PT) (Q : Bool → PT) (X1 : Option Addr → Nat → Nat → Int → Option Addr → Int → Int → Int → PT) (k : Nat) : Fr → PT := (fun ρ => atL (ρ 0) fun l_0 l_0n l_0c => atI .i64 (ρ 1) fun epoch_1 => atP (ρ 5) fun h_5 => atI .i64 (ρ 6) fun floor_6 => atI .i64 (ρ 7) fun top_7 => atI .i64 (ρ 8) fun i_8 => atI .i64 (ρ 9) fun k_9 => (law18_HoldTwo.l47 Z Q X1 k l_0 l_0n l_0c epoch_1 h_5 floor_6 top_7 i_8 k_9))
def law18_HoldTwo.j78 (Z : List PanicEntry → PT) (Q : Bool → PT) (X1 : Option Addr → Nat → Nat → Int → Option Addr → Int → Int → Int → PT) : Fr → PT := (fun ρ => atL (ρ 0) fun l_0 l_0n l_0c => atI .i64 (ρ 1) fun epoch_1 => atP (ρ 5) fun h_5 => atI .i64 (ρ 6) fun floor_6 => atI .i64 (ρ 7) fun top_7 => atI .i64 (ρ 8) fun i_8 => atI .i64 (ρ 9) fun k_9 => (exK fun k => law18_HoldTwo.l47 Z Q X1 k l_0 l_0n l_0c epoch_1 h_5 floor_6 top_7 i_8 k_9))
theorem law18_HoldTwo.o79 (Z : List PanicEntry → PT) (Q : Bool → PT) (X1 : Option Addr → Nat → Nat → Int → Option Addr → Int → Int → Int → PT) : Ok Try.prog Try.f5.ntmps Z law18_HoldTwo.c43 (law18_HoldTwo.q50 Z Q X1) (law18_HoldTwo.j78 Z Q X1) := by
  rw [law18_HoldTwo.q46]
  refine Ok.imp (ok_loop (J := law18_HoldTwo.j77 Z Q X1) ?_ ?_) ?_
  · intro ρ w h
    obtain ⟨l_0, l_0n, l_0c, e0, h⟩ := atL_e h
    obtain ⟨epoch_1, e1, h⟩ := atI_e h
    obtain ⟨h_5, e5, h⟩ := atP_e h
    obtain ⟨floor_6, e6, h⟩ := atI_e h
    obtain ⟨top_7, e7, h⟩ := atI_e h
    obtain ⟨i_8, e8, h⟩ := atI_e h
    obtain ⟨k_9, e9, h⟩ := atI_e h
    exact h
  · intro k
    refine Ok.imp (law18_HoldTwo.s75_ok Z Q X1 (law18_HoldTwo.l47 Z Q X1 k)) fun ρ w h => ?_
    obtain ⟨l_0, l_0n, l_0c, e0, h⟩ := atL_e h
    obtain ⟨epoch_1, e1, h⟩ := atI_e h
    obtain ⟨h_5, e5, h⟩ := atP_e h
    obtain ⟨floor_6, e6, h⟩ := atI_e h
    obtain ⟨top_7, e7, h⟩ := atI_e h
    obtain ⟨i_8, e8, h⟩ := atI_e h
    obtain ⟨k_9, e9, h⟩ := atI_e h
    show (law18_HoldTwo.j76 Z Q X1 (law18_HoldTwo.l47 Z Q X1 k)) ρ w
    simp only [law18_HoldTwo.j76]
    rw [e0]
    rw [e1]
    rw [e5]
    rw [e6]
    rw [e7]
    rw [e8]
    rw [e9]
    exact h
  · intro ρ w h
    obtain ⟨l_0, l_0n, l_0c, e0, h⟩ := atL_e h
    obtain ⟨epoch_1, e1, h⟩ := atI_e h
    obtain ⟨h_5, e5, h⟩ := atP_e h
    obtain ⟨floor_6, e6, h⟩ := atI_e h
    obtain ⟨top_7, e7, h⟩ := atI_e h
    obtain ⟨i_8, e8, h⟩ := atI_e h
    obtain ⟨k_9, e9, h⟩ := atI_e h
    obtain ⟨k, h⟩ := h
    refine ⟨k, ?_⟩
    show (atL (ρ 0) fun l_0 l_0n l_0c => atI .i64 (ρ 1) fun epoch_1 => atP (ρ 5) fun h_5 => atI .i64 (ρ 6) fun floor_6 => atI .i64 (ρ 7) fun top_7 => atI .i64 (ρ 8) fun i_8 => atI .i64 (ρ 9) fun k_9 => (law18_HoldTwo.l47 Z Q X1 k l_0 l_0n l_0c epoch_1 h_5 floor_6 top_7 i_8 k_9)) w
    rw [e0]
    rw [e1]
    rw [e5]
    rw [e6]
    rw [e7]
    rw [e8]
    rw [e9]
    exact h
theorem law18_HoldTwo.o80 (Z : List PanicEntry → PT) (Q : Bool → PT) (X1 : Option Addr → Nat → Nat → Int → Option Addr → Int → Int → Int → PT) : Ok Try.prog Try.f5.ntmps Z law18_HoldTwo.c41 (law18_HoldTwo.q49 Z Q X1) (law18_HoldTwo.j78 Z Q X1) := by
  rw [law18_HoldTwo.q44]; exact ok_block (law18_HoldTwo.o79 Z Q X1)
def law18_HoldTwo.s81 (Z : List PanicEntry → PT) (Q : Bool → PT) (X1 : Option Addr → Nat → Nat → Int → Option Addr → Int → Int → Int → PT) (l_0 : Option Addr) (l_0n l_0c : Nat) (epoch_1 : Int) (h_5 : Option Addr) (floor_6 : Int) (top_7 : Int) (i_8 : Int) : PT :=
  (ixS l_0 l_0n i_8 6 fun v77 => (ldN 6 v77 fun v78 => (cal Try.prog Z 11 [(Value.pointer h_5), (Value.agg ⟨v78⟩)] (isI .i64 fun v79 => (cal Try.prog Z 18 [(Value.pointer h_5)] (isI .i64 fun v80 => (pif (decide (v80 < floor_6)) (Q false) (cal Try.prog Z 19 [(Value.pointer h_5)] (isI .i64 fun v81 => (pif (decide (v81 < top_7)) (Q false) (cal Try.prog Z 19 [(Value.pointer h_5)] (isI .i64 fun v82 => (cal Try.prog Z 18 [(Value.pointer h_5)] (isI .i64 fun v83 => (pif (decide (v82 < v83)) (Q false) (cal Try.prog Z 18 [(Value.pointer h_5)] (isI .i64 fun v84 => (cal Try.prog Z 19 [(Value.pointer h_5)] (isI .i64 fun v85 => (exK fun k => law18_HoldTwo.l47 Z Q X1 k l_0 l_0n l_0c epoch_1 h_5 v84 v85 i_8 (-1)))))))))))))))))))))
theorem law18_HoldTwo.s81_eq (Z : List PanicEntry → PT) (Q : Bool → PT) (X1 : Option Addr → Nat → Nat → Int → Option Addr → Int → Int → Int → PT) (ρ : Fr) (l_0 : Option Addr) (l_0n l_0c : Nat) (epoch_1 : Int) (h_5 : Option Addr) (floor_6 : Int) (top_7 : Int) (i_8 : Int) : (comp Try.prog Z law18_HoldTwo.c36 (thenK (comp Try.prog Z law18_HoldTwo.c37 (thenK (comp Try.prog Z law18_HoldTwo.c38 (thenK (comp Try.prog Z law18_HoldTwo.c39 (thenK (comp Try.prog Z law18_HoldTwo.c40 (thenK (law18_HoldTwo.j78 Z Q X1) (law18_HoldTwo.q49 Z Q X1))) (law18_HoldTwo.q49 Z Q X1))) (law18_HoldTwo.q49 Z Q X1))) (law18_HoldTwo.q49 Z Q X1))) (law18_HoldTwo.q49 Z Q X1))) (puts ρ [(0, (Value.slice l_0 l_0n l_0c)), (1, (Value.int .i64 epoch_1)), (5, (Value.pointer h_5)), (6, (Value.int .i64 floor_6)), (7, (Value.int .i64 top_7)), (8, (Value.int .i64 i_8))]) = law18_HoldTwo.s81 Z Q X1 l_0 l_0n l_0c epoch_1 h_5 floor_6 top_7 i_8 := by kernel_rfl
def law18_HoldTwo.j82 (Z : List PanicEntry → PT) (Q : Bool → PT) (X1 : Option Addr → Nat → Nat → Int → Option Addr → Int → Int → Int → PT) : Fr → PT := (fun ρ => atL (ρ 0) fun l_0 l_0n l_0c => atI .i64 (ρ 1) fun epoch_1 => atP (ρ 5) fun h_5 => atI .i64 (ρ 6) fun floor_6 => atI .i64 (ρ 7) fun top_7 => atI .i64 (ρ 8) fun i_8 => (law18_HoldTwo.s81 Z Q X1 l_0 l_0n l_0c epoch_1 h_5 floor_6 top_7 i_8))
theorem law18_HoldTwo.s81_ok (Z : List PanicEntry → PT) (Q : Bool → PT) (X1 : Option Addr → Nat → Nat → Int → Option Addr → Int → Int → Int → PT) : Ok Try.prog Try.f5.ntmps Z law18_HoldTwo.c34 (law18_HoldTwo.q49 Z Q X1) (law18_HoldTwo.j82 Z Q X1) := by
  rw [law18_HoldTwo.q42]
  intro ρ w a hr h
  obtain ⟨l_0, l_0n, l_0c, e0, h⟩ := atL_e h
  obtain ⟨epoch_1, e1, h⟩ := atI_e h
  obtain ⟨h_5, e5, h⟩ := atP_e h
  obtain ⟨floor_6, e6, h⟩ := atI_e h
  obtain ⟨top_7, e7, h⟩ := atI_e h
  obtain ⟨i_8, e8, h⟩ := atI_e h
  exact ok_at [(0, (Value.slice l_0 l_0n l_0c)), (1, (Value.int .i64 epoch_1)), (5, (Value.pointer h_5)), (6, (Value.int .i64 floor_6)), (7, (Value.int .i64 top_7)), (8, (Value.int .i64 i_8))] (ok_seq (okC law18_HoldTwo.c36 _ (by kernel_rfl)) (ok_seq (okC law18_HoldTwo.c37 _ (by kernel_rfl)) (ok_seq (okC law18_HoldTwo.c38 _ (by kernel_rfl)) (ok_seq (okC law18_HoldTwo.c39 _ (by kernel_rfl)) (ok_seq (okC law18_HoldTwo.c40 _ (by kernel_rfl)) (law18_HoldTwo.o80 Z Q X1)))))) (puts_cons e0 (puts_cons e1 (puts_cons e5 (puts_cons e6 (puts_cons e7 (puts_cons e8 (fun p hp => puts_nil hp))))))) (law18_HoldTwo.s81_eq Z Q X1 ρ l_0 l_0n l_0c epoch_1 h_5 floor_6 top_7 i_8) hr h
theorem law18_HoldTwo.o83 (Z : List PanicEntry → PT) (Q : Bool → PT) (X1 : Option Addr → Nat → Nat → Int → Option Addr → Int → Int → Int → PT) : Ok Try.prog Try.f5.ntmps Z law18_HoldTwo.c27 (law18_HoldTwo.q48 Z Q X1) (law18_HoldTwo.j82 Z Q X1) := by
  rw [law18_HoldTwo.q35]; exact ok_block (law18_HoldTwo.s81_ok Z Q X1)
theorem law18_HoldTwo.o84 (Z : List PanicEntry → PT) (Q : Bool → PT) (X1 : Option Addr → Nat → Nat → Int → Option Addr → Int → Int → Int → PT) : Ok Try.prog Try.f5.ntmps Z law18_HoldTwo.c25 (law18_HoldTwo.q32 Z Q X1) (law18_HoldTwo.j82 Z Q X1) := by
  rw [law18_HoldTwo.q29]; exact ok_seq (law18_HoldTwo.o83 Z Q X1) (law18_HoldTwo.s30_ok Z Q X1)
def law18_HoldTwo.s85 (Z : List PanicEntry → PT) (Q : Bool → PT) (X1 : Option Addr → Nat → Nat → Int → Option Addr → Int → Int → Int → PT) (l_0 : Option Addr) (l_0n l_0c : Nat) (epoch_1 : Int) (h_5 : Option Addr) (floor_6 : Int) (top_7 : Int) (i_8 : Int) : PT :=
  (pif (decide (i_8 < ((l_0n : Nat) : Int))) (pif (decide (i_8 < 80)) (law18_HoldTwo.s81 Z Q X1 l_0 l_0n l_0c epoch_1 h_5 floor_6 top_7 i_8) (law18_HoldTwo.s11 Z Q )) (law18_HoldTwo.s11 Z Q ))
theorem law18_HoldTwo.s85_eq (Z : List PanicEntry → PT) (Q : Bool → PT) (X1 : Option Addr → Nat → Nat → Int → Option Addr → Int → Int → Int → PT) (ρ : Fr) (l_0 : Option Addr) (l_0n l_0c : Nat) (epoch_1 : Int) (h_5 : Option Addr) (floor_6 : Int) (top_7 : Int) (i_8 : Int) : (comp Try.prog Z law18_HoldTwo.c24 (thenK (law18_HoldTwo.j82 Z Q X1) (law18_HoldTwo.q32 Z Q X1))) (puts ρ [(0, (Value.slice l_0 l_0n l_0c)), (1, (Value.int .i64 epoch_1)), (5, (Value.pointer h_5)), (6, (Value.int .i64 floor_6)), (7, (Value.int .i64 top_7)), (8, (Value.int .i64 i_8))]) = law18_HoldTwo.s85 Z Q X1 l_0 l_0n l_0c epoch_1 h_5 floor_6 top_7 i_8 := by kernel_rfl
def law18_HoldTwo.j86 (Z : List PanicEntry → PT) (Q : Bool → PT) (X1 : Option Addr → Nat → Nat → Int → Option Addr → Int → Int → Int → PT) : Fr → PT := (fun ρ => atL (ρ 0) fun l_0 l_0n l_0c => atI .i64 (ρ 1) fun epoch_1 => atP (ρ 5) fun h_5 => atI .i64 (ρ 6) fun floor_6 => atI .i64 (ρ 7) fun top_7 => atI .i64 (ρ 8) fun i_8 => (law18_HoldTwo.s85 Z Q X1 l_0 l_0n l_0c epoch_1 h_5 floor_6 top_7 i_8))
theorem law18_HoldTwo.s85_ok (Z : List PanicEntry → PT) (Q : Bool → PT) (X1 : Option Addr → Nat → Nat → Int → Option Addr → Int → Int → Int → PT) : Ok Try.prog Try.f5.ntmps Z law18_HoldTwo.c19 (law18_HoldTwo.q32 Z Q X1) (law18_HoldTwo.j86 Z Q X1) := by
  rw [law18_HoldTwo.q26]
  intro ρ w a hr h
  obtain ⟨l_0, l_0n, l_0c, e0, h⟩ := atL_e h
  obtain ⟨epoch_1, e1, h⟩ := atI_e h
  obtain ⟨h_5, e5, h⟩ := atP_e h
  obtain ⟨floor_6, e6, h⟩ := atI_e h
  obtain ⟨top_7, e7, h⟩ := atI_e h
  obtain ⟨i_8, e8, h⟩ := atI_e h
  exact ok_at [(0, (Value.slice l_0 l_0n l_0c)), (1, (Value.int .i64 epoch_1)), (5, (Value.pointer h_5)), (6, (Value.int .i64 floor_6)), (7, (Value.int .i64 top_7)), (8, (Value.int .i64 i_8))] (ok_seq (okC law18_HoldTwo.c24 _ (by kernel_rfl)) (law18_HoldTwo.o84 Z Q X1)) (puts_cons e0 (puts_cons e1 (puts_cons e5 (puts_cons e6 (puts_cons e7 (puts_cons e8 (fun p hp => puts_nil hp))))))) (law18_HoldTwo.s85_eq Z Q X1 ρ l_0 l_0n l_0c epoch_1 h_5 floor_6 top_7 i_8) hr h
def law18_HoldTwo.l21 (Z : List PanicEntry → PT) (Q : Bool → PT) : Nat → Option Addr → Nat → Nat → Int → Option Addr → Int → Int → Int → PT
  | 0, _, _, _, _, _, _, _, _ => bad
  | k + 1, l_0, l_0n, l_0c, epoch_1, h_5, floor_6, top_7, i_8 => (law18_HoldTwo.s85 Z Q (law18_HoldTwo.l21 Z Q k) l_0 l_0n l_0c epoch_1 h_5 floor_6 top_7 i_8)
def law18_HoldTwo.j87 (Z : List PanicEntry → PT) (Q : Bool → PT) (k : Nat) : Fr → PT := (fun ρ => atL (ρ 0) fun l_0 l_0n l_0c => atI .i64 (ρ 1) fun epoch_1 => atP (ρ 5) fun h_5 => atI .i64 (ρ 6) fun floor_6 => atI .i64 (ρ 7) fun top_7 => atI .i64 (ρ 8) fun i_8 => (law18_HoldTwo.l21 Z Q k l_0 l_0n l_0c epoch_1 h_5 floor_6 top_7 i_8))
def law18_HoldTwo.j88 (Z : List PanicEntry → PT) (Q : Bool → PT) : Fr → PT := (fun ρ => atL (ρ 0) fun l_0 l_0n l_0c => atI .i64 (ρ 1) fun epoch_1 => atP (ρ 5) fun h_5 => atI .i64 (ρ 6) fun floor_6 => atI .i64 (ρ 7) fun top_7 => atI .i64 (ρ 8) fun i_8 => (exK fun k => law18_HoldTwo.l21 Z Q k l_0 l_0n l_0c epoch_1 h_5 floor_6 top_7 i_8))
theorem law18_HoldTwo.o89 (Z : List PanicEntry → PT) (Q : Bool → PT) : Ok Try.prog Try.f5.ntmps Z law18_HoldTwo.c17 (law18_HoldTwo.q23 Z Q) (law18_HoldTwo.j88 Z Q) := by
  rw [law18_HoldTwo.q20]
  refine Ok.imp (ok_loop (J := law18_HoldTwo.j87 Z Q) ?_ ?_) ?_
  · intro ρ w h
    obtain ⟨l_0, l_0n, l_0c, e0, h⟩ := atL_e h
    obtain ⟨epoch_1, e1, h⟩ := atI_e h
    obtain ⟨h_5, e5, h⟩ := atP_e h
    obtain ⟨floor_6, e6, h⟩ := atI_e h
    obtain ⟨top_7, e7, h⟩ := atI_e h
    obtain ⟨i_8, e8, h⟩ := atI_e h
    exact h
  · intro k
    refine Ok.imp (law18_HoldTwo.s85_ok Z Q (law18_HoldTwo.l21 Z Q k)) fun ρ w h => ?_
    obtain ⟨l_0, l_0n, l_0c, e0, h⟩ := atL_e h
    obtain ⟨epoch_1, e1, h⟩ := atI_e h
    obtain ⟨h_5, e5, h⟩ := atP_e h
    obtain ⟨floor_6, e6, h⟩ := atI_e h
    obtain ⟨top_7, e7, h⟩ := atI_e h
    obtain ⟨i_8, e8, h⟩ := atI_e h
    show (law18_HoldTwo.j86 Z Q (law18_HoldTwo.l21 Z Q k)) ρ w
    simp only [law18_HoldTwo.j86]
    rw [e0]
    rw [e1]
    rw [e5]
    rw [e6]
    rw [e7]
    rw [e8]
    exact h
  · intro ρ w h
    obtain ⟨l_0, l_0n, l_0c, e0, h⟩ := atL_e h
    obtain ⟨epoch_1, e1, h⟩ := atI_e h
    obtain ⟨h_5, e5, h⟩ := atP_e h
    obtain ⟨floor_6, e6, h⟩ := atI_e h
    obtain ⟨top_7, e7, h⟩ := atI_e h
    obtain ⟨i_8, e8, h⟩ := atI_e h
    obtain ⟨k, h⟩ := h
    refine ⟨k, ?_⟩
    show (atL (ρ 0) fun l_0 l_0n l_0c => atI .i64 (ρ 1) fun epoch_1 => atP (ρ 5) fun h_5 => atI .i64 (ρ 6) fun floor_6 => atI .i64 (ρ 7) fun top_7 => atI .i64 (ρ 8) fun i_8 => (law18_HoldTwo.l21 Z Q k l_0 l_0n l_0c epoch_1 h_5 floor_6 top_7 i_8)) w
    rw [e0]
    rw [e1]
    rw [e5]
    rw [e6]
    rw [e7]
    rw [e8]
    exact h
theorem law18_HoldTwo.o90 (Z : List PanicEntry → PT) (Q : Bool → PT) : Ok Try.prog Try.f5.ntmps Z law18_HoldTwo.c15 (law18_HoldTwo.q22 Z Q) (law18_HoldTwo.j88 Z Q) := by
  rw [law18_HoldTwo.q18]; exact ok_block (law18_HoldTwo.o89 Z Q)
def law18_HoldTwo.s91 (Z : List PanicEntry → PT) (Q : Bool → PT) (l_0 : Option Addr) (l_0n l_0c : Nat) (epoch_1 : Int) (h_5 : Option Addr) (floor_6 : Int) (top_7 : Int) : PT :=
  (exK fun k => law18_HoldTwo.l21 Z Q k l_0 l_0n l_0c epoch_1 h_5 floor_6 top_7 0)
theorem law18_HoldTwo.s91_eq (Z : List PanicEntry → PT) (Q : Bool → PT) (ρ : Fr) (l_0 : Option Addr) (l_0n l_0c : Nat) (epoch_1 : Int) (h_5 : Option Addr) (floor_6 : Int) (top_7 : Int) : (comp Try.prog Z law18_HoldTwo.c14 (thenK (law18_HoldTwo.j88 Z Q) (law18_HoldTwo.q22 Z Q))) (puts ρ [(0, (Value.slice l_0 l_0n l_0c)), (1, (Value.int .i64 epoch_1)), (5, (Value.pointer h_5)), (6, (Value.int .i64 floor_6)), (7, (Value.int .i64 top_7))]) = law18_HoldTwo.s91 Z Q l_0 l_0n l_0c epoch_1 h_5 floor_6 top_7 := by kernel_rfl
def law18_HoldTwo.j92 (Z : List PanicEntry → PT) (Q : Bool → PT) : Fr → PT := (fun ρ => atL (ρ 0) fun l_0 l_0n l_0c => atI .i64 (ρ 1) fun epoch_1 => atP (ρ 5) fun h_5 => atI .i64 (ρ 6) fun floor_6 => atI .i64 (ρ 7) fun top_7 => (law18_HoldTwo.s91 Z Q l_0 l_0n l_0c epoch_1 h_5 floor_6 top_7))
theorem law18_HoldTwo.s91_ok (Z : List PanicEntry → PT) (Q : Bool → PT) : Ok Try.prog Try.f5.ntmps Z law18_HoldTwo.c8 (law18_HoldTwo.q22 Z Q) (law18_HoldTwo.j92 Z Q) := by
  rw [law18_HoldTwo.q16]
  intro ρ w a hr h
  obtain ⟨l_0, l_0n, l_0c, e0, h⟩ := atL_e h
  obtain ⟨epoch_1, e1, h⟩ := atI_e h
  obtain ⟨h_5, e5, h⟩ := atP_e h
  obtain ⟨floor_6, e6, h⟩ := atI_e h
  obtain ⟨top_7, e7, h⟩ := atI_e h
  exact ok_at [(0, (Value.slice l_0 l_0n l_0c)), (1, (Value.int .i64 epoch_1)), (5, (Value.pointer h_5)), (6, (Value.int .i64 floor_6)), (7, (Value.int .i64 top_7))] (ok_seq (okC law18_HoldTwo.c14 _ (by kernel_rfl)) (law18_HoldTwo.o90 Z Q)) (puts_cons e0 (puts_cons e1 (puts_cons e5 (puts_cons e6 (puts_cons e7 (fun p hp => puts_nil hp)))))) (law18_HoldTwo.s91_eq Z Q ρ l_0 l_0n l_0c epoch_1 h_5 floor_6 top_7) hr h
theorem law18_HoldTwo.o93 (Z : List PanicEntry → PT) (Q : Bool → PT) : Ok Try.prog Try.f5.ntmps Z law18_HoldTwo.c6 (law18_HoldTwo.q12 Z Q) (law18_HoldTwo.j92 Z Q) := by
  rw [law18_HoldTwo.q10]; exact ok_seq (law18_HoldTwo.s91_ok Z Q) (law18_HoldTwo.s11_ok Z Q)
def law18_HoldTwo.s94 (Z : List PanicEntry → PT) (Q : Bool → PT) (l_0 : Option Addr) (l_0n l_0c : Nat) (epoch_1 : Int) : PT :=
  (cal Try.prog Z 9 [] (isB fun v86 => (pif (!v86) (Q false) (cal Try.prog Z 10 [(Value.int .i64 1)] (isP fun v87 => (law18_HoldTwo.s91 Z Q l_0 l_0n l_0c epoch_1 v87 0 0))))))
theorem law18_HoldTwo.s94_eq (Z : List PanicEntry → PT) (Q : Bool → PT) (ρ : Fr) (l_0 : Option Addr) (l_0n l_0c : Nat) (epoch_1 : Int) : (comp Try.prog Z law18_HoldTwo.c1 (thenK (comp Try.prog Z law18_HoldTwo.c2 (thenK (comp Try.prog Z law18_HoldTwo.c3 (thenK (comp Try.prog Z law18_HoldTwo.c4 (thenK (comp Try.prog Z law18_HoldTwo.c5 (thenK (law18_HoldTwo.j92 Z Q) (law18_HoldTwo.q12 Z Q))) (law18_HoldTwo.q12 Z Q))) (law18_HoldTwo.q12 Z Q))) (law18_HoldTwo.q12 Z Q))) (law18_HoldTwo.q12 Z Q))) (puts ρ [(0, (Value.slice l_0 l_0n l_0c)), (1, (Value.int .i64 epoch_1))]) = law18_HoldTwo.s94 Z Q l_0 l_0n l_0c epoch_1 := by kernel_rfl
def law18_HoldTwo.j95 (Z : List PanicEntry → PT) (Q : Bool → PT) : Fr → PT := (fun ρ => atL (ρ 0) fun l_0 l_0n l_0c => atI .i64 (ρ 1) fun epoch_1 => (law18_HoldTwo.s94 Z Q l_0 l_0n l_0c epoch_1))
theorem law18_HoldTwo.s94_ok (Z : List PanicEntry → PT) (Q : Bool → PT) : Ok Try.prog Try.f5.ntmps Z law18_HoldTwo.body (law18_HoldTwo.q12 Z Q) (law18_HoldTwo.j95 Z Q) := by
  rw [law18_HoldTwo.q7]
  intro ρ w a hr h
  obtain ⟨l_0, l_0n, l_0c, e0, h⟩ := atL_e h
  obtain ⟨epoch_1, e1, h⟩ := atI_e h
  exact ok_at [(0, (Value.slice l_0 l_0n l_0c)), (1, (Value.int .i64 epoch_1))] (ok_seq (okC law18_HoldTwo.c1 _ (by kernel_rfl)) (ok_seq (okC law18_HoldTwo.c2 _ (by kernel_rfl)) (ok_seq (okC law18_HoldTwo.c3 _ (by kernel_rfl)) (ok_seq (okC law18_HoldTwo.c4 _ (by kernel_rfl)) (ok_seq (okC law18_HoldTwo.c5 _ (by kernel_rfl)) (law18_HoldTwo.o93 Z Q)))))) (puts_cons e0 (puts_cons e1 (fun p hp => puts_nil hp))) (law18_HoldTwo.s94_eq Z Q ρ l_0 l_0n l_0c epoch_1) hr h
def law18_HoldTwo.F (Z : List PanicEntry → PT) (Q : Bool → PT) (l_0 : Option Addr) (l_0n l_0c : Nat) (epoch_1 : Int) : PT :=
  (law18_HoldTwo.s94 Z Q l_0 l_0n l_0c epoch_1)
theorem law18_HoldTwo.vc (Z : List PanicEntry → PT) (Q : Bool → PT) (l_0 : Option Addr) (l_0n l_0c : Nat) (epoch_1 : Int) (w : World) (h : law18_HoldTwo.F Z Q l_0 l_0n l_0c epoch_1 w) : Calls Try.prog 5 ⟨[(Value.slice l_0 l_0n l_0c), (Value.int .i64 epoch_1)]⟩ w fun e w' => (∃ (r0 : Bool), e = .returned (.bool r0) ∧ Q r0 w') ∨ ∃ c, e = .panicked c ∧ Z c w' := by
  refine (calls_of_ok (args := [(Value.slice l_0 l_0n l_0c), (Value.int .i64 epoch_1)]) (w := w) (rs := [.tmp 4]) (fn := Try.f5) (c := law18_HoldTwo.body) Try.func5 (by kernel_rfl) (by kernel_rfl) (Nat.le_of_ble_eq_true (by kernel_rfl)) (law18_HoldTwo.s94_ok Z Q) (h)).mono fun e w' hR => ?_
  cases e with
  | returned v =>
    obtain ⟨va, rfl, hR⟩ := atB_e hR
    exact .inl ⟨va, rfl, hR⟩
  | panicked c => exact .inr ⟨c, rfl, hR⟩
  | outgrown => exact hR.elim
theorem law18_HoldTwo.vc0 (Q : Bool → PT) (l_0 : Option Addr) (l_0n l_0c : Nat) (epoch_1 : Int) (w : World) (h : law18_HoldTwo.F Z0 Q l_0 l_0n l_0c epoch_1 w) : Calls Try.prog 5 ⟨[(Value.slice l_0 l_0n l_0c), (Value.int .i64 epoch_1)]⟩ w fun e w' => (∃ (r0 : Bool), e = .returned (.bool r0) ∧ Q r0 w') :=
  (law18_HoldTwo.vc Z0 Q l_0 l_0n l_0c epoch_1 w h).mono fun _ _ hR => hR.elim id fun ⟨_, _, hz⟩ => hz.elim
theorem law18_HoldTwo.cal {Z : List PanicEntry → PT} {Q : Bool → PT} {l_0 : Option Addr} {l_0n l_0c : Nat} {epoch_1 : Int} {w : World} (h : law18_HoldTwo.F Z Q l_0 l_0n l_0c epoch_1 w) : Go.Proofs.Ythheldpjcndelaa.cal Try.prog Z 5 [(Value.slice l_0 l_0n l_0c), (Value.int .i64 epoch_1)] (isB fun r0 => Q r0) w := by
  refine (law18_HoldTwo.vc Z Q l_0 l_0n l_0c epoch_1 w h).mono fun e w' hR => ?_
  rcases hR with ⟨r0, rfl, h⟩ | ⟨c, rfl, h⟩
  · show (isB fun r0 => Q r0) (.bool r0) w'
    exact ⟨_, rfl, h⟩
  · exact h

/-! ### milepost/milepostlaw18.HoldUses: function 6 -/
noncomputable def law18_HoldUses.body : Code := bodyC Try.f6
noncomputable def law18_HoldUses.c1 : Code := sq1 law18_HoldUses.body
noncomputable def law18_HoldUses.c2 : Code := sq1 (sq2 law18_HoldUses.body)
noncomputable def law18_HoldUses.c3 : Code := sq1 (sq2 (sq2 law18_HoldUses.body))
noncomputable def law18_HoldUses.c4 : Code := sq2 (sq2 (sq2 law18_HoldUses.body))
theorem law18_HoldUses.q5 : law18_HoldUses.body = .seq law18_HoldUses.c1 (.seq law18_HoldUses.c2 (.seq law18_HoldUses.c3 law18_HoldUses.c4)) := by kernel_rfl
noncomputable def law18_HoldUses.c6 : Code := sq1 law18_HoldUses.c4
noncomputable def law18_HoldUses.c7 : Code := sq2 law18_HoldUses.c4
theorem law18_HoldUses.q8 : law18_HoldUses.c4 = .seq law18_HoldUses.c6 law18_HoldUses.c7 := by kernel_rfl
def law18_HoldUses.s9 (Z : List PanicEntry → PT) (Q : Bool → PT)  : PT :=
  (Q true)
def law18_HoldUses.q10 (Z : List PanicEntry → PT) (Q : Bool → PT) : QF := bodyQ [.tmp 2] (fun v => atB v fun va => Q va)
theorem law18_HoldUses.s9_eq (Z : List PanicEntry → PT) (Q : Bool → PT) (ρ : Fr)  : comp Try.prog Z law18_HoldUses.c7 (law18_HoldUses.q10 Z Q) (puts ρ []) = law18_HoldUses.s9 Z Q  := by kernel_rfl
def law18_HoldUses.j11 (Z : List PanicEntry → PT) (Q : Bool → PT) : Fr → PT := (fun ρ => (law18_HoldUses.s9 Z Q ))
theorem law18_HoldUses.s9_ok (Z : List PanicEntry → PT) (Q : Bool → PT) : Ok Try.prog Try.f6.ntmps Z law18_HoldUses.c7 (law18_HoldUses.q10 Z Q) (law18_HoldUses.j11 Z Q) := by
  intro ρ w a hr h
  exact ok_at [] (okC law18_HoldUses.c7 (law18_HoldUses.q10 Z Q) (by kernel_rfl)) (fun p hp => puts_nil hp) (law18_HoldUses.s9_eq Z Q ρ ) hr h
noncomputable def law18_HoldUses.c12 : Code := sq1 law18_HoldUses.c6
noncomputable def law18_HoldUses.c13 : Code := sq2 law18_HoldUses.c6
theorem law18_HoldUses.q14 : law18_HoldUses.c6 = .seq law18_HoldUses.c12 law18_HoldUses.c13 := by kernel_rfl
noncomputable def law18_HoldUses.c15 : Code := blk law18_HoldUses.c13
theorem law18_HoldUses.q16 : law18_HoldUses.c13 = .block 0 law18_HoldUses.c15 := by kernel_rfl
noncomputable def law18_HoldUses.c17 : Code := lop law18_HoldUses.c15
theorem law18_HoldUses.q18 : law18_HoldUses.c15 = .loop law18_HoldUses.c17 := by kernel_rfl
def law18_HoldUses.q20 (Z : List PanicEntry → PT) (Q : Bool → PT) : QF := thenK (law18_HoldUses.j11 Z Q) (law18_HoldUses.q10 Z Q)
def law18_HoldUses.q21 (Z : List PanicEntry → PT) (Q : Bool → PT) : QF := inBl 0 (law18_HoldUses.q20 Z Q)
noncomputable def law18_HoldUses.c22 : Code := sq1 law18_HoldUses.c17
noncomputable def law18_HoldUses.c23 : Code := sq2 law18_HoldUses.c17
theorem law18_HoldUses.q24 : law18_HoldUses.c17 = .seq law18_HoldUses.c22 law18_HoldUses.c23 := by kernel_rfl
noncomputable def law18_HoldUses.c25 : Code := sq1 law18_HoldUses.c23
noncomputable def law18_HoldUses.c26 : Code := sq2 law18_HoldUses.c23
theorem law18_HoldUses.q27 : law18_HoldUses.c23 = .seq law18_HoldUses.c25 law18_HoldUses.c26 := by kernel_rfl
def law18_HoldUses.s28 (Z : List PanicEntry → PT) (Q : Bool → PT) (X1 : Option Addr → Nat → Nat → Option Addr → Int → PT) (l_0 : Option Addr) (l_0n l_0c : Nat) (h_3 : Option Addr) (i_4 : Int) : PT :=
  (X1 l_0 l_0n l_0c h_3 (IntKind.wrap .i64 (i_4 + 1)))
def law18_HoldUses.j29 (Z : List PanicEntry → PT) (Q : Bool → PT) (X1 : Option Addr → Nat → Nat → Option Addr → Int → PT) : Fr → PT := (fun ρ => atL (ρ 0) fun l_0 l_0n l_0c => atP (ρ 3) fun h_3 => atI .i64 (ρ 4) fun i_4 => (X1 l_0 l_0n l_0c h_3 i_4))
def law18_HoldUses.q30 (Z : List PanicEntry → PT) (Q : Bool → PT) (X1 : Option Addr → Nat → Nat → Option Addr → Int → PT) : QF := thenK (law18_HoldUses.j29 Z Q X1) (law18_HoldUses.q21 Z Q)
theorem law18_HoldUses.s28_eq (Z : List PanicEntry → PT) (Q : Bool → PT) (X1 : Option Addr → Nat → Nat → Option Addr → Int → PT) (ρ : Fr) (l_0 : Option Addr) (l_0n l_0c : Nat) (h_3 : Option Addr) (i_4 : Int) : comp Try.prog Z law18_HoldUses.c26 (law18_HoldUses.q30 Z Q X1) (puts ρ [(0, (Value.slice l_0 l_0n l_0c)), (3, (Value.pointer h_3)), (4, (Value.int .i64 i_4))]) = law18_HoldUses.s28 Z Q X1 l_0 l_0n l_0c h_3 i_4 := by kernel_rfl
def law18_HoldUses.j31 (Z : List PanicEntry → PT) (Q : Bool → PT) (X1 : Option Addr → Nat → Nat → Option Addr → Int → PT) : Fr → PT := (fun ρ => atL (ρ 0) fun l_0 l_0n l_0c => atP (ρ 3) fun h_3 => atI .i64 (ρ 4) fun i_4 => (law18_HoldUses.s28 Z Q X1 l_0 l_0n l_0c h_3 i_4))
theorem law18_HoldUses.s28_ok (Z : List PanicEntry → PT) (Q : Bool → PT) (X1 : Option Addr → Nat → Nat → Option Addr → Int → PT) : Ok Try.prog Try.f6.ntmps Z law18_HoldUses.c26 (law18_HoldUses.q30 Z Q X1) (law18_HoldUses.j31 Z Q X1) := by
  intro ρ w a hr h
  obtain ⟨l_0, l_0n, l_0c, e0, h⟩ := atL_e h
  obtain ⟨h_3, e3, h⟩ := atP_e h
  obtain ⟨i_4, e4, h⟩ := atI_e h
  exact ok_at [(0, (Value.slice l_0 l_0n l_0c)), (3, (Value.pointer h_3)), (4, (Value.int .i64 i_4))] (okC law18_HoldUses.c26 (law18_HoldUses.q30 Z Q X1) (by kernel_rfl)) (puts_cons e0 (puts_cons e3 (puts_cons e4 (fun p hp => puts_nil hp)))) (law18_HoldUses.s28_eq Z Q X1 ρ l_0 l_0n l_0c h_3 i_4) hr h
noncomputable def law18_HoldUses.c32 : Code := blk law18_HoldUses.c25
theorem law18_HoldUses.q33 : law18_HoldUses.c25 = .block 1 law18_HoldUses.c32 := by kernel_rfl
noncomputable def law18_HoldUses.c34 : Code := sq1 law18_HoldUses.c32
noncomputable def law18_HoldUses.c35 : Code := sq1 (sq2 law18_HoldUses.c32)
noncomputable def law18_HoldUses.c36 : Code := sq1 (sq2 (sq2 law18_HoldUses.c32))
noncomputable def law18_HoldUses.c37 : Code := sq1 (sq2 (sq2 (sq2 law18_HoldUses.c32)))
noncomputable def law18_HoldUses.c38 : Code := sq2 (sq2 (sq2 (sq2 law18_HoldUses.c32)))
theorem law18_HoldUses.q39 : law18_HoldUses.c32 = .seq law18_HoldUses.c34 (.seq law18_HoldUses.c35 (.seq law18_HoldUses.c36 (.seq law18_HoldUses.c37 law18_HoldUses.c38))) := by kernel_rfl
noncomputable def law18_HoldUses.c40 : Code := sq1 law18_HoldUses.c38
noncomputable def law18_HoldUses.c41 : Code := sq2 law18_HoldUses.c38
theorem law18_HoldUses.q42 : law18_HoldUses.c38 = .seq law18_HoldUses.c40 law18_HoldUses.c41 := by kernel_rfl
def law18_HoldUses.s43 (Z : List PanicEntry → PT) (Q : Bool → PT) (X1 : Option Addr → Nat → Nat → Option Addr → Int → PT) (l_0 : Option Addr) (l_0n l_0c : Nat) (h_3 : Option Addr) (i_4 : Int) (was_5 : Int) (now_6 : Int) : PT :=
  (pif (now_6 == 0) (pif (was_5 != 0) (cal Try.prog Z 18 [(Value.pointer h_3)] (isI .i64 fun v142 => (pif (was_5 == v142) (Q false) (cal Try.prog Z 19 [(Value.pointer h_3)] (isI .i64 fun v143 => (pif (was_5 == v143) (Q false) (law18_HoldUses.s28 Z Q X1 l_0 l_0n l_0c h_3 i_4))))))) (law18_HoldUses.s28 Z Q X1 l_0 l_0n l_0c h_3 i_4)) (law18_HoldUses.s28 Z Q X1 l_0 l_0n l_0c h_3 i_4))
def law18_HoldUses.q44 (Z : List PanicEntry → PT) (Q : Bool → PT) (X1 : Option Addr → Nat → Nat → Option Addr → Int → PT) : QF := thenK (law18_HoldUses.j31 Z Q X1) (law18_HoldUses.q30 Z Q X1)
def law18_HoldUses.q45 (Z : List PanicEntry → PT) (Q : Bool → PT) (X1 : Option Addr → Nat → Nat → Option Addr → Int → PT) : QF := inBl 1 (law18_HoldUses.q44 Z Q X1)
theorem law18_HoldUses.s43_eq (Z : List PanicEntry → PT) (Q : Bool → PT) (X1 : Option Addr → Nat → Nat → Option Addr → Int → PT) (ρ : Fr) (l_0 : Option Addr) (l_0n l_0c : Nat) (h_3 : Option Addr) (i_4 : Int) (was_5 : Int) (now_6 : Int) : comp Try.prog Z law18_HoldUses.c41 (law18_HoldUses.q45 Z Q X1) (puts ρ [(0, (Value.slice l_0 l_0n l_0c)), (3, (Value.pointer h_3)), (4, (Value.int .i64 i_4)), (5, (Value.int .i64 was_5)), (6, (Value.int .i64 now_6))]) = law18_HoldUses.s43 Z Q X1 l_0 l_0n l_0c h_3 i_4 was_5 now_6 := by kernel_rfl
def law18_HoldUses.j46 (Z : List PanicEntry → PT) (Q : Bool → PT) (X1 : Option Addr → Nat → Nat → Option Addr → Int → PT) : Fr → PT := (fun ρ => atL (ρ 0) fun l_0 l_0n l_0c => atP (ρ 3) fun h_3 => atI .i64 (ρ 4) fun i_4 => atI .i64 (ρ 5) fun was_5 => atI .i64 (ρ 6) fun now_6 => (law18_HoldUses.s43 Z Q X1 l_0 l_0n l_0c h_3 i_4 was_5 now_6))
theorem law18_HoldUses.s43_ok (Z : List PanicEntry → PT) (Q : Bool → PT) (X1 : Option Addr → Nat → Nat → Option Addr → Int → PT) : Ok Try.prog Try.f6.ntmps Z law18_HoldUses.c41 (law18_HoldUses.q45 Z Q X1) (law18_HoldUses.j46 Z Q X1) := by
  intro ρ w a hr h
  obtain ⟨l_0, l_0n, l_0c, e0, h⟩ := atL_e h
  obtain ⟨h_3, e3, h⟩ := atP_e h
  obtain ⟨i_4, e4, h⟩ := atI_e h
  obtain ⟨was_5, e5, h⟩ := atI_e h
  obtain ⟨now_6, e6, h⟩ := atI_e h
  exact ok_at [(0, (Value.slice l_0 l_0n l_0c)), (3, (Value.pointer h_3)), (4, (Value.int .i64 i_4)), (5, (Value.int .i64 was_5)), (6, (Value.int .i64 now_6))] (okC law18_HoldUses.c41 (law18_HoldUses.q45 Z Q X1) (by kernel_rfl)) (puts_cons e0 (puts_cons e3 (puts_cons e4 (puts_cons e5 (puts_cons e6 (fun p hp => puts_nil hp)))))) (law18_HoldUses.s43_eq Z Q X1 ρ l_0 l_0n l_0c h_3 i_4 was_5 now_6) hr h
def law18_HoldUses.s47 (Z : List PanicEntry → PT) (Q : Bool → PT) (X1 : Option Addr → Nat → Nat → Option Addr → Int → PT) (l_0 : Option Addr) (l_0n l_0c : Nat) (h_3 : Option Addr) (i_4 : Int) (was_5 : Int) (now_6 : Int) : PT :=
  (pif (now_6 != was_5) (pif (now_6 != 0) (ixS l_0 l_0n i_4 6 fun v144 => (ldB (v144.add 0) fun v145 => (pif (!v145) (Q false) (ixS l_0 l_0n i_4 6 fun v146 => (ldI .i64 (v146.add 2) fun v147 => (pif (v147 != now_6) (Q false) (pif (decide (now_6 < was_5)) (Q false) (law18_HoldUses.s43 Z Q X1 l_0 l_0n l_0c h_3 i_4 was_5 now_6)))))))) (law18_HoldUses.s43 Z Q X1 l_0 l_0n l_0c h_3 i_4 was_5 now_6)) (law18_HoldUses.s43 Z Q X1 l_0 l_0n l_0c h_3 i_4 was_5 now_6))
theorem law18_HoldUses.s47_eq (Z : List PanicEntry → PT) (Q : Bool → PT) (X1 : Option Addr → Nat → Nat → Option Addr → Int → PT) (ρ : Fr) (l_0 : Option Addr) (l_0n l_0c : Nat) (h_3 : Option Addr) (i_4 : Int) (was_5 : Int) (now_6 : Int) : (comp Try.prog Z law18_HoldUses.c40 (thenK (law18_HoldUses.j46 Z Q X1) (law18_HoldUses.q45 Z Q X1))) (puts ρ [(0, (Value.slice l_0 l_0n l_0c)), (3, (Value.pointer h_3)), (4, (Value.int .i64 i_4)), (5, (Value.int .i64 was_5)), (6, (Value.int .i64 now_6))]) = law18_HoldUses.s47 Z Q X1 l_0 l_0n l_0c h_3 i_4 was_5 now_6 := by kernel_rfl
def law18_HoldUses.j48 (Z : List PanicEntry → PT) (Q : Bool → PT) (X1 : Option Addr → Nat → Nat → Option Addr → Int → PT) : Fr → PT := (fun ρ => atL (ρ 0) fun l_0 l_0n l_0c => atP (ρ 3) fun h_3 => atI .i64 (ρ 4) fun i_4 => atI .i64 (ρ 5) fun was_5 => atI .i64 (ρ 6) fun now_6 => (law18_HoldUses.s47 Z Q X1 l_0 l_0n l_0c h_3 i_4 was_5 now_6))
theorem law18_HoldUses.s47_ok (Z : List PanicEntry → PT) (Q : Bool → PT) (X1 : Option Addr → Nat → Nat → Option Addr → Int → PT) : Ok Try.prog Try.f6.ntmps Z law18_HoldUses.c38 (law18_HoldUses.q45 Z Q X1) (law18_HoldUses.j48 Z Q X1) := by
  rw [law18_HoldUses.q42]
  intro ρ w a hr h
  obtain ⟨l_0, l_0n, l_0c, e0, h⟩ := atL_e h
  obtain ⟨h_3, e3, h⟩ := atP_e h
  obtain ⟨i_4, e4, h⟩ := atI_e h
  obtain ⟨was_5, e5, h⟩ := atI_e h
  obtain ⟨now_6, e6, h⟩ := atI_e h
  exact ok_at [(0, (Value.slice l_0 l_0n l_0c)), (3, (Value.pointer h_3)), (4, (Value.int .i64 i_4)), (5, (Value.int .i64 was_5)), (6, (Value.int .i64 now_6))] (ok_seq (okC law18_HoldUses.c40 _ (by kernel_rfl)) (law18_HoldUses.s43_ok Z Q X1)) (puts_cons e0 (puts_cons e3 (puts_cons e4 (puts_cons e5 (puts_cons e6 (fun p hp => puts_nil hp)))))) (law18_HoldUses.s47_eq Z Q X1 ρ l_0 l_0n l_0c h_3 i_4 was_5 now_6) hr h
def law18_HoldUses.s49 (Z : List PanicEntry → PT) (Q : Bool → PT) (X1 : Option Addr → Nat → Nat → Option Addr → Int → PT) (l_0 : Option Addr) (l_0n l_0c : Nat) (h_3 : Option Addr) (i_4 : Int) : PT :=
  (cal Try.prog Z 13 [(Value.pointer h_3)] (isI .i64 fun v148 => (ixS l_0 l_0n i_4 6 fun v149 => (ldN 6 v149 fun v150 => (cal Try.prog Z 11 [(Value.pointer h_3), (Value.agg ⟨v150⟩)] (isI .i64 fun v151 => (cal Try.prog Z 13 [(Value.pointer h_3)] (isI .i64 fun v152 => (pif (v152 != 0) (cal Try.prog Z 14 [(Value.pointer h_3), (Value.int .i64 v152)] (isB fun v153 => (pif (!v153) (Q false) (law18_HoldUses.s47 Z Q X1 l_0 l_0n l_0c h_3 i_4 v148 v152)))) (law18_HoldUses.s47 Z Q X1 l_0 l_0n l_0c h_3 i_4 v148 v152))))))))))
theorem law18_HoldUses.s49_eq (Z : List PanicEntry → PT) (Q : Bool → PT) (X1 : Option Addr → Nat → Nat → Option Addr → Int → PT) (ρ : Fr) (l_0 : Option Addr) (l_0n l_0c : Nat) (h_3 : Option Addr) (i_4 : Int) : (comp Try.prog Z law18_HoldUses.c34 (thenK (comp Try.prog Z law18_HoldUses.c35 (thenK (comp Try.prog Z law18_HoldUses.c36 (thenK (comp Try.prog Z law18_HoldUses.c37 (thenK (law18_HoldUses.j48 Z Q X1) (law18_HoldUses.q45 Z Q X1))) (law18_HoldUses.q45 Z Q X1))) (law18_HoldUses.q45 Z Q X1))) (law18_HoldUses.q45 Z Q X1))) (puts ρ [(0, (Value.slice l_0 l_0n l_0c)), (3, (Value.pointer h_3)), (4, (Value.int .i64 i_4))]) = law18_HoldUses.s49 Z Q X1 l_0 l_0n l_0c h_3 i_4 := by kernel_rfl
def law18_HoldUses.j50 (Z : List PanicEntry → PT) (Q : Bool → PT) (X1 : Option Addr → Nat → Nat → Option Addr → Int → PT) : Fr → PT := (fun ρ => atL (ρ 0) fun l_0 l_0n l_0c => atP (ρ 3) fun h_3 => atI .i64 (ρ 4) fun i_4 => (law18_HoldUses.s49 Z Q X1 l_0 l_0n l_0c h_3 i_4))
theorem law18_HoldUses.s49_ok (Z : List PanicEntry → PT) (Q : Bool → PT) (X1 : Option Addr → Nat → Nat → Option Addr → Int → PT) : Ok Try.prog Try.f6.ntmps Z law18_HoldUses.c32 (law18_HoldUses.q45 Z Q X1) (law18_HoldUses.j50 Z Q X1) := by
  rw [law18_HoldUses.q39]
  intro ρ w a hr h
  obtain ⟨l_0, l_0n, l_0c, e0, h⟩ := atL_e h
  obtain ⟨h_3, e3, h⟩ := atP_e h
  obtain ⟨i_4, e4, h⟩ := atI_e h
  exact ok_at [(0, (Value.slice l_0 l_0n l_0c)), (3, (Value.pointer h_3)), (4, (Value.int .i64 i_4))] (ok_seq (okC law18_HoldUses.c34 _ (by kernel_rfl)) (ok_seq (okC law18_HoldUses.c35 _ (by kernel_rfl)) (ok_seq (okC law18_HoldUses.c36 _ (by kernel_rfl)) (ok_seq (okC law18_HoldUses.c37 _ (by kernel_rfl)) (law18_HoldUses.s47_ok Z Q X1))))) (puts_cons e0 (puts_cons e3 (puts_cons e4 (fun p hp => puts_nil hp)))) (law18_HoldUses.s49_eq Z Q X1 ρ l_0 l_0n l_0c h_3 i_4) hr h
theorem law18_HoldUses.o51 (Z : List PanicEntry → PT) (Q : Bool → PT) (X1 : Option Addr → Nat → Nat → Option Addr → Int → PT) : Ok Try.prog Try.f6.ntmps Z law18_HoldUses.c25 (law18_HoldUses.q44 Z Q X1) (law18_HoldUses.j50 Z Q X1) := by
  rw [law18_HoldUses.q33]; exact ok_block (law18_HoldUses.s49_ok Z Q X1)
theorem law18_HoldUses.o52 (Z : List PanicEntry → PT) (Q : Bool → PT) (X1 : Option Addr → Nat → Nat → Option Addr → Int → PT) : Ok Try.prog Try.f6.ntmps Z law18_HoldUses.c23 (law18_HoldUses.q30 Z Q X1) (law18_HoldUses.j50 Z Q X1) := by
  rw [law18_HoldUses.q27]; exact ok_seq (law18_HoldUses.o51 Z Q X1) (law18_HoldUses.s28_ok Z Q X1)
def law18_HoldUses.s53 (Z : List PanicEntry → PT) (Q : Bool → PT) (X1 : Option Addr → Nat → Nat → Option Addr → Int → PT) (l_0 : Option Addr) (l_0n l_0c : Nat) (h_3 : Option Addr) (i_4 : Int) : PT :=
  (pif (decide (i_4 < ((l_0n : Nat) : Int))) (pif (decide (i_4 < 80)) (law18_HoldUses.s49 Z Q X1 l_0 l_0n l_0c h_3 i_4) (law18_HoldUses.s9 Z Q )) (law18_HoldUses.s9 Z Q ))
theorem law18_HoldUses.s53_eq (Z : List PanicEntry → PT) (Q : Bool → PT) (X1 : Option Addr → Nat → Nat → Option Addr → Int → PT) (ρ : Fr) (l_0 : Option Addr) (l_0n l_0c : Nat) (h_3 : Option Addr) (i_4 : Int) : (comp Try.prog Z law18_HoldUses.c22 (thenK (law18_HoldUses.j50 Z Q X1) (law18_HoldUses.q30 Z Q X1))) (puts ρ [(0, (Value.slice l_0 l_0n l_0c)), (3, (Value.pointer h_3)), (4, (Value.int .i64 i_4))]) = law18_HoldUses.s53 Z Q X1 l_0 l_0n l_0c h_3 i_4 := by kernel_rfl
def law18_HoldUses.j54 (Z : List PanicEntry → PT) (Q : Bool → PT) (X1 : Option Addr → Nat → Nat → Option Addr → Int → PT) : Fr → PT := (fun ρ => atL (ρ 0) fun l_0 l_0n l_0c => atP (ρ 3) fun h_3 => atI .i64 (ρ 4) fun i_4 => (law18_HoldUses.s53 Z Q X1 l_0 l_0n l_0c h_3 i_4))
theorem law18_HoldUses.s53_ok (Z : List PanicEntry → PT) (Q : Bool → PT) (X1 : Option Addr → Nat → Nat → Option Addr → Int → PT) : Ok Try.prog Try.f6.ntmps Z law18_HoldUses.c17 (law18_HoldUses.q30 Z Q X1) (law18_HoldUses.j54 Z Q X1) := by
  rw [law18_HoldUses.q24]
  intro ρ w a hr h
  obtain ⟨l_0, l_0n, l_0c, e0, h⟩ := atL_e h
  obtain ⟨h_3, e3, h⟩ := atP_e h
  obtain ⟨i_4, e4, h⟩ := atI_e h
  exact ok_at [(0, (Value.slice l_0 l_0n l_0c)), (3, (Value.pointer h_3)), (4, (Value.int .i64 i_4))] (ok_seq (okC law18_HoldUses.c22 _ (by kernel_rfl)) (law18_HoldUses.o52 Z Q X1)) (puts_cons e0 (puts_cons e3 (puts_cons e4 (fun p hp => puts_nil hp)))) (law18_HoldUses.s53_eq Z Q X1 ρ l_0 l_0n l_0c h_3 i_4) hr h
def law18_HoldUses.l19 (Z : List PanicEntry → PT) (Q : Bool → PT) : Nat → Option Addr → Nat → Nat → Option Addr → Int → PT
  | 0, _, _, _, _, _ => bad
  | k + 1, l_0, l_0n, l_0c, h_3, i_4 => (law18_HoldUses.s53 Z Q (law18_HoldUses.l19 Z Q k) l_0 l_0n l_0c h_3 i_4)
def law18_HoldUses.j55 (Z : List PanicEntry → PT) (Q : Bool → PT) (k : Nat) : Fr → PT := (fun ρ => atL (ρ 0) fun l_0 l_0n l_0c => atP (ρ 3) fun h_3 => atI .i64 (ρ 4) fun i_4 => (law18_HoldUses.l19 Z Q k l_0 l_0n l_0c h_3 i_4))
def law18_HoldUses.j56 (Z : List PanicEntry → PT) (Q : Bool → PT) : Fr → PT := (fun ρ => atL (ρ 0) fun l_0 l_0n l_0c => atP (ρ 3) fun h_3 => atI .i64 (ρ 4) fun i_4 => (exK fun k => law18_HoldUses.l19 Z Q k l_0 l_0n l_0c h_3 i_4))
theorem law18_HoldUses.o57 (Z : List PanicEntry → PT) (Q : Bool → PT) : Ok Try.prog Try.f6.ntmps Z law18_HoldUses.c15 (law18_HoldUses.q21 Z Q) (law18_HoldUses.j56 Z Q) := by
  rw [law18_HoldUses.q18]
  refine Ok.imp (ok_loop (J := law18_HoldUses.j55 Z Q) ?_ ?_) ?_
  · intro ρ w h
    obtain ⟨l_0, l_0n, l_0c, e0, h⟩ := atL_e h
    obtain ⟨h_3, e3, h⟩ := atP_e h
    obtain ⟨i_4, e4, h⟩ := atI_e h
    exact h
  · intro k
    refine Ok.imp (law18_HoldUses.s53_ok Z Q (law18_HoldUses.l19 Z Q k)) fun ρ w h => ?_
    obtain ⟨l_0, l_0n, l_0c, e0, h⟩ := atL_e h
    obtain ⟨h_3, e3, h⟩ := atP_e h
    obtain ⟨i_4, e4, h⟩ := atI_e h
    show (law18_HoldUses.j54 Z Q (law18_HoldUses.l19 Z Q k)) ρ w
    simp only [law18_HoldUses.j54]
    rw [e0]
    rw [e3]
    rw [e4]
    exact h
  · intro ρ w h
    obtain ⟨l_0, l_0n, l_0c, e0, h⟩ := atL_e h
    obtain ⟨h_3, e3, h⟩ := atP_e h
    obtain ⟨i_4, e4, h⟩ := atI_e h
    obtain ⟨k, h⟩ := h
    refine ⟨k, ?_⟩
    show (atL (ρ 0) fun l_0 l_0n l_0c => atP (ρ 3) fun h_3 => atI .i64 (ρ 4) fun i_4 => (law18_HoldUses.l19 Z Q k l_0 l_0n l_0c h_3 i_4)) w
    rw [e0]
    rw [e3]
    rw [e4]
    exact h
theorem law18_HoldUses.o58 (Z : List PanicEntry → PT) (Q : Bool → PT) : Ok Try.prog Try.f6.ntmps Z law18_HoldUses.c13 (law18_HoldUses.q20 Z Q) (law18_HoldUses.j56 Z Q) := by
  rw [law18_HoldUses.q16]; exact ok_block (law18_HoldUses.o57 Z Q)
def law18_HoldUses.s59 (Z : List PanicEntry → PT) (Q : Bool → PT) (l_0 : Option Addr) (l_0n l_0c : Nat) (h_3 : Option Addr) : PT :=
  (exK fun k => law18_HoldUses.l19 Z Q k l_0 l_0n l_0c h_3 0)
theorem law18_HoldUses.s59_eq (Z : List PanicEntry → PT) (Q : Bool → PT) (ρ : Fr) (l_0 : Option Addr) (l_0n l_0c : Nat) (h_3 : Option Addr) : (comp Try.prog Z law18_HoldUses.c12 (thenK (law18_HoldUses.j56 Z Q) (law18_HoldUses.q20 Z Q))) (puts ρ [(0, (Value.slice l_0 l_0n l_0c)), (3, (Value.pointer h_3))]) = law18_HoldUses.s59 Z Q l_0 l_0n l_0c h_3 := by kernel_rfl
def law18_HoldUses.j60 (Z : List PanicEntry → PT) (Q : Bool → PT) : Fr → PT := (fun ρ => atL (ρ 0) fun l_0 l_0n l_0c => atP (ρ 3) fun h_3 => (law18_HoldUses.s59 Z Q l_0 l_0n l_0c h_3))
theorem law18_HoldUses.s59_ok (Z : List PanicEntry → PT) (Q : Bool → PT) : Ok Try.prog Try.f6.ntmps Z law18_HoldUses.c6 (law18_HoldUses.q20 Z Q) (law18_HoldUses.j60 Z Q) := by
  rw [law18_HoldUses.q14]
  intro ρ w a hr h
  obtain ⟨l_0, l_0n, l_0c, e0, h⟩ := atL_e h
  obtain ⟨h_3, e3, h⟩ := atP_e h
  exact ok_at [(0, (Value.slice l_0 l_0n l_0c)), (3, (Value.pointer h_3))] (ok_seq (okC law18_HoldUses.c12 _ (by kernel_rfl)) (law18_HoldUses.o58 Z Q)) (puts_cons e0 (puts_cons e3 (fun p hp => puts_nil hp))) (law18_HoldUses.s59_eq Z Q ρ l_0 l_0n l_0c h_3) hr h
theorem law18_HoldUses.o61 (Z : List PanicEntry → PT) (Q : Bool → PT) : Ok Try.prog Try.f6.ntmps Z law18_HoldUses.c4 (law18_HoldUses.q10 Z Q) (law18_HoldUses.j60 Z Q) := by
  rw [law18_HoldUses.q8]; exact ok_seq (law18_HoldUses.s59_ok Z Q) (law18_HoldUses.s9_ok Z Q)
def law18_HoldUses.s62 (Z : List PanicEntry → PT) (Q : Bool → PT) (l_0 : Option Addr) (l_0n l_0c : Nat) : PT :=
  (cal Try.prog Z 9 [] (isB fun v154 => (pif (!v154) (Q false) (cal Try.prog Z 10 [(Value.int .i64 1)] (isP fun v155 => (law18_HoldUses.s59 Z Q l_0 l_0n l_0c v155))))))
theorem law18_HoldUses.s62_eq (Z : List PanicEntry → PT) (Q : Bool → PT) (ρ : Fr) (l_0 : Option Addr) (l_0n l_0c : Nat) : (comp Try.prog Z law18_HoldUses.c1 (thenK (comp Try.prog Z law18_HoldUses.c2 (thenK (comp Try.prog Z law18_HoldUses.c3 (thenK (law18_HoldUses.j60 Z Q) (law18_HoldUses.q10 Z Q))) (law18_HoldUses.q10 Z Q))) (law18_HoldUses.q10 Z Q))) (puts ρ [(0, (Value.slice l_0 l_0n l_0c))]) = law18_HoldUses.s62 Z Q l_0 l_0n l_0c := by kernel_rfl
def law18_HoldUses.j63 (Z : List PanicEntry → PT) (Q : Bool → PT) : Fr → PT := (fun ρ => atL (ρ 0) fun l_0 l_0n l_0c => (law18_HoldUses.s62 Z Q l_0 l_0n l_0c))
theorem law18_HoldUses.s62_ok (Z : List PanicEntry → PT) (Q : Bool → PT) : Ok Try.prog Try.f6.ntmps Z law18_HoldUses.body (law18_HoldUses.q10 Z Q) (law18_HoldUses.j63 Z Q) := by
  rw [law18_HoldUses.q5]
  intro ρ w a hr h
  obtain ⟨l_0, l_0n, l_0c, e0, h⟩ := atL_e h
  exact ok_at [(0, (Value.slice l_0 l_0n l_0c))] (ok_seq (okC law18_HoldUses.c1 _ (by kernel_rfl)) (ok_seq (okC law18_HoldUses.c2 _ (by kernel_rfl)) (ok_seq (okC law18_HoldUses.c3 _ (by kernel_rfl)) (law18_HoldUses.o61 Z Q)))) (puts_cons e0 (fun p hp => puts_nil hp)) (law18_HoldUses.s62_eq Z Q ρ l_0 l_0n l_0c) hr h
def law18_HoldUses.F (Z : List PanicEntry → PT) (Q : Bool → PT) (l_0 : Option Addr) (l_0n l_0c : Nat) : PT :=
  (law18_HoldUses.s62 Z Q l_0 l_0n l_0c)
theorem law18_HoldUses.vc (Z : List PanicEntry → PT) (Q : Bool → PT) (l_0 : Option Addr) (l_0n l_0c : Nat) (w : World) (h : law18_HoldUses.F Z Q l_0 l_0n l_0c w) : Calls Try.prog 6 ⟨[(Value.slice l_0 l_0n l_0c)]⟩ w fun e w' => (∃ (r0 : Bool), e = .returned (.bool r0) ∧ Q r0 w') ∨ ∃ c, e = .panicked c ∧ Z c w' := by
  refine (calls_of_ok (args := [(Value.slice l_0 l_0n l_0c)]) (w := w) (rs := [.tmp 2]) (fn := Try.f6) (c := law18_HoldUses.body) Try.func6 (by kernel_rfl) (by kernel_rfl) (Nat.le_of_ble_eq_true (by kernel_rfl)) (law18_HoldUses.s62_ok Z Q) (h)).mono fun e w' hR => ?_
  cases e with
  | returned v =>
    obtain ⟨va, rfl, hR⟩ := atB_e hR
    exact .inl ⟨va, rfl, hR⟩
  | panicked c => exact .inr ⟨c, rfl, hR⟩
  | outgrown => exact hR.elim
theorem law18_HoldUses.vc0 (Q : Bool → PT) (l_0 : Option Addr) (l_0n l_0c : Nat) (w : World) (h : law18_HoldUses.F Z0 Q l_0 l_0n l_0c w) : Calls Try.prog 6 ⟨[(Value.slice l_0 l_0n l_0c)]⟩ w fun e w' => (∃ (r0 : Bool), e = .returned (.bool r0) ∧ Q r0 w') :=
  (law18_HoldUses.vc Z0 Q l_0 l_0n l_0c w h).mono fun _ _ hR => hR.elim id fun ⟨_, _, hz⟩ => hz.elim
theorem law18_HoldUses.cal {Z : List PanicEntry → PT} {Q : Bool → PT} {l_0 : Option Addr} {l_0n l_0c : Nat} {w : World} (h : law18_HoldUses.F Z Q l_0 l_0n l_0c w) : Go.Proofs.Ythheldpjcndelaa.cal Try.prog Z 6 [(Value.slice l_0 l_0n l_0c)] (isB fun r0 => Q r0) w := by
  refine (law18_HoldUses.vc Z Q l_0 l_0n l_0c w h).mono fun e w' hR => ?_
  rcases hR with ⟨r0, rfl, h⟩ | ⟨c, rfl, h⟩
  · show (isB fun r0 => Q r0) (.bool r0) w'
    exact ⟨_, rfl, h⟩
  · exact h

/-! ### milepost/milepostlaw18.HoldPlays: function 7 -/
noncomputable def law18_HoldPlays.body : Code := bodyC Try.f7
noncomputable def law18_HoldPlays.c1 : Code := sq1 law18_HoldPlays.body
noncomputable def law18_HoldPlays.c2 : Code := sq1 (sq2 law18_HoldPlays.body)
noncomputable def law18_HoldPlays.c3 : Code := sq1 (sq2 (sq2 law18_HoldPlays.body))
noncomputable def law18_HoldPlays.c4 : Code := sq1 (sq2 (sq2 (sq2 law18_HoldPlays.body)))
noncomputable def law18_HoldPlays.c5 : Code := sq2 (sq2 (sq2 (sq2 law18_HoldPlays.body)))
theorem law18_HoldPlays.q6 : law18_HoldPlays.body = .seq law18_HoldPlays.c1 (.seq law18_HoldPlays.c2 (.seq law18_HoldPlays.c3 (.seq law18_HoldPlays.c4 law18_HoldPlays.c5))) := by kernel_rfl
noncomputable def law18_HoldPlays.c7 : Code := sq1 law18_HoldPlays.c5
noncomputable def law18_HoldPlays.c8 : Code := sq2 law18_HoldPlays.c5
theorem law18_HoldPlays.q9 : law18_HoldPlays.c5 = .seq law18_HoldPlays.c7 law18_HoldPlays.c8 := by kernel_rfl
def law18_HoldPlays.s10 (Z : List PanicEntry → PT) (Q : Bool → PT)  : PT :=
  (Q true)
def law18_HoldPlays.q11 (Z : List PanicEntry → PT) (Q : Bool → PT) : QF := bodyQ [.tmp 8] (fun v => atB v fun va => Q va)
theorem law18_HoldPlays.s10_eq (Z : List PanicEntry → PT) (Q : Bool → PT) (ρ : Fr)  : comp Try.prog Z law18_HoldPlays.c8 (law18_HoldPlays.q11 Z Q) (puts ρ []) = law18_HoldPlays.s10 Z Q  := by kernel_rfl
def law18_HoldPlays.j12 (Z : List PanicEntry → PT) (Q : Bool → PT) : Fr → PT := (fun ρ => (law18_HoldPlays.s10 Z Q ))
theorem law18_HoldPlays.s10_ok (Z : List PanicEntry → PT) (Q : Bool → PT) : Ok Try.prog Try.f7.ntmps Z law18_HoldPlays.c8 (law18_HoldPlays.q11 Z Q) (law18_HoldPlays.j12 Z Q) := by
  intro ρ w a hr h
  exact ok_at [] (okC law18_HoldPlays.c8 (law18_HoldPlays.q11 Z Q) (by kernel_rfl)) (fun p hp => puts_nil hp) (law18_HoldPlays.s10_eq Z Q ρ ) hr h
noncomputable def law18_HoldPlays.c13 : Code := sq1 law18_HoldPlays.c7
noncomputable def law18_HoldPlays.c14 : Code := sq2 law18_HoldPlays.c7
theorem law18_HoldPlays.q15 : law18_HoldPlays.c7 = .seq law18_HoldPlays.c13 law18_HoldPlays.c14 := by kernel_rfl
noncomputable def law18_HoldPlays.c16 : Code := blk law18_HoldPlays.c14
theorem law18_HoldPlays.q17 : law18_HoldPlays.c14 = .block 0 law18_HoldPlays.c16 := by kernel_rfl
noncomputable def law18_HoldPlays.c18 : Code := lop law18_HoldPlays.c16
theorem law18_HoldPlays.q19 : law18_HoldPlays.c16 = .loop law18_HoldPlays.c18 := by kernel_rfl
def law18_HoldPlays.q21 (Z : List PanicEntry → PT) (Q : Bool → PT) : QF := thenK (law18_HoldPlays.j12 Z Q) (law18_HoldPlays.q11 Z Q)
def law18_HoldPlays.q22 (Z : List PanicEntry → PT) (Q : Bool → PT) : QF := inBl 0 (law18_HoldPlays.q21 Z Q)
noncomputable def law18_HoldPlays.c23 : Code := sq1 law18_HoldPlays.c18
noncomputable def law18_HoldPlays.c24 : Code := sq2 law18_HoldPlays.c18
theorem law18_HoldPlays.q25 : law18_HoldPlays.c18 = .seq law18_HoldPlays.c23 law18_HoldPlays.c24 := by kernel_rfl
noncomputable def law18_HoldPlays.c26 : Code := sq1 law18_HoldPlays.c24
noncomputable def law18_HoldPlays.c27 : Code := sq2 law18_HoldPlays.c24
theorem law18_HoldPlays.q28 : law18_HoldPlays.c24 = .seq law18_HoldPlays.c26 law18_HoldPlays.c27 := by kernel_rfl
def law18_HoldPlays.s29 (Z : List PanicEntry → PT) (Q : Bool → PT) (X1 : Int → Option Addr → Nat → Nat → Int → Int → Option Addr → Option Addr → Int → PT) (inc_0 : Int) (l_1 : Option Addr) (l_1n l_1c : Nat) (now_2 : Int) (lease_3 : Int) (h_9 : Option Addr) (r_10 : Option Addr) (i_11 : Int) : PT :=
  (X1 inc_0 l_1 l_1n l_1c now_2 lease_3 h_9 r_10 (IntKind.wrap .i64 (i_11 + 1)))
def law18_HoldPlays.j30 (Z : List PanicEntry → PT) (Q : Bool → PT) (X1 : Int → Option Addr → Nat → Nat → Int → Int → Option Addr → Option Addr → Int → PT) : Fr → PT := (fun ρ => atI .i64 (ρ 0) fun inc_0 => atL (ρ 1) fun l_1 l_1n l_1c => atI .i64 (ρ 2) fun now_2 => atI .i64 (ρ 3) fun lease_3 => atP (ρ 9) fun h_9 => atP (ρ 10) fun r_10 => atI .i64 (ρ 11) fun i_11 => (X1 inc_0 l_1 l_1n l_1c now_2 lease_3 h_9 r_10 i_11))
def law18_HoldPlays.q31 (Z : List PanicEntry → PT) (Q : Bool → PT) (X1 : Int → Option Addr → Nat → Nat → Int → Int → Option Addr → Option Addr → Int → PT) : QF := thenK (law18_HoldPlays.j30 Z Q X1) (law18_HoldPlays.q22 Z Q)
theorem law18_HoldPlays.s29_eq (Z : List PanicEntry → PT) (Q : Bool → PT) (X1 : Int → Option Addr → Nat → Nat → Int → Int → Option Addr → Option Addr → Int → PT) (ρ : Fr) (inc_0 : Int) (l_1 : Option Addr) (l_1n l_1c : Nat) (now_2 : Int) (lease_3 : Int) (h_9 : Option Addr) (r_10 : Option Addr) (i_11 : Int) : comp Try.prog Z law18_HoldPlays.c27 (law18_HoldPlays.q31 Z Q X1) (puts ρ [(0, (Value.int .i64 inc_0)), (1, (Value.slice l_1 l_1n l_1c)), (2, (Value.int .i64 now_2)), (3, (Value.int .i64 lease_3)), (9, (Value.pointer h_9)), (10, (Value.pointer r_10)), (11, (Value.int .i64 i_11))]) = law18_HoldPlays.s29 Z Q X1 inc_0 l_1 l_1n l_1c now_2 lease_3 h_9 r_10 i_11 := by kernel_rfl
def law18_HoldPlays.j32 (Z : List PanicEntry → PT) (Q : Bool → PT) (X1 : Int → Option Addr → Nat → Nat → Int → Int → Option Addr → Option Addr → Int → PT) : Fr → PT := (fun ρ => atI .i64 (ρ 0) fun inc_0 => atL (ρ 1) fun l_1 l_1n l_1c => atI .i64 (ρ 2) fun now_2 => atI .i64 (ρ 3) fun lease_3 => atP (ρ 9) fun h_9 => atP (ρ 10) fun r_10 => atI .i64 (ρ 11) fun i_11 => (law18_HoldPlays.s29 Z Q X1 inc_0 l_1 l_1n l_1c now_2 lease_3 h_9 r_10 i_11))
theorem law18_HoldPlays.s29_ok (Z : List PanicEntry → PT) (Q : Bool → PT) (X1 : Int → Option Addr → Nat → Nat → Int → Int → Option Addr → Option Addr → Int → PT) : Ok Try.prog Try.f7.ntmps Z law18_HoldPlays.c27 (law18_HoldPlays.q31 Z Q X1) (law18_HoldPlays.j32 Z Q X1) := by
  intro ρ w a hr h
  obtain ⟨inc_0, e0, h⟩ := atI_e h
  obtain ⟨l_1, l_1n, l_1c, e1, h⟩ := atL_e h
  obtain ⟨now_2, e2, h⟩ := atI_e h
  obtain ⟨lease_3, e3, h⟩ := atI_e h
  obtain ⟨h_9, e9, h⟩ := atP_e h
  obtain ⟨r_10, e10, h⟩ := atP_e h
  obtain ⟨i_11, e11, h⟩ := atI_e h
  exact ok_at [(0, (Value.int .i64 inc_0)), (1, (Value.slice l_1 l_1n l_1c)), (2, (Value.int .i64 now_2)), (3, (Value.int .i64 lease_3)), (9, (Value.pointer h_9)), (10, (Value.pointer r_10)), (11, (Value.int .i64 i_11))] (okC law18_HoldPlays.c27 (law18_HoldPlays.q31 Z Q X1) (by kernel_rfl)) (puts_cons e0 (puts_cons e1 (puts_cons e2 (puts_cons e3 (puts_cons e9 (puts_cons e10 (puts_cons e11 (fun p hp => puts_nil hp)))))))) (law18_HoldPlays.s29_eq Z Q X1 ρ inc_0 l_1 l_1n l_1c now_2 lease_3 h_9 r_10 i_11) hr h
noncomputable def law18_HoldPlays.c33 : Code := blk law18_HoldPlays.c26
theorem law18_HoldPlays.q34 : law18_HoldPlays.c26 = .block 1 law18_HoldPlays.c33 := by kernel_rfl
noncomputable def law18_HoldPlays.c35 : Code := sq1 law18_HoldPlays.c33
noncomputable def law18_HoldPlays.c36 : Code := sq1 (sq2 law18_HoldPlays.c33)
noncomputable def law18_HoldPlays.c37 : Code := sq1 (sq2 (sq2 law18_HoldPlays.c33))
noncomputable def law18_HoldPlays.c38 : Code := sq2 (sq2 (sq2 law18_HoldPlays.c33))
theorem law18_HoldPlays.q39 : law18_HoldPlays.c33 = .seq law18_HoldPlays.c35 (.seq law18_HoldPlays.c36 (.seq law18_HoldPlays.c37 law18_HoldPlays.c38)) := by kernel_rfl
noncomputable def law18_HoldPlays.c40 : Code := sq1 law18_HoldPlays.c38
noncomputable def law18_HoldPlays.c41 : Code := sq2 law18_HoldPlays.c38
theorem law18_HoldPlays.q42 : law18_HoldPlays.c38 = .seq law18_HoldPlays.c40 law18_HoldPlays.c41 := by kernel_rfl
noncomputable def law18_HoldPlays.c43 : Code := sq1 law18_HoldPlays.c41
noncomputable def law18_HoldPlays.c44 : Code := sq1 (sq2 law18_HoldPlays.c41)
noncomputable def law18_HoldPlays.c45 : Code := sq1 (sq2 (sq2 law18_HoldPlays.c41))
noncomputable def law18_HoldPlays.c46 : Code := sq2 (sq2 (sq2 law18_HoldPlays.c41))
theorem law18_HoldPlays.q47 : law18_HoldPlays.c41 = .seq law18_HoldPlays.c43 (.seq law18_HoldPlays.c44 (.seq law18_HoldPlays.c45 law18_HoldPlays.c46)) := by kernel_rfl
def law18_HoldPlays.s48 (Z : List PanicEntry → PT) (Q : Bool → PT) (X1 : Int → Option Addr → Nat → Nat → Int → Int → Option Addr → Option Addr → Int → PT) (inc_0 : Int) (l_1 : Option Addr) (l_1n l_1c : Nat) (now_2 : Int) (lease_3 : Int) (h_9 : Option Addr) (r_10 : Option Addr) (i_11 : Int) (x_12 : Addr) (n_14 : Int) (of_15 : Int) (m_16 : Int) (all_17 : Int) : PT :=
  (pif (n_14 != m_16) (Q false) (pif (of_15 != all_17) (Q false) (ldI .i64 (x_12.add 2) fun v262 => (cal Try.prog Z 14 [(Value.pointer h_9), (Value.int .i64 v262)] (isB fun v263 => (pif (decide (m_16 > 0)) (pif (!(v263 == (m_16 == all_17))) (Q false) (law18_HoldPlays.s29 Z Q X1 inc_0 l_1 l_1n l_1c now_2 lease_3 h_9 r_10 i_11)) (pif (!(v263 == false)) (Q false) (law18_HoldPlays.s29 Z Q X1 inc_0 l_1 l_1n l_1c now_2 lease_3 h_9 r_10 i_11))))))))
def law18_HoldPlays.q49 (Z : List PanicEntry → PT) (Q : Bool → PT) (X1 : Int → Option Addr → Nat → Nat → Int → Int → Option Addr → Option Addr → Int → PT) : QF := thenK (law18_HoldPlays.j32 Z Q X1) (law18_HoldPlays.q31 Z Q X1)
def law18_HoldPlays.q50 (Z : List PanicEntry → PT) (Q : Bool → PT) (X1 : Int → Option Addr → Nat → Nat → Int → Int → Option Addr → Option Addr → Int → PT) : QF := inBl 1 (law18_HoldPlays.q49 Z Q X1)
theorem law18_HoldPlays.s48_eq (Z : List PanicEntry → PT) (Q : Bool → PT) (X1 : Int → Option Addr → Nat → Nat → Int → Int → Option Addr → Option Addr → Int → PT) (ρ : Fr) (inc_0 : Int) (l_1 : Option Addr) (l_1n l_1c : Nat) (now_2 : Int) (lease_3 : Int) (h_9 : Option Addr) (r_10 : Option Addr) (i_11 : Int) (x_12 : Addr) (n_14 : Int) (of_15 : Int) (m_16 : Int) (all_17 : Int) : comp Try.prog Z law18_HoldPlays.c46 (law18_HoldPlays.q50 Z Q X1) (puts ρ [(0, (Value.int .i64 inc_0)), (1, (Value.slice l_1 l_1n l_1c)), (2, (Value.int .i64 now_2)), (3, (Value.int .i64 lease_3)), (9, (Value.pointer h_9)), (10, (Value.pointer r_10)), (11, (Value.int .i64 i_11)), (12, (Value.pointer (some x_12))), (14, (Value.int .i64 n_14)), (15, (Value.int .i64 of_15)), (16, (Value.int .i64 m_16)), (17, (Value.int .i64 all_17))]) = law18_HoldPlays.s48 Z Q X1 inc_0 l_1 l_1n l_1c now_2 lease_3 h_9 r_10 i_11 x_12 n_14 of_15 m_16 all_17 := by kernel_rfl
def law18_HoldPlays.j51 (Z : List PanicEntry → PT) (Q : Bool → PT) (X1 : Int → Option Addr → Nat → Nat → Int → Int → Option Addr → Option Addr → Int → PT) : Fr → PT := (fun ρ => atI .i64 (ρ 0) fun inc_0 => atL (ρ 1) fun l_1 l_1n l_1c => atI .i64 (ρ 2) fun now_2 => atI .i64 (ρ 3) fun lease_3 => atP (ρ 9) fun h_9 => atP (ρ 10) fun r_10 => atI .i64 (ρ 11) fun i_11 => atA (ρ 12) fun x_12 => atI .i64 (ρ 14) fun n_14 => atI .i64 (ρ 15) fun of_15 => atI .i64 (ρ 16) fun m_16 => atI .i64 (ρ 17) fun all_17 => (law18_HoldPlays.s48 Z Q X1 inc_0 l_1 l_1n l_1c now_2 lease_3 h_9 r_10 i_11 x_12 n_14 of_15 m_16 all_17))
theorem law18_HoldPlays.s48_ok (Z : List PanicEntry → PT) (Q : Bool → PT) (X1 : Int → Option Addr → Nat → Nat → Int → Int → Option Addr → Option Addr → Int → PT) : Ok Try.prog Try.f7.ntmps Z law18_HoldPlays.c46 (law18_HoldPlays.q50 Z Q X1) (law18_HoldPlays.j51 Z Q X1) := by
  intro ρ w a hr h
  obtain ⟨inc_0, e0, h⟩ := atI_e h
  obtain ⟨l_1, l_1n, l_1c, e1, h⟩ := atL_e h
  obtain ⟨now_2, e2, h⟩ := atI_e h
  obtain ⟨lease_3, e3, h⟩ := atI_e h
  obtain ⟨h_9, e9, h⟩ := atP_e h
  obtain ⟨r_10, e10, h⟩ := atP_e h
  obtain ⟨i_11, e11, h⟩ := atI_e h
  obtain ⟨x_12, e12, h⟩ := atA_e h
  obtain ⟨n_14, e14, h⟩ := atI_e h
  obtain ⟨of_15, e15, h⟩ := atI_e h
  obtain ⟨m_16, e16, h⟩ := atI_e h
  obtain ⟨all_17, e17, h⟩ := atI_e h
  exact ok_at [(0, (Value.int .i64 inc_0)), (1, (Value.slice l_1 l_1n l_1c)), (2, (Value.int .i64 now_2)), (3, (Value.int .i64 lease_3)), (9, (Value.pointer h_9)), (10, (Value.pointer r_10)), (11, (Value.int .i64 i_11)), (12, (Value.pointer (some x_12))), (14, (Value.int .i64 n_14)), (15, (Value.int .i64 of_15)), (16, (Value.int .i64 m_16)), (17, (Value.int .i64 all_17))] (okC law18_HoldPlays.c46 (law18_HoldPlays.q50 Z Q X1) (by kernel_rfl)) (puts_cons e0 (puts_cons e1 (puts_cons e2 (puts_cons e3 (puts_cons e9 (puts_cons e10 (puts_cons e11 (puts_cons e12 (puts_cons e14 (puts_cons e15 (puts_cons e16 (puts_cons e17 (fun p hp => puts_nil hp))))))))))))) (law18_HoldPlays.s48_eq Z Q X1 ρ inc_0 l_1 l_1n l_1c now_2 lease_3 h_9 r_10 i_11 x_12 n_14 of_15 m_16 all_17) hr h
def law18_HoldPlays.s52 (Z : List PanicEntry → PT) (Q : Bool → PT) (X1 : Int → Option Addr → Nat → Nat → Int → Int → Option Addr → Option Addr → Int → PT) (inc_0 : Int) (l_1 : Option Addr) (l_1n l_1c : Nat) (now_2 : Int) (lease_3 : Int) (h_9 : Option Addr) (r_10 : Option Addr) (i_11 : Int) (x_12 : Addr) : PT :=
  (ldI .i64 (x_12.add 2) fun v264 => (cal Try.prog Z 16 [(Value.pointer h_9), (Value.int .i64 v264)] (isT2 fun t265 t266 => (isI .i64 fun v267 => ((isI .i64 fun v268 => (ldI .i64 (x_12.add 2) fun v269 => (cal Try.prog Z 24 [(Value.pointer r_10), (Value.int .i64 v269)] (isT2 fun t270 t271 => (isI .i64 fun v272 => ((isI .i64 fun v273 => (ldI .i64 (x_12.add 2) fun v274 => (pif (decide (v274 < 1)) (law18_HoldPlays.s48 Z Q X1 inc_0 l_1 l_1n l_1c now_2 lease_3 h_9 r_10 i_11 x_12 v267 v268 0 0) (law18_HoldPlays.s48 Z Q X1 inc_0 l_1 l_1n l_1c now_2 lease_3 h_9 r_10 i_11 x_12 v267 v268 v272 v273)))) t271)) t270)))) t266)) t265)))
theorem law18_HoldPlays.s52_eq (Z : List PanicEntry → PT) (Q : Bool → PT) (X1 : Int → Option Addr → Nat → Nat → Int → Int → Option Addr → Option Addr → Int → PT) (ρ : Fr) (inc_0 : Int) (l_1 : Option Addr) (l_1n l_1c : Nat) (now_2 : Int) (lease_3 : Int) (h_9 : Option Addr) (r_10 : Option Addr) (i_11 : Int) (x_12 : Addr) : (comp Try.prog Z law18_HoldPlays.c43 (thenK (comp Try.prog Z law18_HoldPlays.c44 (thenK (comp Try.prog Z law18_HoldPlays.c45 (thenK (law18_HoldPlays.j51 Z Q X1) (law18_HoldPlays.q50 Z Q X1))) (law18_HoldPlays.q50 Z Q X1))) (law18_HoldPlays.q50 Z Q X1))) (puts ρ [(0, (Value.int .i64 inc_0)), (1, (Value.slice l_1 l_1n l_1c)), (2, (Value.int .i64 now_2)), (3, (Value.int .i64 lease_3)), (9, (Value.pointer h_9)), (10, (Value.pointer r_10)), (11, (Value.int .i64 i_11)), (12, (Value.pointer (some x_12)))]) = law18_HoldPlays.s52 Z Q X1 inc_0 l_1 l_1n l_1c now_2 lease_3 h_9 r_10 i_11 x_12 := by kernel_rfl
def law18_HoldPlays.j53 (Z : List PanicEntry → PT) (Q : Bool → PT) (X1 : Int → Option Addr → Nat → Nat → Int → Int → Option Addr → Option Addr → Int → PT) : Fr → PT := (fun ρ => atI .i64 (ρ 0) fun inc_0 => atL (ρ 1) fun l_1 l_1n l_1c => atI .i64 (ρ 2) fun now_2 => atI .i64 (ρ 3) fun lease_3 => atP (ρ 9) fun h_9 => atP (ρ 10) fun r_10 => atI .i64 (ρ 11) fun i_11 => atA (ρ 12) fun x_12 => (law18_HoldPlays.s52 Z Q X1 inc_0 l_1 l_1n l_1c now_2 lease_3 h_9 r_10 i_11 x_12))
theorem law18_HoldPlays.s52_ok (Z : List PanicEntry → PT) (Q : Bool → PT) (X1 : Int → Option Addr → Nat → Nat → Int → Int → Option Addr → Option Addr → Int → PT) : Ok Try.prog Try.f7.ntmps Z law18_HoldPlays.c41 (law18_HoldPlays.q50 Z Q X1) (law18_HoldPlays.j53 Z Q X1) := by
  rw [law18_HoldPlays.q47]
  intro ρ w a hr h
  obtain ⟨inc_0, e0, h⟩ := atI_e h
  obtain ⟨l_1, l_1n, l_1c, e1, h⟩ := atL_e h
  obtain ⟨now_2, e2, h⟩ := atI_e h
  obtain ⟨lease_3, e3, h⟩ := atI_e h
  obtain ⟨h_9, e9, h⟩ := atP_e h
  obtain ⟨r_10, e10, h⟩ := atP_e h
  obtain ⟨i_11, e11, h⟩ := atI_e h
  obtain ⟨x_12, e12, h⟩ := atA_e h
  exact ok_at [(0, (Value.int .i64 inc_0)), (1, (Value.slice l_1 l_1n l_1c)), (2, (Value.int .i64 now_2)), (3, (Value.int .i64 lease_3)), (9, (Value.pointer h_9)), (10, (Value.pointer r_10)), (11, (Value.int .i64 i_11)), (12, (Value.pointer (some x_12)))] (ok_seq (okC law18_HoldPlays.c43 _ (by kernel_rfl)) (ok_seq (okC law18_HoldPlays.c44 _ (by kernel_rfl)) (ok_seq (okC law18_HoldPlays.c45 _ (by kernel_rfl)) (law18_HoldPlays.s48_ok Z Q X1)))) (puts_cons e0 (puts_cons e1 (puts_cons e2 (puts_cons e3 (puts_cons e9 (puts_cons e10 (puts_cons e11 (puts_cons e12 (fun p hp => puts_nil hp))))))))) (law18_HoldPlays.s52_eq Z Q X1 ρ inc_0 l_1 l_1n l_1c now_2 lease_3 h_9 r_10 i_11 x_12) hr h
noncomputable def law18_HoldPlays.c54 : Code := sq1 law18_HoldPlays.c40
noncomputable def law18_HoldPlays.c55 : Code := sq2 law18_HoldPlays.c40
theorem law18_HoldPlays.q56 : law18_HoldPlays.c40 = .seq law18_HoldPlays.c54 law18_HoldPlays.c55 := by kernel_rfl
def law18_HoldPlays.s57 (Z : List PanicEntry → PT) (Q : Bool → PT) (X1 : Int → Option Addr → Nat → Nat → Int → Int → Option Addr → Option Addr → Int → PT) (inc_0 : Int) (l_1 : Option Addr) (l_1n l_1c : Nat) (now_2 : Int) (lease_3 : Int) (h_9 : Option Addr) (r_10 : Option Addr) (i_11 : Int) (x_12 : Addr) (t_108 : Bool) : PT :=
  (pif t_108 (Q false) (law18_HoldPlays.s52 Z Q X1 inc_0 l_1 l_1n l_1c now_2 lease_3 h_9 r_10 i_11 x_12))
def law18_HoldPlays.q58 (Z : List PanicEntry → PT) (Q : Bool → PT) (X1 : Int → Option Addr → Nat → Nat → Int → Int → Option Addr → Option Addr → Int → PT) : QF := thenK (law18_HoldPlays.j53 Z Q X1) (law18_HoldPlays.q50 Z Q X1)
theorem law18_HoldPlays.s57_eq (Z : List PanicEntry → PT) (Q : Bool → PT) (X1 : Int → Option Addr → Nat → Nat → Int → Int → Option Addr → Option Addr → Int → PT) (ρ : Fr) (inc_0 : Int) (l_1 : Option Addr) (l_1n l_1c : Nat) (now_2 : Int) (lease_3 : Int) (h_9 : Option Addr) (r_10 : Option Addr) (i_11 : Int) (x_12 : Addr) (t_108 : Bool) : comp Try.prog Z law18_HoldPlays.c55 (law18_HoldPlays.q58 Z Q X1) (puts ρ [(0, (Value.int .i64 inc_0)), (1, (Value.slice l_1 l_1n l_1c)), (2, (Value.int .i64 now_2)), (3, (Value.int .i64 lease_3)), (9, (Value.pointer h_9)), (10, (Value.pointer r_10)), (11, (Value.int .i64 i_11)), (12, (Value.pointer (some x_12))), (108, (Value.bool t_108))]) = law18_HoldPlays.s57 Z Q X1 inc_0 l_1 l_1n l_1c now_2 lease_3 h_9 r_10 i_11 x_12 t_108 := by kernel_rfl
def law18_HoldPlays.j59 (Z : List PanicEntry → PT) (Q : Bool → PT) (X1 : Int → Option Addr → Nat → Nat → Int → Int → Option Addr → Option Addr → Int → PT) : Fr → PT := (fun ρ => atI .i64 (ρ 0) fun inc_0 => atL (ρ 1) fun l_1 l_1n l_1c => atI .i64 (ρ 2) fun now_2 => atI .i64 (ρ 3) fun lease_3 => atP (ρ 9) fun h_9 => atP (ρ 10) fun r_10 => atI .i64 (ρ 11) fun i_11 => atA (ρ 12) fun x_12 => atB (ρ 108) fun t_108 => (law18_HoldPlays.s57 Z Q X1 inc_0 l_1 l_1n l_1c now_2 lease_3 h_9 r_10 i_11 x_12 t_108))
theorem law18_HoldPlays.s57_ok (Z : List PanicEntry → PT) (Q : Bool → PT) (X1 : Int → Option Addr → Nat → Nat → Int → Int → Option Addr → Option Addr → Int → PT) : Ok Try.prog Try.f7.ntmps Z law18_HoldPlays.c55 (law18_HoldPlays.q58 Z Q X1) (law18_HoldPlays.j59 Z Q X1) := by
  intro ρ w a hr h
  obtain ⟨inc_0, e0, h⟩ := atI_e h
  obtain ⟨l_1, l_1n, l_1c, e1, h⟩ := atL_e h
  obtain ⟨now_2, e2, h⟩ := atI_e h
  obtain ⟨lease_3, e3, h⟩ := atI_e h
  obtain ⟨h_9, e9, h⟩ := atP_e h
  obtain ⟨r_10, e10, h⟩ := atP_e h
  obtain ⟨i_11, e11, h⟩ := atI_e h
  obtain ⟨x_12, e12, h⟩ := atA_e h
  obtain ⟨t_108, e108, h⟩ := atB_e h
  exact ok_at [(0, (Value.int .i64 inc_0)), (1, (Value.slice l_1 l_1n l_1c)), (2, (Value.int .i64 now_2)), (3, (Value.int .i64 lease_3)), (9, (Value.pointer h_9)), (10, (Value.pointer r_10)), (11, (Value.int .i64 i_11)), (12, (Value.pointer (some x_12))), (108, (Value.bool t_108))] (okC law18_HoldPlays.c55 (law18_HoldPlays.q58 Z Q X1) (by kernel_rfl)) (puts_cons e0 (puts_cons e1 (puts_cons e2 (puts_cons e3 (puts_cons e9 (puts_cons e10 (puts_cons e11 (puts_cons e12 (puts_cons e108 (fun p hp => puts_nil hp)))))))))) (law18_HoldPlays.s57_eq Z Q X1 ρ inc_0 l_1 l_1n l_1c now_2 lease_3 h_9 r_10 i_11 x_12 t_108) hr h
def law18_HoldPlays.s60 (Z : List PanicEntry → PT) (Q : Bool → PT) (X1 : Int → Option Addr → Nat → Nat → Int → Int → Option Addr → Option Addr → Int → PT) (inc_0 : Int) (l_1 : Option Addr) (l_1n l_1c : Nat) (now_2 : Int) (lease_3 : Int) (h_9 : Option Addr) (r_10 : Option Addr) (i_11 : Int) (x_12 : Addr) (want_13 : Int) : PT :=
  (drawn fun S305 => (hN S305 6 x_12 fun v306 => (cal Try.prog Z 11 [(Value.pointer h_9), (Value.agg ⟨v306⟩)] (isI .i64 fun v307 => (sAnd S305 (pif (v307 != want_13) (law18_HoldPlays.s57 Z Q X1 inc_0 l_1 l_1n l_1c now_2 lease_3 h_9 r_10 i_11 x_12 true) (cal Try.prog Z 22 [(Value.pointer h_9)] (isI .i64 fun v308 => (sAnd S305 (pif (v308 != inc_0) (law18_HoldPlays.s57 Z Q X1 inc_0 l_1 l_1n l_1c now_2 lease_3 h_9 r_10 i_11 x_12 true) (nn r_10 fun v309 => (hI S305 .i64 (v309.add 1) fun v310 => (cal Try.prog Z 18 [(Value.pointer h_9)] (isI .i64 fun v311 => (sAnd S305 (pif (v311 != v310) (law18_HoldPlays.s57 Z Q X1 inc_0 l_1 l_1n l_1c now_2 lease_3 h_9 r_10 i_11 x_12 true) (nn r_10 fun v312 => (hI S305 .i64 (v312.add 2) fun v313 => (cal Try.prog Z 19 [(Value.pointer h_9)] (isI .i64 fun v314 => (sAnd S305 (pif (v314 != v313) (law18_HoldPlays.s57 Z Q X1 inc_0 l_1 l_1n l_1c now_2 lease_3 h_9 r_10 i_11 x_12 true) (nn r_10 fun v315 => (hI S305 .i64 (v315.add 3) fun v316 => (cal Try.prog Z 13 [(Value.pointer h_9)] (isI .i64 fun v317 => (sAnd S305 (pif (v317 != v316) (law18_HoldPlays.s57 Z Q X1 inc_0 l_1 l_1n l_1c now_2 lease_3 h_9 r_10 i_11 x_12 true) (cal Try.prog Z 12 [(Value.pointer h_9), (Value.int .i64 now_2), (Value.int .i64 lease_3)] (isB fun v318 => (sAnd S305 (cal Try.prog Z 23 [(Value.pointer r_10), (Value.int .i64 now_2), (Value.int .i64 lease_3)] (isB fun v319 => (sAnd S305 (law18_HoldPlays.s57 Z Q X1 inc_0 l_1 l_1n l_1c now_2 lease_3 h_9 r_10 i_11 x_12 (!(v318 == v319)))))))))))))))))))))))))))))))))))))
theorem law18_HoldPlays.s60_eq (Z : List PanicEntry → PT) (Q : Bool → PT) (X1 : Int → Option Addr → Nat → Nat → Int → Int → Option Addr → Option Addr → Int → PT) (ρ : Fr) (inc_0 : Int) (l_1 : Option Addr) (l_1n l_1c : Nat) (now_2 : Int) (lease_3 : Int) (h_9 : Option Addr) (r_10 : Option Addr) (i_11 : Int) (x_12 : Addr) (want_13 : Int) : (comp Try.prog Z law18_HoldPlays.c54 (thenK (law18_HoldPlays.j59 Z Q X1) (law18_HoldPlays.q58 Z Q X1))) (puts ρ [(0, (Value.int .i64 inc_0)), (1, (Value.slice l_1 l_1n l_1c)), (2, (Value.int .i64 now_2)), (3, (Value.int .i64 lease_3)), (9, (Value.pointer h_9)), (10, (Value.pointer r_10)), (11, (Value.int .i64 i_11)), (12, (Value.pointer (some x_12))), (13, (Value.int .i64 want_13))]) = law18_HoldPlays.s60 Z Q X1 inc_0 l_1 l_1n l_1c now_2 lease_3 h_9 r_10 i_11 x_12 want_13 := by kernel_rfl
def law18_HoldPlays.j61 (Z : List PanicEntry → PT) (Q : Bool → PT) (X1 : Int → Option Addr → Nat → Nat → Int → Int → Option Addr → Option Addr → Int → PT) : Fr → PT := (fun ρ => atI .i64 (ρ 0) fun inc_0 => atL (ρ 1) fun l_1 l_1n l_1c => atI .i64 (ρ 2) fun now_2 => atI .i64 (ρ 3) fun lease_3 => atP (ρ 9) fun h_9 => atP (ρ 10) fun r_10 => atI .i64 (ρ 11) fun i_11 => atA (ρ 12) fun x_12 => atI .i64 (ρ 13) fun want_13 => (law18_HoldPlays.s60 Z Q X1 inc_0 l_1 l_1n l_1c now_2 lease_3 h_9 r_10 i_11 x_12 want_13))
theorem law18_HoldPlays.s60_ok (Z : List PanicEntry → PT) (Q : Bool → PT) (X1 : Int → Option Addr → Nat → Nat → Int → Int → Option Addr → Option Addr → Int → PT) : Ok Try.prog Try.f7.ntmps Z law18_HoldPlays.c40 (law18_HoldPlays.q58 Z Q X1) (law18_HoldPlays.j61 Z Q X1) := by
  rw [law18_HoldPlays.q56]
  intro ρ w a hr h
  obtain ⟨inc_0, e0, h⟩ := atI_e h
  obtain ⟨l_1, l_1n, l_1c, e1, h⟩ := atL_e h
  obtain ⟨now_2, e2, h⟩ := atI_e h
  obtain ⟨lease_3, e3, h⟩ := atI_e h
  obtain ⟨h_9, e9, h⟩ := atP_e h
  obtain ⟨r_10, e10, h⟩ := atP_e h
  obtain ⟨i_11, e11, h⟩ := atI_e h
  obtain ⟨x_12, e12, h⟩ := atA_e h
  obtain ⟨want_13, e13, h⟩ := atI_e h
  exact ok_at [(0, (Value.int .i64 inc_0)), (1, (Value.slice l_1 l_1n l_1c)), (2, (Value.int .i64 now_2)), (3, (Value.int .i64 lease_3)), (9, (Value.pointer h_9)), (10, (Value.pointer r_10)), (11, (Value.int .i64 i_11)), (12, (Value.pointer (some x_12))), (13, (Value.int .i64 want_13))] (ok_seq (okC law18_HoldPlays.c54 _ (by kernel_rfl)) (law18_HoldPlays.s57_ok Z Q X1)) (puts_cons e0 (puts_cons e1 (puts_cons e2 (puts_cons e3 (puts_cons e9 (puts_cons e10 (puts_cons e11 (puts_cons e12 (puts_cons e13 (fun p hp => puts_nil hp)))))))))) (law18_HoldPlays.s60_eq Z Q X1 ρ inc_0 l_1 l_1n l_1c now_2 lease_3 h_9 r_10 i_11 x_12 want_13) hr h
theorem law18_HoldPlays.o62 (Z : List PanicEntry → PT) (Q : Bool → PT) (X1 : Int → Option Addr → Nat → Nat → Int → Int → Option Addr → Option Addr → Int → PT) : Ok Try.prog Try.f7.ntmps Z law18_HoldPlays.c38 (law18_HoldPlays.q50 Z Q X1) (law18_HoldPlays.j61 Z Q X1) := by
  rw [law18_HoldPlays.q42]; exact ok_seq (law18_HoldPlays.s60_ok Z Q X1) (law18_HoldPlays.s52_ok Z Q X1)
def law18_HoldPlays.s63 (Z : List PanicEntry → PT) (Q : Bool → PT) (X1 : Int → Option Addr → Nat → Nat → Int → Int → Option Addr → Option Addr → Int → PT) (inc_0 : Int) (l_1 : Option Addr) (l_1n l_1c : Nat) (now_2 : Int) (lease_3 : Int) (h_9 : Option Addr) (r_10 : Option Addr) (i_11 : Int) : PT :=
  (ixS l_1 l_1n i_11 6 fun v320 => (ldN 6 v320 fun v321 => (newC 28 [(Value.bool false), (Value.int .i64 0), (Value.int .i64 0), (Value.int .i64 0), (Value.int .i64 0), (Value.int .i64 0)] fun x322 => (stN 6 x322 v321 (ldB (x322.add 0) fun v323 => (pif (!v323) (ldI .i64 (x322.add 1) fun v324 => (ldI .i64 (x322.add 2) fun v325 => (ldI .i64 (x322.add 3) fun v326 => (ldI .i64 (x322.add 4) fun v327 => (cal Try.prog Z 20 [(Value.pointer r_10), (Value.int .i64 v324), (Value.int .i64 v325), (Value.int .i64 v326), (Value.int .i64 v327)] (isI .i64 fun v328 => (law18_HoldPlays.s60 Z Q X1 inc_0 l_1 l_1n l_1c now_2 lease_3 h_9 r_10 i_11 x322 v328))))))) (ldI .i64 (x322.add 5) fun v329 => (ldI .i64 (x322.add 2) fun v330 => (ldI .i64 (x322.add 1) fun v331 => (cal Try.prog Z 21 [(Value.pointer r_10), (Value.int .i64 v329), (Value.int .i64 v330), (Value.int .i64 v331)] (isB fun v332 => (pif v332 (law18_HoldPlays.s60 Z Q X1 inc_0 l_1 l_1n l_1c now_2 lease_3 h_9 r_10 i_11 x322 1) (law18_HoldPlays.s60 Z Q X1 inc_0 l_1 l_1n l_1c now_2 lease_3 h_9 r_10 i_11 x322 0)))))))))))))
theorem law18_HoldPlays.s63_eq (Z : List PanicEntry → PT) (Q : Bool → PT) (X1 : Int → Option Addr → Nat → Nat → Int → Int → Option Addr → Option Addr → Int → PT) (ρ : Fr) (inc_0 : Int) (l_1 : Option Addr) (l_1n l_1c : Nat) (now_2 : Int) (lease_3 : Int) (h_9 : Option Addr) (r_10 : Option Addr) (i_11 : Int) : (comp Try.prog Z law18_HoldPlays.c35 (thenK (comp Try.prog Z law18_HoldPlays.c36 (thenK (comp Try.prog Z law18_HoldPlays.c37 (thenK (law18_HoldPlays.j61 Z Q X1) (law18_HoldPlays.q50 Z Q X1))) (law18_HoldPlays.q50 Z Q X1))) (law18_HoldPlays.q50 Z Q X1))) (puts ρ [(0, (Value.int .i64 inc_0)), (1, (Value.slice l_1 l_1n l_1c)), (2, (Value.int .i64 now_2)), (3, (Value.int .i64 lease_3)), (9, (Value.pointer h_9)), (10, (Value.pointer r_10)), (11, (Value.int .i64 i_11))]) = law18_HoldPlays.s63 Z Q X1 inc_0 l_1 l_1n l_1c now_2 lease_3 h_9 r_10 i_11 := by kernel_rfl
def law18_HoldPlays.j64 (Z : List PanicEntry → PT) (Q : Bool → PT) (X1 : Int → Option Addr → Nat → Nat → Int → Int → Option Addr → Option Addr → Int → PT) : Fr → PT := (fun ρ => atI .i64 (ρ 0) fun inc_0 => atL (ρ 1) fun l_1 l_1n l_1c => atI .i64 (ρ 2) fun now_2 => atI .i64 (ρ 3) fun lease_3 => atP (ρ 9) fun h_9 => atP (ρ 10) fun r_10 => atI .i64 (ρ 11) fun i_11 => (law18_HoldPlays.s63 Z Q X1 inc_0 l_1 l_1n l_1c now_2 lease_3 h_9 r_10 i_11))
theorem law18_HoldPlays.s63_ok (Z : List PanicEntry → PT) (Q : Bool → PT) (X1 : Int → Option Addr → Nat → Nat → Int → Int → Option Addr → Option Addr → Int → PT) : Ok Try.prog Try.f7.ntmps Z law18_HoldPlays.c33 (law18_HoldPlays.q50 Z Q X1) (law18_HoldPlays.j64 Z Q X1) := by
  rw [law18_HoldPlays.q39]
  intro ρ w a hr h
  obtain ⟨inc_0, e0, h⟩ := atI_e h
  obtain ⟨l_1, l_1n, l_1c, e1, h⟩ := atL_e h
  obtain ⟨now_2, e2, h⟩ := atI_e h
  obtain ⟨lease_3, e3, h⟩ := atI_e h
  obtain ⟨h_9, e9, h⟩ := atP_e h
  obtain ⟨r_10, e10, h⟩ := atP_e h
  obtain ⟨i_11, e11, h⟩ := atI_e h
  exact ok_at [(0, (Value.int .i64 inc_0)), (1, (Value.slice l_1 l_1n l_1c)), (2, (Value.int .i64 now_2)), (3, (Value.int .i64 lease_3)), (9, (Value.pointer h_9)), (10, (Value.pointer r_10)), (11, (Value.int .i64 i_11))] (ok_seq (okC law18_HoldPlays.c35 _ (by kernel_rfl)) (ok_seq (okC law18_HoldPlays.c36 _ (by kernel_rfl)) (ok_seq (okC law18_HoldPlays.c37 _ (by kernel_rfl)) (law18_HoldPlays.o62 Z Q X1)))) (puts_cons e0 (puts_cons e1 (puts_cons e2 (puts_cons e3 (puts_cons e9 (puts_cons e10 (puts_cons e11 (fun p hp => puts_nil hp)))))))) (law18_HoldPlays.s63_eq Z Q X1 ρ inc_0 l_1 l_1n l_1c now_2 lease_3 h_9 r_10 i_11) hr h
theorem law18_HoldPlays.o65 (Z : List PanicEntry → PT) (Q : Bool → PT) (X1 : Int → Option Addr → Nat → Nat → Int → Int → Option Addr → Option Addr → Int → PT) : Ok Try.prog Try.f7.ntmps Z law18_HoldPlays.c26 (law18_HoldPlays.q49 Z Q X1) (law18_HoldPlays.j64 Z Q X1) := by
  rw [law18_HoldPlays.q34]; exact ok_block (law18_HoldPlays.s63_ok Z Q X1)
theorem law18_HoldPlays.o66 (Z : List PanicEntry → PT) (Q : Bool → PT) (X1 : Int → Option Addr → Nat → Nat → Int → Int → Option Addr → Option Addr → Int → PT) : Ok Try.prog Try.f7.ntmps Z law18_HoldPlays.c24 (law18_HoldPlays.q31 Z Q X1) (law18_HoldPlays.j64 Z Q X1) := by
  rw [law18_HoldPlays.q28]; exact ok_seq (law18_HoldPlays.o65 Z Q X1) (law18_HoldPlays.s29_ok Z Q X1)
def law18_HoldPlays.s67 (Z : List PanicEntry → PT) (Q : Bool → PT) (X1 : Int → Option Addr → Nat → Nat → Int → Int → Option Addr → Option Addr → Int → PT) (inc_0 : Int) (l_1 : Option Addr) (l_1n l_1c : Nat) (now_2 : Int) (lease_3 : Int) (h_9 : Option Addr) (r_10 : Option Addr) (i_11 : Int) : PT :=
  (pif (decide (i_11 < ((l_1n : Nat) : Int))) (pif (decide (i_11 < 80)) (law18_HoldPlays.s63 Z Q X1 inc_0 l_1 l_1n l_1c now_2 lease_3 h_9 r_10 i_11) (law18_HoldPlays.s10 Z Q )) (law18_HoldPlays.s10 Z Q ))
theorem law18_HoldPlays.s67_eq (Z : List PanicEntry → PT) (Q : Bool → PT) (X1 : Int → Option Addr → Nat → Nat → Int → Int → Option Addr → Option Addr → Int → PT) (ρ : Fr) (inc_0 : Int) (l_1 : Option Addr) (l_1n l_1c : Nat) (now_2 : Int) (lease_3 : Int) (h_9 : Option Addr) (r_10 : Option Addr) (i_11 : Int) : (comp Try.prog Z law18_HoldPlays.c23 (thenK (law18_HoldPlays.j64 Z Q X1) (law18_HoldPlays.q31 Z Q X1))) (puts ρ [(0, (Value.int .i64 inc_0)), (1, (Value.slice l_1 l_1n l_1c)), (2, (Value.int .i64 now_2)), (3, (Value.int .i64 lease_3)), (9, (Value.pointer h_9)), (10, (Value.pointer r_10)), (11, (Value.int .i64 i_11))]) = law18_HoldPlays.s67 Z Q X1 inc_0 l_1 l_1n l_1c now_2 lease_3 h_9 r_10 i_11 := by kernel_rfl
def law18_HoldPlays.j68 (Z : List PanicEntry → PT) (Q : Bool → PT) (X1 : Int → Option Addr → Nat → Nat → Int → Int → Option Addr → Option Addr → Int → PT) : Fr → PT := (fun ρ => atI .i64 (ρ 0) fun inc_0 => atL (ρ 1) fun l_1 l_1n l_1c => atI .i64 (ρ 2) fun now_2 => atI .i64 (ρ 3) fun lease_3 => atP (ρ 9) fun h_9 => atP (ρ 10) fun r_10 => atI .i64 (ρ 11) fun i_11 => (law18_HoldPlays.s67 Z Q X1 inc_0 l_1 l_1n l_1c now_2 lease_3 h_9 r_10 i_11))
theorem law18_HoldPlays.s67_ok (Z : List PanicEntry → PT) (Q : Bool → PT) (X1 : Int → Option Addr → Nat → Nat → Int → Int → Option Addr → Option Addr → Int → PT) : Ok Try.prog Try.f7.ntmps Z law18_HoldPlays.c18 (law18_HoldPlays.q31 Z Q X1) (law18_HoldPlays.j68 Z Q X1) := by
  rw [law18_HoldPlays.q25]
  intro ρ w a hr h
  obtain ⟨inc_0, e0, h⟩ := atI_e h
  obtain ⟨l_1, l_1n, l_1c, e1, h⟩ := atL_e h
  obtain ⟨now_2, e2, h⟩ := atI_e h
  obtain ⟨lease_3, e3, h⟩ := atI_e h
  obtain ⟨h_9, e9, h⟩ := atP_e h
  obtain ⟨r_10, e10, h⟩ := atP_e h
  obtain ⟨i_11, e11, h⟩ := atI_e h
  exact ok_at [(0, (Value.int .i64 inc_0)), (1, (Value.slice l_1 l_1n l_1c)), (2, (Value.int .i64 now_2)), (3, (Value.int .i64 lease_3)), (9, (Value.pointer h_9)), (10, (Value.pointer r_10)), (11, (Value.int .i64 i_11))] (ok_seq (okC law18_HoldPlays.c23 _ (by kernel_rfl)) (law18_HoldPlays.o66 Z Q X1)) (puts_cons e0 (puts_cons e1 (puts_cons e2 (puts_cons e3 (puts_cons e9 (puts_cons e10 (puts_cons e11 (fun p hp => puts_nil hp)))))))) (law18_HoldPlays.s67_eq Z Q X1 ρ inc_0 l_1 l_1n l_1c now_2 lease_3 h_9 r_10 i_11) hr h
def law18_HoldPlays.l20 (Z : List PanicEntry → PT) (Q : Bool → PT) : Nat → Int → Option Addr → Nat → Nat → Int → Int → Option Addr → Option Addr → Int → PT
  | 0, _, _, _, _, _, _, _, _, _ => bad
  | k + 1, inc_0, l_1, l_1n, l_1c, now_2, lease_3, h_9, r_10, i_11 => (law18_HoldPlays.s67 Z Q (law18_HoldPlays.l20 Z Q k) inc_0 l_1 l_1n l_1c now_2 lease_3 h_9 r_10 i_11)
def law18_HoldPlays.j69 (Z : List PanicEntry → PT) (Q : Bool → PT) (k : Nat) : Fr → PT := (fun ρ => atI .i64 (ρ 0) fun inc_0 => atL (ρ 1) fun l_1 l_1n l_1c => atI .i64 (ρ 2) fun now_2 => atI .i64 (ρ 3) fun lease_3 => atP (ρ 9) fun h_9 => atP (ρ 10) fun r_10 => atI .i64 (ρ 11) fun i_11 => (law18_HoldPlays.l20 Z Q k inc_0 l_1 l_1n l_1c now_2 lease_3 h_9 r_10 i_11))
def law18_HoldPlays.j70 (Z : List PanicEntry → PT) (Q : Bool → PT) : Fr → PT := (fun ρ => atI .i64 (ρ 0) fun inc_0 => atL (ρ 1) fun l_1 l_1n l_1c => atI .i64 (ρ 2) fun now_2 => atI .i64 (ρ 3) fun lease_3 => atP (ρ 9) fun h_9 => atP (ρ 10) fun r_10 => atI .i64 (ρ 11) fun i_11 => (exK fun k => law18_HoldPlays.l20 Z Q k inc_0 l_1 l_1n l_1c now_2 lease_3 h_9 r_10 i_11))
theorem law18_HoldPlays.o71 (Z : List PanicEntry → PT) (Q : Bool → PT) : Ok Try.prog Try.f7.ntmps Z law18_HoldPlays.c16 (law18_HoldPlays.q22 Z Q) (law18_HoldPlays.j70 Z Q) := by
  rw [law18_HoldPlays.q19]
  refine Ok.imp (ok_loop (J := law18_HoldPlays.j69 Z Q) ?_ ?_) ?_
  · intro ρ w h
    obtain ⟨inc_0, e0, h⟩ := atI_e h
    obtain ⟨l_1, l_1n, l_1c, e1, h⟩ := atL_e h
    obtain ⟨now_2, e2, h⟩ := atI_e h
    obtain ⟨lease_3, e3, h⟩ := atI_e h
    obtain ⟨h_9, e9, h⟩ := atP_e h
    obtain ⟨r_10, e10, h⟩ := atP_e h
    obtain ⟨i_11, e11, h⟩ := atI_e h
    exact h
  · intro k
    refine Ok.imp (law18_HoldPlays.s67_ok Z Q (law18_HoldPlays.l20 Z Q k)) fun ρ w h => ?_
    obtain ⟨inc_0, e0, h⟩ := atI_e h
    obtain ⟨l_1, l_1n, l_1c, e1, h⟩ := atL_e h
    obtain ⟨now_2, e2, h⟩ := atI_e h
    obtain ⟨lease_3, e3, h⟩ := atI_e h
    obtain ⟨h_9, e9, h⟩ := atP_e h
    obtain ⟨r_10, e10, h⟩ := atP_e h
    obtain ⟨i_11, e11, h⟩ := atI_e h
    show (law18_HoldPlays.j68 Z Q (law18_HoldPlays.l20 Z Q k)) ρ w
    simp only [law18_HoldPlays.j68]
    rw [e0]
    rw [e1]
    rw [e2]
    rw [e3]
    rw [e9]
    rw [e10]
    rw [e11]
    exact h
  · intro ρ w h
    obtain ⟨inc_0, e0, h⟩ := atI_e h
    obtain ⟨l_1, l_1n, l_1c, e1, h⟩ := atL_e h
    obtain ⟨now_2, e2, h⟩ := atI_e h
    obtain ⟨lease_3, e3, h⟩ := atI_e h
    obtain ⟨h_9, e9, h⟩ := atP_e h
    obtain ⟨r_10, e10, h⟩ := atP_e h
    obtain ⟨i_11, e11, h⟩ := atI_e h
    obtain ⟨k, h⟩ := h
    refine ⟨k, ?_⟩
    show (atI .i64 (ρ 0) fun inc_0 => atL (ρ 1) fun l_1 l_1n l_1c => atI .i64 (ρ 2) fun now_2 => atI .i64 (ρ 3) fun lease_3 => atP (ρ 9) fun h_9 => atP (ρ 10) fun r_10 => atI .i64 (ρ 11) fun i_11 => (law18_HoldPlays.l20 Z Q k inc_0 l_1 l_1n l_1c now_2 lease_3 h_9 r_10 i_11)) w
    rw [e0]
    rw [e1]
    rw [e2]
    rw [e3]
    rw [e9]
    rw [e10]
    rw [e11]
    exact h
theorem law18_HoldPlays.o72 (Z : List PanicEntry → PT) (Q : Bool → PT) : Ok Try.prog Try.f7.ntmps Z law18_HoldPlays.c14 (law18_HoldPlays.q21 Z Q) (law18_HoldPlays.j70 Z Q) := by
  rw [law18_HoldPlays.q17]; exact ok_block (law18_HoldPlays.o71 Z Q)
def law18_HoldPlays.s73 (Z : List PanicEntry → PT) (Q : Bool → PT) (inc_0 : Int) (l_1 : Option Addr) (l_1n l_1c : Nat) (now_2 : Int) (lease_3 : Int) (h_9 : Option Addr) (r_10 : Option Addr) : PT :=
  (exK fun k => law18_HoldPlays.l20 Z Q k inc_0 l_1 l_1n l_1c now_2 lease_3 h_9 r_10 0)
theorem law18_HoldPlays.s73_eq (Z : List PanicEntry → PT) (Q : Bool → PT) (ρ : Fr) (inc_0 : Int) (l_1 : Option Addr) (l_1n l_1c : Nat) (now_2 : Int) (lease_3 : Int) (h_9 : Option Addr) (r_10 : Option Addr) : (comp Try.prog Z law18_HoldPlays.c13 (thenK (law18_HoldPlays.j70 Z Q) (law18_HoldPlays.q21 Z Q))) (puts ρ [(0, (Value.int .i64 inc_0)), (1, (Value.slice l_1 l_1n l_1c)), (2, (Value.int .i64 now_2)), (3, (Value.int .i64 lease_3)), (9, (Value.pointer h_9)), (10, (Value.pointer r_10))]) = law18_HoldPlays.s73 Z Q inc_0 l_1 l_1n l_1c now_2 lease_3 h_9 r_10 := by kernel_rfl
def law18_HoldPlays.j74 (Z : List PanicEntry → PT) (Q : Bool → PT) : Fr → PT := (fun ρ => atI .i64 (ρ 0) fun inc_0 => atL (ρ 1) fun l_1 l_1n l_1c => atI .i64 (ρ 2) fun now_2 => atI .i64 (ρ 3) fun lease_3 => atP (ρ 9) fun h_9 => atP (ρ 10) fun r_10 => (law18_HoldPlays.s73 Z Q inc_0 l_1 l_1n l_1c now_2 lease_3 h_9 r_10))
theorem law18_HoldPlays.s73_ok (Z : List PanicEntry → PT) (Q : Bool → PT) : Ok Try.prog Try.f7.ntmps Z law18_HoldPlays.c7 (law18_HoldPlays.q21 Z Q) (law18_HoldPlays.j74 Z Q) := by
  rw [law18_HoldPlays.q15]
  intro ρ w a hr h
  obtain ⟨inc_0, e0, h⟩ := atI_e h
  obtain ⟨l_1, l_1n, l_1c, e1, h⟩ := atL_e h
  obtain ⟨now_2, e2, h⟩ := atI_e h
  obtain ⟨lease_3, e3, h⟩ := atI_e h
  obtain ⟨h_9, e9, h⟩ := atP_e h
  obtain ⟨r_10, e10, h⟩ := atP_e h
  exact ok_at [(0, (Value.int .i64 inc_0)), (1, (Value.slice l_1 l_1n l_1c)), (2, (Value.int .i64 now_2)), (3, (Value.int .i64 lease_3)), (9, (Value.pointer h_9)), (10, (Value.pointer r_10))] (ok_seq (okC law18_HoldPlays.c13 _ (by kernel_rfl)) (law18_HoldPlays.o72 Z Q)) (puts_cons e0 (puts_cons e1 (puts_cons e2 (puts_cons e3 (puts_cons e9 (puts_cons e10 (fun p hp => puts_nil hp))))))) (law18_HoldPlays.s73_eq Z Q ρ inc_0 l_1 l_1n l_1c now_2 lease_3 h_9 r_10) hr h
theorem law18_HoldPlays.o75 (Z : List PanicEntry → PT) (Q : Bool → PT) : Ok Try.prog Try.f7.ntmps Z law18_HoldPlays.c5 (law18_HoldPlays.q11 Z Q) (law18_HoldPlays.j74 Z Q) := by
  rw [law18_HoldPlays.q9]; exact ok_seq (law18_HoldPlays.s73_ok Z Q) (law18_HoldPlays.s10_ok Z Q)
def law18_HoldPlays.s76 (Z : List PanicEntry → PT) (Q : Bool → PT) (inc_0 : Int) (l_1 : Option Addr) (l_1n l_1c : Nat) (now_2 : Int) (lease_3 : Int) : PT :=
  (cal Try.prog Z 9 [] (isB fun v333 => (pif (!v333) (Q false) (cal Try.prog Z 10 [(Value.int .i64 inc_0)] (isP fun v334 => (newC 43 [(Value.int .i64 inc_0), (Value.int .i64 0), (Value.int .i64 0), (Value.int .i64 0), (Value.int .i64 0), (Value.slice none 0 0)] fun v335 => (law18_HoldPlays.s73 Z Q inc_0 l_1 l_1n l_1c now_2 lease_3 v334 (some v335))))))))
theorem law18_HoldPlays.s76_eq (Z : List PanicEntry → PT) (Q : Bool → PT) (ρ : Fr) (inc_0 : Int) (l_1 : Option Addr) (l_1n l_1c : Nat) (now_2 : Int) (lease_3 : Int) : (comp Try.prog Z law18_HoldPlays.c1 (thenK (comp Try.prog Z law18_HoldPlays.c2 (thenK (comp Try.prog Z law18_HoldPlays.c3 (thenK (comp Try.prog Z law18_HoldPlays.c4 (thenK (law18_HoldPlays.j74 Z Q) (law18_HoldPlays.q11 Z Q))) (law18_HoldPlays.q11 Z Q))) (law18_HoldPlays.q11 Z Q))) (law18_HoldPlays.q11 Z Q))) (puts ρ [(0, (Value.int .i64 inc_0)), (1, (Value.slice l_1 l_1n l_1c)), (2, (Value.int .i64 now_2)), (3, (Value.int .i64 lease_3))]) = law18_HoldPlays.s76 Z Q inc_0 l_1 l_1n l_1c now_2 lease_3 := by kernel_rfl
def law18_HoldPlays.j77 (Z : List PanicEntry → PT) (Q : Bool → PT) : Fr → PT := (fun ρ => atI .i64 (ρ 0) fun inc_0 => atL (ρ 1) fun l_1 l_1n l_1c => atI .i64 (ρ 2) fun now_2 => atI .i64 (ρ 3) fun lease_3 => (law18_HoldPlays.s76 Z Q inc_0 l_1 l_1n l_1c now_2 lease_3))
theorem law18_HoldPlays.s76_ok (Z : List PanicEntry → PT) (Q : Bool → PT) : Ok Try.prog Try.f7.ntmps Z law18_HoldPlays.body (law18_HoldPlays.q11 Z Q) (law18_HoldPlays.j77 Z Q) := by
  rw [law18_HoldPlays.q6]
  intro ρ w a hr h
  obtain ⟨inc_0, e0, h⟩ := atI_e h
  obtain ⟨l_1, l_1n, l_1c, e1, h⟩ := atL_e h
  obtain ⟨now_2, e2, h⟩ := atI_e h
  obtain ⟨lease_3, e3, h⟩ := atI_e h
  exact ok_at [(0, (Value.int .i64 inc_0)), (1, (Value.slice l_1 l_1n l_1c)), (2, (Value.int .i64 now_2)), (3, (Value.int .i64 lease_3))] (ok_seq (okC law18_HoldPlays.c1 _ (by kernel_rfl)) (ok_seq (okC law18_HoldPlays.c2 _ (by kernel_rfl)) (ok_seq (okC law18_HoldPlays.c3 _ (by kernel_rfl)) (ok_seq (okC law18_HoldPlays.c4 _ (by kernel_rfl)) (law18_HoldPlays.o75 Z Q))))) (puts_cons e0 (puts_cons e1 (puts_cons e2 (puts_cons e3 (fun p hp => puts_nil hp))))) (law18_HoldPlays.s76_eq Z Q ρ inc_0 l_1 l_1n l_1c now_2 lease_3) hr h
def law18_HoldPlays.F (Z : List PanicEntry → PT) (Q : Bool → PT) (inc_0 : Int) (l_1 : Option Addr) (l_1n l_1c : Nat) (now_2 : Int) (lease_3 : Int) : PT :=
  (law18_HoldPlays.s76 Z Q inc_0 l_1 l_1n l_1c now_2 lease_3)
theorem law18_HoldPlays.vc (Z : List PanicEntry → PT) (Q : Bool → PT) (inc_0 : Int) (l_1 : Option Addr) (l_1n l_1c : Nat) (now_2 : Int) (lease_3 : Int) (w : World) (h : law18_HoldPlays.F Z Q inc_0 l_1 l_1n l_1c now_2 lease_3 w) : Calls Try.prog 7 ⟨[(Value.int .i64 inc_0), (Value.slice l_1 l_1n l_1c), (Value.int .i64 now_2), (Value.int .i64 lease_3)]⟩ w fun e w' => (∃ (r0 : Bool), e = .returned (.bool r0) ∧ Q r0 w') ∨ ∃ c, e = .panicked c ∧ Z c w' := by
  refine (calls_of_ok (args := [(Value.int .i64 inc_0), (Value.slice l_1 l_1n l_1c), (Value.int .i64 now_2), (Value.int .i64 lease_3)]) (w := w) (rs := [.tmp 8]) (fn := Try.f7) (c := law18_HoldPlays.body) Try.func7 (by kernel_rfl) (by kernel_rfl) (Nat.le_of_ble_eq_true (by kernel_rfl)) (law18_HoldPlays.s76_ok Z Q) (h)).mono fun e w' hR => ?_
  cases e with
  | returned v =>
    obtain ⟨va, rfl, hR⟩ := atB_e hR
    exact .inl ⟨va, rfl, hR⟩
  | panicked c => exact .inr ⟨c, rfl, hR⟩
  | outgrown => exact hR.elim
theorem law18_HoldPlays.vc0 (Q : Bool → PT) (inc_0 : Int) (l_1 : Option Addr) (l_1n l_1c : Nat) (now_2 : Int) (lease_3 : Int) (w : World) (h : law18_HoldPlays.F Z0 Q inc_0 l_1 l_1n l_1c now_2 lease_3 w) : Calls Try.prog 7 ⟨[(Value.int .i64 inc_0), (Value.slice l_1 l_1n l_1c), (Value.int .i64 now_2), (Value.int .i64 lease_3)]⟩ w fun e w' => (∃ (r0 : Bool), e = .returned (.bool r0) ∧ Q r0 w') :=
  (law18_HoldPlays.vc Z0 Q inc_0 l_1 l_1n l_1c now_2 lease_3 w h).mono fun _ _ hR => hR.elim id fun ⟨_, _, hz⟩ => hz.elim
theorem law18_HoldPlays.cal {Z : List PanicEntry → PT} {Q : Bool → PT} {inc_0 : Int} {l_1 : Option Addr} {l_1n l_1c : Nat} {now_2 : Int} {lease_3 : Int} {w : World} (h : law18_HoldPlays.F Z Q inc_0 l_1 l_1n l_1c now_2 lease_3 w) : Go.Proofs.Ythheldpjcndelaa.cal Try.prog Z 7 [(Value.int .i64 inc_0), (Value.slice l_1 l_1n l_1c), (Value.int .i64 now_2), (Value.int .i64 lease_3)] (isB fun r0 => Q r0) w := by
  refine (law18_HoldPlays.vc Z Q inc_0 l_1 l_1n l_1c now_2 lease_3 w h).mono fun e w' hR => ?_
  rcases hR with ⟨r0, rfl, h⟩ | ⟨c, rfl, h⟩
  · show (isB fun r0 => Q r0) (.bool r0) w'
    exact ⟨_, rfl, h⟩
  · exact h

/-! ### milepost/milepostlaw18.HoldNil: function 8 -/
noncomputable def law18_HoldNil.body : Code := bodyC Try.f8
def law18_HoldNil.F (Z : List PanicEntry → PT) (Q : Bool → PT) (x_0 : List Value) : PT :=
  (newC 28 x_0 fun x14 => (cal Try.prog Z 9 [] (isB fun v15 => (pif (!v15) (Q false) (ldI .i64 (x14.add 2) fun v16 => (cal Try.prog Z 16 [(Value.pointer none), (Value.int .i64 v16)] (isT2 fun t17 t18 => (isI .i64 fun v19 => ((isI .i64 fun v20 => (ldN 6 x14 fun v21 => (cal Try.prog Z 11 [(Value.pointer none), (Value.agg ⟨v21⟩)] (isI .i64 fun v22 => (pif (v22 == 0) (cal Try.prog Z 22 [(Value.pointer none)] (isI .i64 fun v23 => (pif (v23 == 0) (cal Try.prog Z 18 [(Value.pointer none)] (isI .i64 fun v24 => (pif (v24 == 0) (cal Try.prog Z 19 [(Value.pointer none)] (isI .i64 fun v25 => (pif (v25 == 0) (cal Try.prog Z 13 [(Value.pointer none)] (isI .i64 fun v26 => (pif (v26 == 0) (pif (v19 == 0) (pif (v20 == 0) (ldI .i64 (x14.add 2) fun v27 => (cal Try.prog Z 14 [(Value.pointer none), (Value.int .i64 v27)] (isB fun v28 => (pif (!v28) (ldI .i64 (x14.add 5) fun v29 => (ldI .i64 (x14.add 3) fun v30 => (cal Try.prog Z 12 [(Value.pointer none), (Value.int .i64 v29), (Value.int .i64 v30)] (isB fun v31 => (Q (!v31)))))) (Q false))))) (Q false)) (Q false)) (Q false)))) (Q false)))) (Q false)))) (Q false)))) (Q false)))))) t18)) t17)))))))
def law18_HoldNil.q1 (Z : List PanicEntry → PT) (Q : Bool → PT) : QF := bodyQ [.tmp 2] (fun v => atB v fun va => Q va)
theorem law18_HoldNil.eq (Z : List PanicEntry → PT) (Q : Bool → PT) (x_0 : List Value) : comp Try.prog Z law18_HoldNil.body (law18_HoldNil.q1 Z Q) (fr0 [(Value.agg ⟨x_0⟩)]) = law18_HoldNil.F Z Q x_0 := by kernel_rfl
theorem law18_HoldNil.vc (Z : List PanicEntry → PT) (Q : Bool → PT) (x_0 : List Value) (w : World) (h : law18_HoldNil.F Z Q x_0 w) : Calls Try.prog 8 ⟨[(Value.agg ⟨x_0⟩)]⟩ w fun e w' => (∃ (r0 : Bool), e = .returned (.bool r0) ∧ Q r0 w') ∨ ∃ c, e = .panicked c ∧ Z c w' := by
  refine (calls_of_ok (args := [(Value.agg ⟨x_0⟩)]) (w := w) (rs := [.tmp 2]) (fn := Try.f8) (c := law18_HoldNil.body) Try.func8 (by kernel_rfl) (by kernel_rfl) (Nat.le_of_ble_eq_true (by kernel_rfl)) (okC law18_HoldNil.body (law18_HoldNil.q1 Z Q) (by kernel_rfl)) (by rw [law18_HoldNil.eq]; exact h)).mono fun e w' hR => ?_
  cases e with
  | returned v =>
    obtain ⟨va, rfl, hR⟩ := atB_e hR
    exact .inl ⟨va, rfl, hR⟩
  | panicked c => exact .inr ⟨c, rfl, hR⟩
  | outgrown => exact hR.elim
theorem law18_HoldNil.vc0 (Q : Bool → PT) (x_0 : List Value) (w : World) (h : law18_HoldNil.F Z0 Q x_0 w) : Calls Try.prog 8 ⟨[(Value.agg ⟨x_0⟩)]⟩ w fun e w' => (∃ (r0 : Bool), e = .returned (.bool r0) ∧ Q r0 w') :=
  (law18_HoldNil.vc Z0 Q x_0 w h).mono fun _ _ hR => hR.elim id fun ⟨_, _, hz⟩ => hz.elim
theorem law18_HoldNil.cal {Z : List PanicEntry → PT} {Q : Bool → PT} {x_0 : List Value} {w : World} (h : law18_HoldNil.F Z Q x_0 w) : Go.Proofs.Ythheldpjcndelaa.cal Try.prog Z 8 [(Value.agg ⟨x_0⟩)] (isB fun r0 => Q r0) w := by
  refine (law18_HoldNil.vc Z Q x_0 w h).mono fun e w' hR => ?_
  rcases hR with ⟨r0, rfl, h⟩ | ⟨c, rfl, h⟩
  · show (isB fun r0 => Q r0) (.bool r0) w'
    exact ⟨_, rfl, h⟩
  · exact h

end Go.Proofs.Ythheldpjcndelaa
