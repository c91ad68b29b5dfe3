/-
  Texts of this claim, one behind the other: part 4 of 7. No condition.
-/
import Derived.Test.YtllgjjldnnmjkaaDoorZb3
set_option linter.unusedVariables false
set_option linter.unusedSimpArgs false
section
namespace Go.Proofs.YtllgjjldnnmjkaaDoor
open Go.RowKit
set_option maxRecDepth 100000

/-! ### (*milepost/parse.reader).fail: function 38 -/
noncomputable def parse_reader_fail.body : Code := bodyC Tryd.f38
def parse_reader_fail.F (Z : ZT) (Q : PT) (r_0 : OA) (e_1 : Int) : PT :=
  (cal Tryd.prog Z 59 [(Value.pointer r_0)] (isN fun v1 => (ptI .i64 v1 1 fun v2 => (Z [{ v := (Value.iface 73 (Value.agg ⟨[(Value.int .i64 e_1), (Value.int .i64 v2)]⟩)), recovered := false }]))))
def parse_reader_fail.q1 (Z : ZT) (Q : PT) : QF := bodyQ Tryd.prog [] (fun v => atU v Q)
theorem parse_reader_fail.eq (Z : ZT) (Q : PT) (r_0 : OA) (e_1 : Int) : comp Tryd.prog Z parse_reader_fail.body (parse_reader_fail.q1 Z Q) (fr0 [(Value.pointer r_0), (Value.int .i64 e_1)]) = parse_reader_fail.F Z Q r_0 e_1 := by kernel_rfl
theorem parse_reader_fail.vc (Z : ZT) (Q : PT) (r_0 : OA) (e_1 : Int) (w : World) (h : parse_reader_fail.F Z Q r_0 e_1 w) : Calls Tryd.prog 38 ⟨[(Value.pointer r_0), (Value.int .i64 e_1)]⟩ w fun e w' => (e = .returned (.tuple #[]) ∧ Q w') ∨ ∃ c, e = .panicked c ∧ Z c w' := by
  refine (calls_of_ok (args := [(Value.pointer r_0), (Value.int .i64 e_1)]) (w := w) (rs := []) (fn := Tryd.f38) (c := parse_reader_fail.body) Tryd.func38 (by kernel_rfl) (by kernel_rfl) (Nat.le_of_ble_eq_true (by kernel_rfl)) (okC parse_reader_fail.body (parse_reader_fail.q1 Z Q) (by kernel_rfl)) (by rw [parse_reader_fail.eq]; exact h)).mono fun e w' hR => ?_
  cases e with
  | returned v =>
    obtain ⟨rfl, h⟩ := atU_e hR
    exact .inl ⟨rfl, h⟩
  | panicked c => exact .inr ⟨c, rfl, hR⟩
  | outgrown => exact hR.elim
theorem parse_reader_fail.vc0 (Q : PT) (r_0 : OA) (e_1 : Int) (w : World) (h : parse_reader_fail.F Z0 Q r_0 e_1 w) : Calls Tryd.prog 38 ⟨[(Value.pointer r_0), (Value.int .i64 e_1)]⟩ w fun e w' => (e = .returned (.tuple #[]) ∧ Q w') :=
  (parse_reader_fail.vc Z0 Q r_0 e_1 w h).mono fun _ _ hR => hR.elim id fun ⟨_, _, hz⟩ => hz.elim
theorem parse_reader_fail.cal {Z : ZT} {Q : PT} {r_0 : OA} {e_1 : Int} {w : World} (h : parse_reader_fail.F Z Q r_0 e_1 w) : Go.Proofs.YtllgjjldnnmjkaaDoor.cal Tryd.prog Z 38 [(Value.pointer r_0), (Value.int .i64 e_1)] (isU Q) w := by
  refine (parse_reader_fail.vc Z Q r_0 e_1 w h).mono fun e w' hR => ?_
  rcases hR with ⟨rfl, h⟩ | ⟨c, rfl, h⟩
  · show (isU Q) (.tuple #[]) w'
    exact ⟨rfl, h⟩
  · exact h

/-! ### (*milepost/parse.reader).peek: function 59 -/
noncomputable def parse_reader_peek.body : Code := bodyC Tryd.f59
def parse_reader_peek.F (Z : ZT) (Q : List Value → PT) (r_0 : OA) : PT :=
  (newC 79 [(Value.int .i64 0), (Value.int .i64 0), (Value.string ⟨#[]⟩), (Value.int .i64 0)] fun v18 => (drew0 (nn r_0 fun v19 => (ldI .i64 (v19.add 1) fun v20 => (nn r_0 fun v21 => (ldL (v21.add 0) fun v22 v22n v22c => (pif (decide (v20 < ((v22n : Nat) : Int))) (drawn fun S23 => (nn r_0 fun v24 => (hL S23 (v24.add 0) fun v25 v25n v25c => (nn r_0 fun v26 => (hI S23 .i64 (v26.add 1) fun v27 => (ixS v25 v25n v27 4 fun v28 => (hN S23 4 v28 fun v29 => (stN 4 v18 v29 (ldN 4 v18 fun v30 => (Q v30)))))))))) (nn r_0 fun v31 => (ldI .i64 (v31.add 2) fun v32 => (stN 4 v18 [(Value.int .i64 0), (Value.int .i64 v32), (Value.string ⟨#[]⟩), (Value.int .i64 0)] (ldN 4 v18 fun v33 => (Q v33))))))))))))
def parse_reader_peek.q1 (Z : ZT) (Q : List Value → PT) : QF := bodyQ Tryd.prog [.cell 2 79] (fun v => atN v fun va => Q va)
theorem parse_reader_peek.eq (Z : ZT) (Q : List Value → PT) (r_0 : OA) : comp Tryd.prog Z parse_reader_peek.body (parse_reader_peek.q1 Z Q) (fr0 [(Value.pointer r_0)]) = parse_reader_peek.F Z Q r_0 := by kernel_rfl
theorem parse_reader_peek.vc (Z : ZT) (Q : List Value → PT) (r_0 : OA) (w : World) (h : parse_reader_peek.F Z Q r_0 w) : Calls Tryd.prog 59 ⟨[(Value.pointer r_0)]⟩ w fun e w' => (∃ (r0 : List Value), e = .returned (.agg ⟨r0⟩) ∧ Q r0 w') ∨ ∃ c, e = .panicked c ∧ Z c w' := by
  refine (calls_of_ok (args := [(Value.pointer r_0)]) (w := w) (rs := [.cell 2 79]) (fn := Tryd.f59) (c := parse_reader_peek.body) Tryd.func59 (by kernel_rfl) (by kernel_rfl) (Nat.le_of_ble_eq_true (by kernel_rfl)) (okC parse_reader_peek.body (parse_reader_peek.q1 Z Q) (by kernel_rfl)) (by rw [parse_reader_peek.eq]; exact h)).mono fun e w' hR => ?_
  cases e with
  | returned v =>
    obtain ⟨va, rfl, hR⟩ := atN_e hR
    exact .inl ⟨va, rfl, hR⟩
  | panicked c => exact .inr ⟨c, rfl, hR⟩
  | outgrown => exact hR.elim
theorem parse_reader_peek.vc0 (Q : List Value → PT) (r_0 : OA) (w : World) (h : parse_reader_peek.F Z0 Q r_0 w) : Calls Tryd.prog 59 ⟨[(Value.pointer r_0)]⟩ w fun e w' => (∃ (r0 : List Value), e = .returned (.agg ⟨r0⟩) ∧ Q r0 w') :=
  (parse_reader_peek.vc Z0 Q r_0 w h).mono fun _ _ hR => hR.elim id fun ⟨_, _, hz⟩ => hz.elim
theorem parse_reader_peek.cal {Z : ZT} {Q : List Value → PT} {r_0 : OA} {w : World} (h : parse_reader_peek.F Z Q r_0 w) : Go.Proofs.YtllgjjldnnmjkaaDoor.cal Tryd.prog Z 59 [(Value.pointer r_0)] (isN fun r0 => Q r0) w := by
  refine (parse_reader_peek.vc Z Q r_0 w h).mono fun e w' hR => ?_
  rcases hR with ⟨r0, rfl, h⟩ | ⟨c, rfl, h⟩
  · show (isN fun r0 => Q r0) (.agg ⟨r0⟩) w'
    exact ⟨_, rfl, h⟩
  · exact h

/-! ### (*milepost/parse.reader).want: function 62 -/
noncomputable def parse_reader_want.body : Code := bodyC Tryd.f62
noncomputable def parse_reader_want.c1 : Code := sq1 parse_reader_want.body
noncomputable def parse_reader_want.c2 : Code := sq1 (sq2 parse_reader_want.body)
noncomputable def parse_reader_want.c3 : Code := sq1 (sq2 (sq2 parse_reader_want.body))
noncomputable def parse_reader_want.c4 : Code := sq2 (sq2 (sq2 parse_reader_want.body))
theorem parse_reader_want.q5 : parse_reader_want.body = .seq parse_reader_want.c1 (.seq parse_reader_want.c2 (.seq parse_reader_want.c3 parse_reader_want.c4)) := by kernel_rfl
def parse_reader_want.s6 (Z : ZT) (Q : List Value → PT) (r_0 : OA) (t_4 : Addr) (t_5 : Addr) : PT :=
  (nn r_0 fun v31 => (ldI .i64 (v31.add 1) fun v32 => (nn r_0 fun v33 => (st1 (v33.add 1) (Value.int .i64 (IntKind.wrap .i64 (v32 + 1))) (ldN 4 t_5 fun v34 => (stN 4 t_4 v34 (ldN 4 t_4 fun v35 => (Q v35))))))))
def parse_reader_want.q7 (Z : ZT) (Q : List Value → PT) : QF := bodyQ Tryd.prog [.cell 4 79] (fun v => atN v fun va => Q va)
theorem parse_reader_want.s6_eq (Z : ZT) (Q : List Value → PT) (ρ : Fr) (r_0 : OA) (t_4 : Addr) (t_5 : Addr) : comp Tryd.prog Z parse_reader_want.c4 (parse_reader_want.q7 Z Q) (puts ρ [(0, (Value.pointer r_0)), (4, (Value.pointer (some t_4))), (5, (Value.pointer (some t_5)))]) = parse_reader_want.s6 Z Q r_0 t_4 t_5 := by kernel_rfl
def parse_reader_want.j8 (Z : ZT) (Q : List Value → PT) : Fr → PT := (fun ρ => atP (ρ 0) fun r_0 => atA (ρ 4) fun t_4 => atA (ρ 5) fun t_5 => (parse_reader_want.s6 Z Q r_0 t_4 t_5))
theorem parse_reader_want.s6_ok (Z : ZT) (Q : List Value → PT) : Ok Tryd.prog Tryd.f62.ntmps Z parse_reader_want.c4 (parse_reader_want.q7 Z Q) (parse_reader_want.j8 Z Q) := by
  intro E he ρ w a hr h
  obtain ⟨r_0, e0, h⟩ := atP_e h
  obtain ⟨t_4, e4, h⟩ := atA_e h
  obtain ⟨t_5, e5, h⟩ := atA_e h
  exact ok_at [(0, (Value.pointer r_0)), (4, (Value.pointer (some t_4))), (5, (Value.pointer (some t_5)))] (okC parse_reader_want.c4 (parse_reader_want.q7 Z Q) (by kernel_rfl)) (puts_cons e0 (puts_cons e4 (puts_cons e5 (fun p hp => puts_nil hp)))) (parse_reader_want.s6_eq Z Q ρ r_0 t_4 t_5) he hr h
def parse_reader_want.s9 (Z : ZT) (Q : List Value → PT) (r_0 : OA) (kind_1 : Int) : PT :=
  (newC 79 [(Value.int .i64 0), (Value.int .i64 0), (Value.string ⟨#[]⟩), (Value.int .i64 0)] fun v36 => (cal Tryd.prog Z 59 [(Value.pointer r_0)] (isN fun v37 => (newC 79 [(Value.int .i64 0), (Value.int .i64 0), (Value.string ⟨#[]⟩), (Value.int .i64 0)] fun t38 => (stN 4 t38 v37 (ldI .i64 (t38.add 0) fun v39 => (pif (v39 != kind_1) (cal Tryd.prog Z 38 [(Value.pointer r_0), (Value.int .i64 8)] (isU (parse_reader_want.s6 Z Q r_0 v36 t38))) (parse_reader_want.s6 Z Q r_0 v36 t38))))))))
theorem parse_reader_want.s9_eq (Z : ZT) (Q : List Value → PT) (ρ : Fr) (r_0 : OA) (kind_1 : Int) : (comp Tryd.prog Z parse_reader_want.c1 (thenK (comp Tryd.prog Z parse_reader_want.c2 (thenK (comp Tryd.prog Z parse_reader_want.c3 (thenK (parse_reader_want.j8 Z Q) (parse_reader_want.q7 Z Q))) (parse_reader_want.q7 Z Q))) (parse_reader_want.q7 Z Q))) (puts ρ [(0, (Value.pointer r_0)), (1, (Value.int .i64 kind_1))]) = parse_reader_want.s9 Z Q r_0 kind_1 := by kernel_rfl
def parse_reader_want.j10 (Z : ZT) (Q : List Value → PT) : Fr → PT := (fun ρ => atP (ρ 0) fun r_0 => atI .i64 (ρ 1) fun kind_1 => (parse_reader_want.s9 Z Q r_0 kind_1))
theorem parse_reader_want.s9_ok (Z : ZT) (Q : List Value → PT) : Ok Tryd.prog Tryd.f62.ntmps Z parse_reader_want.body (parse_reader_want.q7 Z Q) (parse_reader_want.j10 Z Q) := by
  intro E he ρ w a hr h
  rw [parse_reader_want.q5] at he ⊢
  obtain ⟨r_0, e0, h⟩ := atP_e h
  obtain ⟨kind_1, e1, h⟩ := atI_e h
  exact ok_at [(0, (Value.pointer r_0)), (1, (Value.int .i64 kind_1))] (ok_seq (okC parse_reader_want.c1 _ (by kernel_rfl)) (ok_seq (okC parse_reader_want.c2 _ (by kernel_rfl)) (ok_seq (okC parse_reader_want.c3 _ (by kernel_rfl)) (parse_reader_want.s6_ok Z Q)))) (puts_cons e0 (puts_cons e1 (fun p hp => puts_nil hp))) (parse_reader_want.s9_eq Z Q ρ r_0 kind_1) he hr h
def parse_reader_want.F (Z : ZT) (Q : List Value → PT) (r_0 : OA) (kind_1 : Int) : PT :=
  (parse_reader_want.s9 Z Q r_0 kind_1)
theorem parse_reader_want.vc (Z : ZT) (Q : List Value → PT) (r_0 : OA) (kind_1 : Int) (w : World) (h : parse_reader_want.F Z Q r_0 kind_1 w) : Calls Tryd.prog 62 ⟨[(Value.pointer r_0), (Value.int .i64 kind_1)]⟩ w fun e w' => (∃ (r0 : List Value), e = .returned (.agg ⟨r0⟩) ∧ Q r0 w') ∨ ∃ c, e = .panicked c ∧ Z c w' := by
  refine (calls_of_ok (args := [(Value.pointer r_0), (Value.int .i64 kind_1)]) (w := w) (rs := [.cell 4 79]) (fn := Tryd.f62) (c := parse_reader_want.body) Tryd.func62 (by kernel_rfl) (by kernel_rfl) (Nat.le_of_ble_eq_true (by kernel_rfl)) (parse_reader_want.s9_ok Z Q) (h)).mono fun e w' hR => ?_
  cases e with
  | returned v =>
    obtain ⟨va, rfl, hR⟩ := atN_e hR
    exact .inl ⟨va, rfl, hR⟩
  | panicked c => exact .inr ⟨c, rfl, hR⟩
  | outgrown => exact hR.elim
theorem parse_reader_want.vc0 (Q : List Value → PT) (r_0 : OA) (kind_1 : Int) (w : World) (h : parse_reader_want.F Z0 Q r_0 kind_1 w) : Calls Tryd.prog 62 ⟨[(Value.pointer r_0), (Value.int .i64 kind_1)]⟩ w fun e w' => (∃ (r0 : List Value), e = .returned (.agg ⟨r0⟩) ∧ Q r0 w') :=
  (parse_reader_want.vc Z0 Q r_0 kind_1 w h).mono fun _ _ hR => hR.elim id fun ⟨_, _, hz⟩ => hz.elim
theorem parse_reader_want.cal {Z : ZT} {Q : List Value → PT} {r_0 : OA} {kind_1 : Int} {w : World} (h : parse_reader_want.F Z Q r_0 kind_1 w) : Go.Proofs.YtllgjjldnnmjkaaDoor.cal Tryd.prog Z 62 [(Value.pointer r_0), (Value.int .i64 kind_1)] (isN fun r0 => Q r0) w := by
  refine (parse_reader_want.vc Z Q r_0 kind_1 w h).mono fun e w' hR => ?_
  rcases hR with ⟨r0, rfl, h⟩ | ⟨c, rfl, h⟩
  · show (isN fun r0 => Q r0) (.agg ⟨r0⟩) w'
    exact ⟨_, rfl, h⟩
  · exact h

/-! ### (*milepost/parse.reader).figure: function 60 -/
noncomputable def parse_reader_figure.body : Code := bodyC Tryd.f60
def parse_reader_figure.F (Z : ZT) (Q : List Value → PT) (r_0 : OA) : PT :=
  (newC 49 [(Value.int .i64 0), (Value.int .i64 0)] fun v5 => (cal Tryd.prog Z 62 [(Value.pointer r_0), (Value.int .i64 2)] (isN fun v6 => (newC 79 [(Value.int .i64 0), (Value.int .i64 0), (Value.string ⟨#[]⟩), (Value.int .i64 0)] fun t7 => (stN 4 t7 v6 (ldI .i64 (t7.add 3) fun v8 => (ldI .i64 (t7.add 1) fun v9 => (stN 2 v5 [(Value.int .i64 v8), (Value.int .i64 v9)] (ldN 2 v5 fun v10 => (Q v10))))))))))
def parse_reader_figure.q1 (Z : ZT) (Q : List Value → PT) : QF := bodyQ Tryd.prog [.cell 2 49] (fun v => atN v fun va => Q va)
theorem parse_reader_figure.eq (Z : ZT) (Q : List Value → PT) (r_0 : OA) : comp Tryd.prog Z parse_reader_figure.body (parse_reader_figure.q1 Z Q) (fr0 [(Value.pointer r_0)]) = parse_reader_figure.F Z Q r_0 := by kernel_rfl
theorem parse_reader_figure.vc (Z : ZT) (Q : List Value → PT) (r_0 : OA) (w : World) (h : parse_reader_figure.F Z Q r_0 w) : Calls Tryd.prog 60 ⟨[(Value.pointer r_0)]⟩ w fun e w' => (∃ (r0 : List Value), e = .returned (.agg ⟨r0⟩) ∧ Q r0 w') ∨ ∃ c, e = .panicked c ∧ Z c w' := by
  refine (calls_of_ok (args := [(Value.pointer r_0)]) (w := w) (rs := [.cell 2 49]) (fn := Tryd.f60) (c := parse_reader_figure.body) Tryd.func60 (by kernel_rfl) (by kernel_rfl) (Nat.le_of_ble_eq_true (by kernel_rfl)) (okC parse_reader_figure.body (parse_reader_figure.q1 Z Q) (by kernel_rfl)) (by rw [parse_reader_figure.eq]; exact h)).mono fun e w' hR => ?_
  cases e with
  | returned v =>
    obtain ⟨va, rfl, hR⟩ := atN_e hR
    exact .inl ⟨va, rfl, hR⟩
  | panicked c => exact .inr ⟨c, rfl, hR⟩
  | outgrown => exact hR.elim
theorem parse_reader_figure.vc0 (Q : List Value → PT) (r_0 : OA) (w : World) (h : parse_reader_figure.F Z0 Q r_0 w) : Calls Tryd.prog 60 ⟨[(Value.pointer r_0)]⟩ w fun e w' => (∃ (r0 : List Value), e = .returned (.agg ⟨r0⟩) ∧ Q r0 w') :=
  (parse_reader_figure.vc Z0 Q r_0 w h).mono fun _ _ hR => hR.elim id fun ⟨_, _, hz⟩ => hz.elim
theorem parse_reader_figure.cal {Z : ZT} {Q : List Value → PT} {r_0 : OA} {w : World} (h : parse_reader_figure.F Z Q r_0 w) : Go.Proofs.YtllgjjldnnmjkaaDoor.cal Tryd.prog Z 60 [(Value.pointer r_0)] (isN fun r0 => Q r0) w := by
  refine (parse_reader_figure.vc Z Q r_0 w h).mono fun e w' hR => ?_
  rcases hR with ⟨r0, rfl, h⟩ | ⟨c, rfl, h⟩
  · show (isN fun r0 => Q r0) (.agg ⟨r0⟩) w'
    exact ⟨_, rfl, h⟩
  · exact h

/-! ### (*milepost/parse.reader).more: function 81 -/
noncomputable def parse_reader_more.body : Code := bodyC Tryd.f81
def parse_reader_more.F (Z : ZT) (Q : OA → Nat → Nat → Bool → PT) (r_0 : OA) (kind_1 : Int) (l_2 : OA) (l_2n l_2c : Nat) : PT :=
  (cal Tryd.prog Z 59 [(Value.pointer r_0)] (isN fun v10 => (ptI .i64 v10 0 fun v11 => (pif (v11 != kind_1) (Q l_2 l_2n l_2c false) (nn r_0 fun v12 => (ldI .i64 (v12.add 1) fun v13 => (nn r_0 fun v14 => (st1 (v14.add 1) (Value.int .i64 (IntKind.wrap .i64 (v13 + 1))) (cal Tryd.prog Z 60 [(Value.pointer r_0)] (isN fun v15 => (cnd (List.length v15 = 2) (newC 49 (v15 ++ ([])) fun v16 => (runL Tryd.prog (bi .append #[53, 53] 53 [false, false] [(Value.slice l_2 l_2n l_2c), (Value.slice (some v16) 1 1)]) fun v17 v17n v17c => (Q v17 v17n v17c true))))))))))))))
def parse_reader_more.q1 (Z : ZT) (Q : OA → Nat → Nat → Bool → PT) : QF := bodyQ Tryd.prog [.tmp 6, .tmp 7] (fun v => at2 v fun x y => atL x fun xa xn xc => atB y fun ya => Q xa xn xc ya)
theorem parse_reader_more.eq (Z : ZT) (Q : OA → Nat → Nat → Bool → PT) (r_0 : OA) (kind_1 : Int) (l_2 : OA) (l_2n l_2c : Nat) : comp Tryd.prog Z parse_reader_more.body (parse_reader_more.q1 Z Q) (fr0 [(Value.pointer r_0), (Value.int .i64 kind_1), (Value.slice l_2 l_2n l_2c)]) = parse_reader_more.F Z Q r_0 kind_1 l_2 l_2n l_2c := by kernel_rfl
theorem parse_reader_more.vc (Z : ZT) (Q : OA → Nat → Nat → Bool → PT) (r_0 : OA) (kind_1 : Int) (l_2 : OA) (l_2n l_2c : Nat) (w : World) (h : parse_reader_more.F Z Q r_0 kind_1 l_2 l_2n l_2c w) : Calls Tryd.prog 81 ⟨[(Value.pointer r_0), (Value.int .i64 kind_1), (Value.slice l_2 l_2n l_2c)]⟩ w fun e w' => (∃ (r0 : OA) (r0n r0c : Nat) (r1 : Bool), e = .returned (.tuple #[.slice r0 r0n r0c, .bool r1]) ∧ Q r0 r0n r0c r1 w') ∨ ∃ c, e = .panicked c ∧ Z c w' := by
  refine (calls_of_ok (args := [(Value.pointer r_0), (Value.int .i64 kind_1), (Value.slice l_2 l_2n l_2c)]) (w := w) (rs := [.tmp 6, .tmp 7]) (fn := Tryd.f81) (c := parse_reader_more.body) Tryd.func81 (by kernel_rfl) (by kernel_rfl) (Nat.le_of_ble_eq_true (by kernel_rfl)) (okC parse_reader_more.body (parse_reader_more.q1 Z Q) (by kernel_rfl)) (by rw [parse_reader_more.eq]; exact h)).mono fun e w' hR => ?_
  cases e with
  | returned v =>
    obtain ⟨x, y, rfl, hR⟩ := at2_e hR
    obtain ⟨xa, xn, xc, rfl, hR⟩ := atL_e hR
    obtain ⟨ya, rfl, hR⟩ := atB_e hR
    exact .inl ⟨xa, xn, xc, ya, rfl, hR⟩
  | panicked c => exact .inr ⟨c, rfl, hR⟩
  | outgrown => exact hR.elim
theorem parse_reader_more.vc0 (Q : OA → Nat → Nat → Bool → PT) (r_0 : OA) (kind_1 : Int) (l_2 : OA) (l_2n l_2c : Nat) (w : World) (h : parse_reader_more.F Z0 Q r_0 kind_1 l_2 l_2n l_2c w) : Calls Tryd.prog 81 ⟨[(Value.pointer r_0), (Value.int .i64 kind_1), (Value.slice l_2 l_2n l_2c)]⟩ w fun e w' => (∃ (r0 : OA) (r0n r0c : Nat) (r1 : Bool), e = .returned (.tuple #[.slice r0 r0n r0c, .bool r1]) ∧ Q r0 r0n r0c r1 w') :=
  (parse_reader_more.vc Z0 Q r_0 kind_1 l_2 l_2n l_2c w h).mono fun _ _ hR => hR.elim id fun ⟨_, _, hz⟩ => hz.elim
theorem parse_reader_more.cal {Z : ZT} {Q : OA → Nat → Nat → Bool → PT} {r_0 : OA} {kind_1 : Int} {l_2 : OA} {l_2n l_2c : Nat} {w : World} (h : parse_reader_more.F Z Q r_0 kind_1 l_2 l_2n l_2c w) : Go.Proofs.YtllgjjldnnmjkaaDoor.cal Tryd.prog Z 81 [(Value.pointer r_0), (Value.int .i64 kind_1), (Value.slice l_2 l_2n l_2c)] (isT2 fun x y => (isL fun r0 r0n r0c => (isB fun r1 => Q r0 r0n r0c r1) y) x) w := by
  refine (parse_reader_more.vc Z Q r_0 kind_1 l_2 l_2n l_2c w h).mono fun e w' hR => ?_
  rcases hR with ⟨r0, r0n, r0c, r1, rfl, h⟩ | ⟨c, rfl, h⟩
  · show (isT2 fun x y => (isL fun r0 r0n r0c => (isB fun r1 => Q r0 r0n r0c r1) y) x) (.tuple #[.slice r0 r0n r0c, .bool r1]) w'
    exact ⟨_, _, rfl, ⟨_, _, _, rfl, ⟨_, rfl, h⟩⟩⟩
  · exact h

/-! ### (*milepost/parse.reader).clause: function 61 -/
noncomputable def parse_reader_clause.body : Code := bodyC Tryd.f61
noncomputable def parse_reader_clause.c1 : Code := sq1 parse_reader_clause.body
noncomputable def parse_reader_clause.c2 : Code := sq1 (sq2 parse_reader_clause.body)
noncomputable def parse_reader_clause.c3 : Code := sq1 (sq2 (sq2 parse_reader_clause.body))
noncomputable def parse_reader_clause.c4 : Code := sq2 (sq2 (sq2 parse_reader_clause.body))
theorem parse_reader_clause.q5 : parse_reader_clause.body = .seq parse_reader_clause.c1 (.seq parse_reader_clause.c2 (.seq parse_reader_clause.c3 parse_reader_clause.c4)) := by kernel_rfl
noncomputable def parse_reader_clause.c6 : Code := sq1 parse_reader_clause.c4
noncomputable def parse_reader_clause.c7 : Code := sq2 parse_reader_clause.c4
theorem parse_reader_clause.q8 : parse_reader_clause.c4 = .seq parse_reader_clause.c6 parse_reader_clause.c7 := by kernel_rfl
noncomputable def parse_reader_clause.c9 : Code := sq1 parse_reader_clause.c7
noncomputable def parse_reader_clause.c10 : Code := sq2 parse_reader_clause.c7
theorem parse_reader_clause.q11 : parse_reader_clause.c7 = .seq parse_reader_clause.c9 parse_reader_clause.c10 := by kernel_rfl
noncomputable def parse_reader_clause.c12 : Code := sq1 parse_reader_clause.c10
noncomputable def parse_reader_clause.c13 : Code := sq1 (sq2 parse_reader_clause.c10)
noncomputable def parse_reader_clause.c14 : Code := sq1 (sq2 (sq2 parse_reader_clause.c10))
noncomputable def parse_reader_clause.c15 : Code := sq2 (sq2 (sq2 parse_reader_clause.c10))
theorem parse_reader_clause.q16 : parse_reader_clause.c10 = .seq parse_reader_clause.c12 (.seq parse_reader_clause.c13 (.seq parse_reader_clause.c14 parse_reader_clause.c15)) := by kernel_rfl
noncomputable def parse_reader_clause.c17 : Code := sq1 parse_reader_clause.c15
noncomputable def parse_reader_clause.c18 : Code := sq2 parse_reader_clause.c15
theorem parse_reader_clause.q19 : parse_reader_clause.c15 = .seq parse_reader_clause.c17 parse_reader_clause.c18 := by kernel_rfl
def parse_reader_clause.s20 (Z : ZT) (Q : List Value → PT) (t_4 : Addr) (c_6 : Addr) : PT :=
  (ldN 5 c_6 fun v31 => (stN 5 t_4 v31 (ldN 5 t_4 fun v32 => (Q v32))))
def parse_reader_clause.q21 (Z : ZT) (Q : List Value → PT) : QF := bodyQ Tryd.prog [.cell 4 55] (fun v => atN v fun va => Q va)
theorem parse_reader_clause.s20_eq (Z : ZT) (Q : List Value → PT) (ρ : Fr) (t_4 : Addr) (c_6 : Addr) : comp Tryd.prog Z parse_reader_clause.c18 (parse_reader_clause.q21 Z Q) (puts ρ [(4, (Value.pointer (some t_4))), (6, (Value.pointer (some c_6)))]) = parse_reader_clause.s20 Z Q t_4 c_6 := by kernel_rfl
def parse_reader_clause.j22 (Z : ZT) (Q : List Value → PT) : Fr → PT := (fun ρ => atA (ρ 4) fun t_4 => atA (ρ 6) fun c_6 => (parse_reader_clause.s20 Z Q t_4 c_6))
theorem parse_reader_clause.s20_ok (Z : ZT) (Q : List Value → PT) : Ok Tryd.prog Tryd.f61.ntmps Z parse_reader_clause.c18 (parse_reader_clause.q21 Z Q) (parse_reader_clause.j22 Z Q) := by
  intro E he ρ w a hr h
  obtain ⟨t_4, e4, h⟩ := atA_e h
  obtain ⟨c_6, e6, h⟩ := atA_e h
  exact ok_at [(4, (Value.pointer (some t_4))), (6, (Value.pointer (some c_6)))] (okC parse_reader_clause.c18 (parse_reader_clause.q21 Z Q) (by kernel_rfl)) (puts_cons e4 (puts_cons e6 (fun p hp => puts_nil hp))) (parse_reader_clause.s20_eq Z Q ρ t_4 c_6) he hr h
noncomputable def parse_reader_clause.c23 : Code := sq1 parse_reader_clause.c17
noncomputable def parse_reader_clause.c24 : Code := sq2 parse_reader_clause.c17
theorem parse_reader_clause.q25 : parse_reader_clause.c17 = .seq parse_reader_clause.c23 parse_reader_clause.c24 := by kernel_rfl
noncomputable def parse_reader_clause.c26 : Code := blk parse_reader_clause.c24
theorem parse_reader_clause.q27 : parse_reader_clause.c24 = .block 1 parse_reader_clause.c26 := by kernel_rfl
noncomputable def parse_reader_clause.c28 : Code := sq1 parse_reader_clause.c26
noncomputable def parse_reader_clause.c29 : Code := sq2 parse_reader_clause.c26
theorem parse_reader_clause.q30 : parse_reader_clause.c26 = .seq parse_reader_clause.c28 parse_reader_clause.c29 := by kernel_rfl
noncomputable def parse_reader_clause.c31 : Code := cn1 parse_reader_clause.c29
noncomputable def parse_reader_clause.c32 : Code := cn2 parse_reader_clause.c29
theorem parse_reader_clause.q33 : parse_reader_clause.c29 = .cond (.tmp 49) parse_reader_clause.c31 parse_reader_clause.c32 := by kernel_rfl
noncomputable def parse_reader_clause.c34 : Code := sq1 parse_reader_clause.c31
noncomputable def parse_reader_clause.c35 : Code := sq2 parse_reader_clause.c31
theorem parse_reader_clause.q36 : parse_reader_clause.c31 = .seq parse_reader_clause.c34 parse_reader_clause.c35 := by kernel_rfl
def parse_reader_clause.s37 (Z : ZT) (Q : List Value → PT) (r_0 : OA) (t_4 : Addr) (c_6 : Addr) : PT :=
  (ldL (c_6.add 2) fun v34 v34n v34c => (cal Tryd.prog Z 81 [(Value.pointer r_0), (Value.int .i64 4), (Value.slice v34 v34n v34c)] (isT2 fun t35 t36 => (isL fun v37 v37n v37c => ((isB fun v38 => (st1 (c_6.add 2) (Value.slice v37 v37n v37c) (st1 (c_6.add 3) (Value.bool v38) (parse_reader_clause.s20 Z Q t_4 c_6)))) t36)) t35)))
def parse_reader_clause.q38 (Z : ZT) (Q : List Value → PT) : QF := thenK (parse_reader_clause.j22 Z Q) (parse_reader_clause.q21 Z Q)
def parse_reader_clause.q39 (Z : ZT) (Q : List Value → PT) : QF := inBl 1 (parse_reader_clause.q38 Z Q)
theorem parse_reader_clause.s37_eq (Z : ZT) (Q : List Value → PT) (ρ : Fr) (r_0 : OA) (t_4 : Addr) (c_6 : Addr) : comp Tryd.prog Z parse_reader_clause.c35 (parse_reader_clause.q39 Z Q) (puts ρ [(0, (Value.pointer r_0)), (4, (Value.pointer (some t_4))), (6, (Value.pointer (some c_6)))]) = parse_reader_clause.s37 Z Q r_0 t_4 c_6 := by kernel_rfl
def parse_reader_clause.j40 (Z : ZT) (Q : List Value → PT) : Fr → PT := (fun ρ => atP (ρ 0) fun r_0 => atA (ρ 4) fun t_4 => atA (ρ 6) fun c_6 => (parse_reader_clause.s37 Z Q r_0 t_4 c_6))
theorem parse_reader_clause.s37_ok (Z : ZT) (Q : List Value → PT) : Ok Tryd.prog Tryd.f61.ntmps Z parse_reader_clause.c35 (parse_reader_clause.q39 Z Q) (parse_reader_clause.j40 Z Q) := by
  intro E he ρ w a hr h
  obtain ⟨r_0, e0, h⟩ := atP_e h
  obtain ⟨t_4, e4, h⟩ := atA_e h
  obtain ⟨c_6, e6, h⟩ := atA_e h
  exact ok_at [(0, (Value.pointer r_0)), (4, (Value.pointer (some t_4))), (6, (Value.pointer (some c_6)))] (okC parse_reader_clause.c35 (parse_reader_clause.q39 Z Q) (by kernel_rfl)) (puts_cons e0 (puts_cons e4 (puts_cons e6 (fun p hp => puts_nil hp)))) (parse_reader_clause.s37_eq Z Q ρ r_0 t_4 c_6) he hr h
noncomputable def parse_reader_clause.c41 : Code := sq1 parse_reader_clause.c34
noncomputable def parse_reader_clause.c42 : Code := sq2 parse_reader_clause.c34
theorem parse_reader_clause.q43 : parse_reader_clause.c34 = .seq parse_reader_clause.c41 parse_reader_clause.c42 := by kernel_rfl
noncomputable def parse_reader_clause.c44 : Code := blk parse_reader_clause.c42
theorem parse_reader_clause.q45 : parse_reader_clause.c42 = .block 2 parse_reader_clause.c44 := by kernel_rfl
noncomputable def parse_reader_clause.c46 : Code := lop parse_reader_clause.c44
theorem parse_reader_clause.q47 : parse_reader_clause.c44 = .loop parse_reader_clause.c46 := by kernel_rfl
def parse_reader_clause.q49 (Z : ZT) (Q : List Value → PT) : QF := thenK (parse_reader_clause.j40 Z Q) (parse_reader_clause.q39 Z Q)
def parse_reader_clause.q50 (Z : ZT) (Q : List Value → PT) : QF := inBl 2 (parse_reader_clause.q49 Z Q)
def parse_reader_clause.s51 (Z : ZT) (Q : List Value → PT) (X1 : OA → Addr → Addr → Int → PT) (r_0 : OA) (t_4 : Addr) (c_6 : Addr) (t_52 : Int) : PT :=
  (pif (decide (t_52 < 3)) (cal Tryd.prog Z 62 [(Value.pointer r_0), (Value.int .i64 3)] (isN fun v46 => (drawn fun S47 => (hL S47 (c_6.add 2) fun v48 v48n v48c => (cal Tryd.prog Z 60 [(Value.pointer r_0)] (isN fun v49 => (sAnd S47 (cnd (List.length v49 = 2) (newC 49 (v49 ++ ([])) fun v50 => (sAnd S47 (runL Tryd.prog (bi .append #[53, 53] 53 [false, false] [(Value.slice v48 v48n v48c), (Value.slice (some v50) 1 1)]) fun v51 v51n v51c => (sAnd S47 (st1 (c_6.add 2) (Value.slice v51 v51n v51c) (X1 r_0 t_4 c_6 (IntKind.wrap .i64 (t_52 + 1)))))))))))))))) (parse_reader_clause.s37 Z Q r_0 t_4 c_6))
def parse_reader_clause.j52 (Z : ZT) (Q : List Value → PT) (X1 : OA → Addr → Addr → Int → PT) : Fr → PT := (fun ρ => atP (ρ 0) fun r_0 => atA (ρ 4) fun t_4 => atA (ρ 6) fun c_6 => atI .i64 (ρ 52) fun t_52 => (X1 r_0 t_4 c_6 t_52))
def parse_reader_clause.q53 (Z : ZT) (Q : List Value → PT) (X1 : OA → Addr → Addr → Int → PT) : QF := thenK (parse_reader_clause.j52 Z Q X1) (parse_reader_clause.q50 Z Q)
theorem parse_reader_clause.s51_eq (Z : ZT) (Q : List Value → PT) (X1 : OA → Addr → Addr → Int → PT) (ρ : Fr) (r_0 : OA) (t_4 : Addr) (c_6 : Addr) (t_52 : Int) : comp Tryd.prog Z parse_reader_clause.c46 (parse_reader_clause.q53 Z Q X1) (puts ρ [(0, (Value.pointer r_0)), (4, (Value.pointer (some t_4))), (6, (Value.pointer (some c_6))), (52, (Value.int .i64 t_52))]) = parse_reader_clause.s51 Z Q X1 r_0 t_4 c_6 t_52 := by kernel_rfl
def parse_reader_clause.j54 (Z : ZT) (Q : List Value → PT) (X1 : OA → Addr → Addr → Int → PT) : Fr → PT := (fun ρ => atP (ρ 0) fun r_0 => atA (ρ 4) fun t_4 => atA (ρ 6) fun c_6 => atI .i64 (ρ 52) fun t_52 => (parse_reader_clause.s51 Z Q X1 r_0 t_4 c_6 t_52))
theorem parse_reader_clause.s51_ok (Z : ZT) (Q : List Value → PT) (X1 : OA → Addr → Addr → Int → PT) : Ok Tryd.prog Tryd.f61.ntmps Z parse_reader_clause.c46 (parse_reader_clause.q53 Z Q X1) (parse_reader_clause.j54 Z Q X1) := by
  intro E he ρ w a hr h
  obtain ⟨r_0, e0, h⟩ := atP_e h
  obtain ⟨t_4, e4, h⟩ := atA_e h
  obtain ⟨c_6, e6, h⟩ := atA_e h
  obtain ⟨t_52, e52, h⟩ := atI_e h
  exact ok_at [(0, (Value.pointer r_0)), (4, (Value.pointer (some t_4))), (6, (Value.pointer (some c_6))), (52, (Value.int .i64 t_52))] (okC parse_reader_clause.c46 (parse_reader_clause.q53 Z Q X1) (by kernel_rfl)) (puts_cons e0 (puts_cons e4 (puts_cons e6 (puts_cons e52 (fun p hp => puts_nil hp))))) (parse_reader_clause.s51_eq Z Q X1 ρ r_0 t_4 c_6 t_52) he hr h
def parse_reader_clause.l48 (Z : ZT) (Q : List Value → PT) : Nat → OA → Addr → Addr → Int → PT
  | 0, _, _, _, _ => bad
  | k + 1, r_0, t_4, c_6, t_52 => (parse_reader_clause.s51 Z Q (parse_reader_clause.l48 Z Q k) r_0 t_4 c_6 t_52)
def parse_reader_clause.j55 (Z : ZT) (Q : List Value → PT) (k : Nat) : Fr → PT := (fun ρ => atP (ρ 0) fun r_0 => atA (ρ 4) fun t_4 => atA (ρ 6) fun c_6 => atI .i64 (ρ 52) fun t_52 => (parse_reader_clause.l48 Z Q k r_0 t_4 c_6 t_52))
def parse_reader_clause.j56 (Z : ZT) (Q : List Value → PT) : Fr → PT := (fun ρ => atP (ρ 0) fun r_0 => atA (ρ 4) fun t_4 => atA (ρ 6) fun c_6 => atI .i64 (ρ 52) fun t_52 => (exK fun k => parse_reader_clause.l48 Z Q k r_0 t_4 c_6 t_52))
theorem parse_reader_clause.o57 (Z : ZT) (Q : List Value → PT) : Ok Tryd.prog Tryd.f61.ntmps Z parse_reader_clause.c44 (parse_reader_clause.q50 Z Q) (parse_reader_clause.j56 Z Q) := by
  rw [parse_reader_clause.q47]
  refine Ok.imp (ok_loop (J := parse_reader_clause.j55 Z Q) ?_ ?_) ?_
  · intro ρ w h
    obtain ⟨r_0, e0, h⟩ := atP_e h
    obtain ⟨t_4, e4, h⟩ := atA_e h
    obtain ⟨c_6, e6, h⟩ := atA_e h
    obtain ⟨t_52, e52, h⟩ := atI_e h
    exact h
  · intro k
    refine Ok.imp (parse_reader_clause.s51_ok Z Q (parse_reader_clause.l48 Z Q k)) fun ρ w h => ?_
    obtain ⟨r_0, e0, h⟩ := atP_e h
    obtain ⟨t_4, e4, h⟩ := atA_e h
    obtain ⟨c_6, e6, h⟩ := atA_e h
    obtain ⟨t_52, e52, h⟩ := atI_e h
    show (parse_reader_clause.j54 Z Q (parse_reader_clause.l48 Z Q k)) ρ w
    simp only [parse_reader_clause.j54]
    rw [e0]
    rw [e4]
    rw [e6]
    rw [e52]
    exact h
  · intro ρ w h
    obtain ⟨r_0, e0, h⟩ := atP_e h
    obtain ⟨t_4, e4, h⟩ := atA_e h
    obtain ⟨c_6, e6, h⟩ := atA_e h
    obtain ⟨t_52, e52, h⟩ := atI_e h
    obtain ⟨k, h⟩ := h
    refine ⟨k, ?_⟩
    show (atP (ρ 0) fun r_0 => atA (ρ 4) fun t_4 => atA (ρ 6) fun c_6 => atI .i64 (ρ 52) fun t_52 => (parse_reader_clause.l48 Z Q k r_0 t_4 c_6 t_52)) w
    rw [e0]
    rw [e4]
    rw [e6]
    rw [e52]
    exact h
theorem parse_reader_clause.o58 (Z : ZT) (Q : List Value → PT) : Ok Tryd.prog Tryd.f61.ntmps Z parse_reader_clause.c42 (parse_reader_clause.q49 Z Q) (parse_reader_clause.j56 Z Q) := by
  rw [parse_reader_clause.q45]; exact ok_block (parse_reader_clause.o57 Z Q)
def parse_reader_clause.s59 (Z : ZT) (Q : List Value → PT) (r_0 : OA) (t_4 : Addr) (c_6 : Addr) : PT :=
  (exK fun k => parse_reader_clause.l48 Z Q k r_0 t_4 c_6 0)
theorem parse_reader_clause.s59_eq (Z : ZT) (Q : List Value → PT) (ρ : Fr) (r_0 : OA) (t_4 : Addr) (c_6 : Addr) : (comp Tryd.prog Z parse_reader_clause.c41 (thenK (parse_reader_clause.j56 Z Q) (parse_reader_clause.q49 Z Q))) (puts ρ [(0, (Value.pointer r_0)), (4, (Value.pointer (some t_4))), (6, (Value.pointer (some c_6)))]) = parse_reader_clause.s59 Z Q r_0 t_4 c_6 := by kernel_rfl
def parse_reader_clause.j60 (Z : ZT) (Q : List Value → PT) : Fr → PT := (fun ρ => atP (ρ 0) fun r_0 => atA (ρ 4) fun t_4 => atA (ρ 6) fun c_6 => (parse_reader_clause.s59 Z Q r_0 t_4 c_6))
theorem parse_reader_clause.s59_ok (Z : ZT) (Q : List Value → PT) : Ok Tryd.prog Tryd.f61.ntmps Z parse_reader_clause.c34 (parse_reader_clause.q49 Z Q) (parse_reader_clause.j60 Z Q) := by
  intro E he ρ w a hr h
  rw [parse_reader_clause.q43] at he ⊢
  obtain ⟨r_0, e0, h⟩ := atP_e h
  obtain ⟨t_4, e4, h⟩ := atA_e h
  obtain ⟨c_6, e6, h⟩ := atA_e h
  exact ok_at [(0, (Value.pointer r_0)), (4, (Value.pointer (some t_4))), (6, (Value.pointer (some c_6)))] (ok_seq (okC parse_reader_clause.c41 _ (by kernel_rfl)) (parse_reader_clause.o58 Z Q)) (puts_cons e0 (puts_cons e4 (puts_cons e6 (fun p hp => puts_nil hp)))) (parse_reader_clause.s59_eq Z Q ρ r_0 t_4 c_6) he hr h
theorem parse_reader_clause.o61 (Z : ZT) (Q : List Value → PT) : Ok Tryd.prog Tryd.f61.ntmps Z parse_reader_clause.c31 (parse_reader_clause.q39 Z Q) (parse_reader_clause.j60 Z Q) := by
  rw [parse_reader_clause.q36]; exact ok_seq (parse_reader_clause.s59_ok Z Q) (parse_reader_clause.s37_ok Z Q)
noncomputable def parse_reader_clause.c62 : Code := sq1 parse_reader_clause.c32
noncomputable def parse_reader_clause.c63 : Code := sq2 parse_reader_clause.c32
theorem parse_reader_clause.q64 : parse_reader_clause.c32 = .seq parse_reader_clause.c62 parse_reader_clause.c63 := by kernel_rfl
def parse_reader_clause.s65 (Z : ZT) (Q : List Value → PT) (r_0 : OA) (t_4 : Addr) (c_6 : Addr) (t_73 : Bool) : PT :=
  (pif t_73 (ldL (c_6.add 2) fun v52 v52n v52c => (cal Tryd.prog Z 81 [(Value.pointer r_0), (Value.int .i64 5), (Value.slice v52 v52n v52c)] (isT2 fun t53 t54 => (isL fun v55 v55n v55c => ((isB fun v56 => (st1 (c_6.add 2) (Value.slice v55 v55n v55c) (st1 (c_6.add 4) (Value.bool v56) (parse_reader_clause.s20 Z Q t_4 c_6)))) t54)) t53))) (parse_reader_clause.s20 Z Q t_4 c_6))
theorem parse_reader_clause.s65_eq (Z : ZT) (Q : List Value → PT) (ρ : Fr) (r_0 : OA) (t_4 : Addr) (c_6 : Addr) (t_73 : Bool) : comp Tryd.prog Z parse_reader_clause.c63 (parse_reader_clause.q39 Z Q) (puts ρ [(0, (Value.pointer r_0)), (4, (Value.pointer (some t_4))), (6, (Value.pointer (some c_6))), (73, (Value.bool t_73))]) = parse_reader_clause.s65 Z Q r_0 t_4 c_6 t_73 := by kernel_rfl
def parse_reader_clause.j66 (Z : ZT) (Q : List Value → PT) : Fr → PT := (fun ρ => atP (ρ 0) fun r_0 => atA (ρ 4) fun t_4 => atA (ρ 6) fun c_6 => atB (ρ 73) fun t_73 => (parse_reader_clause.s65 Z Q r_0 t_4 c_6 t_73))
theorem parse_reader_clause.s65_ok (Z : ZT) (Q : List Value → PT) : Ok Tryd.prog Tryd.f61.ntmps Z parse_reader_clause.c63 (parse_reader_clause.q39 Z Q) (parse_reader_clause.j66 Z Q) := by
  intro E he ρ w a hr h
  obtain ⟨r_0, e0, h⟩ := atP_e h
  obtain ⟨t_4, e4, h⟩ := atA_e h
  obtain ⟨c_6, e6, h⟩ := atA_e h
  obtain ⟨t_73, e73, h⟩ := atB_e h
  exact ok_at [(0, (Value.pointer r_0)), (4, (Value.pointer (some t_4))), (6, (Value.pointer (some c_6))), (73, (Value.bool t_73))] (okC parse_reader_clause.c63 (parse_reader_clause.q39 Z Q) (by kernel_rfl)) (puts_cons e0 (puts_cons e4 (puts_cons e6 (puts_cons e73 (fun p hp => puts_nil hp))))) (parse_reader_clause.s65_eq Z Q ρ r_0 t_4 c_6 t_73) he hr h
def parse_reader_clause.s67 (Z : ZT) (Q : List Value → PT) (r_0 : OA) (t_4 : Addr) (c_6 : Addr) (t_48 : ByteArray) : PT :=
  (pif (t_48.toList == (⟨#[115, 112, 111, 114, 116]⟩ : ByteArray).toList) (parse_reader_clause.s65 Z Q r_0 t_4 c_6 (t_48.toList == (⟨#[115, 112, 111, 114, 116]⟩ : ByteArray).toList)) (parse_reader_clause.s65 Z Q r_0 t_4 c_6 (t_48.toList == (⟨#[100, 112, 111, 114, 116]⟩ : ByteArray).toList)))
theorem parse_reader_clause.s67_eq (Z : ZT) (Q : List Value → PT) (ρ : Fr) (r_0 : OA) (t_4 : Addr) (c_6 : Addr) (t_48 : ByteArray) : (comp Tryd.prog Z parse_reader_clause.c62 (thenK (parse_reader_clause.j66 Z Q) (parse_reader_clause.q39 Z Q))) (puts ρ [(0, (Value.pointer r_0)), (4, (Value.pointer (some t_4))), (6, (Value.pointer (some c_6))), (48, (Value.string t_48))]) = parse_reader_clause.s67 Z Q r_0 t_4 c_6 t_48 := by kernel_rfl
def parse_reader_clause.j68 (Z : ZT) (Q : List Value → PT) : Fr → PT := (fun ρ => atP (ρ 0) fun r_0 => atA (ρ 4) fun t_4 => atA (ρ 6) fun c_6 => atS (ρ 48) fun t_48 => (parse_reader_clause.s67 Z Q r_0 t_4 c_6 t_48))
theorem parse_reader_clause.s67_ok (Z : ZT) (Q : List Value → PT) : Ok Tryd.prog Tryd.f61.ntmps Z parse_reader_clause.c32 (parse_reader_clause.q39 Z Q) (parse_reader_clause.j68 Z Q) := by
  intro E he ρ w a hr h
  rw [parse_reader_clause.q64] at he ⊢
  obtain ⟨r_0, e0, h⟩ := atP_e h
  obtain ⟨t_4, e4, h⟩ := atA_e h
  obtain ⟨c_6, e6, h⟩ := atA_e h
  obtain ⟨t_48, e48, h⟩ := atS_e h
  exact ok_at [(0, (Value.pointer r_0)), (4, (Value.pointer (some t_4))), (6, (Value.pointer (some c_6))), (48, (Value.string t_48))] (ok_seq (okC parse_reader_clause.c62 _ (by kernel_rfl)) (parse_reader_clause.s65_ok Z Q)) (puts_cons e0 (puts_cons e4 (puts_cons e6 (puts_cons e48 (fun p hp => puts_nil hp))))) (parse_reader_clause.s67_eq Z Q ρ r_0 t_4 c_6 t_48) he hr h
theorem parse_reader_clause.o69 (Z : ZT) (Q : List Value → PT) : Ok Tryd.prog Tryd.f61.ntmps Z parse_reader_clause.c29 (parse_reader_clause.q39 Z Q) (condJ (.tmp 49) (parse_reader_clause.j60 Z Q) (parse_reader_clause.j68 Z Q)) := by
  rw [parse_reader_clause.q33]; exact ok_cond (parse_reader_clause.o61 Z Q) (parse_reader_clause.s67_ok Z Q)
def parse_reader_clause.s70 (Z : ZT) (Q : List Value → PT) (r_0 : OA) (t_4 : Addr) (c_6 : Addr) (t_48 : ByteArray) : PT :=
  (pif (t_48.toList == (⟨#[115, 114, 99]⟩ : ByteArray).toList) (pif (t_48.toList == (⟨#[115, 114, 99]⟩ : ByteArray).toList) (parse_reader_clause.s59 Z Q r_0 t_4 c_6) (parse_reader_clause.s67 Z Q r_0 t_4 c_6 t_48)) (pif (t_48.toList == (⟨#[100, 115, 116]⟩ : ByteArray).toList) (parse_reader_clause.s59 Z Q r_0 t_4 c_6) (parse_reader_clause.s67 Z Q r_0 t_4 c_6 t_48)))
theorem parse_reader_clause.s70_eq (Z : ZT) (Q : List Value → PT) (ρ : Fr) (r_0 : OA) (t_4 : Addr) (c_6 : Addr) (t_48 : ByteArray) : (comp Tryd.prog Z parse_reader_clause.c28 (thenK (condJ (.tmp 49) (parse_reader_clause.j60 Z Q) (parse_reader_clause.j68 Z Q)) (parse_reader_clause.q39 Z Q))) (puts ρ [(0, (Value.pointer r_0)), (4, (Value.pointer (some t_4))), (6, (Value.pointer (some c_6))), (48, (Value.string t_48))]) = parse_reader_clause.s70 Z Q r_0 t_4 c_6 t_48 := by kernel_rfl
def parse_reader_clause.j71 (Z : ZT) (Q : List Value → PT) : Fr → PT := (fun ρ => atP (ρ 0) fun r_0 => atA (ρ 4) fun t_4 => atA (ρ 6) fun c_6 => atS (ρ 48) fun t_48 => (parse_reader_clause.s70 Z Q r_0 t_4 c_6 t_48))
theorem parse_reader_clause.s70_ok (Z : ZT) (Q : List Value → PT) : Ok Tryd.prog Tryd.f61.ntmps Z parse_reader_clause.c26 (parse_reader_clause.q39 Z Q) (parse_reader_clause.j71 Z Q) := by
  intro E he ρ w a hr h
  rw [parse_reader_clause.q30] at he ⊢
  obtain ⟨r_0, e0, h⟩ := atP_e h
  obtain ⟨t_4, e4, h⟩ := atA_e h
  obtain ⟨c_6, e6, h⟩ := atA_e h
  obtain ⟨t_48, e48, h⟩ := atS_e h
  exact ok_at [(0, (Value.pointer r_0)), (4, (Value.pointer (some t_4))), (6, (Value.pointer (some c_6))), (48, (Value.string t_48))] (ok_seq (okC parse_reader_clause.c28 _ (by kernel_rfl)) (parse_reader_clause.o69 Z Q)) (puts_cons e0 (puts_cons e4 (puts_cons e6 (puts_cons e48 (fun p hp => puts_nil hp))))) (parse_reader_clause.s70_eq Z Q ρ r_0 t_4 c_6 t_48) he hr h
theorem parse_reader_clause.o72 (Z : ZT) (Q : List Value → PT) : Ok Tryd.prog Tryd.f61.ntmps Z parse_reader_clause.c24 (parse_reader_clause.q38 Z Q) (parse_reader_clause.j71 Z Q) := by
  rw [parse_reader_clause.q27]; exact ok_block (parse_reader_clause.s70_ok Z Q)
def parse_reader_clause.s73 (Z : ZT) (Q : List Value → PT) (r_0 : OA) (t_4 : Addr) (t_5 : Addr) (c_6 : Addr) : PT :=
  (ldS (t_5.add 2) fun v57 => (parse_reader_clause.s70 Z Q r_0 t_4 c_6 v57))
theorem parse_reader_clause.s73_eq (Z : ZT) (Q : List Value → PT) (ρ : Fr) (r_0 : OA) (t_4 : Addr) (t_5 : Addr) (c_6 : Addr) : (comp Tryd.prog Z parse_reader_clause.c23 (thenK (parse_reader_clause.j71 Z Q) (parse_reader_clause.q38 Z Q))) (puts ρ [(0, (Value.pointer r_0)), (4, (Value.pointer (some t_4))), (5, (Value.pointer (some t_5))), (6, (Value.pointer (some c_6)))]) = parse_reader_clause.s73 Z Q r_0 t_4 t_5 c_6 := by kernel_rfl
def parse_reader_clause.j74 (Z : ZT) (Q : List Value → PT) : Fr → PT := (fun ρ => atP (ρ 0) fun r_0 => atA (ρ 4) fun t_4 => atA (ρ 5) fun t_5 => atA (ρ 6) fun c_6 => (parse_reader_clause.s73 Z Q r_0 t_4 t_5 c_6))
theorem parse_reader_clause.s73_ok (Z : ZT) (Q : List Value → PT) : Ok Tryd.prog Tryd.f61.ntmps Z parse_reader_clause.c17 (parse_reader_clause.q38 Z Q) (parse_reader_clause.j74 Z Q) := by
  intro E he ρ w a hr h
  rw [parse_reader_clause.q25] at he ⊢
  obtain ⟨r_0, e0, h⟩ := atP_e h
  obtain ⟨t_4, e4, h⟩ := atA_e h
  obtain ⟨t_5, e5, h⟩ := atA_e h
  obtain ⟨c_6, e6, h⟩ := atA_e h
  exact ok_at [(0, (Value.pointer r_0)), (4, (Value.pointer (some t_4))), (5, (Value.pointer (some t_5))), (6, (Value.pointer (some c_6)))] (ok_seq (okC parse_reader_clause.c23 _ (by kernel_rfl)) (parse_reader_clause.o72 Z Q)) (puts_cons e0 (puts_cons e4 (puts_cons e5 (puts_cons e6 (fun p hp => puts_nil hp))))) (parse_reader_clause.s73_eq Z Q ρ r_0 t_4 t_5 c_6) he hr h
theorem parse_reader_clause.o75 (Z : ZT) (Q : List Value → PT) : Ok Tryd.prog Tryd.f61.ntmps Z parse_reader_clause.c15 (parse_reader_clause.q21 Z Q) (parse_reader_clause.j74 Z Q) := by
  rw [parse_reader_clause.q19]; exact ok_seq (parse_reader_clause.s73_ok Z Q) (parse_reader_clause.s20_ok Z Q)
def parse_reader_clause.s76 (Z : ZT) (Q : List Value → PT) (r_0 : OA) (had_1 : Option Nat) (t_4 : Addr) (t_5 : Addr) (c_6 : Addr) : PT :=
  (ldS (t_5.add 2) fun v58 => (runI .i64 Tryd.prog (Instr.lookup 109 (Value.map had_1) (Value.string v58) false) fun v59 => (runU Tryd.prog (Instr.mapUpdate 109 (Value.map had_1) (Value.string v58) (Value.int .i64 (IntKind.wrap .i64 (v59 + 1)))) (nn r_0 fun v60 => (ldI .i64 (v60.add 1) fun v61 => (nn r_0 fun v62 => (st1 (v62.add 1) (Value.int .i64 (IntKind.wrap .i64 (v61 + 1))) (cal Tryd.prog Z 60 [(Value.pointer r_0)] (isN fun v63 => (cnd (List.length v63 = 2) (newC 49 (v63 ++ ([])) fun v64 => (st1 (c_6.add 2) (Value.slice (some v64) 1 1) (parse_reader_clause.s73 Z Q r_0 t_4 t_5 c_6)))))))))))))
theorem parse_reader_clause.s76_eq (Z : ZT) (Q : List Value → PT) (ρ : Fr) (r_0 : OA) (had_1 : Option Nat) (t_4 : Addr) (t_5 : Addr) (c_6 : Addr) : (comp Tryd.prog Z parse_reader_clause.c12 (thenK (comp Tryd.prog Z parse_reader_clause.c13 (thenK (comp Tryd.prog Z parse_reader_clause.c14 (thenK (parse_reader_clause.j74 Z Q) (parse_reader_clause.q21 Z Q))) (parse_reader_clause.q21 Z Q))) (parse_reader_clause.q21 Z Q))) (puts ρ [(0, (Value.pointer r_0)), (1, (Value.map had_1)), (4, (Value.pointer (some t_4))), (5, (Value.pointer (some t_5))), (6, (Value.pointer (some c_6)))]) = parse_reader_clause.s76 Z Q r_0 had_1 t_4 t_5 c_6 := by kernel_rfl
def parse_reader_clause.j77 (Z : ZT) (Q : List Value → PT) : Fr → PT := (fun ρ => atP (ρ 0) fun r_0 => atM (ρ 1) fun had_1 => atA (ρ 4) fun t_4 => atA (ρ 5) fun t_5 => atA (ρ 6) fun c_6 => (parse_reader_clause.s76 Z Q r_0 had_1 t_4 t_5 c_6))
theorem parse_reader_clause.s76_ok (Z : ZT) (Q : List Value → PT) : Ok Tryd.prog Tryd.f61.ntmps Z parse_reader_clause.c10 (parse_reader_clause.q21 Z Q) (parse_reader_clause.j77 Z Q) := by
  intro E he ρ w a hr h
  rw [parse_reader_clause.q16] at he ⊢
  obtain ⟨r_0, e0, h⟩ := atP_e h
  obtain ⟨had_1, e1, h⟩ := atM_e h
  obtain ⟨t_4, e4, h⟩ := atA_e h
  obtain ⟨t_5, e5, h⟩ := atA_e h
  obtain ⟨c_6, e6, h⟩ := atA_e h
  exact ok_at [(0, (Value.pointer r_0)), (1, (Value.map had_1)), (4, (Value.pointer (some t_4))), (5, (Value.pointer (some t_5))), (6, (Value.pointer (some c_6)))] (ok_seq (okC parse_reader_clause.c12 _ (by kernel_rfl)) (ok_seq (okC parse_reader_clause.c13 _ (by kernel_rfl)) (ok_seq (okC parse_reader_clause.c14 _ (by kernel_rfl)) (parse_reader_clause.o75 Z Q)))) (puts_cons e0 (puts_cons e1 (puts_cons e4 (puts_cons e5 (puts_cons e6 (fun p hp => puts_nil hp)))))) (parse_reader_clause.s76_eq Z Q ρ r_0 had_1 t_4 t_5 c_6) he hr h
def parse_reader_clause.s78 (Z : ZT) (Q : List Value → PT) (r_0 : OA) (had_1 : Option Nat) (t_4 : Addr) (t_5 : Addr) (c_6 : Addr) : PT :=
  (ldS (t_5.add 2) fun v65 => (runI .i64 Tryd.prog (Instr.lookup 109 (Value.map had_1) (Value.string v65) false) fun v66 => (pif (decide (v66 > 0)) (cal Tryd.prog Z 38 [(Value.pointer r_0), (Value.int .i64 9)] (isU (parse_reader_clause.s76 Z Q r_0 had_1 t_4 t_5 c_6))) (parse_reader_clause.s76 Z Q r_0 had_1 t_4 t_5 c_6))))
theorem parse_reader_clause.s78_eq (Z : ZT) (Q : List Value → PT) (ρ : Fr) (r_0 : OA) (had_1 : Option Nat) (t_4 : Addr) (t_5 : Addr) (c_6 : Addr) : (comp Tryd.prog Z parse_reader_clause.c9 (thenK (parse_reader_clause.j77 Z Q) (parse_reader_clause.q21 Z Q))) (puts ρ [(0, (Value.pointer r_0)), (1, (Value.map had_1)), (4, (Value.pointer (some t_4))), (5, (Value.pointer (some t_5))), (6, (Value.pointer (some c_6)))]) = parse_reader_clause.s78 Z Q r_0 had_1 t_4 t_5 c_6 := by kernel_rfl
def parse_reader_clause.j79 (Z : ZT) (Q : List Value → PT) : Fr → PT := (fun ρ => atP (ρ 0) fun r_0 => atM (ρ 1) fun had_1 => atA (ρ 4) fun t_4 => atA (ρ 5) fun t_5 => atA (ρ 6) fun c_6 => (parse_reader_clause.s78 Z Q r_0 had_1 t_4 t_5 c_6))
theorem parse_reader_clause.s78_ok (Z : ZT) (Q : List Value → PT) : Ok Tryd.prog Tryd.f61.ntmps Z parse_reader_clause.c7 (parse_reader_clause.q21 Z Q) (parse_reader_clause.j79 Z Q) := by
  intro E he ρ w a hr h
  rw [parse_reader_clause.q11] at he ⊢
  obtain ⟨r_0, e0, h⟩ := atP_e h
  obtain ⟨had_1, e1, h⟩ := atM_e h
  obtain ⟨t_4, e4, h⟩ := atA_e h
  obtain ⟨t_5, e5, h⟩ := atA_e h
  obtain ⟨c_6, e6, h⟩ := atA_e h
  exact ok_at [(0, (Value.pointer r_0)), (1, (Value.map had_1)), (4, (Value.pointer (some t_4))), (5, (Value.pointer (some t_5))), (6, (Value.pointer (some c_6)))] (ok_seq (okC parse_reader_clause.c9 _ (by kernel_rfl)) (parse_reader_clause.s76_ok Z Q)) (puts_cons e0 (puts_cons e1 (puts_cons e4 (puts_cons e5 (puts_cons e6 (fun p hp => puts_nil hp)))))) (parse_reader_clause.s78_eq Z Q ρ r_0 had_1 t_4 t_5 c_6) he hr h
noncomputable def parse_reader_clause.c80 : Code := sq1 parse_reader_clause.c6
noncomputable def parse_reader_clause.c81 : Code := sq2 parse_reader_clause.c6
theorem parse_reader_clause.q82 : parse_reader_clause.c6 = .seq parse_reader_clause.c80 parse_reader_clause.c81 := by kernel_rfl
noncomputable def parse_reader_clause.c83 : Code := blk parse_reader_clause.c81
theorem parse_reader_clause.q84 : parse_reader_clause.c81 = .block 0 parse_reader_clause.c83 := by kernel_rfl
noncomputable def parse_reader_clause.c85 : Code := sq1 parse_reader_clause.c83
noncomputable def parse_reader_clause.c86 : Code := sq2 parse_reader_clause.c83
theorem parse_reader_clause.q87 : parse_reader_clause.c83 = .seq parse_reader_clause.c85 parse_reader_clause.c86 := by kernel_rfl
def parse_reader_clause.s88 (Z : ZT) (Q : List Value → PT) (r_0 : OA) (had_1 : Option Nat) (t_4 : Addr) (t_5 : Addr) (c_6 : Addr) (t_18 : Bool) : PT :=
  (pif t_18 (parse_reader_clause.s78 Z Q r_0 had_1 t_4 t_5 c_6) (cal Tryd.prog Z 38 [(Value.pointer r_0), (Value.int .i64 8)] (isU (parse_reader_clause.s78 Z Q r_0 had_1 t_4 t_5 c_6))))
def parse_reader_clause.q89 (Z : ZT) (Q : List Value → PT) : QF := thenK (parse_reader_clause.j79 Z Q) (parse_reader_clause.q21 Z Q)
def parse_reader_clause.q90 (Z : ZT) (Q : List Value → PT) : QF := inBl 0 (parse_reader_clause.q89 Z Q)
theorem parse_reader_clause.s88_eq (Z : ZT) (Q : List Value → PT) (ρ : Fr) (r_0 : OA) (had_1 : Option Nat) (t_4 : Addr) (t_5 : Addr) (c_6 : Addr) (t_18 : Bool) : comp Tryd.prog Z parse_reader_clause.c86 (parse_reader_clause.q90 Z Q) (puts ρ [(0, (Value.pointer r_0)), (1, (Value.map had_1)), (4, (Value.pointer (some t_4))), (5, (Value.pointer (some t_5))), (6, (Value.pointer (some c_6))), (18, (Value.bool t_18))]) = parse_reader_clause.s88 Z Q r_0 had_1 t_4 t_5 c_6 t_18 := by kernel_rfl
def parse_reader_clause.j91 (Z : ZT) (Q : List Value → PT) : Fr → PT := (fun ρ => atP (ρ 0) fun r_0 => atM (ρ 1) fun had_1 => atA (ρ 4) fun t_4 => atA (ρ 5) fun t_5 => atA (ρ 6) fun c_6 => atB (ρ 18) fun t_18 => (parse_reader_clause.s88 Z Q r_0 had_1 t_4 t_5 c_6 t_18))
theorem parse_reader_clause.s88_ok (Z : ZT) (Q : List Value → PT) : Ok Tryd.prog Tryd.f61.ntmps Z parse_reader_clause.c86 (parse_reader_clause.q90 Z Q) (parse_reader_clause.j91 Z Q) := by
  intro E he ρ w a hr h
  obtain ⟨r_0, e0, h⟩ := atP_e h
  obtain ⟨had_1, e1, h⟩ := atM_e h
  obtain ⟨t_4, e4, h⟩ := atA_e h
  obtain ⟨t_5, e5, h⟩ := atA_e h
  obtain ⟨c_6, e6, h⟩ := atA_e h
  obtain ⟨t_18, e18, h⟩ := atB_e h
  exact ok_at [(0, (Value.pointer r_0)), (1, (Value.map had_1)), (4, (Value.pointer (some t_4))), (5, (Value.pointer (some t_5))), (6, (Value.pointer (some c_6))), (18, (Value.bool t_18))] (okC parse_reader_clause.c86 (parse_reader_clause.q90 Z Q) (by kernel_rfl)) (puts_cons e0 (puts_cons e1 (puts_cons e4 (puts_cons e5 (puts_cons e6 (puts_cons e18 (fun p hp => puts_nil hp))))))) (parse_reader_clause.s88_eq Z Q ρ r_0 had_1 t_4 t_5 c_6 t_18) he hr h
def parse_reader_clause.s92 (Z : ZT) (Q : List Value → PT) (r_0 : OA) (had_1 : Option Nat) (t_4 : Addr) (t_5 : Addr) (c_6 : Addr) (t_15 : ByteArray) : PT :=
  (pif (t_15.toList == (⟨#[115, 114, 99]⟩ : ByteArray).toList) (parse_reader_clause.s88 Z Q r_0 had_1 t_4 t_5 c_6 (t_15.toList == (⟨#[115, 114, 99]⟩ : ByteArray).toList)) (pif (t_15.toList == (⟨#[100, 115, 116]⟩ : ByteArray).toList) (parse_reader_clause.s88 Z Q r_0 had_1 t_4 t_5 c_6 (t_15.toList == (⟨#[100, 115, 116]⟩ : ByteArray).toList)) (pif (t_15.toList == (⟨#[115, 112, 111, 114, 116]⟩ : ByteArray).toList) (parse_reader_clause.s88 Z Q r_0 had_1 t_4 t_5 c_6 (t_15.toList == (⟨#[115, 112, 111, 114, 116]⟩ : ByteArray).toList)) (pif (t_15.toList == (⟨#[100, 112, 111, 114, 116]⟩ : ByteArray).toList) (parse_reader_clause.s88 Z Q r_0 had_1 t_4 t_5 c_6 (t_15.toList == (⟨#[100, 112, 111, 114, 116]⟩ : ByteArray).toList)) (parse_reader_clause.s88 Z Q r_0 had_1 t_4 t_5 c_6 (t_15.toList == (⟨#[112, 114, 111, 116, 111]⟩ : ByteArray).toList))))))
theorem parse_reader_clause.s92_eq (Z : ZT) (Q : List Value → PT) (ρ : Fr) (r_0 : OA) (had_1 : Option Nat) (t_4 : Addr) (t_5 : Addr) (c_6 : Addr) (t_15 : ByteArray) : (comp Tryd.prog Z parse_reader_clause.c85 (thenK (parse_reader_clause.j91 Z Q) (parse_reader_clause.q90 Z Q))) (puts ρ [(0, (Value.pointer r_0)), (1, (Value.map had_1)), (4, (Value.pointer (some t_4))), (5, (Value.pointer (some t_5))), (6, (Value.pointer (some c_6))), (15, (Value.string t_15))]) = parse_reader_clause.s92 Z Q r_0 had_1 t_4 t_5 c_6 t_15 := by kernel_rfl
def parse_reader_clause.j93 (Z : ZT) (Q : List Value → PT) : Fr → PT := (fun ρ => atP (ρ 0) fun r_0 => atM (ρ 1) fun had_1 => atA (ρ 4) fun t_4 => atA (ρ 5) fun t_5 => atA (ρ 6) fun c_6 => atS (ρ 15) fun t_15 => (parse_reader_clause.s92 Z Q r_0 had_1 t_4 t_5 c_6 t_15))
theorem parse_reader_clause.s92_ok (Z : ZT) (Q : List Value → PT) : Ok Tryd.prog Tryd.f61.ntmps Z parse_reader_clause.c83 (parse_reader_clause.q90 Z Q) (parse_reader_clause.j93 Z Q) := by
  intro E he ρ w a hr h
  rw [parse_reader_clause.q87] at he ⊢
  obtain ⟨r_0, e0, h⟩ := atP_e h
  obtain ⟨had_1, e1, h⟩ := atM_e h
  obtain ⟨t_4, e4, h⟩ := atA_e h
  obtain ⟨t_5, e5, h⟩ := atA_e h
  obtain ⟨c_6, e6, h⟩ := atA_e h
  obtain ⟨t_15, e15, h⟩ := atS_e h
  exact ok_at [(0, (Value.pointer r_0)), (1, (Value.map had_1)), (4, (Value.pointer (some t_4))), (5, (Value.pointer (some t_5))), (6, (Value.pointer (some c_6))), (15, (Value.string t_15))] (ok_seq (okC parse_reader_clause.c85 _ (by kernel_rfl)) (parse_reader_clause.s88_ok Z Q)) (puts_cons e0 (puts_cons e1 (puts_cons e4 (puts_cons e5 (puts_cons e6 (puts_cons e15 (fun p hp => puts_nil hp))))))) (parse_reader_clause.s92_eq Z Q ρ r_0 had_1 t_4 t_5 c_6 t_15) he hr h
theorem parse_reader_clause.o94 (Z : ZT) (Q : List Value → PT) : Ok Tryd.prog Tryd.f61.ntmps Z parse_reader_clause.c81 (parse_reader_clause.q89 Z Q) (parse_reader_clause.j93 Z Q) := by
  rw [parse_reader_clause.q84]; exact ok_block (parse_reader_clause.s92_ok Z Q)
def parse_reader_clause.s95 (Z : ZT) (Q : List Value → PT) (r_0 : OA) (had_1 : Option Nat) (t_4 : Addr) (t_5 : Addr) (c_6 : Addr) : PT :=
  (ldS (t_5.add 2) fun v69 => (parse_reader_clause.s92 Z Q r_0 had_1 t_4 t_5 c_6 v69))
theorem parse_reader_clause.s95_eq (Z : ZT) (Q : List Value → PT) (ρ : Fr) (r_0 : OA) (had_1 : Option Nat) (t_4 : Addr) (t_5 : Addr) (c_6 : Addr) : (comp Tryd.prog Z parse_reader_clause.c80 (thenK (parse_reader_clause.j93 Z Q) (parse_reader_clause.q89 Z Q))) (puts ρ [(0, (Value.pointer r_0)), (1, (Value.map had_1)), (4, (Value.pointer (some t_4))), (5, (Value.pointer (some t_5))), (6, (Value.pointer (some c_6)))]) = parse_reader_clause.s95 Z Q r_0 had_1 t_4 t_5 c_6 := by kernel_rfl
def parse_reader_clause.j96 (Z : ZT) (Q : List Value → PT) : Fr → PT := (fun ρ => atP (ρ 0) fun r_0 => atM (ρ 1) fun had_1 => atA (ρ 4) fun t_4 => atA (ρ 5) fun t_5 => atA (ρ 6) fun c_6 => (parse_reader_clause.s95 Z Q r_0 had_1 t_4 t_5 c_6))
theorem parse_reader_clause.s95_ok (Z : ZT) (Q : List Value → PT) : Ok Tryd.prog Tryd.f61.ntmps Z parse_reader_clause.c6 (parse_reader_clause.q89 Z Q) (parse_reader_clause.j96 Z Q) := by
  intro E he ρ w a hr h
  rw [parse_reader_clause.q82] at he ⊢
  obtain ⟨r_0, e0, h⟩ := atP_e h
  obtain ⟨had_1, e1, h⟩ := atM_e h
  obtain ⟨t_4, e4, h⟩ := atA_e h
  obtain ⟨t_5, e5, h⟩ := atA_e h
  obtain ⟨c_6, e6, h⟩ := atA_e h
  exact ok_at [(0, (Value.pointer r_0)), (1, (Value.map had_1)), (4, (Value.pointer (some t_4))), (5, (Value.pointer (some t_5))), (6, (Value.pointer (some c_6)))] (ok_seq (okC parse_reader_clause.c80 _ (by kernel_rfl)) (parse_reader_clause.o94 Z Q)) (puts_cons e0 (puts_cons e1 (puts_cons e4 (puts_cons e5 (puts_cons e6 (fun p hp => puts_nil hp)))))) (parse_reader_clause.s95_eq Z Q ρ r_0 had_1 t_4 t_5 c_6) he hr h
theorem parse_reader_clause.o97 (Z : ZT) (Q : List Value → PT) : Ok Tryd.prog Tryd.f61.ntmps Z parse_reader_clause.c4 (parse_reader_clause.q21 Z Q) (parse_reader_clause.j96 Z Q) := by
  rw [parse_reader_clause.q8]; exact ok_seq (parse_reader_clause.s95_ok Z Q) (parse_reader_clause.s78_ok Z Q)
def parse_reader_clause.s98 (Z : ZT) (Q : List Value → PT) (r_0 : OA) (had_1 : Option Nat) : PT :=
  (newC 55 [(Value.string ⟨#[]⟩), (Value.int .i64 0), (Value.slice none 0 0), (Value.bool false), (Value.bool false)] fun v70 => (cal Tryd.prog Z 59 [(Value.pointer r_0)] (isN fun v71 => (newC 79 [(Value.int .i64 0), (Value.int .i64 0), (Value.string ⟨#[]⟩), (Value.int .i64 0)] fun t72 => (stN 4 t72 v71 (ldS (t72.add 2) fun v73 => (ldI .i64 (t72.add 1) fun v74 => (newC 55 [(Value.string ⟨#[]⟩), (Value.int .i64 0), (Value.slice none 0 0), (Value.bool false), (Value.bool false)] fun c75 => (stN 5 c75 [(Value.string v73), (Value.int .i64 v74), (Value.slice none 0 0), (Value.bool false), (Value.bool false)] (parse_reader_clause.s95 Z Q r_0 had_1 v70 t72 c75))))))))))
theorem parse_reader_clause.s98_eq (Z : ZT) (Q : List Value → PT) (ρ : Fr) (r_0 : OA) (had_1 : Option Nat) : (comp Tryd.prog Z parse_reader_clause.c1 (thenK (comp Tryd.prog Z parse_reader_clause.c2 (thenK (comp Tryd.prog Z parse_reader_clause.c3 (thenK (parse_reader_clause.j96 Z Q) (parse_reader_clause.q21 Z Q))) (parse_reader_clause.q21 Z Q))) (parse_reader_clause.q21 Z Q))) (puts ρ [(0, (Value.pointer r_0)), (1, (Value.map had_1))]) = parse_reader_clause.s98 Z Q r_0 had_1 := by kernel_rfl
def parse_reader_clause.j99 (Z : ZT) (Q : List Value → PT) : Fr → PT := (fun ρ => atP (ρ 0) fun r_0 => atM (ρ 1) fun had_1 => (parse_reader_clause.s98 Z Q r_0 had_1))
theorem parse_reader_clause.s98_ok (Z : ZT) (Q : List Value → PT) : Ok Tryd.prog Tryd.f61.ntmps Z parse_reader_clause.body (parse_reader_clause.q21 Z Q) (parse_reader_clause.j99 Z Q) := by
  intro E he ρ w a hr h
  rw [parse_reader_clause.q5] at he ⊢
  obtain ⟨r_0, e0, h⟩ := atP_e h
  obtain ⟨had_1, e1, h⟩ := atM_e h
  exact ok_at [(0, (Value.pointer r_0)), (1, (Value.map had_1))] (ok_seq (okC parse_reader_clause.c1 _ (by kernel_rfl)) (ok_seq (okC parse_reader_clause.c2 _ (by kernel_rfl)) (ok_seq (okC parse_reader_clause.c3 _ (by kernel_rfl)) (parse_reader_clause.o97 Z Q)))) (puts_cons e0 (puts_cons e1 (fun p hp => puts_nil hp))) (parse_reader_clause.s98_eq Z Q ρ r_0 had_1) he hr h
def parse_reader_clause.F (Z : ZT) (Q : List Value → PT) (r_0 : OA) (had_1 : Option Nat) : PT :=
  (parse_reader_clause.s98 Z Q r_0 had_1)
theorem parse_reader_clause.vc (Z : ZT) (Q : List Value → PT) (r_0 : OA) (had_1 : Option Nat) (w : World) (h : parse_reader_clause.F Z Q r_0 had_1 w) : Calls Tryd.prog 61 ⟨[(Value.pointer r_0), (Value.map had_1)]⟩ w fun e w' => (∃ (r0 : List Value), e = .returned (.agg ⟨r0⟩) ∧ Q r0 w') ∨ ∃ c, e = .panicked c ∧ Z c w' := by
  refine (calls_of_ok (args := [(Value.pointer r_0), (Value.map had_1)]) (w := w) (rs := [.cell 4 55]) (fn := Tryd.f61) (c := parse_reader_clause.body) Tryd.func61 (by kernel_rfl) (by kernel_rfl) (Nat.le_of_ble_eq_true (by kernel_rfl)) (parse_reader_clause.s98_ok Z Q) (h)).mono fun e w' hR => ?_
  cases e with
  | returned v =>
    obtain ⟨va, rfl, hR⟩ := atN_e hR
    exact .inl ⟨va, rfl, hR⟩
  | panicked c => exact .inr ⟨c, rfl, hR⟩
  | outgrown => exact hR.elim
theorem parse_reader_clause.vc0 (Q : List Value → PT) (r_0 : OA) (had_1 : Option Nat) (w : World) (h : parse_reader_clause.F Z0 Q r_0 had_1 w) : Calls Tryd.prog 61 ⟨[(Value.pointer r_0), (Value.map had_1)]⟩ w fun e w' => (∃ (r0 : List Value), e = .returned (.agg ⟨r0⟩) ∧ Q r0 w') :=
  (parse_reader_clause.vc Z0 Q r_0 had_1 w h).mono fun _ _ hR => hR.elim id fun ⟨_, _, hz⟩ => hz.elim
theorem parse_reader_clause.cal {Z : ZT} {Q : List Value → PT} {r_0 : OA} {had_1 : Option Nat} {w : World} (h : parse_reader_clause.F Z Q r_0 had_1 w) : Go.Proofs.YtllgjjldnnmjkaaDoor.cal Tryd.prog Z 61 [(Value.pointer r_0), (Value.map had_1)] (isN fun r0 => Q r0) w := by
  refine (parse_reader_clause.vc Z Q r_0 had_1 w h).mono fun e w' hR => ?_
  rcases hR with ⟨r0, rfl, h⟩ | ⟨c, rfl, h⟩
  · show (isN fun r0 => Q r0) (.agg ⟨r0⟩) w'
    exact ⟨_, rfl, h⟩
  · exact h

/-! ### (*milepost/parse.reader).line: function 39 -/
noncomputable def parse_reader_line.body : Code := bodyC Tryd.f39
noncomputable def parse_reader_line.c1 : Code := sq1 parse_reader_line.body
noncomputable def parse_reader_line.c2 : Code := sq1 (sq2 parse_reader_line.body)
noncomputable def parse_reader_line.c3 : Code := sq1 (sq2 (sq2 parse_reader_line.body))
noncomputable def parse_reader_line.c4 : Code := sq2 (sq2 (sq2 parse_reader_line.body))
theorem parse_reader_line.q5 : parse_reader_line.body = .seq parse_reader_line.c1 (.seq parse_reader_line.c2 (.seq parse_reader_line.c3 parse_reader_line.c4)) := by kernel_rfl
noncomputable def parse_reader_line.c6 : Code := sq1 parse_reader_line.c4
noncomputable def parse_reader_line.c7 : Code := sq2 parse_reader_line.c4
theorem parse_reader_line.q8 : parse_reader_line.c4 = .seq parse_reader_line.c6 parse_reader_line.c7 := by kernel_rfl
noncomputable def parse_reader_line.c9 : Code := sq1 parse_reader_line.c7
noncomputable def parse_reader_line.c10 : Code := sq2 parse_reader_line.c7
theorem parse_reader_line.q11 : parse_reader_line.c7 = .seq parse_reader_line.c9 parse_reader_line.c10 := by kernel_rfl
noncomputable def parse_reader_line.c12 : Code := sq1 parse_reader_line.c10
noncomputable def parse_reader_line.c13 : Code := sq2 parse_reader_line.c10
theorem parse_reader_line.q14 : parse_reader_line.c10 = .seq parse_reader_line.c12 parse_reader_line.c13 := by kernel_rfl
def parse_reader_line.s15 (Z : ZT) (Q : List Value → PT) (r_0 : OA) (t_2 : Addr) (x_4 : Addr) : PT :=
  (cal Tryd.prog Z 59 [(Value.pointer r_0)] (isN fun v38 => (newC 79 [(Value.int .i64 0), (Value.int .i64 0), (Value.string ⟨#[]⟩), (Value.int .i64 0)] fun t39 => (stN 4 t39 v38 (ldI .i64 (t39.add 0) fun v40 => (pif (v40 != 7) (ldI .i64 (t39.add 0) fun v41 => (pif (v41 != 0) (cal Tryd.prog Z 38 [(Value.pointer r_0), (Value.int .i64 8)] (isU (ldN 8 x_4 fun v42 => (stN 8 t_2 v42 (ldN 8 t_2 fun v43 => (Q v43)))))) (ldN 8 x_4 fun v44 => (stN 8 t_2 v44 (ldN 8 t_2 fun v45 => (Q v45)))))) (ldN 8 x_4 fun v46 => (stN 8 t_2 v46 (ldN 8 t_2 fun v47 => (Q v47))))))))))
def parse_reader_line.q16 (Z : ZT) (Q : List Value → PT) : QF := bodyQ Tryd.prog [.cell 2 52] (fun v => atN v fun va => Q va)
theorem parse_reader_line.s15_eq (Z : ZT) (Q : List Value → PT) (ρ : Fr) (r_0 : OA) (t_2 : Addr) (x_4 : Addr) : comp Tryd.prog Z parse_reader_line.c13 (parse_reader_line.q16 Z Q) (puts ρ [(0, (Value.pointer r_0)), (2, (Value.pointer (some t_2))), (4, (Value.pointer (some x_4)))]) = parse_reader_line.s15 Z Q r_0 t_2 x_4 := by kernel_rfl
def parse_reader_line.j17 (Z : ZT) (Q : List Value → PT) : Fr → PT := (fun ρ => atP (ρ 0) fun r_0 => atA (ρ 2) fun t_2 => atA (ρ 4) fun x_4 => (parse_reader_line.s15 Z Q r_0 t_2 x_4))
theorem parse_reader_line.s15_ok (Z : ZT) (Q : List Value → PT) : Ok Tryd.prog Tryd.f39.ntmps Z parse_reader_line.c13 (parse_reader_line.q16 Z Q) (parse_reader_line.j17 Z Q) := by
  intro E he ρ w a hr h
  obtain ⟨r_0, e0, h⟩ := atP_e h
  obtain ⟨t_2, e2, h⟩ := atA_e h
  obtain ⟨x_4, e4, h⟩ := atA_e h
  exact ok_at [(0, (Value.pointer r_0)), (2, (Value.pointer (some t_2))), (4, (Value.pointer (some x_4)))] (okC parse_reader_line.c13 (parse_reader_line.q16 Z Q) (by kernel_rfl)) (puts_cons e0 (puts_cons e2 (puts_cons e4 (fun p hp => puts_nil hp)))) (parse_reader_line.s15_eq Z Q ρ r_0 t_2 x_4) he hr h
noncomputable def parse_reader_line.c18 : Code := sq1 parse_reader_line.c12
noncomputable def parse_reader_line.c19 : Code := sq2 parse_reader_line.c12
theorem parse_reader_line.q20 : parse_reader_line.c12 = .seq parse_reader_line.c18 parse_reader_line.c19 := by kernel_rfl
noncomputable def parse_reader_line.c21 : Code := blk parse_reader_line.c19
theorem parse_reader_line.q22 : parse_reader_line.c19 = .block 2 parse_reader_line.c21 := by kernel_rfl
noncomputable def parse_reader_line.c23 : Code := sq1 parse_reader_line.c21
noncomputable def parse_reader_line.c24 : Code := sq2 parse_reader_line.c21
theorem parse_reader_line.q25 : parse_reader_line.c21 = .seq parse_reader_line.c23 parse_reader_line.c24 := by kernel_rfl
def parse_reader_line.s26 (Z : ZT) (Q : List Value → PT) (r_0 : OA) (t_2 : Addr) (x_4 : Addr) (t_6 : Addr) (t_51 : Bool) : PT :=
  (pif t_51 (st1 (x_4.add 5) (Value.bool true) (nn r_0 fun v65 => (ldI .i64 (v65.add 1) fun v66 => (nn r_0 fun v67 => (st1 (v67.add 1) (Value.int .i64 (IntKind.wrap .i64 (v66 + 1))) (parse_reader_line.s15 Z Q r_0 t_2 x_4)))))) (ldI .i64 (t_6.add 0) fun v68 => (pif (v68 == 1) (ldS (t_6.add 2) fun v69 => (pif (v69.toList == (⟨#[112, 111, 114, 116]⟩ : ByteArray).toList) (nn r_0 fun v70 => (ldI .i64 (v70.add 1) fun v71 => (nn r_0 fun v72 => (st1 (v72.add 1) (Value.int .i64 (IntKind.wrap .i64 (v71 + 1))) (cal Tryd.prog Z 60 [(Value.pointer r_0)] (isN fun v73 => (stN 2 (x_4.add 6) v73 (parse_reader_line.s15 Z Q r_0 t_2 x_4)))))))) (cal Tryd.prog Z 38 [(Value.pointer r_0), (Value.int .i64 8)] (isU (parse_reader_line.s15 Z Q r_0 t_2 x_4))))) (cal Tryd.prog Z 38 [(Value.pointer r_0), (Value.int .i64 8)] (isU (parse_reader_line.s15 Z Q r_0 t_2 x_4))))))
def parse_reader_line.q27 (Z : ZT) (Q : List Value → PT) : QF := thenK (parse_reader_line.j17 Z Q) (parse_reader_line.q16 Z Q)
def parse_reader_line.q28 (Z : ZT) (Q : List Value → PT) : QF := inBl 2 (parse_reader_line.q27 Z Q)
theorem parse_reader_line.s26_eq (Z : ZT) (Q : List Value → PT) (ρ : Fr) (r_0 : OA) (t_2 : Addr) (x_4 : Addr) (t_6 : Addr) (t_51 : Bool) : comp Tryd.prog Z parse_reader_line.c24 (parse_reader_line.q28 Z Q) (puts ρ [(0, (Value.pointer r_0)), (2, (Value.pointer (some t_2))), (4, (Value.pointer (some x_4))), (6, (Value.pointer (some t_6))), (51, (Value.bool t_51))]) = parse_reader_line.s26 Z Q r_0 t_2 x_4 t_6 t_51 := by kernel_rfl
def parse_reader_line.j29 (Z : ZT) (Q : List Value → PT) : Fr → PT := (fun ρ => atP (ρ 0) fun r_0 => atA (ρ 2) fun t_2 => atA (ρ 4) fun x_4 => atA (ρ 6) fun t_6 => atB (ρ 51) fun t_51 => (parse_reader_line.s26 Z Q r_0 t_2 x_4 t_6 t_51))
theorem parse_reader_line.s26_ok (Z : ZT) (Q : List Value → PT) : Ok Tryd.prog Tryd.f39.ntmps Z parse_reader_line.c24 (parse_reader_line.q28 Z Q) (parse_reader_line.j29 Z Q) := by
  intro E he ρ w a hr h
  obtain ⟨r_0, e0, h⟩ := atP_e h
  obtain ⟨t_2, e2, h⟩ := atA_e h
  obtain ⟨x_4, e4, h⟩ := atA_e h
  obtain ⟨t_6, e6, h⟩ := atA_e h
  obtain ⟨t_51, e51, h⟩ := atB_e h
  exact ok_at [(0, (Value.pointer r_0)), (2, (Value.pointer (some t_2))), (4, (Value.pointer (some x_4))), (6, (Value.pointer (some t_6))), (51, (Value.bool t_51))] (okC parse_reader_line.c24 (parse_reader_line.q28 Z Q) (by kernel_rfl)) (puts_cons e0 (puts_cons e2 (puts_cons e4 (puts_cons e6 (puts_cons e51 (fun p hp => puts_nil hp)))))) (parse_reader_line.s26_eq Z Q ρ r_0 t_2 x_4 t_6 t_51) he hr h
def parse_reader_line.s30 (Z : ZT) (Q : List Value → PT) (r_0 : OA) (t_2 : Addr) (x_4 : Addr) (t_6 : Addr) : PT :=
  (ldI .i64 (t_6.add 0) fun v74 => (pif (v74 == 1) (ldS (t_6.add 2) fun v75 => (parse_reader_line.s26 Z Q r_0 t_2 x_4 t_6 (v75.toList == (⟨#[100, 114, 111, 112]⟩ : ByteArray).toList))) (parse_reader_line.s26 Z Q r_0 t_2 x_4 t_6 false)))
theorem parse_reader_line.s30_eq (Z : ZT) (Q : List Value → PT) (ρ : Fr) (r_0 : OA) (t_2 : Addr) (x_4 : Addr) (t_6 : Addr) : (comp Tryd.prog Z parse_reader_line.c23 (thenK (parse_reader_line.j29 Z Q) (parse_reader_line.q28 Z Q))) (puts ρ [(0, (Value.pointer r_0)), (2, (Value.pointer (some t_2))), (4, (Value.pointer (some x_4))), (6, (Value.pointer (some t_6)))]) = parse_reader_line.s30 Z Q r_0 t_2 x_4 t_6 := by kernel_rfl
def parse_reader_line.j31 (Z : ZT) (Q : List Value → PT) : Fr → PT := (fun ρ => atP (ρ 0) fun r_0 => atA (ρ 2) fun t_2 => atA (ρ 4) fun x_4 => atA (ρ 6) fun t_6 => (parse_reader_line.s30 Z Q r_0 t_2 x_4 t_6))
theorem parse_reader_line.s30_ok (Z : ZT) (Q : List Value → PT) : Ok Tryd.prog Tryd.f39.ntmps Z parse_reader_line.c21 (parse_reader_line.q28 Z Q) (parse_reader_line.j31 Z Q) := by
  intro E he ρ w a hr h
  rw [parse_reader_line.q25] at he ⊢
  obtain ⟨r_0, e0, h⟩ := atP_e h
  obtain ⟨t_2, e2, h⟩ := atA_e h
  obtain ⟨x_4, e4, h⟩ := atA_e h
  obtain ⟨t_6, e6, h⟩ := atA_e h
  exact ok_at [(0, (Value.pointer r_0)), (2, (Value.pointer (some t_2))), (4, (Value.pointer (some x_4))), (6, (Value.pointer (some t_6)))] (ok_seq (okC parse_reader_line.c23 _ (by kernel_rfl)) (parse_reader_line.s26_ok Z Q)) (puts_cons e0 (puts_cons e2 (puts_cons e4 (puts_cons e6 (fun p hp => puts_nil hp))))) (parse_reader_line.s30_eq Z Q ρ r_0 t_2 x_4 t_6) he hr h
theorem parse_reader_line.o32 (Z : ZT) (Q : List Value → PT) : Ok Tryd.prog Tryd.f39.ntmps Z parse_reader_line.c19 (parse_reader_line.q27 Z Q) (parse_reader_line.j31 Z Q) := by
  rw [parse_reader_line.q22]; exact ok_block (parse_reader_line.s30_ok Z Q)
def parse_reader_line.s33 (Z : ZT) (Q : List Value → PT) (r_0 : OA) (t_2 : Addr) (x_4 : Addr) : PT :=
  (cal Tryd.prog Z 59 [(Value.pointer r_0)] (isN fun v76 => (newC 79 [(Value.int .i64 0), (Value.int .i64 0), (Value.string ⟨#[]⟩), (Value.int .i64 0)] fun t77 => (stN 4 t77 v76 (parse_reader_line.s30 Z Q r_0 t_2 x_4 t77)))))
theorem parse_reader_line.s33_eq (Z : ZT) (Q : List Value → PT) (ρ : Fr) (r_0 : OA) (t_2 : Addr) (x_4 : Addr) : (comp Tryd.prog Z parse_reader_line.c18 (thenK (parse_reader_line.j31 Z Q) (parse_reader_line.q27 Z Q))) (puts ρ [(0, (Value.pointer r_0)), (2, (Value.pointer (some t_2))), (4, (Value.pointer (some x_4)))]) = parse_reader_line.s33 Z Q r_0 t_2 x_4 := by kernel_rfl
def parse_reader_line.j34 (Z : ZT) (Q : List Value → PT) : Fr → PT := (fun ρ => atP (ρ 0) fun r_0 => atA (ρ 2) fun t_2 => atA (ρ 4) fun x_4 => (parse_reader_line.s33 Z Q r_0 t_2 x_4))
theorem parse_reader_line.s33_ok (Z : ZT) (Q : List Value → PT) : Ok Tryd.prog Tryd.f39.ntmps Z parse_reader_line.c12 (parse_reader_line.q27 Z Q) (parse_reader_line.j34 Z Q) := by
  intro E he ρ w a hr h
  rw [parse_reader_line.q20] at he ⊢
  obtain ⟨r_0, e0, h⟩ := atP_e h
  obtain ⟨t_2, e2, h⟩ := atA_e h
  obtain ⟨x_4, e4, h⟩ := atA_e h
  exact ok_at [(0, (Value.pointer r_0)), (2, (Value.pointer (some t_2))), (4, (Value.pointer (some x_4)))] (ok_seq (okC parse_reader_line.c18 _ (by kernel_rfl)) (parse_reader_line.o32 Z Q)) (puts_cons e0 (puts_cons e2 (puts_cons e4 (fun p hp => puts_nil hp)))) (parse_reader_line.s33_eq Z Q ρ r_0 t_2 x_4) he hr h
theorem parse_reader_line.o35 (Z : ZT) (Q : List Value → PT) : Ok Tryd.prog Tryd.f39.ntmps Z parse_reader_line.c10 (parse_reader_line.q16 Z Q) (parse_reader_line.j34 Z Q) := by
  rw [parse_reader_line.q14]; exact ok_seq (parse_reader_line.s33_ok Z Q) (parse_reader_line.s15_ok Z Q)
def parse_reader_line.s36 (Z : ZT) (Q : List Value → PT) (r_0 : OA) (t_2 : Addr) (x_4 : Addr) : PT :=
  (cal Tryd.prog Z 62 [(Value.pointer r_0), (Value.int .i64 6)] (isN fun v78 => (parse_reader_line.s33 Z Q r_0 t_2 x_4)))
theorem parse_reader_line.s36_eq (Z : ZT) (Q : List Value → PT) (ρ : Fr) (r_0 : OA) (t_2 : Addr) (x_4 : Addr) : (comp Tryd.prog Z parse_reader_line.c9 (thenK (parse_reader_line.j34 Z Q) (parse_reader_line.q16 Z Q))) (puts ρ [(0, (Value.pointer r_0)), (2, (Value.pointer (some t_2))), (4, (Value.pointer (some x_4)))]) = parse_reader_line.s36 Z Q r_0 t_2 x_4 := by kernel_rfl
def parse_reader_line.j37 (Z : ZT) (Q : List Value → PT) : Fr → PT := (fun ρ => atP (ρ 0) fun r_0 => atA (ρ 2) fun t_2 => atA (ρ 4) fun x_4 => (parse_reader_line.s36 Z Q r_0 t_2 x_4))
theorem parse_reader_line.s36_ok (Z : ZT) (Q : List Value → PT) : Ok Tryd.prog Tryd.f39.ntmps Z parse_reader_line.c7 (parse_reader_line.q16 Z Q) (parse_reader_line.j37 Z Q) := by
  intro E he ρ w a hr h
  rw [parse_reader_line.q11] at he ⊢
  obtain ⟨r_0, e0, h⟩ := atP_e h
  obtain ⟨t_2, e2, h⟩ := atA_e h
  obtain ⟨x_4, e4, h⟩ := atA_e h
  exact ok_at [(0, (Value.pointer r_0)), (2, (Value.pointer (some t_2))), (4, (Value.pointer (some x_4)))] (ok_seq (okC parse_reader_line.c9 _ (by kernel_rfl)) (parse_reader_line.o35 Z Q)) (puts_cons e0 (puts_cons e2 (puts_cons e4 (fun p hp => puts_nil hp)))) (parse_reader_line.s36_eq Z Q ρ r_0 t_2 x_4) he hr h
noncomputable def parse_reader_line.c38 : Code := sq1 parse_reader_line.c6
noncomputable def parse_reader_line.c39 : Code := sq2 parse_reader_line.c6
theorem parse_reader_line.q40 : parse_reader_line.c6 = .seq parse_reader_line.c38 parse_reader_line.c39 := by kernel_rfl
noncomputable def parse_reader_line.c41 : Code := cn1 parse_reader_line.c39
noncomputable def parse_reader_line.c42 : Code := cn2 parse_reader_line.c39
theorem parse_reader_line.q43 : parse_reader_line.c39 = .cond (.tmp 20) parse_reader_line.c41 parse_reader_line.c42 := by kernel_rfl
def parse_reader_line.s44 (Z : ZT) (Q : List Value → PT) (r_0 : OA) (t_2 : Addr) (x_4 : Addr) : PT :=
  (st1 (x_4.add 1) (Value.bool true) (nn r_0 fun v81 => (ldI .i64 (v81.add 1) fun v82 => (nn r_0 fun v83 => (st1 (v83.add 1) (Value.int .i64 (IntKind.wrap .i64 (v82 + 1))) (parse_reader_line.s36 Z Q r_0 t_2 x_4))))))
def parse_reader_line.q45 (Z : ZT) (Q : List Value → PT) : QF := thenK (parse_reader_line.j37 Z Q) (parse_reader_line.q16 Z Q)
theorem parse_reader_line.s44_eq (Z : ZT) (Q : List Value → PT) (ρ : Fr) (r_0 : OA) (t_2 : Addr) (x_4 : Addr) : comp Tryd.prog Z parse_reader_line.c41 (parse_reader_line.q45 Z Q) (puts ρ [(0, (Value.pointer r_0)), (2, (Value.pointer (some t_2))), (4, (Value.pointer (some x_4)))]) = parse_reader_line.s44 Z Q r_0 t_2 x_4 := by kernel_rfl
def parse_reader_line.j46 (Z : ZT) (Q : List Value → PT) : Fr → PT := (fun ρ => atP (ρ 0) fun r_0 => atA (ρ 2) fun t_2 => atA (ρ 4) fun x_4 => (parse_reader_line.s44 Z Q r_0 t_2 x_4))
theorem parse_reader_line.s44_ok (Z : ZT) (Q : List Value → PT) : Ok Tryd.prog Tryd.f39.ntmps Z parse_reader_line.c41 (parse_reader_line.q45 Z Q) (parse_reader_line.j46 Z Q) := by
  intro E he ρ w a hr h
  obtain ⟨r_0, e0, h⟩ := atP_e h
  obtain ⟨t_2, e2, h⟩ := atA_e h
  obtain ⟨x_4, e4, h⟩ := atA_e h
  exact ok_at [(0, (Value.pointer r_0)), (2, (Value.pointer (some t_2))), (4, (Value.pointer (some x_4)))] (okC parse_reader_line.c41 (parse_reader_line.q45 Z Q) (by kernel_rfl)) (puts_cons e0 (puts_cons e2 (puts_cons e4 (fun p hp => puts_nil hp)))) (parse_reader_line.s44_eq Z Q ρ r_0 t_2 x_4) he hr h
noncomputable def parse_reader_line.c47 : Code := sq1 parse_reader_line.c42
noncomputable def parse_reader_line.c48 : Code := sq1 (sq2 parse_reader_line.c42)
noncomputable def parse_reader_line.c49 : Code := sq2 (sq2 parse_reader_line.c42)
theorem parse_reader_line.q50 : parse_reader_line.c42 = .seq parse_reader_line.c47 (.seq parse_reader_line.c48 parse_reader_line.c49) := by kernel_rfl
noncomputable def parse_reader_line.c51 : Code := blk parse_reader_line.c49
theorem parse_reader_line.q52 : parse_reader_line.c49 = .block 0 parse_reader_line.c51 := by kernel_rfl
noncomputable def parse_reader_line.c53 : Code := lop parse_reader_line.c51
theorem parse_reader_line.q54 : parse_reader_line.c51 = .loop parse_reader_line.c53 := by kernel_rfl
def parse_reader_line.q56 (Z : ZT) (Q : List Value → PT) : QF := inBl 0 (parse_reader_line.q45 Z Q)
def parse_reader_line.s57 (Z : ZT) (Q : List Value → PT) (X1 : OA → Addr → Addr → Option Nat → PT) (r_0 : OA) (t_2 : Addr) (x_4 : Addr) (had_5 : Option Nat) : PT :=
  (cal Tryd.prog Z 59 [(Value.pointer r_0)] (isN fun v91 => (ptI .i64 v91 0 fun v92 => (pif (v92 == 1) (drawn fun S93 => (hL S93 (x_4.add 4) fun v94 v94n v94c => (cal Tryd.prog Z 61 [(Value.pointer r_0), (Value.map had_5)] (isN fun v95 => (sAnd S93 (cnd (List.length v95 = 5) (newC 55 (v95 ++ ([])) fun v96 => (sAnd S93 (runL Tryd.prog (bi .append #[50, 50] 50 [false, false] [(Value.slice v94 v94n v94c), (Value.slice (some v96) 1 1)]) fun v97 v97n v97c => (sAnd S93 (st1 (x_4.add 4) (Value.slice v97 v97n v97c) (X1 r_0 t_2 x_4 had_5)))))))))))) (parse_reader_line.s36 Z Q r_0 t_2 x_4)))))
def parse_reader_line.j58 (Z : ZT) (Q : List Value → PT) (X1 : OA → Addr → Addr → Option Nat → PT) : Fr → PT := (fun ρ => atP (ρ 0) fun r_0 => atA (ρ 2) fun t_2 => atA (ρ 4) fun x_4 => atM (ρ 5) fun had_5 => (X1 r_0 t_2 x_4 had_5))
def parse_reader_line.q59 (Z : ZT) (Q : List Value → PT) (X1 : OA → Addr → Addr → Option Nat → PT) : QF := thenK (parse_reader_line.j58 Z Q X1) (parse_reader_line.q56 Z Q)
theorem parse_reader_line.s57_eq (Z : ZT) (Q : List Value → PT) (X1 : OA → Addr → Addr → Option Nat → PT) (ρ : Fr) (r_0 : OA) (t_2 : Addr) (x_4 : Addr) (had_5 : Option Nat) : comp Tryd.prog Z parse_reader_line.c53 (parse_reader_line.q59 Z Q X1) (puts ρ [(0, (Value.pointer r_0)), (2, (Value.pointer (some t_2))), (4, (Value.pointer (some x_4))), (5, (Value.map had_5))]) = parse_reader_line.s57 Z Q X1 r_0 t_2 x_4 had_5 := by kernel_rfl
def parse_reader_line.j60 (Z : ZT) (Q : List Value → PT) (X1 : OA → Addr → Addr → Option Nat → PT) : Fr → PT := (fun ρ => atP (ρ 0) fun r_0 => atA (ρ 2) fun t_2 => atA (ρ 4) fun x_4 => atM (ρ 5) fun had_5 => (parse_reader_line.s57 Z Q X1 r_0 t_2 x_4 had_5))
theorem parse_reader_line.s57_ok (Z : ZT) (Q : List Value → PT) (X1 : OA → Addr → Addr → Option Nat → PT) : Ok Tryd.prog Tryd.f39.ntmps Z parse_reader_line.c53 (parse_reader_line.q59 Z Q X1) (parse_reader_line.j60 Z Q X1) := by
  intro E he ρ w a hr h
  obtain ⟨r_0, e0, h⟩ := atP_e h
  obtain ⟨t_2, e2, h⟩ := atA_e h
  obtain ⟨x_4, e4, h⟩ := atA_e h
  obtain ⟨had_5, e5, h⟩ := atM_e h
  exact ok_at [(0, (Value.pointer r_0)), (2, (Value.pointer (some t_2))), (4, (Value.pointer (some x_4))), (5, (Value.map had_5))] (okC parse_reader_line.c53 (parse_reader_line.q59 Z Q X1) (by kernel_rfl)) (puts_cons e0 (puts_cons e2 (puts_cons e4 (puts_cons e5 (fun p hp => puts_nil hp))))) (parse_reader_line.s57_eq Z Q X1 ρ r_0 t_2 x_4 had_5) he hr h
def parse_reader_line.l55 (Z : ZT) (Q : List Value → PT) : Nat → OA → Addr → Addr → Option Nat → PT
  | 0, _, _, _, _ => bad
  | k + 1, r_0, t_2, x_4, had_5 => (parse_reader_line.s57 Z Q (parse_reader_line.l55 Z Q k) r_0 t_2 x_4 had_5)
def parse_reader_line.j61 (Z : ZT) (Q : List Value → PT) (k : Nat) : Fr → PT := (fun ρ => atP (ρ 0) fun r_0 => atA (ρ 2) fun t_2 => atA (ρ 4) fun x_4 => atM (ρ 5) fun had_5 => (parse_reader_line.l55 Z Q k r_0 t_2 x_4 had_5))
def parse_reader_line.j62 (Z : ZT) (Q : List Value → PT) : Fr → PT := (fun ρ => atP (ρ 0) fun r_0 => atA (ρ 2) fun t_2 => atA (ρ 4) fun x_4 => atM (ρ 5) fun had_5 => (exK fun k => parse_reader_line.l55 Z Q k r_0 t_2 x_4 had_5))
theorem parse_reader_line.o63 (Z : ZT) (Q : List Value → PT) : Ok Tryd.prog Tryd.f39.ntmps Z parse_reader_line.c51 (parse_reader_line.q56 Z Q) (parse_reader_line.j62 Z Q) := by
  rw [parse_reader_line.q54]
  refine Ok.imp (ok_loop (J := parse_reader_line.j61 Z Q) ?_ ?_) ?_
  · intro ρ w h
    obtain ⟨r_0, e0, h⟩ := atP_e h
    obtain ⟨t_2, e2, h⟩ := atA_e h
    obtain ⟨x_4, e4, h⟩ := atA_e h
    obtain ⟨had_5, e5, h⟩ := atM_e h
    exact h
  · intro k
    refine Ok.imp (parse_reader_line.s57_ok Z Q (parse_reader_line.l55 Z Q k)) fun ρ w h => ?_
    obtain ⟨r_0, e0, h⟩ := atP_e h
    obtain ⟨t_2, e2, h⟩ := atA_e h
    obtain ⟨x_4, e4, h⟩ := atA_e h
    obtain ⟨had_5, e5, h⟩ := atM_e h
    show (parse_reader_line.j60 Z Q (parse_reader_line.l55 Z Q k)) ρ w
    simp only [parse_reader_line.j60]
    rw [e0]
    rw [e2]
    rw [e4]
    rw [e5]
    exact h
  · intro ρ w h
    obtain ⟨r_0, e0, h⟩ := atP_e h
    obtain ⟨t_2, e2, h⟩ := atA_e h
    obtain ⟨x_4, e4, h⟩ := atA_e h
    obtain ⟨had_5, e5, h⟩ := atM_e h
    obtain ⟨k, h⟩ := h
    refine ⟨k, ?_⟩
    show (atP (ρ 0) fun r_0 => atA (ρ 2) fun t_2 => atA (ρ 4) fun x_4 => atM (ρ 5) fun had_5 => (parse_reader_line.l55 Z Q k r_0 t_2 x_4 had_5)) w
    rw [e0]
    rw [e2]
    rw [e4]
    rw [e5]
    exact h
theorem parse_reader_line.o64 (Z : ZT) (Q : List Value → PT) : Ok Tryd.prog Tryd.f39.ntmps Z parse_reader_line.c49 (parse_reader_line.q45 Z Q) (parse_reader_line.j62 Z Q) := by
  rw [parse_reader_line.q52]; exact ok_block (parse_reader_line.o63 Z Q)
def parse_reader_line.s65 (Z : ZT) (Q : List Value → PT) (r_0 : OA) (t_2 : Addr) (x_4 : Addr) : PT :=
  (cal Tryd.prog Z 60 [(Value.pointer r_0)] (isN fun v98 => (stN 2 (x_4.add 2) v98 (runM Tryd.prog (Instr.makeMap 109 none) fun v99 => (exK fun k => parse_reader_line.l55 Z Q k r_0 t_2 x_4 v99)))))
theorem parse_reader_line.s65_eq (Z : ZT) (Q : List Value → PT) (ρ : Fr) (r_0 : OA) (t_2 : Addr) (x_4 : Addr) : (comp Tryd.prog Z parse_reader_line.c47 (thenK (comp Tryd.prog Z parse_reader_line.c48 (thenK (parse_reader_line.j62 Z Q) (parse_reader_line.q45 Z Q))) (parse_reader_line.q45 Z Q))) (puts ρ [(0, (Value.pointer r_0)), (2, (Value.pointer (some t_2))), (4, (Value.pointer (some x_4)))]) = parse_reader_line.s65 Z Q r_0 t_2 x_4 := by kernel_rfl
def parse_reader_line.j66 (Z : ZT) (Q : List Value → PT) : Fr → PT := (fun ρ => atP (ρ 0) fun r_0 => atA (ρ 2) fun t_2 => atA (ρ 4) fun x_4 => (parse_reader_line.s65 Z Q r_0 t_2 x_4))
theorem parse_reader_line.s65_ok (Z : ZT) (Q : List Value → PT) : Ok Tryd.prog Tryd.f39.ntmps Z parse_reader_line.c42 (parse_reader_line.q45 Z Q) (parse_reader_line.j66 Z Q) := by
  intro E he ρ w a hr h
  rw [parse_reader_line.q50] at he ⊢
  obtain ⟨r_0, e0, h⟩ := atP_e h
  obtain ⟨t_2, e2, h⟩ := atA_e h
  obtain ⟨x_4, e4, h⟩ := atA_e h
  exact ok_at [(0, (Value.pointer r_0)), (2, (Value.pointer (some t_2))), (4, (Value.pointer (some x_4)))] (ok_seq (okC parse_reader_line.c47 _ (by kernel_rfl)) (ok_seq (okC parse_reader_line.c48 _ (by kernel_rfl)) (parse_reader_line.o64 Z Q))) (puts_cons e0 (puts_cons e2 (puts_cons e4 (fun p hp => puts_nil hp)))) (parse_reader_line.s65_eq Z Q ρ r_0 t_2 x_4) he hr h
theorem parse_reader_line.o67 (Z : ZT) (Q : List Value → PT) : Ok Tryd.prog Tryd.f39.ntmps Z parse_reader_line.c39 (parse_reader_line.q45 Z Q) (condJ (.tmp 20) (parse_reader_line.j46 Z Q) (parse_reader_line.j66 Z Q)) := by
  rw [parse_reader_line.q43]; exact ok_cond (parse_reader_line.s44_ok Z Q) (parse_reader_line.s65_ok Z Q)
def parse_reader_line.s68 (Z : ZT) (Q : List Value → PT) (r_0 : OA) (t_2 : Addr) (t_3 : Addr) (x_4 : Addr) : PT :=
  (ldI .i64 (t_3.add 0) fun v100 => (pif (v100 == 1) (ldS (t_3.add 2) fun v101 => (pif (v101.toList == (⟨#[100, 101, 102, 97, 117, 108, 116]⟩ : ByteArray).toList) (parse_reader_line.s44 Z Q r_0 t_2 x_4) (parse_reader_line.s65 Z Q r_0 t_2 x_4))) (parse_reader_line.s65 Z Q r_0 t_2 x_4)))
theorem parse_reader_line.s68_eq (Z : ZT) (Q : List Value → PT) (ρ : Fr) (r_0 : OA) (t_2 : Addr) (t_3 : Addr) (x_4 : Addr) : (comp Tryd.prog Z parse_reader_line.c38 (thenK (condJ (.tmp 20) (parse_reader_line.j46 Z Q) (parse_reader_line.j66 Z Q)) (parse_reader_line.q45 Z Q))) (puts ρ [(0, (Value.pointer r_0)), (2, (Value.pointer (some t_2))), (3, (Value.pointer (some t_3))), (4, (Value.pointer (some x_4)))]) = parse_reader_line.s68 Z Q r_0 t_2 t_3 x_4 := by kernel_rfl
def parse_reader_line.j69 (Z : ZT) (Q : List Value → PT) : Fr → PT := (fun ρ => atP (ρ 0) fun r_0 => atA (ρ 2) fun t_2 => atA (ρ 3) fun t_3 => atA (ρ 4) fun x_4 => (parse_reader_line.s68 Z Q r_0 t_2 t_3 x_4))
theorem parse_reader_line.s68_ok (Z : ZT) (Q : List Value → PT) : Ok Tryd.prog Tryd.f39.ntmps Z parse_reader_line.c6 (parse_reader_line.q45 Z Q) (parse_reader_line.j69 Z Q) := by
  intro E he ρ w a hr h
  rw [parse_reader_line.q40] at he ⊢
  obtain ⟨r_0, e0, h⟩ := atP_e h
  obtain ⟨t_2, e2, h⟩ := atA_e h
  obtain ⟨t_3, e3, h⟩ := atA_e h
  obtain ⟨x_4, e4, h⟩ := atA_e h
  exact ok_at [(0, (Value.pointer r_0)), (2, (Value.pointer (some t_2))), (3, (Value.pointer (some t_3))), (4, (Value.pointer (some x_4)))] (ok_seq (okC parse_reader_line.c38 _ (by kernel_rfl)) (parse_reader_line.o67 Z Q)) (puts_cons e0 (puts_cons e2 (puts_cons e3 (puts_cons e4 (fun p hp => puts_nil hp))))) (parse_reader_line.s68_eq Z Q ρ r_0 t_2 t_3 x_4) he hr h
theorem parse_reader_line.o70 (Z : ZT) (Q : List Value → PT) : Ok Tryd.prog Tryd.f39.ntmps Z parse_reader_line.c4 (parse_reader_line.q16 Z Q) (parse_reader_line.j69 Z Q) := by
  rw [parse_reader_line.q8]; exact ok_seq (parse_reader_line.s68_ok Z Q) (parse_reader_line.s36_ok Z Q)
def parse_reader_line.s71 (Z : ZT) (Q : List Value → PT) (r_0 : OA) : PT :=
  (newC 52 [(Value.int .i64 0), (Value.bool false), (Value.int .i64 0), (Value.int .i64 0), (Value.slice none 0 0), (Value.bool false), (Value.int .i64 0), (Value.int .i64 0)] fun v102 => (cal Tryd.prog Z 59 [(Value.pointer r_0)] (isN fun v103 => (newC 79 [(Value.int .i64 0), (Value.int .i64 0), (Value.string ⟨#[]⟩), (Value.int .i64 0)] fun t104 => (stN 4 t104 v103 (ldI .i64 (t104.add 1) fun v105 => (newC 52 [(Value.int .i64 0), (Value.bool false), (Value.int .i64 0), (Value.int .i64 0), (Value.slice none 0 0), (Value.bool false), (Value.int .i64 0), (Value.int .i64 0)] fun x106 => (stN 8 x106 [(Value.int .i64 v105), (Value.bool false), (Value.int .i64 0), (Value.int .i64 0), (Value.slice none 0 0), (Value.bool false), (Value.int .i64 0), (Value.int .i64 0)] (parse_reader_line.s68 Z Q r_0 v102 t104 x106)))))))))
theorem parse_reader_line.s71_eq (Z : ZT) (Q : List Value → PT) (ρ : Fr) (r_0 : OA) : (comp Tryd.prog Z parse_reader_line.c1 (thenK (comp Tryd.prog Z parse_reader_line.c2 (thenK (comp Tryd.prog Z parse_reader_line.c3 (thenK (parse_reader_line.j69 Z Q) (parse_reader_line.q16 Z Q))) (parse_reader_line.q16 Z Q))) (parse_reader_line.q16 Z Q))) (puts ρ [(0, (Value.pointer r_0))]) = parse_reader_line.s71 Z Q r_0 := by kernel_rfl
def parse_reader_line.j72 (Z : ZT) (Q : List Value → PT) : Fr → PT := (fun ρ => atP (ρ 0) fun r_0 => (parse_reader_line.s71 Z Q r_0))
theorem parse_reader_line.s71_ok (Z : ZT) (Q : List Value → PT) : Ok Tryd.prog Tryd.f39.ntmps Z parse_reader_line.body (parse_reader_line.q16 Z Q) (parse_reader_line.j72 Z Q) := by
  intro E he ρ w a hr h
  rw [parse_reader_line.q5] at he ⊢
  obtain ⟨r_0, e0, h⟩ := atP_e h
  exact ok_at [(0, (Value.pointer r_0))] (ok_seq (okC parse_reader_line.c1 _ (by kernel_rfl)) (ok_seq (okC parse_reader_line.c2 _ (by kernel_rfl)) (ok_seq (okC parse_reader_line.c3 _ (by kernel_rfl)) (parse_reader_line.o70 Z Q)))) (puts_cons e0 (fun p hp => puts_nil hp)) (parse_reader_line.s71_eq Z Q ρ r_0) he hr h
def parse_reader_line.F (Z : ZT) (Q : List Value → PT) (r_0 : OA) : PT :=
  (parse_reader_line.s71 Z Q r_0)
theorem parse_reader_line.vc (Z : ZT) (Q : List Value → PT) (r_0 : OA) (w : World) (h : parse_reader_line.F Z Q r_0 w) : Calls Tryd.prog 39 ⟨[(Value.pointer r_0)]⟩ w fun e w' => (∃ (r0 : List Value), e = .returned (.agg ⟨r0⟩) ∧ Q r0 w') ∨ ∃ c, e = .panicked c ∧ Z c w' := by
  refine (calls_of_ok (args := [(Value.pointer r_0)]) (w := w) (rs := [.cell 2 52]) (fn := Tryd.f39) (c := parse_reader_line.body) Tryd.func39 (by kernel_rfl) (by kernel_rfl) (Nat.le_of_ble_eq_true (by kernel_rfl)) (parse_reader_line.s71_ok Z Q) (h)).mono fun e w' hR => ?_
  cases e with
  | returned v =>
    obtain ⟨va, rfl, hR⟩ := atN_e hR
    exact .inl ⟨va, rfl, hR⟩
  | panicked c => exact .inr ⟨c, rfl, hR⟩
  | outgrown => exact hR.elim
theorem parse_reader_line.vc0 (Q : List Value → PT) (r_0 : OA) (w : World) (h : parse_reader_line.F Z0 Q r_0 w) : Calls Tryd.prog 39 ⟨[(Value.pointer r_0)]⟩ w fun e w' => (∃ (r0 : List Value), e = .returned (.agg ⟨r0⟩) ∧ Q r0 w') :=
  (parse_reader_line.vc Z0 Q r_0 w h).mono fun _ _ hR => hR.elim id fun ⟨_, _, hz⟩ => hz.elim
theorem parse_reader_line.cal {Z : ZT} {Q : List Value → PT} {r_0 : OA} {w : World} (h : parse_reader_line.F Z Q r_0 w) : Go.Proofs.YtllgjjldnnmjkaaDoor.cal Tryd.prog Z 39 [(Value.pointer r_0)] (isN fun r0 => Q r0) w := by
  refine (parse_reader_line.vc Z Q r_0 w h).mono fun e w' hR => ?_
  rcases hR with ⟨r0, rfl, h⟩ | ⟨c, rfl, h⟩
  · show (isN fun r0 => Q r0) (.agg ⟨r0⟩) w'
    exact ⟨_, rfl, h⟩
  · exact h

end Go.Proofs.YtllgjjldnnmjkaaDoor
end
section
set_option maxRecDepth 100000
namespace Go.Proofs.YtllgjjldnnmjkaaDoor
open Go.RowKit

/-- A fault, as it is thrown. -/
def faultV (e p : Int) : List PanicEntry := [{ v := .iface 73 (.agg ⟨[.int .i64 e, .int .i64 p]⟩), recovered := false }]
/-- The reader lies at a block, its tokens at another one; both below lo. -/
structure RdAt (w : World) (lo bt rb : Nat) (l : List Tk) (en : Int) (i : Nat) : Prop where
  there : ∃ a c, IsB w rb [.slice a l.length c, .int .i64 i, .int .i64 en] ∧ Lst w 79 4 Tk.enc a l.length c l ∧ ∀ k, inB a k → k ≠ rb ∧ k < lo ∧ bt ≤ k
  lt : rb < lo
  lo_le : lo ≤ w.heap.size
  short : l.length ≤ 10000
  place : i ≤ l.length + 1
section
variable {Z : List PanicEntry → PT} {w w' : World} {lo bt rb : Nat} {l : List Tk} {en : Int} {i : Nat}
theorem RdAt.keep {S : Nat → Prop} (h : RdAt w lo bt rb l en i) (k : Keep S w w') (hs : ∀ k, S k → lo ≤ k) : RdAt w' lo bt rb l en i := by
  obtain ⟨⟨a, c, h1, h2, h3⟩, h4, h5, h6, h7⟩ := h
  exact ⟨⟨a, c, h1.keep k fun g => by have := hs _ g; omega, h2.keep k fun q hq g => by have := hs _ g; have := (h3 q hq).2.1; omega, h3⟩, h4, Nat.le_trans h5 k.size, h6, h7⟩
theorem RdAt.ext (h : RdAt w lo bt rb l en i) (k : Ext w w') : RdAt w' lo bt rb l en i := h.keep k fun _ g => g.elim
theorem RdAt.low {q : Nat} (h : RdAt w lo bt rb l en i) (k : Keep (· = q) w w') (hq : q < bt) (hn : q ≠ rb) : RdAt w' lo bt rb l en i := by
  obtain ⟨⟨a, c, h1, h2, h3⟩, h4, h5, h6, h7⟩ := h
  exact ⟨⟨a, c, h1.keep k fun g => hn g.symm, h2.keep k fun p hp g => by have := (h3 p hp).2.2; omega, h3⟩, h4, Nat.le_trans h5 k.size, h6, h7⟩
/-- The place at hand is read. -/
theorem ldRd {K : Int → PT} (h : RdAt w lo bt rb l en i) (hk : K i w) : ldI .i64 ⟨rb, 1, none⟩ K w := by
  obtain ⟨⟨a, c, h1, h2, h3⟩, _⟩ := h
  exact ldI_B h1 rfl hk
/-- The place at hand is set. -/
theorem stRd {K : PT} {j : Int} {n : Nat} (h : RdAt w lo bt rb l en i) (hj : j = n) (hn : n ≤ l.length + 1) (hk : ∀ w', RdAt w' lo bt rb l en n → Keep (· = rb) w w' → K w') : st1 ⟨rb, 1, none⟩ (.int .i64 j) K w := by
  subst hj
  obtain ⟨⟨a, c, h1, h2, h3⟩, h4, h5, h6, h7⟩ := h
  refine st1_B h1 (by simp) rfl fun w' b' k' => hk w' ⟨⟨a, c, b', h2.keep k' fun q hq e => (h3 q hq).1 e, h3⟩, h4, Nat.le_trans h5 k'.size, h6, hn⟩ k'

theorem peek_F {Q : List Value → PT} (h : RdAt w lo bt rb l en i) (hq : ∀ w', RdAt w' lo bt rb l en i → Ext w w' → Q (peekS l en i).enc w') : parse_reader_peek.F Z Q (some ⟨rb, 0, none⟩) w := by
  unfold parse_reader_peek.F
  refine newC_B fun w1 b1 k1 s1 => ?_
  have h1 := (h.ext k1).ext (Keep.refl.drew)
  have b1' := b1.drew
  show nn _ _ w1.drew
  have k1' : Ext w w1.drew := k1.drew
  have hlt : w.heap.size < w1.drew.heap.size := b1'.lt
  generalize w1.drew = w2 at h1 b1' k1' hlt ⊢
  obtain ⟨⟨a, c, g1, g2, g3⟩, g4, g5, g6, g7⟩ := h1
  simp only [nn_some, add_mk, Nat.zero_add]
  refine ldI_B g1 rfl ?_
  refine ldL_of (g1.cell 0) ?_
  rw [pif_dec]
  have hlo := h.lo_le
  -- the end: the cells of a token are laid and read
  have fin : ∀ (t : Tk) (w3 : World), t = peekS l en i → IsB w3 w.heap.size (Tk.enc ⟨0, 0, noText, 0⟩) → RdAt w3 lo bt rb l en i → Ext w w3 → stN 4 ⟨w.heap.size, 0, none⟩ t.enc (ldN 4 ⟨w.heap.size, 0, none⟩ fun v => Q v) w3 := fun t w3 ht b3 r3 e3 => by
    refine stN_B b3 (by simp [Tk.enc]) rfl (Tk.enc_one t) fun w4 b4 k4 => ?_
    replace b4 : IsB w4 w.heap.size t.enc := by simpa [lay, Tk.enc] using b4
    refine ldN_B b4 (vs := t.enc) rfl rfl ?_
    rw [ht]
    exact hq w4 (r3.keep k4 fun k e => by omega) (e3.trans_new k4 fun q hq' e => by omega)
  split
  · rename_i hi
    refine drawn_of (fun w' => IsB w' rb [.slice a l.length c, .int .i64 i, .int .i64 en] ∧ Lst w' 79 4 Tk.enc a l.length c l) ⟨g1.drew, g2.ext Keep.refl.drew⟩ ?_
    refine hL_of (fun w' hw' => hw'.1.cell 0) ?_
    refine hI_of (fun w' hw' => hw'.1.cell 1) ?_
    have hx := List.getElem?_eq_getElem (show i < l.length by omega)
    refine ixS_Lst Tk.enc_len (g2.ext Keep.refl.drew) hx fun b hb hc => ?_
    refine hN_of (cs := (l[i]).enc) rfl (fun w' hw' j v hj => ?_) ?_
    · have hc' := (hw'.2.2.cells hb).2
      rw [add_mk]
      refine hc' _ _ ?_
      rw [flat_at Tk.enc_len hx (by rw [← Tk.enc_len l[i]]; exact (List.getElem?_eq_some_iff.1 hj).1)]
      exact hj
    · refine fin l[i] w2.drew ?_ b1'.drew ⟨⟨a, c, g1.drew, g2.ext Keep.refl.drew, g3⟩, g4, g5, g6, g7⟩ k1'.drew
      unfold peekS
      rw [if_pos (by omega), hx]
      rfl
  · rename_i hi
    refine ldI_B g1 rfl ?_
    refine fin ⟨0, en, noText, 0⟩ w2 ?_ b1' ⟨⟨a, c, g1, g2, g3⟩, g4, g5, g6, g7⟩ k1'
    unfold peekS
    rw [if_neg (by omega)]
theorem fail_F {Q : PT} {e : Int} (h : RdAt w lo bt rb l en i) (hz : ∀ w', Ext w w' → Z (faultV e (peekS l en i).pos) w') : parse_reader_fail.F Z Q (some ⟨rb, 0, none⟩) e w := by
  unfold parse_reader_fail.F
  refine parse_reader_peek.cal (peek_F h fun w1 h1 k1 => ?_)
  exact ⟨_, rfl, hz w1 k1⟩

/-- What is asked behind a part. -/
def After {α : Type} (Z : List PanicEntry → PT) (r : Res α) (w : World) (K : α → Nat → Prop) : Prop := match r with
  | .ok a j => K a j
  | .no e p => Z (faultV e p) w

theorem want_F {Q : List Value → PT} {k : Int} (h : RdAt w lo bt rb l en i) (hi : i ≤ l.length) (hq : ∀ w', Keep (· = rb) w w' → After Z (wantS l en k i) w' fun t j => RdAt w' lo bt rb l en j → Q t.enc w') : parse_reader_want.F Z Q (some ⟨rb, 0, none⟩) k w := by
  unfold parse_reader_want.F parse_reader_want.s9
  refine newC_B fun w1 b1 k1 s1 => ?_
  refine parse_reader_peek.cal (peek_F (h.ext k1) fun w2 h2 k2 => ?_)
  refine newC_B fun w3 b3 k3 s3 => ?_
  refine stN_B b3 (by simp) rfl (Tk.enc_one _) fun w4 b4 k4 => ?_
  have hlo := h.lo_le
  have z1 := b1.lt
  have z2 := k2.size
  have z3 := k3.size
  replace b4 : IsB w4 w2.heap.size (peekS l en i).enc := by simpa [lay, Tk.enc] using b4
  have r4 : RdAt w4 lo bt rb l en i := (h2.ext k3).keep k4 fun k e => by omega
  have c4 : IsB w4 w.heap.size (Tk.enc ⟨0, 0, noText, 0⟩) := ((b1.ext k2).ext k3).keep k4 (by omega)
  have e4 : Ext w w4 := ((k1.trans k2).trans k3).trans_new k4 fun q hq' e => by omega
  simp only [add_mk, Nat.zero_add]
  refine ldI_B b4 rfl ?_
  rw [pif_bne]
  unfold wantS at hq
  split
  · rename_i hk
    rw [if_neg (by simpa using hk)] at hq
    unfold parse_reader_want.s6
    simp only [nn_some, add_mk, Nat.zero_add]
    refine ldRd r4 ?_
    refine stRd (n := i + 1) r4 (wrap_nat1 (by have := r4.short; omega)) (by omega) fun w5 r5 k5 => ?_
    have n1 : w.heap.size ≠ rb := by have := h.lt; omega
    have n2 : w2.heap.size ≠ rb := by have := h.lt; omega
    refine ldN_B (b4.keep k5 n2) (vs := (peekS l en i).enc) rfl rfl ?_
    refine stN_B (c4.keep k5 n1) (by simp [Tk.enc]) rfl (Tk.enc_one _) fun w6 b6 k6 => ?_
    replace b6 : IsB w6 w.heap.size (peekS l en i).enc := by simpa [lay, Tk.enc] using b6
    refine ldN_B b6 (vs := (peekS l en i).enc) rfl rfl ?_
    have kk : Keep (· = rb) w w6 := (e4.ext.trans k5).trans_new k6 fun q hq' e => by omega
    exact hq w6 kk (r5.keep k6 fun k e => by omega)
  · rename_i hk
    rw [if_pos (by simpa using hk)] at hq
    refine parse_reader_fail.cal (fail_F r4 fun w5 k5 => ?_)
    exact hq w5 (e4.trans k5).ext

theorem fig_F {Q : List Value → PT} (h : RdAt w lo bt rb l en i) (hi : i ≤ l.length) (hq : ∀ w', Keep (· = rb) w w' → After Z (figS l en i) w' fun f j => RdAt w' lo bt rb l en j → Q f.enc w') : parse_reader_figure.F Z Q (some ⟨rb, 0, none⟩) w := by
  unfold parse_reader_figure.F
  refine newC_B fun w1 b1 k1 s1 => ?_
  have hlo := h.lo_le
  have hrb := h.lt
  refine parse_reader_want.cal (want_F (h.ext k1) hi fun w2 k2 => ?_)
  have z1 := b1.lt
  have z2 := k2.size
  unfold figS at hq
  cases hw : wantS l en 2 i with
  | no e p => rw [hw] at hq; exact hq w2 (k1.ext.trans k2)
  | ok t j =>
    rw [hw] at hq
    intro r2
    refine newC_B fun w3 b3 k3 s3 => ?_
    refine stN_B b3 (by simp) rfl (Tk.enc_one _) fun w4 b4 k4 => ?_
    have z3 := k3.size
    replace b4 : IsB w4 w2.heap.size t.enc := by simpa [lay, Tk.enc] using b4
    simp only [add_mk, Nat.zero_add]
    refine ldI_B b4 rfl (ldI_B b4 rfl ?_)
    have c4 : IsB w4 w.heap.size [.int .i64 0, .int .i64 0] := ((b1.keep k2 (by omega)).ext k3).keep k4 (by omega)
    refine stN_B c4 (by simp) rfl (by simp [Value.oneCell']) fun w5 b5 k5 => ?_
    replace b5 : IsB w5 w.heap.size (Fg.enc ⟨t.n, t.pos⟩) := by simpa [lay, Fg.enc] using b5
    refine ldN_B b5 (vs := Fg.enc ⟨t.n, t.pos⟩) rfl rfl ?_
    have e4 : Keep (· = rb) w w4 := ((k1.ext.trans k2).trans k3.ext).trans_new k4 fun q hq' e => by omega
    exact hq w5 (e4.trans_new k5 fun q hq' e => by omega) (((r2.ext k3).keep k4 fun k e => by omega).keep k5 fun k e => by omega)

/-- A number is put behind others. -/
theorem app_fig {s : Sl3} {ns : List Fg} {f : Fg} {K : Option Addr → Nat → Nat → PT} {ad : Addr} (hl : Lst w 49 2 Fg.enc s.a s.n s.c ns) (hn : ns.length ≤ 1000) (hc : ∀ j u, f.enc[j]? = some u → w.cell? (ad.add j) = some u)
    (hk : ∀ (s' : Sl3) w', Lst w' 49 2 Fg.enc s'.a s'.n s'.c (ns ++ [f]) → Keep (inB s.a) w w' → (∀ k, inB s'.a k → inB s.a k ∨ w.heap.size ≤ k) → K s'.a s'.n s'.c w') :
    runL Tryd.prog (bi .append #[53, 53] 53 [false, false] [.slice s.a s.n s.c, .slice (some ad) 1 1]) K w :=
  app_Lst (bytes := 16) (z := .agg #[.int .i64 0, .int .i64 0]) Tryd.underlying53 (by kernel_rfl) rfl (by decide) Fg.enc_len f.enc_one hl hc (by decide) (by have := hl.1; omega) fun a' c' w' g1 g2 g3 => hk ⟨a', s.n + 1, c'⟩ w' g1 g2 g3

theorem more_F {Q : Option Addr → Nat → Nat → Bool → PT} {k : Int} {s : Sl3} {ns : List Fg} (hk0 : k ≠ 0) (h : RdAt w lo bt rb l en i) (hi : i ≤ l.length) (hl : Lst w 49 2 Fg.enc s.a s.n s.c ns) (hs : ∀ k, inB s.a k → lo ≤ k) (hn : ns.length ≤ 1000)
    (hq : ∀ w', Keep (fun k => k = rb ∨ inB s.a k) w w' → After Z (moreS l en k i ns) w' fun r j => ∀ s' : Sl3, RdAt w' lo bt rb l en j → Lst w' 49 2 Fg.enc s'.a s'.n s'.c r.1 → (∀ k, inB s'.a k → inB s.a k ∨ w.heap.size ≤ k) → Q s'.a s'.n s'.c r.2 w') : parse_reader_more.F Z Q (some ⟨rb, 0, none⟩) k s.a s.n s.c w := by
  unfold parse_reader_more.F
  have hlo := h.lo_le
  have hrb := h.lt
  refine parse_reader_peek.cal (peek_F h fun w1 h1 k1 => ?_)
  refine ptI_of (n := (peekS l en i).kind) rfl ?_
  rw [pif_bne]
  unfold moreS at hq
  split
  · rename_i hk
    rw [if_neg (by simpa using hk)] at hq
    simp only [nn_some, add_mk, Nat.zero_add]
    refine ldRd h1 ?_
    have hin : i < l.length := peekS_in (en := en) (by rw [hk]; exact hk0)
    refine stRd (n := i + 1) h1 (wrap_nat1 (by have := h1.short; omega)) (by omega) fun w2 r2 k2 => ?_
    refine parse_reader_figure.cal (fig_F r2 (by omega) fun w3 k3 => ?_)
    cases hf : figS l en (i + 1) with
    | no e p => rw [hf] at hq; exact hq w3 ((k1.ext.trans (k2.trans k3)).mono fun q _ e => .inl e)
    | ok f j =>
      rw [hf] at hq
      intro r3
      refine cnd_of rfl ?_
      refine newC_B fun w4 b4 k4 s4 => ?_
      rw [List.append_nil] at b4
      have k13 : Keep (· = rb) w w4 := k1.ext.trans (k2.trans (k3.trans k4.ext))
      have hl4 : Lst w4 49 2 Fg.enc s.a s.n s.c ns := hl.keep k13 fun q hq' e => by have := hs q hq'; omega
      refine app_fig hl4 hn (fun q u hu => by rw [add_mk, Nat.zero_add, b4.cell]; exact hu) fun s' w5 l5 k5 i5 => ?_
      refine hq w5 ((k13.mono fun q _ e => .inl e).trans (k5.mono fun q _ e => .inr e)) s' ((r3.ext k4).keep k5 fun q e => hs q e) l5 fun q hq' => ?_
      rcases i5 q hq' with g | g
      · exact .inl g
      · exact .inr (by have := k13.size; omega)
  · rename_i hk
    rw [if_pos (by simpa using hk)] at hq
    exact hq w1 k1.ext s h1 (hl.ext k1) fun q hq' => .inl hq'
end
end Go.Proofs.YtllgjjldnnmjkaaDoor
end
section
set_option maxRecDepth 100000
namespace Go.Proofs.YtllgjjldnnmjkaaDoor
open Go.RowKit

theorem mget_one {m : List (ByteArray × Int)} {k : ByteArray} (h1 : ∀ p ∈ m, p.2 = 1) (h : mhas m k = true) : mget m k = 1 := by
  induction m with
  | nil => simp [mhas] at h
  | cons p m ih =>
    unfold mget
    split
    · exact h1 p (by simp)
    · rename_i hk
      refine ih (fun q hq => h1 q (by simp [hq])) ?_
      simpa [mhas, hk] using h
theorem mhas_same {m : List (ByteArray × Int)} {k : ByteArray} : mhas m k = (m.map Prod.fst).any (same k) := by
  unfold mhas same
  rw [List.any_map]
  congr 1
  funext p
  exact text_beq

section
variable {Z : List PanicEntry → PT} {w : World} {lo bt rb : Nat} {l : List Tk} {en : Int} {i : Nat}
/-- What lies there while a clause is read. -/
structure ClSt (w0 w : World) (lo bt rb mb b0 tb cb : Nat) (l : List Tk) (en : Int) (t : Tk) (j : Nat) (c : Cl) (s : Sl3) (m : List (ByteArray × Int)) : Prop where
  out : ∃ z, IsB w b0 z ∧ z.length = 5
  tok : IsB w tb t.enc
  cl : IsB w cb (clEnc (c, s))
  nums : Lst w 49 2 Fg.enc s.a s.n s.c c.nums
  mine : ∀ k, inB s.a k → w0.heap.size ≤ k ∧ k ≠ b0 ∧ k ≠ tb ∧ k ≠ cb
  rd : RdAt w lo bt rb l en j
  map : MapB w mb m
  kept : Keep (fun k => k = rb ∨ k = mb) w0 w
structure ClEnv (w0 : World) (lo bt rb mb b0 tb cb : Nat) : Prop where
  hrb : rb < lo
  hlo : lo ≤ w0.heap.size
  hmb : lo ≤ mb ∧ mb < w0.heap.size
  hb0 : w0.heap.size ≤ b0
  htb : b0 < tb
  hcb : tb < cb
variable {w0 : World} {mb b0 tb cb : Nat} {t : Tk} {c : Cl} {s : Sl3} {m : List (ByteArray × Int)}
theorem ClSt.keep {w' : World} {S : Nat → Prop} {j : Nat} (h : ClSt w0 w lo bt rb mb b0 tb cb l en t j c s m) (e : ClEnv w0 lo bt rb mb b0 tb cb) (k : Keep S w w') (hs : ∀ q, S q → w0.heap.size ≤ q ∧ q ≠ b0 ∧ q ≠ tb ∧ q ≠ cb ∧ ¬ inB s.a q) : ClSt w0 w' lo bt rb mb b0 tb cb l en t j c s m := by
  obtain ⟨⟨z, h1, h1'⟩, h2, h3, h4, h5, h6, h7, h8⟩ := h
  have := e.hlo; have := e.hmb
  refine ⟨⟨z, h1.keep k fun g => (hs _ g).2.1 rfl, h1'⟩, h2.keep k fun g => (hs _ g).2.2.1 rfl, h3.keep k fun g => (hs _ g).2.2.2.1 rfl, h4.keep k fun q hq g => (hs _ g).2.2.2.2 hq, h5, h6.keep k fun q g => by have := (hs q g).1; omega, h7.keep k fun g => by have := (hs _ g).1; omega, h8.trans_new k fun q hq g => by have := (hs q g).1; omega⟩
theorem ClSt.ext {w' : World} {j : Nat} (h : ClSt w0 w lo bt rb mb b0 tb cb l en t j c s m) (e : ClEnv w0 lo bt rb mb b0 tb cb) (k : Ext w w') : ClSt w0 w' lo bt rb mb b0 tb cb l en t j c s m := h.keep e k fun _ g => g.elim
/-- The reader has gone on. -/
theorem ClSt.step {w' : World} {j j' : Nat} (h : ClSt w0 w lo bt rb mb b0 tb cb l en t j c s m) (e : ClEnv w0 lo bt rb mb b0 tb cb) (k : Keep (· = rb) w w') (hr : RdAt w' lo bt rb l en j') : ClSt w0 w' lo bt rb mb b0 tb cb l en t j' c s m := by
  obtain ⟨⟨z, h1, h1'⟩, h2, h3, h4, h5, h6, h7, h8⟩ := h
  have := e.hlo; have := e.hmb; have := e.hrb; have := e.hb0; have := e.htb; have := e.hcb
  refine ⟨⟨z, h1.keep k (by omega), h1'⟩, h2.keep k (by omega), h3.keep k (by omega), h4.keep k fun q hq g => by have := (h5 q hq).1; omega, h5, hr, h7.keep k (by omega), h8.trans (k.mono fun q _ g => .inl g)⟩
/-- The clause's cell is written. -/
theorem ClSt.cell {w' : World} {j : Nat} {c' : Cl} {s' : Sl3} {q : Nat} {v : Value} (h : ClSt w0 w lo bt rb mb b0 tb cb l en t j c s m) (e : ClEnv w0 lo bt rb mb b0 tb cb) (hb : IsB w' cb ((clEnc (c, s)).set q v)) (k : Keep (· = cb) w w') (he : (clEnc (c, s)).set q v = clEnc (c', s'))
    (hl : Lst w 49 2 Fg.enc s'.a s'.n s'.c c'.nums) (hm : ∀ k, inB s'.a k → w0.heap.size ≤ k ∧ k ≠ b0 ∧ k ≠ tb ∧ k ≠ cb) : ClSt w0 w' lo bt rb mb b0 tb cb l en t j c' s' m := by
  obtain ⟨⟨z, h1, h1'⟩, h2, h3, h4, h5, h6, h7, h8⟩ := h
  have := e.hlo; have := e.hmb; have := e.hrb; have := e.hb0; have := e.htb; have := e.hcb
  refine ⟨⟨z, h1.keep k (by omega), h1'⟩, h2.keep k (by omega), by rw [← he]; exact hb, hl.keep k fun q hq g => (hm q hq).2.2.2 g, hm, h6.keep k fun q g => by omega, h7.keep k (by omega), h8.trans_new k fun q hq g => by omega⟩

/-- The end: the clause is handed back. -/
theorem cl_end {Q : List Value → PT} {j : Nat} (h : ClSt w0 w lo bt rb mb b0 tb cb l en t j c s m) (e : ClEnv w0 lo bt rb mb b0 tb cb)
    (hq : ∀ w', Keep (fun k => k = rb ∨ k = mb) w0 w' → RdAt w' lo bt rb l en j → MapB w' mb m → Lst w' 49 2 Fg.enc s.a s.n s.c c.nums → (∀ k, inB s.a k → w0.heap.size ≤ k) → Q (clEnc (c, s)) w') : parse_reader_clause.s20 Z Q ⟨b0, 0, none⟩ ⟨cb, 0, none⟩ w := by
  unfold parse_reader_clause.s20
  obtain ⟨⟨z, h1, h1'⟩, h2, h3, h4, h5, h6, h7, h8⟩ := h
  have := e.hlo; have := e.hmb; have := e.hrb; have := e.hb0; have := e.htb; have := e.hcb
  refine ldN_B h3 (vs := clEnc (c, s)) rfl rfl ?_
  refine stN_B h1 (by omega) rfl (clEnc_one _) fun w1 b1 k1 => ?_
  replace b1 : IsB w1 b0 (clEnc (c, s)) := by
    have : lay z 0 (clEnc (c, s)) = clEnc (c, s) := by
      unfold lay
      rw [List.take_zero, List.drop_eq_nil_of_le (by rw [clEnc_len]; omega)]
      simp
    rwa [this] at b1
  refine ldN_B b1 (vs := clEnc (c, s)) rfl rfl ?_
  exact hq w1 (h8.trans_new k1 fun q hq g => by omega) (h6.keep k1 fun q g => by omega) (h7.keep k1 (by omega)) (h4.keep k1 fun q hq g => by have := (h5 q hq).2.1; omega) fun q hq => (h5 q hq).1

/-- One number more, or not. -/
theorem cl_more {Q : Sl3 → Bool → PT} {j : Nat} {k : Int} (hk0 : k ≠ 0) (h : ClSt w0 w lo bt rb mb b0 tb cb l en t j c s m) (e : ClEnv w0 lo bt rb mb b0 tb cb) (hj : j ≤ l.length) (hn : c.nums.length ≤ 100)
    (hz : ∀ e' p w', moreS l en k j c.nums = .no e' p → Keep (fun k => k = rb ∨ k = mb) w0 w' → Z (faultV e' p) w')
    (hq : ∀ r j' s' w', moreS l en k j c.nums = .ok r j' → ClSt w0 w' lo bt rb mb b0 tb cb l en t j' c s m ∨ True → (∃ z, IsB w' b0 z ∧ z.length = 5) → IsB w' tb t.enc → IsB w' cb (clEnc (c, s)) → Lst w' 49 2 Fg.enc s'.a s'.n s'.c r.1 → (∀ k, inB s'.a k → w0.heap.size ≤ k ∧ k ≠ b0 ∧ k ≠ tb ∧ k ≠ cb) → RdAt w' lo bt rb l en j' → MapB w' mb m → Keep (fun k => k = rb ∨ k = mb) w0 w' → Q s' r.2 w') :
    parse_reader_more.F Z (fun a n c b => Q ⟨a, n, c⟩ b) (some ⟨rb, 0, none⟩) k s.a s.n s.c w := by
  obtain ⟨⟨z, h1, h1'⟩, h2, h3, h4, h5, h6, h7, h8⟩ := h
  have := e.hlo; have := e.hmb; have := e.hrb; have := e.hb0; have := e.htb; have := e.hcb
  refine more_F hk0 h6 hj h4 (fun q hq => by have := (h5 q hq).1; omega) (by omega) fun w1 k1 => ?_
  have kk : Keep (fun k => k = rb ∨ k = mb) w0 w1 := h8.trans_new k1 fun q hq g => by
    rcases g with g | g
    · exact .inl g
    · have := (h5 q g).1; omega
  cases hm : moreS l en k j c.nums with
  | no e' p => exact hz e' p w1 hm kk
  | ok r j' =>
    intro s' r1 l1 i1
    have lt := h3.lt
    have no : ∀ q, (q = rb ∨ inB s.a q) → q ≠ b0 ∧ q ≠ tb ∧ q ≠ cb ∧ q ≠ mb := fun q g => by
      rcases g with g | g
      · omega
      · obtain ⟨g1, g2, g3, g4⟩ := h5 q g; exact ⟨g2, g3, g4, by omega⟩
    refine hq r j' s' w1 hm (.inr trivial) ⟨z, h1.keep k1 fun g => (no _ g).1 rfl, h1'⟩ (h2.keep k1 fun g => (no _ g).2.1 rfl) (h3.keep k1 fun g => (no _ g).2.2.1 rfl) l1 (fun q hq => ?_) r1 (h7.keep k1 fun g => (no _ g).2.2.2 rfl) kk
    rcases i1 q hq with g | g
    · exact h5 q g
    · have := h8.size; exact ⟨by omega, by omega, by omega, by omega⟩
end
end Go.Proofs.YtllgjjldnnmjkaaDoor
end
section
set_option maxRecDepth 100000
namespace Go.Proofs.YtllgjjldnnmjkaaDoor
open Go.RowKit

section
variable {Z : List PanicEntry → PT} {w0 w : World} {lo bt rb mb b0 tb cb : Nat} {l : List Tk} {en : Int} {t : Tk} {m : List (ByteArray × Int)}
theorem cl_dots {Q : List Value → PT} (e : ClEnv w0 lo bt rb mb b0 tb cb) : ∀ (k j : Nat) (c : Cl) (s : Sl3) (w : World), k ≤ 3 → ClSt w0 w lo bt rb mb b0 tb cb l en t j c s m → c.nums.length + k ≤ 10 → j ≤ l.length →
    (∀ e' p w', dotsS l en k j c.nums = .no e' p → Keep (fun k => k = rb ∨ k = mb) w0 w' → Z (faultV e' p) w') →
    (∀ ns j' s' w', dotsS l en k j c.nums = .ok ns j' → ClSt w0 w' lo bt rb mb b0 tb cb l en t j' { c with nums := ns } s' m → parse_reader_clause.s37 Z Q (some ⟨rb, 0, none⟩) ⟨b0, 0, none⟩ ⟨cb, 0, none⟩ w') →
    parse_reader_clause.l48 Z Q (k + 1) (some ⟨rb, 0, none⟩) ⟨b0, 0, none⟩ ⟨cb, 0, none⟩ (3 - k : Int) w
  | 0, j, c, s, w, hk, h, hn, hj, hz, hq => by
    unfold parse_reader_clause.l48 parse_reader_clause.s51
    rw [pif_dec, if_neg (by omega)]
    exact hq c.nums j s w rfl h
  | k + 1, j, c, s, w, hk, h, hn, hj, hz, hq => by
    have := e.hlo; have := e.hmb; have := e.hrb; have := e.hb0; have := e.htb; have := e.hcb
    unfold parse_reader_clause.l48 parse_reader_clause.s51
    rw [pif_dec, if_pos (by omega)]
    unfold dotsS at hz hq
    refine parse_reader_want.cal (want_F h.rd hj fun w1 k1 => ?_)
    have kk1 := h.kept.trans (k1.mono fun q _ g => .inl g : Keep (fun k => k = rb ∨ k = mb) w w1)
    cases hw : wantS l en 3 j with
    | no e' p => rw [hw] at hz; exact hz e' p w1 rfl kk1
    | ok t1 j1 =>
      rw [hw] at hz hq
      simp only at hz hq
      intro r1
      have h1 := h.step e k1 r1
      obtain ⟨hj1, ht1, hkd⟩ := wantS_at hw
      have hin := peekS_in (l := l) (en := en) (i := j) (by omega)
      refine drawn_of (fun w' => IsB w' cb (clEnc (c, s))) h1.cl.drew ?_
      have h1 := h1.ext e Keep.refl.drew
      generalize w1.drew = w1' at h1 ⊢
      rw [add_mk]
      refine hL_of (fun w' hw' => hw'.cell 2) ?_
      refine parse_reader_figure.cal (fig_F h1.rd (by omega) fun w2 k2 => ?_)
      have kk2 := h1.kept.trans (k2.mono fun q _ g => .inl g : Keep (fun k => k = rb ∨ k = mb) w1' w2)
      cases hf : figS l en j1 with
      | no e' p => rw [hf] at hz; exact hz e' p w2 rfl kk2
      | ok f j2 =>
        rw [hf] at hz hq
        simp only at hz hq
        intro r2
        have h2 := h1.step e k2 r2
        obtain ⟨hj2, hin2⟩ := figS_at hf
        refine sAnd_of h2.cl (cnd_of rfl ?_)
        refine newC_B fun w3 b3 k3 s3 => ?_
        rw [List.append_nil] at b3
        have h3 := h2.ext e k3
        refine sAnd_of h3.cl ?_
        refine app_fig h3.nums (by omega) (fun q u hu => by rw [add_mk, Nat.zero_add, b3.cell]; exact hu) fun s' w4 l4 k4 i4 => ?_
        have n4 : ¬ inB s.a cb := fun g => (h3.mine cb g).2.2.2 rfl
        have b4 := h3.cl.keep k4 n4
        refine sAnd_of b4 ?_
        -- the cell is written
        have lt := h2.cl.lt
        have sz := h3.kept.size
        have mine' : ∀ q, inB s'.a q → w0.heap.size ≤ q ∧ q ≠ b0 ∧ q ≠ tb ∧ q ≠ cb := fun q hq' => by
          rcases i4 q hq' with g | g
          · exact h3.mine q g
          · have := h3.cl.lt; exact ⟨by omega, by omega, by omega, by omega⟩
        refine st1_B b4 (by simp [clEnc]) rfl fun w5 b5 k5 => ?_
        obtain ⟨⟨z, g1, g1'⟩, g2, g3, g4, g5, g6, g7, g8⟩ := h3
        have no : ∀ q, inB s.a q → q ≠ b0 ∧ q ≠ tb ∧ q ≠ mb ∧ lo ≤ q := fun q g => by obtain ⟨y1, y2, y3, y4⟩ := g5 q g; exact ⟨y2, y3, by omega, by omega⟩
        have h5 : ClSt w0 w5 lo bt rb mb b0 tb cb l en t j2 { c with nums := c.nums ++ [f] } s' m := by
          refine ⟨⟨z, (g1.keep k4 fun g => (no _ g).1 rfl).keep k5 (by omega), g1'⟩, (g2.keep k4 fun g => (no _ g).2.1 rfl).keep k5 (by omega), b5, l4.keep k5 fun q hq' g => (mine' q hq').2.2.2 g, mine', (g6.keep k4 fun q g => (no q g).2.2.2).keep k5 fun q g => by omega, (g7.keep k4 fun g => (no _ g).2.2.1 rfl).keep k5 (by omega), ?_⟩
          exact (g8.trans_new k4 fun q hq' g => by have := (g5 q g).1; omega).trans_new k5 fun q hq' g => by omega
        rw [show IntKind.wrap .i64 ((3 - ((k + 1 : Nat) : Int)) + 1) = 3 - (k : Int) by rw [wrap_in (by omega) (by omega)]; omega]
        exact cl_dots e k j2 _ s' w5 (by omega) h5 (by simp; omega) (by omega) hz hq

/-- What is asked behind a clause. -/
def ClQ (Z : List PanicEntry → PT) (Q : List Value → PT) (w0 : World) (lo bt rb mb : Nat) (l : List Tk) (en : Int) (m : List (ByteArray × Int)) (c : Cl) (j : Nat) : Prop := ∀ (s : Sl3) w', Keep (fun k => k = rb ∨ k = mb) w0 w' → RdAt w' lo bt rb l en j → MapB w' mb m → Lst w' 49 2 Fg.enc s.a s.n s.c c.nums → (∀ k, inB s.a k → w0.heap.size ≤ k) → Q (clEnc (c, s)) w'
theorem cl_fin {Q : List Value → PT} {j : Nat} {c : Cl} {s : Sl3} (h : ClSt w0 w lo bt rb mb b0 tb cb l en t j c s m) (e : ClEnv w0 lo bt rb mb b0 tb cb) (hq : ClQ Z Q w0 lo bt rb mb l en m c j) : parse_reader_clause.s20 Z Q ⟨b0, 0, none⟩ ⟨cb, 0, none⟩ w :=
  cl_end h e fun w' h1 h2 h3 h4 h5 => hq s w' h1 h2 h3 h4 h5
/-- Behind 'more': both cells are written. -/
theorem cl_laid {Q : List Value → PT} {j : Nat} {c : Cl} {s s' : Sl3} {ns : List Fg} {q : Nat} {b : Bool} {c' : Cl} (e : ClEnv w0 lo bt rb mb b0 tb cb) (ho : ∃ z, IsB w b0 z ∧ z.length = 5) (ht : IsB w tb t.enc) (hc : IsB w cb (clEnc (c, s))) (hl : Lst w 49 2 Fg.enc s'.a s'.n s'.c ns) (hm : ∀ k, inB s'.a k → w0.heap.size ≤ k ∧ k ≠ b0 ∧ k ≠ tb ∧ k ≠ cb)
    (hr : RdAt w lo bt rb l en j) (hmm : MapB w mb m) (hk : Keep (fun k => k = rb ∨ k = mb) w0 w) (hq5 : q < 5) (he : ((clEnc (c, s)).set 2 (.slice s'.a s'.n s'.c)).set q (.bool b) = clEnc (c', s')) (hn : c'.nums = ns) (hq : ClQ Z Q w0 lo bt rb mb l en m c' j) :
    st1 ⟨cb, 2, none⟩ (.slice s'.a s'.n s'.c) (st1 ⟨cb, q, none⟩ (.bool b) (parse_reader_clause.s20 Z Q ⟨b0, 0, none⟩ ⟨cb, 0, none⟩)) w := by
  have := e.hlo; have := e.hmb; have := e.hrb; have := e.hb0; have := e.htb; have := e.hcb
  obtain ⟨z, g1, g1'⟩ := ho
  refine st1_B hc (by simp [clEnc]) rfl fun w1 b1 k1 => ?_
  refine st1_B b1 (by simp [clEnc]; omega) rfl fun w2 b2 k2 => ?_
  have k12 := k1.trans k2
  rw [he] at b2
  refine cl_fin (t := t) (s := s') ⟨⟨z, g1.keep k12 (by omega), g1'⟩, ht.keep k12 (by omega), b2, ?_, hm, hr.keep k12 fun q g => by omega, hmm.keep k12 (by omega), hk.trans_new k12 fun q hq' g => by omega⟩ e hq
  rw [hn]
  exact hl.keep k12 fun q hq' g => (hm q hq').2.2.2 g
theorem cl_s37 {Q : List Value → PT} {j : Nat} {c : Cl} {s : Sl3} (h : ClSt w0 w lo bt rb mb b0 tb cb l en t j c s m) (e : ClEnv w0 lo bt rb mb b0 tb cb) (hj : j ≤ l.length) (hn : c.nums.length ≤ 100) (hd : c.dash = false)
    (hz : ∀ e' p w', moreS l en 4 j c.nums = .no e' p → Keep (fun k => k = rb ∨ k = mb) w0 w' → Z (faultV e' p) w') (hq : ∀ r j', moreS l en 4 j c.nums = .ok r j' → ClQ Z Q w0 lo bt rb mb l en m ⟨c.word, c.pos, r.1, r.2, false⟩ j') : parse_reader_clause.s37 Z Q (some ⟨rb, 0, none⟩) ⟨b0, 0, none⟩ ⟨cb, 0, none⟩ w := by
  unfold parse_reader_clause.s37
  simp only [add_mk, Nat.zero_add]
  refine ldL_of (h.cl.cell 2) ?_
  refine parse_reader_more.cal (cl_more (Q := fun s' b => st1 ⟨cb, 2, none⟩ (.slice s'.a s'.n s'.c) (st1 ⟨cb, 3, none⟩ (.bool b) (parse_reader_clause.s20 Z Q ⟨b0, 0, none⟩ ⟨cb, 0, none⟩))) (by decide) h e hj hn hz fun r j' s' w' h1 _ h2 h3 h4 h5 h6 h7 h8 h9 => ?_)
  exact cl_laid e h2 h3 h4 h5 h6 h7 h8 h9 (by decide) (by simp [clEnc, hd]) rfl (hq r j' h1)
theorem cl_s65 {Q : List Value → PT} {j : Nat} {c : Cl} {s : Sl3} (h : ClSt w0 w lo bt rb mb b0 tb cb l en t j c s m) (e : ClEnv w0 lo bt rb mb b0 tb cb) (hj : j ≤ l.length) (hn : c.nums.length ≤ 100) (hs : c.slash = false)
    (hz : ∀ e' p w', moreS l en 5 j c.nums = .no e' p → Keep (fun k => k = rb ∨ k = mb) w0 w' → Z (faultV e' p) w') (hq : ∀ r j', moreS l en 5 j c.nums = .ok r j' → ClQ Z Q w0 lo bt rb mb l en m ⟨c.word, c.pos, r.1, false, r.2⟩ j') : parse_reader_clause.s65 Z Q (some ⟨rb, 0, none⟩) ⟨b0, 0, none⟩ ⟨cb, 0, none⟩ true w := by
  unfold parse_reader_clause.s65
  rw [pif_true]
  simp only [add_mk, Nat.zero_add]
  refine ldL_of (h.cl.cell 2) ?_
  refine parse_reader_more.cal (cl_more (Q := fun s' b => st1 ⟨cb, 2, none⟩ (.slice s'.a s'.n s'.c) (st1 ⟨cb, 4, none⟩ (.bool b) (parse_reader_clause.s20 Z Q ⟨b0, 0, none⟩ ⟨cb, 0, none⟩))) (by decide) h e hj hn hz fun r j' s' w' h1 _ h2 h3 h4 h5 h6 h7 h8 h9 => ?_)
  exact cl_laid e h2 h3 h4 h5 h6 h7 h8 h9 (by decide) (by simp [clEnc, hs]) rfl (hq r j' h1)

/-- Behind the first number. -/
theorem cl_s73 {Q : List Value → PT} {j : Nat} {f : Fg} {s : Sl3} (h : ClSt w0 w lo bt rb mb b0 tb cb l en t j ⟨t.text, t.pos, [f], false, false⟩ s m) (e : ClEnv w0 lo bt rb mb b0 tb cb) (hj : j ≤ l.length)
    (hz : ∀ e' p w', (if (same t.text wSrc || same t.text wDst) = true then (match dotsS l en 3 j [f] with
          | .no e p => (.no e p : Res Cl)
          | .ok ns j => match moreS l en 4 j ns with
            | .no e p => .no e p
            | .ok r j => .ok ⟨t.text, t.pos, r.1, r.2, false⟩ j)
        else if (same t.text wSport || same t.text wDport) = true then (match moreS l en 5 j [f] with
          | .no e p => .no e p
          | .ok r j => .ok ⟨t.text, t.pos, r.1, false, r.2⟩ j)
        else .ok ⟨t.text, t.pos, [f], false, false⟩ j) = .no e' p → Keep (fun k => k = rb ∨ k = mb) w0 w' → Z (faultV e' p) w')
    (hq : ∀ c j', (if (same t.text wSrc || same t.text wDst) = true then (match dotsS l en 3 j [f] with
          | .no e p => (.no e p : Res Cl)
          | .ok ns j => match moreS l en 4 j ns with
            | .no e p => .no e p
            | .ok r j => .ok ⟨t.text, t.pos, r.1, r.2, false⟩ j)
        else if (same t.text wSport || same t.text wDport) = true then (match moreS l en 5 j [f] with
          | .no e p => .no e p
          | .ok r j => .ok ⟨t.text, t.pos, r.1, false, r.2⟩ j)
        else .ok ⟨t.text, t.pos, [f], false, false⟩ j) = .ok c j' → ClQ Z Q w0 lo bt rb mb l en m c j') : parse_reader_clause.s73 Z Q (some ⟨rb, 0, none⟩) ⟨b0, 0, none⟩ ⟨tb, 0, none⟩ ⟨cb, 0, none⟩ w := by
  unfold parse_reader_clause.s73
  simp only [add_mk, Nat.zero_add]
  refine ldS_of (h.tok.cell 2) ?_
  show parse_reader_clause.s70 Z Q _ _ _ t.text w
  have addr : (same t.text wSrc || same t.text wDst) = true → parse_reader_clause.s59 Z Q (some ⟨rb, 0, none⟩) ⟨b0, 0, none⟩ ⟨cb, 0, none⟩ w := fun hs => by
    rw [if_pos hs] at hz hq
    unfold parse_reader_clause.s59
    refine exK_of (3 + 1) ?_
    refine cl_dots e 3 j ⟨t.text, t.pos, [f], false, false⟩ s w (by decide) h (by simp) hj (fun e' p w' hd hk => ?_) fun ns j' s' w' hd h' => ?_
    · simp only at hd
      rw [hd] at hz
      exact hz e' p w' rfl hk
    · simp only at hd
      rw [hd] at hz hq
      simp only at hz hq
      obtain ⟨d1, d2, d3⟩ := dotsS_at hd
      refine cl_s37 h' e (d3 hj) (by simp at d2; simp only; omega) rfl (fun e' p w2 hm hk => ?_) fun r j2 hm => ?_
      · simp only at hm
        rw [hm] at hz
        exact hz e' p w2 rfl hk
      · simp only at hm
        rw [hm] at hq
        exact hq _ _ rfl
  have rest : (same t.text wSrc || same t.text wDst) = false → parse_reader_clause.s67 Z Q (some ⟨rb, 0, none⟩) ⟨b0, 0, none⟩ ⟨cb, 0, none⟩ t.text w := fun hs => by
    rw [if_neg (by rw [hs]; decide)] at hz hq
    have port : (same t.text wSport || same t.text wDport) = true → parse_reader_clause.s65 Z Q (some ⟨rb, 0, none⟩) ⟨b0, 0, none⟩ ⟨cb, 0, none⟩ true w := fun hp => by
      rw [if_pos hp] at hz hq
      refine cl_s65 h e hj (by simp) rfl (fun e' p w2 hm hk => ?_) fun r j2 hm => ?_
      · simp only at hm
        rw [hm] at hz
        exact hz e' p w2 rfl hk
      · simp only at hm
        rw [hm] at hq
        exact hq _ _ rfl
    unfold parse_reader_clause.s67
    show pif (same t.text wSport) (parse_reader_clause.s65 Z Q _ _ _ (same t.text wSport)) (parse_reader_clause.s65 Z Q _ _ _ (same t.text wDport)) w
    rw [pif_bool]
    split
    · rename_i h1; rw [h1]; exact port (by simp [h1])
    · rename_i h1
      cases h2 : same t.text wDport with
      | true => exact port (by simp [h2])
      | false =>
        rw [if_neg (by simp [h1, h2])] at hq
        unfold parse_reader_clause.s65
        rw [pif_false]
        exact cl_fin h e (hq _ _ rfl)
  unfold parse_reader_clause.s70
  show pif (same t.text wSrc) (pif (same t.text wSrc) (parse_reader_clause.s59 Z Q _ _ _) _) (pif (same t.text wDst) (parse_reader_clause.s59 Z Q _ _ _) (parse_reader_clause.s67 Z Q _ _ _ t.text)) w
  rw [pif_bool]
  split
  · rename_i h1
    rw [h1, pif_true]
    exact addr (by simp [h1])
  · rename_i h1
    rw [pif_bool]
    split
    · rename_i h2; exact addr (by simp [h2])
    · rename_i h2; exact rest (by simp [h1, h2])
end
end Go.Proofs.YtllgjjldnnmjkaaDoor
end
section
set_option maxRecDepth 100000
namespace Go.Proofs.YtllgjjldnnmjkaaDoor
open Go.RowKit

section
variable {Z : List PanicEntry → PT} {w0 w : World} {lo bt rb mb b0 tb cb : Nat} {l : List Tk} {en : Int} {i : Nat} {m : List (ByteArray × Int)}
theorem clause_F {Q : List Value → PT} (h : RdAt w lo bt rb l en i) (hi : i ≤ l.length) (hm : MapB w mb m) (hmb : lo ≤ mb) (h1 : ∀ p ∈ m, p.2 = 1)
    (hz : ∀ e p w', clauseS l en (m.map Prod.fst) i = .no e p → Keep (fun k => k = rb ∨ k = mb) w w' → Z (faultV e p) w')
    (hq : ∀ c j, clauseS l en (m.map Prod.fst) i = .ok c j → ClQ Z Q w lo bt rb mb l en (m ++ [(c.word, 1)]) c j) : parse_reader_clause.F Z Q (some ⟨rb, 0, none⟩) (some mb) w := by
  have hlo := h.lo_le
  have hrb := h.lt
  have hml := hm.lt
  unfold parse_reader_clause.F parse_reader_clause.s98
  refine newC_B fun w1 b1 k1 s1 => ?_
  refine parse_reader_peek.cal (peek_F (h.ext k1) fun w2 h2 k2 => ?_)
  generalize ht : peekS l en i = t at hz hq ⊢
  refine newC_B fun w3 b3 k3 s3 => ?_
  refine stN_B b3 (by simp) rfl (Tk.enc_one _) fun w4 b4 k4 => ?_
  have z1 := b1.lt
  have z2 := k2.size
  have z3 := k3.size
  have z4 := k4.size
  replace b4 : IsB w4 w2.heap.size t.enc := by simpa [lay, Tk.enc] using b4
  simp only [add_mk, Nat.zero_add]
  refine ldS_of (b4.cell 2) ?_
  refine ldI_B b4 rfl ?_
  refine newC_B fun w5 b5 k5 s5 => ?_
  refine stN_B b5 (by simp) rfl (by simp [Value.oneCell']) fun w6 b6 k6 => ?_
  have z5 := k5.size
  replace b6 : IsB w6 w4.heap.size (clEnc (⟨t.text, t.pos, [], false, false⟩, ⟨none, 0, 0⟩)) := by simpa [lay, clEnc] using b6
  have e : ClEnv w lo bt rb mb w.heap.size w2.heap.size w4.heap.size := ⟨hrb, hlo, ⟨hmb, hml⟩, Nat.le_refl _, by omega, by omega⟩
  have e4 : Ext w w4 := ((k1.trans k2).trans k3).trans_new k4 fun q hq' g => by omega
  have e6 : Ext w w6 := (e4.trans k5).trans_new k6 fun q hq' g => by omega
  have st : ClSt w w6 lo bt rb mb w.heap.size w2.heap.size w4.heap.size l en t i ⟨t.text, t.pos, [], false, false⟩ ⟨none, 0, 0⟩ m := by
    refine ⟨⟨_, ((((b1.ext k2).ext k3).keep k4 (by omega)).ext k5).keep k6 (by omega), rfl⟩, (b4.ext k5).keep k6 (by omega), b6, Lst.nil, fun k ⟨p, hp, _⟩ => (by cases hp), ((((h2.ext k3).keep k4 fun q g => by omega).ext k5).keep k6 fun q g => by omega), hm.ext e6, e6.ext⟩
  clear b1 b3 b4 b5 b6 k1 k2 k3 k4 k5 k6 s1 s3 s5 h2 e4 e6 z1 z2 z3 z4 z5 w1 w3 w5
  generalize w.heap.size = b0 at *
  generalize w2.heap.size = tb at *
  generalize w4.heap.size = cb at *
  clear w2 w4
  unfold clauseS at hz hq
  simp only [ht] at hz hq
  -- behind both tests
  have there : (same t.text wSrc || same t.text wDst || same t.text wSport || same t.text wDport || same t.text wProto) ≠ false → i < l.length := fun g => by
    refine Classical.byContradiction fun hn => g ?_
    rw [← ht]
    unfold peekS
    rw [if_neg hn]
    simp only [same, ByteArray.toList_eq]
    rfl
  have read : (same t.text wSrc || same t.text wDst || same t.text wSport || same t.text wDport || same t.text wProto) ≠ false → (m.map Prod.fst).any (same t.text) = false → parse_reader_clause.s76 Z Q (some ⟨rb, 0, none⟩) (some mb) ⟨b0, 0, none⟩ ⟨tb, 0, none⟩ ⟨cb, 0, none⟩ w6 := fun g1 g2 => by
    rw [if_neg g1, if_neg (by rw [g2]; decide)] at hz hq
    have hno : mhas m t.text = false := by rw [mhas_same]; exact g2
    unfold parse_reader_clause.s76
    simp only [add_mk, Nat.zero_add]
    refine ldS_of (st.tok.cell 2) ?_
    refine look_B Tryd.underlying109 Tryd.underlying9 (by kernel_rfl) st.map ?_
    rw [mget_no hno]
    refine upd_B Tryd.underlying109 Tryd.underlying9 st.map hno fun w7 b7 k7 s7 => ?_
    have st7 : ClSt w w7 lo bt rb mb b0 tb cb l en t i ⟨t.text, t.pos, [], false, false⟩ ⟨none, 0, 0⟩ (m ++ [(t.text, 1)]) := by
      have := e.hlo; have := e.hmb; have := e.hrb; have := e.hb0; have := e.htb; have := e.hcb
      obtain ⟨⟨z, g1, g1'⟩, g2, g3, g4, g5, g6, g7, g8⟩ := st
      exact ⟨⟨z, g1.keep k7 (by omega), g1'⟩, g2.keep k7 (by omega), g3.keep k7 (by omega), Lst.nil, g5, g6.keep k7 fun q g => by omega, b7, g8.trans (k7.mono fun q _ g => .inr g)⟩
    simp only [nn_some, add_mk, Nat.zero_add]
    refine ldRd st7.rd ?_
    refine stRd (n := i + 1) st7.rd (wrap_nat1 (by have := h.short; omega)) (by omega) fun w8 r8 k8 => ?_
    have st8 := st7.step e k8 r8
    have hin : i + 1 ≤ l.length := there g1
    have : True := trivial
    refine parse_reader_figure.cal (fig_F st8.rd hin fun w9 k9 => ?_)
    cases hf : figS l en (i + 1) with
    | no e' p => rw [hf] at hz; exact hz e' p w9 rfl (st8.kept.trans (k9.mono fun q _ g => .inl g))
    | ok f j =>
      rw [hf] at hz hq
      simp only at hz hq
      intro r9
      obtain ⟨hj, _⟩ := figS_at hf
      have st9 := st8.step e k9 r9
      refine cnd_of rfl ?_
      show newC _ (f.enc ++ []) _ _
      rw [List.append_nil]
      refine newC_E fun wa ba ka sa => ?_
      have sta := st9.ext e ka
      have lt := st9.cl.lt
      have sz := st9.kept.size
      have ltt := st9.tok.lt
      obtain ⟨z, gz, gz'⟩ := st9.out
      have ltz := gz.lt
      refine st1_B sta.cl (by simp [clEnc]) rfl fun wb bb kb => ?_
      have n := e.hcb
      refine cl_s73 (j := j) (f := f) (s := ⟨some ⟨w9.heap.size, 0, none⟩, 1, 1⟩) (sta.cell e bb kb rfl ?_ ?_) e (by omega) (fun e' p w' hh hk => hz e' p w' hh hk) fun c j' hh => ?_
      · exact Lst.one ba rfl
      · rintro k ⟨p, hp, rfl⟩
        cases hp
        exact ⟨by simp only; omega, by simp only; omega, by simp only; omega, by simp only; omega⟩
      · have hw : c.word = t.text := by
          split at hh
          · split at hh
            · cases hh
            · split at hh
              · cases hh
              · cases hh; rfl
          · split at hh
            · split at hh
              · cases hh
              · cases hh; rfl
            · cases hh; rfl
        have := hq c j' hh
        rw [hw] at this
        exact this
  -- the second test
  have second : (same t.text wSrc || same t.text wDst || same t.text wSport || same t.text wDport || same t.text wProto) ≠ false → parse_reader_clause.s78 Z Q (some ⟨rb, 0, none⟩) (some mb) ⟨b0, 0, none⟩ ⟨tb, 0, none⟩ ⟨cb, 0, none⟩ w6 := fun g1 => by
    unfold parse_reader_clause.s78
    simp only [add_mk, Nat.zero_add]
    refine ldS_of (st.tok.cell 2) ?_
    refine look_B Tryd.underlying109 Tryd.underlying9 (by kernel_rfl) st.map ?_
    show pif (decide (mget m t.text > 0)) _ _ w6
    cases hb : mhas m t.text with
    | true =>
      rw [mget_one h1 hb]
      show cal _ _ _ _ _ w6
      refine parse_reader_fail.cal (fail_F st.rd fun w7 k7 => ?_)
      rw [ht]
      refine hz 9 t.pos w7 ?_ (st.kept.trans k7.ext)
      rw [if_neg g1, if_pos (by rw [← mhas_same]; exact hb)]
    | false =>
      rw [mget_no hb]
      exact read g1 (by rw [← mhas_same]; exact hb)
  have first : ∀ b : Bool, b = (same t.text wSrc || same t.text wDst || same t.text wSport || same t.text wDport || same t.text wProto) → parse_reader_clause.s88 Z Q (some ⟨rb, 0, none⟩) (some mb) ⟨b0, 0, none⟩ ⟨tb, 0, none⟩ ⟨cb, 0, none⟩ b w6 := fun b hb => by
    unfold parse_reader_clause.s88
    cases b with
    | true => exact second (by rw [← hb]; decide)
    | false =>
      rw [pif_false]
      refine parse_reader_fail.cal (fail_F st.rd fun w7 k7 => ?_)
      rw [ht]
      refine hz 8 t.pos w7 ?_ (st.kept.trans k7.ext)
      rw [if_pos hb.symm]
  unfold parse_reader_clause.s95
  simp only [add_mk, Nat.zero_add]
  refine ldS_of (st.tok.cell 2) ?_
  show parse_reader_clause.s92 Z Q _ _ _ _ _ t.text w6
  unfold parse_reader_clause.s92
  show pif (same t.text wSrc) (parse_reader_clause.s88 Z Q _ _ _ _ _ (same t.text wSrc)) (pif (same t.text wDst) (parse_reader_clause.s88 Z Q _ _ _ _ _ (same t.text wDst)) (pif (same t.text wSport) (parse_reader_clause.s88 Z Q _ _ _ _ _ (same t.text wSport)) (pif (same t.text wDport) (parse_reader_clause.s88 Z Q _ _ _ _ _ (same t.text wDport)) (parse_reader_clause.s88 Z Q _ _ _ _ _ (same t.text wProto))))) w6
  rw [pif_bool]; split
  · rename_i g; rw [g]; exact first true (by simp [g])
  rename_i g1
  rw [pif_bool]; split
  · rename_i g; rw [g]; exact first true (by simp [g])
  rename_i g2
  rw [pif_bool]; split
  · rename_i g; rw [g]; exact first true (by simp [g])
  rename_i g3
  rw [pif_bool]; split
  · rename_i g; rw [g]; exact first true (by simp [g])
  rename_i g4
  exact first _ (by simp [g1, g2, g3, g4])
end
end Go.Proofs.YtllgjjldnnmjkaaDoor
end
section
set_option maxRecDepth 100000
namespace Go.Proofs.YtllgjjldnnmjkaaDoor
open Go.RowKit

section
variable {Z : List PanicEntry → PT} {w0 w : World} {lo bt rb ob xb : Nat} {l : List Tk} {en : Int} {F : Nat → Prop}
/-- What lies there while a line is read. -/
structure LnSt (w0 w : World) (F : Nat → Prop) (lo bt rb ob xb : Nat) (l : List Tk) (en : Int) (j : Nat) (x : Rw) (s : Sl3) : Prop where
  out : ∃ z, IsB w ob z ∧ z.length = 8
  cell : IsB w xb (rwEnc (x, s))
  cls : ClsAt w F s x.clauses
  rd : RdAt w lo bt rb l en j
  kept : Keep (· = rb) w0 w
structure LnEnv (w0 : World) (F : Nat → Prop) (lo bt rb ob xb : Nat) : Prop where
  hrb : rb < lo
  hlo : lo ≤ w0.heap.size
  hob : w0.heap.size ≤ ob
  hxb : ob < xb
  hF : ∀ k, F k → w0.heap.size ≤ k ∧ k ≠ ob ∧ k ≠ xb
variable {x : Rw} {s : Sl3}
theorem LnSt.keep {w' : World} {S : Nat → Prop} {j : Nat} (h : LnSt w0 w F lo bt rb ob xb l en j x s) (e : LnEnv w0 F lo bt rb ob xb) (k : Keep S w w') (hs : ∀ q, S q → w0.heap.size ≤ q ∧ q ≠ ob ∧ q ≠ xb ∧ ¬ F q) : LnSt w0 w' F lo bt rb ob xb l en j x s := by
  obtain ⟨⟨z, h1, h1'⟩, h2, h3, h4, h5⟩ := h
  have := e.hlo
  exact ⟨⟨z, h1.keep k fun g => (hs _ g).2.1 rfl, h1'⟩, h2.keep k fun g => (hs _ g).2.2.1 rfl, h3.keep k fun q g g' => (hs q g').2.2.2 g, h4.keep k fun q g => by have := (hs q g).1; omega, h5.trans_new k fun q hq g => by have := (hs q g).1; omega⟩
theorem LnSt.ext {w' : World} {j : Nat} (h : LnSt w0 w F lo bt rb ob xb l en j x s) (e : LnEnv w0 F lo bt rb ob xb) (k : Ext w w') : LnSt w0 w' F lo bt rb ob xb l en j x s := h.keep e k fun _ g => g.elim
theorem LnSt.step {w' : World} {j j' : Nat} (h : LnSt w0 w F lo bt rb ob xb l en j x s) (e : LnEnv w0 F lo bt rb ob xb) (k : Keep (· = rb) w w') (hr : RdAt w' lo bt rb l en j') : LnSt w0 w' F lo bt rb ob xb l en j' x s := by
  obtain ⟨⟨z, h1, h1'⟩, h2, h3, h4, h5⟩ := h
  have := e.hlo; have := e.hrb; have := e.hob; have := e.hxb
  exact ⟨⟨z, h1.keep k (by omega), h1'⟩, h2.keep k (by omega), h3.keep k fun q g g' => by have := (e.hF q g).1; omega, hr, h5.trans k⟩
/-- The line's cell is written. -/
theorem LnSt.put {w' : World} {j : Nat} {x' : Rw} {s' : Sl3} (h : LnSt w0 w F lo bt rb ob xb l en j x s) (e : LnEnv w0 F lo bt rb ob xb) (hb : IsB w' xb (rwEnc (x', s'))) (k : Keep (· = xb) w w') (hc : ClsAt w F s' x'.clauses) : LnSt w0 w' F lo bt rb ob xb l en j x' s' := by
  obtain ⟨⟨z, h1, h1'⟩, h2, h3, h4, h5⟩ := h
  have := e.hlo; have := e.hrb; have := e.hob; have := e.hxb
  exact ⟨⟨z, h1.keep k (by omega), h1'⟩, hb, hc.keep k fun q g g' => (e.hF q g).2.2 g', h4.keep k fun q g => by omega, h5.trans_new k fun q hq g => by omega⟩
theorem LnSt.put1 {K : PT} {j : Nat} {x' : Rw} {q : Nat} {v : Value} (h : LnSt w0 w F lo bt rb ob xb l en j x s) (e : LnEnv w0 F lo bt rb ob xb) (hq : q < 8) (hv : v.oneCell' = true) (he : (rwEnc (x, s)).set q v = rwEnc (x', s)) (hc : x'.clauses = x.clauses) (hk : ∀ w', LnSt w0 w' F lo bt rb ob xb l en j x' s → K w') : st1 ⟨xb, q, none⟩ v K w :=
  st1_B h.cell (by simp [rwEnc]; omega) hv fun w' b' k' => hk w' (h.put e (by rw [← he]; exact b') k' (by rw [hc]; exact h.cls))

/-- What is asked behind a line. -/
def LnQ (Q : List Value → PT) (w0 : World) (F : Nat → Prop) (lo bt rb : Nat) (l : List Tk) (en : Int) (x : Rw) (j : Nat) : Prop := ∀ (s : Sl3) w', Keep (· = rb) w0 w' → RdAt w' lo bt rb l en j → ClsAt w' F s x.clauses → Q (rwEnc (x, s)) w'
theorem ln_fin {Q : List Value → PT} {j : Nat} (h : LnSt w0 w F lo bt rb ob xb l en j x s) (e : LnEnv w0 F lo bt rb ob xb) (hq : LnQ Q w0 F lo bt rb l en x j) : ldN 8 ⟨xb, 0, none⟩ (fun v => stN 8 ⟨ob, 0, none⟩ v (ldN 8 ⟨ob, 0, none⟩ fun u => Q u)) w := by
  obtain ⟨⟨z, h1, h1'⟩, h2, h3, h4, h5⟩ := h
  have := e.hlo; have := e.hrb; have := e.hob; have := e.hxb
  refine ldN_B h2 (vs := rwEnc (x, s)) rfl rfl ?_
  refine stN_B h1 (by omega) rfl (rwEnc_one _) fun w1 b1 k1 => ?_
  replace b1 : IsB w1 ob (rwEnc (x, s)) := by
    have : lay z 0 (rwEnc (x, s)) = rwEnc (x, s) := by
      unfold lay
      rw [List.take_zero, List.drop_eq_nil_of_le (by rw [rwEnc_len]; omega)]
      simp
    rwa [this] at b1
  refine ldN_B b1 (vs := rwEnc (x, s)) rfl rfl ?_
  exact hq s w1 (h5.trans_new k1 fun q hq g => by omega) (h4.keep k1 fun q g => by omega) (h3.keep k1 fun q g g' => (e.hF q g).2.1 g')
/-- A token is looked at: it is laid into a cell. -/
theorem ln_peek {K : Addr → PT} {j : Nat} (h : LnSt w0 w F lo bt rb ob xb l en j x s) (e : LnEnv w0 F lo bt rb ob xb) (hk : ∀ w' b, IsB w' b (peekS l en j).enc → LnSt w0 w' F lo bt rb ob xb l en j x s → K ⟨b, 0, none⟩ w') :
    parse_reader_peek.F Z (fun v => newC 79 [.int .i64 0, .int .i64 0, .string ⟨#[]⟩, .int .i64 0] fun a => stN 4 a v (K a)) (some ⟨rb, 0, none⟩) w := by
  refine peek_F h.rd fun w1 r1 k1 => ?_
  refine newC_B fun w2 b2 k2 s2 => ?_
  refine stN_B b2 (by simp) rfl (Tk.enc_one _) fun w3 b3 k3 => ?_
  replace b3 : IsB w3 w1.heap.size (peekS l en j).enc := by simpa [lay, Tk.enc] using b3
  have h2 := (h.ext e k1).ext e k2
  have l1 := (h.ext e k1).cell.lt
  have hs1 := (h.ext e k1).cls
  have sz := h.kept.size
  have sz1 := k1.size
  obtain ⟨z, o1, o2⟩ := (h.ext e k1).out
  have lo1 := o1.lt
  -- the new cell is none of F's that matter: the clauses are kept by their own places
  obtain ⟨⟨z', g1, g1'⟩, g2, g3, g4, g5⟩ := h2
  refine hk w3 _ b3 ⟨⟨z', g1.keep k3 (by omega), g1'⟩, g2.keep k3 (by omega), ?_, g4.keep k3 fun q g => by have := e.hlo; omega, g5.trans_new k3 fun q hq g => by omega⟩
  have g3' : ClsAt w2 (fun k => F k ∧ k < w1.heap.size) s x.clauses := ((hs1.mono (G := fun k => F k ∧ k < w1.heap.size) fun k hk hf => ⟨hf, hk⟩).keep k2 fun _ _ g => g)
  exact (g3'.keep k3 fun q hq g => by have := hq.2; omega).mono fun k _ hf => hf.1

theorem ln_tail {Q : List Value → PT} {j : Nat} (h : LnSt w0 w F lo bt rb ob xb l en j x s) (e : LnEnv w0 F lo bt rb ob xb)
    (hz : ∀ e' p w', tailS l en x j = .no e' p → Keep (· = rb) w0 w' → Z (faultV e' p) w') (hq : ∀ y k, tailS l en x j = .ok y k → LnQ Q w0 F lo bt rb l en y k) : parse_reader_line.s15 Z Q (some ⟨rb, 0, none⟩) ⟨ob, 0, none⟩ ⟨xb, 0, none⟩ w := by
  unfold parse_reader_line.s15
  refine parse_reader_peek.cal (ln_peek h e fun w1 b h1 st1 => ?_)
  simp only [add_mk, Nat.zero_add]
  unfold tailS at hz hq
  refine ldI_B h1 rfl ?_
  rw [pif_bne]
  split
  · rename_i h7
    rw [if_neg (by intro g; exact g.1 h7)] at hq
    exact ln_fin st1 e (hq x j rfl)
  · rename_i h7
    refine ldI_B h1 rfl ?_
    rw [pif_bne]
    split
    · rename_i h0
      rw [if_neg (by intro g; exact g.2 h0)] at hq
      exact ln_fin st1 e (hq x j rfl)
    · rename_i h0
      rw [if_pos ⟨h7, h0⟩] at hz
      refine parse_reader_fail.cal (fail_F st1.rd fun w2 k2 => ?_)
      exact hz _ _ w2 rfl (st1.kept.trans k2.ext)
theorem ln_act {Q : List Value → PT} {j : Nat} (h : LnSt w0 w F lo bt rb ob xb l en j x s) (e : LnEnv w0 F lo bt rb ob xb) (hj : j ≤ l.length)
    (hz : ∀ e' p w', actS l en x j = .no e' p → Keep (· = rb) w0 w' → Z (faultV e' p) w') (hq : ∀ y k, actS l en x j = .ok y k → LnQ Q w0 F lo bt rb l en y k) : parse_reader_line.s36 Z Q (some ⟨rb, 0, none⟩) ⟨ob, 0, none⟩ ⟨xb, 0, none⟩ w := by
  unfold parse_reader_line.s36
  refine parse_reader_want.cal (want_F h.rd hj fun w1 k1 => ?_)
  unfold actS at hz hq
  cases hw : wantS l en 6 j with
  | no e' p => rw [hw] at hz; exact hz e' p w1 rfl (h.kept.trans k1)
  | ok t j1 =>
    rw [hw] at hz hq
    simp only at hz hq
    intro r1
    have h1 := h.step e k1 r1
    obtain ⟨hj1, ht1, hkd⟩ := wantS_at hw
    have hin := peekS_in (l := l) (en := en) (i := j) (by omega)
    unfold parse_reader_line.s33
    refine parse_reader_peek.cal (ln_peek h1 e fun w2 b b2 h2 => ?_)
    unfold parse_reader_line.s30
    simp only [add_mk, Nat.zero_add]
    generalize ht : peekS l en j1 = t2 at hz hq b2
    -- no drop
    have other : ¬ (t2.kind = 1 ∧ same t2.text wDrop = true) → parse_reader_line.s26 Z Q (some ⟨rb, 0, none⟩) ⟨ob, 0, none⟩ ⟨xb, 0, none⟩ ⟨b, 0, none⟩ false w2 := fun hn => by
      rw [if_neg hn] at hz hq
      unfold parse_reader_line.s26
      rw [pif_false]
      simp only [add_mk, Nat.zero_add]
      refine ldI_B b2 rfl ?_
      have bad : ¬ (t2.kind = 1 ∧ same t2.text wPort = true) → cal Tryd.prog Z 38 [.pointer (some ⟨rb, 0, none⟩), .int .i64 8] (isU (parse_reader_line.s15 Z Q (some ⟨rb, 0, none⟩) ⟨ob, 0, none⟩ ⟨xb, 0, none⟩)) w2 := fun hp => by
        rw [if_neg hp] at hz
        refine parse_reader_fail.cal (fail_F h2.rd fun w3 k3 => ?_)
        rw [ht]
        exact hz _ _ w3 rfl (h2.kept.trans k3.ext)
      rw [pif_beq]
      split
      · rename_i hk1
        refine ldS_of (b2.cell 2) ?_
        show pif (same t2.text wPort) _ _ w2
        rw [pif_bool]
        split
        · rename_i hp
          rw [if_pos ⟨hk1, hp⟩] at hz hq
          have hin1 := peekS_in (l := l) (en := en) (i := j1) (by rw [ht]; omega)
          simp only [nn_some, add_mk, Nat.zero_add]
          refine ldRd h2.rd ?_
          refine stRd (n := j1 + 1) h2.rd (wrap_nat1 (by have := h2.rd.short; omega)) (by omega) fun w3 r3 k3 => ?_
          have h3 := h2.step e k3 r3
          refine parse_reader_figure.cal (fig_F h3.rd (by omega) fun w4 k4 => ?_)
          cases hf : figS l en (j1 + 1) with
          | no e' p => rw [hf] at hz; exact hz e' p w4 rfl (h3.kept.trans k4)
          | ok f j2 =>
            rw [hf] at hz hq
            simp only at hz hq
            intro r4
            have h4 := h3.step e k4 r4
            refine stN_B h4.cell (by simp [rwEnc]) rfl (Fg.enc_one f) fun w5 b5 k5 => ?_
            have h5 : LnSt w0 w5 F lo bt rb ob xb l en j2 { x with port := f } s := h4.put e (by simpa [lay, rwEnc, Fg.enc] using b5) k5 h4.cls
            exact ln_tail h5 e hz hq
        · rename_i hp
          exact bad (fun g => hp g.2)
      · rename_i hk1
        exact bad (fun g => hk1 g.1)
    refine ldI_B b2 rfl ?_
    rw [pif_beq]
    split
    · rename_i hk1
      refine ldS_of (b2.cell 2) ?_
      show parse_reader_line.s26 Z Q _ _ _ _ (same t2.text wDrop) w2
      cases hd : same t2.text wDrop with
      | false => exact other (fun g => by rw [hd] at g; exact absurd g.2 (by decide))
      | true =>
        rw [if_pos ⟨hk1, hd⟩] at hz hq
        have hin1 := peekS_in (l := l) (en := en) (i := j1) (by rw [ht]; omega)
        unfold parse_reader_line.s26
        rw [pif_true]
        simp only [add_mk, Nat.zero_add]
        refine h2.put1 (x' := { x with drop := true }) e (by decide) rfl rfl rfl fun w3 h3 => ?_
        simp only [nn_some, add_mk, Nat.zero_add]
        refine ldRd h3.rd ?_
        refine stRd (n := j1 + 1) h3.rd (wrap_nat1 (by have := h3.rd.short; omega)) (by omega) fun w4 r4 k4 => ?_
        exact ln_tail (h3.step e k4 r4) e hz hq
    · rename_i hk1
      exact other (fun g => hk1 g.1)
end
end Go.Proofs.YtllgjjldnnmjkaaDoor
end
section
set_option maxRecDepth 100000
namespace Go.Proofs.YtllgjjldnnmjkaaDoor
open Go.RowKit

section
variable {Z : List PanicEntry → PT} {w0 w : World} {lo bt rb ob xb mb : Nat} {l : List Tk} {en : Int} {F : Nat → Prop}
def words1 (cs : List Cl) : List (ByteArray × Int) := cs.map fun c => (c.word, 1)
theorem words1_fst (cs : List Cl) : (words1 cs).map Prod.fst = cs.map Cl.word := by simp [words1]
theorem ln_loop {Q : List Value → PT} (e : LnEnv w0 F lo bt rb ob xb) (hmF : ∀ k, F k → k ≠ mb) (hmb : lo ≤ mb) (hFn : ∀ k, xb < k → k ≠ mb → F k) (hmx : xb ≠ mb ∧ ob ≠ mb ∧ w0.heap.size ≤ mb) :
    ∀ (m j : Nat) (x : Rw) (s : Sl3) (w : World), l.length ≤ j + m → LnSt w0 w F lo bt rb ob xb l en j x s → MapB w mb (words1 x.clauses) → j ≤ l.length → x.clauses.length ≤ j →
    (∀ e' p w', (match clausesS l en m j x.clauses with
      | .no e p => (.no e p : Res Rw)
      | .ok cs k => actS l en { x with clauses := cs } k) = .no e' p → Keep (· = rb) w0 w' → Z (faultV e' p) w') →
    (∀ y k, (match clausesS l en m j x.clauses with
      | .no e p => (.no e p : Res Rw)
      | .ok cs k => actS l en { x with clauses := cs } k) = .ok y k → LnQ Q w0 F lo bt rb l en y k) →
    parse_reader_line.l55 Z Q (m + 1) (some ⟨rb, 0, none⟩) ⟨ob, 0, none⟩ ⟨xb, 0, none⟩ (some mb) w
  | m, j, x, s, w, hlen, h, hm, hj, hcl, hz, hq => by
    have := e.hlo; have := e.hrb; have := e.hob; have := e.hxb
    unfold parse_reader_line.l55 parse_reader_line.s57
    refine parse_reader_peek.cal (peek_F h.rd fun w1 r1 k1 => ?_)
    have h1 := h.ext e k1
    have m1 := hm.ext k1
    refine ptI_of (n := (peekS l en j).kind) rfl ?_
    rw [pif_beq]
    split
    · rename_i hk
      have hin := peekS_in (l := l) (en := en) (i := j) (by omega)
      cases m with
      | zero => omega
      | succ m =>
        unfold clausesS at hz hq
        rw [if_pos hk] at hz hq
        refine drawn_of (fun w' => IsB w' xb (rwEnc (x, s))) h1.cell.drew ?_
        have h1 := h1.ext e Keep.refl.drew
        have m1 : MapB w1.drew mb _ := m1.ext Keep.refl.drew
        generalize w1.drew = w1' at h1 m1 ⊢
        rw [add_mk]
        refine hL_of (fun w' hw' => hw'.cell 4) ?_
        refine parse_reader_clause.cal (clause_F h1.rd hj m1 hmb (by simp [words1]) (fun e' p w2 hc k2 => ?_) fun c j2 hc => ?_)
        · rw [words1_fst] at hc
          rw [hc] at hz
          refine hz e' p w2 rfl (h1.kept.trans_new k2 fun q hq' g => ?_)
          rcases g with g | g
          · exact g
          · omega
        · rw [words1_fst] at hc
          rw [hc] at hz hq
          simp only at hz hq
          obtain ⟨c1, c2, c3⟩ := clauseS_at hc
          intro sc w2 k2 r2 m2 n2 i2
          have kk2 : Keep (· = rb) w0 w2 := h1.kept.trans_new k2 fun q hq' g => by
            rcases g with g | g
            · exact g
            · omega
          obtain ⟨⟨z, g1, g1'⟩, g2, g3, g4, g5⟩ := h1
          have lt1 := g1.lt; have lt2 := g2.lt; have ltm := m1.lt
          have h2 : LnSt w0 w2 F lo bt rb ob xb l en j2 x s := ⟨⟨z, g1.keep k2 (by omega), g1'⟩, g2.keep k2 (by omega), g3.keep k2 (fun q hf g => by
            have := e.hF q hf
            rcases g with g | g
            · omega
            · exact hmF q hf g), r2, kk2⟩
          refine sAnd_of h2.cell (cnd_of (clEnc_len _) ?_)
          refine newC_B fun w3 b3 k3 s3 => ?_
          rw [List.append_nil] at b3
          have h3 := h2.ext e k3
          refine sAnd_of h3.cell ?_
          have sz2 := k2.size
          have hnew : ∀ k, w2.heap.size ≤ k → F k := fun k hk => hFn k (by omega) (by have := m2.lt; omega)
          have sz3 := k3.size
          have nc : NumsAt w3 (fun k => F k ∧ ¬ inB s.a k) sc c.nums := ⟨n2.ext k3, fun k hk => ⟨hFn k (by have := i2 k hk; omega) (by have := i2 k hk; omega), fun g => by
            obtain ⟨ps, p1, p2, p3, p4⟩ := g3
            have := p2.lt g
            have := i2 k hk
            omega⟩⟩
          refine app_cls h3.cls nc (fun k hk => hnew k (by omega)) (by have := h.rd.short; omega) (fun q u hu => by rw [add_mk, Nat.zero_add, b3.cell]; exact hu) fun s' w4 l4 k4 i4 => ?_
          obtain ⟨ps, p1, p2, p3, p4⟩ := h3.cls
          have nF : ∀ q, inB s.a q → F q := p3
          have b4 := h3.cell.keep k4 fun g => (e.hF _ (nF _ g)).2.2 rfl
          refine sAnd_of b4 ?_
          have kk4 : Keep (· = rb) w0 w4 := h3.kept.trans_new k4 fun q hq' g => by have := (e.hF _ (nF _ g)).1; omega
          have r4 : RdAt w4 lo bt rb l en j2 := h3.rd.keep k4 fun q g => by have := (e.hF _ (nF _ g)).1; omega
          have m4 : MapB w4 mb (words1 (x.clauses ++ [c])) := by
            have : words1 (x.clauses ++ [c]) = words1 x.clauses ++ [(c.word, 1)] := by simp [words1]
            rw [this]
            exact (m2.ext k3).keep k4 fun g => hmF _ (nF _ g) rfl
          obtain ⟨z3, o3, o3'⟩ := h3.out
          have o4 := o3.keep k4 fun g => (e.hF _ (nF _ g)).2.1 rfl
          refine st1_B b4 (by simp [rwEnc]) rfl fun w5 b5 k5 => ?_
          have h5 : LnSt w0 w5 F lo bt rb ob xb l en j2 { x with clauses := x.clauses ++ [c] } s' :=
            ⟨⟨z3, o4.keep k5 (by omega), o3'⟩, b5, l4.keep k5 fun q g g' => (e.hF q g).2.2 g', r4.keep k5 fun q g => by omega, kk4.trans_new k5 fun q hq' g => by omega⟩
          exact ln_loop e hmF hmb hFn hmx m j2 _ s' w5 (by omega) h5 (m4.keep k5 (by omega)) c2 (by simp; omega) hz hq
    · rename_i hk
      have hcs : clausesS l en m j x.clauses = .ok x.clauses j := by
        cases m with
        | zero => rfl
        | succ m => unfold clausesS; rw [if_neg hk]
      rw [hcs] at hz hq
      exact ln_act h1 e hj hz hq

theorem line_F {Q : List Value → PT} {i : Nat} (h : RdAt w lo bt rb l en i) (hi : i ≤ l.length)
    (hz : ∀ e p w', lineS l en i = .no e p → Keep (· = rb) w w' → Z (faultV e p) w')
    (hq : ∀ x j, lineS l en i = .ok x j → LnQ Q w (fun k => w.heap.size ≤ k) lo bt rb l en x j) : parse_reader_line.F Z Q (some ⟨rb, 0, none⟩) w := by
  have hlo := h.lo_le
  have hrb := h.lt
  unfold parse_reader_line.F parse_reader_line.s71
  refine newC_B fun w1 b1 k1 s1 => ?_
  refine parse_reader_peek.cal (peek_F (h.ext k1) fun w2 h2 k2 => ?_)
  refine newC_B fun w3 b3 k3 s3 => ?_
  refine stN_B b3 (by simp) rfl (Tk.enc_one _) fun w4 b4 k4 => ?_
  have z1 := b1.lt; have z2 := k2.size; have z3 := k3.size; have z4 := k4.size
  unfold lineS at hz hq
  simp only at hz hq
  generalize ht : peekS l en i = t at hz hq b4
  replace b4 : IsB w4 w2.heap.size t.enc := by simpa [lay, Tk.enc] using b4
  simp only [add_mk, Nat.zero_add]
  refine ldI_B b4 rfl ?_
  refine newC_B fun w5 b5 k5 s5 => ?_
  refine stN_B b5 (by simp) rfl (by simp [Value.oneCell']) fun w6 b6 k6 => ?_
  have z5 := k5.size
  have z6 := k6.size
  replace b6 : IsB w6 w4.heap.size (rwEnc (rw0 t.pos, ⟨none, 0, 0⟩)) := by simpa [lay, rwEnc, rw0] using b6
  have e4 : Ext w w4 := ((k1.trans k2).trans k3).trans_new k4 fun q hq' g => by omega
  have e6 : Ext w w6 := (e4.trans k5).trans_new k6 fun q hq' g => by omega
  have e : LnEnv w (fun k => w.heap.size ≤ k ∧ k ≠ w.heap.size ∧ k ≠ w4.heap.size) lo bt rb w.heap.size w4.heap.size := ⟨hrb, hlo, Nat.le_refl _, by omega, fun k hk => hk⟩
  have st : LnSt w w6 (fun k => w.heap.size ≤ k ∧ k ≠ w.heap.size ∧ k ≠ w4.heap.size) lo bt rb w.heap.size w4.heap.size l en i (rw0 t.pos) ⟨none, 0, 0⟩ :=
    ⟨⟨_, ((((b1.ext k2).ext k3).keep k4 (by omega)).ext k5).keep k6 (by omega), rfl⟩, b6, ClsAt.nil, ((((h2.ext k3).keep k4 fun q g => by omega).ext k5).keep k6 fun q g => by omega), e6.ext⟩
  have btk : IsB w6 w2.heap.size t.enc := (b4.ext k5).keep k6 (by omega)
  have hxlt := st.cell.lt
  have hob : w.heap.size < w4.heap.size := by omega
  clear b1 b3 b4 b5 b6 k1 k2 k3 k4 k5 k6 s1 s3 s5 h2 e4 e6 z1 z2 z3 z4 z5 z6
  generalize w4.heap.size = xb at *
  generalize w2.heap.size = tb at *
  have mono : ∀ {G : Nat → Prop} {x : Rw} {j : Nat}, (∀ k, G k → w.heap.size ≤ k) → LnQ Q w (fun k => w.heap.size ≤ k) lo bt rb l en x j → LnQ Q w G lo bt rb l en x j := fun hg hh s w' a1 a2 a3 => hh s w' a1 a2 (a3.mono fun k _ g => hg k g)
  -- no default
  have other : ¬ (t.kind = 1 ∧ same t.text wDefault = true) → parse_reader_line.s65 Z Q (some ⟨rb, 0, none⟩) ⟨w.heap.size, 0, none⟩ ⟨xb, 0, none⟩ w6 := fun hn => by
    rw [if_neg hn] at hz hq
    unfold parse_reader_line.s65
    refine parse_reader_figure.cal (fig_F st.rd hi fun w7 k7 => ?_)
    cases hf : figS l en i with
    | no e' p => rw [hf] at hz; exact hz e' p w7 rfl (st.kept.trans k7)
    | ok f j =>
      rw [hf] at hz hq
      simp only at hz hq
      intro r7
      obtain ⟨f1, f2⟩ := figS_at hf
      have h7 := st.step e k7 r7
      rw [add_mk, Nat.zero_add]
      refine stN_B h7.cell (by simp [rwEnc]) rfl (Fg.enc_one f) fun w8 b8 k8 => ?_
      have h8 : LnSt w w8 _ lo bt rb w.heap.size xb l en j { rw0 t.pos with prio := f } ⟨none, 0, 0⟩ := h7.put e (by simpa [lay, rwEnc, Fg.enc] using b8) k8 h7.cls
      refine mkmap_B fun w9 m9 k9 s9 => ?_
      have h9 := h8.ext e k9
      have lt8 := h8.cell.lt
      have sz8 := h8.kept.size
      obtain ⟨g1, g2, g3, g4, g5⟩ := h9
      refine exK_of (l.length - j + 1) (ln_loop (F := fun k => (w.heap.size ≤ k ∧ k ≠ w.heap.size ∧ k ≠ xb) ∧ k ≠ w8.heap.size) (mb := w8.heap.size) ⟨e.hrb, e.hlo, e.hob, e.hxb, fun k hk => hk.1⟩ (fun k hk => hk.2) (by omega) (fun k hk hk2 => ⟨⟨by omega, by omega, by omega⟩, hk2⟩) ⟨by omega, by omega, by omega⟩ (l.length - j) j { rw0 t.pos with prio := f } ⟨none, 0, 0⟩ w9 (by omega) ⟨g1, g2, ClsAt.nil, g4, g5⟩ m9 (by omega) (by simp [rw0]) (fun e' p w' hh hk => ?_) fun y k hh => ?_)
      · exact hz e' p w' hh hk
      · exact mono (fun k hk => hk.1.1) (hq y k hh)
  unfold parse_reader_line.s68
  simp only [add_mk, Nat.zero_add]
  refine ldI_B btk rfl ?_
  rw [pif_beq]
  split
  · rename_i hk1
    refine ldS_of (btk.cell 2) ?_
    show pif (same t.text wDefault) _ _ w6
    rw [pif_bool]
    split
    · rename_i hd
      rw [if_pos ⟨hk1, hd⟩] at hz hq
      have hin := peekS_in (l := l) (en := en) (i := i) (by rw [ht]; omega)
      unfold parse_reader_line.s44
      simp only [add_mk, Nat.zero_add]
      refine st.put1 (x' := { rw0 t.pos with default := true }) e (by decide) rfl rfl rfl fun w7 h7 => ?_
      simp only [nn_some, add_mk, Nat.zero_add]
      refine ldRd h7.rd ?_
      refine stRd (n := i + 1) h7.rd (wrap_nat1 (by have := h.short; omega)) (by omega) fun w8 r8 k8 => ?_
      exact ln_act (h7.step e k8 r8) e (by omega) hz fun y k hh => mono (fun k hk => hk.1) (hq y k hh)
    · rename_i hd
      exact other (fun g => hd g.2)
  · rename_i hk1
    exact other (fun g => hk1 g.1)
end
end Go.Proofs.YtllgjjldnnmjkaaDoor
end
