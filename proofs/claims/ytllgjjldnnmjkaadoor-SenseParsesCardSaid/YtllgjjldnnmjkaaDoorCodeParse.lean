/-
  The reading of the code of 7 functions, printed by gen.py off the translation; no condition.
-/
import Derived.Test.YtllgjjldnnmjkaaDoorWlFacts
namespace Go.Proofs.YtllgjjldnnmjkaaDoor
open Go.RowKit
set_option linter.unusedVariables false
set_option maxRecDepth 100000

/-! ### (*milepost/parse.reader).fail: function 38 -/
noncomputable def parse_reader_fail.body : Code := bodyC Tryd.f38
def parse_reader_fail.F (Z : List PanicEntry → PT) (Q : PT) (r_0 : Option Addr) (e_1 : Int) : PT :=
  (cal Tryd.prog Z 59 [(Value.pointer r_0)] (isN fun v1 => (ptI .i64 v1 1 fun v2 => (Z [{ v := (Value.iface 73 (Value.agg ⟨[(Value.int .i64 e_1), (Value.int .i64 v2)]⟩)), recovered := false }]))))
def parse_reader_fail.q1 (Z : List PanicEntry → PT) (Q : PT) : QF := bodyQ Tryd.prog [] (fun v => atU v Q)
theorem parse_reader_fail.eq (Z : List PanicEntry → PT) (Q : PT) (r_0 : Option Addr) (e_1 : Int) : comp Tryd.prog Z parse_reader_fail.body (parse_reader_fail.q1 Z Q) (fr0 [(Value.pointer r_0), (Value.int .i64 e_1)]) = parse_reader_fail.F Z Q r_0 e_1 := by kernel_rfl
theorem parse_reader_fail.vc (Z : List PanicEntry → PT) (Q : PT) (r_0 : Option Addr) (e_1 : Int) (w : World) (h : parse_reader_fail.F Z Q r_0 e_1 w) : Calls Tryd.prog 38 ⟨[(Value.pointer r_0), (Value.int .i64 e_1)]⟩ w fun e w' => (e = .returned (.tuple #[]) ∧ Q w') ∨ ∃ c, e = .panicked c ∧ Z c w' := by
  refine (calls_of_ok (args := [(Value.pointer r_0), (Value.int .i64 e_1)]) (w := w) (rs := []) (fn := Tryd.f38) (c := parse_reader_fail.body) Tryd.func38 (by kernel_rfl) (by kernel_rfl) (Nat.le_of_ble_eq_true (by kernel_rfl)) (okC parse_reader_fail.body (parse_reader_fail.q1 Z Q) (by kernel_rfl)) (by rw [parse_reader_fail.eq]; exact h)).mono fun e w' hR => ?_
  cases e with
  | returned v =>
    obtain ⟨rfl, h⟩ := atU_e hR
    exact .inl ⟨rfl, h⟩
  | panicked c => exact .inr ⟨c, rfl, hR⟩
  | outgrown => exact hR.elim
theorem parse_reader_fail.vc0 (Q : PT) (r_0 : Option Addr) (e_1 : Int) (w : World) (h : parse_reader_fail.F Z0 Q r_0 e_1 w) : Calls Tryd.prog 38 ⟨[(Value.pointer r_0), (Value.int .i64 e_1)]⟩ w fun e w' => (e = .returned (.tuple #[]) ∧ Q w') :=
  (parse_reader_fail.vc Z0 Q r_0 e_1 w h).mono fun _ _ hR => hR.elim id fun ⟨_, _, hz⟩ => hz.elim
theorem parse_reader_fail.cal {Z : List PanicEntry → PT} {Q : PT} {r_0 : Option Addr} {e_1 : Int} {w : World} (h : parse_reader_fail.F Z Q r_0 e_1 w) : Go.Proofs.YtllgjjldnnmjkaaDoor.cal Tryd.prog Z 38 [(Value.pointer r_0), (Value.int .i64 e_1)] (isU Q) w := by
  refine (parse_reader_fail.vc Z Q r_0 e_1 w h).mono fun e w' hR => ?_
  rcases hR with ⟨rfl, h⟩ | ⟨c, rfl, h⟩
  · show (isU Q) (.tuple #[]) w'
    exact ⟨rfl, h⟩
  · exact h

/-! ### (*milepost/parse.reader).peek: function 59 -/
noncomputable def parse_reader_peek.body : Code := bodyC Tryd.f59
def parse_reader_peek.F (Z : List PanicEntry → PT) (Q : List Value → PT) (r_0 : Option Addr) : PT :=
  (newC 79 [(Value.int .i64 0), (Value.int .i64 0), (Value.string ⟨#[]⟩), (Value.int .i64 0)] fun v18 => (drew0 (nn r_0 fun v19 => (ldI .i64 (v19.add 1) fun v20 => (nn r_0 fun v21 => (ldL (v21.add 0) fun v22 v22n v22c => (pif (decide (v20 < ((v22n : Nat) : Int))) (drawn fun S23 => (nn r_0 fun v24 => (hL S23 (v24.add 0) fun v25 v25n v25c => (nn r_0 fun v26 => (hI S23 .i64 (v26.add 1) fun v27 => (ixS v25 v25n v27 4 fun v28 => (hN S23 4 v28 fun v29 => (stN 4 v18 v29 (ldN 4 v18 fun v30 => (Q v30)))))))))) (nn r_0 fun v31 => (ldI .i64 (v31.add 2) fun v32 => (stN 4 v18 [(Value.int .i64 0), (Value.int .i64 v32), (Value.string ⟨#[]⟩), (Value.int .i64 0)] (ldN 4 v18 fun v33 => (Q v33))))))))))))
def parse_reader_peek.q1 (Z : List PanicEntry → PT) (Q : List Value → PT) : QF := bodyQ Tryd.prog [.cell 2 79] (fun v => atN v fun va => Q va)
theorem parse_reader_peek.eq (Z : List PanicEntry → PT) (Q : List Value → PT) (r_0 : Option Addr) : comp Tryd.prog Z parse_reader_peek.body (parse_reader_peek.q1 Z Q) (fr0 [(Value.pointer r_0)]) = parse_reader_peek.F Z Q r_0 := by kernel_rfl
theorem parse_reader_peek.vc (Z : List PanicEntry → PT) (Q : List Value → PT) (r_0 : Option Addr) (w : World) (h : parse_reader_peek.F Z Q r_0 w) : Calls Tryd.prog 59 ⟨[(Value.pointer r_0)]⟩ w fun e w' => (∃ (r0 : List Value), e = .returned (.agg ⟨r0⟩) ∧ Q r0 w') ∨ ∃ c, e = .panicked c ∧ Z c w' := by
  refine (calls_of_ok (args := [(Value.pointer r_0)]) (w := w) (rs := [.cell 2 79]) (fn := Tryd.f59) (c := parse_reader_peek.body) Tryd.func59 (by kernel_rfl) (by kernel_rfl) (Nat.le_of_ble_eq_true (by kernel_rfl)) (okC parse_reader_peek.body (parse_reader_peek.q1 Z Q) (by kernel_rfl)) (by rw [parse_reader_peek.eq]; exact h)).mono fun e w' hR => ?_
  cases e with
  | returned v =>
    obtain ⟨va, rfl, hR⟩ := atN_e hR
    exact .inl ⟨va, rfl, hR⟩
  | panicked c => exact .inr ⟨c, rfl, hR⟩
  | outgrown => exact hR.elim
theorem parse_reader_peek.vc0 (Q : List Value → PT) (r_0 : Option Addr) (w : World) (h : parse_reader_peek.F Z0 Q r_0 w) : Calls Tryd.prog 59 ⟨[(Value.pointer r_0)]⟩ w fun e w' => (∃ (r0 : List Value), e = .returned (.agg ⟨r0⟩) ∧ Q r0 w') :=
  (parse_reader_peek.vc Z0 Q r_0 w h).mono fun _ _ hR => hR.elim id fun ⟨_, _, hz⟩ => hz.elim
theorem parse_reader_peek.cal {Z : List PanicEntry → PT} {Q : List Value → PT} {r_0 : Option Addr} {w : World} (h : parse_reader_peek.F Z Q r_0 w) : Go.Proofs.YtllgjjldnnmjkaaDoor.cal Tryd.prog Z 59 [(Value.pointer r_0)] (isN fun r0 => Q r0) w := by
  refine (parse_reader_peek.vc Z Q r_0 w h).mono fun e w' hR => ?_
  rcases hR with ⟨r0, rfl, h⟩ | ⟨c, rfl, h⟩
  · show (isN fun r0 => Q r0) (.agg ⟨r0⟩) w'
    exact ⟨_, rfl, h⟩
  · exact h

/-! ### (*milepost/parse.reader).want: function 62 -/
noncomputable def parse_reader_want.body : Code := bodyC Tryd.f62
noncomputable def parse_reader_want.c1 : Code := sq1 parse_reader_want.body
noncomputable def parse_reader_want.c2 : Code := sq1 (sq2 parse_reader_want.body)
noncomputable def parse_reader_want.c3 : Code := sq1 (sq2 (sq2 parse_reader_want.body))
noncomputable def parse_reader_want.c4 : Code := sq2 (sq2 (sq2 parse_reader_want.body))
theorem parse_reader_want.q5 : parse_reader_want.body = .seq parse_reader_want.c1 (.seq parse_reader_want.c2 (.seq parse_reader_want.c3 parse_reader_want.c4)) := by kernel_rfl
def parse_reader_want.s6 (Z : List PanicEntry → PT) (Q : List Value → PT) (r_0 : Option Addr) (t_4 : Addr) (t_5 : Addr) : PT :=
  (nn r_0 fun v31 => (ldI .i64 (v31.add 1) fun v32 => (nn r_0 fun v33 => (st1 (v33.add 1) (Value.int .i64 (IntKind.wrap .i64 (v32 + 1))) (ldN 4 t_5 fun v34 => (stN 4 t_4 v34 (ldN 4 t_4 fun v35 => (Q v35))))))))
def parse_reader_want.q7 (Z : List PanicEntry → PT) (Q : List Value → PT) : QF := bodyQ Tryd.prog [.cell 4 79] (fun v => atN v fun va => Q va)
theorem parse_reader_want.s6_eq (Z : List PanicEntry → PT) (Q : List Value → PT) (ρ : Fr) (r_0 : Option Addr) (t_4 : Addr) (t_5 : Addr) : comp Tryd.prog Z parse_reader_want.c4 (parse_reader_want.q7 Z Q) (puts ρ [(0, (Value.pointer r_0)), (4, (Value.pointer (some t_4))), (5, (Value.pointer (some t_5)))]) = parse_reader_want.s6 Z Q r_0 t_4 t_5 := by kernel_rfl
def parse_reader_want.j8 (Z : List PanicEntry → PT) (Q : List Value → PT) : Fr → PT := (fun ρ => atP (ρ 0) fun r_0 => atA (ρ 4) fun t_4 => atA (ρ 5) fun t_5 => (parse_reader_want.s6 Z Q r_0 t_4 t_5))
theorem parse_reader_want.s6_ok (Z : List PanicEntry → PT) (Q : List Value → PT) : Ok Tryd.prog Tryd.f62.ntmps Z parse_reader_want.c4 (parse_reader_want.q7 Z Q) (parse_reader_want.j8 Z Q) := by
  intro E he ρ w a hr h
  obtain ⟨r_0, e0, h⟩ := atP_e h
  obtain ⟨t_4, e4, h⟩ := atA_e h
  obtain ⟨t_5, e5, h⟩ := atA_e h
  exact ok_at [(0, (Value.pointer r_0)), (4, (Value.pointer (some t_4))), (5, (Value.pointer (some t_5)))] (okC parse_reader_want.c4 (parse_reader_want.q7 Z Q) (by kernel_rfl)) (puts_cons e0 (puts_cons e4 (puts_cons e5 (fun p hp => puts_nil hp)))) (parse_reader_want.s6_eq Z Q ρ r_0 t_4 t_5) he hr h
def parse_reader_want.s9 (Z : List PanicEntry → PT) (Q : List Value → PT) (r_0 : Option Addr) (kind_1 : Int) : PT :=
  (newC 79 [(Value.int .i64 0), (Value.int .i64 0), (Value.string ⟨#[]⟩), (Value.int .i64 0)] fun v36 => (cal Tryd.prog Z 59 [(Value.pointer r_0)] (isN fun v37 => (newC 79 [(Value.int .i64 0), (Value.int .i64 0), (Value.string ⟨#[]⟩), (Value.int .i64 0)] fun t38 => (stN 4 t38 v37 (ldI .i64 (t38.add 0) fun v39 => (pif (v39 != kind_1) (cal Tryd.prog Z 38 [(Value.pointer r_0), (Value.int .i64 8)] (isU (parse_reader_want.s6 Z Q r_0 v36 t38))) (parse_reader_want.s6 Z Q r_0 v36 t38))))))))
theorem parse_reader_want.s9_eq (Z : List PanicEntry → PT) (Q : List Value → PT) (ρ : Fr) (r_0 : Option Addr) (kind_1 : Int) : (comp Tryd.prog Z parse_reader_want.c1 (thenK (comp Tryd.prog Z parse_reader_want.c2 (thenK (comp Tryd.prog Z parse_reader_want.c3 (thenK (parse_reader_want.j8 Z Q) (parse_reader_want.q7 Z Q))) (parse_reader_want.q7 Z Q))) (parse_reader_want.q7 Z Q))) (puts ρ [(0, (Value.pointer r_0)), (1, (Value.int .i64 kind_1))]) = parse_reader_want.s9 Z Q r_0 kind_1 := by kernel_rfl
def parse_reader_want.j10 (Z : List PanicEntry → PT) (Q : List Value → PT) : Fr → PT := (fun ρ => atP (ρ 0) fun r_0 => atI .i64 (ρ 1) fun kind_1 => (parse_reader_want.s9 Z Q r_0 kind_1))
theorem parse_reader_want.s9_ok (Z : List PanicEntry → PT) (Q : List Value → PT) : Ok Tryd.prog Tryd.f62.ntmps Z parse_reader_want.body (parse_reader_want.q7 Z Q) (parse_reader_want.j10 Z Q) := by
  intro E he ρ w a hr h
  rw [parse_reader_want.q5] at he ⊢
  obtain ⟨r_0, e0, h⟩ := atP_e h
  obtain ⟨kind_1, e1, h⟩ := atI_e h
  exact ok_at [(0, (Value.pointer r_0)), (1, (Value.int .i64 kind_1))] (ok_seq (okC parse_reader_want.c1 _ (by kernel_rfl)) (ok_seq (okC parse_reader_want.c2 _ (by kernel_rfl)) (ok_seq (okC parse_reader_want.c3 _ (by kernel_rfl)) (parse_reader_want.s6_ok Z Q)))) (puts_cons e0 (puts_cons e1 (fun p hp => puts_nil hp))) (parse_reader_want.s9_eq Z Q ρ r_0 kind_1) he hr h
def parse_reader_want.F (Z : List PanicEntry → PT) (Q : List Value → PT) (r_0 : Option Addr) (kind_1 : Int) : PT :=
  (parse_reader_want.s9 Z Q r_0 kind_1)
theorem parse_reader_want.vc (Z : List PanicEntry → PT) (Q : List Value → PT) (r_0 : Option Addr) (kind_1 : Int) (w : World) (h : parse_reader_want.F Z Q r_0 kind_1 w) : Calls Tryd.prog 62 ⟨[(Value.pointer r_0), (Value.int .i64 kind_1)]⟩ w fun e w' => (∃ (r0 : List Value), e = .returned (.agg ⟨r0⟩) ∧ Q r0 w') ∨ ∃ c, e = .panicked c ∧ Z c w' := by
  refine (calls_of_ok (args := [(Value.pointer r_0), (Value.int .i64 kind_1)]) (w := w) (rs := [.cell 4 79]) (fn := Tryd.f62) (c := parse_reader_want.body) Tryd.func62 (by kernel_rfl) (by kernel_rfl) (Nat.le_of_ble_eq_true (by kernel_rfl)) (parse_reader_want.s9_ok Z Q) (h)).mono fun e w' hR => ?_
  cases e with
  | returned v =>
    obtain ⟨va, rfl, hR⟩ := atN_e hR
    exact .inl ⟨va, rfl, hR⟩
  | panicked c => exact .inr ⟨c, rfl, hR⟩
  | outgrown => exact hR.elim
theorem parse_reader_want.vc0 (Q : List Value → PT) (r_0 : Option Addr) (kind_1 : Int) (w : World) (h : parse_reader_want.F Z0 Q r_0 kind_1 w) : Calls Tryd.prog 62 ⟨[(Value.pointer r_0), (Value.int .i64 kind_1)]⟩ w fun e w' => (∃ (r0 : List Value), e = .returned (.agg ⟨r0⟩) ∧ Q r0 w') :=
  (parse_reader_want.vc Z0 Q r_0 kind_1 w h).mono fun _ _ hR => hR.elim id fun ⟨_, _, hz⟩ => hz.elim
theorem parse_reader_want.cal {Z : List PanicEntry → PT} {Q : List Value → PT} {r_0 : Option Addr} {kind_1 : Int} {w : World} (h : parse_reader_want.F Z Q r_0 kind_1 w) : Go.Proofs.YtllgjjldnnmjkaaDoor.cal Tryd.prog Z 62 [(Value.pointer r_0), (Value.int .i64 kind_1)] (isN fun r0 => Q r0) w := by
  refine (parse_reader_want.vc Z Q r_0 kind_1 w h).mono fun e w' hR => ?_
  rcases hR with ⟨r0, rfl, h⟩ | ⟨c, rfl, h⟩
  · show (isN fun r0 => Q r0) (.agg ⟨r0⟩) w'
    exact ⟨_, rfl, h⟩
  · exact h

/-! ### (*milepost/parse.reader).figure: function 60 -/
noncomputable def parse_reader_figure.body : Code := bodyC Tryd.f60
def parse_reader_figure.F (Z : List PanicEntry → PT) (Q : List Value → PT) (r_0 : Option Addr) : PT :=
  (newC 49 [(Value.int .i64 0), (Value.int .i64 0)] fun v5 => (cal Tryd.prog Z 62 [(Value.pointer r_0), (Value.int .i64 2)] (isN fun v6 => (newC 79 [(Value.int .i64 0), (Value.int .i64 0), (Value.string ⟨#[]⟩), (Value.int .i64 0)] fun t7 => (stN 4 t7 v6 (ldI .i64 (t7.add 3) fun v8 => (ldI .i64 (t7.add 1) fun v9 => (stN 2 v5 [(Value.int .i64 v8), (Value.int .i64 v9)] (ldN 2 v5 fun v10 => (Q v10))))))))))
def parse_reader_figure.q1 (Z : List PanicEntry → PT) (Q : List Value → PT) : QF := bodyQ Tryd.prog [.cell 2 49] (fun v => atN v fun va => Q va)
theorem parse_reader_figure.eq (Z : List PanicEntry → PT) (Q : List Value → PT) (r_0 : Option Addr) : comp Tryd.prog Z parse_reader_figure.body (parse_reader_figure.q1 Z Q) (fr0 [(Value.pointer r_0)]) = parse_reader_figure.F Z Q r_0 := by kernel_rfl
theorem parse_reader_figure.vc (Z : List PanicEntry → PT) (Q : List Value → PT) (r_0 : Option Addr) (w : World) (h : parse_reader_figure.F Z Q r_0 w) : Calls Tryd.prog 60 ⟨[(Value.pointer r_0)]⟩ w fun e w' => (∃ (r0 : List Value), e = .returned (.agg ⟨r0⟩) ∧ Q r0 w') ∨ ∃ c, e = .panicked c ∧ Z c w' := by
  refine (calls_of_ok (args := [(Value.pointer r_0)]) (w := w) (rs := [.cell 2 49]) (fn := Tryd.f60) (c := parse_reader_figure.body) Tryd.func60 (by kernel_rfl) (by kernel_rfl) (Nat.le_of_ble_eq_true (by kernel_rfl)) (okC parse_reader_figure.body (parse_reader_figure.q1 Z Q) (by kernel_rfl)) (by rw [parse_reader_figure.eq]; exact h)).mono fun e w' hR => ?_
  cases e with
  | returned v =>
    obtain ⟨va, rfl, hR⟩ := atN_e hR
    exact .inl ⟨va, rfl, hR⟩
  | panicked c => exact .inr ⟨c, rfl, hR⟩
  | outgrown => exact hR.elim
theorem parse_reader_figure.vc0 (Q : List Value → PT) (r_0 : Option Addr) (w : World) (h : parse_reader_figure.F Z0 Q r_0 w) : Calls Tryd.prog 60 ⟨[(Value.pointer r_0)]⟩ w fun e w' => (∃ (r0 : List Value), e = .returned (.agg ⟨r0⟩) ∧ Q r0 w') :=
  (parse_reader_figure.vc Z0 Q r_0 w h).mono fun _ _ hR => hR.elim id fun ⟨_, _, hz⟩ => hz.elim
theorem parse_reader_figure.cal {Z : List PanicEntry → PT} {Q : List Value → PT} {r_0 : Option Addr} {w : World} (h : parse_reader_figure.F Z Q r_0 w) : Go.Proofs.YtllgjjldnnmjkaaDoor.cal Tryd.prog Z 60 [(Value.pointer r_0)] (isN fun r0 => Q r0) w := by
  refine (parse_reader_figure.vc Z Q r_0 w h).mono fun e w' hR => ?_
  rcases hR with ⟨r0, rfl, h⟩ | ⟨c, rfl, h⟩
  · show (isN fun r0 => Q r0) (.agg ⟨r0⟩) w'
    exact ⟨_, rfl, h⟩
  · exact h

/-! ### (*milepost/parse.reader).more: function 81 -/
noncomputable def parse_reader_more.body : Code := bodyC Tryd.f81
def parse_reader_more.F (Z : List PanicEntry → PT) (Q : Option Addr → Nat → Nat → Bool → PT) (r_0 : Option Addr) (kind_1 : Int) (l_2 : Option Addr) (l_2n l_2c : Nat) : PT :=
  (cal Tryd.prog Z 59 [(Value.pointer r_0)] (isN fun v10 => (ptI .i64 v10 0 fun v11 => (pif (v11 != kind_1) (Q l_2 l_2n l_2c false) (nn r_0 fun v12 => (ldI .i64 (v12.add 1) fun v13 => (nn r_0 fun v14 => (st1 (v14.add 1) (Value.int .i64 (IntKind.wrap .i64 (v13 + 1))) (cal Tryd.prog Z 60 [(Value.pointer r_0)] (isN fun v15 => (cnd (List.length v15 = 2) (newC 49 (v15 ++ ([])) fun v16 => (runL Tryd.prog (bi .append #[53, 53] 53 [false, false] [(Value.slice l_2 l_2n l_2c), (Value.slice (some v16) 1 1)]) fun v17 v17n v17c => (Q v17 v17n v17c true))))))))))))))
def parse_reader_more.q1 (Z : List PanicEntry → PT) (Q : Option Addr → Nat → Nat → Bool → PT) : QF := bodyQ Tryd.prog [.tmp 6, .tmp 7] (fun v => at2 v fun x y => atL x fun xa xn xc => atB y fun ya => Q xa xn xc ya)
theorem parse_reader_more.eq (Z : List PanicEntry → PT) (Q : Option Addr → Nat → Nat → Bool → PT) (r_0 : Option Addr) (kind_1 : Int) (l_2 : Option Addr) (l_2n l_2c : Nat) : comp Tryd.prog Z parse_reader_more.body (parse_reader_more.q1 Z Q) (fr0 [(Value.pointer r_0), (Value.int .i64 kind_1), (Value.slice l_2 l_2n l_2c)]) = parse_reader_more.F Z Q r_0 kind_1 l_2 l_2n l_2c := by kernel_rfl
theorem parse_reader_more.vc (Z : List PanicEntry → PT) (Q : Option Addr → Nat → Nat → Bool → PT) (r_0 : Option Addr) (kind_1 : Int) (l_2 : Option Addr) (l_2n l_2c : Nat) (w : World) (h : parse_reader_more.F Z Q r_0 kind_1 l_2 l_2n l_2c w) : Calls Tryd.prog 81 ⟨[(Value.pointer r_0), (Value.int .i64 kind_1), (Value.slice l_2 l_2n l_2c)]⟩ w fun e w' => (∃ (r0 : Option Addr) (r0n r0c : Nat) (r1 : Bool), e = .returned (.tuple #[.slice r0 r0n r0c, .bool r1]) ∧ Q r0 r0n r0c r1 w') ∨ ∃ c, e = .panicked c ∧ Z c w' := by
  refine (calls_of_ok (args := [(Value.pointer r_0), (Value.int .i64 kind_1), (Value.slice l_2 l_2n l_2c)]) (w := w) (rs := [.tmp 6, .tmp 7]) (fn := Tryd.f81) (c := parse_reader_more.body) Tryd.func81 (by kernel_rfl) (by kernel_rfl) (Nat.le_of_ble_eq_true (by kernel_rfl)) (okC parse_reader_more.body (parse_reader_more.q1 Z Q) (by kernel_rfl)) (by rw [parse_reader_more.eq]; exact h)).mono fun e w' hR => ?_
  cases e with
  | returned v =>
    obtain ⟨x, y, rfl, hR⟩ := at2_e hR
    obtain ⟨xa, xn, xc, rfl, hR⟩ := atL_e hR
    obtain ⟨ya, rfl, hR⟩ := atB_e hR
    exact .inl ⟨xa, xn, xc, ya, rfl, hR⟩
  | panicked c => exact .inr ⟨c, rfl, hR⟩
  | outgrown => exact hR.elim
theorem parse_reader_more.vc0 (Q : Option Addr → Nat → Nat → Bool → PT) (r_0 : Option Addr) (kind_1 : Int) (l_2 : Option Addr) (l_2n l_2c : Nat) (w : World) (h : parse_reader_more.F Z0 Q r_0 kind_1 l_2 l_2n l_2c w) : Calls Tryd.prog 81 ⟨[(Value.pointer r_0), (Value.int .i64 kind_1), (Value.slice l_2 l_2n l_2c)]⟩ w fun e w' => (∃ (r0 : Option Addr) (r0n r0c : Nat) (r1 : Bool), e = .returned (.tuple #[.slice r0 r0n r0c, .bool r1]) ∧ Q r0 r0n r0c r1 w') :=
  (parse_reader_more.vc Z0 Q r_0 kind_1 l_2 l_2n l_2c w h).mono fun _ _ hR => hR.elim id fun ⟨_, _, hz⟩ => hz.elim
theorem parse_reader_more.cal {Z : List PanicEntry → PT} {Q : Option Addr → Nat → Nat → Bool → PT} {r_0 : Option Addr} {kind_1 : Int} {l_2 : Option Addr} {l_2n l_2c : Nat} {w : World} (h : parse_reader_more.F Z Q r_0 kind_1 l_2 l_2n l_2c w) : Go.Proofs.YtllgjjldnnmjkaaDoor.cal Tryd.prog Z 81 [(Value.pointer r_0), (Value.int .i64 kind_1), (Value.slice l_2 l_2n l_2c)] (isT2 fun x y => (isL fun r0 r0n r0c => (isB fun r1 => Q r0 r0n r0c r1) y) x) w := by
  refine (parse_reader_more.vc Z Q r_0 kind_1 l_2 l_2n l_2c w h).mono fun e w' hR => ?_
  rcases hR with ⟨r0, r0n, r0c, r1, rfl, h⟩ | ⟨c, rfl, h⟩
  · show (isT2 fun x y => (isL fun r0 r0n r0c => (isB fun r1 => Q r0 r0n r0c r1) y) x) (.tuple #[.slice r0 r0n r0c, .bool r1]) w'
    exact ⟨_, _, rfl, ⟨_, _, _, rfl, ⟨_, rfl, h⟩⟩⟩
  · exact h

/-! ### (*milepost/parse.reader).clause: function 61 -/
noncomputable def parse_reader_clause.body : Code := bodyC Tryd.f61
noncomputable def parse_reader_clause.c1 : Code := sq1 parse_reader_clause.body
noncomputable def parse_reader_clause.c2 : Code := sq1 (sq2 parse_reader_clause.body)
noncomputable def parse_reader_clause.c3 : Code := sq1 (sq2 (sq2 parse_reader_clause.body))
noncomputable def parse_reader_clause.c4 : Code := sq2 (sq2 (sq2 parse_reader_clause.body))
theorem parse_reader_clause.q5 : parse_reader_clause.body = .seq parse_reader_clause.c1 (.seq parse_reader_clause.c2 (.seq parse_reader_clause.c3 parse_reader_clause.c4)) := by kernel_rfl
noncomputable def parse_reader_clause.c6 : Code := sq1 parse_reader_clause.c4
noncomputable def parse_reader_clause.c7 : Code := sq2 parse_reader_clause.c4
theorem parse_reader_clause.q8 : parse_reader_clause.c4 = .seq parse_reader_clause.c6 parse_reader_clause.c7 := by kernel_rfl
noncomputable def parse_reader_clause.c9 : Code := sq1 parse_reader_clause.c7
noncomputable def parse_reader_clause.c10 : Code := sq2 parse_reader_clause.c7
theorem parse_reader_clause.q11 : parse_reader_clause.c7 = .seq parse_reader_clause.c9 parse_reader_clause.c10 := by kernel_rfl
noncomputable def parse_reader_clause.c12 : Code := sq1 parse_reader_clause.c10
noncomputable def parse_reader_clause.c13 : Code := sq1 (sq2 parse_reader_clause.c10)
noncomputable def parse_reader_clause.c14 : Code := sq1 (sq2 (sq2 parse_reader_clause.c10))
noncomputable def parse_reader_clause.c15 : Code := sq2 (sq2 (sq2 parse_reader_clause.c10))
theorem parse_reader_clause.q16 : parse_reader_clause.c10 = .seq parse_reader_clause.c12 (.seq parse_reader_clause.c13 (.seq parse_reader_clause.c14 parse_reader_clause.c15)) := by kernel_rfl
noncomputable def parse_reader_clause.c17 : Code := sq1 parse_reader_clause.c15
noncomputable def parse_reader_clause.c18 : Code := sq2 parse_reader_clause.c15
theorem parse_reader_clause.q19 : parse_reader_clause.c15 = .seq parse_reader_clause.c17 parse_reader_clause.c18 := by kernel_rfl
def parse_reader_clause.s20 (Z : List PanicEntry → PT) (Q : List Value → PT) (t_4 : Addr) (c_6 : Addr) : PT :=
  (ldN 5 c_6 fun v31 => (stN 5 t_4 v31 (ldN 5 t_4 fun v32 => (Q v32))))
def parse_reader_clause.q21 (Z : List PanicEntry → PT) (Q : List Value → PT) : QF := bodyQ Tryd.prog [.cell 4 55] (fun v => atN v fun va => Q va)
theorem parse_reader_clause.s20_eq (Z : List PanicEntry → PT) (Q : List Value → PT) (ρ : Fr) (t_4 : Addr) (c_6 : Addr) : comp Tryd.prog Z parse_reader_clause.c18 (parse_reader_clause.q21 Z Q) (puts ρ [(4, (Value.pointer (some t_4))), (6, (Value.pointer (some c_6)))]) = parse_reader_clause.s20 Z Q t_4 c_6 := by kernel_rfl
def parse_reader_clause.j22 (Z : List PanicEntry → PT) (Q : List Value → PT) : Fr → PT := (fun ρ => atA (ρ 4) fun t_4 => atA (ρ 6) fun c_6 => (parse_reader_clause.s20 Z Q t_4 c_6))
theorem parse_reader_clause.s20_ok (Z : List PanicEntry → PT) (Q : List Value → PT) : Ok Tryd.prog Tryd.f61.ntmps Z parse_reader_clause.c18 (parse_reader_clause.q21 Z Q) (parse_reader_clause.j22 Z Q) := by
  intro E he ρ w a hr h
  obtain ⟨t_4, e4, h⟩ := atA_e h
  obtain ⟨c_6, e6, h⟩ := atA_e h
  exact ok_at [(4, (Value.pointer (some t_4))), (6, (Value.pointer (some c_6)))] (okC parse_reader_clause.c18 (parse_reader_clause.q21 Z Q) (by kernel_rfl)) (puts_cons e4 (puts_cons e6 (fun p hp => puts_nil hp))) (parse_reader_clause.s20_eq Z Q ρ t_4 c_6) he hr h
noncomputable def parse_reader_clause.c23 : Code := sq1 parse_reader_clause.c17
noncomputable def parse_reader_clause.c24 : Code := sq2 parse_reader_clause.c17
theorem parse_reader_clause.q25 : parse_reader_clause.c17 = .seq parse_reader_clause.c23 parse_reader_clause.c24 := by kernel_rfl
noncomputable def parse_reader_clause.c26 : Code := blk parse_reader_clause.c24
theorem parse_reader_clause.q27 : parse_reader_clause.c24 = .block 1 parse_reader_clause.c26 := by kernel_rfl
noncomputable def parse_reader_clause.c28 : Code := sq1 parse_reader_clause.c26
noncomputable def parse_reader_clause.c29 : Code := sq2 parse_reader_clause.c26
theorem parse_reader_clause.q30 : parse_reader_clause.c26 = .seq parse_reader_clause.c28 parse_reader_clause.c29 := by kernel_rfl
noncomputable def parse_reader_clause.c31 : Code := cn1 parse_reader_clause.c29
noncomputable def parse_reader_clause.c32 : Code := cn2 parse_reader_clause.c29
theorem parse_reader_clause.q33 : parse_reader_clause.c29 = .cond (.tmp 49) parse_reader_clause.c31 parse_reader_clause.c32 := by kernel_rfl
noncomputable def parse_reader_clause.c34 : Code := sq1 parse_reader_clause.c31
noncomputable def parse_reader_clause.c35 : Code := sq2 parse_reader_clause.c31
theorem parse_reader_clause.q36 : parse_reader_clause.c31 = .seq parse_reader_clause.c34 parse_reader_clause.c35 := by kernel_rfl
def parse_reader_clause.s37 (Z : List PanicEntry → PT) (Q : List Value → PT) (r_0 : Option Addr) (t_4 : Addr) (c_6 : Addr) : PT :=
  (ldL (c_6.add 2) fun v34 v34n v34c => (cal Tryd.prog Z 81 [(Value.pointer r_0), (Value.int .i64 4), (Value.slice v34 v34n v34c)] (isT2 fun t35 t36 => (isL fun v37 v37n v37c => ((isB fun v38 => (st1 (c_6.add 2) (Value.slice v37 v37n v37c) (st1 (c_6.add 3) (Value.bool v38) (parse_reader_clause.s20 Z Q t_4 c_6)))) t36)) t35)))
def parse_reader_clause.q38 (Z : List PanicEntry → PT) (Q : List Value → PT) : QF := thenK (parse_reader_clause.j22 Z Q) (parse_reader_clause.q21 Z Q)
def parse_reader_clause.q39 (Z : List PanicEntry → PT) (Q : List Value → PT) : QF := inBl 1 (parse_reader_clause.q38 Z Q)
theorem parse_reader_clause.s37_eq (Z : List PanicEntry → PT) (Q : List Value → PT) (ρ : Fr) (r_0 : Option Addr) (t_4 : Addr) (c_6 : Addr) : comp Tryd.prog Z parse_reader_clause.c35 (parse_reader_clause.q39 Z Q) (puts ρ [(0, (Value.pointer r_0)), (4, (Value.pointer (some t_4))), (6, (Value.pointer (some c_6)))]) = parse_reader_clause.s37 Z Q r_0 t_4 c_6 := by kernel_rfl
def parse_reader_clause.j40 (Z : List PanicEntry → PT) (Q : List Value → PT) : Fr → PT := (fun ρ => atP (ρ 0) fun r_0 => atA (ρ 4) fun t_4 => atA (ρ 6) fun c_6 => (parse_reader_clause.s37 Z Q r_0 t_4 c_6))
theorem parse_reader_clause.s37_ok (Z : List PanicEntry → PT) (Q : List Value → PT) : Ok Tryd.prog Tryd.f61.ntmps Z parse_reader_clause.c35 (parse_reader_clause.q39 Z Q) (parse_reader_clause.j40 Z Q) := by
  intro E he ρ w a hr h
  obtain ⟨r_0, e0, h⟩ := atP_e h
  obtain ⟨t_4, e4, h⟩ := atA_e h
  obtain ⟨c_6, e6, h⟩ := atA_e h
  exact ok_at [(0, (Value.pointer r_0)), (4, (Value.pointer (some t_4))), (6, (Value.pointer (some c_6)))] (okC parse_reader_clause.c35 (parse_reader_clause.q39 Z Q) (by kernel_rfl)) (puts_cons e0 (puts_cons e4 (puts_cons e6 (fun p hp => puts_nil hp)))) (parse_reader_clause.s37_eq Z Q ρ r_0 t_4 c_6) he hr h
noncomputable def parse_reader_clause.c41 : Code := sq1 parse_reader_clause.c34
noncomputable def parse_reader_clause.c42 : Code := sq2 parse_reader_clause.c34
theorem parse_reader_clause.q43 : parse_reader_clause.c34 = .seq parse_reader_clause.c41 parse_reader_clause.c42 := by kernel_rfl
noncomputable def parse_reader_clause.c44 : Code := blk parse_reader_clause.c42
theorem parse_reader_clause.q45 : parse_reader_clause.c42 = .block 2 parse_reader_clause.c44 := by kernel_rfl
noncomputable def parse_reader_clause.c46 : Code := lop parse_reader_clause.c44
theorem parse_reader_clause.q47 : parse_reader_clause.c44 = .loop parse_reader_clause.c46 := by kernel_rfl
def parse_reader_clause.q49 (Z : List PanicEntry → PT) (Q : List Value → PT) : QF := thenK (parse_reader_clause.j40 Z Q) (parse_reader_clause.q39 Z Q)
def parse_reader_clause.q50 (Z : List PanicEntry → PT) (Q : List Value → PT) : QF := inBl 2 (parse_reader_clause.q49 Z Q)
def parse_reader_clause.s51 (Z : List PanicEntry → PT) (Q : List Value → PT) (X1 : Option Addr → Addr → Addr → Int → PT) (r_0 : Option Addr) (t_4 : Addr) (c_6 : Addr) (t_52 : Int) : PT :=
  (pif (decide (t_52 < 3)) (cal Tryd.prog Z 62 [(Value.pointer r_0), (Value.int .i64 3)] (isN fun v46 => (drawn fun S47 => (hL S47 (c_6.add 2) fun v48 v48n v48c => (cal Tryd.prog Z 60 [(Value.pointer r_0)] (isN fun v49 => (sAnd S47 (cnd (List.length v49 = 2) (newC 49 (v49 ++ ([])) fun v50 => (sAnd S47 (runL Tryd.prog (bi .append #[53, 53] 53 [false, false] [(Value.slice v48 v48n v48c), (Value.slice (some v50) 1 1)]) fun v51 v51n v51c => (sAnd S47 (st1 (c_6.add 2) (Value.slice v51 v51n v51c) (X1 r_0 t_4 c_6 (IntKind.wrap .i64 (t_52 + 1)))))))))))))))) (parse_reader_clause.s37 Z Q r_0 t_4 c_6))
def parse_reader_clause.j52 (Z : List PanicEntry → PT) (Q : List Value → PT) (X1 : Option Addr → Addr → Addr → Int → PT) : Fr → PT := (fun ρ => atP (ρ 0) fun r_0 => atA (ρ 4) fun t_4 => atA (ρ 6) fun c_6 => atI .i64 (ρ 52) fun t_52 => (X1 r_0 t_4 c_6 t_52))
def parse_reader_clause.q53 (Z : List PanicEntry → PT) (Q : List Value → PT) (X1 : Option Addr → Addr → Addr → Int → PT) : QF := thenK (parse_reader_clause.j52 Z Q X1) (parse_reader_clause.q50 Z Q)
theorem parse_reader_clause.s51_eq (Z : List PanicEntry → PT) (Q : List Value → PT) (X1 : Option Addr → Addr → Addr → Int → PT) (ρ : Fr) (r_0 : Option Addr) (t_4 : Addr) (c_6 : Addr) (t_52 : Int) : comp Tryd.prog Z parse_reader_clause.c46 (parse_reader_clause.q53 Z Q X1) (puts ρ [(0, (Value.pointer r_0)), (4, (Value.pointer (some t_4))), (6, (Value.pointer (some c_6))), (52, (Value.int .i64 t_52))]) = parse_reader_clause.s51 Z Q X1 r_0 t_4 c_6 t_52 := by kernel_rfl
def parse_reader_clause.j54 (Z : List PanicEntry → PT) (Q : List Value → PT) (X1 : Option Addr → Addr → Addr → Int → PT) : Fr → PT := (fun ρ => atP (ρ 0) fun r_0 => atA (ρ 4) fun t_4 => atA (ρ 6) fun c_6 => atI .i64 (ρ 52) fun t_52 => (parse_reader_clause.s51 Z Q X1 r_0 t_4 c_6 t_52))
theorem parse_reader_clause.s51_ok (Z : List PanicEntry → PT) (Q : List Value → PT) (X1 : Option Addr → Addr → Addr → Int → PT) : Ok Tryd.prog Tryd.f61.ntmps Z parse_reader_clause.c46 (parse_reader_clause.q53 Z Q X1) (parse_reader_clause.j54 Z Q X1) := by
  intro E he ρ w a hr h
  obtain ⟨r_0, e0, h⟩ := atP_e h
  obtain ⟨t_4, e4, h⟩ := atA_e h
  obtain ⟨c_6, e6, h⟩ := atA_e h
  obtain ⟨t_52, e52, h⟩ := atI_e h
  exact ok_at [(0, (Value.pointer r_0)), (4, (Value.pointer (some t_4))), (6, (Value.pointer (some c_6))), (52, (Value.int .i64 t_52))] (okC parse_reader_clause.c46 (parse_reader_clause.q53 Z Q X1) (by kernel_rfl)) (puts_cons e0 (puts_cons e4 (puts_cons e6 (puts_cons e52 (fun p hp => puts_nil hp))))) (parse_reader_clause.s51_eq Z Q X1 ρ r_0 t_4 c_6 t_52) he hr h
def parse_reader_clause.l48 (Z : List PanicEntry → PT) (Q : List Value → PT) : Nat → Option Addr → Addr → Addr → Int → PT
  | 0, _, _, _, _ => bad
  | k + 1, r_0, t_4, c_6, t_52 => (parse_reader_clause.s51 Z Q (parse_reader_clause.l48 Z Q k) r_0 t_4 c_6 t_52)
def parse_reader_clause.j55 (Z : List PanicEntry → PT) (Q : List Value → PT) (k : Nat) : Fr → PT := (fun ρ => atP (ρ 0) fun r_0 => atA (ρ 4) fun t_4 => atA (ρ 6) fun c_6 => atI .i64 (ρ 52) fun t_52 => (parse_reader_clause.l48 Z Q k r_0 t_4 c_6 t_52))
def parse_reader_clause.j56 (Z : List PanicEntry → PT) (Q : List Value → PT) : Fr → PT := (fun ρ => atP (ρ 0) fun r_0 => atA (ρ 4) fun t_4 => atA (ρ 6) fun c_6 => atI .i64 (ρ 52) fun t_52 => (exK fun k => parse_reader_clause.l48 Z Q k r_0 t_4 c_6 t_52))
theorem parse_reader_clause.o57 (Z : List PanicEntry → PT) (Q : List Value → PT) : Ok Tryd.prog Tryd.f61.ntmps Z parse_reader_clause.c44 (parse_reader_clause.q50 Z Q) (parse_reader_clause.j56 Z Q) := by
  rw [parse_reader_clause.q47]
  refine Ok.imp (ok_loop (J := parse_reader_clause.j55 Z Q) ?_ ?_) ?_
  · intro ρ w h
    obtain ⟨r_0, e0, h⟩ := atP_e h
    obtain ⟨t_4, e4, h⟩ := atA_e h
    obtain ⟨c_6, e6, h⟩ := atA_e h
    obtain ⟨t_52, e52, h⟩ := atI_e h
    exact h
  · intro k
    refine Ok.imp (parse_reader_clause.s51_ok Z Q (parse_reader_clause.l48 Z Q k)) fun ρ w h => ?_
    obtain ⟨r_0, e0, h⟩ := atP_e h
    obtain ⟨t_4, e4, h⟩ := atA_e h
    obtain ⟨c_6, e6, h⟩ := atA_e h
    obtain ⟨t_52, e52, h⟩ := atI_e h
    show (parse_reader_clause.j54 Z Q (parse_reader_clause.l48 Z Q k)) ρ w
    simp only [parse_reader_clause.j54]
    rw [e0]
    rw [e4]
    rw [e6]
    rw [e52]
    exact h
  · intro ρ w h
    obtain ⟨r_0, e0, h⟩ := atP_e h
    obtain ⟨t_4, e4, h⟩ := atA_e h
    obtain ⟨c_6, e6, h⟩ := atA_e h
    obtain ⟨t_52, e52, h⟩ := atI_e h
    obtain ⟨k, h⟩ := h
    refine ⟨k, ?_⟩
    show (atP (ρ 0) fun r_0 => atA (ρ 4) fun t_4 => atA (ρ 6) fun c_6 => atI .i64 (ρ 52) fun t_52 => (parse_reader_clause.l48 Z Q k r_0 t_4 c_6 t_52)) w
    rw [e0]
    rw [e4]
    rw [e6]
    rw [e52]
    exact h
theorem parse_reader_clause.o58 (Z : List PanicEntry → PT) (Q : List Value → PT) : Ok Tryd.prog Tryd.f61.ntmps Z parse_reader_clause.c42 (parse_reader_clause.q49 Z Q) (parse_reader_clause.j56 Z Q) := by
  rw [parse_reader_clause.q45]; exact ok_block (parse_reader_clause.o57 Z Q)
def parse_reader_clause.s59 (Z : List PanicEntry → PT) (Q : List Value → PT) (r_0 : Option Addr) (t_4 : Addr) (c_6 : Addr) : PT :=
  (exK fun k => parse_reader_clause.l48 Z Q k r_0 t_4 c_6 0)
theorem parse_reader_clause.s59_eq (Z : List PanicEntry → PT) (Q : List Value → PT) (ρ : Fr) (r_0 : Option Addr) (t_4 : Addr) (c_6 : Addr) : (comp Tryd.prog Z parse_reader_clause.c41 (thenK (parse_reader_clause.j56 Z Q) (parse_reader_clause.q49 Z Q))) (puts ρ [(0, (Value.pointer r_0)), (4, (Value.pointer (some t_4))), (6, (Value.pointer (some c_6)))]) = parse_reader_clause.s59 Z Q r_0 t_4 c_6 := by kernel_rfl
def parse_reader_clause.j60 (Z : List PanicEntry → PT) (Q : List Value → PT) : Fr → PT := (fun ρ => atP (ρ 0) fun r_0 => atA (ρ 4) fun t_4 => atA (ρ 6) fun c_6 => (parse_reader_clause.s59 Z Q r_0 t_4 c_6))
theorem parse_reader_clause.s59_ok (Z : List PanicEntry → PT) (Q : List Value → PT) : Ok Tryd.prog Tryd.f61.ntmps Z parse_reader_clause.c34 (parse_reader_clause.q49 Z Q) (parse_reader_clause.j60 Z Q) := by
  intro E he ρ w a hr h
  rw [parse_reader_clause.q43] at he ⊢
  obtain ⟨r_0, e0, h⟩ := atP_e h
  obtain ⟨t_4, e4, h⟩ := atA_e h
  obtain ⟨c_6, e6, h⟩ := atA_e h
  exact ok_at [(0, (Value.pointer r_0)), (4, (Value.pointer (some t_4))), (6, (Value.pointer (some c_6)))] (ok_seq (okC parse_reader_clause.c41 _ (by kernel_rfl)) (parse_reader_clause.o58 Z Q)) (puts_cons e0 (puts_cons e4 (puts_cons e6 (fun p hp => puts_nil hp)))) (parse_reader_clause.s59_eq Z Q ρ r_0 t_4 c_6) he hr h
theorem parse_reader_clause.o61 (Z : List PanicEntry → PT) (Q : List Value → PT) : Ok Tryd.prog Tryd.f61.ntmps Z parse_reader_clause.c31 (parse_reader_clause.q39 Z Q) (parse_reader_clause.j60 Z Q) := by
  rw [parse_reader_clause.q36]; exact ok_seq (parse_reader_clause.s59_ok Z Q) (parse_reader_clause.s37_ok Z Q)
noncomputable def parse_reader_clause.c62 : Code := sq1 parse_reader_clause.c32
noncomputable def parse_reader_clause.c63 : Code := sq2 parse_reader_clause.c32
theorem parse_reader_clause.q64 : parse_reader_clause.c32 = .seq parse_reader_clause.c62 parse_reader_clause.c63 := by kernel_rfl
def parse_reader_clause.s65 (Z : List PanicEntry → PT) (Q : List Value → PT) (r_0 : Option Addr) (t_4 : Addr) (c_6 : Addr) (t_73 : Bool) : PT :=
  (pif t_73 (ldL (c_6.add 2) fun v52 v52n v52c => (cal Tryd.prog Z 81 [(Value.pointer r_0), (Value.int .i64 5), (Value.slice v52 v52n v52c)] (isT2 fun t53 t54 => (isL fun v55 v55n v55c => ((isB fun v56 => (st1 (c_6.add 2) (Value.slice v55 v55n v55c) (st1 (c_6.add 4) (Value.bool v56) (parse_reader_clause.s20 Z Q t_4 c_6)))) t54)) t53))) (parse_reader_clause.s20 Z Q t_4 c_6))
theorem parse_reader_clause.s65_eq (Z : List PanicEntry → PT) (Q : List Value → PT) (ρ : Fr) (r_0 : Option Addr) (t_4 : Addr) (c_6 : Addr) (t_73 : Bool) : comp Tryd.prog Z parse_reader_clause.c63 (parse_reader_clause.q39 Z Q) (puts ρ [(0, (Value.pointer r_0)), (4, (Value.pointer (some t_4))), (6, (Value.pointer (some c_6))), (73, (Value.bool t_73))]) = parse_reader_clause.s65 Z Q r_0 t_4 c_6 t_73 := by kernel_rfl
def parse_reader_clause.j66 (Z : List PanicEntry → PT) (Q : List Value → PT) : Fr → PT := (fun ρ => atP (ρ 0) fun r_0 => atA (ρ 4) fun t_4 => atA (ρ 6) fun c_6 => atB (ρ 73) fun t_73 => (parse_reader_clause.s65 Z Q r_0 t_4 c_6 t_73))
theorem parse_reader_clause.s65_ok (Z : List PanicEntry → PT) (Q : List Value → PT) : Ok Tryd.prog Tryd.f61.ntmps Z parse_reader_clause.c63 (parse_reader_clause.q39 Z Q) (parse_reader_clause.j66 Z Q) := by
  intro E he ρ w a hr h
  obtain ⟨r_0, e0, h⟩ := atP_e h
  obtain ⟨t_4, e4, h⟩ := atA_e h
  obtain ⟨c_6, e6, h⟩ := atA_e h
  obtain ⟨t_73, e73, h⟩ := atB_e h
  exact ok_at [(0, (Value.pointer r_0)), (4, (Value.pointer (some t_4))), (6, (Value.pointer (some c_6))), (73, (Value.bool t_73))] (okC parse_reader_clause.c63 (parse_reader_clause.q39 Z Q) (by kernel_rfl)) (puts_cons e0 (puts_cons e4 (puts_cons e6 (puts_cons e73 (fun p hp => puts_nil hp))))) (parse_reader_clause.s65_eq Z Q ρ r_0 t_4 c_6 t_73) he hr h
def parse_reader_clause.s67 (Z : List PanicEntry → PT) (Q : List Value → PT) (r_0 : Option Addr) (t_4 : Addr) (c_6 : Addr) (t_48 : ByteArray) : PT :=
  (pif (t_48.toList == (⟨#[115, 112, 111, 114, 116]⟩ : ByteArray).toList) (parse_reader_clause.s65 Z Q r_0 t_4 c_6 (t_48.toList == (⟨#[115, 112, 111, 114, 116]⟩ : ByteArray).toList)) (parse_reader_clause.s65 Z Q r_0 t_4 c_6 (t_48.toList == (⟨#[100, 112, 111, 114, 116]⟩ : ByteArray).toList)))
theorem parse_reader_clause.s67_eq (Z : List PanicEntry → PT) (Q : List Value → PT) (ρ : Fr) (r_0 : Option Addr) (t_4 : Addr) (c_6 : Addr) (t_48 : ByteArray) : (comp Tryd.prog Z parse_reader_clause.c62 (thenK (parse_reader_clause.j66 Z Q) (parse_reader_clause.q39 Z Q))) (puts ρ [(0, (Value.pointer r_0)), (4, (Value.pointer (some t_4))), (6, (Value.pointer (some c_6))), (48, (Value.string t_48))]) = parse_reader_clause.s67 Z Q r_0 t_4 c_6 t_48 := by kernel_rfl
def parse_reader_clause.j68 (Z : List PanicEntry → PT) (Q : List Value → PT) : Fr → PT := (fun ρ => atP (ρ 0) fun r_0 => atA (ρ 4) fun t_4 => atA (ρ 6) fun c_6 => atS (ρ 48) fun t_48 => (parse_reader_clause.s67 Z Q r_0 t_4 c_6 t_48))
theorem parse_reader_clause.s67_ok (Z : List PanicEntry → PT) (Q : List Value → PT) : Ok Tryd.prog Tryd.f61.ntmps Z parse_reader_clause.c32 (parse_reader_clause.q39 Z Q) (parse_reader_clause.j68 Z Q) := by
  intro E he ρ w a hr h
  rw [parse_reader_clause.q64] at he ⊢
  obtain ⟨r_0, e0, h⟩ := atP_e h
  obtain ⟨t_4, e4, h⟩ := atA_e h
  obtain ⟨c_6, e6, h⟩ := atA_e h
  obtain ⟨t_48, e48, h⟩ := atS_e h
  exact ok_at [(0, (Value.pointer r_0)), (4, (Value.pointer (some t_4))), (6, (Value.pointer (some c_6))), (48, (Value.string t_48))] (ok_seq (okC parse_reader_clause.c62 _ (by kernel_rfl)) (parse_reader_clause.s65_ok Z Q)) (puts_cons e0 (puts_cons e4 (puts_cons e6 (puts_cons e48 (fun p hp => puts_nil hp))))) (parse_reader_clause.s67_eq Z Q ρ r_0 t_4 c_6 t_48) he hr h
theorem parse_reader_clause.o69 (Z : List PanicEntry → PT) (Q : List Value → PT) : Ok Tryd.prog Tryd.f61.ntmps Z parse_reader_clause.c29 (parse_reader_clause.q39 Z Q) (condJ (.tmp 49) (parse_reader_clause.j60 Z Q) (parse_reader_clause.j68 Z Q)) := by
  rw [parse_reader_clause.q33]; exact ok_cond (parse_reader_clause.o61 Z Q) (parse_reader_clause.s67_ok Z Q)
def parse_reader_clause.s70 (Z : List PanicEntry → PT) (Q : List Value → PT) (r_0 : Option Addr) (t_4 : Addr) (c_6 : Addr) (t_48 : ByteArray) : PT :=
  (pif (t_48.toList == (⟨#[115, 114, 99]⟩ : ByteArray).toList) (pif (t_48.toList == (⟨#[115, 114, 99]⟩ : ByteArray).toList) (parse_reader_clause.s59 Z Q r_0 t_4 c_6) (parse_reader_clause.s67 Z Q r_0 t_4 c_6 t_48)) (pif (t_48.toList == (⟨#[100, 115, 116]⟩ : ByteArray).toList) (parse_reader_clause.s59 Z Q r_0 t_4 c_6) (parse_reader_clause.s67 Z Q r_0 t_4 c_6 t_48)))
theorem parse_reader_clause.s70_eq (Z : List PanicEntry → PT) (Q : List Value → PT) (ρ : Fr) (r_0 : Option Addr) (t_4 : Addr) (c_6 : Addr) (t_48 : ByteArray) : (comp Tryd.prog Z parse_reader_clause.c28 (thenK (condJ (.tmp 49) (parse_reader_clause.j60 Z Q) (parse_reader_clause.j68 Z Q)) (parse_reader_clause.q39 Z Q))) (puts ρ [(0, (Value.pointer r_0)), (4, (Value.pointer (some t_4))), (6, (Value.pointer (some c_6))), (48, (Value.string t_48))]) = parse_reader_clause.s70 Z Q r_0 t_4 c_6 t_48 := by kernel_rfl
def parse_reader_clause.j71 (Z : List PanicEntry → PT) (Q : List Value → PT) : Fr → PT := (fun ρ => atP (ρ 0) fun r_0 => atA (ρ 4) fun t_4 => atA (ρ 6) fun c_6 => atS (ρ 48) fun t_48 => (parse_reader_clause.s70 Z Q r_0 t_4 c_6 t_48))
theorem parse_reader_clause.s70_ok (Z : List PanicEntry → PT) (Q : List Value → PT) : Ok Tryd.prog Tryd.f61.ntmps Z parse_reader_clause.c26 (parse_reader_clause.q39 Z Q) (parse_reader_clause.j71 Z Q) := by
  intro E he ρ w a hr h
  rw [parse_reader_clause.q30] at he ⊢
  obtain ⟨r_0, e0, h⟩ := atP_e h
  obtain ⟨t_4, e4, h⟩ := atA_e h
  obtain ⟨c_6, e6, h⟩ := atA_e h
  obtain ⟨t_48, e48, h⟩ := atS_e h
  exact ok_at [(0, (Value.pointer r_0)), (4, (Value.pointer (some t_4))), (6, (Value.pointer (some c_6))), (48, (Value.string t_48))] (ok_seq (okC parse_reader_clause.c28 _ (by kernel_rfl)) (parse_reader_clause.o69 Z Q)) (puts_cons e0 (puts_cons e4 (puts_cons e6 (puts_cons e48 (fun p hp => puts_nil hp))))) (parse_reader_clause.s70_eq Z Q ρ r_0 t_4 c_6 t_48) he hr h
theorem parse_reader_clause.o72 (Z : List PanicEntry → PT) (Q : List Value → PT) : Ok Tryd.prog Tryd.f61.ntmps Z parse_reader_clause.c24 (parse_reader_clause.q38 Z Q) (parse_reader_clause.j71 Z Q) := by
  rw [parse_reader_clause.q27]; exact ok_block (parse_reader_clause.s70_ok Z Q)
def parse_reader_clause.s73 (Z : List PanicEntry → PT) (Q : List Value → PT) (r_0 : Option Addr) (t_4 : Addr) (t_5 : Addr) (c_6 : Addr) : PT :=
  (ldS (t_5.add 2) fun v57 => (parse_reader_clause.s70 Z Q r_0 t_4 c_6 v57))
theorem parse_reader_clause.s73_eq (Z : List PanicEntry → PT) (Q : List Value → PT) (ρ : Fr) (r_0 : Option Addr) (t_4 : Addr) (t_5 : Addr) (c_6 : Addr) : (comp Tryd.prog Z parse_reader_clause.c23 (thenK (parse_reader_clause.j71 Z Q) (parse_reader_clause.q38 Z Q))) (puts ρ [(0, (Value.pointer r_0)), (4, (Value.pointer (some t_4))), (5, (Value.pointer (some t_5))), (6, (Value.pointer (some c_6)))]) = parse_reader_clause.s73 Z Q r_0 t_4 t_5 c_6 := by kernel_rfl
def parse_reader_clause.j74 (Z : List PanicEntry → PT) (Q : List Value → PT) : Fr → PT := (fun ρ => atP (ρ 0) fun r_0 => atA (ρ 4) fun t_4 => atA (ρ 5) fun t_5 => atA (ρ 6) fun c_6 => (parse_reader_clause.s73 Z Q r_0 t_4 t_5 c_6))
theorem parse_reader_clause.s73_ok (Z : List PanicEntry → PT) (Q : List Value → PT) : Ok Tryd.prog Tryd.f61.ntmps Z parse_reader_clause.c17 (parse_reader_clause.q38 Z Q) (parse_reader_clause.j74 Z Q) := by
  intro E he ρ w a hr h
  rw [parse_reader_clause.q25] at he ⊢
  obtain ⟨r_0, e0, h⟩ := atP_e h
  obtain ⟨t_4, e4, h⟩ := atA_e h
  obtain ⟨t_5, e5, h⟩ := atA_e h
  obtain ⟨c_6, e6, h⟩ := atA_e h
  exact ok_at [(0, (Value.pointer r_0)), (4, (Value.pointer (some t_4))), (5, (Value.pointer (some t_5))), (6, (Value.pointer (some c_6)))] (ok_seq (okC parse_reader_clause.c23 _ (by kernel_rfl)) (parse_reader_clause.o72 Z Q)) (puts_cons e0 (puts_cons e4 (puts_cons e5 (puts_cons e6 (fun p hp => puts_nil hp))))) (parse_reader_clause.s73_eq Z Q ρ r_0 t_4 t_5 c_6) he hr h
theorem parse_reader_clause.o75 (Z : List PanicEntry → PT) (Q : List Value → PT) : Ok Tryd.prog Tryd.f61.ntmps Z parse_reader_clause.c15 (parse_reader_clause.q21 Z Q) (parse_reader_clause.j74 Z Q) := by
  rw [parse_reader_clause.q19]; exact ok_seq (parse_reader_clause.s73_ok Z Q) (parse_reader_clause.s20_ok Z Q)
def parse_reader_clause.s76 (Z : List PanicEntry → PT) (Q : List Value → PT) (r_0 : Option Addr) (had_1 : Option Nat) (t_4 : Addr) (t_5 : Addr) (c_6 : Addr) : PT :=
  (ldS (t_5.add 2) fun v58 => (runI .i64 Tryd.prog (Instr.lookup 109 (Value.map had_1) (Value.string v58) false) fun v59 => (runU Tryd.prog (Instr.mapUpdate 109 (Value.map had_1) (Value.string v58) (Value.int .i64 (IntKind.wrap .i64 (v59 + 1)))) (nn r_0 fun v60 => (ldI .i64 (v60.add 1) fun v61 => (nn r_0 fun v62 => (st1 (v62.add 1) (Value.int .i64 (IntKind.wrap .i64 (v61 + 1))) (cal Tryd.prog Z 60 [(Value.pointer r_0)] (isN fun v63 => (cnd (List.length v63 = 2) (newC 49 (v63 ++ ([])) fun v64 => (st1 (c_6.add 2) (Value.slice (some v64) 1 1) (parse_reader_clause.s73 Z Q r_0 t_4 t_5 c_6)))))))))))))
theorem parse_reader_clause.s76_eq (Z : List PanicEntry → PT) (Q : List Value → PT) (ρ : Fr) (r_0 : Option Addr) (had_1 : Option Nat) (t_4 : Addr) (t_5 : Addr) (c_6 : Addr) : (comp Tryd.prog Z parse_reader_clause.c12 (thenK (comp Tryd.prog Z parse_reader_clause.c13 (thenK (comp Tryd.prog Z parse_reader_clause.c14 (thenK (parse_reader_clause.j74 Z Q) (parse_reader_clause.q21 Z Q))) (parse_reader_clause.q21 Z Q))) (parse_reader_clause.q21 Z Q))) (puts ρ [(0, (Value.pointer r_0)), (1, (Value.map had_1)), (4, (Value.pointer (some t_4))), (5, (Value.pointer (some t_5))), (6, (Value.pointer (some c_6)))]) = parse_reader_clause.s76 Z Q r_0 had_1 t_4 t_5 c_6 := by kernel_rfl
def parse_reader_clause.j77 (Z : List PanicEntry → PT) (Q : List Value → PT) : Fr → PT := (fun ρ => atP (ρ 0) fun r_0 => atM (ρ 1) fun had_1 => atA (ρ 4) fun t_4 => atA (ρ 5) fun t_5 => atA (ρ 6) fun c_6 => (parse_reader_clause.s76 Z Q r_0 had_1 t_4 t_5 c_6))
theorem parse_reader_clause.s76_ok (Z : List PanicEntry → PT) (Q : List Value → PT) : Ok Tryd.prog Tryd.f61.ntmps Z parse_reader_clause.c10 (parse_reader_clause.q21 Z Q) (parse_reader_clause.j77 Z Q) := by
  intro E he ρ w a hr h
  rw [parse_reader_clause.q16] at he ⊢
  obtain ⟨r_0, e0, h⟩ := atP_e h
  obtain ⟨had_1, e1, h⟩ := atM_e h
  obtain ⟨t_4, e4, h⟩ := atA_e h
  obtain ⟨t_5, e5, h⟩ := atA_e h
  obtain ⟨c_6, e6, h⟩ := atA_e h
  exact ok_at [(0, (Value.pointer r_0)), (1, (Value.map had_1)), (4, (Value.pointer (some t_4))), (5, (Value.pointer (some t_5))), (6, (Value.pointer (some c_6)))] (ok_seq (okC parse_reader_clause.c12 _ (by kernel_rfl)) (ok_seq (okC parse_reader_clause.c13 _ (by kernel_rfl)) (ok_seq (okC parse_reader_clause.c14 _ (by kernel_rfl)) (parse_reader_clause.o75 Z Q)))) (puts_cons e0 (puts_cons e1 (puts_cons e4 (puts_cons e5 (puts_cons e6 (fun p hp => puts_nil hp)))))) (parse_reader_clause.s76_eq Z Q ρ r_0 had_1 t_4 t_5 c_6) he hr h
def parse_reader_clause.s78 (Z : List PanicEntry → PT) (Q : List Value → PT) (r_0 : Option Addr) (had_1 : Option Nat) (t_4 : Addr) (t_5 : Addr) (c_6 : Addr) : PT :=
  (ldS (t_5.add 2) fun v65 => (runI .i64 Tryd.prog (Instr.lookup 109 (Value.map had_1) (Value.string v65) false) fun v66 => (pif (decide (v66 > 0)) (cal Tryd.prog Z 38 [(Value.pointer r_0), (Value.int .i64 9)] (isU (parse_reader_clause.s76 Z Q r_0 had_1 t_4 t_5 c_6))) (parse_reader_clause.s76 Z Q r_0 had_1 t_4 t_5 c_6))))
theorem parse_reader_clause.s78_eq (Z : List PanicEntry → PT) (Q : List Value → PT) (ρ : Fr) (r_0 : Option Addr) (had_1 : Option Nat) (t_4 : Addr) (t_5 : Addr) (c_6 : Addr) : (comp Tryd.prog Z parse_reader_clause.c9 (thenK (parse_reader_clause.j77 Z Q) (parse_reader_clause.q21 Z Q))) (puts ρ [(0, (Value.pointer r_0)), (1, (Value.map had_1)), (4, (Value.pointer (some t_4))), (5, (Value.pointer (some t_5))), (6, (Value.pointer (some c_6)))]) = parse_reader_clause.s78 Z Q r_0 had_1 t_4 t_5 c_6 := by kernel_rfl
def parse_reader_clause.j79 (Z : List PanicEntry → PT) (Q : List Value → PT) : Fr → PT := (fun ρ => atP (ρ 0) fun r_0 => atM (ρ 1) fun had_1 => atA (ρ 4) fun t_4 => atA (ρ 5) fun t_5 => atA (ρ 6) fun c_6 => (parse_reader_clause.s78 Z Q r_0 had_1 t_4 t_5 c_6))
theorem parse_reader_clause.s78_ok (Z : List PanicEntry → PT) (Q : List Value → PT) : Ok Tryd.prog Tryd.f61.ntmps Z parse_reader_clause.c7 (parse_reader_clause.q21 Z Q) (parse_reader_clause.j79 Z Q) := by
  intro E he ρ w a hr h
  rw [parse_reader_clause.q11] at he ⊢
  obtain ⟨r_0, e0, h⟩ := atP_e h
  obtain ⟨had_1, e1, h⟩ := atM_e h
  obtain ⟨t_4, e4, h⟩ := atA_e h
  obtain ⟨t_5, e5, h⟩ := atA_e h
  obtain ⟨c_6, e6, h⟩ := atA_e h
  exact ok_at [(0, (Value.pointer r_0)), (1, (Value.map had_1)), (4, (Value.pointer (some t_4))), (5, (Value.pointer (some t_5))), (6, (Value.pointer (some c_6)))] (ok_seq (okC parse_reader_clause.c9 _ (by kernel_rfl)) (parse_reader_clause.s76_ok Z Q)) (puts_cons e0 (puts_cons e1 (puts_cons e4 (puts_cons e5 (puts_cons e6 (fun p hp => puts_nil hp)))))) (parse_reader_clause.s78_eq Z Q ρ r_0 had_1 t_4 t_5 c_6) he hr h
noncomputable def parse_reader_clause.c80 : Code := sq1 parse_reader_clause.c6
noncomputable def parse_reader_clause.c81 : Code := sq2 parse_reader_clause.c6
theorem parse_reader_clause.q82 : parse_reader_clause.c6 = .seq parse_reader_clause.c80 parse_reader_clause.c81 := by kernel_rfl
noncomputable def parse_reader_clause.c83 : Code := blk parse_reader_clause.c81
theorem parse_reader_clause.q84 : parse_reader_clause.c81 = .block 0 parse_reader_clause.c83 := by kernel_rfl
noncomputable def parse_reader_clause.c85 : Code := sq1 parse_reader_clause.c83
noncomputable def parse_reader_clause.c86 : Code := sq2 parse_reader_clause.c83
theorem parse_reader_clause.q87 : parse_reader_clause.c83 = .seq parse_reader_clause.c85 parse_reader_clause.c86 := by kernel_rfl
def parse_reader_clause.s88 (Z : List PanicEntry → PT) (Q : List Value → PT) (r_0 : Option Addr) (had_1 : Option Nat) (t_4 : Addr) (t_5 : Addr) (c_6 : Addr) (t_18 : Bool) : PT :=
  (pif t_18 (parse_reader_clause.s78 Z Q r_0 had_1 t_4 t_5 c_6) (cal Tryd.prog Z 38 [(Value.pointer r_0), (Value.int .i64 8)] (isU (parse_reader_clause.s78 Z Q r_0 had_1 t_4 t_5 c_6))))
def parse_reader_clause.q89 (Z : List PanicEntry → PT) (Q : List Value → PT) : QF := thenK (parse_reader_clause.j79 Z Q) (parse_reader_clause.q21 Z Q)
def parse_reader_clause.q90 (Z : List PanicEntry → PT) (Q : List Value → PT) : QF := inBl 0 (parse_reader_clause.q89 Z Q)
theorem parse_reader_clause.s88_eq (Z : List PanicEntry → PT) (Q : List Value → PT) (ρ : Fr) (r_0 : Option Addr) (had_1 : Option Nat) (t_4 : Addr) (t_5 : Addr) (c_6 : Addr) (t_18 : Bool) : comp Tryd.prog Z parse_reader_clause.c86 (parse_reader_clause.q90 Z Q) (puts ρ [(0, (Value.pointer r_0)), (1, (Value.map had_1)), (4, (Value.pointer (some t_4))), (5, (Value.pointer (some t_5))), (6, (Value.pointer (some c_6))), (18, (Value.bool t_18))]) = parse_reader_clause.s88 Z Q r_0 had_1 t_4 t_5 c_6 t_18 := by kernel_rfl
def parse_reader_clause.j91 (Z : List PanicEntry → PT) (Q : List Value → PT) : Fr → PT := (fun ρ => atP (ρ 0) fun r_0 => atM (ρ 1) fun had_1 => atA (ρ 4) fun t_4 => atA (ρ 5) fun t_5 => atA (ρ 6) fun c_6 => atB (ρ 18) fun t_18 => (parse_reader_clause.s88 Z Q r_0 had_1 t_4 t_5 c_6 t_18))
theorem parse_reader_clause.s88_ok (Z : List PanicEntry → PT) (Q : List Value → PT) : Ok Tryd.prog Tryd.f61.ntmps Z parse_reader_clause.c86 (parse_reader_clause.q90 Z Q) (parse_reader_clause.j91 Z Q) := by
  intro E he ρ w a hr h
  obtain ⟨r_0, e0, h⟩ := atP_e h
  obtain ⟨had_1, e1, h⟩ := atM_e h
  obtain ⟨t_4, e4, h⟩ := atA_e h
  obtain ⟨t_5, e5, h⟩ := atA_e h
  obtain ⟨c_6, e6, h⟩ := atA_e h
  obtain ⟨t_18, e18, h⟩ := atB_e h
  exact ok_at [(0, (Value.pointer r_0)), (1, (Value.map had_1)), (4, (Value.pointer (some t_4))), (5, (Value.pointer (some t_5))), (6, (Value.pointer (some c_6))), (18, (Value.bool t_18))] (okC parse_reader_clause.c86 (parse_reader_clause.q90 Z Q) (by kernel_rfl)) (puts_cons e0 (puts_cons e1 (puts_cons e4 (puts_cons e5 (puts_cons e6 (puts_cons e18 (fun p hp => puts_nil hp))))))) (parse_reader_clause.s88_eq Z Q ρ r_0 had_1 t_4 t_5 c_6 t_18) he hr h
def parse_reader_clause.s92 (Z : List PanicEntry → PT) (Q : List Value → PT) (r_0 : Option Addr) (had_1 : Option Nat) (t_4 : Addr) (t_5 : Addr) (c_6 : Addr) (t_15 : ByteArray) : PT :=
  (pif (t_15.toList == (⟨#[115, 114, 99]⟩ : ByteArray).toList) (parse_reader_clause.s88 Z Q r_0 had_1 t_4 t_5 c_6 (t_15.toList == (⟨#[115, 114, 99]⟩ : ByteArray).toList)) (pif (t_15.toList == (⟨#[100, 115, 116]⟩ : ByteArray).toList) (parse_reader_clause.s88 Z Q r_0 had_1 t_4 t_5 c_6 (t_15.toList == (⟨#[100, 115, 116]⟩ : ByteArray).toList)) (pif (t_15.toList == (⟨#[115, 112, 111, 114, 116]⟩ : ByteArray).toList) (parse_reader_clause.s88 Z Q r_0 had_1 t_4 t_5 c_6 (t_15.toList == (⟨#[115, 112, 111, 114, 116]⟩ : ByteArray).toList)) (pif (t_15.toList == (⟨#[100, 112, 111, 114, 116]⟩ : ByteArray).toList) (parse_reader_clause.s88 Z Q r_0 had_1 t_4 t_5 c_6 (t_15.toList == (⟨#[100, 112, 111, 114, 116]⟩ : ByteArray).toList)) (parse_reader_clause.s88 Z Q r_0 had_1 t_4 t_5 c_6 (t_15.toList == (⟨#[112, 114, 111, 116, 111]⟩ : ByteArray).toList))))))
theorem parse_reader_clause.s92_eq (Z : List PanicEntry → PT) (Q : List Value → PT) (ρ : Fr) (r_0 : Option Addr) (had_1 : Option Nat) (t_4 : Addr) (t_5 : Addr) (c_6 : Addr) (t_15 : ByteArray) : (comp Tryd.prog Z parse_reader_clause.c85 (thenK (parse_reader_clause.j91 Z Q) (parse_reader_clause.q90 Z Q))) (puts ρ [(0, (Value.pointer r_0)), (1, (Value.map had_1)), (4, (Value.pointer (some t_4))), (5, (Value.pointer (some t_5))), (6, (Value.pointer (some c_6))), (15, (Value.string t_15))]) = parse_reader_clause.s92 Z Q r_0 had_1 t_4 t_5 c_6 t_15 := by kernel_rfl
def parse_reader_clause.j93 (Z : List PanicEntry → PT) (Q : List Value → PT) : Fr → PT := (fun ρ => atP (ρ 0) fun r_0 => atM (ρ 1) fun had_1 => atA (ρ 4) fun t_4 => atA (ρ 5) fun t_5 => atA (ρ 6) fun c_6 => atS (ρ 15) fun t_15 => (parse_reader_clause.s92 Z Q r_0 had_1 t_4 t_5 c_6 t_15))
theorem parse_reader_clause.s92_ok (Z : List PanicEntry → PT) (Q : List Value → PT) : Ok Tryd.prog Tryd.f61.ntmps Z parse_reader_clause.c83 (parse_reader_clause.q90 Z Q) (parse_reader_clause.j93 Z Q) := by
  intro E he ρ w a hr h
  rw [parse_reader_clause.q87] at he ⊢
  obtain ⟨r_0, e0, h⟩ := atP_e h
  obtain ⟨had_1, e1, h⟩ := atM_e h
  obtain ⟨t_4, e4, h⟩ := atA_e h
  obtain ⟨t_5, e5, h⟩ := atA_e h
  obtain ⟨c_6, e6, h⟩ := atA_e h
  obtain ⟨t_15, e15, h⟩ := atS_e h
  exact ok_at [(0, (Value.pointer r_0)), (1, (Value.map had_1)), (4, (Value.pointer (some t_4))), (5, (Value.pointer (some t_5))), (6, (Value.pointer (some c_6))), (15, (Value.string t_15))] (ok_seq (okC parse_reader_clause.c85 _ (by kernel_rfl)) (parse_reader_clause.s88_ok Z Q)) (puts_cons e0 (puts_cons e1 (puts_cons e4 (puts_cons e5 (puts_cons e6 (puts_cons e15 (fun p hp => puts_nil hp))))))) (parse_reader_clause.s92_eq Z Q ρ r_0 had_1 t_4 t_5 c_6 t_15) he hr h
theorem parse_reader_clause.o94 (Z : List PanicEntry → PT) (Q : List Value → PT) : Ok Tryd.prog Tryd.f61.ntmps Z parse_reader_clause.c81 (parse_reader_clause.q89 Z Q) (parse_reader_clause.j93 Z Q) := by
  rw [parse_reader_clause.q84]; exact ok_block (parse_reader_clause.s92_ok Z Q)
def parse_reader_clause.s95 (Z : List PanicEntry → PT) (Q : List Value → PT) (r_0 : Option Addr) (had_1 : Option Nat) (t_4 : Addr) (t_5 : Addr) (c_6 : Addr) : PT :=
  (ldS (t_5.add 2) fun v69 => (parse_reader_clause.s92 Z Q r_0 had_1 t_4 t_5 c_6 v69))
theorem parse_reader_clause.s95_eq (Z : List PanicEntry → PT) (Q : List Value → PT) (ρ : Fr) (r_0 : Option Addr) (had_1 : Option Nat) (t_4 : Addr) (t_5 : Addr) (c_6 : Addr) : (comp Tryd.prog Z parse_reader_clause.c80 (thenK (parse_reader_clause.j93 Z Q) (parse_reader_clause.q89 Z Q))) (puts ρ [(0, (Value.pointer r_0)), (1, (Value.map had_1)), (4, (Value.pointer (some t_4))), (5, (Value.pointer (some t_5))), (6, (Value.pointer (some c_6)))]) = parse_reader_clause.s95 Z Q r_0 had_1 t_4 t_5 c_6 := by kernel_rfl
def parse_reader_clause.j96 (Z : List PanicEntry → PT) (Q : List Value → PT) : Fr → PT := (fun ρ => atP (ρ 0) fun r_0 => atM (ρ 1) fun had_1 => atA (ρ 4) fun t_4 => atA (ρ 5) fun t_5 => atA (ρ 6) fun c_6 => (parse_reader_clause.s95 Z Q r_0 had_1 t_4 t_5 c_6))
theorem parse_reader_clause.s95_ok (Z : List PanicEntry → PT) (Q : List Value → PT) : Ok Tryd.prog Tryd.f61.ntmps Z parse_reader_clause.c6 (parse_reader_clause.q89 Z Q) (parse_reader_clause.j96 Z Q) := by
  intro E he ρ w a hr h
  rw [parse_reader_clause.q82] at he ⊢
  obtain ⟨r_0, e0, h⟩ := atP_e h
  obtain ⟨had_1, e1, h⟩ := atM_e h
  obtain ⟨t_4, e4, h⟩ := atA_e h
  obtain ⟨t_5, e5, h⟩ := atA_e h
  obtain ⟨c_6, e6, h⟩ := atA_e h
  exact ok_at [(0, (Value.pointer r_0)), (1, (Value.map had_1)), (4, (Value.pointer (some t_4))), (5, (Value.pointer (some t_5))), (6, (Value.pointer (some c_6)))] (ok_seq (okC parse_reader_clause.c80 _ (by kernel_rfl)) (parse_reader_clause.o94 Z Q)) (puts_cons e0 (puts_cons e1 (puts_cons e4 (puts_cons e5 (puts_cons e6 (fun p hp => puts_nil hp)))))) (parse_reader_clause.s95_eq Z Q ρ r_0 had_1 t_4 t_5 c_6) he hr h
theorem parse_reader_clause.o97 (Z : List PanicEntry → PT) (Q : List Value → PT) : Ok Tryd.prog Tryd.f61.ntmps Z parse_reader_clause.c4 (parse_reader_clause.q21 Z Q) (parse_reader_clause.j96 Z Q) := by
  rw [parse_reader_clause.q8]; exact ok_seq (parse_reader_clause.s95_ok Z Q) (parse_reader_clause.s78_ok Z Q)
def parse_reader_clause.s98 (Z : List PanicEntry → PT) (Q : List Value → PT) (r_0 : Option Addr) (had_1 : Option Nat) : PT :=
  (newC 55 [(Value.string ⟨#[]⟩), (Value.int .i64 0), (Value.slice none 0 0), (Value.bool false), (Value.bool false)] fun v70 => (cal Tryd.prog Z 59 [(Value.pointer r_0)] (isN fun v71 => (newC 79 [(Value.int .i64 0), (Value.int .i64 0), (Value.string ⟨#[]⟩), (Value.int .i64 0)] fun t72 => (stN 4 t72 v71 (ldS (t72.add 2) fun v73 => (ldI .i64 (t72.add 1) fun v74 => (newC 55 [(Value.string ⟨#[]⟩), (Value.int .i64 0), (Value.slice none 0 0), (Value.bool false), (Value.bool false)] fun c75 => (stN 5 c75 [(Value.string v73), (Value.int .i64 v74), (Value.slice none 0 0), (Value.bool false), (Value.bool false)] (parse_reader_clause.s95 Z Q r_0 had_1 v70 t72 c75))))))))))
theorem parse_reader_clause.s98_eq (Z : List PanicEntry → PT) (Q : List Value → PT) (ρ : Fr) (r_0 : Option Addr) (had_1 : Option Nat) : (comp Tryd.prog Z parse_reader_clause.c1 (thenK (comp Tryd.prog Z parse_reader_clause.c2 (thenK (comp Tryd.prog Z parse_reader_clause.c3 (thenK (parse_reader_clause.j96 Z Q) (parse_reader_clause.q21 Z Q))) (parse_reader_clause.q21 Z Q))) (parse_reader_clause.q21 Z Q))) (puts ρ [(0, (Value.pointer r_0)), (1, (Value.map had_1))]) = parse_reader_clause.s98 Z Q r_0 had_1 := by kernel_rfl
def parse_reader_clause.j99 (Z : List PanicEntry → PT) (Q : List Value → PT) : Fr → PT := (fun ρ => atP (ρ 0) fun r_0 => atM (ρ 1) fun had_1 => (parse_reader_clause.s98 Z Q r_0 had_1))
theorem parse_reader_clause.s98_ok (Z : List PanicEntry → PT) (Q : List Value → PT) : Ok Tryd.prog Tryd.f61.ntmps Z parse_reader_clause.body (parse_reader_clause.q21 Z Q) (parse_reader_clause.j99 Z Q) := by
  intro E he ρ w a hr h
  rw [parse_reader_clause.q5] at he ⊢
  obtain ⟨r_0, e0, h⟩ := atP_e h
  obtain ⟨had_1, e1, h⟩ := atM_e h
  exact ok_at [(0, (Value.pointer r_0)), (1, (Value.map had_1))] (ok_seq (okC parse_reader_clause.c1 _ (by kernel_rfl)) (ok_seq (okC parse_reader_clause.c2 _ (by kernel_rfl)) (ok_seq (okC parse_reader_clause.c3 _ (by kernel_rfl)) (parse_reader_clause.o97 Z Q)))) (puts_cons e0 (puts_cons e1 (fun p hp => puts_nil hp))) (parse_reader_clause.s98_eq Z Q ρ r_0 had_1) he hr h
def parse_reader_clause.F (Z : List PanicEntry → PT) (Q : List Value → PT) (r_0 : Option Addr) (had_1 : Option Nat) : PT :=
  (parse_reader_clause.s98 Z Q r_0 had_1)
theorem parse_reader_clause.vc (Z : List PanicEntry → PT) (Q : List Value → PT) (r_0 : Option Addr) (had_1 : Option Nat) (w : World) (h : parse_reader_clause.F Z Q r_0 had_1 w) : Calls Tryd.prog 61 ⟨[(Value.pointer r_0), (Value.map had_1)]⟩ w fun e w' => (∃ (r0 : List Value), e = .returned (.agg ⟨r0⟩) ∧ Q r0 w') ∨ ∃ c, e = .panicked c ∧ Z c w' := by
  refine (calls_of_ok (args := [(Value.pointer r_0), (Value.map had_1)]) (w := w) (rs := [.cell 4 55]) (fn := Tryd.f61) (c := parse_reader_clause.body) Tryd.func61 (by kernel_rfl) (by kernel_rfl) (Nat.le_of_ble_eq_true (by kernel_rfl)) (parse_reader_clause.s98_ok Z Q) (h)).mono fun e w' hR => ?_
  cases e with
  | returned v =>
    obtain ⟨va, rfl, hR⟩ := atN_e hR
    exact .inl ⟨va, rfl, hR⟩
  | panicked c => exact .inr ⟨c, rfl, hR⟩
  | outgrown => exact hR.elim
theorem parse_reader_clause.vc0 (Q : List Value → PT) (r_0 : Option Addr) (had_1 : Option Nat) (w : World) (h : parse_reader_clause.F Z0 Q r_0 had_1 w) : Calls Tryd.prog 61 ⟨[(Value.pointer r_0), (Value.map had_1)]⟩ w fun e w' => (∃ (r0 : List Value), e = .returned (.agg ⟨r0⟩) ∧ Q r0 w') :=
  (parse_reader_clause.vc Z0 Q r_0 had_1 w h).mono fun _ _ hR => hR.elim id fun ⟨_, _, hz⟩ => hz.elim
theorem parse_reader_clause.cal {Z : List PanicEntry → PT} {Q : List Value → PT} {r_0 : Option Addr} {had_1 : Option Nat} {w : World} (h : parse_reader_clause.F Z Q r_0 had_1 w) : Go.Proofs.YtllgjjldnnmjkaaDoor.cal Tryd.prog Z 61 [(Value.pointer r_0), (Value.map had_1)] (isN fun r0 => Q r0) w := by
  refine (parse_reader_clause.vc Z Q r_0 had_1 w h).mono fun e w' hR => ?_
  rcases hR with ⟨r0, rfl, h⟩ | ⟨c, rfl, h⟩
  · show (isN fun r0 => Q r0) (.agg ⟨r0⟩) w'
    exact ⟨_, rfl, h⟩
  · exact h

/-! ### (*milepost/parse.reader).line: function 39 -/
noncomputable def parse_reader_line.body : Code := bodyC Tryd.f39
noncomputable def parse_reader_line.c1 : Code := sq1 parse_reader_line.body
noncomputable def parse_reader_line.c2 : Code := sq1 (sq2 parse_reader_line.body)
noncomputable def parse_reader_line.c3 : Code := sq1 (sq2 (sq2 parse_reader_line.body))
noncomputable def parse_reader_line.c4 : Code := sq2 (sq2 (sq2 parse_reader_line.body))
theorem parse_reader_line.q5 : parse_reader_line.body = .seq parse_reader_line.c1 (.seq parse_reader_line.c2 (.seq parse_reader_line.c3 parse_reader_line.c4)) := by kernel_rfl
noncomputable def parse_reader_line.c6 : Code := sq1 parse_reader_line.c4
noncomputable def parse_reader_line.c7 : Code := sq2 parse_reader_line.c4
theorem parse_reader_line.q8 : parse_reader_line.c4 = .seq parse_reader_line.c6 parse_reader_line.c7 := by kernel_rfl
noncomputable def parse_reader_line.c9 : Code := sq1 parse_reader_line.c7
noncomputable def parse_reader_line.c10 : Code := sq2 parse_reader_line.c7
theorem parse_reader_line.q11 : parse_reader_line.c7 = .seq parse_reader_line.c9 parse_reader_line.c10 := by kernel_rfl
noncomputable def parse_reader_line.c12 : Code := sq1 parse_reader_line.c10
noncomputable def parse_reader_line.c13 : Code := sq2 parse_reader_line.c10
theorem parse_reader_line.q14 : parse_reader_line.c10 = .seq parse_reader_line.c12 parse_reader_line.c13 := by kernel_rfl
def parse_reader_line.s15 (Z : List PanicEntry → PT) (Q : List Value → PT) (r_0 : Option Addr) (t_2 : Addr) (x_4 : Addr) : PT :=
  (cal Tryd.prog Z 59 [(Value.pointer r_0)] (isN fun v38 => (newC 79 [(Value.int .i64 0), (Value.int .i64 0), (Value.string ⟨#[]⟩), (Value.int .i64 0)] fun t39 => (stN 4 t39 v38 (ldI .i64 (t39.add 0) fun v40 => (pif (v40 != 7) (ldI .i64 (t39.add 0) fun v41 => (pif (v41 != 0) (cal Tryd.prog Z 38 [(Value.pointer r_0), (Value.int .i64 8)] (isU (ldN 8 x_4 fun v42 => (stN 8 t_2 v42 (ldN 8 t_2 fun v43 => (Q v43)))))) (ldN 8 x_4 fun v44 => (stN 8 t_2 v44 (ldN 8 t_2 fun v45 => (Q v45)))))) (ldN 8 x_4 fun v46 => (stN 8 t_2 v46 (ldN 8 t_2 fun v47 => (Q v47))))))))))
def parse_reader_line.q16 (Z : List PanicEntry → PT) (Q : List Value → PT) : QF := bodyQ Tryd.prog [.cell 2 52] (fun v => atN v fun va => Q va)
theorem parse_reader_line.s15_eq (Z : List PanicEntry → PT) (Q : List Value → PT) (ρ : Fr) (r_0 : Option Addr) (t_2 : Addr) (x_4 : Addr) : comp Tryd.prog Z parse_reader_line.c13 (parse_reader_line.q16 Z Q) (puts ρ [(0, (Value.pointer r_0)), (2, (Value.pointer (some t_2))), (4, (Value.pointer (some x_4)))]) = parse_reader_line.s15 Z Q r_0 t_2 x_4 := by kernel_rfl
def parse_reader_line.j17 (Z : List PanicEntry → PT) (Q : List Value → PT) : Fr → PT := (fun ρ => atP (ρ 0) fun r_0 => atA (ρ 2) fun t_2 => atA (ρ 4) fun x_4 => (parse_reader_line.s15 Z Q r_0 t_2 x_4))
theorem parse_reader_line.s15_ok (Z : List PanicEntry → PT) (Q : List Value → PT) : Ok Tryd.prog Tryd.f39.ntmps Z parse_reader_line.c13 (parse_reader_line.q16 Z Q) (parse_reader_line.j17 Z Q) := by
  intro E he ρ w a hr h
  obtain ⟨r_0, e0, h⟩ := atP_e h
  obtain ⟨t_2, e2, h⟩ := atA_e h
  obtain ⟨x_4, e4, h⟩ := atA_e h
  exact ok_at [(0, (Value.pointer r_0)), (2, (Value.pointer (some t_2))), (4, (Value.pointer (some x_4)))] (okC parse_reader_line.c13 (parse_reader_line.q16 Z Q) (by kernel_rfl)) (puts_cons e0 (puts_cons e2 (puts_cons e4 (fun p hp => puts_nil hp)))) (parse_reader_line.s15_eq Z Q ρ r_0 t_2 x_4) he hr h
noncomputable def parse_reader_line.c18 : Code := sq1 parse_reader_line.c12
noncomputable def parse_reader_line.c19 : Code := sq2 parse_reader_line.c12
theorem parse_reader_line.q20 : parse_reader_line.c12 = .seq parse_reader_line.c18 parse_reader_line.c19 := by kernel_rfl
noncomputable def parse_reader_line.c21 : Code := blk parse_reader_line.c19
theorem parse_reader_line.q22 : parse_reader_line.c19 = .block 2 parse_reader_line.c21 := by kernel_rfl
noncomputable def parse_reader_line.c23 : Code := sq1 parse_reader_line.c21
noncomputable def parse_reader_line.c24 : Code := sq2 parse_reader_line.c21
theorem parse_reader_line.q25 : parse_reader_line.c21 = .seq parse_reader_line.c23 parse_reader_line.c24 := by kernel_rfl
def parse_reader_line.s26 (Z : List PanicEntry → PT) (Q : List Value → PT) (r_0 : Option Addr) (t_2 : Addr) (x_4 : Addr) (t_6 : Addr) (t_51 : Bool) : PT :=
  (pif t_51 (st1 (x_4.add 5) (Value.bool true) (nn r_0 fun v65 => (ldI .i64 (v65.add 1) fun v66 => (nn r_0 fun v67 => (st1 (v67.add 1) (Value.int .i64 (IntKind.wrap .i64 (v66 + 1))) (parse_reader_line.s15 Z Q r_0 t_2 x_4)))))) (ldI .i64 (t_6.add 0) fun v68 => (pif (v68 == 1) (ldS (t_6.add 2) fun v69 => (pif (v69.toList == (⟨#[112, 111, 114, 116]⟩ : ByteArray).toList) (nn r_0 fun v70 => (ldI .i64 (v70.add 1) fun v71 => (nn r_0 fun v72 => (st1 (v72.add 1) (Value.int .i64 (IntKind.wrap .i64 (v71 + 1))) (cal Tryd.prog Z 60 [(Value.pointer r_0)] (isN fun v73 => (stN 2 (x_4.add 6) v73 (parse_reader_line.s15 Z Q r_0 t_2 x_4)))))))) (cal Tryd.prog Z 38 [(Value.pointer r_0), (Value.int .i64 8)] (isU (parse_reader_line.s15 Z Q r_0 t_2 x_4))))) (cal Tryd.prog Z 38 [(Value.pointer r_0), (Value.int .i64 8)] (isU (parse_reader_line.s15 Z Q r_0 t_2 x_4))))))
def parse_reader_line.q27 (Z : List PanicEntry → PT) (Q : List Value → PT) : QF := thenK (parse_reader_line.j17 Z Q) (parse_reader_line.q16 Z Q)
def parse_reader_line.q28 (Z : List PanicEntry → PT) (Q : List Value → PT) : QF := inBl 2 (parse_reader_line.q27 Z Q)
theorem parse_reader_line.s26_eq (Z : List PanicEntry → PT) (Q : List Value → PT) (ρ : Fr) (r_0 : Option Addr) (t_2 : Addr) (x_4 : Addr) (t_6 : Addr) (t_51 : Bool) : comp Tryd.prog Z parse_reader_line.c24 (parse_reader_line.q28 Z Q) (puts ρ [(0, (Value.pointer r_0)), (2, (Value.pointer (some t_2))), (4, (Value.pointer (some x_4))), (6, (Value.pointer (some t_6))), (51, (Value.bool t_51))]) = parse_reader_line.s26 Z Q r_0 t_2 x_4 t_6 t_51 := by kernel_rfl
def parse_reader_line.j29 (Z : List PanicEntry → PT) (Q : List Value → PT) : Fr → PT := (fun ρ => atP (ρ 0) fun r_0 => atA (ρ 2) fun t_2 => atA (ρ 4) fun x_4 => atA (ρ 6) fun t_6 => atB (ρ 51) fun t_51 => (parse_reader_line.s26 Z Q r_0 t_2 x_4 t_6 t_51))
theorem parse_reader_line.s26_ok (Z : List PanicEntry → PT) (Q : List Value → PT) : Ok Tryd.prog Tryd.f39.ntmps Z parse_reader_line.c24 (parse_reader_line.q28 Z Q) (parse_reader_line.j29 Z Q) := by
  intro E he ρ w a hr h
  obtain ⟨r_0, e0, h⟩ := atP_e h
  obtain ⟨t_2, e2, h⟩ := atA_e h
  obtain ⟨x_4, e4, h⟩ := atA_e h
  obtain ⟨t_6, e6, h⟩ := atA_e h
  obtain ⟨t_51, e51, h⟩ := atB_e h
  exact ok_at [(0, (Value.pointer r_0)), (2, (Value.pointer (some t_2))), (4, (Value.pointer (some x_4))), (6, (Value.pointer (some t_6))), (51, (Value.bool t_51))] (okC parse_reader_line.c24 (parse_reader_line.q28 Z Q) (by kernel_rfl)) (puts_cons e0 (puts_cons e2 (puts_cons e4 (puts_cons e6 (puts_cons e51 (fun p hp => puts_nil hp)))))) (parse_reader_line.s26_eq Z Q ρ r_0 t_2 x_4 t_6 t_51) he hr h
def parse_reader_line.s30 (Z : List PanicEntry → PT) (Q : List Value → PT) (r_0 : Option Addr) (t_2 : Addr) (x_4 : Addr) (t_6 : Addr) : PT :=
  (ldI .i64 (t_6.add 0) fun v74 => (pif (v74 == 1) (ldS (t_6.add 2) fun v75 => (parse_reader_line.s26 Z Q r_0 t_2 x_4 t_6 (v75.toList == (⟨#[100, 114, 111, 112]⟩ : ByteArray).toList))) (parse_reader_line.s26 Z Q r_0 t_2 x_4 t_6 false)))
theorem parse_reader_line.s30_eq (Z : List PanicEntry → PT) (Q : List Value → PT) (ρ : Fr) (r_0 : Option Addr) (t_2 : Addr) (x_4 : Addr) (t_6 : Addr) : (comp Tryd.prog Z parse_reader_line.c23 (thenK (parse_reader_line.j29 Z Q) (parse_reader_line.q28 Z Q))) (puts ρ [(0, (Value.pointer r_0)), (2, (Value.pointer (some t_2))), (4, (Value.pointer (some x_4))), (6, (Value.pointer (some t_6)))]) = parse_reader_line.s30 Z Q r_0 t_2 x_4 t_6 := by kernel_rfl
def parse_reader_line.j31 (Z : List PanicEntry → PT) (Q : List Value → PT) : Fr → PT := (fun ρ => atP (ρ 0) fun r_0 => atA (ρ 2) fun t_2 => atA (ρ 4) fun x_4 => atA (ρ 6) fun t_6 => (parse_reader_line.s30 Z Q r_0 t_2 x_4 t_6))
theorem parse_reader_line.s30_ok (Z : List PanicEntry → PT) (Q : List Value → PT) : Ok Tryd.prog Tryd.f39.ntmps Z parse_reader_line.c21 (parse_reader_line.q28 Z Q) (parse_reader_line.j31 Z Q) := by
  intro E he ρ w a hr h
  rw [parse_reader_line.q25] at he ⊢
  obtain ⟨r_0, e0, h⟩ := atP_e h
  obtain ⟨t_2, e2, h⟩ := atA_e h
  obtain ⟨x_4, e4, h⟩ := atA_e h
  obtain ⟨t_6, e6, h⟩ := atA_e h
  exact ok_at [(0, (Value.pointer r_0)), (2, (Value.pointer (some t_2))), (4, (Value.pointer (some x_4))), (6, (Value.pointer (some t_6)))] (ok_seq (okC parse_reader_line.c23 _ (by kernel_rfl)) (parse_reader_line.s26_ok Z Q)) (puts_cons e0 (puts_cons e2 (puts_cons e4 (puts_cons e6 (fun p hp => puts_nil hp))))) (parse_reader_line.s30_eq Z Q ρ r_0 t_2 x_4 t_6) he hr h
theorem parse_reader_line.o32 (Z : List PanicEntry → PT) (Q : List Value → PT) : Ok Tryd.prog Tryd.f39.ntmps Z parse_reader_line.c19 (parse_reader_line.q27 Z Q) (parse_reader_line.j31 Z Q) := by
  rw [parse_reader_line.q22]; exact ok_block (parse_reader_line.s30_ok Z Q)
def parse_reader_line.s33 (Z : List PanicEntry → PT) (Q : List Value → PT) (r_0 : Option Addr) (t_2 : Addr) (x_4 : Addr) : PT :=
  (cal Tryd.prog Z 59 [(Value.pointer r_0)] (isN fun v76 => (newC 79 [(Value.int .i64 0), (Value.int .i64 0), (Value.string ⟨#[]⟩), (Value.int .i64 0)] fun t77 => (stN 4 t77 v76 (parse_reader_line.s30 Z Q r_0 t_2 x_4 t77)))))
theorem parse_reader_line.s33_eq (Z : List PanicEntry → PT) (Q : List Value → PT) (ρ : Fr) (r_0 : Option Addr) (t_2 : Addr) (x_4 : Addr) : (comp Tryd.prog Z parse_reader_line.c18 (thenK (parse_reader_line.j31 Z Q) (parse_reader_line.q27 Z Q))) (puts ρ [(0, (Value.pointer r_0)), (2, (Value.pointer (some t_2))), (4, (Value.pointer (some x_4)))]) = parse_reader_line.s33 Z Q r_0 t_2 x_4 := by kernel_rfl
def parse_reader_line.j34 (Z : List PanicEntry → PT) (Q : List Value → PT) : Fr → PT := (fun ρ => atP (ρ 0) fun r_0 => atA (ρ 2) fun t_2 => atA (ρ 4) fun x_4 => (parse_reader_line.s33 Z Q r_0 t_2 x_4))
theorem parse_reader_line.s33_ok (Z : List PanicEntry → PT) (Q : List Value → PT) : Ok Tryd.prog Tryd.f39.ntmps Z parse_reader_line.c12 (parse_reader_line.q27 Z Q) (parse_reader_line.j34 Z Q) := by
  intro E he ρ w a hr h
  rw [parse_reader_line.q20] at he ⊢
  obtain ⟨r_0, e0, h⟩ := atP_e h
  obtain ⟨t_2, e2, h⟩ := atA_e h
  obtain ⟨x_4, e4, h⟩ := atA_e h
  exact ok_at [(0, (Value.pointer r_0)), (2, (Value.pointer (some t_2))), (4, (Value.pointer (some x_4)))] (ok_seq (okC parse_reader_line.c18 _ (by kernel_rfl)) (parse_reader_line.o32 Z Q)) (puts_cons e0 (puts_cons e2 (puts_cons e4 (fun p hp => puts_nil hp)))) (parse_reader_line.s33_eq Z Q ρ r_0 t_2 x_4) he hr h
theorem parse_reader_line.o35 (Z : List PanicEntry → PT) (Q : List Value → PT) : Ok Tryd.prog Tryd.f39.ntmps Z parse_reader_line.c10 (parse_reader_line.q16 Z Q) (parse_reader_line.j34 Z Q) := by
  rw [parse_reader_line.q14]; exact ok_seq (parse_reader_line.s33_ok Z Q) (parse_reader_line.s15_ok Z Q)
def parse_reader_line.s36 (Z : List PanicEntry → PT) (Q : List Value → PT) (r_0 : Option Addr) (t_2 : Addr) (x_4 : Addr) : PT :=
  (cal Tryd.prog Z 62 [(Value.pointer r_0), (Value.int .i64 6)] (isN fun v78 => (parse_reader_line.s33 Z Q r_0 t_2 x_4)))
theorem parse_reader_line.s36_eq (Z : List PanicEntry → PT) (Q : List Value → PT) (ρ : Fr) (r_0 : Option Addr) (t_2 : Addr) (x_4 : Addr) : (comp Tryd.prog Z parse_reader_line.c9 (thenK (parse_reader_line.j34 Z Q) (parse_reader_line.q16 Z Q))) (puts ρ [(0, (Value.pointer r_0)), (2, (Value.pointer (some t_2))), (4, (Value.pointer (some x_4)))]) = parse_reader_line.s36 Z Q r_0 t_2 x_4 := by kernel_rfl
def parse_reader_line.j37 (Z : List PanicEntry → PT) (Q : List Value → PT) : Fr → PT := (fun ρ => atP (ρ 0) fun r_0 => atA (ρ 2) fun t_2 => atA (ρ 4) fun x_4 => (parse_reader_line.s36 Z Q r_0 t_2 x_4))
theorem parse_reader_line.s36_ok (Z : List PanicEntry → PT) (Q : List Value → PT) : Ok Tryd.prog Tryd.f39.ntmps Z parse_reader_line.c7 (parse_reader_line.q16 Z Q) (parse_reader_line.j37 Z Q) := by
  intro E he ρ w a hr h
  rw [parse_reader_line.q11] at he ⊢
  obtain ⟨r_0, e0, h⟩ := atP_e h
  obtain ⟨t_2, e2, h⟩ := atA_e h
  obtain ⟨x_4, e4, h⟩ := atA_e h
  exact ok_at [(0, (Value.pointer r_0)), (2, (Value.pointer (some t_2))), (4, (Value.pointer (some x_4)))] (ok_seq (okC parse_reader_line.c9 _ (by kernel_rfl)) (parse_reader_line.o35 Z Q)) (puts_cons e0 (puts_cons e2 (puts_cons e4 (fun p hp => puts_nil hp)))) (parse_reader_line.s36_eq Z Q ρ r_0 t_2 x_4) he hr h
noncomputable def parse_reader_line.c38 : Code := sq1 parse_reader_line.c6
noncomputable def parse_reader_line.c39 : Code := sq2 parse_reader_line.c6
theorem parse_reader_line.q40 : parse_reader_line.c6 = .seq parse_reader_line.c38 parse_reader_line.c39 := by kernel_rfl
noncomputable def parse_reader_line.c41 : Code := cn1 parse_reader_line.c39
noncomputable def parse_reader_line.c42 : Code := cn2 parse_reader_line.c39
theorem parse_reader_line.q43 : parse_reader_line.c39 = .cond (.tmp 20) parse_reader_line.c41 parse_reader_line.c42 := by kernel_rfl
def parse_reader_line.s44 (Z : List PanicEntry → PT) (Q : List Value → PT) (r_0 : Option Addr) (t_2 : Addr) (x_4 : Addr) : PT :=
  (st1 (x_4.add 1) (Value.bool true) (nn r_0 fun v81 => (ldI .i64 (v81.add 1) fun v82 => (nn r_0 fun v83 => (st1 (v83.add 1) (Value.int .i64 (IntKind.wrap .i64 (v82 + 1))) (parse_reader_line.s36 Z Q r_0 t_2 x_4))))))
def parse_reader_line.q45 (Z : List PanicEntry → PT) (Q : List Value → PT) : QF := thenK (parse_reader_line.j37 Z Q) (parse_reader_line.q16 Z Q)
theorem parse_reader_line.s44_eq (Z : List PanicEntry → PT) (Q : List Value → PT) (ρ : Fr) (r_0 : Option Addr) (t_2 : Addr) (x_4 : Addr) : comp Tryd.prog Z parse_reader_line.c41 (parse_reader_line.q45 Z Q) (puts ρ [(0, (Value.pointer r_0)), (2, (Value.pointer (some t_2))), (4, (Value.pointer (some x_4)))]) = parse_reader_line.s44 Z Q r_0 t_2 x_4 := by kernel_rfl
def parse_reader_line.j46 (Z : List PanicEntry → PT) (Q : List Value → PT) : Fr → PT := (fun ρ => atP (ρ 0) fun r_0 => atA (ρ 2) fun t_2 => atA (ρ 4) fun x_4 => (parse_reader_line.s44 Z Q r_0 t_2 x_4))
theorem parse_reader_line.s44_ok (Z : List PanicEntry → PT) (Q : List Value → PT) : Ok Tryd.prog Tryd.f39.ntmps Z parse_reader_line.c41 (parse_reader_line.q45 Z Q) (parse_reader_line.j46 Z Q) := by
  intro E he ρ w a hr h
  obtain ⟨r_0, e0, h⟩ := atP_e h
  obtain ⟨t_2, e2, h⟩ := atA_e h
  obtain ⟨x_4, e4, h⟩ := atA_e h
  exact ok_at [(0, (Value.pointer r_0)), (2, (Value.pointer (some t_2))), (4, (Value.pointer (some x_4)))] (okC parse_reader_line.c41 (parse_reader_line.q45 Z Q) (by kernel_rfl)) (puts_cons e0 (puts_cons e2 (puts_cons e4 (fun p hp => puts_nil hp)))) (parse_reader_line.s44_eq Z Q ρ r_0 t_2 x_4) he hr h
noncomputable def parse_reader_line.c47 : Code := sq1 parse_reader_line.c42
noncomputable def parse_reader_line.c48 : Code := sq1 (sq2 parse_reader_line.c42)
noncomputable def parse_reader_line.c49 : Code := sq2 (sq2 parse_reader_line.c42)
theorem parse_reader_line.q50 : parse_reader_line.c42 = .seq parse_reader_line.c47 (.seq parse_reader_line.c48 parse_reader_line.c49) := by kernel_rfl
noncomputable def parse_reader_line.c51 : Code := blk parse_reader_line.c49
theorem parse_reader_line.q52 : parse_reader_line.c49 = .block 0 parse_reader_line.c51 := by kernel_rfl
noncomputable def parse_reader_line.c53 : Code := lop parse_reader_line.c51
theorem parse_reader_line.q54 : parse_reader_line.c51 = .loop parse_reader_line.c53 := by kernel_rfl
def parse_reader_line.q56 (Z : List PanicEntry → PT) (Q : List Value → PT) : QF := inBl 0 (parse_reader_line.q45 Z Q)
def parse_reader_line.s57 (Z : List PanicEntry → PT) (Q : List Value → PT) (X1 : Option Addr → Addr → Addr → Option Nat → PT) (r_0 : Option Addr) (t_2 : Addr) (x_4 : Addr) (had_5 : Option Nat) : PT :=
  (cal Tryd.prog Z 59 [(Value.pointer r_0)] (isN fun v91 => (ptI .i64 v91 0 fun v92 => (pif (v92 == 1) (drawn fun S93 => (hL S93 (x_4.add 4) fun v94 v94n v94c => (cal Tryd.prog Z 61 [(Value.pointer r_0), (Value.map had_5)] (isN fun v95 => (sAnd S93 (cnd (List.length v95 = 5) (newC 55 (v95 ++ ([])) fun v96 => (sAnd S93 (runL Tryd.prog (bi .append #[50, 50] 50 [false, false] [(Value.slice v94 v94n v94c), (Value.slice (some v96) 1 1)]) fun v97 v97n v97c => (sAnd S93 (st1 (x_4.add 4) (Value.slice v97 v97n v97c) (X1 r_0 t_2 x_4 had_5)))))))))))) (parse_reader_line.s36 Z Q r_0 t_2 x_4)))))
def parse_reader_line.j58 (Z : List PanicEntry → PT) (Q : List Value → PT) (X1 : Option Addr → Addr → Addr → Option Nat → PT) : Fr → PT := (fun ρ => atP (ρ 0) fun r_0 => atA (ρ 2) fun t_2 => atA (ρ 4) fun x_4 => atM (ρ 5) fun had_5 => (X1 r_0 t_2 x_4 had_5))
def parse_reader_line.q59 (Z : List PanicEntry → PT) (Q : List Value → PT) (X1 : Option Addr → Addr → Addr → Option Nat → PT) : QF := thenK (parse_reader_line.j58 Z Q X1) (parse_reader_line.q56 Z Q)
theorem parse_reader_line.s57_eq (Z : List PanicEntry → PT) (Q : List Value → PT) (X1 : Option Addr → Addr → Addr → Option Nat → PT) (ρ : Fr) (r_0 : Option Addr) (t_2 : Addr) (x_4 : Addr) (had_5 : Option Nat) : comp Tryd.prog Z parse_reader_line.c53 (parse_reader_line.q59 Z Q X1) (puts ρ [(0, (Value.pointer r_0)), (2, (Value.pointer (some t_2))), (4, (Value.pointer (some x_4))), (5, (Value.map had_5))]) = parse_reader_line.s57 Z Q X1 r_0 t_2 x_4 had_5 := by kernel_rfl
def parse_reader_line.j60 (Z : List PanicEntry → PT) (Q : List Value → PT) (X1 : Option Addr → Addr → Addr → Option Nat → PT) : Fr → PT := (fun ρ => atP (ρ 0) fun r_0 => atA (ρ 2) fun t_2 => atA (ρ 4) fun x_4 => atM (ρ 5) fun had_5 => (parse_reader_line.s57 Z Q X1 r_0 t_2 x_4 had_5))
theorem parse_reader_line.s57_ok (Z : List PanicEntry → PT) (Q : List Value → PT) (X1 : Option Addr → Addr → Addr → Option Nat → PT) : Ok Tryd.prog Tryd.f39.ntmps Z parse_reader_line.c53 (parse_reader_line.q59 Z Q X1) (parse_reader_line.j60 Z Q X1) := by
  intro E he ρ w a hr h
  obtain ⟨r_0, e0, h⟩ := atP_e h
  obtain ⟨t_2, e2, h⟩ := atA_e h
  obtain ⟨x_4, e4, h⟩ := atA_e h
  obtain ⟨had_5, e5, h⟩ := atM_e h
  exact ok_at [(0, (Value.pointer r_0)), (2, (Value.pointer (some t_2))), (4, (Value.pointer (some x_4))), (5, (Value.map had_5))] (okC parse_reader_line.c53 (parse_reader_line.q59 Z Q X1) (by kernel_rfl)) (puts_cons e0 (puts_cons e2 (puts_cons e4 (puts_cons e5 (fun p hp => puts_nil hp))))) (parse_reader_line.s57_eq Z Q X1 ρ r_0 t_2 x_4 had_5) he hr h
def parse_reader_line.l55 (Z : List PanicEntry → PT) (Q : List Value → PT) : Nat → Option Addr → Addr → Addr → Option Nat → PT
  | 0, _, _, _, _ => bad
  | k + 1, r_0, t_2, x_4, had_5 => (parse_reader_line.s57 Z Q (parse_reader_line.l55 Z Q k) r_0 t_2 x_4 had_5)
def parse_reader_line.j61 (Z : List PanicEntry → PT) (Q : List Value → PT) (k : Nat) : Fr → PT := (fun ρ => atP (ρ 0) fun r_0 => atA (ρ 2) fun t_2 => atA (ρ 4) fun x_4 => atM (ρ 5) fun had_5 => (parse_reader_line.l55 Z Q k r_0 t_2 x_4 had_5))
def parse_reader_line.j62 (Z : List PanicEntry → PT) (Q : List Value → PT) : Fr → PT := (fun ρ => atP (ρ 0) fun r_0 => atA (ρ 2) fun t_2 => atA (ρ 4) fun x_4 => atM (ρ 5) fun had_5 => (exK fun k => parse_reader_line.l55 Z Q k r_0 t_2 x_4 had_5))
theorem parse_reader_line.o63 (Z : List PanicEntry → PT) (Q : List Value → PT) : Ok Tryd.prog Tryd.f39.ntmps Z parse_reader_line.c51 (parse_reader_line.q56 Z Q) (parse_reader_line.j62 Z Q) := by
  rw [parse_reader_line.q54]
  refine Ok.imp (ok_loop (J := parse_reader_line.j61 Z Q) ?_ ?_) ?_
  · intro ρ w h
    obtain ⟨r_0, e0, h⟩ := atP_e h
    obtain ⟨t_2, e2, h⟩ := atA_e h
    obtain ⟨x_4, e4, h⟩ := atA_e h
    obtain ⟨had_5, e5, h⟩ := atM_e h
    exact h
  · intro k
    refine Ok.imp (parse_reader_line.s57_ok Z Q (parse_reader_line.l55 Z Q k)) fun ρ w h => ?_
    obtain ⟨r_0, e0, h⟩ := atP_e h
    obtain ⟨t_2, e2, h⟩ := atA_e h
    obtain ⟨x_4, e4, h⟩ := atA_e h
    obtain ⟨had_5, e5, h⟩ := atM_e h
    show (parse_reader_line.j60 Z Q (parse_reader_line.l55 Z Q k)) ρ w
    simp only [parse_reader_line.j60]
    rw [e0]
    rw [e2]
    rw [e4]
    rw [e5]
    exact h
  · intro ρ w h
    obtain ⟨r_0, e0, h⟩ := atP_e h
    obtain ⟨t_2, e2, h⟩ := atA_e h
    obtain ⟨x_4, e4, h⟩ := atA_e h
    obtain ⟨had_5, e5, h⟩ := atM_e h
    obtain ⟨k, h⟩ := h
    refine ⟨k, ?_⟩
    show (atP (ρ 0) fun r_0 => atA (ρ 2) fun t_2 => atA (ρ 4) fun x_4 => atM (ρ 5) fun had_5 => (parse_reader_line.l55 Z Q k r_0 t_2 x_4 had_5)) w
    rw [e0]
    rw [e2]
    rw [e4]
    rw [e5]
    exact h
theorem parse_reader_line.o64 (Z : List PanicEntry → PT) (Q : List Value → PT) : Ok Tryd.prog Tryd.f39.ntmps Z parse_reader_line.c49 (parse_reader_line.q45 Z Q) (parse_reader_line.j62 Z Q) := by
  rw [parse_reader_line.q52]; exact ok_block (parse_reader_line.o63 Z Q)
def parse_reader_line.s65 (Z : List PanicEntry → PT) (Q : List Value → PT) (r_0 : Option Addr) (t_2 : Addr) (x_4 : Addr) : PT :=
  (cal Tryd.prog Z 60 [(Value.pointer r_0)] (isN fun v98 => (stN 2 (x_4.add 2) v98 (runM Tryd.prog (Instr.makeMap 109 none) fun v99 => (exK fun k => parse_reader_line.l55 Z Q k r_0 t_2 x_4 v99)))))
theorem parse_reader_line.s65_eq (Z : List PanicEntry → PT) (Q : List Value → PT) (ρ : Fr) (r_0 : Option Addr) (t_2 : Addr) (x_4 : Addr) : (comp Tryd.prog Z parse_reader_line.c47 (thenK (comp Tryd.prog Z parse_reader_line.c48 (thenK (parse_reader_line.j62 Z Q) (parse_reader_line.q45 Z Q))) (parse_reader_line.q45 Z Q))) (puts ρ [(0, (Value.pointer r_0)), (2, (Value.pointer (some t_2))), (4, (Value.pointer (some x_4)))]) = parse_reader_line.s65 Z Q r_0 t_2 x_4 := by kernel_rfl
def parse_reader_line.j66 (Z : List PanicEntry → PT) (Q : List Value → PT) : Fr → PT := (fun ρ => atP (ρ 0) fun r_0 => atA (ρ 2) fun t_2 => atA (ρ 4) fun x_4 => (parse_reader_line.s65 Z Q r_0 t_2 x_4))
theorem parse_reader_line.s65_ok (Z : List PanicEntry → PT) (Q : List Value → PT) : Ok Tryd.prog Tryd.f39.ntmps Z parse_reader_line.c42 (parse_reader_line.q45 Z Q) (parse_reader_line.j66 Z Q) := by
  intro E he ρ w a hr h
  rw [parse_reader_line.q50] at he ⊢
  obtain ⟨r_0, e0, h⟩ := atP_e h
  obtain ⟨t_2, e2, h⟩ := atA_e h
  obtain ⟨x_4, e4, h⟩ := atA_e h
  exact ok_at [(0, (Value.pointer r_0)), (2, (Value.pointer (some t_2))), (4, (Value.pointer (some x_4)))] (ok_seq (okC parse_reader_line.c47 _ (by kernel_rfl)) (ok_seq (okC parse_reader_line.c48 _ (by kernel_rfl)) (parse_reader_line.o64 Z Q))) (puts_cons e0 (puts_cons e2 (puts_cons e4 (fun p hp => puts_nil hp)))) (parse_reader_line.s65_eq Z Q ρ r_0 t_2 x_4) he hr h
theorem parse_reader_line.o67 (Z : List PanicEntry → PT) (Q : List Value → PT) : Ok Tryd.prog Tryd.f39.ntmps Z parse_reader_line.c39 (parse_reader_line.q45 Z Q) (condJ (.tmp 20) (parse_reader_line.j46 Z Q) (parse_reader_line.j66 Z Q)) := by
  rw [parse_reader_line.q43]; exact ok_cond (parse_reader_line.s44_ok Z Q) (parse_reader_line.s65_ok Z Q)
def parse_reader_line.s68 (Z : List PanicEntry → PT) (Q : List Value → PT) (r_0 : Option Addr) (t_2 : Addr) (t_3 : Addr) (x_4 : Addr) : PT :=
  (ldI .i64 (t_3.add 0) fun v100 => (pif (v100 == 1) (ldS (t_3.add 2) fun v101 => (pif (v101.toList == (⟨#[100, 101, 102, 97, 117, 108, 116]⟩ : ByteArray).toList) (parse_reader_line.s44 Z Q r_0 t_2 x_4) (parse_reader_line.s65 Z Q r_0 t_2 x_4))) (parse_reader_line.s65 Z Q r_0 t_2 x_4)))
theorem parse_reader_line.s68_eq (Z : List PanicEntry → PT) (Q : List Value → PT) (ρ : Fr) (r_0 : Option Addr) (t_2 : Addr) (t_3 : Addr) (x_4 : Addr) : (comp Tryd.prog Z parse_reader_line.c38 (thenK (condJ (.tmp 20) (parse_reader_line.j46 Z Q) (parse_reader_line.j66 Z Q)) (parse_reader_line.q45 Z Q))) (puts ρ [(0, (Value.pointer r_0)), (2, (Value.pointer (some t_2))), (3, (Value.pointer (some t_3))), (4, (Value.pointer (some x_4)))]) = parse_reader_line.s68 Z Q r_0 t_2 t_3 x_4 := by kernel_rfl
def parse_reader_line.j69 (Z : List PanicEntry → PT) (Q : List Value → PT) : Fr → PT := (fun ρ => atP (ρ 0) fun r_0 => atA (ρ 2) fun t_2 => atA (ρ 3) fun t_3 => atA (ρ 4) fun x_4 => (parse_reader_line.s68 Z Q r_0 t_2 t_3 x_4))
theorem parse_reader_line.s68_ok (Z : List PanicEntry → PT) (Q : List Value → PT) : Ok Tryd.prog Tryd.f39.ntmps Z parse_reader_line.c6 (parse_reader_line.q45 Z Q) (parse_reader_line.j69 Z Q) := by
  intro E he ρ w a hr h
  rw [parse_reader_line.q40] at he ⊢
  obtain ⟨r_0, e0, h⟩ := atP_e h
  obtain ⟨t_2, e2, h⟩ := atA_e h
  obtain ⟨t_3, e3, h⟩ := atA_e h
  obtain ⟨x_4, e4, h⟩ := atA_e h
  exact ok_at [(0, (Value.pointer r_0)), (2, (Value.pointer (some t_2))), (3, (Value.pointer (some t_3))), (4, (Value.pointer (some x_4)))] (ok_seq (okC parse_reader_line.c38 _ (by kernel_rfl)) (parse_reader_line.o67 Z Q)) (puts_cons e0 (puts_cons e2 (puts_cons e3 (puts_cons e4 (fun p hp => puts_nil hp))))) (parse_reader_line.s68_eq Z Q ρ r_0 t_2 t_3 x_4) he hr h
theorem parse_reader_line.o70 (Z : List PanicEntry → PT) (Q : List Value → PT) : Ok Tryd.prog Tryd.f39.ntmps Z parse_reader_line.c4 (parse_reader_line.q16 Z Q) (parse_reader_line.j69 Z Q) := by
  rw [parse_reader_line.q8]; exact ok_seq (parse_reader_line.s68_ok Z Q) (parse_reader_line.s36_ok Z Q)
def parse_reader_line.s71 (Z : List PanicEntry → PT) (Q : List Value → PT) (r_0 : Option Addr) : PT :=
  (newC 52 [(Value.int .i64 0), (Value.bool false), (Value.int .i64 0), (Value.int .i64 0), (Value.slice none 0 0), (Value.bool false), (Value.int .i64 0), (Value.int .i64 0)] fun v102 => (cal Tryd.prog Z 59 [(Value.pointer r_0)] (isN fun v103 => (newC 79 [(Value.int .i64 0), (Value.int .i64 0), (Value.string ⟨#[]⟩), (Value.int .i64 0)] fun t104 => (stN 4 t104 v103 (ldI .i64 (t104.add 1) fun v105 => (newC 52 [(Value.int .i64 0), (Value.bool false), (Value.int .i64 0), (Value.int .i64 0), (Value.slice none 0 0), (Value.bool false), (Value.int .i64 0), (Value.int .i64 0)] fun x106 => (stN 8 x106 [(Value.int .i64 v105), (Value.bool false), (Value.int .i64 0), (Value.int .i64 0), (Value.slice none 0 0), (Value.bool false), (Value.int .i64 0), (Value.int .i64 0)] (parse_reader_line.s68 Z Q r_0 v102 t104 x106)))))))))
theorem parse_reader_line.s71_eq (Z : List PanicEntry → PT) (Q : List Value → PT) (ρ : Fr) (r_0 : Option Addr) : (comp Tryd.prog Z parse_reader_line.c1 (thenK (comp Tryd.prog Z parse_reader_line.c2 (thenK (comp Tryd.prog Z parse_reader_line.c3 (thenK (parse_reader_line.j69 Z Q) (parse_reader_line.q16 Z Q))) (parse_reader_line.q16 Z Q))) (parse_reader_line.q16 Z Q))) (puts ρ [(0, (Value.pointer r_0))]) = parse_reader_line.s71 Z Q r_0 := by kernel_rfl
def parse_reader_line.j72 (Z : List PanicEntry → PT) (Q : List Value → PT) : Fr → PT := (fun ρ => atP (ρ 0) fun r_0 => (parse_reader_line.s71 Z Q r_0))
theorem parse_reader_line.s71_ok (Z : List PanicEntry → PT) (Q : List Value → PT) : Ok Tryd.prog Tryd.f39.ntmps Z parse_reader_line.body (parse_reader_line.q16 Z Q) (parse_reader_line.j72 Z Q) := by
  intro E he ρ w a hr h
  rw [parse_reader_line.q5] at he ⊢
  obtain ⟨r_0, e0, h⟩ := atP_e h
  exact ok_at [(0, (Value.pointer r_0))] (ok_seq (okC parse_reader_line.c1 _ (by kernel_rfl)) (ok_seq (okC parse_reader_line.c2 _ (by kernel_rfl)) (ok_seq (okC parse_reader_line.c3 _ (by kernel_rfl)) (parse_reader_line.o70 Z Q)))) (puts_cons e0 (fun p hp => puts_nil hp)) (parse_reader_line.s71_eq Z Q ρ r_0) he hr h
def parse_reader_line.F (Z : List PanicEntry → PT) (Q : List Value → PT) (r_0 : Option Addr) : PT :=
  (parse_reader_line.s71 Z Q r_0)
theorem parse_reader_line.vc (Z : List PanicEntry → PT) (Q : List Value → PT) (r_0 : Option Addr) (w : World) (h : parse_reader_line.F Z Q r_0 w) : Calls Tryd.prog 39 ⟨[(Value.pointer r_0)]⟩ w fun e w' => (∃ (r0 : List Value), e = .returned (.agg ⟨r0⟩) ∧ Q r0 w') ∨ ∃ c, e = .panicked c ∧ Z c w' := by
  refine (calls_of_ok (args := [(Value.pointer r_0)]) (w := w) (rs := [.cell 2 52]) (fn := Tryd.f39) (c := parse_reader_line.body) Tryd.func39 (by kernel_rfl) (by kernel_rfl) (Nat.le_of_ble_eq_true (by kernel_rfl)) (parse_reader_line.s71_ok Z Q) (h)).mono fun e w' hR => ?_
  cases e with
  | returned v =>
    obtain ⟨va, rfl, hR⟩ := atN_e hR
    exact .inl ⟨va, rfl, hR⟩
  | panicked c => exact .inr ⟨c, rfl, hR⟩
  | outgrown => exact hR.elim
theorem parse_reader_line.vc0 (Q : List Value → PT) (r_0 : Option Addr) (w : World) (h : parse_reader_line.F Z0 Q r_0 w) : Calls Tryd.prog 39 ⟨[(Value.pointer r_0)]⟩ w fun e w' => (∃ (r0 : List Value), e = .returned (.agg ⟨r0⟩) ∧ Q r0 w') :=
  (parse_reader_line.vc Z0 Q r_0 w h).mono fun _ _ hR => hR.elim id fun ⟨_, _, hz⟩ => hz.elim
theorem parse_reader_line.cal {Z : List PanicEntry → PT} {Q : List Value → PT} {r_0 : Option Addr} {w : World} (h : parse_reader_line.F Z Q r_0 w) : Go.Proofs.YtllgjjldnnmjkaaDoor.cal Tryd.prog Z 39 [(Value.pointer r_0)] (isN fun r0 => Q r0) w := by
  refine (parse_reader_line.vc Z Q r_0 w h).mono fun e w' hR => ?_
  rcases hR with ⟨r0, rfl, h⟩ | ⟨c, rfl, h⟩
  · show (isN fun r0 => Q r0) (.agg ⟨r0⟩) w'
    exact ⟨_, rfl, h⟩
  · exact h

end Go.Proofs.YtllgjjldnnmjkaaDoor
