/-
  The reading of the code of 8 functions, printed by gen.py off the translation; no condition.
-/
import Derived.Test.YtimdpeolfhaajaaWlFacts
namespace Go.Proofs.Ytimdpeolfhaajaa
open Go.RowKit
set_option linter.unusedVariables false
set_option maxRecDepth 100000

/-! ### (*milepost/milepostref06.Walk).Next: function 26 -/
noncomputable def ref06_Walk_Next.body : Code := bodyC Try.f26
def ref06_Walk_Next.F (Z : List PanicEntry → PT) (Q : List Value → PT) (w_0 : Option Addr) : PT :=
  (newC 33 [(Value.int .i64 0), (Value.int .i64 0), (Value.string ⟨#[]⟩), (Value.int .i64 0)] fun v18 => (drew0 (nn w_0 fun v19 => (ldI .i64 (v19.add 1) fun v20 => (nn w_0 fun v21 => (ldL (v21.add 0) fun v22 v22n v22c => (pif (decide (v20 < ((v22n : Nat) : Int))) (drawn fun S23 => (nn w_0 fun v24 => (hL S23 (v24.add 0) fun v25 v25n v25c => (nn w_0 fun v26 => (hI S23 .i64 (v26.add 1) fun v27 => (ixS v25 v25n v27 4 fun v28 => (hN S23 4 v28 fun v29 => (stN 4 v18 v29 (ldN 4 v18 fun v30 => (Q v30)))))))))) (nn w_0 fun v31 => (ldI .i64 (v31.add 2) fun v32 => (stN 4 v18 [(Value.int .i64 0), (Value.int .i64 v32), (Value.string ⟨#[]⟩), (Value.int .i64 0)] (ldN 4 v18 fun v33 => (Q v33))))))))))))
def ref06_Walk_Next.q1 (Z : List PanicEntry → PT) (Q : List Value → PT) : QF := bodyQ Try.prog [.cell 2 33] (fun v => atN v fun va => Q va)
theorem ref06_Walk_Next.eq (Z : List PanicEntry → PT) (Q : List Value → PT) (w_0 : Option Addr) : comp Try.prog Z ref06_Walk_Next.body (ref06_Walk_Next.q1 Z Q) (fr0 [(Value.pointer w_0)]) = ref06_Walk_Next.F Z Q w_0 := by kernel_rfl
theorem ref06_Walk_Next.vc (Z : List PanicEntry → PT) (Q : List Value → PT) (w_0 : Option Addr) (w : World) (h : ref06_Walk_Next.F Z Q w_0 w) : Calls Try.prog 26 ⟨[(Value.pointer w_0)]⟩ w fun e w' => (∃ (r0 : List Value), e = .returned (.agg ⟨r0⟩) ∧ Q r0 w') ∨ ∃ c, e = .panicked c ∧ Z c w' := by
  refine (calls_of_ok (args := [(Value.pointer w_0)]) (w := w) (rs := [.cell 2 33]) (fn := Try.f26) (c := ref06_Walk_Next.body) Try.func26 (by kernel_rfl) (by kernel_rfl) (Nat.le_of_ble_eq_true (by kernel_rfl)) (okC ref06_Walk_Next.body (ref06_Walk_Next.q1 Z Q) (by kernel_rfl)) (by rw [ref06_Walk_Next.eq]; exact h)).mono fun e w' hR => ?_
  cases e with
  | returned v =>
    obtain ⟨va, rfl, hR⟩ := atN_e hR
    exact .inl ⟨va, rfl, hR⟩
  | panicked c => exact .inr ⟨c, rfl, hR⟩
  | outgrown => exact hR.elim
theorem ref06_Walk_Next.vc0 (Q : List Value → PT) (w_0 : Option Addr) (w : World) (h : ref06_Walk_Next.F Z0 Q w_0 w) : Calls Try.prog 26 ⟨[(Value.pointer w_0)]⟩ w fun e w' => (∃ (r0 : List Value), e = .returned (.agg ⟨r0⟩) ∧ Q r0 w') :=
  (ref06_Walk_Next.vc Z0 Q w_0 w h).mono fun _ _ hR => hR.elim id fun ⟨_, _, hz⟩ => hz.elim
theorem ref06_Walk_Next.cal {Z : List PanicEntry → PT} {Q : List Value → PT} {w_0 : Option Addr} {w : World} (h : ref06_Walk_Next.F Z Q w_0 w) : Go.Proofs.Ytimdpeolfhaajaa.cal Try.prog Z 26 [(Value.pointer w_0)] (isN fun r0 => Q r0) w := by
  refine (ref06_Walk_Next.vc Z Q w_0 w h).mono fun e w' hR => ?_
  rcases hR with ⟨r0, rfl, h⟩ | ⟨c, rfl, h⟩
  · show (isN fun r0 => Q r0) (.agg ⟨r0⟩) w'
    exact ⟨_, rfl, h⟩
  · exact h

/-! ### (*milepost/milepostref06.Walk).Wrong: function 15 -/
noncomputable def ref06_Walk_Wrong.body : Code := bodyC Try.f15
def ref06_Walk_Wrong.F (Z : List PanicEntry → PT) (Q : PT) (w_0 : Option Addr) (e_1 : Int) : PT :=
  (nn w_0 fun v4 => (ldI .i64 (v4.add 3) fun v5 => (pif (v5 == 0) (nn w_0 fun v6 => (st1 (v6.add 3) (Value.int .i64 e_1) (cal Try.prog Z 26 [(Value.pointer w_0)] (isN fun v7 => (ptI .i64 v7 1 fun v8 => (nn w_0 fun v9 => (st1 (v9.add 4) (Value.int .i64 v8) Q))))))) Q)))
def ref06_Walk_Wrong.q1 (Z : List PanicEntry → PT) (Q : PT) : QF := bodyQ Try.prog [] (fun v => atU v Q)
theorem ref06_Walk_Wrong.eq (Z : List PanicEntry → PT) (Q : PT) (w_0 : Option Addr) (e_1 : Int) : comp Try.prog Z ref06_Walk_Wrong.body (ref06_Walk_Wrong.q1 Z Q) (fr0 [(Value.pointer w_0), (Value.int .i64 e_1)]) = ref06_Walk_Wrong.F Z Q w_0 e_1 := by kernel_rfl
theorem ref06_Walk_Wrong.vc (Z : List PanicEntry → PT) (Q : PT) (w_0 : Option Addr) (e_1 : Int) (w : World) (h : ref06_Walk_Wrong.F Z Q w_0 e_1 w) : Calls Try.prog 15 ⟨[(Value.pointer w_0), (Value.int .i64 e_1)]⟩ w fun e w' => (e = .returned (.tuple #[]) ∧ Q w') ∨ ∃ c, e = .panicked c ∧ Z c w' := by
  refine (calls_of_ok (args := [(Value.pointer w_0), (Value.int .i64 e_1)]) (w := w) (rs := []) (fn := Try.f15) (c := ref06_Walk_Wrong.body) Try.func15 (by kernel_rfl) (by kernel_rfl) (Nat.le_of_ble_eq_true (by kernel_rfl)) (okC ref06_Walk_Wrong.body (ref06_Walk_Wrong.q1 Z Q) (by kernel_rfl)) (by rw [ref06_Walk_Wrong.eq]; exact h)).mono fun e w' hR => ?_
  cases e with
  | returned v =>
    obtain ⟨rfl, h⟩ := atU_e hR
    exact .inl ⟨rfl, h⟩
  | panicked c => exact .inr ⟨c, rfl, hR⟩
  | outgrown => exact hR.elim
theorem ref06_Walk_Wrong.vc0 (Q : PT) (w_0 : Option Addr) (e_1 : Int) (w : World) (h : ref06_Walk_Wrong.F Z0 Q w_0 e_1 w) : Calls Try.prog 15 ⟨[(Value.pointer w_0), (Value.int .i64 e_1)]⟩ w fun e w' => (e = .returned (.tuple #[]) ∧ Q w') :=
  (ref06_Walk_Wrong.vc Z0 Q w_0 e_1 w h).mono fun _ _ hR => hR.elim id fun ⟨_, _, hz⟩ => hz.elim
theorem ref06_Walk_Wrong.cal {Z : List PanicEntry → PT} {Q : PT} {w_0 : Option Addr} {e_1 : Int} {w : World} (h : ref06_Walk_Wrong.F Z Q w_0 e_1 w) : Go.Proofs.Ytimdpeolfhaajaa.cal Try.prog Z 15 [(Value.pointer w_0), (Value.int .i64 e_1)] (isU Q) w := by
  refine (ref06_Walk_Wrong.vc Z Q w_0 e_1 w h).mono fun e w' hR => ?_
  rcases hR with ⟨rfl, h⟩ | ⟨c, rfl, h⟩
  · show (isU Q) (.tuple #[]) w'
    exact ⟨rfl, h⟩
  · exact h

/-! ### (*milepost/milepostref06.Walk).Kind: function 30 -/
noncomputable def ref06_Walk_Kind.body : Code := bodyC Try.f30
noncomputable def ref06_Walk_Kind.c1 : Code := sq1 ref06_Walk_Kind.body
noncomputable def ref06_Walk_Kind.c2 : Code := sq1 (sq2 ref06_Walk_Kind.body)
noncomputable def ref06_Walk_Kind.c3 : Code := sq1 (sq2 (sq2 ref06_Walk_Kind.body))
noncomputable def ref06_Walk_Kind.c4 : Code := sq2 (sq2 (sq2 ref06_Walk_Kind.body))
theorem ref06_Walk_Kind.q5 : ref06_Walk_Kind.body = .seq ref06_Walk_Kind.c1 (.seq ref06_Walk_Kind.c2 (.seq ref06_Walk_Kind.c3 ref06_Walk_Kind.c4)) := by kernel_rfl
def ref06_Walk_Kind.s6 (Z : List PanicEntry → PT) (Q : List Value → PT) (w_0 : Option Addr) (t_4 : Addr) (t_5 : Addr) : PT :=
  (nn w_0 fun v31 => (ldI .i64 (v31.add 1) fun v32 => (nn w_0 fun v33 => (st1 (v33.add 1) (Value.int .i64 (IntKind.wrap .i64 (v32 + 1))) (ldN 4 t_5 fun v34 => (stN 4 t_4 v34 (ldN 4 t_4 fun v35 => (Q v35))))))))
def ref06_Walk_Kind.q7 (Z : List PanicEntry → PT) (Q : List Value → PT) : QF := bodyQ Try.prog [.cell 4 33] (fun v => atN v fun va => Q va)
theorem ref06_Walk_Kind.s6_eq (Z : List PanicEntry → PT) (Q : List Value → PT) (ρ : Fr) (w_0 : Option Addr) (t_4 : Addr) (t_5 : Addr) : comp Try.prog Z ref06_Walk_Kind.c4 (ref06_Walk_Kind.q7 Z Q) (puts ρ [(0, (Value.pointer w_0)), (4, (Value.pointer (some t_4))), (5, (Value.pointer (some t_5)))]) = ref06_Walk_Kind.s6 Z Q w_0 t_4 t_5 := by kernel_rfl
def ref06_Walk_Kind.j8 (Z : List PanicEntry → PT) (Q : List Value → PT) : Fr → PT := (fun ρ => atP (ρ 0) fun w_0 => atA (ρ 4) fun t_4 => atA (ρ 5) fun t_5 => (ref06_Walk_Kind.s6 Z Q w_0 t_4 t_5))
theorem ref06_Walk_Kind.s6_ok (Z : List PanicEntry → PT) (Q : List Value → PT) : Ok Try.prog Try.f30.ntmps Z ref06_Walk_Kind.c4 (ref06_Walk_Kind.q7 Z Q) (ref06_Walk_Kind.j8 Z Q) := by
  intro E he ρ w a hr h
  obtain ⟨w_0, e0, h⟩ := atP_e h
  obtain ⟨t_4, e4, h⟩ := atA_e h
  obtain ⟨t_5, e5, h⟩ := atA_e h
  exact ok_at [(0, (Value.pointer w_0)), (4, (Value.pointer (some t_4))), (5, (Value.pointer (some t_5)))] (okC ref06_Walk_Kind.c4 (ref06_Walk_Kind.q7 Z Q) (by kernel_rfl)) (puts_cons e0 (puts_cons e4 (puts_cons e5 (fun p hp => puts_nil hp)))) (ref06_Walk_Kind.s6_eq Z Q ρ w_0 t_4 t_5) he hr h
def ref06_Walk_Kind.s9 (Z : List PanicEntry → PT) (Q : List Value → PT) (w_0 : Option Addr) (kind_1 : Int) : PT :=
  (newC 33 [(Value.int .i64 0), (Value.int .i64 0), (Value.string ⟨#[]⟩), (Value.int .i64 0)] fun v36 => (cal Try.prog Z 26 [(Value.pointer w_0)] (isN fun v37 => (newC 33 [(Value.int .i64 0), (Value.int .i64 0), (Value.string ⟨#[]⟩), (Value.int .i64 0)] fun t38 => (stN 4 t38 v37 (ldI .i64 (t38.add 0) fun v39 => (pif (v39 != kind_1) (cal Try.prog Z 15 [(Value.pointer w_0), (Value.int .i64 8)] (isU (ref06_Walk_Kind.s6 Z Q w_0 v36 t38))) (ref06_Walk_Kind.s6 Z Q w_0 v36 t38))))))))
theorem ref06_Walk_Kind.s9_eq (Z : List PanicEntry → PT) (Q : List Value → PT) (ρ : Fr) (w_0 : Option Addr) (kind_1 : Int) : (comp Try.prog Z ref06_Walk_Kind.c1 (thenK (comp Try.prog Z ref06_Walk_Kind.c2 (thenK (comp Try.prog Z ref06_Walk_Kind.c3 (thenK (ref06_Walk_Kind.j8 Z Q) (ref06_Walk_Kind.q7 Z Q))) (ref06_Walk_Kind.q7 Z Q))) (ref06_Walk_Kind.q7 Z Q))) (puts ρ [(0, (Value.pointer w_0)), (1, (Value.int .i64 kind_1))]) = ref06_Walk_Kind.s9 Z Q w_0 kind_1 := by kernel_rfl
def ref06_Walk_Kind.j10 (Z : List PanicEntry → PT) (Q : List Value → PT) : Fr → PT := (fun ρ => atP (ρ 0) fun w_0 => atI .i64 (ρ 1) fun kind_1 => (ref06_Walk_Kind.s9 Z Q w_0 kind_1))
theorem ref06_Walk_Kind.s9_ok (Z : List PanicEntry → PT) (Q : List Value → PT) : Ok Try.prog Try.f30.ntmps Z ref06_Walk_Kind.body (ref06_Walk_Kind.q7 Z Q) (ref06_Walk_Kind.j10 Z Q) := by
  intro E he ρ w a hr h
  rw [ref06_Walk_Kind.q5] at he ⊢
  obtain ⟨w_0, e0, h⟩ := atP_e h
  obtain ⟨kind_1, e1, h⟩ := atI_e h
  exact ok_at [(0, (Value.pointer w_0)), (1, (Value.int .i64 kind_1))] (ok_seq (okC ref06_Walk_Kind.c1 _ (by kernel_rfl)) (ok_seq (okC ref06_Walk_Kind.c2 _ (by kernel_rfl)) (ok_seq (okC ref06_Walk_Kind.c3 _ (by kernel_rfl)) (ref06_Walk_Kind.s6_ok Z Q)))) (puts_cons e0 (puts_cons e1 (fun p hp => puts_nil hp))) (ref06_Walk_Kind.s9_eq Z Q ρ w_0 kind_1) he hr h
def ref06_Walk_Kind.F (Z : List PanicEntry → PT) (Q : List Value → PT) (w_0 : Option Addr) (kind_1 : Int) : PT :=
  (ref06_Walk_Kind.s9 Z Q w_0 kind_1)
theorem ref06_Walk_Kind.vc (Z : List PanicEntry → PT) (Q : List Value → PT) (w_0 : Option Addr) (kind_1 : Int) (w : World) (h : ref06_Walk_Kind.F Z Q w_0 kind_1 w) : Calls Try.prog 30 ⟨[(Value.pointer w_0), (Value.int .i64 kind_1)]⟩ w fun e w' => (∃ (r0 : List Value), e = .returned (.agg ⟨r0⟩) ∧ Q r0 w') ∨ ∃ c, e = .panicked c ∧ Z c w' := by
  refine (calls_of_ok (args := [(Value.pointer w_0), (Value.int .i64 kind_1)]) (w := w) (rs := [.cell 4 33]) (fn := Try.f30) (c := ref06_Walk_Kind.body) Try.func30 (by kernel_rfl) (by kernel_rfl) (Nat.le_of_ble_eq_true (by kernel_rfl)) (ref06_Walk_Kind.s9_ok Z Q) (h)).mono fun e w' hR => ?_
  cases e with
  | returned v =>
    obtain ⟨va, rfl, hR⟩ := atN_e hR
    exact .inl ⟨va, rfl, hR⟩
  | panicked c => exact .inr ⟨c, rfl, hR⟩
  | outgrown => exact hR.elim
theorem ref06_Walk_Kind.vc0 (Q : List Value → PT) (w_0 : Option Addr) (kind_1 : Int) (w : World) (h : ref06_Walk_Kind.F Z0 Q w_0 kind_1 w) : Calls Try.prog 30 ⟨[(Value.pointer w_0), (Value.int .i64 kind_1)]⟩ w fun e w' => (∃ (r0 : List Value), e = .returned (.agg ⟨r0⟩) ∧ Q r0 w') :=
  (ref06_Walk_Kind.vc Z0 Q w_0 kind_1 w h).mono fun _ _ hR => hR.elim id fun ⟨_, _, hz⟩ => hz.elim
theorem ref06_Walk_Kind.cal {Z : List PanicEntry → PT} {Q : List Value → PT} {w_0 : Option Addr} {kind_1 : Int} {w : World} (h : ref06_Walk_Kind.F Z Q w_0 kind_1 w) : Go.Proofs.Ytimdpeolfhaajaa.cal Try.prog Z 30 [(Value.pointer w_0), (Value.int .i64 kind_1)] (isN fun r0 => Q r0) w := by
  refine (ref06_Walk_Kind.vc Z Q w_0 kind_1 w h).mono fun e w' hR => ?_
  rcases hR with ⟨r0, rfl, h⟩ | ⟨c, rfl, h⟩
  · show (isN fun r0 => Q r0) (.agg ⟨r0⟩) w'
    exact ⟨_, rfl, h⟩
  · exact h

/-! ### (*milepost/milepostref06.Walk).Word: function 27 -/
noncomputable def ref06_Walk_Word.body : Code := bodyC Try.f27
def ref06_Walk_Word.F (Z : List PanicEntry → PT) (Q : Bool → PT) (w_0 : Option Addr) (s_1 : ByteArray) : PT :=
  (cal Try.prog Z 26 [(Value.pointer w_0)] (isN fun v1 => (ptI .i64 v1 0 fun v2 => (pif (v2 == 1) (cal Try.prog Z 26 [(Value.pointer w_0)] (isN fun v3 => (ptS v3 2 fun v4 => (Q (v4.toList == s_1.toList))))) (Q false)))))
def ref06_Walk_Word.q1 (Z : List PanicEntry → PT) (Q : Bool → PT) : QF := bodyQ Try.prog [.tmp 4] (fun v => atB v fun va => Q va)
theorem ref06_Walk_Word.eq (Z : List PanicEntry → PT) (Q : Bool → PT) (w_0 : Option Addr) (s_1 : ByteArray) : comp Try.prog Z ref06_Walk_Word.body (ref06_Walk_Word.q1 Z Q) (fr0 [(Value.pointer w_0), (Value.string s_1)]) = ref06_Walk_Word.F Z Q w_0 s_1 := by kernel_rfl
theorem ref06_Walk_Word.vc (Z : List PanicEntry → PT) (Q : Bool → PT) (w_0 : Option Addr) (s_1 : ByteArray) (w : World) (h : ref06_Walk_Word.F Z Q w_0 s_1 w) : Calls Try.prog 27 ⟨[(Value.pointer w_0), (Value.string s_1)]⟩ w fun e w' => (∃ (r0 : Bool), e = .returned (.bool r0) ∧ Q r0 w') ∨ ∃ c, e = .panicked c ∧ Z c w' := by
  refine (calls_of_ok (args := [(Value.pointer w_0), (Value.string s_1)]) (w := w) (rs := [.tmp 4]) (fn := Try.f27) (c := ref06_Walk_Word.body) Try.func27 (by kernel_rfl) (by kernel_rfl) (Nat.le_of_ble_eq_true (by kernel_rfl)) (okC ref06_Walk_Word.body (ref06_Walk_Word.q1 Z Q) (by kernel_rfl)) (by rw [ref06_Walk_Word.eq]; exact h)).mono fun e w' hR => ?_
  cases e with
  | returned v =>
    obtain ⟨va, rfl, hR⟩ := atB_e hR
    exact .inl ⟨va, rfl, hR⟩
  | panicked c => exact .inr ⟨c, rfl, hR⟩
  | outgrown => exact hR.elim
theorem ref06_Walk_Word.vc0 (Q : Bool → PT) (w_0 : Option Addr) (s_1 : ByteArray) (w : World) (h : ref06_Walk_Word.F Z0 Q w_0 s_1 w) : Calls Try.prog 27 ⟨[(Value.pointer w_0), (Value.string s_1)]⟩ w fun e w' => (∃ (r0 : Bool), e = .returned (.bool r0) ∧ Q r0 w') :=
  (ref06_Walk_Word.vc Z0 Q w_0 s_1 w h).mono fun _ _ hR => hR.elim id fun ⟨_, _, hz⟩ => hz.elim
theorem ref06_Walk_Word.cal {Z : List PanicEntry → PT} {Q : Bool → PT} {w_0 : Option Addr} {s_1 : ByteArray} {w : World} (h : ref06_Walk_Word.F Z Q w_0 s_1 w) : Go.Proofs.Ytimdpeolfhaajaa.cal Try.prog Z 27 [(Value.pointer w_0), (Value.string s_1)] (isB fun r0 => Q r0) w := by
  refine (ref06_Walk_Word.vc Z Q w_0 s_1 w h).mono fun e w' hR => ?_
  rcases hR with ⟨r0, rfl, h⟩ | ⟨c, rfl, h⟩
  · show (isB fun r0 => Q r0) (.bool r0) w'
    exact ⟨_, rfl, h⟩
  · exact h

/-! ### (*milepost/milepostref06.Walk).Figure: function 28 -/
noncomputable def ref06_Walk_Figure.body : Code := bodyC Try.f28
def ref06_Walk_Figure.F (Z : List PanicEntry → PT) (Q : List Value → PT) (w_0 : Option Addr) : PT :=
  (newC 36 [(Value.int .i64 0), (Value.int .i64 0)] fun v5 => (cal Try.prog Z 30 [(Value.pointer w_0), (Value.int .i64 2)] (isN fun v6 => (newC 33 [(Value.int .i64 0), (Value.int .i64 0), (Value.string ⟨#[]⟩), (Value.int .i64 0)] fun t7 => (stN 4 t7 v6 (ldI .i64 (t7.add 3) fun v8 => (ldI .i64 (t7.add 1) fun v9 => (stN 2 v5 [(Value.int .i64 v8), (Value.int .i64 v9)] (ldN 2 v5 fun v10 => (Q v10))))))))))
def ref06_Walk_Figure.q1 (Z : List PanicEntry → PT) (Q : List Value → PT) : QF := bodyQ Try.prog [.cell 2 36] (fun v => atN v fun va => Q va)
theorem ref06_Walk_Figure.eq (Z : List PanicEntry → PT) (Q : List Value → PT) (w_0 : Option Addr) : comp Try.prog Z ref06_Walk_Figure.body (ref06_Walk_Figure.q1 Z Q) (fr0 [(Value.pointer w_0)]) = ref06_Walk_Figure.F Z Q w_0 := by kernel_rfl
theorem ref06_Walk_Figure.vc (Z : List PanicEntry → PT) (Q : List Value → PT) (w_0 : Option Addr) (w : World) (h : ref06_Walk_Figure.F Z Q w_0 w) : Calls Try.prog 28 ⟨[(Value.pointer w_0)]⟩ w fun e w' => (∃ (r0 : List Value), e = .returned (.agg ⟨r0⟩) ∧ Q r0 w') ∨ ∃ c, e = .panicked c ∧ Z c w' := by
  refine (calls_of_ok (args := [(Value.pointer w_0)]) (w := w) (rs := [.cell 2 36]) (fn := Try.f28) (c := ref06_Walk_Figure.body) Try.func28 (by kernel_rfl) (by kernel_rfl) (Nat.le_of_ble_eq_true (by kernel_rfl)) (okC ref06_Walk_Figure.body (ref06_Walk_Figure.q1 Z Q) (by kernel_rfl)) (by rw [ref06_Walk_Figure.eq]; exact h)).mono fun e w' hR => ?_
  cases e with
  | returned v =>
    obtain ⟨va, rfl, hR⟩ := atN_e hR
    exact .inl ⟨va, rfl, hR⟩
  | panicked c => exact .inr ⟨c, rfl, hR⟩
  | outgrown => exact hR.elim
theorem ref06_Walk_Figure.vc0 (Q : List Value → PT) (w_0 : Option Addr) (w : World) (h : ref06_Walk_Figure.F Z0 Q w_0 w) : Calls Try.prog 28 ⟨[(Value.pointer w_0)]⟩ w fun e w' => (∃ (r0 : List Value), e = .returned (.agg ⟨r0⟩) ∧ Q r0 w') :=
  (ref06_Walk_Figure.vc Z0 Q w_0 w h).mono fun _ _ hR => hR.elim id fun ⟨_, _, hz⟩ => hz.elim
theorem ref06_Walk_Figure.cal {Z : List PanicEntry → PT} {Q : List Value → PT} {w_0 : Option Addr} {w : World} (h : ref06_Walk_Figure.F Z Q w_0 w) : Go.Proofs.Ytimdpeolfhaajaa.cal Try.prog Z 28 [(Value.pointer w_0)] (isN fun r0 => Q r0) w := by
  refine (ref06_Walk_Figure.vc Z Q w_0 w h).mono fun e w' hR => ?_
  rcases hR with ⟨r0, rfl, h⟩ | ⟨c, rfl, h⟩
  · show (isN fun r0 => Q r0) (.agg ⟨r0⟩) w'
    exact ⟨_, rfl, h⟩
  · exact h

/-! ### (*milepost/milepostref06.Walk).Clause: function 29 -/
noncomputable def ref06_Walk_Clause.body : Code := bodyC Try.f29
noncomputable def ref06_Walk_Clause.c1 : Code := sq1 ref06_Walk_Clause.body
noncomputable def ref06_Walk_Clause.c2 : Code := sq1 (sq2 ref06_Walk_Clause.body)
noncomputable def ref06_Walk_Clause.c3 : Code := sq1 (sq2 (sq2 ref06_Walk_Clause.body))
noncomputable def ref06_Walk_Clause.c4 : Code := sq1 (sq2 (sq2 (sq2 ref06_Walk_Clause.body)))
noncomputable def ref06_Walk_Clause.c5 : Code := sq2 (sq2 (sq2 (sq2 ref06_Walk_Clause.body)))
theorem ref06_Walk_Clause.q6 : ref06_Walk_Clause.body = .seq ref06_Walk_Clause.c1 (.seq ref06_Walk_Clause.c2 (.seq ref06_Walk_Clause.c3 (.seq ref06_Walk_Clause.c4 ref06_Walk_Clause.c5))) := by kernel_rfl
noncomputable def ref06_Walk_Clause.c7 : Code := sq1 ref06_Walk_Clause.c5
noncomputable def ref06_Walk_Clause.c8 : Code := sq2 ref06_Walk_Clause.c5
theorem ref06_Walk_Clause.q9 : ref06_Walk_Clause.c5 = .seq ref06_Walk_Clause.c7 ref06_Walk_Clause.c8 := by kernel_rfl
noncomputable def ref06_Walk_Clause.c10 : Code := sq1 ref06_Walk_Clause.c8
noncomputable def ref06_Walk_Clause.c11 : Code := sq2 ref06_Walk_Clause.c8
theorem ref06_Walk_Clause.q12 : ref06_Walk_Clause.c8 = .seq ref06_Walk_Clause.c10 ref06_Walk_Clause.c11 := by kernel_rfl
noncomputable def ref06_Walk_Clause.c13 : Code := sq1 ref06_Walk_Clause.c11
noncomputable def ref06_Walk_Clause.c14 : Code := sq2 ref06_Walk_Clause.c11
theorem ref06_Walk_Clause.q15 : ref06_Walk_Clause.c11 = .seq ref06_Walk_Clause.c13 ref06_Walk_Clause.c14 := by kernel_rfl
noncomputable def ref06_Walk_Clause.c16 : Code := sq1 ref06_Walk_Clause.c14
noncomputable def ref06_Walk_Clause.c17 : Code := sq1 (sq2 ref06_Walk_Clause.c14)
noncomputable def ref06_Walk_Clause.c18 : Code := sq2 (sq2 ref06_Walk_Clause.c14)
theorem ref06_Walk_Clause.q19 : ref06_Walk_Clause.c14 = .seq ref06_Walk_Clause.c16 (.seq ref06_Walk_Clause.c17 ref06_Walk_Clause.c18) := by kernel_rfl
noncomputable def ref06_Walk_Clause.c20 : Code := sq1 ref06_Walk_Clause.c18
noncomputable def ref06_Walk_Clause.c21 : Code := sq2 ref06_Walk_Clause.c18
theorem ref06_Walk_Clause.q22 : ref06_Walk_Clause.c18 = .seq ref06_Walk_Clause.c20 ref06_Walk_Clause.c21 := by kernel_rfl
noncomputable def ref06_Walk_Clause.c23 : Code := sq1 ref06_Walk_Clause.c21
noncomputable def ref06_Walk_Clause.c24 : Code := sq2 ref06_Walk_Clause.c21
theorem ref06_Walk_Clause.q25 : ref06_Walk_Clause.c21 = .seq ref06_Walk_Clause.c23 ref06_Walk_Clause.c24 := by kernel_rfl
def ref06_Walk_Clause.s26 (Z : List PanicEntry → PT) (Q : List Value → PT) (w_0 : Option Addr) (t_4 : Addr) (c_6 : Addr) (port_8 : Bool) : PT :=
  (pif port_8 (cal Try.prog Z 26 [(Value.pointer w_0)] (isN fun v79 => (ptI .i64 v79 0 fun v80 => (pif (v80 == 5) (st1 (c_6.add 4) (Value.bool true) (nn w_0 fun v81 => (ldI .i64 (v81.add 1) fun v82 => (nn w_0 fun v83 => (st1 (v83.add 1) (Value.int .i64 (IntKind.wrap .i64 (v82 + 1))) (drawn fun S84 => (hL S84 (c_6.add 2) fun v85 v85n v85c => (cal Try.prog Z 28 [(Value.pointer w_0)] (isN fun v86 => (sAnd S84 (cnd (List.length v86 = 2) (newC 36 (v86 ++ ([])) fun v87 => (sAnd S84 (runL Try.prog (bi .append #[40, 40] 40 [false, false] [(Value.slice v85 v85n v85c), (Value.slice (some v87) 1 1)]) fun v88 v88n v88c => (sAnd S84 (st1 (c_6.add 2) (Value.slice v88 v88n v88c) (ldN 5 c_6 fun v89 => (stN 5 t_4 v89 (ldN 5 t_4 fun v90 => (Q v90)))))))))))))))))))) (ldN 5 c_6 fun v91 => (stN 5 t_4 v91 (ldN 5 t_4 fun v92 => (Q v92)))))))) (ldN 5 c_6 fun v93 => (stN 5 t_4 v93 (ldN 5 t_4 fun v94 => (Q v94)))))
def ref06_Walk_Clause.q27 (Z : List PanicEntry → PT) (Q : List Value → PT) : QF := bodyQ Try.prog [.cell 4 42] (fun v => atN v fun va => Q va)
theorem ref06_Walk_Clause.s26_eq (Z : List PanicEntry → PT) (Q : List Value → PT) (ρ : Fr) (w_0 : Option Addr) (t_4 : Addr) (c_6 : Addr) (port_8 : Bool) : comp Try.prog Z ref06_Walk_Clause.c24 (ref06_Walk_Clause.q27 Z Q) (puts ρ [(0, (Value.pointer w_0)), (4, (Value.pointer (some t_4))), (6, (Value.pointer (some c_6))), (8, (Value.bool port_8))]) = ref06_Walk_Clause.s26 Z Q w_0 t_4 c_6 port_8 := by kernel_rfl
def ref06_Walk_Clause.j28 (Z : List PanicEntry → PT) (Q : List Value → PT) : Fr → PT := (fun ρ => atP (ρ 0) fun w_0 => atA (ρ 4) fun t_4 => atA (ρ 6) fun c_6 => atB (ρ 8) fun port_8 => (ref06_Walk_Clause.s26 Z Q w_0 t_4 c_6 port_8))
theorem ref06_Walk_Clause.s26_ok (Z : List PanicEntry → PT) (Q : List Value → PT) : Ok Try.prog Try.f29.ntmps Z ref06_Walk_Clause.c24 (ref06_Walk_Clause.q27 Z Q) (ref06_Walk_Clause.j28 Z Q) := by
  intro E he ρ w a hr h
  obtain ⟨w_0, e0, h⟩ := atP_e h
  obtain ⟨t_4, e4, h⟩ := atA_e h
  obtain ⟨c_6, e6, h⟩ := atA_e h
  obtain ⟨port_8, e8, h⟩ := atB_e h
  exact ok_at [(0, (Value.pointer w_0)), (4, (Value.pointer (some t_4))), (6, (Value.pointer (some c_6))), (8, (Value.bool port_8))] (okC ref06_Walk_Clause.c24 (ref06_Walk_Clause.q27 Z Q) (by kernel_rfl)) (puts_cons e0 (puts_cons e4 (puts_cons e6 (puts_cons e8 (fun p hp => puts_nil hp))))) (ref06_Walk_Clause.s26_eq Z Q ρ w_0 t_4 c_6 port_8) he hr h
def ref06_Walk_Clause.s29 (Z : List PanicEntry → PT) (Q : List Value → PT) (w_0 : Option Addr) (t_4 : Addr) (c_6 : Addr) (addr_7 : Bool) (port_8 : Bool) : PT :=
  (pif addr_7 (cal Try.prog Z 26 [(Value.pointer w_0)] (isN fun v95 => (ptI .i64 v95 0 fun v96 => (pif (v96 == 4) (st1 (c_6.add 3) (Value.bool true) (nn w_0 fun v97 => (ldI .i64 (v97.add 1) fun v98 => (nn w_0 fun v99 => (st1 (v99.add 1) (Value.int .i64 (IntKind.wrap .i64 (v98 + 1))) (drawn fun S100 => (hL S100 (c_6.add 2) fun v101 v101n v101c => (cal Try.prog Z 28 [(Value.pointer w_0)] (isN fun v102 => (sAnd S100 (cnd (List.length v102 = 2) (newC 36 (v102 ++ ([])) fun v103 => (sAnd S100 (runL Try.prog (bi .append #[40, 40] 40 [false, false] [(Value.slice v101 v101n v101c), (Value.slice (some v103) 1 1)]) fun v104 v104n v104c => (sAnd S100 (st1 (c_6.add 2) (Value.slice v104 v104n v104c) (ref06_Walk_Clause.s26 Z Q w_0 t_4 c_6 port_8))))))))))))))))) (ref06_Walk_Clause.s26 Z Q w_0 t_4 c_6 port_8))))) (ref06_Walk_Clause.s26 Z Q w_0 t_4 c_6 port_8))
theorem ref06_Walk_Clause.s29_eq (Z : List PanicEntry → PT) (Q : List Value → PT) (ρ : Fr) (w_0 : Option Addr) (t_4 : Addr) (c_6 : Addr) (addr_7 : Bool) (port_8 : Bool) : (comp Try.prog Z ref06_Walk_Clause.c23 (thenK (ref06_Walk_Clause.j28 Z Q) (ref06_Walk_Clause.q27 Z Q))) (puts ρ [(0, (Value.pointer w_0)), (4, (Value.pointer (some t_4))), (6, (Value.pointer (some c_6))), (7, (Value.bool addr_7)), (8, (Value.bool port_8))]) = ref06_Walk_Clause.s29 Z Q w_0 t_4 c_6 addr_7 port_8 := by kernel_rfl
def ref06_Walk_Clause.j30 (Z : List PanicEntry → PT) (Q : List Value → PT) : Fr → PT := (fun ρ => atP (ρ 0) fun w_0 => atA (ρ 4) fun t_4 => atA (ρ 6) fun c_6 => atB (ρ 7) fun addr_7 => atB (ρ 8) fun port_8 => (ref06_Walk_Clause.s29 Z Q w_0 t_4 c_6 addr_7 port_8))
theorem ref06_Walk_Clause.s29_ok (Z : List PanicEntry → PT) (Q : List Value → PT) : Ok Try.prog Try.f29.ntmps Z ref06_Walk_Clause.c21 (ref06_Walk_Clause.q27 Z Q) (ref06_Walk_Clause.j30 Z Q) := by
  intro E he ρ w a hr h
  rw [ref06_Walk_Clause.q25] at he ⊢
  obtain ⟨w_0, e0, h⟩ := atP_e h
  obtain ⟨t_4, e4, h⟩ := atA_e h
  obtain ⟨c_6, e6, h⟩ := atA_e h
  obtain ⟨addr_7, e7, h⟩ := atB_e h
  obtain ⟨port_8, e8, h⟩ := atB_e h
  exact ok_at [(0, (Value.pointer w_0)), (4, (Value.pointer (some t_4))), (6, (Value.pointer (some c_6))), (7, (Value.bool addr_7)), (8, (Value.bool port_8))] (ok_seq (okC ref06_Walk_Clause.c23 _ (by kernel_rfl)) (ref06_Walk_Clause.s26_ok Z Q)) (puts_cons e0 (puts_cons e4 (puts_cons e6 (puts_cons e7 (puts_cons e8 (fun p hp => puts_nil hp)))))) (ref06_Walk_Clause.s29_eq Z Q ρ w_0 t_4 c_6 addr_7 port_8) he hr h
noncomputable def ref06_Walk_Clause.c31 : Code := sq1 ref06_Walk_Clause.c20
noncomputable def ref06_Walk_Clause.c32 : Code := sq2 ref06_Walk_Clause.c20
theorem ref06_Walk_Clause.q33 : ref06_Walk_Clause.c20 = .seq ref06_Walk_Clause.c31 ref06_Walk_Clause.c32 := by kernel_rfl
noncomputable def ref06_Walk_Clause.c34 : Code := blk ref06_Walk_Clause.c32
theorem ref06_Walk_Clause.q35 : ref06_Walk_Clause.c32 = .block 2 ref06_Walk_Clause.c34 := by kernel_rfl
noncomputable def ref06_Walk_Clause.c36 : Code := lop ref06_Walk_Clause.c34
theorem ref06_Walk_Clause.q37 : ref06_Walk_Clause.c34 = .loop ref06_Walk_Clause.c36 := by kernel_rfl
def ref06_Walk_Clause.q39 (Z : List PanicEntry → PT) (Q : List Value → PT) : QF := thenK (ref06_Walk_Clause.j30 Z Q) (ref06_Walk_Clause.q27 Z Q)
def ref06_Walk_Clause.q40 (Z : List PanicEntry → PT) (Q : List Value → PT) : QF := inBl 2 (ref06_Walk_Clause.q39 Z Q)
def ref06_Walk_Clause.s41 (Z : List PanicEntry → PT) (Q : List Value → PT) (X1 : Option Addr → Addr → Addr → Bool → Bool → Int → PT) (w_0 : Option Addr) (t_4 : Addr) (c_6 : Addr) (addr_7 : Bool) (port_8 : Bool) (k_10 : Int) : PT :=
  (pif addr_7 (pif (decide (k_10 < 3)) (cal Try.prog Z 30 [(Value.pointer w_0), (Value.int .i64 3)] (isN fun v112 => (drawn fun S113 => (hL S113 (c_6.add 2) fun v114 v114n v114c => (cal Try.prog Z 28 [(Value.pointer w_0)] (isN fun v115 => (sAnd S113 (cnd (List.length v115 = 2) (newC 36 (v115 ++ ([])) fun v116 => (sAnd S113 (runL Try.prog (bi .append #[40, 40] 40 [false, false] [(Value.slice v114 v114n v114c), (Value.slice (some v116) 1 1)]) fun v117 v117n v117c => (sAnd S113 (st1 (c_6.add 2) (Value.slice v117 v117n v117c) (X1 w_0 t_4 c_6 addr_7 port_8 (IntKind.wrap .i64 (k_10 + 1)))))))))))))))) (ref06_Walk_Clause.s29 Z Q w_0 t_4 c_6 addr_7 port_8)) (ref06_Walk_Clause.s29 Z Q w_0 t_4 c_6 addr_7 port_8))
def ref06_Walk_Clause.j42 (Z : List PanicEntry → PT) (Q : List Value → PT) (X1 : Option Addr → Addr → Addr → Bool → Bool → Int → PT) : Fr → PT := (fun ρ => atP (ρ 0) fun w_0 => atA (ρ 4) fun t_4 => atA (ρ 6) fun c_6 => atB (ρ 7) fun addr_7 => atB (ρ 8) fun port_8 => atI .i64 (ρ 10) fun k_10 => (X1 w_0 t_4 c_6 addr_7 port_8 k_10))
def ref06_Walk_Clause.q43 (Z : List PanicEntry → PT) (Q : List Value → PT) (X1 : Option Addr → Addr → Addr → Bool → Bool → Int → PT) : QF := thenK (ref06_Walk_Clause.j42 Z Q X1) (ref06_Walk_Clause.q40 Z Q)
theorem ref06_Walk_Clause.s41_eq (Z : List PanicEntry → PT) (Q : List Value → PT) (X1 : Option Addr → Addr → Addr → Bool → Bool → Int → PT) (ρ : Fr) (w_0 : Option Addr) (t_4 : Addr) (c_6 : Addr) (addr_7 : Bool) (port_8 : Bool) (k_10 : Int) : comp Try.prog Z ref06_Walk_Clause.c36 (ref06_Walk_Clause.q43 Z Q X1) (puts ρ [(0, (Value.pointer w_0)), (4, (Value.pointer (some t_4))), (6, (Value.pointer (some c_6))), (7, (Value.bool addr_7)), (8, (Value.bool port_8)), (10, (Value.int .i64 k_10))]) = ref06_Walk_Clause.s41 Z Q X1 w_0 t_4 c_6 addr_7 port_8 k_10 := by kernel_rfl
def ref06_Walk_Clause.j44 (Z : List PanicEntry → PT) (Q : List Value → PT) (X1 : Option Addr → Addr → Addr → Bool → Bool → Int → PT) : Fr → PT := (fun ρ => atP (ρ 0) fun w_0 => atA (ρ 4) fun t_4 => atA (ρ 6) fun c_6 => atB (ρ 7) fun addr_7 => atB (ρ 8) fun port_8 => atI .i64 (ρ 10) fun k_10 => (ref06_Walk_Clause.s41 Z Q X1 w_0 t_4 c_6 addr_7 port_8 k_10))
theorem ref06_Walk_Clause.s41_ok (Z : List PanicEntry → PT) (Q : List Value → PT) (X1 : Option Addr → Addr → Addr → Bool → Bool → Int → PT) : Ok Try.prog Try.f29.ntmps Z ref06_Walk_Clause.c36 (ref06_Walk_Clause.q43 Z Q X1) (ref06_Walk_Clause.j44 Z Q X1) := by
  intro E he ρ w a hr h
  obtain ⟨w_0, e0, h⟩ := atP_e h
  obtain ⟨t_4, e4, h⟩ := atA_e h
  obtain ⟨c_6, e6, h⟩ := atA_e h
  obtain ⟨addr_7, e7, h⟩ := atB_e h
  obtain ⟨port_8, e8, h⟩ := atB_e h
  obtain ⟨k_10, e10, h⟩ := atI_e h
  exact ok_at [(0, (Value.pointer w_0)), (4, (Value.pointer (some t_4))), (6, (Value.pointer (some c_6))), (7, (Value.bool addr_7)), (8, (Value.bool port_8)), (10, (Value.int .i64 k_10))] (okC ref06_Walk_Clause.c36 (ref06_Walk_Clause.q43 Z Q X1) (by kernel_rfl)) (puts_cons e0 (puts_cons e4 (puts_cons e6 (puts_cons e7 (puts_cons e8 (puts_cons e10 (fun p hp => puts_nil hp))))))) (ref06_Walk_Clause.s41_eq Z Q X1 ρ w_0 t_4 c_6 addr_7 port_8 k_10) he hr h
def ref06_Walk_Clause.l38 (Z : List PanicEntry → PT) (Q : List Value → PT) : Nat → Option Addr → Addr → Addr → Bool → Bool → Int → PT
  | 0, _, _, _, _, _, _ => bad
  | k + 1, w_0, t_4, c_6, addr_7, port_8, k_10 => (ref06_Walk_Clause.s41 Z Q (ref06_Walk_Clause.l38 Z Q k) w_0 t_4 c_6 addr_7 port_8 k_10)
def ref06_Walk_Clause.j45 (Z : List PanicEntry → PT) (Q : List Value → PT) (k : Nat) : Fr → PT := (fun ρ => atP (ρ 0) fun w_0 => atA (ρ 4) fun t_4 => atA (ρ 6) fun c_6 => atB (ρ 7) fun addr_7 => atB (ρ 8) fun port_8 => atI .i64 (ρ 10) fun k_10 => (ref06_Walk_Clause.l38 Z Q k w_0 t_4 c_6 addr_7 port_8 k_10))
def ref06_Walk_Clause.j46 (Z : List PanicEntry → PT) (Q : List Value → PT) : Fr → PT := (fun ρ => atP (ρ 0) fun w_0 => atA (ρ 4) fun t_4 => atA (ρ 6) fun c_6 => atB (ρ 7) fun addr_7 => atB (ρ 8) fun port_8 => atI .i64 (ρ 10) fun k_10 => (exK fun k => ref06_Walk_Clause.l38 Z Q k w_0 t_4 c_6 addr_7 port_8 k_10))
theorem ref06_Walk_Clause.o47 (Z : List PanicEntry → PT) (Q : List Value → PT) : Ok Try.prog Try.f29.ntmps Z ref06_Walk_Clause.c34 (ref06_Walk_Clause.q40 Z Q) (ref06_Walk_Clause.j46 Z Q) := by
  rw [ref06_Walk_Clause.q37]
  refine Ok.imp (ok_loop (J := ref06_Walk_Clause.j45 Z Q) ?_ ?_) ?_
  · intro ρ w h
    obtain ⟨w_0, e0, h⟩ := atP_e h
    obtain ⟨t_4, e4, h⟩ := atA_e h
    obtain ⟨c_6, e6, h⟩ := atA_e h
    obtain ⟨addr_7, e7, h⟩ := atB_e h
    obtain ⟨port_8, e8, h⟩ := atB_e h
    obtain ⟨k_10, e10, h⟩ := atI_e h
    exact h
  · intro k
    refine Ok.imp (ref06_Walk_Clause.s41_ok Z Q (ref06_Walk_Clause.l38 Z Q k)) fun ρ w h => ?_
    obtain ⟨w_0, e0, h⟩ := atP_e h
    obtain ⟨t_4, e4, h⟩ := atA_e h
    obtain ⟨c_6, e6, h⟩ := atA_e h
    obtain ⟨addr_7, e7, h⟩ := atB_e h
    obtain ⟨port_8, e8, h⟩ := atB_e h
    obtain ⟨k_10, e10, h⟩ := atI_e h
    show (ref06_Walk_Clause.j44 Z Q (ref06_Walk_Clause.l38 Z Q k)) ρ w
    simp only [ref06_Walk_Clause.j44]
    rw [e0]
    rw [e4]
    rw [e6]
    rw [e7]
    rw [e8]
    rw [e10]
    exact h
  · intro ρ w h
    obtain ⟨w_0, e0, h⟩ := atP_e h
    obtain ⟨t_4, e4, h⟩ := atA_e h
    obtain ⟨c_6, e6, h⟩ := atA_e h
    obtain ⟨addr_7, e7, h⟩ := atB_e h
    obtain ⟨port_8, e8, h⟩ := atB_e h
    obtain ⟨k_10, e10, h⟩ := atI_e h
    obtain ⟨k, h⟩ := h
    refine ⟨k, ?_⟩
    show (atP (ρ 0) fun w_0 => atA (ρ 4) fun t_4 => atA (ρ 6) fun c_6 => atB (ρ 7) fun addr_7 => atB (ρ 8) fun port_8 => atI .i64 (ρ 10) fun k_10 => (ref06_Walk_Clause.l38 Z Q k w_0 t_4 c_6 addr_7 port_8 k_10)) w
    rw [e0]
    rw [e4]
    rw [e6]
    rw [e7]
    rw [e8]
    rw [e10]
    exact h
theorem ref06_Walk_Clause.o48 (Z : List PanicEntry → PT) (Q : List Value → PT) : Ok Try.prog Try.f29.ntmps Z ref06_Walk_Clause.c32 (ref06_Walk_Clause.q39 Z Q) (ref06_Walk_Clause.j46 Z Q) := by
  rw [ref06_Walk_Clause.q35]; exact ok_block (ref06_Walk_Clause.o47 Z Q)
def ref06_Walk_Clause.s49 (Z : List PanicEntry → PT) (Q : List Value → PT) (w_0 : Option Addr) (t_4 : Addr) (c_6 : Addr) (addr_7 : Bool) (port_8 : Bool) : PT :=
  (exK fun k => ref06_Walk_Clause.l38 Z Q k w_0 t_4 c_6 addr_7 port_8 0)
theorem ref06_Walk_Clause.s49_eq (Z : List PanicEntry → PT) (Q : List Value → PT) (ρ : Fr) (w_0 : Option Addr) (t_4 : Addr) (c_6 : Addr) (addr_7 : Bool) (port_8 : Bool) : (comp Try.prog Z ref06_Walk_Clause.c31 (thenK (ref06_Walk_Clause.j46 Z Q) (ref06_Walk_Clause.q39 Z Q))) (puts ρ [(0, (Value.pointer w_0)), (4, (Value.pointer (some t_4))), (6, (Value.pointer (some c_6))), (7, (Value.bool addr_7)), (8, (Value.bool port_8))]) = ref06_Walk_Clause.s49 Z Q w_0 t_4 c_6 addr_7 port_8 := by kernel_rfl
def ref06_Walk_Clause.j50 (Z : List PanicEntry → PT) (Q : List Value → PT) : Fr → PT := (fun ρ => atP (ρ 0) fun w_0 => atA (ρ 4) fun t_4 => atA (ρ 6) fun c_6 => atB (ρ 7) fun addr_7 => atB (ρ 8) fun port_8 => (ref06_Walk_Clause.s49 Z Q w_0 t_4 c_6 addr_7 port_8))
theorem ref06_Walk_Clause.s49_ok (Z : List PanicEntry → PT) (Q : List Value → PT) : Ok Try.prog Try.f29.ntmps Z ref06_Walk_Clause.c20 (ref06_Walk_Clause.q39 Z Q) (ref06_Walk_Clause.j50 Z Q) := by
  intro E he ρ w a hr h
  rw [ref06_Walk_Clause.q33] at he ⊢
  obtain ⟨w_0, e0, h⟩ := atP_e h
  obtain ⟨t_4, e4, h⟩ := atA_e h
  obtain ⟨c_6, e6, h⟩ := atA_e h
  obtain ⟨addr_7, e7, h⟩ := atB_e h
  obtain ⟨port_8, e8, h⟩ := atB_e h
  exact ok_at [(0, (Value.pointer w_0)), (4, (Value.pointer (some t_4))), (6, (Value.pointer (some c_6))), (7, (Value.bool addr_7)), (8, (Value.bool port_8))] (ok_seq (okC ref06_Walk_Clause.c31 _ (by kernel_rfl)) (ref06_Walk_Clause.o48 Z Q)) (puts_cons e0 (puts_cons e4 (puts_cons e6 (puts_cons e7 (puts_cons e8 (fun p hp => puts_nil hp)))))) (ref06_Walk_Clause.s49_eq Z Q ρ w_0 t_4 c_6 addr_7 port_8) he hr h
theorem ref06_Walk_Clause.o51 (Z : List PanicEntry → PT) (Q : List Value → PT) : Ok Try.prog Try.f29.ntmps Z ref06_Walk_Clause.c18 (ref06_Walk_Clause.q27 Z Q) (ref06_Walk_Clause.j50 Z Q) := by
  rw [ref06_Walk_Clause.q22]; exact ok_seq (ref06_Walk_Clause.s49_ok Z Q) (ref06_Walk_Clause.s29_ok Z Q)
def ref06_Walk_Clause.s52 (Z : List PanicEntry → PT) (Q : List Value → PT) (w_0 : Option Addr) (t_4 : Addr) (c_6 : Addr) (addr_7 : Bool) (port_8 : Bool) : PT :=
  (nn w_0 fun v118 => (ldI .i64 (v118.add 1) fun v119 => (nn w_0 fun v120 => (st1 (v120.add 1) (Value.int .i64 (IntKind.wrap .i64 (v119 + 1))) (drawn fun S121 => (hL S121 (c_6.add 2) fun v122 v122n v122c => (cal Try.prog Z 28 [(Value.pointer w_0)] (isN fun v123 => (sAnd S121 (cnd (List.length v123 = 2) (newC 36 (v123 ++ ([])) fun v124 => (sAnd S121 (runL Try.prog (bi .append #[40, 40] 40 [false, false] [(Value.slice v122 v122n v122c), (Value.slice (some v124) 1 1)]) fun v125 v125n v125c => (sAnd S121 (st1 (c_6.add 2) (Value.slice v125 v125n v125c) (ref06_Walk_Clause.s49 Z Q w_0 t_4 c_6 addr_7 port_8))))))))))))))))
theorem ref06_Walk_Clause.s52_eq (Z : List PanicEntry → PT) (Q : List Value → PT) (ρ : Fr) (w_0 : Option Addr) (t_4 : Addr) (c_6 : Addr) (addr_7 : Bool) (port_8 : Bool) : (comp Try.prog Z ref06_Walk_Clause.c16 (thenK (comp Try.prog Z ref06_Walk_Clause.c17 (thenK (ref06_Walk_Clause.j50 Z Q) (ref06_Walk_Clause.q27 Z Q))) (ref06_Walk_Clause.q27 Z Q))) (puts ρ [(0, (Value.pointer w_0)), (4, (Value.pointer (some t_4))), (6, (Value.pointer (some c_6))), (7, (Value.bool addr_7)), (8, (Value.bool port_8))]) = ref06_Walk_Clause.s52 Z Q w_0 t_4 c_6 addr_7 port_8 := by kernel_rfl
def ref06_Walk_Clause.j53 (Z : List PanicEntry → PT) (Q : List Value → PT) : Fr → PT := (fun ρ => atP (ρ 0) fun w_0 => atA (ρ 4) fun t_4 => atA (ρ 6) fun c_6 => atB (ρ 7) fun addr_7 => atB (ρ 8) fun port_8 => (ref06_Walk_Clause.s52 Z Q w_0 t_4 c_6 addr_7 port_8))
theorem ref06_Walk_Clause.s52_ok (Z : List PanicEntry → PT) (Q : List Value → PT) : Ok Try.prog Try.f29.ntmps Z ref06_Walk_Clause.c14 (ref06_Walk_Clause.q27 Z Q) (ref06_Walk_Clause.j53 Z Q) := by
  intro E he ρ w a hr h
  rw [ref06_Walk_Clause.q19] at he ⊢
  obtain ⟨w_0, e0, h⟩ := atP_e h
  obtain ⟨t_4, e4, h⟩ := atA_e h
  obtain ⟨c_6, e6, h⟩ := atA_e h
  obtain ⟨addr_7, e7, h⟩ := atB_e h
  obtain ⟨port_8, e8, h⟩ := atB_e h
  exact ok_at [(0, (Value.pointer w_0)), (4, (Value.pointer (some t_4))), (6, (Value.pointer (some c_6))), (7, (Value.bool addr_7)), (8, (Value.bool port_8))] (ok_seq (okC ref06_Walk_Clause.c16 _ (by kernel_rfl)) (ok_seq (okC ref06_Walk_Clause.c17 _ (by kernel_rfl)) (ref06_Walk_Clause.o51 Z Q))) (puts_cons e0 (puts_cons e4 (puts_cons e6 (puts_cons e7 (puts_cons e8 (fun p hp => puts_nil hp)))))) (ref06_Walk_Clause.s52_eq Z Q ρ w_0 t_4 c_6 addr_7 port_8) he hr h
noncomputable def ref06_Walk_Clause.c54 : Code := sq1 ref06_Walk_Clause.c13
noncomputable def ref06_Walk_Clause.c55 : Code := sq2 ref06_Walk_Clause.c13
theorem ref06_Walk_Clause.q56 : ref06_Walk_Clause.c13 = .seq ref06_Walk_Clause.c54 ref06_Walk_Clause.c55 := by kernel_rfl
noncomputable def ref06_Walk_Clause.c57 : Code := blk ref06_Walk_Clause.c55
theorem ref06_Walk_Clause.q58 : ref06_Walk_Clause.c55 = .block 0 ref06_Walk_Clause.c57 := by kernel_rfl
noncomputable def ref06_Walk_Clause.c59 : Code := lop ref06_Walk_Clause.c57
theorem ref06_Walk_Clause.q60 : ref06_Walk_Clause.c57 = .loop ref06_Walk_Clause.c59 := by kernel_rfl
def ref06_Walk_Clause.q62 (Z : List PanicEntry → PT) (Q : List Value → PT) : QF := thenK (ref06_Walk_Clause.j53 Z Q) (ref06_Walk_Clause.q27 Z Q)
def ref06_Walk_Clause.q63 (Z : List PanicEntry → PT) (Q : List Value → PT) : QF := inBl 0 (ref06_Walk_Clause.q62 Z Q)
def ref06_Walk_Clause.s64 (Z : List PanicEntry → PT) (Q : List Value → PT) (X1 : Option Addr → Option Addr → Nat → Nat → Addr → Addr → Addr → Bool → Bool → Int → PT) (w_0 : Option Addr) (had_1 : Option Addr) (had_1n had_1c : Nat) (t_4 : Addr) (t_5 : Addr) (c_6 : Addr) (addr_7 : Bool) (port_8 : Bool) (i_9 : Int) : PT :=
  (pif (decide (i_9 < ((had_1n : Nat) : Int))) (drew0 (ixS had_1 had_1n i_9 5 fun v132 => (ldS (v132.add 0) fun v133 => (ldS (t_5.add 2) fun v134 => (pif (v133.toList == v134.toList) (cal Try.prog Z 15 [(Value.pointer w_0), (Value.int .i64 9)] (isU (X1 w_0 had_1 had_1n had_1c t_4 t_5 c_6 addr_7 port_8 (IntKind.wrap .i64 (i_9 + 1))))) (X1 w_0 had_1 had_1n had_1c t_4 t_5 c_6 addr_7 port_8 (IntKind.wrap .i64 (i_9 + 1)))))))) (ref06_Walk_Clause.s52 Z Q w_0 t_4 c_6 addr_7 port_8))
def ref06_Walk_Clause.j65 (Z : List PanicEntry → PT) (Q : List Value → PT) (X1 : Option Addr → Option Addr → Nat → Nat → Addr → Addr → Addr → Bool → Bool → Int → PT) : Fr → PT := (fun ρ => atP (ρ 0) fun w_0 => atL (ρ 1) fun had_1 had_1n had_1c => atA (ρ 4) fun t_4 => atA (ρ 5) fun t_5 => atA (ρ 6) fun c_6 => atB (ρ 7) fun addr_7 => atB (ρ 8) fun port_8 => atI .i64 (ρ 9) fun i_9 => (X1 w_0 had_1 had_1n had_1c t_4 t_5 c_6 addr_7 port_8 i_9))
def ref06_Walk_Clause.q66 (Z : List PanicEntry → PT) (Q : List Value → PT) (X1 : Option Addr → Option Addr → Nat → Nat → Addr → Addr → Addr → Bool → Bool → Int → PT) : QF := thenK (ref06_Walk_Clause.j65 Z Q X1) (ref06_Walk_Clause.q63 Z Q)
theorem ref06_Walk_Clause.s64_eq (Z : List PanicEntry → PT) (Q : List Value → PT) (X1 : Option Addr → Option Addr → Nat → Nat → Addr → Addr → Addr → Bool → Bool → Int → PT) (ρ : Fr) (w_0 : Option Addr) (had_1 : Option Addr) (had_1n had_1c : Nat) (t_4 : Addr) (t_5 : Addr) (c_6 : Addr) (addr_7 : Bool) (port_8 : Bool) (i_9 : Int) : comp Try.prog Z ref06_Walk_Clause.c59 (ref06_Walk_Clause.q66 Z Q X1) (puts ρ [(0, (Value.pointer w_0)), (1, (Value.slice had_1 had_1n had_1c)), (4, (Value.pointer (some t_4))), (5, (Value.pointer (some t_5))), (6, (Value.pointer (some c_6))), (7, (Value.bool addr_7)), (8, (Value.bool port_8)), (9, (Value.int .i64 i_9))]) = ref06_Walk_Clause.s64 Z Q X1 w_0 had_1 had_1n had_1c t_4 t_5 c_6 addr_7 port_8 i_9 := by kernel_rfl
def ref06_Walk_Clause.j67 (Z : List PanicEntry → PT) (Q : List Value → PT) (X1 : Option Addr → Option Addr → Nat → Nat → Addr → Addr → Addr → Bool → Bool → Int → PT) : Fr → PT := (fun ρ => atP (ρ 0) fun w_0 => atL (ρ 1) fun had_1 had_1n had_1c => atA (ρ 4) fun t_4 => atA (ρ 5) fun t_5 => atA (ρ 6) fun c_6 => atB (ρ 7) fun addr_7 => atB (ρ 8) fun port_8 => atI .i64 (ρ 9) fun i_9 => (ref06_Walk_Clause.s64 Z Q X1 w_0 had_1 had_1n had_1c t_4 t_5 c_6 addr_7 port_8 i_9))
theorem ref06_Walk_Clause.s64_ok (Z : List PanicEntry → PT) (Q : List Value → PT) (X1 : Option Addr → Option Addr → Nat → Nat → Addr → Addr → Addr → Bool → Bool → Int → PT) : Ok Try.prog Try.f29.ntmps Z ref06_Walk_Clause.c59 (ref06_Walk_Clause.q66 Z Q X1) (ref06_Walk_Clause.j67 Z Q X1) := by
  intro E he ρ w a hr h
  obtain ⟨w_0, e0, h⟩ := atP_e h
  obtain ⟨had_1, had_1n, had_1c, e1, h⟩ := atL_e h
  obtain ⟨t_4, e4, h⟩ := atA_e h
  obtain ⟨t_5, e5, h⟩ := atA_e h
  obtain ⟨c_6, e6, h⟩ := atA_e h
  obtain ⟨addr_7, e7, h⟩ := atB_e h
  obtain ⟨port_8, e8, h⟩ := atB_e h
  obtain ⟨i_9, e9, h⟩ := atI_e h
  exact ok_at [(0, (Value.pointer w_0)), (1, (Value.slice had_1 had_1n had_1c)), (4, (Value.pointer (some t_4))), (5, (Value.pointer (some t_5))), (6, (Value.pointer (some c_6))), (7, (Value.bool addr_7)), (8, (Value.bool port_8)), (9, (Value.int .i64 i_9))] (okC ref06_Walk_Clause.c59 (ref06_Walk_Clause.q66 Z Q X1) (by kernel_rfl)) (puts_cons e0 (puts_cons e1 (puts_cons e4 (puts_cons e5 (puts_cons e6 (puts_cons e7 (puts_cons e8 (puts_cons e9 (fun p hp => puts_nil hp))))))))) (ref06_Walk_Clause.s64_eq Z Q X1 ρ w_0 had_1 had_1n had_1c t_4 t_5 c_6 addr_7 port_8 i_9) he hr h
def ref06_Walk_Clause.l61 (Z : List PanicEntry → PT) (Q : List Value → PT) : Nat → Option Addr → Option Addr → Nat → Nat → Addr → Addr → Addr → Bool → Bool → Int → PT
  | 0, _, _, _, _, _, _, _, _, _, _ => bad
  | k + 1, w_0, had_1, had_1n, had_1c, t_4, t_5, c_6, addr_7, port_8, i_9 => (ref06_Walk_Clause.s64 Z Q (ref06_Walk_Clause.l61 Z Q k) w_0 had_1 had_1n had_1c t_4 t_5 c_6 addr_7 port_8 i_9)
def ref06_Walk_Clause.j68 (Z : List PanicEntry → PT) (Q : List Value → PT) (k : Nat) : Fr → PT := (fun ρ => atP (ρ 0) fun w_0 => atL (ρ 1) fun had_1 had_1n had_1c => atA (ρ 4) fun t_4 => atA (ρ 5) fun t_5 => atA (ρ 6) fun c_6 => atB (ρ 7) fun addr_7 => atB (ρ 8) fun port_8 => atI .i64 (ρ 9) fun i_9 => (ref06_Walk_Clause.l61 Z Q k w_0 had_1 had_1n had_1c t_4 t_5 c_6 addr_7 port_8 i_9))
def ref06_Walk_Clause.j69 (Z : List PanicEntry → PT) (Q : List Value → PT) : Fr → PT := (fun ρ => atP (ρ 0) fun w_0 => atL (ρ 1) fun had_1 had_1n had_1c => atA (ρ 4) fun t_4 => atA (ρ 5) fun t_5 => atA (ρ 6) fun c_6 => atB (ρ 7) fun addr_7 => atB (ρ 8) fun port_8 => atI .i64 (ρ 9) fun i_9 => (exK fun k => ref06_Walk_Clause.l61 Z Q k w_0 had_1 had_1n had_1c t_4 t_5 c_6 addr_7 port_8 i_9))
theorem ref06_Walk_Clause.o70 (Z : List PanicEntry → PT) (Q : List Value → PT) : Ok Try.prog Try.f29.ntmps Z ref06_Walk_Clause.c57 (ref06_Walk_Clause.q63 Z Q) (ref06_Walk_Clause.j69 Z Q) := by
  rw [ref06_Walk_Clause.q60]
  refine Ok.imp (ok_loop (J := ref06_Walk_Clause.j68 Z Q) ?_ ?_) ?_
  · intro ρ w h
    obtain ⟨w_0, e0, h⟩ := atP_e h
    obtain ⟨had_1, had_1n, had_1c, e1, h⟩ := atL_e h
    obtain ⟨t_4, e4, h⟩ := atA_e h
    obtain ⟨t_5, e5, h⟩ := atA_e h
    obtain ⟨c_6, e6, h⟩ := atA_e h
    obtain ⟨addr_7, e7, h⟩ := atB_e h
    obtain ⟨port_8, e8, h⟩ := atB_e h
    obtain ⟨i_9, e9, h⟩ := atI_e h
    exact h
  · intro k
    refine Ok.imp (ref06_Walk_Clause.s64_ok Z Q (ref06_Walk_Clause.l61 Z Q k)) fun ρ w h => ?_
    obtain ⟨w_0, e0, h⟩ := atP_e h
    obtain ⟨had_1, had_1n, had_1c, e1, h⟩ := atL_e h
    obtain ⟨t_4, e4, h⟩ := atA_e h
    obtain ⟨t_5, e5, h⟩ := atA_e h
    obtain ⟨c_6, e6, h⟩ := atA_e h
    obtain ⟨addr_7, e7, h⟩ := atB_e h
    obtain ⟨port_8, e8, h⟩ := atB_e h
    obtain ⟨i_9, e9, h⟩ := atI_e h
    show (ref06_Walk_Clause.j67 Z Q (ref06_Walk_Clause.l61 Z Q k)) ρ w
    simp only [ref06_Walk_Clause.j67]
    rw [e0]
    rw [e1]
    rw [e4]
    rw [e5]
    rw [e6]
    rw [e7]
    rw [e8]
    rw [e9]
    exact h
  · intro ρ w h
    obtain ⟨w_0, e0, h⟩ := atP_e h
    obtain ⟨had_1, had_1n, had_1c, e1, h⟩ := atL_e h
    obtain ⟨t_4, e4, h⟩ := atA_e h
    obtain ⟨t_5, e5, h⟩ := atA_e h
    obtain ⟨c_6, e6, h⟩ := atA_e h
    obtain ⟨addr_7, e7, h⟩ := atB_e h
    obtain ⟨port_8, e8, h⟩ := atB_e h
    obtain ⟨i_9, e9, h⟩ := atI_e h
    obtain ⟨k, h⟩ := h
    refine ⟨k, ?_⟩
    show (atP (ρ 0) fun w_0 => atL (ρ 1) fun had_1 had_1n had_1c => atA (ρ 4) fun t_4 => atA (ρ 5) fun t_5 => atA (ρ 6) fun c_6 => atB (ρ 7) fun addr_7 => atB (ρ 8) fun port_8 => atI .i64 (ρ 9) fun i_9 => (ref06_Walk_Clause.l61 Z Q k w_0 had_1 had_1n had_1c t_4 t_5 c_6 addr_7 port_8 i_9)) w
    rw [e0]
    rw [e1]
    rw [e4]
    rw [e5]
    rw [e6]
    rw [e7]
    rw [e8]
    rw [e9]
    exact h
theorem ref06_Walk_Clause.o71 (Z : List PanicEntry → PT) (Q : List Value → PT) : Ok Try.prog Try.f29.ntmps Z ref06_Walk_Clause.c55 (ref06_Walk_Clause.q62 Z Q) (ref06_Walk_Clause.j69 Z Q) := by
  rw [ref06_Walk_Clause.q58]; exact ok_block (ref06_Walk_Clause.o70 Z Q)
def ref06_Walk_Clause.s72 (Z : List PanicEntry → PT) (Q : List Value → PT) (w_0 : Option Addr) (had_1 : Option Addr) (had_1n had_1c : Nat) (t_4 : Addr) (t_5 : Addr) (c_6 : Addr) (addr_7 : Bool) (port_8 : Bool) : PT :=
  (exK fun k => ref06_Walk_Clause.l61 Z Q k w_0 had_1 had_1n had_1c t_4 t_5 c_6 addr_7 port_8 0)
theorem ref06_Walk_Clause.s72_eq (Z : List PanicEntry → PT) (Q : List Value → PT) (ρ : Fr) (w_0 : Option Addr) (had_1 : Option Addr) (had_1n had_1c : Nat) (t_4 : Addr) (t_5 : Addr) (c_6 : Addr) (addr_7 : Bool) (port_8 : Bool) : (comp Try.prog Z ref06_Walk_Clause.c54 (thenK (ref06_Walk_Clause.j69 Z Q) (ref06_Walk_Clause.q62 Z Q))) (puts ρ [(0, (Value.pointer w_0)), (1, (Value.slice had_1 had_1n had_1c)), (4, (Value.pointer (some t_4))), (5, (Value.pointer (some t_5))), (6, (Value.pointer (some c_6))), (7, (Value.bool addr_7)), (8, (Value.bool port_8))]) = ref06_Walk_Clause.s72 Z Q w_0 had_1 had_1n had_1c t_4 t_5 c_6 addr_7 port_8 := by kernel_rfl
def ref06_Walk_Clause.j73 (Z : List PanicEntry → PT) (Q : List Value → PT) : Fr → PT := (fun ρ => atP (ρ 0) fun w_0 => atL (ρ 1) fun had_1 had_1n had_1c => atA (ρ 4) fun t_4 => atA (ρ 5) fun t_5 => atA (ρ 6) fun c_6 => atB (ρ 7) fun addr_7 => atB (ρ 8) fun port_8 => (ref06_Walk_Clause.s72 Z Q w_0 had_1 had_1n had_1c t_4 t_5 c_6 addr_7 port_8))
theorem ref06_Walk_Clause.s72_ok (Z : List PanicEntry → PT) (Q : List Value → PT) : Ok Try.prog Try.f29.ntmps Z ref06_Walk_Clause.c13 (ref06_Walk_Clause.q62 Z Q) (ref06_Walk_Clause.j73 Z Q) := by
  intro E he ρ w a hr h
  rw [ref06_Walk_Clause.q56] at he ⊢
  obtain ⟨w_0, e0, h⟩ := atP_e h
  obtain ⟨had_1, had_1n, had_1c, e1, h⟩ := atL_e h
  obtain ⟨t_4, e4, h⟩ := atA_e h
  obtain ⟨t_5, e5, h⟩ := atA_e h
  obtain ⟨c_6, e6, h⟩ := atA_e h
  obtain ⟨addr_7, e7, h⟩ := atB_e h
  obtain ⟨port_8, e8, h⟩ := atB_e h
  exact ok_at [(0, (Value.pointer w_0)), (1, (Value.slice had_1 had_1n had_1c)), (4, (Value.pointer (some t_4))), (5, (Value.pointer (some t_5))), (6, (Value.pointer (some c_6))), (7, (Value.bool addr_7)), (8, (Value.bool port_8))] (ok_seq (okC ref06_Walk_Clause.c54 _ (by kernel_rfl)) (ref06_Walk_Clause.o71 Z Q)) (puts_cons e0 (puts_cons e1 (puts_cons e4 (puts_cons e5 (puts_cons e6 (puts_cons e7 (puts_cons e8 (fun p hp => puts_nil hp)))))))) (ref06_Walk_Clause.s72_eq Z Q ρ w_0 had_1 had_1n had_1c t_4 t_5 c_6 addr_7 port_8) he hr h
theorem ref06_Walk_Clause.o74 (Z : List PanicEntry → PT) (Q : List Value → PT) : Ok Try.prog Try.f29.ntmps Z ref06_Walk_Clause.c11 (ref06_Walk_Clause.q27 Z Q) (ref06_Walk_Clause.j73 Z Q) := by
  rw [ref06_Walk_Clause.q15]; exact ok_seq (ref06_Walk_Clause.s72_ok Z Q) (ref06_Walk_Clause.s52_ok Z Q)
def ref06_Walk_Clause.s75 (Z : List PanicEntry → PT) (Q : List Value → PT) (w_0 : Option Addr) (had_1 : Option Addr) (had_1n had_1c : Nat) (t_4 : Addr) (t_5 : Addr) (c_6 : Addr) (addr_7 : Bool) (port_8 : Bool) : PT :=
  (pif (!addr_7) (pif (!port_8) (ldS (t_5.add 2) fun v135 => (pif (!(v135.toList == (⟨#[112, 114, 111, 116, 111]⟩ : ByteArray).toList)) (cal Try.prog Z 15 [(Value.pointer w_0), (Value.int .i64 8)] (isU (ref06_Walk_Clause.s72 Z Q w_0 had_1 had_1n had_1c t_4 t_5 c_6 addr_7 port_8))) (ref06_Walk_Clause.s72 Z Q w_0 had_1 had_1n had_1c t_4 t_5 c_6 addr_7 port_8))) (ref06_Walk_Clause.s72 Z Q w_0 had_1 had_1n had_1c t_4 t_5 c_6 addr_7 port_8)) (ref06_Walk_Clause.s72 Z Q w_0 had_1 had_1n had_1c t_4 t_5 c_6 addr_7 port_8))
theorem ref06_Walk_Clause.s75_eq (Z : List PanicEntry → PT) (Q : List Value → PT) (ρ : Fr) (w_0 : Option Addr) (had_1 : Option Addr) (had_1n had_1c : Nat) (t_4 : Addr) (t_5 : Addr) (c_6 : Addr) (addr_7 : Bool) (port_8 : Bool) : (comp Try.prog Z ref06_Walk_Clause.c10 (thenK (ref06_Walk_Clause.j73 Z Q) (ref06_Walk_Clause.q27 Z Q))) (puts ρ [(0, (Value.pointer w_0)), (1, (Value.slice had_1 had_1n had_1c)), (4, (Value.pointer (some t_4))), (5, (Value.pointer (some t_5))), (6, (Value.pointer (some c_6))), (7, (Value.bool addr_7)), (8, (Value.bool port_8))]) = ref06_Walk_Clause.s75 Z Q w_0 had_1 had_1n had_1c t_4 t_5 c_6 addr_7 port_8 := by kernel_rfl
def ref06_Walk_Clause.j76 (Z : List PanicEntry → PT) (Q : List Value → PT) : Fr → PT := (fun ρ => atP (ρ 0) fun w_0 => atL (ρ 1) fun had_1 had_1n had_1c => atA (ρ 4) fun t_4 => atA (ρ 5) fun t_5 => atA (ρ 6) fun c_6 => atB (ρ 7) fun addr_7 => atB (ρ 8) fun port_8 => (ref06_Walk_Clause.s75 Z Q w_0 had_1 had_1n had_1c t_4 t_5 c_6 addr_7 port_8))
theorem ref06_Walk_Clause.s75_ok (Z : List PanicEntry → PT) (Q : List Value → PT) : Ok Try.prog Try.f29.ntmps Z ref06_Walk_Clause.c8 (ref06_Walk_Clause.q27 Z Q) (ref06_Walk_Clause.j76 Z Q) := by
  intro E he ρ w a hr h
  rw [ref06_Walk_Clause.q12] at he ⊢
  obtain ⟨w_0, e0, h⟩ := atP_e h
  obtain ⟨had_1, had_1n, had_1c, e1, h⟩ := atL_e h
  obtain ⟨t_4, e4, h⟩ := atA_e h
  obtain ⟨t_5, e5, h⟩ := atA_e h
  obtain ⟨c_6, e6, h⟩ := atA_e h
  obtain ⟨addr_7, e7, h⟩ := atB_e h
  obtain ⟨port_8, e8, h⟩ := atB_e h
  exact ok_at [(0, (Value.pointer w_0)), (1, (Value.slice had_1 had_1n had_1c)), (4, (Value.pointer (some t_4))), (5, (Value.pointer (some t_5))), (6, (Value.pointer (some c_6))), (7, (Value.bool addr_7)), (8, (Value.bool port_8))] (ok_seq (okC ref06_Walk_Clause.c10 _ (by kernel_rfl)) (ref06_Walk_Clause.o74 Z Q)) (puts_cons e0 (puts_cons e1 (puts_cons e4 (puts_cons e5 (puts_cons e6 (puts_cons e7 (puts_cons e8 (fun p hp => puts_nil hp)))))))) (ref06_Walk_Clause.s75_eq Z Q ρ w_0 had_1 had_1n had_1c t_4 t_5 c_6 addr_7 port_8) he hr h
def ref06_Walk_Clause.s77 (Z : List PanicEntry → PT) (Q : List Value → PT) (w_0 : Option Addr) (had_1 : Option Addr) (had_1n had_1c : Nat) (t_4 : Addr) (t_5 : Addr) (c_6 : Addr) (addr_7 : Bool) : PT :=
  (ldS (t_5.add 2) fun v136 => (pif (v136.toList == (⟨#[115, 112, 111, 114, 116]⟩ : ByteArray).toList) (ref06_Walk_Clause.s75 Z Q w_0 had_1 had_1n had_1c t_4 t_5 c_6 addr_7 true) (ldS (t_5.add 2) fun v137 => (ref06_Walk_Clause.s75 Z Q w_0 had_1 had_1n had_1c t_4 t_5 c_6 addr_7 (v137.toList == (⟨#[100, 112, 111, 114, 116]⟩ : ByteArray).toList)))))
theorem ref06_Walk_Clause.s77_eq (Z : List PanicEntry → PT) (Q : List Value → PT) (ρ : Fr) (w_0 : Option Addr) (had_1 : Option Addr) (had_1n had_1c : Nat) (t_4 : Addr) (t_5 : Addr) (c_6 : Addr) (addr_7 : Bool) : (comp Try.prog Z ref06_Walk_Clause.c7 (thenK (ref06_Walk_Clause.j76 Z Q) (ref06_Walk_Clause.q27 Z Q))) (puts ρ [(0, (Value.pointer w_0)), (1, (Value.slice had_1 had_1n had_1c)), (4, (Value.pointer (some t_4))), (5, (Value.pointer (some t_5))), (6, (Value.pointer (some c_6))), (7, (Value.bool addr_7))]) = ref06_Walk_Clause.s77 Z Q w_0 had_1 had_1n had_1c t_4 t_5 c_6 addr_7 := by kernel_rfl
def ref06_Walk_Clause.j78 (Z : List PanicEntry → PT) (Q : List Value → PT) : Fr → PT := (fun ρ => atP (ρ 0) fun w_0 => atL (ρ 1) fun had_1 had_1n had_1c => atA (ρ 4) fun t_4 => atA (ρ 5) fun t_5 => atA (ρ 6) fun c_6 => atB (ρ 7) fun addr_7 => (ref06_Walk_Clause.s77 Z Q w_0 had_1 had_1n had_1c t_4 t_5 c_6 addr_7))
theorem ref06_Walk_Clause.s77_ok (Z : List PanicEntry → PT) (Q : List Value → PT) : Ok Try.prog Try.f29.ntmps Z ref06_Walk_Clause.c5 (ref06_Walk_Clause.q27 Z Q) (ref06_Walk_Clause.j78 Z Q) := by
  intro E he ρ w a hr h
  rw [ref06_Walk_Clause.q9] at he ⊢
  obtain ⟨w_0, e0, h⟩ := atP_e h
  obtain ⟨had_1, had_1n, had_1c, e1, h⟩ := atL_e h
  obtain ⟨t_4, e4, h⟩ := atA_e h
  obtain ⟨t_5, e5, h⟩ := atA_e h
  obtain ⟨c_6, e6, h⟩ := atA_e h
  obtain ⟨addr_7, e7, h⟩ := atB_e h
  exact ok_at [(0, (Value.pointer w_0)), (1, (Value.slice had_1 had_1n had_1c)), (4, (Value.pointer (some t_4))), (5, (Value.pointer (some t_5))), (6, (Value.pointer (some c_6))), (7, (Value.bool addr_7))] (ok_seq (okC ref06_Walk_Clause.c7 _ (by kernel_rfl)) (ref06_Walk_Clause.s75_ok Z Q)) (puts_cons e0 (puts_cons e1 (puts_cons e4 (puts_cons e5 (puts_cons e6 (puts_cons e7 (fun p hp => puts_nil hp))))))) (ref06_Walk_Clause.s77_eq Z Q ρ w_0 had_1 had_1n had_1c t_4 t_5 c_6 addr_7) he hr h
def ref06_Walk_Clause.s79 (Z : List PanicEntry → PT) (Q : List Value → PT) (w_0 : Option Addr) (had_1 : Option Addr) (had_1n had_1c : Nat) : PT :=
  (newC 42 [(Value.string ⟨#[]⟩), (Value.int .i64 0), (Value.slice none 0 0), (Value.bool false), (Value.bool false)] fun v138 => (cal Try.prog Z 26 [(Value.pointer w_0)] (isN fun v139 => (newC 33 [(Value.int .i64 0), (Value.int .i64 0), (Value.string ⟨#[]⟩), (Value.int .i64 0)] fun t140 => (stN 4 t140 v139 (ldS (t140.add 2) fun v141 => (ldI .i64 (t140.add 1) fun v142 => (newC 42 [(Value.string ⟨#[]⟩), (Value.int .i64 0), (Value.slice none 0 0), (Value.bool false), (Value.bool false)] fun c143 => (stN 5 c143 [(Value.string v141), (Value.int .i64 v142), (Value.slice none 0 0), (Value.bool false), (Value.bool false)] (ldS (t140.add 2) fun v144 => (pif (v144.toList == (⟨#[115, 114, 99]⟩ : ByteArray).toList) (ref06_Walk_Clause.s77 Z Q w_0 had_1 had_1n had_1c v138 t140 c143 true) (ldS (t140.add 2) fun v145 => (ref06_Walk_Clause.s77 Z Q w_0 had_1 had_1n had_1c v138 t140 c143 (v145.toList == (⟨#[100, 115, 116]⟩ : ByteArray).toList))))))))))))))
theorem ref06_Walk_Clause.s79_eq (Z : List PanicEntry → PT) (Q : List Value → PT) (ρ : Fr) (w_0 : Option Addr) (had_1 : Option Addr) (had_1n had_1c : Nat) : (comp Try.prog Z ref06_Walk_Clause.c1 (thenK (comp Try.prog Z ref06_Walk_Clause.c2 (thenK (comp Try.prog Z ref06_Walk_Clause.c3 (thenK (comp Try.prog Z ref06_Walk_Clause.c4 (thenK (ref06_Walk_Clause.j78 Z Q) (ref06_Walk_Clause.q27 Z Q))) (ref06_Walk_Clause.q27 Z Q))) (ref06_Walk_Clause.q27 Z Q))) (ref06_Walk_Clause.q27 Z Q))) (puts ρ [(0, (Value.pointer w_0)), (1, (Value.slice had_1 had_1n had_1c))]) = ref06_Walk_Clause.s79 Z Q w_0 had_1 had_1n had_1c := by kernel_rfl
def ref06_Walk_Clause.j80 (Z : List PanicEntry → PT) (Q : List Value → PT) : Fr → PT := (fun ρ => atP (ρ 0) fun w_0 => atL (ρ 1) fun had_1 had_1n had_1c => (ref06_Walk_Clause.s79 Z Q w_0 had_1 had_1n had_1c))
theorem ref06_Walk_Clause.s79_ok (Z : List PanicEntry → PT) (Q : List Value → PT) : Ok Try.prog Try.f29.ntmps Z ref06_Walk_Clause.body (ref06_Walk_Clause.q27 Z Q) (ref06_Walk_Clause.j80 Z Q) := by
  intro E he ρ w a hr h
  rw [ref06_Walk_Clause.q6] at he ⊢
  obtain ⟨w_0, e0, h⟩ := atP_e h
  obtain ⟨had_1, had_1n, had_1c, e1, h⟩ := atL_e h
  exact ok_at [(0, (Value.pointer w_0)), (1, (Value.slice had_1 had_1n had_1c))] (ok_seq (okC ref06_Walk_Clause.c1 _ (by kernel_rfl)) (ok_seq (okC ref06_Walk_Clause.c2 _ (by kernel_rfl)) (ok_seq (okC ref06_Walk_Clause.c3 _ (by kernel_rfl)) (ok_seq (okC ref06_Walk_Clause.c4 _ (by kernel_rfl)) (ref06_Walk_Clause.s77_ok Z Q))))) (puts_cons e0 (puts_cons e1 (fun p hp => puts_nil hp))) (ref06_Walk_Clause.s79_eq Z Q ρ w_0 had_1 had_1n had_1c) he hr h
def ref06_Walk_Clause.F (Z : List PanicEntry → PT) (Q : List Value → PT) (w_0 : Option Addr) (had_1 : Option Addr) (had_1n had_1c : Nat) : PT :=
  (ref06_Walk_Clause.s79 Z Q w_0 had_1 had_1n had_1c)
theorem ref06_Walk_Clause.vc (Z : List PanicEntry → PT) (Q : List Value → PT) (w_0 : Option Addr) (had_1 : Option Addr) (had_1n had_1c : Nat) (w : World) (h : ref06_Walk_Clause.F Z Q w_0 had_1 had_1n had_1c w) : Calls Try.prog 29 ⟨[(Value.pointer w_0), (Value.slice had_1 had_1n had_1c)]⟩ w fun e w' => (∃ (r0 : List Value), e = .returned (.agg ⟨r0⟩) ∧ Q r0 w') ∨ ∃ c, e = .panicked c ∧ Z c w' := by
  refine (calls_of_ok (args := [(Value.pointer w_0), (Value.slice had_1 had_1n had_1c)]) (w := w) (rs := [.cell 4 42]) (fn := Try.f29) (c := ref06_Walk_Clause.body) Try.func29 (by kernel_rfl) (by kernel_rfl) (Nat.le_of_ble_eq_true (by kernel_rfl)) (ref06_Walk_Clause.s79_ok Z Q) (h)).mono fun e w' hR => ?_
  cases e with
  | returned v =>
    obtain ⟨va, rfl, hR⟩ := atN_e hR
    exact .inl ⟨va, rfl, hR⟩
  | panicked c => exact .inr ⟨c, rfl, hR⟩
  | outgrown => exact hR.elim
theorem ref06_Walk_Clause.vc0 (Q : List Value → PT) (w_0 : Option Addr) (had_1 : Option Addr) (had_1n had_1c : Nat) (w : World) (h : ref06_Walk_Clause.F Z0 Q w_0 had_1 had_1n had_1c w) : Calls Try.prog 29 ⟨[(Value.pointer w_0), (Value.slice had_1 had_1n had_1c)]⟩ w fun e w' => (∃ (r0 : List Value), e = .returned (.agg ⟨r0⟩) ∧ Q r0 w') :=
  (ref06_Walk_Clause.vc Z0 Q w_0 had_1 had_1n had_1c w h).mono fun _ _ hR => hR.elim id fun ⟨_, _, hz⟩ => hz.elim
theorem ref06_Walk_Clause.cal {Z : List PanicEntry → PT} {Q : List Value → PT} {w_0 : Option Addr} {had_1 : Option Addr} {had_1n had_1c : Nat} {w : World} (h : ref06_Walk_Clause.F Z Q w_0 had_1 had_1n had_1c w) : Go.Proofs.Ytimdpeolfhaajaa.cal Try.prog Z 29 [(Value.pointer w_0), (Value.slice had_1 had_1n had_1c)] (isN fun r0 => Q r0) w := by
  refine (ref06_Walk_Clause.vc Z Q w_0 had_1 had_1n had_1c w h).mono fun e w' hR => ?_
  rcases hR with ⟨r0, rfl, h⟩ | ⟨c, rfl, h⟩
  · show (isN fun r0 => Q r0) (.agg ⟨r0⟩) w'
    exact ⟨_, rfl, h⟩
  · exact h

/-! ### (*milepost/milepostref06.Walk).Row: function 16 -/
noncomputable def ref06_Walk_Row.body : Code := bodyC Try.f16
noncomputable def ref06_Walk_Row.c1 : Code := sq1 ref06_Walk_Row.body
noncomputable def ref06_Walk_Row.c2 : Code := sq1 (sq2 ref06_Walk_Row.body)
noncomputable def ref06_Walk_Row.c3 : Code := sq2 (sq2 ref06_Walk_Row.body)
theorem ref06_Walk_Row.q4 : ref06_Walk_Row.body = .seq ref06_Walk_Row.c1 (.seq ref06_Walk_Row.c2 ref06_Walk_Row.c3) := by kernel_rfl
noncomputable def ref06_Walk_Row.c5 : Code := sq1 ref06_Walk_Row.c3
noncomputable def ref06_Walk_Row.c6 : Code := sq2 ref06_Walk_Row.c3
theorem ref06_Walk_Row.q7 : ref06_Walk_Row.c3 = .seq ref06_Walk_Row.c5 ref06_Walk_Row.c6 := by kernel_rfl
noncomputable def ref06_Walk_Row.c8 : Code := sq1 ref06_Walk_Row.c6
noncomputable def ref06_Walk_Row.c9 : Code := sq2 ref06_Walk_Row.c6
theorem ref06_Walk_Row.q10 : ref06_Walk_Row.c6 = .seq ref06_Walk_Row.c8 ref06_Walk_Row.c9 := by kernel_rfl
noncomputable def ref06_Walk_Row.c11 : Code := sq1 ref06_Walk_Row.c9
noncomputable def ref06_Walk_Row.c12 : Code := sq2 ref06_Walk_Row.c9
theorem ref06_Walk_Row.q13 : ref06_Walk_Row.c9 = .seq ref06_Walk_Row.c11 ref06_Walk_Row.c12 := by kernel_rfl
def ref06_Walk_Row.s14 (Z : List PanicEntry → PT) (Q : List Value → PT) (w_0 : Option Addr) (t_2 : Addr) (x_3 : Addr) : PT :=
  (drew0 (nn w_0 fun v40 => (ldI .i64 (v40.add 1) fun v41 => (nn w_0 fun v42 => (ldL (v42.add 0) fun v43 v43n v43c => (pif (decide (v41 < ((v43n : Nat) : Int))) (nn w_0 fun v44 => (ldL (v44.add 0) fun v45 v45n v45c => (nn w_0 fun v46 => (ldI .i64 (v46.add 1) fun v47 => (ixS v45 v45n v47 4 fun v48 => (ldI .i64 (v48.add 0) fun v49 => (pif (v49 != 7) (cal Try.prog Z 15 [(Value.pointer w_0), (Value.int .i64 8)] (isU (ldN 8 x_3 fun v50 => (stN 8 t_2 v50 (ldN 8 t_2 fun v51 => (Q v51)))))) (ldN 8 x_3 fun v52 => (stN 8 t_2 v52 (ldN 8 t_2 fun v53 => (Q v53))))))))))) (ldN 8 x_3 fun v54 => (stN 8 t_2 v54 (ldN 8 t_2 fun v55 => (Q v55))))))))))
def ref06_Walk_Row.q15 (Z : List PanicEntry → PT) (Q : List Value → PT) : QF := bodyQ Try.prog [.cell 2 39] (fun v => atN v fun va => Q va)
theorem ref06_Walk_Row.s14_eq (Z : List PanicEntry → PT) (Q : List Value → PT) (ρ : Fr) (w_0 : Option Addr) (t_2 : Addr) (x_3 : Addr) : comp Try.prog Z ref06_Walk_Row.c12 (ref06_Walk_Row.q15 Z Q) (puts ρ [(0, (Value.pointer w_0)), (2, (Value.pointer (some t_2))), (3, (Value.pointer (some x_3)))]) = ref06_Walk_Row.s14 Z Q w_0 t_2 x_3 := by kernel_rfl
def ref06_Walk_Row.j16 (Z : List PanicEntry → PT) (Q : List Value → PT) : Fr → PT := (fun ρ => atP (ρ 0) fun w_0 => atA (ρ 2) fun t_2 => atA (ρ 3) fun x_3 => (ref06_Walk_Row.s14 Z Q w_0 t_2 x_3))
theorem ref06_Walk_Row.s14_ok (Z : List PanicEntry → PT) (Q : List Value → PT) : Ok Try.prog Try.f16.ntmps Z ref06_Walk_Row.c12 (ref06_Walk_Row.q15 Z Q) (ref06_Walk_Row.j16 Z Q) := by
  intro E he ρ w a hr h
  obtain ⟨w_0, e0, h⟩ := atP_e h
  obtain ⟨t_2, e2, h⟩ := atA_e h
  obtain ⟨x_3, e3, h⟩ := atA_e h
  exact ok_at [(0, (Value.pointer w_0)), (2, (Value.pointer (some t_2))), (3, (Value.pointer (some x_3)))] (okC ref06_Walk_Row.c12 (ref06_Walk_Row.q15 Z Q) (by kernel_rfl)) (puts_cons e0 (puts_cons e2 (puts_cons e3 (fun p hp => puts_nil hp)))) (ref06_Walk_Row.s14_eq Z Q ρ w_0 t_2 x_3) he hr h
noncomputable def ref06_Walk_Row.c17 : Code := sq1 ref06_Walk_Row.c11
noncomputable def ref06_Walk_Row.c18 : Code := sq2 ref06_Walk_Row.c11
theorem ref06_Walk_Row.q19 : ref06_Walk_Row.c11 = .seq ref06_Walk_Row.c17 ref06_Walk_Row.c18 := by kernel_rfl
noncomputable def ref06_Walk_Row.c20 : Code := cn1 ref06_Walk_Row.c18
noncomputable def ref06_Walk_Row.c21 : Code := cn2 ref06_Walk_Row.c18
theorem ref06_Walk_Row.q22 : ref06_Walk_Row.c18 = .cond (.tmp 45) ref06_Walk_Row.c20 ref06_Walk_Row.c21 := by kernel_rfl
def ref06_Walk_Row.s23 (Z : List PanicEntry → PT) (Q : List Value → PT) (w_0 : Option Addr) (t_2 : Addr) (x_3 : Addr) : PT :=
  (st1 (x_3.add 5) (Value.bool true) (nn w_0 fun v62 => (ldI .i64 (v62.add 1) fun v63 => (nn w_0 fun v64 => (st1 (v64.add 1) (Value.int .i64 (IntKind.wrap .i64 (v63 + 1))) (ref06_Walk_Row.s14 Z Q w_0 t_2 x_3))))))
def ref06_Walk_Row.q24 (Z : List PanicEntry → PT) (Q : List Value → PT) : QF := thenK (ref06_Walk_Row.j16 Z Q) (ref06_Walk_Row.q15 Z Q)
theorem ref06_Walk_Row.s23_eq (Z : List PanicEntry → PT) (Q : List Value → PT) (ρ : Fr) (w_0 : Option Addr) (t_2 : Addr) (x_3 : Addr) : comp Try.prog Z ref06_Walk_Row.c20 (ref06_Walk_Row.q24 Z Q) (puts ρ [(0, (Value.pointer w_0)), (2, (Value.pointer (some t_2))), (3, (Value.pointer (some x_3)))]) = ref06_Walk_Row.s23 Z Q w_0 t_2 x_3 := by kernel_rfl
def ref06_Walk_Row.j25 (Z : List PanicEntry → PT) (Q : List Value → PT) : Fr → PT := (fun ρ => atP (ρ 0) fun w_0 => atA (ρ 2) fun t_2 => atA (ρ 3) fun x_3 => (ref06_Walk_Row.s23 Z Q w_0 t_2 x_3))
theorem ref06_Walk_Row.s23_ok (Z : List PanicEntry → PT) (Q : List Value → PT) : Ok Try.prog Try.f16.ntmps Z ref06_Walk_Row.c20 (ref06_Walk_Row.q24 Z Q) (ref06_Walk_Row.j25 Z Q) := by
  intro E he ρ w a hr h
  obtain ⟨w_0, e0, h⟩ := atP_e h
  obtain ⟨t_2, e2, h⟩ := atA_e h
  obtain ⟨x_3, e3, h⟩ := atA_e h
  exact ok_at [(0, (Value.pointer w_0)), (2, (Value.pointer (some t_2))), (3, (Value.pointer (some x_3)))] (okC ref06_Walk_Row.c20 (ref06_Walk_Row.q24 Z Q) (by kernel_rfl)) (puts_cons e0 (puts_cons e2 (puts_cons e3 (fun p hp => puts_nil hp)))) (ref06_Walk_Row.s23_eq Z Q ρ w_0 t_2 x_3) he hr h
noncomputable def ref06_Walk_Row.c26 : Code := sq1 ref06_Walk_Row.c21
noncomputable def ref06_Walk_Row.c27 : Code := sq2 ref06_Walk_Row.c21
theorem ref06_Walk_Row.q28 : ref06_Walk_Row.c21 = .seq ref06_Walk_Row.c26 ref06_Walk_Row.c27 := by kernel_rfl
def ref06_Walk_Row.s29 (Z : List PanicEntry → PT) (Q : List Value → PT) (w_0 : Option Addr) (t_2 : Addr) (x_3 : Addr) : PT :=
  (nn w_0 fun v72 => (ldI .i64 (v72.add 1) fun v73 => (nn w_0 fun v74 => (st1 (v74.add 1) (Value.int .i64 (IntKind.wrap .i64 (v73 + 1))) (cal Try.prog Z 28 [(Value.pointer w_0)] (isN fun v75 => (stN 2 (x_3.add 6) v75 (ref06_Walk_Row.s14 Z Q w_0 t_2 x_3))))))))
theorem ref06_Walk_Row.s29_eq (Z : List PanicEntry → PT) (Q : List Value → PT) (ρ : Fr) (w_0 : Option Addr) (t_2 : Addr) (x_3 : Addr) : comp Try.prog Z ref06_Walk_Row.c27 (ref06_Walk_Row.q24 Z Q) (puts ρ [(0, (Value.pointer w_0)), (2, (Value.pointer (some t_2))), (3, (Value.pointer (some x_3)))]) = ref06_Walk_Row.s29 Z Q w_0 t_2 x_3 := by kernel_rfl
def ref06_Walk_Row.j30 (Z : List PanicEntry → PT) (Q : List Value → PT) : Fr → PT := (fun ρ => atP (ρ 0) fun w_0 => atA (ρ 2) fun t_2 => atA (ρ 3) fun x_3 => (ref06_Walk_Row.s29 Z Q w_0 t_2 x_3))
theorem ref06_Walk_Row.s29_ok (Z : List PanicEntry → PT) (Q : List Value → PT) : Ok Try.prog Try.f16.ntmps Z ref06_Walk_Row.c27 (ref06_Walk_Row.q24 Z Q) (ref06_Walk_Row.j30 Z Q) := by
  intro E he ρ w a hr h
  obtain ⟨w_0, e0, h⟩ := atP_e h
  obtain ⟨t_2, e2, h⟩ := atA_e h
  obtain ⟨x_3, e3, h⟩ := atA_e h
  exact ok_at [(0, (Value.pointer w_0)), (2, (Value.pointer (some t_2))), (3, (Value.pointer (some x_3)))] (okC ref06_Walk_Row.c27 (ref06_Walk_Row.q24 Z Q) (by kernel_rfl)) (puts_cons e0 (puts_cons e2 (puts_cons e3 (fun p hp => puts_nil hp)))) (ref06_Walk_Row.s29_eq Z Q ρ w_0 t_2 x_3) he hr h
def ref06_Walk_Row.s31 (Z : List PanicEntry → PT) (Q : List Value → PT) (w_0 : Option Addr) (t_2 : Addr) (x_3 : Addr) : PT :=
  (cal Try.prog Z 27 [(Value.pointer w_0), (Value.string ⟨#[112, 111, 114, 116]⟩)] (isB fun v76 => (pif (!v76) (cal Try.prog Z 15 [(Value.pointer w_0), (Value.int .i64 8)] (isU (ref06_Walk_Row.s29 Z Q w_0 t_2 x_3))) (ref06_Walk_Row.s29 Z Q w_0 t_2 x_3))))
theorem ref06_Walk_Row.s31_eq (Z : List PanicEntry → PT) (Q : List Value → PT) (ρ : Fr) (w_0 : Option Addr) (t_2 : Addr) (x_3 : Addr) : (comp Try.prog Z ref06_Walk_Row.c26 (thenK (ref06_Walk_Row.j30 Z Q) (ref06_Walk_Row.q24 Z Q))) (puts ρ [(0, (Value.pointer w_0)), (2, (Value.pointer (some t_2))), (3, (Value.pointer (some x_3)))]) = ref06_Walk_Row.s31 Z Q w_0 t_2 x_3 := by kernel_rfl
def ref06_Walk_Row.j32 (Z : List PanicEntry → PT) (Q : List Value → PT) : Fr → PT := (fun ρ => atP (ρ 0) fun w_0 => atA (ρ 2) fun t_2 => atA (ρ 3) fun x_3 => (ref06_Walk_Row.s31 Z Q w_0 t_2 x_3))
theorem ref06_Walk_Row.s31_ok (Z : List PanicEntry → PT) (Q : List Value → PT) : Ok Try.prog Try.f16.ntmps Z ref06_Walk_Row.c21 (ref06_Walk_Row.q24 Z Q) (ref06_Walk_Row.j32 Z Q) := by
  intro E he ρ w a hr h
  rw [ref06_Walk_Row.q28] at he ⊢
  obtain ⟨w_0, e0, h⟩ := atP_e h
  obtain ⟨t_2, e2, h⟩ := atA_e h
  obtain ⟨x_3, e3, h⟩ := atA_e h
  exact ok_at [(0, (Value.pointer w_0)), (2, (Value.pointer (some t_2))), (3, (Value.pointer (some x_3)))] (ok_seq (okC ref06_Walk_Row.c26 _ (by kernel_rfl)) (ref06_Walk_Row.s29_ok Z Q)) (puts_cons e0 (puts_cons e2 (puts_cons e3 (fun p hp => puts_nil hp)))) (ref06_Walk_Row.s31_eq Z Q ρ w_0 t_2 x_3) he hr h
theorem ref06_Walk_Row.o33 (Z : List PanicEntry → PT) (Q : List Value → PT) : Ok Try.prog Try.f16.ntmps Z ref06_Walk_Row.c18 (ref06_Walk_Row.q24 Z Q) (condJ (.tmp 45) (ref06_Walk_Row.j25 Z Q) (ref06_Walk_Row.j32 Z Q)) := by
  rw [ref06_Walk_Row.q22]; exact ok_cond (ref06_Walk_Row.s23_ok Z Q) (ref06_Walk_Row.s31_ok Z Q)
def ref06_Walk_Row.s34 (Z : List PanicEntry → PT) (Q : List Value → PT) (w_0 : Option Addr) (t_2 : Addr) (x_3 : Addr) : PT :=
  (cal Try.prog Z 27 [(Value.pointer w_0), (Value.string ⟨#[100, 114, 111, 112]⟩)] (isB fun v77 => (pif v77 (ref06_Walk_Row.s23 Z Q w_0 t_2 x_3) (ref06_Walk_Row.s31 Z Q w_0 t_2 x_3))))
theorem ref06_Walk_Row.s34_eq (Z : List PanicEntry → PT) (Q : List Value → PT) (ρ : Fr) (w_0 : Option Addr) (t_2 : Addr) (x_3 : Addr) : (comp Try.prog Z ref06_Walk_Row.c17 (thenK (condJ (.tmp 45) (ref06_Walk_Row.j25 Z Q) (ref06_Walk_Row.j32 Z Q)) (ref06_Walk_Row.q24 Z Q))) (puts ρ [(0, (Value.pointer w_0)), (2, (Value.pointer (some t_2))), (3, (Value.pointer (some x_3)))]) = ref06_Walk_Row.s34 Z Q w_0 t_2 x_3 := by kernel_rfl
def ref06_Walk_Row.j35 (Z : List PanicEntry → PT) (Q : List Value → PT) : Fr → PT := (fun ρ => atP (ρ 0) fun w_0 => atA (ρ 2) fun t_2 => atA (ρ 3) fun x_3 => (ref06_Walk_Row.s34 Z Q w_0 t_2 x_3))
theorem ref06_Walk_Row.s34_ok (Z : List PanicEntry → PT) (Q : List Value → PT) : Ok Try.prog Try.f16.ntmps Z ref06_Walk_Row.c11 (ref06_Walk_Row.q24 Z Q) (ref06_Walk_Row.j35 Z Q) := by
  intro E he ρ w a hr h
  rw [ref06_Walk_Row.q19] at he ⊢
  obtain ⟨w_0, e0, h⟩ := atP_e h
  obtain ⟨t_2, e2, h⟩ := atA_e h
  obtain ⟨x_3, e3, h⟩ := atA_e h
  exact ok_at [(0, (Value.pointer w_0)), (2, (Value.pointer (some t_2))), (3, (Value.pointer (some x_3)))] (ok_seq (okC ref06_Walk_Row.c17 _ (by kernel_rfl)) (ref06_Walk_Row.o33 Z Q)) (puts_cons e0 (puts_cons e2 (puts_cons e3 (fun p hp => puts_nil hp)))) (ref06_Walk_Row.s34_eq Z Q ρ w_0 t_2 x_3) he hr h
theorem ref06_Walk_Row.o36 (Z : List PanicEntry → PT) (Q : List Value → PT) : Ok Try.prog Try.f16.ntmps Z ref06_Walk_Row.c9 (ref06_Walk_Row.q15 Z Q) (ref06_Walk_Row.j35 Z Q) := by
  rw [ref06_Walk_Row.q13]; exact ok_seq (ref06_Walk_Row.s34_ok Z Q) (ref06_Walk_Row.s14_ok Z Q)
def ref06_Walk_Row.s37 (Z : List PanicEntry → PT) (Q : List Value → PT) (w_0 : Option Addr) (t_2 : Addr) (x_3 : Addr) : PT :=
  (cal Try.prog Z 30 [(Value.pointer w_0), (Value.int .i64 6)] (isN fun v78 => (ref06_Walk_Row.s34 Z Q w_0 t_2 x_3)))
theorem ref06_Walk_Row.s37_eq (Z : List PanicEntry → PT) (Q : List Value → PT) (ρ : Fr) (w_0 : Option Addr) (t_2 : Addr) (x_3 : Addr) : (comp Try.prog Z ref06_Walk_Row.c8 (thenK (ref06_Walk_Row.j35 Z Q) (ref06_Walk_Row.q15 Z Q))) (puts ρ [(0, (Value.pointer w_0)), (2, (Value.pointer (some t_2))), (3, (Value.pointer (some x_3)))]) = ref06_Walk_Row.s37 Z Q w_0 t_2 x_3 := by kernel_rfl
def ref06_Walk_Row.j38 (Z : List PanicEntry → PT) (Q : List Value → PT) : Fr → PT := (fun ρ => atP (ρ 0) fun w_0 => atA (ρ 2) fun t_2 => atA (ρ 3) fun x_3 => (ref06_Walk_Row.s37 Z Q w_0 t_2 x_3))
theorem ref06_Walk_Row.s37_ok (Z : List PanicEntry → PT) (Q : List Value → PT) : Ok Try.prog Try.f16.ntmps Z ref06_Walk_Row.c6 (ref06_Walk_Row.q15 Z Q) (ref06_Walk_Row.j38 Z Q) := by
  intro E he ρ w a hr h
  rw [ref06_Walk_Row.q10] at he ⊢
  obtain ⟨w_0, e0, h⟩ := atP_e h
  obtain ⟨t_2, e2, h⟩ := atA_e h
  obtain ⟨x_3, e3, h⟩ := atA_e h
  exact ok_at [(0, (Value.pointer w_0)), (2, (Value.pointer (some t_2))), (3, (Value.pointer (some x_3)))] (ok_seq (okC ref06_Walk_Row.c8 _ (by kernel_rfl)) (ref06_Walk_Row.o36 Z Q)) (puts_cons e0 (puts_cons e2 (puts_cons e3 (fun p hp => puts_nil hp)))) (ref06_Walk_Row.s37_eq Z Q ρ w_0 t_2 x_3) he hr h
noncomputable def ref06_Walk_Row.c39 : Code := sq1 ref06_Walk_Row.c5
noncomputable def ref06_Walk_Row.c40 : Code := sq2 ref06_Walk_Row.c5
theorem ref06_Walk_Row.q41 : ref06_Walk_Row.c5 = .seq ref06_Walk_Row.c39 ref06_Walk_Row.c40 := by kernel_rfl
noncomputable def ref06_Walk_Row.c42 : Code := cn1 ref06_Walk_Row.c40
noncomputable def ref06_Walk_Row.c43 : Code := cn2 ref06_Walk_Row.c40
theorem ref06_Walk_Row.q44 : ref06_Walk_Row.c40 = .cond (.tmp 9) ref06_Walk_Row.c42 ref06_Walk_Row.c43 := by kernel_rfl
def ref06_Walk_Row.s45 (Z : List PanicEntry → PT) (Q : List Value → PT) (w_0 : Option Addr) (t_2 : Addr) (x_3 : Addr) : PT :=
  (st1 (x_3.add 1) (Value.bool true) (nn w_0 fun v80 => (ldI .i64 (v80.add 1) fun v81 => (nn w_0 fun v82 => (st1 (v82.add 1) (Value.int .i64 (IntKind.wrap .i64 (v81 + 1))) (ref06_Walk_Row.s37 Z Q w_0 t_2 x_3))))))
def ref06_Walk_Row.q46 (Z : List PanicEntry → PT) (Q : List Value → PT) : QF := thenK (ref06_Walk_Row.j38 Z Q) (ref06_Walk_Row.q15 Z Q)
theorem ref06_Walk_Row.s45_eq (Z : List PanicEntry → PT) (Q : List Value → PT) (ρ : Fr) (w_0 : Option Addr) (t_2 : Addr) (x_3 : Addr) : comp Try.prog Z ref06_Walk_Row.c42 (ref06_Walk_Row.q46 Z Q) (puts ρ [(0, (Value.pointer w_0)), (2, (Value.pointer (some t_2))), (3, (Value.pointer (some x_3)))]) = ref06_Walk_Row.s45 Z Q w_0 t_2 x_3 := by kernel_rfl
def ref06_Walk_Row.j47 (Z : List PanicEntry → PT) (Q : List Value → PT) : Fr → PT := (fun ρ => atP (ρ 0) fun w_0 => atA (ρ 2) fun t_2 => atA (ρ 3) fun x_3 => (ref06_Walk_Row.s45 Z Q w_0 t_2 x_3))
theorem ref06_Walk_Row.s45_ok (Z : List PanicEntry → PT) (Q : List Value → PT) : Ok Try.prog Try.f16.ntmps Z ref06_Walk_Row.c42 (ref06_Walk_Row.q46 Z Q) (ref06_Walk_Row.j47 Z Q) := by
  intro E he ρ w a hr h
  obtain ⟨w_0, e0, h⟩ := atP_e h
  obtain ⟨t_2, e2, h⟩ := atA_e h
  obtain ⟨x_3, e3, h⟩ := atA_e h
  exact ok_at [(0, (Value.pointer w_0)), (2, (Value.pointer (some t_2))), (3, (Value.pointer (some x_3)))] (okC ref06_Walk_Row.c42 (ref06_Walk_Row.q46 Z Q) (by kernel_rfl)) (puts_cons e0 (puts_cons e2 (puts_cons e3 (fun p hp => puts_nil hp)))) (ref06_Walk_Row.s45_eq Z Q ρ w_0 t_2 x_3) he hr h
noncomputable def ref06_Walk_Row.c48 : Code := sq1 ref06_Walk_Row.c43
noncomputable def ref06_Walk_Row.c49 : Code := sq2 ref06_Walk_Row.c43
theorem ref06_Walk_Row.q50 : ref06_Walk_Row.c43 = .seq ref06_Walk_Row.c48 ref06_Walk_Row.c49 := by kernel_rfl
noncomputable def ref06_Walk_Row.c51 : Code := blk ref06_Walk_Row.c49
theorem ref06_Walk_Row.q52 : ref06_Walk_Row.c49 = .block 0 ref06_Walk_Row.c51 := by kernel_rfl
noncomputable def ref06_Walk_Row.c53 : Code := lop ref06_Walk_Row.c51
theorem ref06_Walk_Row.q54 : ref06_Walk_Row.c51 = .loop ref06_Walk_Row.c53 := by kernel_rfl
def ref06_Walk_Row.q56 (Z : List PanicEntry → PT) (Q : List Value → PT) : QF := inBl 0 (ref06_Walk_Row.q46 Z Q)
def ref06_Walk_Row.s57 (Z : List PanicEntry → PT) (Q : List Value → PT) (X1 : Option Addr → Addr → Addr → PT) (w_0 : Option Addr) (t_2 : Addr) (x_3 : Addr) : PT :=
  (nn w_0 fun v92 => (ldI .i64 (v92.add 3) fun v93 => (pif (v93 == 0) (cal Try.prog Z 26 [(Value.pointer w_0)] (isN fun v94 => (ptI .i64 v94 0 fun v95 => (pif (v95 == 1) (drawn fun S96 => (hL S96 (x_3.add 4) fun v97 v97n v97c => (hL S96 (x_3.add 4) fun v98 v98n v98c => (cal Try.prog Z 29 [(Value.pointer w_0), (Value.slice v98 v98n v98c)] (isN fun v99 => (sAnd S96 (cnd (List.length v99 = 5) (newC 42 (v99 ++ ([])) fun v100 => (sAnd S96 (runL Try.prog (bi .append #[37, 37] 37 [false, false] [(Value.slice v97 v97n v97c), (Value.slice (some v100) 1 1)]) fun v101 v101n v101c => (sAnd S96 (st1 (x_3.add 4) (Value.slice v101 v101n v101c) (X1 w_0 t_2 x_3))))))))))))) (ref06_Walk_Row.s37 Z Q w_0 t_2 x_3))))) (ref06_Walk_Row.s37 Z Q w_0 t_2 x_3))))
def ref06_Walk_Row.j58 (Z : List PanicEntry → PT) (Q : List Value → PT) (X1 : Option Addr → Addr → Addr → PT) : Fr → PT := (fun ρ => atP (ρ 0) fun w_0 => atA (ρ 2) fun t_2 => atA (ρ 3) fun x_3 => (X1 w_0 t_2 x_3))
def ref06_Walk_Row.q59 (Z : List PanicEntry → PT) (Q : List Value → PT) (X1 : Option Addr → Addr → Addr → PT) : QF := thenK (ref06_Walk_Row.j58 Z Q X1) (ref06_Walk_Row.q56 Z Q)
theorem ref06_Walk_Row.s57_eq (Z : List PanicEntry → PT) (Q : List Value → PT) (X1 : Option Addr → Addr → Addr → PT) (ρ : Fr) (w_0 : Option Addr) (t_2 : Addr) (x_3 : Addr) : comp Try.prog Z ref06_Walk_Row.c53 (ref06_Walk_Row.q59 Z Q X1) (puts ρ [(0, (Value.pointer w_0)), (2, (Value.pointer (some t_2))), (3, (Value.pointer (some x_3)))]) = ref06_Walk_Row.s57 Z Q X1 w_0 t_2 x_3 := by kernel_rfl
def ref06_Walk_Row.j60 (Z : List PanicEntry → PT) (Q : List Value → PT) (X1 : Option Addr → Addr → Addr → PT) : Fr → PT := (fun ρ => atP (ρ 0) fun w_0 => atA (ρ 2) fun t_2 => atA (ρ 3) fun x_3 => (ref06_Walk_Row.s57 Z Q X1 w_0 t_2 x_3))
theorem ref06_Walk_Row.s57_ok (Z : List PanicEntry → PT) (Q : List Value → PT) (X1 : Option Addr → Addr → Addr → PT) : Ok Try.prog Try.f16.ntmps Z ref06_Walk_Row.c53 (ref06_Walk_Row.q59 Z Q X1) (ref06_Walk_Row.j60 Z Q X1) := by
  intro E he ρ w a hr h
  obtain ⟨w_0, e0, h⟩ := atP_e h
  obtain ⟨t_2, e2, h⟩ := atA_e h
  obtain ⟨x_3, e3, h⟩ := atA_e h
  exact ok_at [(0, (Value.pointer w_0)), (2, (Value.pointer (some t_2))), (3, (Value.pointer (some x_3)))] (okC ref06_Walk_Row.c53 (ref06_Walk_Row.q59 Z Q X1) (by kernel_rfl)) (puts_cons e0 (puts_cons e2 (puts_cons e3 (fun p hp => puts_nil hp)))) (ref06_Walk_Row.s57_eq Z Q X1 ρ w_0 t_2 x_3) he hr h
def ref06_Walk_Row.l55 (Z : List PanicEntry → PT) (Q : List Value → PT) : Nat → Option Addr → Addr → Addr → PT
  | 0, _, _, _ => bad
  | k + 1, w_0, t_2, x_3 => (ref06_Walk_Row.s57 Z Q (ref06_Walk_Row.l55 Z Q k) w_0 t_2 x_3)
def ref06_Walk_Row.j61 (Z : List PanicEntry → PT) (Q : List Value → PT) (k : Nat) : Fr → PT := (fun ρ => atP (ρ 0) fun w_0 => atA (ρ 2) fun t_2 => atA (ρ 3) fun x_3 => (ref06_Walk_Row.l55 Z Q k w_0 t_2 x_3))
def ref06_Walk_Row.j62 (Z : List PanicEntry → PT) (Q : List Value → PT) : Fr → PT := (fun ρ => atP (ρ 0) fun w_0 => atA (ρ 2) fun t_2 => atA (ρ 3) fun x_3 => (exK fun k => ref06_Walk_Row.l55 Z Q k w_0 t_2 x_3))
theorem ref06_Walk_Row.o63 (Z : List PanicEntry → PT) (Q : List Value → PT) : Ok Try.prog Try.f16.ntmps Z ref06_Walk_Row.c51 (ref06_Walk_Row.q56 Z Q) (ref06_Walk_Row.j62 Z Q) := by
  rw [ref06_Walk_Row.q54]
  refine Ok.imp (ok_loop (J := ref06_Walk_Row.j61 Z Q) ?_ ?_) ?_
  · intro ρ w h
    obtain ⟨w_0, e0, h⟩ := atP_e h
    obtain ⟨t_2, e2, h⟩ := atA_e h
    obtain ⟨x_3, e3, h⟩ := atA_e h
    exact h
  · intro k
    refine Ok.imp (ref06_Walk_Row.s57_ok Z Q (ref06_Walk_Row.l55 Z Q k)) fun ρ w h => ?_
    obtain ⟨w_0, e0, h⟩ := atP_e h
    obtain ⟨t_2, e2, h⟩ := atA_e h
    obtain ⟨x_3, e3, h⟩ := atA_e h
    show (ref06_Walk_Row.j60 Z Q (ref06_Walk_Row.l55 Z Q k)) ρ w
    simp only [ref06_Walk_Row.j60]
    rw [e0]
    rw [e2]
    rw [e3]
    exact h
  · intro ρ w h
    obtain ⟨w_0, e0, h⟩ := atP_e h
    obtain ⟨t_2, e2, h⟩ := atA_e h
    obtain ⟨x_3, e3, h⟩ := atA_e h
    obtain ⟨k, h⟩ := h
    refine ⟨k, ?_⟩
    show (atP (ρ 0) fun w_0 => atA (ρ 2) fun t_2 => atA (ρ 3) fun x_3 => (ref06_Walk_Row.l55 Z Q k w_0 t_2 x_3)) w
    rw [e0]
    rw [e2]
    rw [e3]
    exact h
theorem ref06_Walk_Row.o64 (Z : List PanicEntry → PT) (Q : List Value → PT) : Ok Try.prog Try.f16.ntmps Z ref06_Walk_Row.c49 (ref06_Walk_Row.q46 Z Q) (ref06_Walk_Row.j62 Z Q) := by
  rw [ref06_Walk_Row.q52]; exact ok_block (ref06_Walk_Row.o63 Z Q)
def ref06_Walk_Row.s65 (Z : List PanicEntry → PT) (Q : List Value → PT) (w_0 : Option Addr) (t_2 : Addr) (x_3 : Addr) : PT :=
  (cal Try.prog Z 28 [(Value.pointer w_0)] (isN fun v102 => (stN 2 (x_3.add 2) v102 (exK fun k => ref06_Walk_Row.l55 Z Q k w_0 t_2 x_3))))
theorem ref06_Walk_Row.s65_eq (Z : List PanicEntry → PT) (Q : List Value → PT) (ρ : Fr) (w_0 : Option Addr) (t_2 : Addr) (x_3 : Addr) : (comp Try.prog Z ref06_Walk_Row.c48 (thenK (ref06_Walk_Row.j62 Z Q) (ref06_Walk_Row.q46 Z Q))) (puts ρ [(0, (Value.pointer w_0)), (2, (Value.pointer (some t_2))), (3, (Value.pointer (some x_3)))]) = ref06_Walk_Row.s65 Z Q w_0 t_2 x_3 := by kernel_rfl
def ref06_Walk_Row.j66 (Z : List PanicEntry → PT) (Q : List Value → PT) : Fr → PT := (fun ρ => atP (ρ 0) fun w_0 => atA (ρ 2) fun t_2 => atA (ρ 3) fun x_3 => (ref06_Walk_Row.s65 Z Q w_0 t_2 x_3))
theorem ref06_Walk_Row.s65_ok (Z : List PanicEntry → PT) (Q : List Value → PT) : Ok Try.prog Try.f16.ntmps Z ref06_Walk_Row.c43 (ref06_Walk_Row.q46 Z Q) (ref06_Walk_Row.j66 Z Q) := by
  intro E he ρ w a hr h
  rw [ref06_Walk_Row.q50] at he ⊢
  obtain ⟨w_0, e0, h⟩ := atP_e h
  obtain ⟨t_2, e2, h⟩ := atA_e h
  obtain ⟨x_3, e3, h⟩ := atA_e h
  exact ok_at [(0, (Value.pointer w_0)), (2, (Value.pointer (some t_2))), (3, (Value.pointer (some x_3)))] (ok_seq (okC ref06_Walk_Row.c48 _ (by kernel_rfl)) (ref06_Walk_Row.o64 Z Q)) (puts_cons e0 (puts_cons e2 (puts_cons e3 (fun p hp => puts_nil hp)))) (ref06_Walk_Row.s65_eq Z Q ρ w_0 t_2 x_3) he hr h
theorem ref06_Walk_Row.o67 (Z : List PanicEntry → PT) (Q : List Value → PT) : Ok Try.prog Try.f16.ntmps Z ref06_Walk_Row.c40 (ref06_Walk_Row.q46 Z Q) (condJ (.tmp 9) (ref06_Walk_Row.j47 Z Q) (ref06_Walk_Row.j66 Z Q)) := by
  rw [ref06_Walk_Row.q44]; exact ok_cond (ref06_Walk_Row.s45_ok Z Q) (ref06_Walk_Row.s65_ok Z Q)
def ref06_Walk_Row.s68 (Z : List PanicEntry → PT) (Q : List Value → PT) (w_0 : Option Addr) (t_2 : Addr) (x_3 : Addr) : PT :=
  (cal Try.prog Z 27 [(Value.pointer w_0), (Value.string ⟨#[100, 101, 102, 97, 117, 108, 116]⟩)] (isB fun v103 => (pif v103 (ref06_Walk_Row.s45 Z Q w_0 t_2 x_3) (ref06_Walk_Row.s65 Z Q w_0 t_2 x_3))))
theorem ref06_Walk_Row.s68_eq (Z : List PanicEntry → PT) (Q : List Value → PT) (ρ : Fr) (w_0 : Option Addr) (t_2 : Addr) (x_3 : Addr) : (comp Try.prog Z ref06_Walk_Row.c39 (thenK (condJ (.tmp 9) (ref06_Walk_Row.j47 Z Q) (ref06_Walk_Row.j66 Z Q)) (ref06_Walk_Row.q46 Z Q))) (puts ρ [(0, (Value.pointer w_0)), (2, (Value.pointer (some t_2))), (3, (Value.pointer (some x_3)))]) = ref06_Walk_Row.s68 Z Q w_0 t_2 x_3 := by kernel_rfl
def ref06_Walk_Row.j69 (Z : List PanicEntry → PT) (Q : List Value → PT) : Fr → PT := (fun ρ => atP (ρ 0) fun w_0 => atA (ρ 2) fun t_2 => atA (ρ 3) fun x_3 => (ref06_Walk_Row.s68 Z Q w_0 t_2 x_3))
theorem ref06_Walk_Row.s68_ok (Z : List PanicEntry → PT) (Q : List Value → PT) : Ok Try.prog Try.f16.ntmps Z ref06_Walk_Row.c5 (ref06_Walk_Row.q46 Z Q) (ref06_Walk_Row.j69 Z Q) := by
  intro E he ρ w a hr h
  rw [ref06_Walk_Row.q41] at he ⊢
  obtain ⟨w_0, e0, h⟩ := atP_e h
  obtain ⟨t_2, e2, h⟩ := atA_e h
  obtain ⟨x_3, e3, h⟩ := atA_e h
  exact ok_at [(0, (Value.pointer w_0)), (2, (Value.pointer (some t_2))), (3, (Value.pointer (some x_3)))] (ok_seq (okC ref06_Walk_Row.c39 _ (by kernel_rfl)) (ref06_Walk_Row.o67 Z Q)) (puts_cons e0 (puts_cons e2 (puts_cons e3 (fun p hp => puts_nil hp)))) (ref06_Walk_Row.s68_eq Z Q ρ w_0 t_2 x_3) he hr h
theorem ref06_Walk_Row.o70 (Z : List PanicEntry → PT) (Q : List Value → PT) : Ok Try.prog Try.f16.ntmps Z ref06_Walk_Row.c3 (ref06_Walk_Row.q15 Z Q) (ref06_Walk_Row.j69 Z Q) := by
  rw [ref06_Walk_Row.q7]; exact ok_seq (ref06_Walk_Row.s68_ok Z Q) (ref06_Walk_Row.s37_ok Z Q)
def ref06_Walk_Row.s71 (Z : List PanicEntry → PT) (Q : List Value → PT) (w_0 : Option Addr) : PT :=
  (newC 39 [(Value.int .i64 0), (Value.bool false), (Value.int .i64 0), (Value.int .i64 0), (Value.slice none 0 0), (Value.bool false), (Value.int .i64 0), (Value.int .i64 0)] fun v104 => (cal Try.prog Z 26 [(Value.pointer w_0)] (isN fun v105 => (ptI .i64 v105 1 fun v106 => (newC 39 [(Value.int .i64 0), (Value.bool false), (Value.int .i64 0), (Value.int .i64 0), (Value.slice none 0 0), (Value.bool false), (Value.int .i64 0), (Value.int .i64 0)] fun x107 => (stN 8 x107 [(Value.int .i64 v106), (Value.bool false), (Value.int .i64 0), (Value.int .i64 0), (Value.slice none 0 0), (Value.bool false), (Value.int .i64 0), (Value.int .i64 0)] (ref06_Walk_Row.s68 Z Q w_0 v104 x107)))))))
theorem ref06_Walk_Row.s71_eq (Z : List PanicEntry → PT) (Q : List Value → PT) (ρ : Fr) (w_0 : Option Addr) : (comp Try.prog Z ref06_Walk_Row.c1 (thenK (comp Try.prog Z ref06_Walk_Row.c2 (thenK (ref06_Walk_Row.j69 Z Q) (ref06_Walk_Row.q15 Z Q))) (ref06_Walk_Row.q15 Z Q))) (puts ρ [(0, (Value.pointer w_0))]) = ref06_Walk_Row.s71 Z Q w_0 := by kernel_rfl
def ref06_Walk_Row.j72 (Z : List PanicEntry → PT) (Q : List Value → PT) : Fr → PT := (fun ρ => atP (ρ 0) fun w_0 => (ref06_Walk_Row.s71 Z Q w_0))
theorem ref06_Walk_Row.s71_ok (Z : List PanicEntry → PT) (Q : List Value → PT) : Ok Try.prog Try.f16.ntmps Z ref06_Walk_Row.body (ref06_Walk_Row.q15 Z Q) (ref06_Walk_Row.j72 Z Q) := by
  intro E he ρ w a hr h
  rw [ref06_Walk_Row.q4] at he ⊢
  obtain ⟨w_0, e0, h⟩ := atP_e h
  exact ok_at [(0, (Value.pointer w_0))] (ok_seq (okC ref06_Walk_Row.c1 _ (by kernel_rfl)) (ok_seq (okC ref06_Walk_Row.c2 _ (by kernel_rfl)) (ref06_Walk_Row.o70 Z Q))) (puts_cons e0 (fun p hp => puts_nil hp)) (ref06_Walk_Row.s71_eq Z Q ρ w_0) he hr h
def ref06_Walk_Row.F (Z : List PanicEntry → PT) (Q : List Value → PT) (w_0 : Option Addr) : PT :=
  (ref06_Walk_Row.s71 Z Q w_0)
theorem ref06_Walk_Row.vc (Z : List PanicEntry → PT) (Q : List Value → PT) (w_0 : Option Addr) (w : World) (h : ref06_Walk_Row.F Z Q w_0 w) : Calls Try.prog 16 ⟨[(Value.pointer w_0)]⟩ w fun e w' => (∃ (r0 : List Value), e = .returned (.agg ⟨r0⟩) ∧ Q r0 w') ∨ ∃ c, e = .panicked c ∧ Z c w' := by
  refine (calls_of_ok (args := [(Value.pointer w_0)]) (w := w) (rs := [.cell 2 39]) (fn := Try.f16) (c := ref06_Walk_Row.body) Try.func16 (by kernel_rfl) (by kernel_rfl) (Nat.le_of_ble_eq_true (by kernel_rfl)) (ref06_Walk_Row.s71_ok Z Q) (h)).mono fun e w' hR => ?_
  cases e with
  | returned v =>
    obtain ⟨va, rfl, hR⟩ := atN_e hR
    exact .inl ⟨va, rfl, hR⟩
  | panicked c => exact .inr ⟨c, rfl, hR⟩
  | outgrown => exact hR.elim
theorem ref06_Walk_Row.vc0 (Q : List Value → PT) (w_0 : Option Addr) (w : World) (h : ref06_Walk_Row.F Z0 Q w_0 w) : Calls Try.prog 16 ⟨[(Value.pointer w_0)]⟩ w fun e w' => (∃ (r0 : List Value), e = .returned (.agg ⟨r0⟩) ∧ Q r0 w') :=
  (ref06_Walk_Row.vc Z0 Q w_0 w h).mono fun _ _ hR => hR.elim id fun ⟨_, _, hz⟩ => hz.elim
theorem ref06_Walk_Row.cal {Z : List PanicEntry → PT} {Q : List Value → PT} {w_0 : Option Addr} {w : World} (h : ref06_Walk_Row.F Z Q w_0 w) : Go.Proofs.Ytimdpeolfhaajaa.cal Try.prog Z 16 [(Value.pointer w_0)] (isN fun r0 => Q r0) w := by
  refine (ref06_Walk_Row.vc Z Q w_0 w h).mono fun e w' hR => ?_
  rcases hR with ⟨r0, rfl, h⟩ | ⟨c, rfl, h⟩
  · show (isN fun r0 => Q r0) (.agg ⟨r0⟩) w'
    exact ⟨_, rfl, h⟩
  · exact h

/-! ### milepost/milepostref06.Parse: function 8 -/
noncomputable def ref06_Parse.body : Code := bodyC Try.f8
noncomputable def ref06_Parse.c1 : Code := sq1 ref06_Parse.body
noncomputable def ref06_Parse.c2 : Code := sq1 (sq2 ref06_Parse.body)
noncomputable def ref06_Parse.c3 : Code := sq1 (sq2 (sq2 ref06_Parse.body))
noncomputable def ref06_Parse.c4 : Code := sq1 (sq2 (sq2 (sq2 ref06_Parse.body)))
noncomputable def ref06_Parse.c5 : Code := sq1 (sq2 (sq2 (sq2 (sq2 ref06_Parse.body))))
noncomputable def ref06_Parse.c6 : Code := sq2 (sq2 (sq2 (sq2 (sq2 ref06_Parse.body))))
theorem ref06_Parse.q7 : ref06_Parse.body = .seq ref06_Parse.c1 (.seq ref06_Parse.c2 (.seq ref06_Parse.c3 (.seq ref06_Parse.c4 (.seq ref06_Parse.c5 ref06_Parse.c6)))) := by kernel_rfl
noncomputable def ref06_Parse.c8 : Code := sq1 ref06_Parse.c6
noncomputable def ref06_Parse.c9 : Code := sq2 ref06_Parse.c6
theorem ref06_Parse.q10 : ref06_Parse.c6 = .seq ref06_Parse.c8 ref06_Parse.c9 := by kernel_rfl
def ref06_Parse.s11 (Z : List PanicEntry → PT) (Q : Option Addr → Nat → Nat → Int → Int → PT) (w_8 : Option Addr) (out_9 : Option Addr) (out_9n out_9c : Nat) : PT :=
  (nn w_8 fun v36 => (ldI .i64 (v36.add 3) fun v37 => (pif (v37 != 0) (drew0 (nn w_8 fun v38 => (ldI .i64 (v38.add 3) fun v39 => (nn w_8 fun v40 => (ldI .i64 (v40.add 4) fun v41 => (Q none 0 0 v39 v41)))))) (Q out_9 out_9n out_9c 0 0))))
def ref06_Parse.q12 (Z : List PanicEntry → PT) (Q : Option Addr → Nat → Nat → Int → Int → PT) : QF := bodyQ Try.prog [.tmp 2, .tmp 3, .tmp 4] (fun v => at3 v fun x y z => atL x fun xa xn xc => atI .i64 y fun ya => atI .i64 z fun za => Q xa xn xc ya za)
theorem ref06_Parse.s11_eq (Z : List PanicEntry → PT) (Q : Option Addr → Nat → Nat → Int → Int → PT) (ρ : Fr) (w_8 : Option Addr) (out_9 : Option Addr) (out_9n out_9c : Nat) : comp Try.prog Z ref06_Parse.c9 (ref06_Parse.q12 Z Q) (puts ρ [(8, (Value.pointer w_8)), (9, (Value.slice out_9 out_9n out_9c))]) = ref06_Parse.s11 Z Q w_8 out_9 out_9n out_9c := by kernel_rfl
def ref06_Parse.j13 (Z : List PanicEntry → PT) (Q : Option Addr → Nat → Nat → Int → Int → PT) : Fr → PT := (fun ρ => atP (ρ 8) fun w_8 => atL (ρ 9) fun out_9 out_9n out_9c => (ref06_Parse.s11 Z Q w_8 out_9 out_9n out_9c))
theorem ref06_Parse.s11_ok (Z : List PanicEntry → PT) (Q : Option Addr → Nat → Nat → Int → Int → PT) : Ok Try.prog Try.f8.ntmps Z ref06_Parse.c9 (ref06_Parse.q12 Z Q) (ref06_Parse.j13 Z Q) := by
  intro E he ρ w a hr h
  obtain ⟨w_8, e8, h⟩ := atP_e h
  obtain ⟨out_9, out_9n, out_9c, e9, h⟩ := atL_e h
  exact ok_at [(8, (Value.pointer w_8)), (9, (Value.slice out_9 out_9n out_9c))] (okC ref06_Parse.c9 (ref06_Parse.q12 Z Q) (by kernel_rfl)) (puts_cons e8 (puts_cons e9 (fun p hp => puts_nil hp))) (ref06_Parse.s11_eq Z Q ρ w_8 out_9 out_9n out_9c) he hr h
noncomputable def ref06_Parse.c14 : Code := blk ref06_Parse.c8
theorem ref06_Parse.q15 : ref06_Parse.c8 = .block 0 ref06_Parse.c14 := by kernel_rfl
noncomputable def ref06_Parse.c16 : Code := lop ref06_Parse.c14
theorem ref06_Parse.q17 : ref06_Parse.c14 = .loop ref06_Parse.c16 := by kernel_rfl
def ref06_Parse.q19 (Z : List PanicEntry → PT) (Q : Option Addr → Nat → Nat → Int → Int → PT) : QF := thenK (ref06_Parse.j13 Z Q) (ref06_Parse.q12 Z Q)
def ref06_Parse.q20 (Z : List PanicEntry → PT) (Q : Option Addr → Nat → Nat → Int → Int → PT) : QF := inBl 0 (ref06_Parse.q19 Z Q)
def ref06_Parse.s21 (Z : List PanicEntry → PT) (Q : Option Addr → Nat → Nat → Int → Int → PT) (X1 : Option Addr → Nat → Nat → Option Addr → Option Addr → Nat → Nat → PT) (l_5 : Option Addr) (l_5n l_5c : Nat) (w_8 : Option Addr) (out_9 : Option Addr) (out_9n out_9c : Nat) : PT :=
  (nn w_8 fun v68 => (ldI .i64 (v68.add 1) fun v69 => (pif (decide (v69 < ((l_5n : Nat) : Int))) (nn w_8 fun v70 => (ldI .i64 (v70.add 3) fun v71 => (pif (v71 == 0) (nn w_8 fun v72 => (ldI .i64 (v72.add 1) fun v73 => (ixS l_5 l_5n v73 4 fun v74 => (ldI .i64 (v74.add 0) fun v75 => (pif (v75 == 7) (nn w_8 fun v76 => (ldI .i64 (v76.add 1) fun v77 => (nn w_8 fun v78 => (st1 (v78.add 1) (Value.int .i64 (IntKind.wrap .i64 (v77 + 1))) (X1 l_5 l_5n l_5c w_8 out_9 out_9n out_9c))))) (pif (((out_9n : Nat) : Int) == 64) (cal Try.prog Z 15 [(Value.pointer w_8), (Value.int .i64 4)] (isU (cal Try.prog Z 16 [(Value.pointer w_8)] (isN fun v79 => (cnd (List.length v79 = 8) (newC 39 (v79 ++ ([])) fun v80 => (runL Try.prog (bi .append #[23, 23] 23 [false, false] [(Value.slice out_9 out_9n out_9c), (Value.slice (some v80) 1 1)]) fun v81 v81n v81c => (X1 l_5 l_5n l_5c w_8 v81 v81n v81c)))))))) (cal Try.prog Z 16 [(Value.pointer w_8)] (isN fun v82 => (cnd (List.length v82 = 8) (newC 39 (v82 ++ ([])) fun v83 => (runL Try.prog (bi .append #[23, 23] 23 [false, false] [(Value.slice out_9 out_9n out_9c), (Value.slice (some v83) 1 1)]) fun v84 v84n v84c => (X1 l_5 l_5n l_5c w_8 v84 v84n v84c)))))))))))) (ref06_Parse.s11 Z Q w_8 out_9 out_9n out_9c)))) (ref06_Parse.s11 Z Q w_8 out_9 out_9n out_9c))))
def ref06_Parse.j22 (Z : List PanicEntry → PT) (Q : Option Addr → Nat → Nat → Int → Int → PT) (X1 : Option Addr → Nat → Nat → Option Addr → Option Addr → Nat → Nat → PT) : Fr → PT := (fun ρ => atL (ρ 5) fun l_5 l_5n l_5c => atP (ρ 8) fun w_8 => atL (ρ 9) fun out_9 out_9n out_9c => (X1 l_5 l_5n l_5c w_8 out_9 out_9n out_9c))
def ref06_Parse.q23 (Z : List PanicEntry → PT) (Q : Option Addr → Nat → Nat → Int → Int → PT) (X1 : Option Addr → Nat → Nat → Option Addr → Option Addr → Nat → Nat → PT) : QF := thenK (ref06_Parse.j22 Z Q X1) (ref06_Parse.q20 Z Q)
theorem ref06_Parse.s21_eq (Z : List PanicEntry → PT) (Q : Option Addr → Nat → Nat → Int → Int → PT) (X1 : Option Addr → Nat → Nat → Option Addr → Option Addr → Nat → Nat → PT) (ρ : Fr) (l_5 : Option Addr) (l_5n l_5c : Nat) (w_8 : Option Addr) (out_9 : Option Addr) (out_9n out_9c : Nat) : comp Try.prog Z ref06_Parse.c16 (ref06_Parse.q23 Z Q X1) (puts ρ [(5, (Value.slice l_5 l_5n l_5c)), (8, (Value.pointer w_8)), (9, (Value.slice out_9 out_9n out_9c))]) = ref06_Parse.s21 Z Q X1 l_5 l_5n l_5c w_8 out_9 out_9n out_9c := by kernel_rfl
def ref06_Parse.j24 (Z : List PanicEntry → PT) (Q : Option Addr → Nat → Nat → Int → Int → PT) (X1 : Option Addr → Nat → Nat → Option Addr → Option Addr → Nat → Nat → PT) : Fr → PT := (fun ρ => atL (ρ 5) fun l_5 l_5n l_5c => atP (ρ 8) fun w_8 => atL (ρ 9) fun out_9 out_9n out_9c => (ref06_Parse.s21 Z Q X1 l_5 l_5n l_5c w_8 out_9 out_9n out_9c))
theorem ref06_Parse.s21_ok (Z : List PanicEntry → PT) (Q : Option Addr → Nat → Nat → Int → Int → PT) (X1 : Option Addr → Nat → Nat → Option Addr → Option Addr → Nat → Nat → PT) : Ok Try.prog Try.f8.ntmps Z ref06_Parse.c16 (ref06_Parse.q23 Z Q X1) (ref06_Parse.j24 Z Q X1) := by
  intro E he ρ w a hr h
  obtain ⟨l_5, l_5n, l_5c, e5, h⟩ := atL_e h
  obtain ⟨w_8, e8, h⟩ := atP_e h
  obtain ⟨out_9, out_9n, out_9c, e9, h⟩ := atL_e h
  exact ok_at [(5, (Value.slice l_5 l_5n l_5c)), (8, (Value.pointer w_8)), (9, (Value.slice out_9 out_9n out_9c))] (okC ref06_Parse.c16 (ref06_Parse.q23 Z Q X1) (by kernel_rfl)) (puts_cons e5 (puts_cons e8 (puts_cons e9 (fun p hp => puts_nil hp)))) (ref06_Parse.s21_eq Z Q X1 ρ l_5 l_5n l_5c w_8 out_9 out_9n out_9c) he hr h
def ref06_Parse.l18 (Z : List PanicEntry → PT) (Q : Option Addr → Nat → Nat → Int → Int → PT) : Nat → Option Addr → Nat → Nat → Option Addr → Option Addr → Nat → Nat → PT
  | 0, _, _, _, _, _, _, _ => bad
  | k + 1, l_5, l_5n, l_5c, w_8, out_9, out_9n, out_9c => (ref06_Parse.s21 Z Q (ref06_Parse.l18 Z Q k) l_5 l_5n l_5c w_8 out_9 out_9n out_9c)
def ref06_Parse.j25 (Z : List PanicEntry → PT) (Q : Option Addr → Nat → Nat → Int → Int → PT) (k : Nat) : Fr → PT := (fun ρ => atL (ρ 5) fun l_5 l_5n l_5c => atP (ρ 8) fun w_8 => atL (ρ 9) fun out_9 out_9n out_9c => (ref06_Parse.l18 Z Q k l_5 l_5n l_5c w_8 out_9 out_9n out_9c))
def ref06_Parse.j26 (Z : List PanicEntry → PT) (Q : Option Addr → Nat → Nat → Int → Int → PT) : Fr → PT := (fun ρ => atL (ρ 5) fun l_5 l_5n l_5c => atP (ρ 8) fun w_8 => atL (ρ 9) fun out_9 out_9n out_9c => (exK fun k => ref06_Parse.l18 Z Q k l_5 l_5n l_5c w_8 out_9 out_9n out_9c))
theorem ref06_Parse.o27 (Z : List PanicEntry → PT) (Q : Option Addr → Nat → Nat → Int → Int → PT) : Ok Try.prog Try.f8.ntmps Z ref06_Parse.c14 (ref06_Parse.q20 Z Q) (ref06_Parse.j26 Z Q) := by
  rw [ref06_Parse.q17]
  refine Ok.imp (ok_loop (J := ref06_Parse.j25 Z Q) ?_ ?_) ?_
  · intro ρ w h
    obtain ⟨l_5, l_5n, l_5c, e5, h⟩ := atL_e h
    obtain ⟨w_8, e8, h⟩ := atP_e h
    obtain ⟨out_9, out_9n, out_9c, e9, h⟩ := atL_e h
    exact h
  · intro k
    refine Ok.imp (ref06_Parse.s21_ok Z Q (ref06_Parse.l18 Z Q k)) fun ρ w h => ?_
    obtain ⟨l_5, l_5n, l_5c, e5, h⟩ := atL_e h
    obtain ⟨w_8, e8, h⟩ := atP_e h
    obtain ⟨out_9, out_9n, out_9c, e9, h⟩ := atL_e h
    show (ref06_Parse.j24 Z Q (ref06_Parse.l18 Z Q k)) ρ w
    simp only [ref06_Parse.j24]
    rw [e5]
    rw [e8]
    rw [e9]
    exact h
  · intro ρ w h
    obtain ⟨l_5, l_5n, l_5c, e5, h⟩ := atL_e h
    obtain ⟨w_8, e8, h⟩ := atP_e h
    obtain ⟨out_9, out_9n, out_9c, e9, h⟩ := atL_e h
    obtain ⟨k, h⟩ := h
    refine ⟨k, ?_⟩
    show (atL (ρ 5) fun l_5 l_5n l_5c => atP (ρ 8) fun w_8 => atL (ρ 9) fun out_9 out_9n out_9c => (ref06_Parse.l18 Z Q k l_5 l_5n l_5c w_8 out_9 out_9n out_9c)) w
    rw [e5]
    rw [e8]
    rw [e9]
    exact h
theorem ref06_Parse.o28 (Z : List PanicEntry → PT) (Q : Option Addr → Nat → Nat → Int → Int → PT) : Ok Try.prog Try.f8.ntmps Z ref06_Parse.c8 (ref06_Parse.q19 Z Q) (ref06_Parse.j26 Z Q) := by
  rw [ref06_Parse.q15]; exact ok_block (ref06_Parse.o27 Z Q)
theorem ref06_Parse.o29 (Z : List PanicEntry → PT) (Q : Option Addr → Nat → Nat → Int → Int → PT) : Ok Try.prog Try.f8.ntmps Z ref06_Parse.c6 (ref06_Parse.q12 Z Q) (ref06_Parse.j26 Z Q) := by
  rw [ref06_Parse.q10]; exact ok_seq (ref06_Parse.o28 Z Q) (ref06_Parse.s11_ok Z Q)
def ref06_Parse.s30 (Z : List PanicEntry → PT) (Q : Option Addr → Nat → Nat → Int → Int → PT) (s_0 : ByteArray) : PT :=
  (cal Try.prog Z 14 [(Value.string s_0)] (isT3 fun t85 t86 t87 => (isL fun v88 v88n v88c => ((isI .i64 fun v89 => ((isI .i64 fun v90 => (pif (v89 != 0) (Q none 0 0 v89 v90) (newC 53 [(Value.slice v88 v88n v88c), (Value.int .i64 0), (Value.int .i64 ((s_0.size : Nat) : Int)), (Value.int .i64 0), (Value.int .i64 0)] fun v91 => (newC 39 [] fun v92 => (exK fun k => ref06_Parse.l18 Z Q k v88 v88n v88c (some v91) (some v92) 0 0))))) t87)) t86)) t85))
theorem ref06_Parse.s30_eq (Z : List PanicEntry → PT) (Q : Option Addr → Nat → Nat → Int → Int → PT) (ρ : Fr) (s_0 : ByteArray) : (comp Try.prog Z ref06_Parse.c1 (thenK (comp Try.prog Z ref06_Parse.c2 (thenK (comp Try.prog Z ref06_Parse.c3 (thenK (comp Try.prog Z ref06_Parse.c4 (thenK (comp Try.prog Z ref06_Parse.c5 (thenK (ref06_Parse.j26 Z Q) (ref06_Parse.q12 Z Q))) (ref06_Parse.q12 Z Q))) (ref06_Parse.q12 Z Q))) (ref06_Parse.q12 Z Q))) (ref06_Parse.q12 Z Q))) (puts ρ [(0, (Value.string s_0))]) = ref06_Parse.s30 Z Q s_0 := by kernel_rfl
def ref06_Parse.j31 (Z : List PanicEntry → PT) (Q : Option Addr → Nat → Nat → Int → Int → PT) : Fr → PT := (fun ρ => atS (ρ 0) fun s_0 => (ref06_Parse.s30 Z Q s_0))
theorem ref06_Parse.s30_ok (Z : List PanicEntry → PT) (Q : Option Addr → Nat → Nat → Int → Int → PT) : Ok Try.prog Try.f8.ntmps Z ref06_Parse.body (ref06_Parse.q12 Z Q) (ref06_Parse.j31 Z Q) := by
  intro E he ρ w a hr h
  rw [ref06_Parse.q7] at he ⊢
  obtain ⟨s_0, e0, h⟩ := atS_e h
  exact ok_at [(0, (Value.string s_0))] (ok_seq (okC ref06_Parse.c1 _ (by kernel_rfl)) (ok_seq (okC ref06_Parse.c2 _ (by kernel_rfl)) (ok_seq (okC ref06_Parse.c3 _ (by kernel_rfl)) (ok_seq (okC ref06_Parse.c4 _ (by kernel_rfl)) (ok_seq (okC ref06_Parse.c5 _ (by kernel_rfl)) (ref06_Parse.o29 Z Q)))))) (puts_cons e0 (fun p hp => puts_nil hp)) (ref06_Parse.s30_eq Z Q ρ s_0) he hr h
def ref06_Parse.F (Z : List PanicEntry → PT) (Q : Option Addr → Nat → Nat → Int → Int → PT) (s_0 : ByteArray) : PT :=
  (ref06_Parse.s30 Z Q s_0)
theorem ref06_Parse.vc (Z : List PanicEntry → PT) (Q : Option Addr → Nat → Nat → Int → Int → PT) (s_0 : ByteArray) (w : World) (h : ref06_Parse.F Z Q s_0 w) : Calls Try.prog 8 ⟨[(Value.string s_0)]⟩ w fun e w' => (∃ (r0 : Option Addr) (r0n r0c : Nat) (r1 : Int) (r2 : Int), e = .returned (.tuple #[.slice r0 r0n r0c, .int .i64 r1, .int .i64 r2]) ∧ Q r0 r0n r0c r1 r2 w') ∨ ∃ c, e = .panicked c ∧ Z c w' := by
  refine (calls_of_ok (args := [(Value.string s_0)]) (w := w) (rs := [.tmp 2, .tmp 3, .tmp 4]) (fn := Try.f8) (c := ref06_Parse.body) Try.func8 (by kernel_rfl) (by kernel_rfl) (Nat.le_of_ble_eq_true (by kernel_rfl)) (ref06_Parse.s30_ok Z Q) (h)).mono fun e w' hR => ?_
  cases e with
  | returned v =>
    obtain ⟨x, y, z, rfl, hR⟩ := at3_e hR
    obtain ⟨xa, xn, xc, rfl, hR⟩ := atL_e hR
    obtain ⟨ya, rfl, hR⟩ := atI_e hR
    obtain ⟨za, rfl, hR⟩ := atI_e hR
    exact .inl ⟨xa, xn, xc, ya, za, rfl, hR⟩
  | panicked c => exact .inr ⟨c, rfl, hR⟩
  | outgrown => exact hR.elim
theorem ref06_Parse.vc0 (Q : Option Addr → Nat → Nat → Int → Int → PT) (s_0 : ByteArray) (w : World) (h : ref06_Parse.F Z0 Q s_0 w) : Calls Try.prog 8 ⟨[(Value.string s_0)]⟩ w fun e w' => (∃ (r0 : Option Addr) (r0n r0c : Nat) (r1 : Int) (r2 : Int), e = .returned (.tuple #[.slice r0 r0n r0c, .int .i64 r1, .int .i64 r2]) ∧ Q r0 r0n r0c r1 r2 w') :=
  (ref06_Parse.vc Z0 Q s_0 w h).mono fun _ _ hR => hR.elim id fun ⟨_, _, hz⟩ => hz.elim
theorem ref06_Parse.cal {Z : List PanicEntry → PT} {Q : Option Addr → Nat → Nat → Int → Int → PT} {s_0 : ByteArray} {w : World} (h : ref06_Parse.F Z Q s_0 w) : Go.Proofs.Ytimdpeolfhaajaa.cal Try.prog Z 8 [(Value.string s_0)] (isT3 fun x y z => (isL fun r0 r0n r0c => (isI .i64 fun r1 => (isI .i64 fun r2 => Q r0 r0n r0c r1 r2) z) y) x) w := by
  refine (ref06_Parse.vc Z Q s_0 w h).mono fun e w' hR => ?_
  rcases hR with ⟨r0, r0n, r0c, r1, r2, rfl, h⟩ | ⟨c, rfl, h⟩
  · show (isT3 fun x y z => (isL fun r0 r0n r0c => (isI .i64 fun r1 => (isI .i64 fun r2 => Q r0 r0n r0c r1 r2) z) y) x) (.tuple #[.slice r0 r0n r0c, .int .i64 r1, .int .i64 r2]) w'
    exact ⟨_, _, _, rfl, ⟨_, _, _, rfl, ⟨_, rfl, ⟨_, rfl, h⟩⟩⟩⟩
  · exact h

end Go.Proofs.Ytimdpeolfhaajaa
