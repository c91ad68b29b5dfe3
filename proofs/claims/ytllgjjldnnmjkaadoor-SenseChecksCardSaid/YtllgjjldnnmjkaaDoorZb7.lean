/-
  Texts of this claim, one behind the other: part 7 of 7. No condition.
-/
import Derived.Test.YtllgjjldnnmjkaaDoorZb6
set_option linter.unusedVariables false
set_option linter.unusedSimpArgs false
section
namespace Go.Proofs.YtllgjjldnnmjkaaDoor
open Go.RowKit
set_option maxRecDepth 100000

/-! ### (*milepost/milepostref06.Walk).Next: function 71 -/
noncomputable def ref06_Walk_Next.body : Code := bodyC Tryd.f71
def ref06_Walk_Next.F (Z : ZT) (Q : List Value → PT) (w_0 : OA) : PT :=
  (newC 79 [(Value.int .i64 0), (Value.int .i64 0), (Value.string ⟨#[]⟩), (Value.int .i64 0)] fun v18 => (drew0 (nn w_0 fun v19 => (ldI .i64 (v19.add 1) fun v20 => (nn w_0 fun v21 => (ldL (v21.add 0) fun v22 v22n v22c => (pif (decide (v20 < ((v22n : Nat) : Int))) (drawn fun S23 => (nn w_0 fun v24 => (hL S23 (v24.add 0) fun v25 v25n v25c => (nn w_0 fun v26 => (hI S23 .i64 (v26.add 1) fun v27 => (ixS v25 v25n v27 4 fun v28 => (hN S23 4 v28 fun v29 => (stN 4 v18 v29 (ldN 4 v18 fun v30 => (Q v30)))))))))) (nn w_0 fun v31 => (ldI .i64 (v31.add 2) fun v32 => (stN 4 v18 [(Value.int .i64 0), (Value.int .i64 v32), (Value.string ⟨#[]⟩), (Value.int .i64 0)] (ldN 4 v18 fun v33 => (Q v33))))))))))))
def ref06_Walk_Next.q1 (Z : ZT) (Q : List Value → PT) : QF := bodyQ Tryd.prog [.cell 2 79] (fun v => atN v fun va => Q va)
theorem ref06_Walk_Next.eq (Z : ZT) (Q : List Value → PT) (w_0 : OA) : comp Tryd.prog Z ref06_Walk_Next.body (ref06_Walk_Next.q1 Z Q) (fr0 [(Value.pointer w_0)]) = ref06_Walk_Next.F Z Q w_0 := by kernel_rfl
theorem ref06_Walk_Next.vc (Z : ZT) (Q : List Value → PT) (w_0 : OA) (w : World) (h : ref06_Walk_Next.F Z Q w_0 w) : Calls Tryd.prog 71 ⟨[(Value.pointer w_0)]⟩ w fun e w' => (∃ (r0 : List Value), e = .returned (.agg ⟨r0⟩) ∧ Q r0 w') ∨ ∃ c, e = .panicked c ∧ Z c w' := by
  refine (calls_of_ok (args := [(Value.pointer w_0)]) (w := w) (rs := [.cell 2 79]) (fn := Tryd.f71) (c := ref06_Walk_Next.body) Tryd.func71 (by kernel_rfl) (by kernel_rfl) (Nat.le_of_ble_eq_true (by kernel_rfl)) (okC ref06_Walk_Next.body (ref06_Walk_Next.q1 Z Q) (by kernel_rfl)) (by rw [ref06_Walk_Next.eq]; exact h)).mono fun e w' hR => ?_
  cases e with
  | returned v =>
    obtain ⟨va, rfl, hR⟩ := atN_e hR
    exact .inl ⟨va, rfl, hR⟩
  | panicked c => exact .inr ⟨c, rfl, hR⟩
  | outgrown => exact hR.elim
theorem ref06_Walk_Next.vc0 (Q : List Value → PT) (w_0 : OA) (w : World) (h : ref06_Walk_Next.F Z0 Q w_0 w) : Calls Tryd.prog 71 ⟨[(Value.pointer w_0)]⟩ w fun e w' => (∃ (r0 : List Value), e = .returned (.agg ⟨r0⟩) ∧ Q r0 w') :=
  (ref06_Walk_Next.vc Z0 Q w_0 w h).mono fun _ _ hR => hR.elim id fun ⟨_, _, hz⟩ => hz.elim
theorem ref06_Walk_Next.cal {Z : ZT} {Q : List Value → PT} {w_0 : OA} {w : World} (h : ref06_Walk_Next.F Z Q w_0 w) : Go.Proofs.YtllgjjldnnmjkaaDoor.cal Tryd.prog Z 71 [(Value.pointer w_0)] (isN fun r0 => Q r0) w := by
  refine (ref06_Walk_Next.vc Z Q w_0 w h).mono fun e w' hR => ?_
  rcases hR with ⟨r0, rfl, h⟩ | ⟨c, rfl, h⟩
  · show (isN fun r0 => Q r0) (.agg ⟨r0⟩) w'
    exact ⟨_, rfl, h⟩
  · exact h

/-! ### (*milepost/milepostref06.Walk).Wrong: function 46 -/
noncomputable def ref06_Walk_Wrong.body : Code := bodyC Tryd.f46
def ref06_Walk_Wrong.F (Z : ZT) (Q : PT) (w_0 : OA) (e_1 : Int) : PT :=
  (nn w_0 fun v4 => (ldI .i64 (v4.add 3) fun v5 => (pif (v5 == 0) (nn w_0 fun v6 => (st1 (v6.add 3) (Value.int .i64 e_1) (cal Tryd.prog Z 71 [(Value.pointer w_0)] (isN fun v7 => (ptI .i64 v7 1 fun v8 => (nn w_0 fun v9 => (st1 (v9.add 4) (Value.int .i64 v8) Q))))))) Q)))
def ref06_Walk_Wrong.q1 (Z : ZT) (Q : PT) : QF := bodyQ Tryd.prog [] (fun v => atU v Q)
theorem ref06_Walk_Wrong.eq (Z : ZT) (Q : PT) (w_0 : OA) (e_1 : Int) : comp Tryd.prog Z ref06_Walk_Wrong.body (ref06_Walk_Wrong.q1 Z Q) (fr0 [(Value.pointer w_0), (Value.int .i64 e_1)]) = ref06_Walk_Wrong.F Z Q w_0 e_1 := by kernel_rfl
theorem ref06_Walk_Wrong.vc (Z : ZT) (Q : PT) (w_0 : OA) (e_1 : Int) (w : World) (h : ref06_Walk_Wrong.F Z Q w_0 e_1 w) : Calls Tryd.prog 46 ⟨[(Value.pointer w_0), (Value.int .i64 e_1)]⟩ w fun e w' => (e = .returned (.tuple #[]) ∧ Q w') ∨ ∃ c, e = .panicked c ∧ Z c w' := by
  refine (calls_of_ok (args := [(Value.pointer w_0), (Value.int .i64 e_1)]) (w := w) (rs := []) (fn := Tryd.f46) (c := ref06_Walk_Wrong.body) Tryd.func46 (by kernel_rfl) (by kernel_rfl) (Nat.le_of_ble_eq_true (by kernel_rfl)) (okC ref06_Walk_Wrong.body (ref06_Walk_Wrong.q1 Z Q) (by kernel_rfl)) (by rw [ref06_Walk_Wrong.eq]; exact h)).mono fun e w' hR => ?_
  cases e with
  | returned v =>
    obtain ⟨rfl, h⟩ := atU_e hR
    exact .inl ⟨rfl, h⟩
  | panicked c => exact .inr ⟨c, rfl, hR⟩
  | outgrown => exact hR.elim
theorem ref06_Walk_Wrong.vc0 (Q : PT) (w_0 : OA) (e_1 : Int) (w : World) (h : ref06_Walk_Wrong.F Z0 Q w_0 e_1 w) : Calls Tryd.prog 46 ⟨[(Value.pointer w_0), (Value.int .i64 e_1)]⟩ w fun e w' => (e = .returned (.tuple #[]) ∧ Q w') :=
  (ref06_Walk_Wrong.vc Z0 Q w_0 e_1 w h).mono fun _ _ hR => hR.elim id fun ⟨_, _, hz⟩ => hz.elim
theorem ref06_Walk_Wrong.cal {Z : ZT} {Q : PT} {w_0 : OA} {e_1 : Int} {w : World} (h : ref06_Walk_Wrong.F Z Q w_0 e_1 w) : Go.Proofs.YtllgjjldnnmjkaaDoor.cal Tryd.prog Z 46 [(Value.pointer w_0), (Value.int .i64 e_1)] (isU Q) w := by
  refine (ref06_Walk_Wrong.vc Z Q w_0 e_1 w h).mono fun e w' hR => ?_
  rcases hR with ⟨rfl, h⟩ | ⟨c, rfl, h⟩
  · show (isU Q) (.tuple #[]) w'
    exact ⟨rfl, h⟩
  · exact h

/-! ### (*milepost/milepostref06.Walk).Kind: function 75 -/
noncomputable def ref06_Walk_Kind.body : Code := bodyC Tryd.f75
noncomputable def ref06_Walk_Kind.c1 : Code := sq1 ref06_Walk_Kind.body
noncomputable def ref06_Walk_Kind.c2 : Code := sq1 (sq2 ref06_Walk_Kind.body)
noncomputable def ref06_Walk_Kind.c3 : Code := sq1 (sq2 (sq2 ref06_Walk_Kind.body))
noncomputable def ref06_Walk_Kind.c4 : Code := sq2 (sq2 (sq2 ref06_Walk_Kind.body))
theorem ref06_Walk_Kind.q5 : ref06_Walk_Kind.body = .seq ref06_Walk_Kind.c1 (.seq ref06_Walk_Kind.c2 (.seq ref06_Walk_Kind.c3 ref06_Walk_Kind.c4)) := by kernel_rfl
def ref06_Walk_Kind.s6 (Z : ZT) (Q : List Value → PT) (w_0 : OA) (t_4 : Addr) (t_5 : Addr) : PT :=
  (nn w_0 fun v31 => (ldI .i64 (v31.add 1) fun v32 => (nn w_0 fun v33 => (st1 (v33.add 1) (Value.int .i64 (IntKind.wrap .i64 (v32 + 1))) (ldN 4 t_5 fun v34 => (stN 4 t_4 v34 (ldN 4 t_4 fun v35 => (Q v35))))))))
def ref06_Walk_Kind.q7 (Z : ZT) (Q : List Value → PT) : QF := bodyQ Tryd.prog [.cell 4 79] (fun v => atN v fun va => Q va)
theorem ref06_Walk_Kind.s6_eq (Z : ZT) (Q : List Value → PT) (ρ : Fr) (w_0 : OA) (t_4 : Addr) (t_5 : Addr) : comp Tryd.prog Z ref06_Walk_Kind.c4 (ref06_Walk_Kind.q7 Z Q) (puts ρ [(0, (Value.pointer w_0)), (4, (Value.pointer (some t_4))), (5, (Value.pointer (some t_5)))]) = ref06_Walk_Kind.s6 Z Q w_0 t_4 t_5 := by kernel_rfl
def ref06_Walk_Kind.j8 (Z : ZT) (Q : List Value → PT) : Fr → PT := (fun ρ => atP (ρ 0) fun w_0 => atA (ρ 4) fun t_4 => atA (ρ 5) fun t_5 => (ref06_Walk_Kind.s6 Z Q w_0 t_4 t_5))
theorem ref06_Walk_Kind.s6_ok (Z : ZT) (Q : List Value → PT) : Ok Tryd.prog Tryd.f75.ntmps Z ref06_Walk_Kind.c4 (ref06_Walk_Kind.q7 Z Q) (ref06_Walk_Kind.j8 Z Q) := by
  intro E he ρ w a hr h
  obtain ⟨w_0, e0, h⟩ := atP_e h
  obtain ⟨t_4, e4, h⟩ := atA_e h
  obtain ⟨t_5, e5, h⟩ := atA_e h
  exact ok_at [(0, (Value.pointer w_0)), (4, (Value.pointer (some t_4))), (5, (Value.pointer (some t_5)))] (okC ref06_Walk_Kind.c4 (ref06_Walk_Kind.q7 Z Q) (by kernel_rfl)) (puts_cons e0 (puts_cons e4 (puts_cons e5 (fun p hp => puts_nil hp)))) (ref06_Walk_Kind.s6_eq Z Q ρ w_0 t_4 t_5) he hr h
def ref06_Walk_Kind.s9 (Z : ZT) (Q : List Value → PT) (w_0 : OA) (kind_1 : Int) : PT :=
  (newC 79 [(Value.int .i64 0), (Value.int .i64 0), (Value.string ⟨#[]⟩), (Value.int .i64 0)] fun v36 => (cal Tryd.prog Z 71 [(Value.pointer w_0)] (isN fun v37 => (newC 79 [(Value.int .i64 0), (Value.int .i64 0), (Value.string ⟨#[]⟩), (Value.int .i64 0)] fun t38 => (stN 4 t38 v37 (ldI .i64 (t38.add 0) fun v39 => (pif (v39 != kind_1) (cal Tryd.prog Z 46 [(Value.pointer w_0), (Value.int .i64 8)] (isU (ref06_Walk_Kind.s6 Z Q w_0 v36 t38))) (ref06_Walk_Kind.s6 Z Q w_0 v36 t38))))))))
theorem ref06_Walk_Kind.s9_eq (Z : ZT) (Q : List Value → PT) (ρ : Fr) (w_0 : OA) (kind_1 : Int) : (comp Tryd.prog Z ref06_Walk_Kind.c1 (thenK (comp Tryd.prog Z ref06_Walk_Kind.c2 (thenK (comp Tryd.prog Z ref06_Walk_Kind.c3 (thenK (ref06_Walk_Kind.j8 Z Q) (ref06_Walk_Kind.q7 Z Q))) (ref06_Walk_Kind.q7 Z Q))) (ref06_Walk_Kind.q7 Z Q))) (puts ρ [(0, (Value.pointer w_0)), (1, (Value.int .i64 kind_1))]) = ref06_Walk_Kind.s9 Z Q w_0 kind_1 := by kernel_rfl
def ref06_Walk_Kind.j10 (Z : ZT) (Q : List Value → PT) : Fr → PT := (fun ρ => atP (ρ 0) fun w_0 => atI .i64 (ρ 1) fun kind_1 => (ref06_Walk_Kind.s9 Z Q w_0 kind_1))
theorem ref06_Walk_Kind.s9_ok (Z : ZT) (Q : List Value → PT) : Ok Tryd.prog Tryd.f75.ntmps Z ref06_Walk_Kind.body (ref06_Walk_Kind.q7 Z Q) (ref06_Walk_Kind.j10 Z Q) := by
  intro E he ρ w a hr h
  rw [ref06_Walk_Kind.q5] at he ⊢
  obtain ⟨w_0, e0, h⟩ := atP_e h
  obtain ⟨kind_1, e1, h⟩ := atI_e h
  exact ok_at [(0, (Value.pointer w_0)), (1, (Value.int .i64 kind_1))] (ok_seq (okC ref06_Walk_Kind.c1 _ (by kernel_rfl)) (ok_seq (okC ref06_Walk_Kind.c2 _ (by kernel_rfl)) (ok_seq (okC ref06_Walk_Kind.c3 _ (by kernel_rfl)) (ref06_Walk_Kind.s6_ok Z Q)))) (puts_cons e0 (puts_cons e1 (fun p hp => puts_nil hp))) (ref06_Walk_Kind.s9_eq Z Q ρ w_0 kind_1) he hr h
def ref06_Walk_Kind.F (Z : ZT) (Q : List Value → PT) (w_0 : OA) (kind_1 : Int) : PT :=
  (ref06_Walk_Kind.s9 Z Q w_0 kind_1)
theorem ref06_Walk_Kind.vc (Z : ZT) (Q : List Value → PT) (w_0 : OA) (kind_1 : Int) (w : World) (h : ref06_Walk_Kind.F Z Q w_0 kind_1 w) : Calls Tryd.prog 75 ⟨[(Value.pointer w_0), (Value.int .i64 kind_1)]⟩ w fun e w' => (∃ (r0 : List Value), e = .returned (.agg ⟨r0⟩) ∧ Q r0 w') ∨ ∃ c, e = .panicked c ∧ Z c w' := by
  refine (calls_of_ok (args := [(Value.pointer w_0), (Value.int .i64 kind_1)]) (w := w) (rs := [.cell 4 79]) (fn := Tryd.f75) (c := ref06_Walk_Kind.body) Tryd.func75 (by kernel_rfl) (by kernel_rfl) (Nat.le_of_ble_eq_true (by kernel_rfl)) (ref06_Walk_Kind.s9_ok Z Q) (h)).mono fun e w' hR => ?_
  cases e with
  | returned v =>
    obtain ⟨va, rfl, hR⟩ := atN_e hR
    exact .inl ⟨va, rfl, hR⟩
  | panicked c => exact .inr ⟨c, rfl, hR⟩
  | outgrown => exact hR.elim
theorem ref06_Walk_Kind.vc0 (Q : List Value → PT) (w_0 : OA) (kind_1 : Int) (w : World) (h : ref06_Walk_Kind.F Z0 Q w_0 kind_1 w) : Calls Tryd.prog 75 ⟨[(Value.pointer w_0), (Value.int .i64 kind_1)]⟩ w fun e w' => (∃ (r0 : List Value), e = .returned (.agg ⟨r0⟩) ∧ Q r0 w') :=
  (ref06_Walk_Kind.vc Z0 Q w_0 kind_1 w h).mono fun _ _ hR => hR.elim id fun ⟨_, _, hz⟩ => hz.elim
theorem ref06_Walk_Kind.cal {Z : ZT} {Q : List Value → PT} {w_0 : OA} {kind_1 : Int} {w : World} (h : ref06_Walk_Kind.F Z Q w_0 kind_1 w) : Go.Proofs.YtllgjjldnnmjkaaDoor.cal Tryd.prog Z 75 [(Value.pointer w_0), (Value.int .i64 kind_1)] (isN fun r0 => Q r0) w := by
  refine (ref06_Walk_Kind.vc Z Q w_0 kind_1 w h).mono fun e w' hR => ?_
  rcases hR with ⟨r0, rfl, h⟩ | ⟨c, rfl, h⟩
  · show (isN fun r0 => Q r0) (.agg ⟨r0⟩) w'
    exact ⟨_, rfl, h⟩
  · exact h

/-! ### (*milepost/milepostref06.Walk).Word: function 72 -/
noncomputable def ref06_Walk_Word.body : Code := bodyC Tryd.f72
def ref06_Walk_Word.F (Z : ZT) (Q : Bool → PT) (w_0 : OA) (s_1 : ByteArray) : PT :=
  (cal Tryd.prog Z 71 [(Value.pointer w_0)] (isN fun v1 => (ptI .i64 v1 0 fun v2 => (pif (v2 == 1) (cal Tryd.prog Z 71 [(Value.pointer w_0)] (isN fun v3 => (ptS v3 2 fun v4 => (Q (v4.toList == s_1.toList))))) (Q false)))))
def ref06_Walk_Word.q1 (Z : ZT) (Q : Bool → PT) : QF := bodyQ Tryd.prog [.tmp 4] (fun v => atB v fun va => Q va)
theorem ref06_Walk_Word.eq (Z : ZT) (Q : Bool → PT) (w_0 : OA) (s_1 : ByteArray) : comp Tryd.prog Z ref06_Walk_Word.body (ref06_Walk_Word.q1 Z Q) (fr0 [(Value.pointer w_0), (Value.string s_1)]) = ref06_Walk_Word.F Z Q w_0 s_1 := by kernel_rfl
theorem ref06_Walk_Word.vc (Z : ZT) (Q : Bool → PT) (w_0 : OA) (s_1 : ByteArray) (w : World) (h : ref06_Walk_Word.F Z Q w_0 s_1 w) : Calls Tryd.prog 72 ⟨[(Value.pointer w_0), (Value.string s_1)]⟩ w fun e w' => (∃ (r0 : Bool), e = .returned (.bool r0) ∧ Q r0 w') ∨ ∃ c, e = .panicked c ∧ Z c w' := by
  refine (calls_of_ok (args := [(Value.pointer w_0), (Value.string s_1)]) (w := w) (rs := [.tmp 4]) (fn := Tryd.f72) (c := ref06_Walk_Word.body) Tryd.func72 (by kernel_rfl) (by kernel_rfl) (Nat.le_of_ble_eq_true (by kernel_rfl)) (okC ref06_Walk_Word.body (ref06_Walk_Word.q1 Z Q) (by kernel_rfl)) (by rw [ref06_Walk_Word.eq]; exact h)).mono fun e w' hR => ?_
  cases e with
  | returned v =>
    obtain ⟨va, rfl, hR⟩ := atB_e hR
    exact .inl ⟨va, rfl, hR⟩
  | panicked c => exact .inr ⟨c, rfl, hR⟩
  | outgrown => exact hR.elim
theorem ref06_Walk_Word.vc0 (Q : Bool → PT) (w_0 : OA) (s_1 : ByteArray) (w : World) (h : ref06_Walk_Word.F Z0 Q w_0 s_1 w) : Calls Tryd.prog 72 ⟨[(Value.pointer w_0), (Value.string s_1)]⟩ w fun e w' => (∃ (r0 : Bool), e = .returned (.bool r0) ∧ Q r0 w') :=
  (ref06_Walk_Word.vc Z0 Q w_0 s_1 w h).mono fun _ _ hR => hR.elim id fun ⟨_, _, hz⟩ => hz.elim
theorem ref06_Walk_Word.cal {Z : ZT} {Q : Bool → PT} {w_0 : OA} {s_1 : ByteArray} {w : World} (h : ref06_Walk_Word.F Z Q w_0 s_1 w) : Go.Proofs.YtllgjjldnnmjkaaDoor.cal Tryd.prog Z 72 [(Value.pointer w_0), (Value.string s_1)] (isB fun r0 => Q r0) w := by
  refine (ref06_Walk_Word.vc Z Q w_0 s_1 w h).mono fun e w' hR => ?_
  rcases hR with ⟨r0, rfl, h⟩ | ⟨c, rfl, h⟩
  · show (isB fun r0 => Q r0) (.bool r0) w'
    exact ⟨_, rfl, h⟩
  · exact h

/-! ### (*milepost/milepostref06.Walk).Figure: function 73 -/
noncomputable def ref06_Walk_Figure.body : Code := bodyC Tryd.f73
def ref06_Walk_Figure.F (Z : ZT) (Q : List Value → PT) (w_0 : OA) : PT :=
  (newC 49 [(Value.int .i64 0), (Value.int .i64 0)] fun v5 => (cal Tryd.prog Z 75 [(Value.pointer w_0), (Value.int .i64 2)] (isN fun v6 => (newC 79 [(Value.int .i64 0), (Value.int .i64 0), (Value.string ⟨#[]⟩), (Value.int .i64 0)] fun t7 => (stN 4 t7 v6 (ldI .i64 (t7.add 3) fun v8 => (ldI .i64 (t7.add 1) fun v9 => (stN 2 v5 [(Value.int .i64 v8), (Value.int .i64 v9)] (ldN 2 v5 fun v10 => (Q v10))))))))))
def ref06_Walk_Figure.q1 (Z : ZT) (Q : List Value → PT) : QF := bodyQ Tryd.prog [.cell 2 49] (fun v => atN v fun va => Q va)
theorem ref06_Walk_Figure.eq (Z : ZT) (Q : List Value → PT) (w_0 : OA) : comp Tryd.prog Z ref06_Walk_Figure.body (ref06_Walk_Figure.q1 Z Q) (fr0 [(Value.pointer w_0)]) = ref06_Walk_Figure.F Z Q w_0 := by kernel_rfl
theorem ref06_Walk_Figure.vc (Z : ZT) (Q : List Value → PT) (w_0 : OA) (w : World) (h : ref06_Walk_Figure.F Z Q w_0 w) : Calls Tryd.prog 73 ⟨[(Value.pointer w_0)]⟩ w fun e w' => (∃ (r0 : List Value), e = .returned (.agg ⟨r0⟩) ∧ Q r0 w') ∨ ∃ c, e = .panicked c ∧ Z c w' := by
  refine (calls_of_ok (args := [(Value.pointer w_0)]) (w := w) (rs := [.cell 2 49]) (fn := Tryd.f73) (c := ref06_Walk_Figure.body) Tryd.func73 (by kernel_rfl) (by kernel_rfl) (Nat.le_of_ble_eq_true (by kernel_rfl)) (okC ref06_Walk_Figure.body (ref06_Walk_Figure.q1 Z Q) (by kernel_rfl)) (by rw [ref06_Walk_Figure.eq]; exact h)).mono fun e w' hR => ?_
  cases e with
  | returned v =>
    obtain ⟨va, rfl, hR⟩ := atN_e hR
    exact .inl ⟨va, rfl, hR⟩
  | panicked c => exact .inr ⟨c, rfl, hR⟩
  | outgrown => exact hR.elim
theorem ref06_Walk_Figure.vc0 (Q : List Value → PT) (w_0 : OA) (w : World) (h : ref06_Walk_Figure.F Z0 Q w_0 w) : Calls Tryd.prog 73 ⟨[(Value.pointer w_0)]⟩ w fun e w' => (∃ (r0 : List Value), e = .returned (.agg ⟨r0⟩) ∧ Q r0 w') :=
  (ref06_Walk_Figure.vc Z0 Q w_0 w h).mono fun _ _ hR => hR.elim id fun ⟨_, _, hz⟩ => hz.elim
theorem ref06_Walk_Figure.cal {Z : ZT} {Q : List Value → PT} {w_0 : OA} {w : World} (h : ref06_Walk_Figure.F Z Q w_0 w) : Go.Proofs.YtllgjjldnnmjkaaDoor.cal Tryd.prog Z 73 [(Value.pointer w_0)] (isN fun r0 => Q r0) w := by
  refine (ref06_Walk_Figure.vc Z Q w_0 w h).mono fun e w' hR => ?_
  rcases hR with ⟨r0, rfl, h⟩ | ⟨c, rfl, h⟩
  · show (isN fun r0 => Q r0) (.agg ⟨r0⟩) w'
    exact ⟨_, rfl, h⟩
  · exact h

/-! ### (*milepost/milepostref06.Walk).Clause: function 74 -/
noncomputable def ref06_Walk_Clause.body : Code := bodyC Tryd.f74
noncomputable def ref06_Walk_Clause.c1 : Code := sq1 ref06_Walk_Clause.body
noncomputable def ref06_Walk_Clause.c2 : Code := sq1 (sq2 ref06_Walk_Clause.body)
noncomputable def ref06_Walk_Clause.c3 : Code := sq1 (sq2 (sq2 ref06_Walk_Clause.body))
noncomputable def ref06_Walk_Clause.c4 : Code := sq1 (sq2 (sq2 (sq2 ref06_Walk_Clause.body)))
noncomputable def ref06_Walk_Clause.c5 : Code := sq2 (sq2 (sq2 (sq2 ref06_Walk_Clause.body)))
theorem ref06_Walk_Clause.q6 : ref06_Walk_Clause.body = .seq ref06_Walk_Clause.c1 (.seq ref06_Walk_Clause.c2 (.seq ref06_Walk_Clause.c3 (.seq ref06_Walk_Clause.c4 ref06_Walk_Clause.c5))) := by kernel_rfl
noncomputable def ref06_Walk_Clause.c7 : Code := sq1 ref06_Walk_Clause.c5
noncomputable def ref06_Walk_Clause.c8 : Code := sq2 ref06_Walk_Clause.c5
theorem ref06_Walk_Clause.q9 : ref06_Walk_Clause.c5 = .seq ref06_Walk_Clause.c7 ref06_Walk_Clause.c8 := by kernel_rfl
noncomputable def ref06_Walk_Clause.c10 : Code := sq1 ref06_Walk_Clause.c8
noncomputable def ref06_Walk_Clause.c11 : Code := sq2 ref06_Walk_Clause.c8
theorem ref06_Walk_Clause.q12 : ref06_Walk_Clause.c8 = .seq ref06_Walk_Clause.c10 ref06_Walk_Clause.c11 := by kernel_rfl
noncomputable def ref06_Walk_Clause.c13 : Code := sq1 ref06_Walk_Clause.c11
noncomputable def ref06_Walk_Clause.c14 : Code := sq2 ref06_Walk_Clause.c11
theorem ref06_Walk_Clause.q15 : ref06_Walk_Clause.c11 = .seq ref06_Walk_Clause.c13 ref06_Walk_Clause.c14 := by kernel_rfl
noncomputable def ref06_Walk_Clause.c16 : Code := sq1 ref06_Walk_Clause.c14
noncomputable def ref06_Walk_Clause.c17 : Code := sq1 (sq2 ref06_Walk_Clause.c14)
noncomputable def ref06_Walk_Clause.c18 : Code := sq2 (sq2 ref06_Walk_Clause.c14)
theorem ref06_Walk_Clause.q19 : ref06_Walk_Clause.c14 = .seq ref06_Walk_Clause.c16 (.seq ref06_Walk_Clause.c17 ref06_Walk_Clause.c18) := by kernel_rfl
noncomputable def ref06_Walk_Clause.c20 : Code := sq1 ref06_Walk_Clause.c18
noncomputable def ref06_Walk_Clause.c21 : Code := sq2 ref06_Walk_Clause.c18
theorem ref06_Walk_Clause.q22 : ref06_Walk_Clause.c18 = .seq ref06_Walk_Clause.c20 ref06_Walk_Clause.c21 := by kernel_rfl
noncomputable def ref06_Walk_Clause.c23 : Code := sq1 ref06_Walk_Clause.c21
noncomputable def ref06_Walk_Clause.c24 : Code := sq2 ref06_Walk_Clause.c21
theorem ref06_Walk_Clause.q25 : ref06_Walk_Clause.c21 = .seq ref06_Walk_Clause.c23 ref06_Walk_Clause.c24 := by kernel_rfl
def ref06_Walk_Clause.s26 (Z : ZT) (Q : List Value → PT) (w_0 : OA) (t_4 : Addr) (c_6 : Addr) (port_8 : Bool) : PT :=
  (pif port_8 (cal Tryd.prog Z 71 [(Value.pointer w_0)] (isN fun v79 => (ptI .i64 v79 0 fun v80 => (pif (v80 == 5) (st1 (c_6.add 4) (Value.bool true) (nn w_0 fun v81 => (ldI .i64 (v81.add 1) fun v82 => (nn w_0 fun v83 => (st1 (v83.add 1) (Value.int .i64 (IntKind.wrap .i64 (v82 + 1))) (drawn fun S84 => (hL S84 (c_6.add 2) fun v85 v85n v85c => (cal Tryd.prog Z 73 [(Value.pointer w_0)] (isN fun v86 => (sAnd S84 (cnd (List.length v86 = 2) (newC 49 (v86 ++ ([])) fun v87 => (sAnd S84 (runL Tryd.prog (bi .append #[53, 53] 53 [false, false] [(Value.slice v85 v85n v85c), (Value.slice (some v87) 1 1)]) fun v88 v88n v88c => (sAnd S84 (st1 (c_6.add 2) (Value.slice v88 v88n v88c) (ldN 5 c_6 fun v89 => (stN 5 t_4 v89 (ldN 5 t_4 fun v90 => (Q v90)))))))))))))))))))) (ldN 5 c_6 fun v91 => (stN 5 t_4 v91 (ldN 5 t_4 fun v92 => (Q v92)))))))) (ldN 5 c_6 fun v93 => (stN 5 t_4 v93 (ldN 5 t_4 fun v94 => (Q v94)))))
def ref06_Walk_Clause.q27 (Z : ZT) (Q : List Value → PT) : QF := bodyQ Tryd.prog [.cell 4 55] (fun v => atN v fun va => Q va)
theorem ref06_Walk_Clause.s26_eq (Z : ZT) (Q : List Value → PT) (ρ : Fr) (w_0 : OA) (t_4 : Addr) (c_6 : Addr) (port_8 : Bool) : comp Tryd.prog Z ref06_Walk_Clause.c24 (ref06_Walk_Clause.q27 Z Q) (puts ρ [(0, (Value.pointer w_0)), (4, (Value.pointer (some t_4))), (6, (Value.pointer (some c_6))), (8, (Value.bool port_8))]) = ref06_Walk_Clause.s26 Z Q w_0 t_4 c_6 port_8 := by kernel_rfl
def ref06_Walk_Clause.j28 (Z : ZT) (Q : List Value → PT) : Fr → PT := (fun ρ => atP (ρ 0) fun w_0 => atA (ρ 4) fun t_4 => atA (ρ 6) fun c_6 => atB (ρ 8) fun port_8 => (ref06_Walk_Clause.s26 Z Q w_0 t_4 c_6 port_8))
theorem ref06_Walk_Clause.s26_ok (Z : ZT) (Q : List Value → PT) : Ok Tryd.prog Tryd.f74.ntmps Z ref06_Walk_Clause.c24 (ref06_Walk_Clause.q27 Z Q) (ref06_Walk_Clause.j28 Z Q) := by
  intro E he ρ w a hr h
  obtain ⟨w_0, e0, h⟩ := atP_e h
  obtain ⟨t_4, e4, h⟩ := atA_e h
  obtain ⟨c_6, e6, h⟩ := atA_e h
  obtain ⟨port_8, e8, h⟩ := atB_e h
  exact ok_at [(0, (Value.pointer w_0)), (4, (Value.pointer (some t_4))), (6, (Value.pointer (some c_6))), (8, (Value.bool port_8))] (okC ref06_Walk_Clause.c24 (ref06_Walk_Clause.q27 Z Q) (by kernel_rfl)) (puts_cons e0 (puts_cons e4 (puts_cons e6 (puts_cons e8 (fun p hp => puts_nil hp))))) (ref06_Walk_Clause.s26_eq Z Q ρ w_0 t_4 c_6 port_8) he hr h
def ref06_Walk_Clause.s29 (Z : ZT) (Q : List Value → PT) (w_0 : OA) (t_4 : Addr) (c_6 : Addr) (addr_7 : Bool) (port_8 : Bool) : PT :=
  (pif addr_7 (cal Tryd.prog Z 71 [(Value.pointer w_0)] (isN fun v95 => (ptI .i64 v95 0 fun v96 => (pif (v96 == 4) (st1 (c_6.add 3) (Value.bool true) (nn w_0 fun v97 => (ldI .i64 (v97.add 1) fun v98 => (nn w_0 fun v99 => (st1 (v99.add 1) (Value.int .i64 (IntKind.wrap .i64 (v98 + 1))) (drawn fun S100 => (hL S100 (c_6.add 2) fun v101 v101n v101c => (cal Tryd.prog Z 73 [(Value.pointer w_0)] (isN fun v102 => (sAnd S100 (cnd (List.length v102 = 2) (newC 49 (v102 ++ ([])) fun v103 => (sAnd S100 (runL Tryd.prog (bi .append #[53, 53] 53 [false, false] [(Value.slice v101 v101n v101c), (Value.slice (some v103) 1 1)]) fun v104 v104n v104c => (sAnd S100 (st1 (c_6.add 2) (Value.slice v104 v104n v104c) (ref06_Walk_Clause.s26 Z Q w_0 t_4 c_6 port_8))))))))))))))))) (ref06_Walk_Clause.s26 Z Q w_0 t_4 c_6 port_8))))) (ref06_Walk_Clause.s26 Z Q w_0 t_4 c_6 port_8))
theorem ref06_Walk_Clause.s29_eq (Z : ZT) (Q : List Value → PT) (ρ : Fr) (w_0 : OA) (t_4 : Addr) (c_6 : Addr) (addr_7 : Bool) (port_8 : Bool) : (comp Tryd.prog Z ref06_Walk_Clause.c23 (thenK (ref06_Walk_Clause.j28 Z Q) (ref06_Walk_Clause.q27 Z Q))) (puts ρ [(0, (Value.pointer w_0)), (4, (Value.pointer (some t_4))), (6, (Value.pointer (some c_6))), (7, (Value.bool addr_7)), (8, (Value.bool port_8))]) = ref06_Walk_Clause.s29 Z Q w_0 t_4 c_6 addr_7 port_8 := by kernel_rfl
def ref06_Walk_Clause.j30 (Z : ZT) (Q : List Value → PT) : Fr → PT := (fun ρ => atP (ρ 0) fun w_0 => atA (ρ 4) fun t_4 => atA (ρ 6) fun c_6 => atB (ρ 7) fun addr_7 => atB (ρ 8) fun port_8 => (ref06_Walk_Clause.s29 Z Q w_0 t_4 c_6 addr_7 port_8))
theorem ref06_Walk_Clause.s29_ok (Z : ZT) (Q : List Value → PT) : Ok Tryd.prog Tryd.f74.ntmps Z ref06_Walk_Clause.c21 (ref06_Walk_Clause.q27 Z Q) (ref06_Walk_Clause.j30 Z Q) := by
  intro E he ρ w a hr h
  rw [ref06_Walk_Clause.q25] at he ⊢
  obtain ⟨w_0, e0, h⟩ := atP_e h
  obtain ⟨t_4, e4, h⟩ := atA_e h
  obtain ⟨c_6, e6, h⟩ := atA_e h
  obtain ⟨addr_7, e7, h⟩ := atB_e h
  obtain ⟨port_8, e8, h⟩ := atB_e h
  exact ok_at [(0, (Value.pointer w_0)), (4, (Value.pointer (some t_4))), (6, (Value.pointer (some c_6))), (7, (Value.bool addr_7)), (8, (Value.bool port_8))] (ok_seq (okC ref06_Walk_Clause.c23 _ (by kernel_rfl)) (ref06_Walk_Clause.s26_ok Z Q)) (puts_cons e0 (puts_cons e4 (puts_cons e6 (puts_cons e7 (puts_cons e8 (fun p hp => puts_nil hp)))))) (ref06_Walk_Clause.s29_eq Z Q ρ w_0 t_4 c_6 addr_7 port_8) he hr h
noncomputable def ref06_Walk_Clause.c31 : Code := sq1 ref06_Walk_Clause.c20
noncomputable def ref06_Walk_Clause.c32 : Code := sq2 ref06_Walk_Clause.c20
theorem ref06_Walk_Clause.q33 : ref06_Walk_Clause.c20 = .seq ref06_Walk_Clause.c31 ref06_Walk_Clause.c32 := by kernel_rfl
noncomputable def ref06_Walk_Clause.c34 : Code := blk ref06_Walk_Clause.c32
theorem ref06_Walk_Clause.q35 : ref06_Walk_Clause.c32 = .block 2 ref06_Walk_Clause.c34 := by kernel_rfl
noncomputable def ref06_Walk_Clause.c36 : Code := lop ref06_Walk_Clause.c34
theorem ref06_Walk_Clause.q37 : ref06_Walk_Clause.c34 = .loop ref06_Walk_Clause.c36 := by kernel_rfl
def ref06_Walk_Clause.q39 (Z : ZT) (Q : List Value → PT) : QF := thenK (ref06_Walk_Clause.j30 Z Q) (ref06_Walk_Clause.q27 Z Q)
def ref06_Walk_Clause.q40 (Z : ZT) (Q : List Value → PT) : QF := inBl 2 (ref06_Walk_Clause.q39 Z Q)
def ref06_Walk_Clause.s41 (Z : ZT) (Q : List Value → PT) (X1 : OA → Addr → Addr → Bool → Bool → Int → PT) (w_0 : OA) (t_4 : Addr) (c_6 : Addr) (addr_7 : Bool) (port_8 : Bool) (k_10 : Int) : PT :=
  (pif addr_7 (pif (decide (k_10 < 3)) (cal Tryd.prog Z 75 [(Value.pointer w_0), (Value.int .i64 3)] (isN fun v112 => (drawn fun S113 => (hL S113 (c_6.add 2) fun v114 v114n v114c => (cal Tryd.prog Z 73 [(Value.pointer w_0)] (isN fun v115 => (sAnd S113 (cnd (List.length v115 = 2) (newC 49 (v115 ++ ([])) fun v116 => (sAnd S113 (runL Tryd.prog (bi .append #[53, 53] 53 [false, false] [(Value.slice v114 v114n v114c), (Value.slice (some v116) 1 1)]) fun v117 v117n v117c => (sAnd S113 (st1 (c_6.add 2) (Value.slice v117 v117n v117c) (X1 w_0 t_4 c_6 addr_7 port_8 (IntKind.wrap .i64 (k_10 + 1)))))))))))))))) (ref06_Walk_Clause.s29 Z Q w_0 t_4 c_6 addr_7 port_8)) (ref06_Walk_Clause.s29 Z Q w_0 t_4 c_6 addr_7 port_8))
def ref06_Walk_Clause.j42 (Z : ZT) (Q : List Value → PT) (X1 : OA → Addr → Addr → Bool → Bool → Int → PT) : Fr → PT := (fun ρ => atP (ρ 0) fun w_0 => atA (ρ 4) fun t_4 => atA (ρ 6) fun c_6 => atB (ρ 7) fun addr_7 => atB (ρ 8) fun port_8 => atI .i64 (ρ 10) fun k_10 => (X1 w_0 t_4 c_6 addr_7 port_8 k_10))
def ref06_Walk_Clause.q43 (Z : ZT) (Q : List Value → PT) (X1 : OA → Addr → Addr → Bool → Bool → Int → PT) : QF := thenK (ref06_Walk_Clause.j42 Z Q X1) (ref06_Walk_Clause.q40 Z Q)
theorem ref06_Walk_Clause.s41_eq (Z : ZT) (Q : List Value → PT) (X1 : OA → Addr → Addr → Bool → Bool → Int → PT) (ρ : Fr) (w_0 : OA) (t_4 : Addr) (c_6 : Addr) (addr_7 : Bool) (port_8 : Bool) (k_10 : Int) : comp Tryd.prog Z ref06_Walk_Clause.c36 (ref06_Walk_Clause.q43 Z Q X1) (puts ρ [(0, (Value.pointer w_0)), (4, (Value.pointer (some t_4))), (6, (Value.pointer (some c_6))), (7, (Value.bool addr_7)), (8, (Value.bool port_8)), (10, (Value.int .i64 k_10))]) = ref06_Walk_Clause.s41 Z Q X1 w_0 t_4 c_6 addr_7 port_8 k_10 := by kernel_rfl
def ref06_Walk_Clause.j44 (Z : ZT) (Q : List Value → PT) (X1 : OA → Addr → Addr → Bool → Bool → Int → PT) : Fr → PT := (fun ρ => atP (ρ 0) fun w_0 => atA (ρ 4) fun t_4 => atA (ρ 6) fun c_6 => atB (ρ 7) fun addr_7 => atB (ρ 8) fun port_8 => atI .i64 (ρ 10) fun k_10 => (ref06_Walk_Clause.s41 Z Q X1 w_0 t_4 c_6 addr_7 port_8 k_10))
theorem ref06_Walk_Clause.s41_ok (Z : ZT) (Q : List Value → PT) (X1 : OA → Addr → Addr → Bool → Bool → Int → PT) : Ok Tryd.prog Tryd.f74.ntmps Z ref06_Walk_Clause.c36 (ref06_Walk_Clause.q43 Z Q X1) (ref06_Walk_Clause.j44 Z Q X1) := by
  intro E he ρ w a hr h
  obtain ⟨w_0, e0, h⟩ := atP_e h
  obtain ⟨t_4, e4, h⟩ := atA_e h
  obtain ⟨c_6, e6, h⟩ := atA_e h
  obtain ⟨addr_7, e7, h⟩ := atB_e h
  obtain ⟨port_8, e8, h⟩ := atB_e h
  obtain ⟨k_10, e10, h⟩ := atI_e h
  exact ok_at [(0, (Value.pointer w_0)), (4, (Value.pointer (some t_4))), (6, (Value.pointer (some c_6))), (7, (Value.bool addr_7)), (8, (Value.bool port_8)), (10, (Value.int .i64 k_10))] (okC ref06_Walk_Clause.c36 (ref06_Walk_Clause.q43 Z Q X1) (by kernel_rfl)) (puts_cons e0 (puts_cons e4 (puts_cons e6 (puts_cons e7 (puts_cons e8 (puts_cons e10 (fun p hp => puts_nil hp))))))) (ref06_Walk_Clause.s41_eq Z Q X1 ρ w_0 t_4 c_6 addr_7 port_8 k_10) he hr h
def ref06_Walk_Clause.l38 (Z : ZT) (Q : List Value → PT) : Nat → OA → Addr → Addr → Bool → Bool → Int → PT
  | 0, _, _, _, _, _, _ => bad
  | k + 1, w_0, t_4, c_6, addr_7, port_8, k_10 => (ref06_Walk_Clause.s41 Z Q (ref06_Walk_Clause.l38 Z Q k) w_0 t_4 c_6 addr_7 port_8 k_10)
def ref06_Walk_Clause.j45 (Z : ZT) (Q : List Value → PT) (k : Nat) : Fr → PT := (fun ρ => atP (ρ 0) fun w_0 => atA (ρ 4) fun t_4 => atA (ρ 6) fun c_6 => atB (ρ 7) fun addr_7 => atB (ρ 8) fun port_8 => atI .i64 (ρ 10) fun k_10 => (ref06_Walk_Clause.l38 Z Q k w_0 t_4 c_6 addr_7 port_8 k_10))
def ref06_Walk_Clause.j46 (Z : ZT) (Q : List Value → PT) : Fr → PT := (fun ρ => atP (ρ 0) fun w_0 => atA (ρ 4) fun t_4 => atA (ρ 6) fun c_6 => atB (ρ 7) fun addr_7 => atB (ρ 8) fun port_8 => atI .i64 (ρ 10) fun k_10 => (exK fun k => ref06_Walk_Clause.l38 Z Q k w_0 t_4 c_6 addr_7 port_8 k_10))
theorem ref06_Walk_Clause.o47 (Z : ZT) (Q : List Value → PT) : Ok Tryd.prog Tryd.f74.ntmps Z ref06_Walk_Clause.c34 (ref06_Walk_Clause.q40 Z Q) (ref06_Walk_Clause.j46 Z Q) := by
  rw [ref06_Walk_Clause.q37]
  refine Ok.imp (ok_loop (J := ref06_Walk_Clause.j45 Z Q) ?_ ?_) ?_
  · intro ρ w h
    obtain ⟨w_0, e0, h⟩ := atP_e h
    obtain ⟨t_4, e4, h⟩ := atA_e h
    obtain ⟨c_6, e6, h⟩ := atA_e h
    obtain ⟨addr_7, e7, h⟩ := atB_e h
    obtain ⟨port_8, e8, h⟩ := atB_e h
    obtain ⟨k_10, e10, h⟩ := atI_e h
    exact h
  · intro k
    refine Ok.imp (ref06_Walk_Clause.s41_ok Z Q (ref06_Walk_Clause.l38 Z Q k)) fun ρ w h => ?_
    obtain ⟨w_0, e0, h⟩ := atP_e h
    obtain ⟨t_4, e4, h⟩ := atA_e h
    obtain ⟨c_6, e6, h⟩ := atA_e h
    obtain ⟨addr_7, e7, h⟩ := atB_e h
    obtain ⟨port_8, e8, h⟩ := atB_e h
    obtain ⟨k_10, e10, h⟩ := atI_e h
    show (ref06_Walk_Clause.j44 Z Q (ref06_Walk_Clause.l38 Z Q k)) ρ w
    simp only [ref06_Walk_Clause.j44]
    rw [e0]
    rw [e4]
    rw [e6]
    rw [e7]
    rw [e8]
    rw [e10]
    exact h
  · intro ρ w h
    obtain ⟨w_0, e0, h⟩ := atP_e h
    obtain ⟨t_4, e4, h⟩ := atA_e h
    obtain ⟨c_6, e6, h⟩ := atA_e h
    obtain ⟨addr_7, e7, h⟩ := atB_e h
    obtain ⟨port_8, e8, h⟩ := atB_e h
    obtain ⟨k_10, e10, h⟩ := atI_e h
    obtain ⟨k, h⟩ := h
    refine ⟨k, ?_⟩
    show (atP (ρ 0) fun w_0 => atA (ρ 4) fun t_4 => atA (ρ 6) fun c_6 => atB (ρ 7) fun addr_7 => atB (ρ 8) fun port_8 => atI .i64 (ρ 10) fun k_10 => (ref06_Walk_Clause.l38 Z Q k w_0 t_4 c_6 addr_7 port_8 k_10)) w
    rw [e0]
    rw [e4]
    rw [e6]
    rw [e7]
    rw [e8]
    rw [e10]
    exact h
theorem ref06_Walk_Clause.o48 (Z : ZT) (Q : List Value → PT) : Ok Tryd.prog Tryd.f74.ntmps Z ref06_Walk_Clause.c32 (ref06_Walk_Clause.q39 Z Q) (ref06_Walk_Clause.j46 Z Q) := by
  rw [ref06_Walk_Clause.q35]; exact ok_block (ref06_Walk_Clause.o47 Z Q)
def ref06_Walk_Clause.s49 (Z : ZT) (Q : List Value → PT) (w_0 : OA) (t_4 : Addr) (c_6 : Addr) (addr_7 : Bool) (port_8 : Bool) : PT :=
  (exK fun k => ref06_Walk_Clause.l38 Z Q k w_0 t_4 c_6 addr_7 port_8 0)
theorem ref06_Walk_Clause.s49_eq (Z : ZT) (Q : List Value → PT) (ρ : Fr) (w_0 : OA) (t_4 : Addr) (c_6 : Addr) (addr_7 : Bool) (port_8 : Bool) : (comp Tryd.prog Z ref06_Walk_Clause.c31 (thenK (ref06_Walk_Clause.j46 Z Q) (ref06_Walk_Clause.q39 Z Q))) (puts ρ [(0, (Value.pointer w_0)), (4, (Value.pointer (some t_4))), (6, (Value.pointer (some c_6))), (7, (Value.bool addr_7)), (8, (Value.bool port_8))]) = ref06_Walk_Clause.s49 Z Q w_0 t_4 c_6 addr_7 port_8 := by kernel_rfl
def ref06_Walk_Clause.j50 (Z : ZT) (Q : List Value → PT) : Fr → PT := (fun ρ => atP (ρ 0) fun w_0 => atA (ρ 4) fun t_4 => atA (ρ 6) fun c_6 => atB (ρ 7) fun addr_7 => atB (ρ 8) fun port_8 => (ref06_Walk_Clause.s49 Z Q w_0 t_4 c_6 addr_7 port_8))
theorem ref06_Walk_Clause.s49_ok (Z : ZT) (Q : List Value → PT) : Ok Tryd.prog Tryd.f74.ntmps Z ref06_Walk_Clause.c20 (ref06_Walk_Clause.q39 Z Q) (ref06_Walk_Clause.j50 Z Q) := by
  intro E he ρ w a hr h
  rw [ref06_Walk_Clause.q33] at he ⊢
  obtain ⟨w_0, e0, h⟩ := atP_e h
  obtain ⟨t_4, e4, h⟩ := atA_e h
  obtain ⟨c_6, e6, h⟩ := atA_e h
  obtain ⟨addr_7, e7, h⟩ := atB_e h
  obtain ⟨port_8, e8, h⟩ := atB_e h
  exact ok_at [(0, (Value.pointer w_0)), (4, (Value.pointer (some t_4))), (6, (Value.pointer (some c_6))), (7, (Value.bool addr_7)), (8, (Value.bool port_8))] (ok_seq (okC ref06_Walk_Clause.c31 _ (by kernel_rfl)) (ref06_Walk_Clause.o48 Z Q)) (puts_cons e0 (puts_cons e4 (puts_cons e6 (puts_cons e7 (puts_cons e8 (fun p hp => puts_nil hp)))))) (ref06_Walk_Clause.s49_eq Z Q ρ w_0 t_4 c_6 addr_7 port_8) he hr h
theorem ref06_Walk_Clause.o51 (Z : ZT) (Q : List Value → PT) : Ok Tryd.prog Tryd.f74.ntmps Z ref06_Walk_Clause.c18 (ref06_Walk_Clause.q27 Z Q) (ref06_Walk_Clause.j50 Z Q) := by
  rw [ref06_Walk_Clause.q22]; exact ok_seq (ref06_Walk_Clause.s49_ok Z Q) (ref06_Walk_Clause.s29_ok Z Q)
def ref06_Walk_Clause.s52 (Z : ZT) (Q : List Value → PT) (w_0 : OA) (t_4 : Addr) (c_6 : Addr) (addr_7 : Bool) (port_8 : Bool) : PT :=
  (nn w_0 fun v118 => (ldI .i64 (v118.add 1) fun v119 => (nn w_0 fun v120 => (st1 (v120.add 1) (Value.int .i64 (IntKind.wrap .i64 (v119 + 1))) (drawn fun S121 => (hL S121 (c_6.add 2) fun v122 v122n v122c => (cal Tryd.prog Z 73 [(Value.pointer w_0)] (isN fun v123 => (sAnd S121 (cnd (List.length v123 = 2) (newC 49 (v123 ++ ([])) fun v124 => (sAnd S121 (runL Tryd.prog (bi .append #[53, 53] 53 [false, false] [(Value.slice v122 v122n v122c), (Value.slice (some v124) 1 1)]) fun v125 v125n v125c => (sAnd S121 (st1 (c_6.add 2) (Value.slice v125 v125n v125c) (ref06_Walk_Clause.s49 Z Q w_0 t_4 c_6 addr_7 port_8))))))))))))))))
theorem ref06_Walk_Clause.s52_eq (Z : ZT) (Q : List Value → PT) (ρ : Fr) (w_0 : OA) (t_4 : Addr) (c_6 : Addr) (addr_7 : Bool) (port_8 : Bool) : (comp Tryd.prog Z ref06_Walk_Clause.c16 (thenK (comp Tryd.prog Z ref06_Walk_Clause.c17 (thenK (ref06_Walk_Clause.j50 Z Q) (ref06_Walk_Clause.q27 Z Q))) (ref06_Walk_Clause.q27 Z Q))) (puts ρ [(0, (Value.pointer w_0)), (4, (Value.pointer (some t_4))), (6, (Value.pointer (some c_6))), (7, (Value.bool addr_7)), (8, (Value.bool port_8))]) = ref06_Walk_Clause.s52 Z Q w_0 t_4 c_6 addr_7 port_8 := by kernel_rfl
def ref06_Walk_Clause.j53 (Z : ZT) (Q : List Value → PT) : Fr → PT := (fun ρ => atP (ρ 0) fun w_0 => atA (ρ 4) fun t_4 => atA (ρ 6) fun c_6 => atB (ρ 7) fun addr_7 => atB (ρ 8) fun port_8 => (ref06_Walk_Clause.s52 Z Q w_0 t_4 c_6 addr_7 port_8))
theorem ref06_Walk_Clause.s52_ok (Z : ZT) (Q : List Value → PT) : Ok Tryd.prog Tryd.f74.ntmps Z ref06_Walk_Clause.c14 (ref06_Walk_Clause.q27 Z Q) (ref06_Walk_Clause.j53 Z Q) := by
  intro E he ρ w a hr h
  rw [ref06_Walk_Clause.q19] at he ⊢
  obtain ⟨w_0, e0, h⟩ := atP_e h
  obtain ⟨t_4, e4, h⟩ := atA_e h
  obtain ⟨c_6, e6, h⟩ := atA_e h
  obtain ⟨addr_7, e7, h⟩ := atB_e h
  obtain ⟨port_8, e8, h⟩ := atB_e h
  exact ok_at [(0, (Value.pointer w_0)), (4, (Value.pointer (some t_4))), (6, (Value.pointer (some c_6))), (7, (Value.bool addr_7)), (8, (Value.bool port_8))] (ok_seq (okC ref06_Walk_Clause.c16 _ (by kernel_rfl)) (ok_seq (okC ref06_Walk_Clause.c17 _ (by kernel_rfl)) (ref06_Walk_Clause.o51 Z Q))) (puts_cons e0 (puts_cons e4 (puts_cons e6 (puts_cons e7 (puts_cons e8 (fun p hp => puts_nil hp)))))) (ref06_Walk_Clause.s52_eq Z Q ρ w_0 t_4 c_6 addr_7 port_8) he hr h
noncomputable def ref06_Walk_Clause.c54 : Code := sq1 ref06_Walk_Clause.c13
noncomputable def ref06_Walk_Clause.c55 : Code := sq2 ref06_Walk_Clause.c13
theorem ref06_Walk_Clause.q56 : ref06_Walk_Clause.c13 = .seq ref06_Walk_Clause.c54 ref06_Walk_Clause.c55 := by kernel_rfl
noncomputable def ref06_Walk_Clause.c57 : Code := blk ref06_Walk_Clause.c55
theorem ref06_Walk_Clause.q58 : ref06_Walk_Clause.c55 = .block 0 ref06_Walk_Clause.c57 := by kernel_rfl
noncomputable def ref06_Walk_Clause.c59 : Code := lop ref06_Walk_Clause.c57
theorem ref06_Walk_Clause.q60 : ref06_Walk_Clause.c57 = .loop ref06_Walk_Clause.c59 := by kernel_rfl
def ref06_Walk_Clause.q62 (Z : ZT) (Q : List Value → PT) : QF := thenK (ref06_Walk_Clause.j53 Z Q) (ref06_Walk_Clause.q27 Z Q)
def ref06_Walk_Clause.q63 (Z : ZT) (Q : List Value → PT) : QF := inBl 0 (ref06_Walk_Clause.q62 Z Q)
def ref06_Walk_Clause.s64 (Z : ZT) (Q : List Value → PT) (X1 : OA → OA → Nat → Nat → Addr → Addr → Addr → Bool → Bool → Int → PT) (w_0 : OA) (had_1 : OA) (had_1n had_1c : Nat) (t_4 : Addr) (t_5 : Addr) (c_6 : Addr) (addr_7 : Bool) (port_8 : Bool) (i_9 : Int) : PT :=
  (pif (decide (i_9 < ((had_1n : Nat) : Int))) (drew0 (ixS had_1 had_1n i_9 5 fun v132 => (ldS (v132.add 0) fun v133 => (ldS (t_5.add 2) fun v134 => (pif (v133.toList == v134.toList) (cal Tryd.prog Z 46 [(Value.pointer w_0), (Value.int .i64 9)] (isU (X1 w_0 had_1 had_1n had_1c t_4 t_5 c_6 addr_7 port_8 (IntKind.wrap .i64 (i_9 + 1))))) (X1 w_0 had_1 had_1n had_1c t_4 t_5 c_6 addr_7 port_8 (IntKind.wrap .i64 (i_9 + 1)))))))) (ref06_Walk_Clause.s52 Z Q w_0 t_4 c_6 addr_7 port_8))
def ref06_Walk_Clause.j65 (Z : ZT) (Q : List Value → PT) (X1 : OA → OA → Nat → Nat → Addr → Addr → Addr → Bool → Bool → Int → PT) : Fr → PT := (fun ρ => atP (ρ 0) fun w_0 => atL (ρ 1) fun had_1 had_1n had_1c => atA (ρ 4) fun t_4 => atA (ρ 5) fun t_5 => atA (ρ 6) fun c_6 => atB (ρ 7) fun addr_7 => atB (ρ 8) fun port_8 => atI .i64 (ρ 9) fun i_9 => (X1 w_0 had_1 had_1n had_1c t_4 t_5 c_6 addr_7 port_8 i_9))
def ref06_Walk_Clause.q66 (Z : ZT) (Q : List Value → PT) (X1 : OA → OA → Nat → Nat → Addr → Addr → Addr → Bool → Bool → Int → PT) : QF := thenK (ref06_Walk_Clause.j65 Z Q X1) (ref06_Walk_Clause.q63 Z Q)
theorem ref06_Walk_Clause.s64_eq (Z : ZT) (Q : List Value → PT) (X1 : OA → OA → Nat → Nat → Addr → Addr → Addr → Bool → Bool → Int → PT) (ρ : Fr) (w_0 : OA) (had_1 : OA) (had_1n had_1c : Nat) (t_4 : Addr) (t_5 : Addr) (c_6 : Addr) (addr_7 : Bool) (port_8 : Bool) (i_9 : Int) : comp Tryd.prog Z ref06_Walk_Clause.c59 (ref06_Walk_Clause.q66 Z Q X1) (puts ρ [(0, (Value.pointer w_0)), (1, (Value.slice had_1 had_1n had_1c)), (4, (Value.pointer (some t_4))), (5, (Value.pointer (some t_5))), (6, (Value.pointer (some c_6))), (7, (Value.bool addr_7)), (8, (Value.bool port_8)), (9, (Value.int .i64 i_9))]) = ref06_Walk_Clause.s64 Z Q X1 w_0 had_1 had_1n had_1c t_4 t_5 c_6 addr_7 port_8 i_9 := by kernel_rfl
def ref06_Walk_Clause.j67 (Z : ZT) (Q : List Value → PT) (X1 : OA → OA → Nat → Nat → Addr → Addr → Addr → Bool → Bool → Int → PT) : Fr → PT := (fun ρ => atP (ρ 0) fun w_0 => atL (ρ 1) fun had_1 had_1n had_1c => atA (ρ 4) fun t_4 => atA (ρ 5) fun t_5 => atA (ρ 6) fun c_6 => atB (ρ 7) fun addr_7 => atB (ρ 8) fun port_8 => atI .i64 (ρ 9) fun i_9 => (ref06_Walk_Clause.s64 Z Q X1 w_0 had_1 had_1n had_1c t_4 t_5 c_6 addr_7 port_8 i_9))
theorem ref06_Walk_Clause.s64_ok (Z : ZT) (Q : List Value → PT) (X1 : OA → OA → Nat → Nat → Addr → Addr → Addr → Bool → Bool → Int → PT) : Ok Tryd.prog Tryd.f74.ntmps Z ref06_Walk_Clause.c59 (ref06_Walk_Clause.q66 Z Q X1) (ref06_Walk_Clause.j67 Z Q X1) := by
  intro E he ρ w a hr h
  obtain ⟨w_0, e0, h⟩ := atP_e h
  obtain ⟨had_1, had_1n, had_1c, e1, h⟩ := atL_e h
  obtain ⟨t_4, e4, h⟩ := atA_e h
  obtain ⟨t_5, e5, h⟩ := atA_e h
  obtain ⟨c_6, e6, h⟩ := atA_e h
  obtain ⟨addr_7, e7, h⟩ := atB_e h
  obtain ⟨port_8, e8, h⟩ := atB_e h
  obtain ⟨i_9, e9, h⟩ := atI_e h
  exact ok_at [(0, (Value.pointer w_0)), (1, (Value.slice had_1 had_1n had_1c)), (4, (Value.pointer (some t_4))), (5, (Value.pointer (some t_5))), (6, (Value.pointer (some c_6))), (7, (Value.bool addr_7)), (8, (Value.bool port_8)), (9, (Value.int .i64 i_9))] (okC ref06_Walk_Clause.c59 (ref06_Walk_Clause.q66 Z Q X1) (by kernel_rfl)) (puts_cons e0 (puts_cons e1 (puts_cons e4 (puts_cons e5 (puts_cons e6 (puts_cons e7 (puts_cons e8 (puts_cons e9 (fun p hp => puts_nil hp))))))))) (ref06_Walk_Clause.s64_eq Z Q X1 ρ w_0 had_1 had_1n had_1c t_4 t_5 c_6 addr_7 port_8 i_9) he hr h
def ref06_Walk_Clause.l61 (Z : ZT) (Q : List Value → PT) : Nat → OA → OA → Nat → Nat → Addr → Addr → Addr → Bool → Bool → Int → PT
  | 0, _, _, _, _, _, _, _, _, _, _ => bad
  | k + 1, w_0, had_1, had_1n, had_1c, t_4, t_5, c_6, addr_7, port_8, i_9 => (ref06_Walk_Clause.s64 Z Q (ref06_Walk_Clause.l61 Z Q k) w_0 had_1 had_1n had_1c t_4 t_5 c_6 addr_7 port_8 i_9)
def ref06_Walk_Clause.j68 (Z : ZT) (Q : List Value → PT) (k : Nat) : Fr → PT := (fun ρ => atP (ρ 0) fun w_0 => atL (ρ 1) fun had_1 had_1n had_1c => atA (ρ 4) fun t_4 => atA (ρ 5) fun t_5 => atA (ρ 6) fun c_6 => atB (ρ 7) fun addr_7 => atB (ρ 8) fun port_8 => atI .i64 (ρ 9) fun i_9 => (ref06_Walk_Clause.l61 Z Q k w_0 had_1 had_1n had_1c t_4 t_5 c_6 addr_7 port_8 i_9))
def ref06_Walk_Clause.j69 (Z : ZT) (Q : List Value → PT) : Fr → PT := (fun ρ => atP (ρ 0) fun w_0 => atL (ρ 1) fun had_1 had_1n had_1c => atA (ρ 4) fun t_4 => atA (ρ 5) fun t_5 => atA (ρ 6) fun c_6 => atB (ρ 7) fun addr_7 => atB (ρ 8) fun port_8 => atI .i64 (ρ 9) fun i_9 => (exK fun k => ref06_Walk_Clause.l61 Z Q k w_0 had_1 had_1n had_1c t_4 t_5 c_6 addr_7 port_8 i_9))
theorem ref06_Walk_Clause.o70 (Z : ZT) (Q : List Value → PT) : Ok Tryd.prog Tryd.f74.ntmps Z ref06_Walk_Clause.c57 (ref06_Walk_Clause.q63 Z Q) (ref06_Walk_Clause.j69 Z Q) := by
  rw [ref06_Walk_Clause.q60]
  refine Ok.imp (ok_loop (J := ref06_Walk_Clause.j68 Z Q) ?_ ?_) ?_
  · intro ρ w h
    obtain ⟨w_0, e0, h⟩ := atP_e h
    obtain ⟨had_1, had_1n, had_1c, e1, h⟩ := atL_e h
    obtain ⟨t_4, e4, h⟩ := atA_e h
    obtain ⟨t_5, e5, h⟩ := atA_e h
    obtain ⟨c_6, e6, h⟩ := atA_e h
    obtain ⟨addr_7, e7, h⟩ := atB_e h
    obtain ⟨port_8, e8, h⟩ := atB_e h
    obtain ⟨i_9, e9, h⟩ := atI_e h
    exact h
  · intro k
    refine Ok.imp (ref06_Walk_Clause.s64_ok Z Q (ref06_Walk_Clause.l61 Z Q k)) fun ρ w h => ?_
    obtain ⟨w_0, e0, h⟩ := atP_e h
    obtain ⟨had_1, had_1n, had_1c, e1, h⟩ := atL_e h
    obtain ⟨t_4, e4, h⟩ := atA_e h
    obtain ⟨t_5, e5, h⟩ := atA_e h
    obtain ⟨c_6, e6, h⟩ := atA_e h
    obtain ⟨addr_7, e7, h⟩ := atB_e h
    obtain ⟨port_8, e8, h⟩ := atB_e h
    obtain ⟨i_9, e9, h⟩ := atI_e h
    show (ref06_Walk_Clause.j67 Z Q (ref06_Walk_Clause.l61 Z Q k)) ρ w
    simp only [ref06_Walk_Clause.j67]
    rw [e0]
    rw [e1]
    rw [e4]
    rw [e5]
    rw [e6]
    rw [e7]
    rw [e8]
    rw [e9]
    exact h
  · intro ρ w h
    obtain ⟨w_0, e0, h⟩ := atP_e h
    obtain ⟨had_1, had_1n, had_1c, e1, h⟩ := atL_e h
    obtain ⟨t_4, e4, h⟩ := atA_e h
    obtain ⟨t_5, e5, h⟩ := atA_e h
    obtain ⟨c_6, e6, h⟩ := atA_e h
    obtain ⟨addr_7, e7, h⟩ := atB_e h
    obtain ⟨port_8, e8, h⟩ := atB_e h
    obtain ⟨i_9, e9, h⟩ := atI_e h
    obtain ⟨k, h⟩ := h
    refine ⟨k, ?_⟩
    show (atP (ρ 0) fun w_0 => atL (ρ 1) fun had_1 had_1n had_1c => atA (ρ 4) fun t_4 => atA (ρ 5) fun t_5 => atA (ρ 6) fun c_6 => atB (ρ 7) fun addr_7 => atB (ρ 8) fun port_8 => atI .i64 (ρ 9) fun i_9 => (ref06_Walk_Clause.l61 Z Q k w_0 had_1 had_1n had_1c t_4 t_5 c_6 addr_7 port_8 i_9)) w
    rw [e0]
    rw [e1]
    rw [e4]
    rw [e5]
    rw [e6]
    rw [e7]
    rw [e8]
    rw [e9]
    exact h
theorem ref06_Walk_Clause.o71 (Z : ZT) (Q : List Value → PT) : Ok Tryd.prog Tryd.f74.ntmps Z ref06_Walk_Clause.c55 (ref06_Walk_Clause.q62 Z Q) (ref06_Walk_Clause.j69 Z Q) := by
  rw [ref06_Walk_Clause.q58]; exact ok_block (ref06_Walk_Clause.o70 Z Q)
def ref06_Walk_Clause.s72 (Z : ZT) (Q : List Value → PT) (w_0 : OA) (had_1 : OA) (had_1n had_1c : Nat) (t_4 : Addr) (t_5 : Addr) (c_6 : Addr) (addr_7 : Bool) (port_8 : Bool) : PT :=
  (exK fun k => ref06_Walk_Clause.l61 Z Q k w_0 had_1 had_1n had_1c t_4 t_5 c_6 addr_7 port_8 0)
theorem ref06_Walk_Clause.s72_eq (Z : ZT) (Q : List Value → PT) (ρ : Fr) (w_0 : OA) (had_1 : OA) (had_1n had_1c : Nat) (t_4 : Addr) (t_5 : Addr) (c_6 : Addr) (addr_7 : Bool) (port_8 : Bool) : (comp Tryd.prog Z ref06_Walk_Clause.c54 (thenK (ref06_Walk_Clause.j69 Z Q) (ref06_Walk_Clause.q62 Z Q))) (puts ρ [(0, (Value.pointer w_0)), (1, (Value.slice had_1 had_1n had_1c)), (4, (Value.pointer (some t_4))), (5, (Value.pointer (some t_5))), (6, (Value.pointer (some c_6))), (7, (Value.bool addr_7)), (8, (Value.bool port_8))]) = ref06_Walk_Clause.s72 Z Q w_0 had_1 had_1n had_1c t_4 t_5 c_6 addr_7 port_8 := by kernel_rfl
def ref06_Walk_Clause.j73 (Z : ZT) (Q : List Value → PT) : Fr → PT := (fun ρ => atP (ρ 0) fun w_0 => atL (ρ 1) fun had_1 had_1n had_1c => atA (ρ 4) fun t_4 => atA (ρ 5) fun t_5 => atA (ρ 6) fun c_6 => atB (ρ 7) fun addr_7 => atB (ρ 8) fun port_8 => (ref06_Walk_Clause.s72 Z Q w_0 had_1 had_1n had_1c t_4 t_5 c_6 addr_7 port_8))
theorem ref06_Walk_Clause.s72_ok (Z : ZT) (Q : List Value → PT) : Ok Tryd.prog Tryd.f74.ntmps Z ref06_Walk_Clause.c13 (ref06_Walk_Clause.q62 Z Q) (ref06_Walk_Clause.j73 Z Q) := by
  intro E he ρ w a hr h
  rw [ref06_Walk_Clause.q56] at he ⊢
  obtain ⟨w_0, e0, h⟩ := atP_e h
  obtain ⟨had_1, had_1n, had_1c, e1, h⟩ := atL_e h
  obtain ⟨t_4, e4, h⟩ := atA_e h
  obtain ⟨t_5, e5, h⟩ := atA_e h
  obtain ⟨c_6, e6, h⟩ := atA_e h
  obtain ⟨addr_7, e7, h⟩ := atB_e h
  obtain ⟨port_8, e8, h⟩ := atB_e h
  exact ok_at [(0, (Value.pointer w_0)), (1, (Value.slice had_1 had_1n had_1c)), (4, (Value.pointer (some t_4))), (5, (Value.pointer (some t_5))), (6, (Value.pointer (some c_6))), (7, (Value.bool addr_7)), (8, (Value.bool port_8))] (ok_seq (okC ref06_Walk_Clause.c54 _ (by kernel_rfl)) (ref06_Walk_Clause.o71 Z Q)) (puts_cons e0 (puts_cons e1 (puts_cons e4 (puts_cons e5 (puts_cons e6 (puts_cons e7 (puts_cons e8 (fun p hp => puts_nil hp)))))))) (ref06_Walk_Clause.s72_eq Z Q ρ w_0 had_1 had_1n had_1c t_4 t_5 c_6 addr_7 port_8) he hr h
theorem ref06_Walk_Clause.o74 (Z : ZT) (Q : List Value → PT) : Ok Tryd.prog Tryd.f74.ntmps Z ref06_Walk_Clause.c11 (ref06_Walk_Clause.q27 Z Q) (ref06_Walk_Clause.j73 Z Q) := by
  rw [ref06_Walk_Clause.q15]; exact ok_seq (ref06_Walk_Clause.s72_ok Z Q) (ref06_Walk_Clause.s52_ok Z Q)
def ref06_Walk_Clause.s75 (Z : ZT) (Q : List Value → PT) (w_0 : OA) (had_1 : OA) (had_1n had_1c : Nat) (t_4 : Addr) (t_5 : Addr) (c_6 : Addr) (addr_7 : Bool) (port_8 : Bool) : PT :=
  (pif (!addr_7) (pif (!port_8) (ldS (t_5.add 2) fun v135 => (pif (!(v135.toList == (⟨#[112, 114, 111, 116, 111]⟩ : ByteArray).toList)) (cal Tryd.prog Z 46 [(Value.pointer w_0), (Value.int .i64 8)] (isU (ref06_Walk_Clause.s72 Z Q w_0 had_1 had_1n had_1c t_4 t_5 c_6 addr_7 port_8))) (ref06_Walk_Clause.s72 Z Q w_0 had_1 had_1n had_1c t_4 t_5 c_6 addr_7 port_8))) (ref06_Walk_Clause.s72 Z Q w_0 had_1 had_1n had_1c t_4 t_5 c_6 addr_7 port_8)) (ref06_Walk_Clause.s72 Z Q w_0 had_1 had_1n had_1c t_4 t_5 c_6 addr_7 port_8))
theorem ref06_Walk_Clause.s75_eq (Z : ZT) (Q : List Value → PT) (ρ : Fr) (w_0 : OA) (had_1 : OA) (had_1n had_1c : Nat) (t_4 : Addr) (t_5 : Addr) (c_6 : Addr) (addr_7 : Bool) (port_8 : Bool) : (comp Tryd.prog Z ref06_Walk_Clause.c10 (thenK (ref06_Walk_Clause.j73 Z Q) (ref06_Walk_Clause.q27 Z Q))) (puts ρ [(0, (Value.pointer w_0)), (1, (Value.slice had_1 had_1n had_1c)), (4, (Value.pointer (some t_4))), (5, (Value.pointer (some t_5))), (6, (Value.pointer (some c_6))), (7, (Value.bool addr_7)), (8, (Value.bool port_8))]) = ref06_Walk_Clause.s75 Z Q w_0 had_1 had_1n had_1c t_4 t_5 c_6 addr_7 port_8 := by kernel_rfl
def ref06_Walk_Clause.j76 (Z : ZT) (Q : List Value → PT) : Fr → PT := (fun ρ => atP (ρ 0) fun w_0 => atL (ρ 1) fun had_1 had_1n had_1c => atA (ρ 4) fun t_4 => atA (ρ 5) fun t_5 => atA (ρ 6) fun c_6 => atB (ρ 7) fun addr_7 => atB (ρ 8) fun port_8 => (ref06_Walk_Clause.s75 Z Q w_0 had_1 had_1n had_1c t_4 t_5 c_6 addr_7 port_8))
theorem ref06_Walk_Clause.s75_ok (Z : ZT) (Q : List Value → PT) : Ok Tryd.prog Tryd.f74.ntmps Z ref06_Walk_Clause.c8 (ref06_Walk_Clause.q27 Z Q) (ref06_Walk_Clause.j76 Z Q) := by
  intro E he ρ w a hr h
  rw [ref06_Walk_Clause.q12] at he ⊢
  obtain ⟨w_0, e0, h⟩ := atP_e h
  obtain ⟨had_1, had_1n, had_1c, e1, h⟩ := atL_e h
  obtain ⟨t_4, e4, h⟩ := atA_e h
  obtain ⟨t_5, e5, h⟩ := atA_e h
  obtain ⟨c_6, e6, h⟩ := atA_e h
  obtain ⟨addr_7, e7, h⟩ := atB_e h
  obtain ⟨port_8, e8, h⟩ := atB_e h
  exact ok_at [(0, (Value.pointer w_0)), (1, (Value.slice had_1 had_1n had_1c)), (4, (Value.pointer (some t_4))), (5, (Value.pointer (some t_5))), (6, (Value.pointer (some c_6))), (7, (Value.bool addr_7)), (8, (Value.bool port_8))] (ok_seq (okC ref06_Walk_Clause.c10 _ (by kernel_rfl)) (ref06_Walk_Clause.o74 Z Q)) (puts_cons e0 (puts_cons e1 (puts_cons e4 (puts_cons e5 (puts_cons e6 (puts_cons e7 (puts_cons e8 (fun p hp => puts_nil hp)))))))) (ref06_Walk_Clause.s75_eq Z Q ρ w_0 had_1 had_1n had_1c t_4 t_5 c_6 addr_7 port_8) he hr h
def ref06_Walk_Clause.s77 (Z : ZT) (Q : List Value → PT) (w_0 : OA) (had_1 : OA) (had_1n had_1c : Nat) (t_4 : Addr) (t_5 : Addr) (c_6 : Addr) (addr_7 : Bool) : PT :=
  (ldS (t_5.add 2) fun v136 => (pif (v136.toList == (⟨#[115, 112, 111, 114, 116]⟩ : ByteArray).toList) (ref06_Walk_Clause.s75 Z Q w_0 had_1 had_1n had_1c t_4 t_5 c_6 addr_7 true) (ldS (t_5.add 2) fun v137 => (ref06_Walk_Clause.s75 Z Q w_0 had_1 had_1n had_1c t_4 t_5 c_6 addr_7 (v137.toList == (⟨#[100, 112, 111, 114, 116]⟩ : ByteArray).toList)))))
theorem ref06_Walk_Clause.s77_eq (Z : ZT) (Q : List Value → PT) (ρ : Fr) (w_0 : OA) (had_1 : OA) (had_1n had_1c : Nat) (t_4 : Addr) (t_5 : Addr) (c_6 : Addr) (addr_7 : Bool) : (comp Tryd.prog Z ref06_Walk_Clause.c7 (thenK (ref06_Walk_Clause.j76 Z Q) (ref06_Walk_Clause.q27 Z Q))) (puts ρ [(0, (Value.pointer w_0)), (1, (Value.slice had_1 had_1n had_1c)), (4, (Value.pointer (some t_4))), (5, (Value.pointer (some t_5))), (6, (Value.pointer (some c_6))), (7, (Value.bool addr_7))]) = ref06_Walk_Clause.s77 Z Q w_0 had_1 had_1n had_1c t_4 t_5 c_6 addr_7 := by kernel_rfl
def ref06_Walk_Clause.j78 (Z : ZT) (Q : List Value → PT) : Fr → PT := (fun ρ => atP (ρ 0) fun w_0 => atL (ρ 1) fun had_1 had_1n had_1c => atA (ρ 4) fun t_4 => atA (ρ 5) fun t_5 => atA (ρ 6) fun c_6 => atB (ρ 7) fun addr_7 => (ref06_Walk_Clause.s77 Z Q w_0 had_1 had_1n had_1c t_4 t_5 c_6 addr_7))
theorem ref06_Walk_Clause.s77_ok (Z : ZT) (Q : List Value → PT) : Ok Tryd.prog Tryd.f74.ntmps Z ref06_Walk_Clause.c5 (ref06_Walk_Clause.q27 Z Q) (ref06_Walk_Clause.j78 Z Q) := by
  intro E he ρ w a hr h
  rw [ref06_Walk_Clause.q9] at he ⊢
  obtain ⟨w_0, e0, h⟩ := atP_e h
  obtain ⟨had_1, had_1n, had_1c, e1, h⟩ := atL_e h
  obtain ⟨t_4, e4, h⟩ := atA_e h
  obtain ⟨t_5, e5, h⟩ := atA_e h
  obtain ⟨c_6, e6, h⟩ := atA_e h
  obtain ⟨addr_7, e7, h⟩ := atB_e h
  exact ok_at [(0, (Value.pointer w_0)), (1, (Value.slice had_1 had_1n had_1c)), (4, (Value.pointer (some t_4))), (5, (Value.pointer (some t_5))), (6, (Value.pointer (some c_6))), (7, (Value.bool addr_7))] (ok_seq (okC ref06_Walk_Clause.c7 _ (by kernel_rfl)) (ref06_Walk_Clause.s75_ok Z Q)) (puts_cons e0 (puts_cons e1 (puts_cons e4 (puts_cons e5 (puts_cons e6 (puts_cons e7 (fun p hp => puts_nil hp))))))) (ref06_Walk_Clause.s77_eq Z Q ρ w_0 had_1 had_1n had_1c t_4 t_5 c_6 addr_7) he hr h
def ref06_Walk_Clause.s79 (Z : ZT) (Q : List Value → PT) (w_0 : OA) (had_1 : OA) (had_1n had_1c : Nat) : PT :=
  (newC 55 [(Value.string ⟨#[]⟩), (Value.int .i64 0), (Value.slice none 0 0), (Value.bool false), (Value.bool false)] fun v138 => (cal Tryd.prog Z 71 [(Value.pointer w_0)] (isN fun v139 => (newC 79 [(Value.int .i64 0), (Value.int .i64 0), (Value.string ⟨#[]⟩), (Value.int .i64 0)] fun t140 => (stN 4 t140 v139 (ldS (t140.add 2) fun v141 => (ldI .i64 (t140.add 1) fun v142 => (newC 55 [(Value.string ⟨#[]⟩), (Value.int .i64 0), (Value.slice none 0 0), (Value.bool false), (Value.bool false)] fun c143 => (stN 5 c143 [(Value.string v141), (Value.int .i64 v142), (Value.slice none 0 0), (Value.bool false), (Value.bool false)] (ldS (t140.add 2) fun v144 => (pif (v144.toList == (⟨#[115, 114, 99]⟩ : ByteArray).toList) (ref06_Walk_Clause.s77 Z Q w_0 had_1 had_1n had_1c v138 t140 c143 true) (ldS (t140.add 2) fun v145 => (ref06_Walk_Clause.s77 Z Q w_0 had_1 had_1n had_1c v138 t140 c143 (v145.toList == (⟨#[100, 115, 116]⟩ : ByteArray).toList))))))))))))))
theorem ref06_Walk_Clause.s79_eq (Z : ZT) (Q : List Value → PT) (ρ : Fr) (w_0 : OA) (had_1 : OA) (had_1n had_1c : Nat) : (comp Tryd.prog Z ref06_Walk_Clause.c1 (thenK (comp Tryd.prog Z ref06_Walk_Clause.c2 (thenK (comp Tryd.prog Z ref06_Walk_Clause.c3 (thenK (comp Tryd.prog Z ref06_Walk_Clause.c4 (thenK (ref06_Walk_Clause.j78 Z Q) (ref06_Walk_Clause.q27 Z Q))) (ref06_Walk_Clause.q27 Z Q))) (ref06_Walk_Clause.q27 Z Q))) (ref06_Walk_Clause.q27 Z Q))) (puts ρ [(0, (Value.pointer w_0)), (1, (Value.slice had_1 had_1n had_1c))]) = ref06_Walk_Clause.s79 Z Q w_0 had_1 had_1n had_1c := by kernel_rfl
def ref06_Walk_Clause.j80 (Z : ZT) (Q : List Value → PT) : Fr → PT := (fun ρ => atP (ρ 0) fun w_0 => atL (ρ 1) fun had_1 had_1n had_1c => (ref06_Walk_Clause.s79 Z Q w_0 had_1 had_1n had_1c))
theorem ref06_Walk_Clause.s79_ok (Z : ZT) (Q : List Value → PT) : Ok Tryd.prog Tryd.f74.ntmps Z ref06_Walk_Clause.body (ref06_Walk_Clause.q27 Z Q) (ref06_Walk_Clause.j80 Z Q) := by
  intro E he ρ w a hr h
  rw [ref06_Walk_Clause.q6] at he ⊢
  obtain ⟨w_0, e0, h⟩ := atP_e h
  obtain ⟨had_1, had_1n, had_1c, e1, h⟩ := atL_e h
  exact ok_at [(0, (Value.pointer w_0)), (1, (Value.slice had_1 had_1n had_1c))] (ok_seq (okC ref06_Walk_Clause.c1 _ (by kernel_rfl)) (ok_seq (okC ref06_Walk_Clause.c2 _ (by kernel_rfl)) (ok_seq (okC ref06_Walk_Clause.c3 _ (by kernel_rfl)) (ok_seq (okC ref06_Walk_Clause.c4 _ (by kernel_rfl)) (ref06_Walk_Clause.s77_ok Z Q))))) (puts_cons e0 (puts_cons e1 (fun p hp => puts_nil hp))) (ref06_Walk_Clause.s79_eq Z Q ρ w_0 had_1 had_1n had_1c) he hr h
def ref06_Walk_Clause.F (Z : ZT) (Q : List Value → PT) (w_0 : OA) (had_1 : OA) (had_1n had_1c : Nat) : PT :=
  (ref06_Walk_Clause.s79 Z Q w_0 had_1 had_1n had_1c)
theorem ref06_Walk_Clause.vc (Z : ZT) (Q : List Value → PT) (w_0 : OA) (had_1 : OA) (had_1n had_1c : Nat) (w : World) (h : ref06_Walk_Clause.F Z Q w_0 had_1 had_1n had_1c w) : Calls Tryd.prog 74 ⟨[(Value.pointer w_0), (Value.slice had_1 had_1n had_1c)]⟩ w fun e w' => (∃ (r0 : List Value), e = .returned (.agg ⟨r0⟩) ∧ Q r0 w') ∨ ∃ c, e = .panicked c ∧ Z c w' := by
  refine (calls_of_ok (args := [(Value.pointer w_0), (Value.slice had_1 had_1n had_1c)]) (w := w) (rs := [.cell 4 55]) (fn := Tryd.f74) (c := ref06_Walk_Clause.body) Tryd.func74 (by kernel_rfl) (by kernel_rfl) (Nat.le_of_ble_eq_true (by kernel_rfl)) (ref06_Walk_Clause.s79_ok Z Q) (h)).mono fun e w' hR => ?_
  cases e with
  | returned v =>
    obtain ⟨va, rfl, hR⟩ := atN_e hR
    exact .inl ⟨va, rfl, hR⟩
  | panicked c => exact .inr ⟨c, rfl, hR⟩
  | outgrown => exact hR.elim
theorem ref06_Walk_Clause.vc0 (Q : List Value → PT) (w_0 : OA) (had_1 : OA) (had_1n had_1c : Nat) (w : World) (h : ref06_Walk_Clause.F Z0 Q w_0 had_1 had_1n had_1c w) : Calls Tryd.prog 74 ⟨[(Value.pointer w_0), (Value.slice had_1 had_1n had_1c)]⟩ w fun e w' => (∃ (r0 : List Value), e = .returned (.agg ⟨r0⟩) ∧ Q r0 w') :=
  (ref06_Walk_Clause.vc Z0 Q w_0 had_1 had_1n had_1c w h).mono fun _ _ hR => hR.elim id fun ⟨_, _, hz⟩ => hz.elim
theorem ref06_Walk_Clause.cal {Z : ZT} {Q : List Value → PT} {w_0 : OA} {had_1 : OA} {had_1n had_1c : Nat} {w : World} (h : ref06_Walk_Clause.F Z Q w_0 had_1 had_1n had_1c w) : Go.Proofs.YtllgjjldnnmjkaaDoor.cal Tryd.prog Z 74 [(Value.pointer w_0), (Value.slice had_1 had_1n had_1c)] (isN fun r0 => Q r0) w := by
  refine (ref06_Walk_Clause.vc Z Q w_0 had_1 had_1n had_1c w h).mono fun e w' hR => ?_
  rcases hR with ⟨r0, rfl, h⟩ | ⟨c, rfl, h⟩
  · show (isN fun r0 => Q r0) (.agg ⟨r0⟩) w'
    exact ⟨_, rfl, h⟩
  · exact h

/-! ### (*milepost/milepostref06.Walk).Row: function 47 -/
noncomputable def ref06_Walk_Row.body : Code := bodyC Tryd.f47
noncomputable def ref06_Walk_Row.c1 : Code := sq1 ref06_Walk_Row.body
noncomputable def ref06_Walk_Row.c2 : Code := sq1 (sq2 ref06_Walk_Row.body)
noncomputable def ref06_Walk_Row.c3 : Code := sq2 (sq2 ref06_Walk_Row.body)
theorem ref06_Walk_Row.q4 : ref06_Walk_Row.body = .seq ref06_Walk_Row.c1 (.seq ref06_Walk_Row.c2 ref06_Walk_Row.c3) := by kernel_rfl
noncomputable def ref06_Walk_Row.c5 : Code := sq1 ref06_Walk_Row.c3
noncomputable def ref06_Walk_Row.c6 : Code := sq2 ref06_Walk_Row.c3
theorem ref06_Walk_Row.q7 : ref06_Walk_Row.c3 = .seq ref06_Walk_Row.c5 ref06_Walk_Row.c6 := by kernel_rfl
noncomputable def ref06_Walk_Row.c8 : Code := sq1 ref06_Walk_Row.c6
noncomputable def ref06_Walk_Row.c9 : Code := sq2 ref06_Walk_Row.c6
theorem ref06_Walk_Row.q10 : ref06_Walk_Row.c6 = .seq ref06_Walk_Row.c8 ref06_Walk_Row.c9 := by kernel_rfl
noncomputable def ref06_Walk_Row.c11 : Code := sq1 ref06_Walk_Row.c9
noncomputable def ref06_Walk_Row.c12 : Code := sq2 ref06_Walk_Row.c9
theorem ref06_Walk_Row.q13 : ref06_Walk_Row.c9 = .seq ref06_Walk_Row.c11 ref06_Walk_Row.c12 := by kernel_rfl
def ref06_Walk_Row.s14 (Z : ZT) (Q : List Value → PT) (w_0 : OA) (t_2 : Addr) (x_3 : Addr) : PT :=
  (drew0 (nn w_0 fun v40 => (ldI .i64 (v40.add 1) fun v41 => (nn w_0 fun v42 => (ldL (v42.add 0) fun v43 v43n v43c => (pif (decide (v41 < ((v43n : Nat) : Int))) (nn w_0 fun v44 => (ldL (v44.add 0) fun v45 v45n v45c => (nn w_0 fun v46 => (ldI .i64 (v46.add 1) fun v47 => (ixS v45 v45n v47 4 fun v48 => (ldI .i64 (v48.add 0) fun v49 => (pif (v49 != 7) (cal Tryd.prog Z 46 [(Value.pointer w_0), (Value.int .i64 8)] (isU (ldN 8 x_3 fun v50 => (stN 8 t_2 v50 (ldN 8 t_2 fun v51 => (Q v51)))))) (ldN 8 x_3 fun v52 => (stN 8 t_2 v52 (ldN 8 t_2 fun v53 => (Q v53))))))))))) (ldN 8 x_3 fun v54 => (stN 8 t_2 v54 (ldN 8 t_2 fun v55 => (Q v55))))))))))
def ref06_Walk_Row.q15 (Z : ZT) (Q : List Value → PT) : QF := bodyQ Tryd.prog [.cell 2 52] (fun v => atN v fun va => Q va)
theorem ref06_Walk_Row.s14_eq (Z : ZT) (Q : List Value → PT) (ρ : Fr) (w_0 : OA) (t_2 : Addr) (x_3 : Addr) : comp Tryd.prog Z ref06_Walk_Row.c12 (ref06_Walk_Row.q15 Z Q) (puts ρ [(0, (Value.pointer w_0)), (2, (Value.pointer (some t_2))), (3, (Value.pointer (some x_3)))]) = ref06_Walk_Row.s14 Z Q w_0 t_2 x_3 := by kernel_rfl
def ref06_Walk_Row.j16 (Z : ZT) (Q : List Value → PT) : Fr → PT := (fun ρ => atP (ρ 0) fun w_0 => atA (ρ 2) fun t_2 => atA (ρ 3) fun x_3 => (ref06_Walk_Row.s14 Z Q w_0 t_2 x_3))
theorem ref06_Walk_Row.s14_ok (Z : ZT) (Q : List Value → PT) : Ok Tryd.prog Tryd.f47.ntmps Z ref06_Walk_Row.c12 (ref06_Walk_Row.q15 Z Q) (ref06_Walk_Row.j16 Z Q) := by
  intro E he ρ w a hr h
  obtain ⟨w_0, e0, h⟩ := atP_e h
  obtain ⟨t_2, e2, h⟩ := atA_e h
  obtain ⟨x_3, e3, h⟩ := atA_e h
  exact ok_at [(0, (Value.pointer w_0)), (2, (Value.pointer (some t_2))), (3, (Value.pointer (some x_3)))] (okC ref06_Walk_Row.c12 (ref06_Walk_Row.q15 Z Q) (by kernel_rfl)) (puts_cons e0 (puts_cons e2 (puts_cons e3 (fun p hp => puts_nil hp)))) (ref06_Walk_Row.s14_eq Z Q ρ w_0 t_2 x_3) he hr h
noncomputable def ref06_Walk_Row.c17 : Code := sq1 ref06_Walk_Row.c11
noncomputable def ref06_Walk_Row.c18 : Code := sq2 ref06_Walk_Row.c11
theorem ref06_Walk_Row.q19 : ref06_Walk_Row.c11 = .seq ref06_Walk_Row.c17 ref06_Walk_Row.c18 := by kernel_rfl
noncomputable def ref06_Walk_Row.c20 : Code := cn1 ref06_Walk_Row.c18
noncomputable def ref06_Walk_Row.c21 : Code := cn2 ref06_Walk_Row.c18
theorem ref06_Walk_Row.q22 : ref06_Walk_Row.c18 = .cond (.tmp 45) ref06_Walk_Row.c20 ref06_Walk_Row.c21 := by kernel_rfl
def ref06_Walk_Row.s23 (Z : ZT) (Q : List Value → PT) (w_0 : OA) (t_2 : Addr) (x_3 : Addr) : PT :=
  (st1 (x_3.add 5) (Value.bool true) (nn w_0 fun v62 => (ldI .i64 (v62.add 1) fun v63 => (nn w_0 fun v64 => (st1 (v64.add 1) (Value.int .i64 (IntKind.wrap .i64 (v63 + 1))) (ref06_Walk_Row.s14 Z Q w_0 t_2 x_3))))))
def ref06_Walk_Row.q24 (Z : ZT) (Q : List Value → PT) : QF := thenK (ref06_Walk_Row.j16 Z Q) (ref06_Walk_Row.q15 Z Q)
theorem ref06_Walk_Row.s23_eq (Z : ZT) (Q : List Value → PT) (ρ : Fr) (w_0 : OA) (t_2 : Addr) (x_3 : Addr) : comp Tryd.prog Z ref06_Walk_Row.c20 (ref06_Walk_Row.q24 Z Q) (puts ρ [(0, (Value.pointer w_0)), (2, (Value.pointer (some t_2))), (3, (Value.pointer (some x_3)))]) = ref06_Walk_Row.s23 Z Q w_0 t_2 x_3 := by kernel_rfl
def ref06_Walk_Row.j25 (Z : ZT) (Q : List Value → PT) : Fr → PT := (fun ρ => atP (ρ 0) fun w_0 => atA (ρ 2) fun t_2 => atA (ρ 3) fun x_3 => (ref06_Walk_Row.s23 Z Q w_0 t_2 x_3))
theorem ref06_Walk_Row.s23_ok (Z : ZT) (Q : List Value → PT) : Ok Tryd.prog Tryd.f47.ntmps Z ref06_Walk_Row.c20 (ref06_Walk_Row.q24 Z Q) (ref06_Walk_Row.j25 Z Q) := by
  intro E he ρ w a hr h
  obtain ⟨w_0, e0, h⟩ := atP_e h
  obtain ⟨t_2, e2, h⟩ := atA_e h
  obtain ⟨x_3, e3, h⟩ := atA_e h
  exact ok_at [(0, (Value.pointer w_0)), (2, (Value.pointer (some t_2))), (3, (Value.pointer (some x_3)))] (okC ref06_Walk_Row.c20 (ref06_Walk_Row.q24 Z Q) (by kernel_rfl)) (puts_cons e0 (puts_cons e2 (puts_cons e3 (fun p hp => puts_nil hp)))) (ref06_Walk_Row.s23_eq Z Q ρ w_0 t_2 x_3) he hr h
noncomputable def ref06_Walk_Row.c26 : Code := sq1 ref06_Walk_Row.c21
noncomputable def ref06_Walk_Row.c27 : Code := sq2 ref06_Walk_Row.c21
theorem ref06_Walk_Row.q28 : ref06_Walk_Row.c21 = .seq ref06_Walk_Row.c26 ref06_Walk_Row.c27 := by kernel_rfl
def ref06_Walk_Row.s29 (Z : ZT) (Q : List Value → PT) (w_0 : OA) (t_2 : Addr) (x_3 : Addr) : PT :=
  (nn w_0 fun v72 => (ldI .i64 (v72.add 1) fun v73 => (nn w_0 fun v74 => (st1 (v74.add 1) (Value.int .i64 (IntKind.wrap .i64 (v73 + 1))) (cal Tryd.prog Z 73 [(Value.pointer w_0)] (isN fun v75 => (stN 2 (x_3.add 6) v75 (ref06_Walk_Row.s14 Z Q w_0 t_2 x_3))))))))
theorem ref06_Walk_Row.s29_eq (Z : ZT) (Q : List Value → PT) (ρ : Fr) (w_0 : OA) (t_2 : Addr) (x_3 : Addr) : comp Tryd.prog Z ref06_Walk_Row.c27 (ref06_Walk_Row.q24 Z Q) (puts ρ [(0, (Value.pointer w_0)), (2, (Value.pointer (some t_2))), (3, (Value.pointer (some x_3)))]) = ref06_Walk_Row.s29 Z Q w_0 t_2 x_3 := by kernel_rfl
def ref06_Walk_Row.j30 (Z : ZT) (Q : List Value → PT) : Fr → PT := (fun ρ => atP (ρ 0) fun w_0 => atA (ρ 2) fun t_2 => atA (ρ 3) fun x_3 => (ref06_Walk_Row.s29 Z Q w_0 t_2 x_3))
theorem ref06_Walk_Row.s29_ok (Z : ZT) (Q : List Value → PT) : Ok Tryd.prog Tryd.f47.ntmps Z ref06_Walk_Row.c27 (ref06_Walk_Row.q24 Z Q) (ref06_Walk_Row.j30 Z Q) := by
  intro E he ρ w a hr h
  obtain ⟨w_0, e0, h⟩ := atP_e h
  obtain ⟨t_2, e2, h⟩ := atA_e h
  obtain ⟨x_3, e3, h⟩ := atA_e h
  exact ok_at [(0, (Value.pointer w_0)), (2, (Value.pointer (some t_2))), (3, (Value.pointer (some x_3)))] (okC ref06_Walk_Row.c27 (ref06_Walk_Row.q24 Z Q) (by kernel_rfl)) (puts_cons e0 (puts_cons e2 (puts_cons e3 (fun p hp => puts_nil hp)))) (ref06_Walk_Row.s29_eq Z Q ρ w_0 t_2 x_3) he hr h
def ref06_Walk_Row.s31 (Z : ZT) (Q : List Value → PT) (w_0 : OA) (t_2 : Addr) (x_3 : Addr) : PT :=
  (cal Tryd.prog Z 72 [(Value.pointer w_0), (Value.string ⟨#[112, 111, 114, 116]⟩)] (isB fun v76 => (pif (!v76) (cal Tryd.prog Z 46 [(Value.pointer w_0), (Value.int .i64 8)] (isU (ref06_Walk_Row.s29 Z Q w_0 t_2 x_3))) (ref06_Walk_Row.s29 Z Q w_0 t_2 x_3))))
theorem ref06_Walk_Row.s31_eq (Z : ZT) (Q : List Value → PT) (ρ : Fr) (w_0 : OA) (t_2 : Addr) (x_3 : Addr) : (comp Tryd.prog Z ref06_Walk_Row.c26 (thenK (ref06_Walk_Row.j30 Z Q) (ref06_Walk_Row.q24 Z Q))) (puts ρ [(0, (Value.pointer w_0)), (2, (Value.pointer (some t_2))), (3, (Value.pointer (some x_3)))]) = ref06_Walk_Row.s31 Z Q w_0 t_2 x_3 := by kernel_rfl
def ref06_Walk_Row.j32 (Z : ZT) (Q : List Value → PT) : Fr → PT := (fun ρ => atP (ρ 0) fun w_0 => atA (ρ 2) fun t_2 => atA (ρ 3) fun x_3 => (ref06_Walk_Row.s31 Z Q w_0 t_2 x_3))
theorem ref06_Walk_Row.s31_ok (Z : ZT) (Q : List Value → PT) : Ok Tryd.prog Tryd.f47.ntmps Z ref06_Walk_Row.c21 (ref06_Walk_Row.q24 Z Q) (ref06_Walk_Row.j32 Z Q) := by
  intro E he ρ w a hr h
  rw [ref06_Walk_Row.q28] at he ⊢
  obtain ⟨w_0, e0, h⟩ := atP_e h
  obtain ⟨t_2, e2, h⟩ := atA_e h
  obtain ⟨x_3, e3, h⟩ := atA_e h
  exact ok_at [(0, (Value.pointer w_0)), (2, (Value.pointer (some t_2))), (3, (Value.pointer (some x_3)))] (ok_seq (okC ref06_Walk_Row.c26 _ (by kernel_rfl)) (ref06_Walk_Row.s29_ok Z Q)) (puts_cons e0 (puts_cons e2 (puts_cons e3 (fun p hp => puts_nil hp)))) (ref06_Walk_Row.s31_eq Z Q ρ w_0 t_2 x_3) he hr h
theorem ref06_Walk_Row.o33 (Z : ZT) (Q : List Value → PT) : Ok Tryd.prog Tryd.f47.ntmps Z ref06_Walk_Row.c18 (ref06_Walk_Row.q24 Z Q) (condJ (.tmp 45) (ref06_Walk_Row.j25 Z Q) (ref06_Walk_Row.j32 Z Q)) := by
  rw [ref06_Walk_Row.q22]; exact ok_cond (ref06_Walk_Row.s23_ok Z Q) (ref06_Walk_Row.s31_ok Z Q)
def ref06_Walk_Row.s34 (Z : ZT) (Q : List Value → PT) (w_0 : OA) (t_2 : Addr) (x_3 : Addr) : PT :=
  (cal Tryd.prog Z 72 [(Value.pointer w_0), (Value.string ⟨#[100, 114, 111, 112]⟩)] (isB fun v77 => (pif v77 (ref06_Walk_Row.s23 Z Q w_0 t_2 x_3) (ref06_Walk_Row.s31 Z Q w_0 t_2 x_3))))
theorem ref06_Walk_Row.s34_eq (Z : ZT) (Q : List Value → PT) (ρ : Fr) (w_0 : OA) (t_2 : Addr) (x_3 : Addr) : (comp Tryd.prog Z ref06_Walk_Row.c17 (thenK (condJ (.tmp 45) (ref06_Walk_Row.j25 Z Q) (ref06_Walk_Row.j32 Z Q)) (ref06_Walk_Row.q24 Z Q))) (puts ρ [(0, (Value.pointer w_0)), (2, (Value.pointer (some t_2))), (3, (Value.pointer (some x_3)))]) = ref06_Walk_Row.s34 Z Q w_0 t_2 x_3 := by kernel_rfl
def ref06_Walk_Row.j35 (Z : ZT) (Q : List Value → PT) : Fr → PT := (fun ρ => atP (ρ 0) fun w_0 => atA (ρ 2) fun t_2 => atA (ρ 3) fun x_3 => (ref06_Walk_Row.s34 Z Q w_0 t_2 x_3))
theorem ref06_Walk_Row.s34_ok (Z : ZT) (Q : List Value → PT) : Ok Tryd.prog Tryd.f47.ntmps Z ref06_Walk_Row.c11 (ref06_Walk_Row.q24 Z Q) (ref06_Walk_Row.j35 Z Q) := by
  intro E he ρ w a hr h
  rw [ref06_Walk_Row.q19] at he ⊢
  obtain ⟨w_0, e0, h⟩ := atP_e h
  obtain ⟨t_2, e2, h⟩ := atA_e h
  obtain ⟨x_3, e3, h⟩ := atA_e h
  exact ok_at [(0, (Value.pointer w_0)), (2, (Value.pointer (some t_2))), (3, (Value.pointer (some x_3)))] (ok_seq (okC ref06_Walk_Row.c17 _ (by kernel_rfl)) (ref06_Walk_Row.o33 Z Q)) (puts_cons e0 (puts_cons e2 (puts_cons e3 (fun p hp => puts_nil hp)))) (ref06_Walk_Row.s34_eq Z Q ρ w_0 t_2 x_3) he hr h
theorem ref06_Walk_Row.o36 (Z : ZT) (Q : List Value → PT) : Ok Tryd.prog Tryd.f47.ntmps Z ref06_Walk_Row.c9 (ref06_Walk_Row.q15 Z Q) (ref06_Walk_Row.j35 Z Q) := by
  rw [ref06_Walk_Row.q13]; exact ok_seq (ref06_Walk_Row.s34_ok Z Q) (ref06_Walk_Row.s14_ok Z Q)
def ref06_Walk_Row.s37 (Z : ZT) (Q : List Value → PT) (w_0 : OA) (t_2 : Addr) (x_3 : Addr) : PT :=
  (cal Tryd.prog Z 75 [(Value.pointer w_0), (Value.int .i64 6)] (isN fun v78 => (ref06_Walk_Row.s34 Z Q w_0 t_2 x_3)))
theorem ref06_Walk_Row.s37_eq (Z : ZT) (Q : List Value → PT) (ρ : Fr) (w_0 : OA) (t_2 : Addr) (x_3 : Addr) : (comp Tryd.prog Z ref06_Walk_Row.c8 (thenK (ref06_Walk_Row.j35 Z Q) (ref06_Walk_Row.q15 Z Q))) (puts ρ [(0, (Value.pointer w_0)), (2, (Value.pointer (some t_2))), (3, (Value.pointer (some x_3)))]) = ref06_Walk_Row.s37 Z Q w_0 t_2 x_3 := by kernel_rfl
def ref06_Walk_Row.j38 (Z : ZT) (Q : List Value → PT) : Fr → PT := (fun ρ => atP (ρ 0) fun w_0 => atA (ρ 2) fun t_2 => atA (ρ 3) fun x_3 => (ref06_Walk_Row.s37 Z Q w_0 t_2 x_3))
theorem ref06_Walk_Row.s37_ok (Z : ZT) (Q : List Value → PT) : Ok Tryd.prog Tryd.f47.ntmps Z ref06_Walk_Row.c6 (ref06_Walk_Row.q15 Z Q) (ref06_Walk_Row.j38 Z Q) := by
  intro E he ρ w a hr h
  rw [ref06_Walk_Row.q10] at he ⊢
  obtain ⟨w_0, e0, h⟩ := atP_e h
  obtain ⟨t_2, e2, h⟩ := atA_e h
  obtain ⟨x_3, e3, h⟩ := atA_e h
  exact ok_at [(0, (Value.pointer w_0)), (2, (Value.pointer (some t_2))), (3, (Value.pointer (some x_3)))] (ok_seq (okC ref06_Walk_Row.c8 _ (by kernel_rfl)) (ref06_Walk_Row.o36 Z Q)) (puts_cons e0 (puts_cons e2 (puts_cons e3 (fun p hp => puts_nil hp)))) (ref06_Walk_Row.s37_eq Z Q ρ w_0 t_2 x_3) he hr h
noncomputable def ref06_Walk_Row.c39 : Code := sq1 ref06_Walk_Row.c5
noncomputable def ref06_Walk_Row.c40 : Code := sq2 ref06_Walk_Row.c5
theorem ref06_Walk_Row.q41 : ref06_Walk_Row.c5 = .seq ref06_Walk_Row.c39 ref06_Walk_Row.c40 := by kernel_rfl
noncomputable def ref06_Walk_Row.c42 : Code := cn1 ref06_Walk_Row.c40
noncomputable def ref06_Walk_Row.c43 : Code := cn2 ref06_Walk_Row.c40
theorem ref06_Walk_Row.q44 : ref06_Walk_Row.c40 = .cond (.tmp 9) ref06_Walk_Row.c42 ref06_Walk_Row.c43 := by kernel_rfl
def ref06_Walk_Row.s45 (Z : ZT) (Q : List Value → PT) (w_0 : OA) (t_2 : Addr) (x_3 : Addr) : PT :=
  (st1 (x_3.add 1) (Value.bool true) (nn w_0 fun v80 => (ldI .i64 (v80.add 1) fun v81 => (nn w_0 fun v82 => (st1 (v82.add 1) (Value.int .i64 (IntKind.wrap .i64 (v81 + 1))) (ref06_Walk_Row.s37 Z Q w_0 t_2 x_3))))))
def ref06_Walk_Row.q46 (Z : ZT) (Q : List Value → PT) : QF := thenK (ref06_Walk_Row.j38 Z Q) (ref06_Walk_Row.q15 Z Q)
theorem ref06_Walk_Row.s45_eq (Z : ZT) (Q : List Value → PT) (ρ : Fr) (w_0 : OA) (t_2 : Addr) (x_3 : Addr) : comp Tryd.prog Z ref06_Walk_Row.c42 (ref06_Walk_Row.q46 Z Q) (puts ρ [(0, (Value.pointer w_0)), (2, (Value.pointer (some t_2))), (3, (Value.pointer (some x_3)))]) = ref06_Walk_Row.s45 Z Q w_0 t_2 x_3 := by kernel_rfl
def ref06_Walk_Row.j47 (Z : ZT) (Q : List Value → PT) : Fr → PT := (fun ρ => atP (ρ 0) fun w_0 => atA (ρ 2) fun t_2 => atA (ρ 3) fun x_3 => (ref06_Walk_Row.s45 Z Q w_0 t_2 x_3))
theorem ref06_Walk_Row.s45_ok (Z : ZT) (Q : List Value → PT) : Ok Tryd.prog Tryd.f47.ntmps Z ref06_Walk_Row.c42 (ref06_Walk_Row.q46 Z Q) (ref06_Walk_Row.j47 Z Q) := by
  intro E he ρ w a hr h
  obtain ⟨w_0, e0, h⟩ := atP_e h
  obtain ⟨t_2, e2, h⟩ := atA_e h
  obtain ⟨x_3, e3, h⟩ := atA_e h
  exact ok_at [(0, (Value.pointer w_0)), (2, (Value.pointer (some t_2))), (3, (Value.pointer (some x_3)))] (okC ref06_Walk_Row.c42 (ref06_Walk_Row.q46 Z Q) (by kernel_rfl)) (puts_cons e0 (puts_cons e2 (puts_cons e3 (fun p hp => puts_nil hp)))) (ref06_Walk_Row.s45_eq Z Q ρ w_0 t_2 x_3) he hr h
noncomputable def ref06_Walk_Row.c48 : Code := sq1 ref06_Walk_Row.c43
noncomputable def ref06_Walk_Row.c49 : Code := sq2 ref06_Walk_Row.c43
theorem ref06_Walk_Row.q50 : ref06_Walk_Row.c43 = .seq ref06_Walk_Row.c48 ref06_Walk_Row.c49 := by kernel_rfl
noncomputable def ref06_Walk_Row.c51 : Code := blk ref06_Walk_Row.c49
theorem ref06_Walk_Row.q52 : ref06_Walk_Row.c49 = .block 0 ref06_Walk_Row.c51 := by kernel_rfl
noncomputable def ref06_Walk_Row.c53 : Code := lop ref06_Walk_Row.c51
theorem ref06_Walk_Row.q54 : ref06_Walk_Row.c51 = .loop ref06_Walk_Row.c53 := by kernel_rfl
def ref06_Walk_Row.q56 (Z : ZT) (Q : List Value → PT) : QF := inBl 0 (ref06_Walk_Row.q46 Z Q)
def ref06_Walk_Row.s57 (Z : ZT) (Q : List Value → PT) (X1 : OA → Addr → Addr → PT) (w_0 : OA) (t_2 : Addr) (x_3 : Addr) : PT :=
  (nn w_0 fun v92 => (ldI .i64 (v92.add 3) fun v93 => (pif (v93 == 0) (cal Tryd.prog Z 71 [(Value.pointer w_0)] (isN fun v94 => (ptI .i64 v94 0 fun v95 => (pif (v95 == 1) (drawn fun S96 => (hL S96 (x_3.add 4) fun v97 v97n v97c => (hL S96 (x_3.add 4) fun v98 v98n v98c => (cal Tryd.prog Z 74 [(Value.pointer w_0), (Value.slice v98 v98n v98c)] (isN fun v99 => (sAnd S96 (cnd (List.length v99 = 5) (newC 55 (v99 ++ ([])) fun v100 => (sAnd S96 (runL Tryd.prog (bi .append #[50, 50] 50 [false, false] [(Value.slice v97 v97n v97c), (Value.slice (some v100) 1 1)]) fun v101 v101n v101c => (sAnd S96 (st1 (x_3.add 4) (Value.slice v101 v101n v101c) (X1 w_0 t_2 x_3))))))))))))) (ref06_Walk_Row.s37 Z Q w_0 t_2 x_3))))) (ref06_Walk_Row.s37 Z Q w_0 t_2 x_3))))
def ref06_Walk_Row.j58 (Z : ZT) (Q : List Value → PT) (X1 : OA → Addr → Addr → PT) : Fr → PT := (fun ρ => atP (ρ 0) fun w_0 => atA (ρ 2) fun t_2 => atA (ρ 3) fun x_3 => (X1 w_0 t_2 x_3))
def ref06_Walk_Row.q59 (Z : ZT) (Q : List Value → PT) (X1 : OA → Addr → Addr → PT) : QF := thenK (ref06_Walk_Row.j58 Z Q X1) (ref06_Walk_Row.q56 Z Q)
theorem ref06_Walk_Row.s57_eq (Z : ZT) (Q : List Value → PT) (X1 : OA → Addr → Addr → PT) (ρ : Fr) (w_0 : OA) (t_2 : Addr) (x_3 : Addr) : comp Tryd.prog Z ref06_Walk_Row.c53 (ref06_Walk_Row.q59 Z Q X1) (puts ρ [(0, (Value.pointer w_0)), (2, (Value.pointer (some t_2))), (3, (Value.pointer (some x_3)))]) = ref06_Walk_Row.s57 Z Q X1 w_0 t_2 x_3 := by kernel_rfl
def ref06_Walk_Row.j60 (Z : ZT) (Q : List Value → PT) (X1 : OA → Addr → Addr → PT) : Fr → PT := (fun ρ => atP (ρ 0) fun w_0 => atA (ρ 2) fun t_2 => atA (ρ 3) fun x_3 => (ref06_Walk_Row.s57 Z Q X1 w_0 t_2 x_3))
theorem ref06_Walk_Row.s57_ok (Z : ZT) (Q : List Value → PT) (X1 : OA → Addr → Addr → PT) : Ok Tryd.prog Tryd.f47.ntmps Z ref06_Walk_Row.c53 (ref06_Walk_Row.q59 Z Q X1) (ref06_Walk_Row.j60 Z Q X1) := by
  intro E he ρ w a hr h
  obtain ⟨w_0, e0, h⟩ := atP_e h
  obtain ⟨t_2, e2, h⟩ := atA_e h
  obtain ⟨x_3, e3, h⟩ := atA_e h
  exact ok_at [(0, (Value.pointer w_0)), (2, (Value.pointer (some t_2))), (3, (Value.pointer (some x_3)))] (okC ref06_Walk_Row.c53 (ref06_Walk_Row.q59 Z Q X1) (by kernel_rfl)) (puts_cons e0 (puts_cons e2 (puts_cons e3 (fun p hp => puts_nil hp)))) (ref06_Walk_Row.s57_eq Z Q X1 ρ w_0 t_2 x_3) he hr h
def ref06_Walk_Row.l55 (Z : ZT) (Q : List Value → PT) : Nat → OA → Addr → Addr → PT
  | 0, _, _, _ => bad
  | k + 1, w_0, t_2, x_3 => (ref06_Walk_Row.s57 Z Q (ref06_Walk_Row.l55 Z Q k) w_0 t_2 x_3)
def ref06_Walk_Row.j61 (Z : ZT) (Q : List Value → PT) (k : Nat) : Fr → PT := (fun ρ => atP (ρ 0) fun w_0 => atA (ρ 2) fun t_2 => atA (ρ 3) fun x_3 => (ref06_Walk_Row.l55 Z Q k w_0 t_2 x_3))
def ref06_Walk_Row.j62 (Z : ZT) (Q : List Value → PT) : Fr → PT := (fun ρ => atP (ρ 0) fun w_0 => atA (ρ 2) fun t_2 => atA (ρ 3) fun x_3 => (exK fun k => ref06_Walk_Row.l55 Z Q k w_0 t_2 x_3))
theorem ref06_Walk_Row.o63 (Z : ZT) (Q : List Value → PT) : Ok Tryd.prog Tryd.f47.ntmps Z ref06_Walk_Row.c51 (ref06_Walk_Row.q56 Z Q) (ref06_Walk_Row.j62 Z Q) := by
  rw [ref06_Walk_Row.q54]
  refine Ok.imp (ok_loop (J := ref06_Walk_Row.j61 Z Q) ?_ ?_) ?_
  · intro ρ w h
    obtain ⟨w_0, e0, h⟩ := atP_e h
    obtain ⟨t_2, e2, h⟩ := atA_e h
    obtain ⟨x_3, e3, h⟩ := atA_e h
    exact h
  · intro k
    refine Ok.imp (ref06_Walk_Row.s57_ok Z Q (ref06_Walk_Row.l55 Z Q k)) fun ρ w h => ?_
    obtain ⟨w_0, e0, h⟩ := atP_e h
    obtain ⟨t_2, e2, h⟩ := atA_e h
    obtain ⟨x_3, e3, h⟩ := atA_e h
    show (ref06_Walk_Row.j60 Z Q (ref06_Walk_Row.l55 Z Q k)) ρ w
    simp only [ref06_Walk_Row.j60]
    rw [e0]
    rw [e2]
    rw [e3]
    exact h
  · intro ρ w h
    obtain ⟨w_0, e0, h⟩ := atP_e h
    obtain ⟨t_2, e2, h⟩ := atA_e h
    obtain ⟨x_3, e3, h⟩ := atA_e h
    obtain ⟨k, h⟩ := h
    refine ⟨k, ?_⟩
    show (atP (ρ 0) fun w_0 => atA (ρ 2) fun t_2 => atA (ρ 3) fun x_3 => (ref06_Walk_Row.l55 Z Q k w_0 t_2 x_3)) w
    rw [e0]
    rw [e2]
    rw [e3]
    exact h
theorem ref06_Walk_Row.o64 (Z : ZT) (Q : List Value → PT) : Ok Tryd.prog Tryd.f47.ntmps Z ref06_Walk_Row.c49 (ref06_Walk_Row.q46 Z Q) (ref06_Walk_Row.j62 Z Q) := by
  rw [ref06_Walk_Row.q52]; exact ok_block (ref06_Walk_Row.o63 Z Q)
def ref06_Walk_Row.s65 (Z : ZT) (Q : List Value → PT) (w_0 : OA) (t_2 : Addr) (x_3 : Addr) : PT :=
  (cal Tryd.prog Z 73 [(Value.pointer w_0)] (isN fun v102 => (stN 2 (x_3.add 2) v102 (exK fun k => ref06_Walk_Row.l55 Z Q k w_0 t_2 x_3))))
theorem ref06_Walk_Row.s65_eq (Z : ZT) (Q : List Value → PT) (ρ : Fr) (w_0 : OA) (t_2 : Addr) (x_3 : Addr) : (comp Tryd.prog Z ref06_Walk_Row.c48 (thenK (ref06_Walk_Row.j62 Z Q) (ref06_Walk_Row.q46 Z Q))) (puts ρ [(0, (Value.pointer w_0)), (2, (Value.pointer (some t_2))), (3, (Value.pointer (some x_3)))]) = ref06_Walk_Row.s65 Z Q w_0 t_2 x_3 := by kernel_rfl
def ref06_Walk_Row.j66 (Z : ZT) (Q : List Value → PT) : Fr → PT := (fun ρ => atP (ρ 0) fun w_0 => atA (ρ 2) fun t_2 => atA (ρ 3) fun x_3 => (ref06_Walk_Row.s65 Z Q w_0 t_2 x_3))
theorem ref06_Walk_Row.s65_ok (Z : ZT) (Q : List Value → PT) : Ok Tryd.prog Tryd.f47.ntmps Z ref06_Walk_Row.c43 (ref06_Walk_Row.q46 Z Q) (ref06_Walk_Row.j66 Z Q) := by
  intro E he ρ w a hr h
  rw [ref06_Walk_Row.q50] at he ⊢
  obtain ⟨w_0, e0, h⟩ := atP_e h
  obtain ⟨t_2, e2, h⟩ := atA_e h
  obtain ⟨x_3, e3, h⟩ := atA_e h
  exact ok_at [(0, (Value.pointer w_0)), (2, (Value.pointer (some t_2))), (3, (Value.pointer (some x_3)))] (ok_seq (okC ref06_Walk_Row.c48 _ (by kernel_rfl)) (ref06_Walk_Row.o64 Z Q)) (puts_cons e0 (puts_cons e2 (puts_cons e3 (fun p hp => puts_nil hp)))) (ref06_Walk_Row.s65_eq Z Q ρ w_0 t_2 x_3) he hr h
theorem ref06_Walk_Row.o67 (Z : ZT) (Q : List Value → PT) : Ok Tryd.prog Tryd.f47.ntmps Z ref06_Walk_Row.c40 (ref06_Walk_Row.q46 Z Q) (condJ (.tmp 9) (ref06_Walk_Row.j47 Z Q) (ref06_Walk_Row.j66 Z Q)) := by
  rw [ref06_Walk_Row.q44]; exact ok_cond (ref06_Walk_Row.s45_ok Z Q) (ref06_Walk_Row.s65_ok Z Q)
def ref06_Walk_Row.s68 (Z : ZT) (Q : List Value → PT) (w_0 : OA) (t_2 : Addr) (x_3 : Addr) : PT :=
  (cal Tryd.prog Z 72 [(Value.pointer w_0), (Value.string ⟨#[100, 101, 102, 97, 117, 108, 116]⟩)] (isB fun v103 => (pif v103 (ref06_Walk_Row.s45 Z Q w_0 t_2 x_3) (ref06_Walk_Row.s65 Z Q w_0 t_2 x_3))))
theorem ref06_Walk_Row.s68_eq (Z : ZT) (Q : List Value → PT) (ρ : Fr) (w_0 : OA) (t_2 : Addr) (x_3 : Addr) : (comp Tryd.prog Z ref06_Walk_Row.c39 (thenK (condJ (.tmp 9) (ref06_Walk_Row.j47 Z Q) (ref06_Walk_Row.j66 Z Q)) (ref06_Walk_Row.q46 Z Q))) (puts ρ [(0, (Value.pointer w_0)), (2, (Value.pointer (some t_2))), (3, (Value.pointer (some x_3)))]) = ref06_Walk_Row.s68 Z Q w_0 t_2 x_3 := by kernel_rfl
def ref06_Walk_Row.j69 (Z : ZT) (Q : List Value → PT) : Fr → PT := (fun ρ => atP (ρ 0) fun w_0 => atA (ρ 2) fun t_2 => atA (ρ 3) fun x_3 => (ref06_Walk_Row.s68 Z Q w_0 t_2 x_3))
theorem ref06_Walk_Row.s68_ok (Z : ZT) (Q : List Value → PT) : Ok Tryd.prog Tryd.f47.ntmps Z ref06_Walk_Row.c5 (ref06_Walk_Row.q46 Z Q) (ref06_Walk_Row.j69 Z Q) := by
  intro E he ρ w a hr h
  rw [ref06_Walk_Row.q41] at he ⊢
  obtain ⟨w_0, e0, h⟩ := atP_e h
  obtain ⟨t_2, e2, h⟩ := atA_e h
  obtain ⟨x_3, e3, h⟩ := atA_e h
  exact ok_at [(0, (Value.pointer w_0)), (2, (Value.pointer (some t_2))), (3, (Value.pointer (some x_3)))] (ok_seq (okC ref06_Walk_Row.c39 _ (by kernel_rfl)) (ref06_Walk_Row.o67 Z Q)) (puts_cons e0 (puts_cons e2 (puts_cons e3 (fun p hp => puts_nil hp)))) (ref06_Walk_Row.s68_eq Z Q ρ w_0 t_2 x_3) he hr h
theorem ref06_Walk_Row.o70 (Z : ZT) (Q : List Value → PT) : Ok Tryd.prog Tryd.f47.ntmps Z ref06_Walk_Row.c3 (ref06_Walk_Row.q15 Z Q) (ref06_Walk_Row.j69 Z Q) := by
  rw [ref06_Walk_Row.q7]; exact ok_seq (ref06_Walk_Row.s68_ok Z Q) (ref06_Walk_Row.s37_ok Z Q)
def ref06_Walk_Row.s71 (Z : ZT) (Q : List Value → PT) (w_0 : OA) : PT :=
  (newC 52 [(Value.int .i64 0), (Value.bool false), (Value.int .i64 0), (Value.int .i64 0), (Value.slice none 0 0), (Value.bool false), (Value.int .i64 0), (Value.int .i64 0)] fun v104 => (cal Tryd.prog Z 71 [(Value.pointer w_0)] (isN fun v105 => (ptI .i64 v105 1 fun v106 => (newC 52 [(Value.int .i64 0), (Value.bool false), (Value.int .i64 0), (Value.int .i64 0), (Value.slice none 0 0), (Value.bool false), (Value.int .i64 0), (Value.int .i64 0)] fun x107 => (stN 8 x107 [(Value.int .i64 v106), (Value.bool false), (Value.int .i64 0), (Value.int .i64 0), (Value.slice none 0 0), (Value.bool false), (Value.int .i64 0), (Value.int .i64 0)] (ref06_Walk_Row.s68 Z Q w_0 v104 x107)))))))
theorem ref06_Walk_Row.s71_eq (Z : ZT) (Q : List Value → PT) (ρ : Fr) (w_0 : OA) : (comp Tryd.prog Z ref06_Walk_Row.c1 (thenK (comp Tryd.prog Z ref06_Walk_Row.c2 (thenK (ref06_Walk_Row.j69 Z Q) (ref06_Walk_Row.q15 Z Q))) (ref06_Walk_Row.q15 Z Q))) (puts ρ [(0, (Value.pointer w_0))]) = ref06_Walk_Row.s71 Z Q w_0 := by kernel_rfl
def ref06_Walk_Row.j72 (Z : ZT) (Q : List Value → PT) : Fr → PT := (fun ρ => atP (ρ 0) fun w_0 => (ref06_Walk_Row.s71 Z Q w_0))
theorem ref06_Walk_Row.s71_ok (Z : ZT) (Q : List Value → PT) : Ok Tryd.prog Tryd.f47.ntmps Z ref06_Walk_Row.body (ref06_Walk_Row.q15 Z Q) (ref06_Walk_Row.j72 Z Q) := by
  intro E he ρ w a hr h
  rw [ref06_Walk_Row.q4] at he ⊢
  obtain ⟨w_0, e0, h⟩ := atP_e h
  exact ok_at [(0, (Value.pointer w_0))] (ok_seq (okC ref06_Walk_Row.c1 _ (by kernel_rfl)) (ok_seq (okC ref06_Walk_Row.c2 _ (by kernel_rfl)) (ref06_Walk_Row.o70 Z Q))) (puts_cons e0 (fun p hp => puts_nil hp)) (ref06_Walk_Row.s71_eq Z Q ρ w_0) he hr h
def ref06_Walk_Row.F (Z : ZT) (Q : List Value → PT) (w_0 : OA) : PT :=
  (ref06_Walk_Row.s71 Z Q w_0)
theorem ref06_Walk_Row.vc (Z : ZT) (Q : List Value → PT) (w_0 : OA) (w : World) (h : ref06_Walk_Row.F Z Q w_0 w) : Calls Tryd.prog 47 ⟨[(Value.pointer w_0)]⟩ w fun e w' => (∃ (r0 : List Value), e = .returned (.agg ⟨r0⟩) ∧ Q r0 w') ∨ ∃ c, e = .panicked c ∧ Z c w' := by
  refine (calls_of_ok (args := [(Value.pointer w_0)]) (w := w) (rs := [.cell 2 52]) (fn := Tryd.f47) (c := ref06_Walk_Row.body) Tryd.func47 (by kernel_rfl) (by kernel_rfl) (Nat.le_of_ble_eq_true (by kernel_rfl)) (ref06_Walk_Row.s71_ok Z Q) (h)).mono fun e w' hR => ?_
  cases e with
  | returned v =>
    obtain ⟨va, rfl, hR⟩ := atN_e hR
    exact .inl ⟨va, rfl, hR⟩
  | panicked c => exact .inr ⟨c, rfl, hR⟩
  | outgrown => exact hR.elim
theorem ref06_Walk_Row.vc0 (Q : List Value → PT) (w_0 : OA) (w : World) (h : ref06_Walk_Row.F Z0 Q w_0 w) : Calls Tryd.prog 47 ⟨[(Value.pointer w_0)]⟩ w fun e w' => (∃ (r0 : List Value), e = .returned (.agg ⟨r0⟩) ∧ Q r0 w') :=
  (ref06_Walk_Row.vc Z0 Q w_0 w h).mono fun _ _ hR => hR.elim id fun ⟨_, _, hz⟩ => hz.elim
theorem ref06_Walk_Row.cal {Z : ZT} {Q : List Value → PT} {w_0 : OA} {w : World} (h : ref06_Walk_Row.F Z Q w_0 w) : Go.Proofs.YtllgjjldnnmjkaaDoor.cal Tryd.prog Z 47 [(Value.pointer w_0)] (isN fun r0 => Q r0) w := by
  refine (ref06_Walk_Row.vc Z Q w_0 w h).mono fun e w' hR => ?_
  rcases hR with ⟨r0, rfl, h⟩ | ⟨c, rfl, h⟩
  · show (isN fun r0 => Q r0) (.agg ⟨r0⟩) w'
    exact ⟨_, rfl, h⟩
  · exact h

/-! ### milepost/milepostref06.Parse: function 27 -/
noncomputable def ref06_Parse.body : Code := bodyC Tryd.f27
noncomputable def ref06_Parse.c1 : Code := sq1 ref06_Parse.body
noncomputable def ref06_Parse.c2 : Code := sq1 (sq2 ref06_Parse.body)
noncomputable def ref06_Parse.c3 : Code := sq1 (sq2 (sq2 ref06_Parse.body))
noncomputable def ref06_Parse.c4 : Code := sq1 (sq2 (sq2 (sq2 ref06_Parse.body)))
noncomputable def ref06_Parse.c5 : Code := sq1 (sq2 (sq2 (sq2 (sq2 ref06_Parse.body))))
noncomputable def ref06_Parse.c6 : Code := sq2 (sq2 (sq2 (sq2 (sq2 ref06_Parse.body))))
theorem ref06_Parse.q7 : ref06_Parse.body = .seq ref06_Parse.c1 (.seq ref06_Parse.c2 (.seq ref06_Parse.c3 (.seq ref06_Parse.c4 (.seq ref06_Parse.c5 ref06_Parse.c6)))) := by kernel_rfl
noncomputable def ref06_Parse.c8 : Code := sq1 ref06_Parse.c6
noncomputable def ref06_Parse.c9 : Code := sq2 ref06_Parse.c6
theorem ref06_Parse.q10 : ref06_Parse.c6 = .seq ref06_Parse.c8 ref06_Parse.c9 := by kernel_rfl
def ref06_Parse.s11 (Z : ZT) (Q : OA → Nat → Nat → Int → Int → PT) (w_8 : OA) (out_9 : OA) (out_9n out_9c : Nat) : PT :=
  (nn w_8 fun v36 => (ldI .i64 (v36.add 3) fun v37 => (pif (v37 != 0) (drew0 (nn w_8 fun v38 => (ldI .i64 (v38.add 3) fun v39 => (nn w_8 fun v40 => (ldI .i64 (v40.add 4) fun v41 => (Q none 0 0 v39 v41)))))) (Q out_9 out_9n out_9c 0 0))))
def ref06_Parse.q12 (Z : ZT) (Q : OA → Nat → Nat → Int → Int → PT) : QF := bodyQ Tryd.prog [.tmp 2, .tmp 3, .tmp 4] (fun v => at3 v fun x y z => atL x fun xa xn xc => atI .i64 y fun ya => atI .i64 z fun za => Q xa xn xc ya za)
theorem ref06_Parse.s11_eq (Z : ZT) (Q : OA → Nat → Nat → Int → Int → PT) (ρ : Fr) (w_8 : OA) (out_9 : OA) (out_9n out_9c : Nat) : comp Tryd.prog Z ref06_Parse.c9 (ref06_Parse.q12 Z Q) (puts ρ [(8, (Value.pointer w_8)), (9, (Value.slice out_9 out_9n out_9c))]) = ref06_Parse.s11 Z Q w_8 out_9 out_9n out_9c := by kernel_rfl
def ref06_Parse.j13 (Z : ZT) (Q : OA → Nat → Nat → Int → Int → PT) : Fr → PT := (fun ρ => atP (ρ 8) fun w_8 => atL (ρ 9) fun out_9 out_9n out_9c => (ref06_Parse.s11 Z Q w_8 out_9 out_9n out_9c))
theorem ref06_Parse.s11_ok (Z : ZT) (Q : OA → Nat → Nat → Int → Int → PT) : Ok Tryd.prog Tryd.f27.ntmps Z ref06_Parse.c9 (ref06_Parse.q12 Z Q) (ref06_Parse.j13 Z Q) := by
  intro E he ρ w a hr h
  obtain ⟨w_8, e8, h⟩ := atP_e h
  obtain ⟨out_9, out_9n, out_9c, e9, h⟩ := atL_e h
  exact ok_at [(8, (Value.pointer w_8)), (9, (Value.slice out_9 out_9n out_9c))] (okC ref06_Parse.c9 (ref06_Parse.q12 Z Q) (by kernel_rfl)) (puts_cons e8 (puts_cons e9 (fun p hp => puts_nil hp))) (ref06_Parse.s11_eq Z Q ρ w_8 out_9 out_9n out_9c) he hr h
noncomputable def ref06_Parse.c14 : Code := blk ref06_Parse.c8
theorem ref06_Parse.q15 : ref06_Parse.c8 = .block 0 ref06_Parse.c14 := by kernel_rfl
noncomputable def ref06_Parse.c16 : Code := lop ref06_Parse.c14
theorem ref06_Parse.q17 : ref06_Parse.c14 = .loop ref06_Parse.c16 := by kernel_rfl
def ref06_Parse.q19 (Z : ZT) (Q : OA → Nat → Nat → Int → Int → PT) : QF := thenK (ref06_Parse.j13 Z Q) (ref06_Parse.q12 Z Q)
def ref06_Parse.q20 (Z : ZT) (Q : OA → Nat → Nat → Int → Int → PT) : QF := inBl 0 (ref06_Parse.q19 Z Q)
def ref06_Parse.s21 (Z : ZT) (Q : OA → Nat → Nat → Int → Int → PT) (X1 : OA → Nat → Nat → OA → OA → Nat → Nat → PT) (l_5 : OA) (l_5n l_5c : Nat) (w_8 : OA) (out_9 : OA) (out_9n out_9c : Nat) : PT :=
  (nn w_8 fun v68 => (ldI .i64 (v68.add 1) fun v69 => (pif (decide (v69 < ((l_5n : Nat) : Int))) (nn w_8 fun v70 => (ldI .i64 (v70.add 3) fun v71 => (pif (v71 == 0) (nn w_8 fun v72 => (ldI .i64 (v72.add 1) fun v73 => (ixS l_5 l_5n v73 4 fun v74 => (ldI .i64 (v74.add 0) fun v75 => (pif (v75 == 7) (nn w_8 fun v76 => (ldI .i64 (v76.add 1) fun v77 => (nn w_8 fun v78 => (st1 (v78.add 1) (Value.int .i64 (IntKind.wrap .i64 (v77 + 1))) (X1 l_5 l_5n l_5c w_8 out_9 out_9n out_9c))))) (pif (((out_9n : Nat) : Int) == 64) (cal Tryd.prog Z 46 [(Value.pointer w_8), (Value.int .i64 4)] (isU (cal Tryd.prog Z 47 [(Value.pointer w_8)] (isN fun v79 => (cnd (List.length v79 = 8) (newC 52 (v79 ++ ([])) fun v80 => (runL Tryd.prog (bi .append #[29, 29] 29 [false, false] [(Value.slice out_9 out_9n out_9c), (Value.slice (some v80) 1 1)]) fun v81 v81n v81c => (X1 l_5 l_5n l_5c w_8 v81 v81n v81c)))))))) (cal Tryd.prog Z 47 [(Value.pointer w_8)] (isN fun v82 => (cnd (List.length v82 = 8) (newC 52 (v82 ++ ([])) fun v83 => (runL Tryd.prog (bi .append #[29, 29] 29 [false, false] [(Value.slice out_9 out_9n out_9c), (Value.slice (some v83) 1 1)]) fun v84 v84n v84c => (X1 l_5 l_5n l_5c w_8 v84 v84n v84c)))))))))))) (ref06_Parse.s11 Z Q w_8 out_9 out_9n out_9c)))) (ref06_Parse.s11 Z Q w_8 out_9 out_9n out_9c))))
def ref06_Parse.j22 (Z : ZT) (Q : OA → Nat → Nat → Int → Int → PT) (X1 : OA → Nat → Nat → OA → OA → Nat → Nat → PT) : Fr → PT := (fun ρ => atL (ρ 5) fun l_5 l_5n l_5c => atP (ρ 8) fun w_8 => atL (ρ 9) fun out_9 out_9n out_9c => (X1 l_5 l_5n l_5c w_8 out_9 out_9n out_9c))
def ref06_Parse.q23 (Z : ZT) (Q : OA → Nat → Nat → Int → Int → PT) (X1 : OA → Nat → Nat → OA → OA → Nat → Nat → PT) : QF := thenK (ref06_Parse.j22 Z Q X1) (ref06_Parse.q20 Z Q)
theorem ref06_Parse.s21_eq (Z : ZT) (Q : OA → Nat → Nat → Int → Int → PT) (X1 : OA → Nat → Nat → OA → OA → Nat → Nat → PT) (ρ : Fr) (l_5 : OA) (l_5n l_5c : Nat) (w_8 : OA) (out_9 : OA) (out_9n out_9c : Nat) : comp Tryd.prog Z ref06_Parse.c16 (ref06_Parse.q23 Z Q X1) (puts ρ [(5, (Value.slice l_5 l_5n l_5c)), (8, (Value.pointer w_8)), (9, (Value.slice out_9 out_9n out_9c))]) = ref06_Parse.s21 Z Q X1 l_5 l_5n l_5c w_8 out_9 out_9n out_9c := by kernel_rfl
def ref06_Parse.j24 (Z : ZT) (Q : OA → Nat → Nat → Int → Int → PT) (X1 : OA → Nat → Nat → OA → OA → Nat → Nat → PT) : Fr → PT := (fun ρ => atL (ρ 5) fun l_5 l_5n l_5c => atP (ρ 8) fun w_8 => atL (ρ 9) fun out_9 out_9n out_9c => (ref06_Parse.s21 Z Q X1 l_5 l_5n l_5c w_8 out_9 out_9n out_9c))
theorem ref06_Parse.s21_ok (Z : ZT) (Q : OA → Nat → Nat → Int → Int → PT) (X1 : OA → Nat → Nat → OA → OA → Nat → Nat → PT) : Ok Tryd.prog Tryd.f27.ntmps Z ref06_Parse.c16 (ref06_Parse.q23 Z Q X1) (ref06_Parse.j24 Z Q X1) := by
  intro E he ρ w a hr h
  obtain ⟨l_5, l_5n, l_5c, e5, h⟩ := atL_e h
  obtain ⟨w_8, e8, h⟩ := atP_e h
  obtain ⟨out_9, out_9n, out_9c, e9, h⟩ := atL_e h
  exact ok_at [(5, (Value.slice l_5 l_5n l_5c)), (8, (Value.pointer w_8)), (9, (Value.slice out_9 out_9n out_9c))] (okC ref06_Parse.c16 (ref06_Parse.q23 Z Q X1) (by kernel_rfl)) (puts_cons e5 (puts_cons e8 (puts_cons e9 (fun p hp => puts_nil hp)))) (ref06_Parse.s21_eq Z Q X1 ρ l_5 l_5n l_5c w_8 out_9 out_9n out_9c) he hr h
def ref06_Parse.l18 (Z : ZT) (Q : OA → Nat → Nat → Int → Int → PT) : Nat → OA → Nat → Nat → OA → OA → Nat → Nat → PT
  | 0, _, _, _, _, _, _, _ => bad
  | k + 1, l_5, l_5n, l_5c, w_8, out_9, out_9n, out_9c => (ref06_Parse.s21 Z Q (ref06_Parse.l18 Z Q k) l_5 l_5n l_5c w_8 out_9 out_9n out_9c)
def ref06_Parse.j25 (Z : ZT) (Q : OA → Nat → Nat → Int → Int → PT) (k : Nat) : Fr → PT := (fun ρ => atL (ρ 5) fun l_5 l_5n l_5c => atP (ρ 8) fun w_8 => atL (ρ 9) fun out_9 out_9n out_9c => (ref06_Parse.l18 Z Q k l_5 l_5n l_5c w_8 out_9 out_9n out_9c))
def ref06_Parse.j26 (Z : ZT) (Q : OA → Nat → Nat → Int → Int → PT) : Fr → PT := (fun ρ => atL (ρ 5) fun l_5 l_5n l_5c => atP (ρ 8) fun w_8 => atL (ρ 9) fun out_9 out_9n out_9c => (exK fun k => ref06_Parse.l18 Z Q k l_5 l_5n l_5c w_8 out_9 out_9n out_9c))
theorem ref06_Parse.o27 (Z : ZT) (Q : OA → Nat → Nat → Int → Int → PT) : Ok Tryd.prog Tryd.f27.ntmps Z ref06_Parse.c14 (ref06_Parse.q20 Z Q) (ref06_Parse.j26 Z Q) := by
  rw [ref06_Parse.q17]
  refine Ok.imp (ok_loop (J := ref06_Parse.j25 Z Q) ?_ ?_) ?_
  · intro ρ w h
    obtain ⟨l_5, l_5n, l_5c, e5, h⟩ := atL_e h
    obtain ⟨w_8, e8, h⟩ := atP_e h
    obtain ⟨out_9, out_9n, out_9c, e9, h⟩ := atL_e h
    exact h
  · intro k
    refine Ok.imp (ref06_Parse.s21_ok Z Q (ref06_Parse.l18 Z Q k)) fun ρ w h => ?_
    obtain ⟨l_5, l_5n, l_5c, e5, h⟩ := atL_e h
    obtain ⟨w_8, e8, h⟩ := atP_e h
    obtain ⟨out_9, out_9n, out_9c, e9, h⟩ := atL_e h
    show (ref06_Parse.j24 Z Q (ref06_Parse.l18 Z Q k)) ρ w
    simp only [ref06_Parse.j24]
    rw [e5]
    rw [e8]
    rw [e9]
    exact h
  · intro ρ w h
    obtain ⟨l_5, l_5n, l_5c, e5, h⟩ := atL_e h
    obtain ⟨w_8, e8, h⟩ := atP_e h
    obtain ⟨out_9, out_9n, out_9c, e9, h⟩ := atL_e h
    obtain ⟨k, h⟩ := h
    refine ⟨k, ?_⟩
    show (atL (ρ 5) fun l_5 l_5n l_5c => atP (ρ 8) fun w_8 => atL (ρ 9) fun out_9 out_9n out_9c => (ref06_Parse.l18 Z Q k l_5 l_5n l_5c w_8 out_9 out_9n out_9c)) w
    rw [e5]
    rw [e8]
    rw [e9]
    exact h
theorem ref06_Parse.o28 (Z : ZT) (Q : OA → Nat → Nat → Int → Int → PT) : Ok Tryd.prog Tryd.f27.ntmps Z ref06_Parse.c8 (ref06_Parse.q19 Z Q) (ref06_Parse.j26 Z Q) := by
  rw [ref06_Parse.q15]; exact ok_block (ref06_Parse.o27 Z Q)
theorem ref06_Parse.o29 (Z : ZT) (Q : OA → Nat → Nat → Int → Int → PT) : Ok Tryd.prog Tryd.f27.ntmps Z ref06_Parse.c6 (ref06_Parse.q12 Z Q) (ref06_Parse.j26 Z Q) := by
  rw [ref06_Parse.q10]; exact ok_seq (ref06_Parse.o28 Z Q) (ref06_Parse.s11_ok Z Q)
def ref06_Parse.s30 (Z : ZT) (Q : OA → Nat → Nat → Int → Int → PT) (s_0 : ByteArray) : PT :=
  (cal Tryd.prog Z 45 [(Value.string s_0)] (isT3 fun t85 t86 t87 => (isL fun v88 v88n v88c => ((isI .i64 fun v89 => ((isI .i64 fun v90 => (pif (v89 != 0) (Q none 0 0 v89 v90) (newC 90 [(Value.slice v88 v88n v88c), (Value.int .i64 0), (Value.int .i64 ((s_0.size : Nat) : Int)), (Value.int .i64 0), (Value.int .i64 0)] fun v91 => (newC 52 [] fun v92 => (exK fun k => ref06_Parse.l18 Z Q k v88 v88n v88c (some v91) (some v92) 0 0))))) t87)) t86)) t85))
theorem ref06_Parse.s30_eq (Z : ZT) (Q : OA → Nat → Nat → Int → Int → PT) (ρ : Fr) (s_0 : ByteArray) : (comp Tryd.prog Z ref06_Parse.c1 (thenK (comp Tryd.prog Z ref06_Parse.c2 (thenK (comp Tryd.prog Z ref06_Parse.c3 (thenK (comp Tryd.prog Z ref06_Parse.c4 (thenK (comp Tryd.prog Z ref06_Parse.c5 (thenK (ref06_Parse.j26 Z Q) (ref06_Parse.q12 Z Q))) (ref06_Parse.q12 Z Q))) (ref06_Parse.q12 Z Q))) (ref06_Parse.q12 Z Q))) (ref06_Parse.q12 Z Q))) (puts ρ [(0, (Value.string s_0))]) = ref06_Parse.s30 Z Q s_0 := by kernel_rfl
def ref06_Parse.j31 (Z : ZT) (Q : OA → Nat → Nat → Int → Int → PT) : Fr → PT := (fun ρ => atS (ρ 0) fun s_0 => (ref06_Parse.s30 Z Q s_0))
theorem ref06_Parse.s30_ok (Z : ZT) (Q : OA → Nat → Nat → Int → Int → PT) : Ok Tryd.prog Tryd.f27.ntmps Z ref06_Parse.body (ref06_Parse.q12 Z Q) (ref06_Parse.j31 Z Q) := by
  intro E he ρ w a hr h
  rw [ref06_Parse.q7] at he ⊢
  obtain ⟨s_0, e0, h⟩ := atS_e h
  exact ok_at [(0, (Value.string s_0))] (ok_seq (okC ref06_Parse.c1 _ (by kernel_rfl)) (ok_seq (okC ref06_Parse.c2 _ (by kernel_rfl)) (ok_seq (okC ref06_Parse.c3 _ (by kernel_rfl)) (ok_seq (okC ref06_Parse.c4 _ (by kernel_rfl)) (ok_seq (okC ref06_Parse.c5 _ (by kernel_rfl)) (ref06_Parse.o29 Z Q)))))) (puts_cons e0 (fun p hp => puts_nil hp)) (ref06_Parse.s30_eq Z Q ρ s_0) he hr h
def ref06_Parse.F (Z : ZT) (Q : OA → Nat → Nat → Int → Int → PT) (s_0 : ByteArray) : PT :=
  (ref06_Parse.s30 Z Q s_0)
theorem ref06_Parse.vc (Z : ZT) (Q : OA → Nat → Nat → Int → Int → PT) (s_0 : ByteArray) (w : World) (h : ref06_Parse.F Z Q s_0 w) : Calls Tryd.prog 27 ⟨[(Value.string s_0)]⟩ w fun e w' => (∃ (r0 : OA) (r0n r0c : Nat) (r1 : Int) (r2 : Int), e = .returned (.tuple #[.slice r0 r0n r0c, .int .i64 r1, .int .i64 r2]) ∧ Q r0 r0n r0c r1 r2 w') ∨ ∃ c, e = .panicked c ∧ Z c w' := by
  refine (calls_of_ok (args := [(Value.string s_0)]) (w := w) (rs := [.tmp 2, .tmp 3, .tmp 4]) (fn := Tryd.f27) (c := ref06_Parse.body) Tryd.func27 (by kernel_rfl) (by kernel_rfl) (Nat.le_of_ble_eq_true (by kernel_rfl)) (ref06_Parse.s30_ok Z Q) (h)).mono fun e w' hR => ?_
  cases e with
  | returned v =>
    obtain ⟨x, y, z, rfl, hR⟩ := at3_e hR
    obtain ⟨xa, xn, xc, rfl, hR⟩ := atL_e hR
    obtain ⟨ya, rfl, hR⟩ := atI_e hR
    obtain ⟨za, rfl, hR⟩ := atI_e hR
    exact .inl ⟨xa, xn, xc, ya, za, rfl, hR⟩
  | panicked c => exact .inr ⟨c, rfl, hR⟩
  | outgrown => exact hR.elim
theorem ref06_Parse.vc0 (Q : OA → Nat → Nat → Int → Int → PT) (s_0 : ByteArray) (w : World) (h : ref06_Parse.F Z0 Q s_0 w) : Calls Tryd.prog 27 ⟨[(Value.string s_0)]⟩ w fun e w' => (∃ (r0 : OA) (r0n r0c : Nat) (r1 : Int) (r2 : Int), e = .returned (.tuple #[.slice r0 r0n r0c, .int .i64 r1, .int .i64 r2]) ∧ Q r0 r0n r0c r1 r2 w') :=
  (ref06_Parse.vc Z0 Q s_0 w h).mono fun _ _ hR => hR.elim id fun ⟨_, _, hz⟩ => hz.elim
theorem ref06_Parse.cal {Z : ZT} {Q : OA → Nat → Nat → Int → Int → PT} {s_0 : ByteArray} {w : World} (h : ref06_Parse.F Z Q s_0 w) : Go.Proofs.YtllgjjldnnmjkaaDoor.cal Tryd.prog Z 27 [(Value.string s_0)] (isT3 fun x y z => (isL fun r0 r0n r0c => (isI .i64 fun r1 => (isI .i64 fun r2 => Q r0 r0n r0c r1 r2) z) y) x) w := by
  refine (ref06_Parse.vc Z Q s_0 w h).mono fun e w' hR => ?_
  rcases hR with ⟨r0, r0n, r0c, r1, r2, rfl, h⟩ | ⟨c, rfl, h⟩
  · show (isT3 fun x y z => (isL fun r0 r0n r0c => (isI .i64 fun r1 => (isI .i64 fun r2 => Q r0 r0n r0c r1 r2) z) y) x) (.tuple #[.slice r0 r0n r0c, .int .i64 r1, .int .i64 r2]) w'
    exact ⟨_, _, _, rfl, ⟨_, _, _, rfl, ⟨_, rfl, ⟨_, rfl, h⟩⟩⟩⟩
  · exact h

end Go.Proofs.YtllgjjldnnmjkaaDoor
end
section
set_option maxRecDepth 100000
namespace Go.Proofs.YtllgjjldnnmjkaaDoor
open Go.RowKit
/-- The walk lies at a block, its tokens at another one. -/
structure Wk (w : World) (rb : Nat) (a : Option Addr) (c : Nat) (l : List Tk) (en : Int) (s : Ws) : Prop where
  cell : IsB w rb [.slice a l.length c, .int .i64 s.i, .int .i64 en, .int .i64 s.b, .int .i64 s.p]
  toks : Lst w 79 4 Tk.enc a l.length c l
  ne : ∀ k, inB a k → k ≠ rb
def fpW (rb : Nat) (a : Option Addr) (k : Nat) : Prop := k = rb ∨ inB a k
def fW (rb : Nat) (a : Option Addr) (c : Nat) (l : List Tk) (en : Int) (s : Ws) : Fct where
  fp := fpW rb a
  P w := Wk w rb a c l en s
  lt w h k hk := by
    rcases hk with rfl | hk
    · exact h.cell.lt
    · exact h.toks.lt hk
  st w w' S h k hs := ⟨h.cell.keep k (hs rb (.inl rfl)), h.toks.keep k fun q hq => hs q (.inr hq), h.ne⟩
section
variable {Z : List PanicEntry → PT} {S : Nat → Prop} {w0 w : World} {L : List Fct} {n rb : Nat} {a : Option Addr} {c : Nat} {l : List Tk} {en : Int} {s : Ws}
theorem Wk.ext {w' : World} (h : Wk w rb a c l en s) (k : Ext w w') : Wk w' rb a c l en s := (fW rb a c l en s).st w w' _ h k fun _ _ g => g
theorem Wk.set {i : Nat} {v : Value} {s' : Ws} (h : Wk w rb a c l en s) (he : ([.slice a l.length c, .int .i64 s.i, .int .i64 en, .int .i64 s.b, .int .i64 s.p] : List Value).set i v = [.slice a l.length c, .int .i64 s'.i, .int .i64 en, .int .i64 s'.b, .int .i64 s'.p]) {w' : World} (hb : IsB w' rb (([.slice a l.length c, .int .i64 s.i, .int .i64 en, .int .i64 s.b, .int .i64 s.p] : List Value).set i v)) (k : Keep (· = rb) w w') : Wk w' rb a c l en s' :=
  ⟨he ▸ hb, h.toks.keep k fun q hq e => h.ne q hq e, h.ne⟩
theorem fpW_one {w' : World} (k : Keep (· = rb) w w') : Keep (fpW rb a) w w' := k.mono fun q _ e => .inl e
theorem Sep.wSet (n : Nat) {s' : Ws} {i : Nat} {v : Value} {K : PT} (h : Sep S w0 w L) (hn : L[n]? = some (fW rb a c l en s)) (he : ([.slice a l.length c, .int .i64 s.i, .int .i64 en, .int .i64 s.b, .int .i64 s.p] : List Value).set i v = [.slice a l.length c, .int .i64 s'.i, .int .i64 en, .int .i64 s'.b, .int .i64 s'.p]) (hi : i < 5) (hv : v.oneCell' = true)
    (hk : ∀ w', Sep S w0 w' (L.set n (fW rb a c l en s')) → K w') : Go.Proofs.YtllgjjldnnmjkaaDoor.st1 ⟨rb, i, none⟩ v K w := by
  have hw : Wk w rb a c l en s := h.at hn
  exact st1_B hw.cell (by simpa using hi) hv fun w' b' k' => hk w' (h.turn hn (fpW_one k') (g := fW rb a c l en s') (hw.set he b' k') fun k hk => .inl hk)
theorem Sep.wCall {w' : World} {s' : Ws} (n : Nat) (h : Sep S w0 w L) (hn : L[n]? = some (fW rb a c l en s)) (k : Keep (fpW rb a) w w') (g : Wk w' rb a c l en s') : Sep S w0 w' (L.set n (fW rb a c l en s')) := h.turn hn k (g := fW rb a c l en s') g fun k hk => .inl hk
theorem Sep.wI (n : Nat) {K : Int → PT} (h : Sep S w0 w L) (hn : L[n]? = some (fW rb a c l en s)) (hk : K s.i w) : Go.Proofs.YtllgjjldnnmjkaaDoor.ldI .i64 ⟨rb, 1, none⟩ K w := ldI_B (h.at hn : Wk w rb a c l en s).cell rfl hk
theorem Sep.wB (n : Nat) {K : Int → PT} (h : Sep S w0 w L) (hn : L[n]? = some (fW rb a c l en s)) (hk : K s.b w) : Go.Proofs.YtllgjjldnnmjkaaDoor.ldI .i64 ⟨rb, 3, none⟩ K w := ldI_B (h.at hn : Wk w rb a c l en s).cell rfl hk

theorem wnext_F {Q : List Value → PT} (h : Wk w rb a c l en s) (hq : ∀ w', Ext w w' → Q (peekS l en s.i).enc w') : ref06_Walk_Next.F Z Q (some ⟨rb, 0, none⟩) w := by
  unfold ref06_Walk_Next.F
  refine (Sep.start (fun _ => False) w).new fun w1 b1 h1 k1 => ?_
  have r1 := (h.ext k1).ext (Keep.refl.drew)
  have h1 := h1.drew
  show nn _ _ w1.drew
  have k1 : Ext w w1.drew := k1.drew
  generalize w1.drew = w2 at r1 h1 k1 ⊢
  simp only [nn_some, add_mk, Nat.zero_add]
  refine ldI_B r1.cell rfl ?_
  refine ldL_of (r1.cell.cell 0) ?_
  have fin : ∀ (t : Tk) (w3 : World), t = peekS l en s.i → Sep (fun _ => False) w w3 [fB b1 (Tk.enc ⟨0, 0, noText, 0⟩)] → stN 4 ⟨b1, 0, none⟩ t.enc (ldN 4 ⟨b1, 0, none⟩ fun v => Q v) w3 := fun t w3 ht g3 => by
    refine g3.stN 0 rfl (by simp [Tk.enc]) rfl (Tk.enc_one t) (cs' := t.enc) (by simp [lay, Tk.enc]) fun w4 h4 k4 => ?_
    refine h4.ldN 0 rfl (vs := t.enc) rfl rfl ?_
    rw [ht]
    exact hq w4 h4.kept
  rw [pif_dec]
  split
  · rename_i hi
    refine h1.drawn (fun w' => Wk w' rb a c l en s) (r1.ext Keep.refl.drew) fun h1 => ?_
    refine hL_of (fun w' hw' => hw'.cell.cell 0) ?_
    refine hI_of (fun w' hw' => hw'.cell.cell 1) ?_
    have hx := List.getElem?_eq_getElem (show s.i < l.length by omega)
    refine ixS_Lst Tk.enc_len (r1.toks.ext Keep.refl.drew) hx fun b hb hc => ?_
    refine hN_of (cs := (l[s.i]).enc) rfl (fun w' hw' j v hj => ?_) ?_
    · have hc' := (hw'.toks.2.cells hb).2
      rw [add_mk]
      refine hc' _ _ ?_
      rw [flat_at Tk.enc_len hx (by rw [← Tk.enc_len l[s.i]]; exact (List.getElem?_eq_some_iff.1 hj).1)]
      exact hj
    · refine fin l[s.i] w2.drew ?_ h1
      unfold peekS
      rw [if_pos (by omega), hx]
      rfl
  · rename_i hi
    refine ldI_B r1.cell rfl ?_
    refine fin ⟨0, en, noText, 0⟩ w2 ?_ h1
    unfold peekS
    rw [if_neg (by omega)]
theorem wwrong_F {Q : PT} {e : Int} (h : Wk w rb a c l en s) (hq : ∀ w', Keep (fpW rb a) w w' → Wk w' rb a c l en (wrongW l en e s) → Q w') : ref06_Walk_Wrong.F Z Q (some ⟨rb, 0, none⟩) e w := by
  unfold ref06_Walk_Wrong.F
  have h1 : Sep (fpW rb a) w w [fW rb a c l en s] := Sep.start1 h fun k hk => hk
  simp only [nn_some, add_mk, Nat.zero_add]
  refine h1.wB 0 rfl ?_
  unfold wrongW at hq
  rw [pif_beq]
  split
  · rename_i hb
    rw [if_pos hb] at hq
    refine h1.wSet 0 rfl (s' := ⟨s.i, e, s.p⟩) rfl (by decide) rfl fun w2 h2 => ?_
    refine ref06_Walk_Next.cal (wnext_F (h2.at (n := 0) rfl : Wk w2 rb a c l en ⟨s.i, e, s.p⟩) fun w3 k3 => ?_)
    have h3 := h2.ext k3
    refine ptI_of (n := (peekS l en s.i).pos) rfl ?_
    refine h3.wSet 0 rfl (s' := ⟨s.i, e, (peekS l en s.i).pos⟩) rfl (by decide) rfl fun w4 h4 => ?_
    exact hq w4 h4.kept (h4.at (n := 0) rfl)
  · rename_i hb
    rw [if_neg hb] at hq
    exact hq w Keep.refl h
theorem wrong_i {e : Int} : (wrongW l en e s).i = s.i := by unfold wrongW; split <;> rfl
theorem Sep.wSkip (n : Nat) {K : PT} (h : Sep S w0 w L) (hn : L[n]? = some (fW rb a c l en s)) (hi : s.i ≤ 1000000) (hk : ∀ w', Sep S w0 w' (L.set n (fW rb a c l en (skipW s))) → K w') : Go.Proofs.YtllgjjldnnmjkaaDoor.st1 ⟨rb, 1, none⟩ (.int .i64 (IntKind.wrap .i64 ((s.i : Int) + 1))) K w := by
  rw [wrap_nat1 (by omega)]
  exact h.wSet n hn (s' := skipW s) rfl (by decide) rfl hk
theorem Sep.wWrong (n : Nat) {K : PT} {e : Int} (h : Sep S w0 w L) (hn : L[n]? = some (fW rb a c l en s)) (hk : ∀ w', Sep S w0 w' (L.set n (fW rb a c l en (wrongW l en e s))) → K w') : cal Tryd.prog Z 46 [.pointer (some ⟨rb, 0, none⟩), .int .i64 e] (isU K) w :=
  ref06_Walk_Wrong.cal (wwrong_F (h.at hn : Wk w rb a c l en s) fun w' k g => hk w' (h.wCall n hn k g))
theorem Sep.wNext (n : Nat) {K : List Value → PT} (h : Sep S w0 w L) (hn : L[n]? = some (fW rb a c l en s)) (hk : ∀ w', Sep S w0 w' L → K (peekS l en s.i).enc w') : cal Tryd.prog Z 71 [.pointer (some ⟨rb, 0, none⟩)] (isN fun v => K v) w :=
  ref06_Walk_Next.cal (wnext_F (h.at hn : Wk w rb a c l en s) fun w' k => hk w' (h.ext k))
theorem wkind_F {Q : List Value → PT} {k : Int} (h : Wk w rb a c l en s) (hi : s.i ≤ 1000000) (hq : ∀ w', Keep (fpW rb a) w w' → Wk w' rb a c l en (kindW l en k s) → Q (peekS l en s.i).enc w') : ref06_Walk_Kind.F Z Q (some ⟨rb, 0, none⟩) k w := by
  unfold ref06_Walk_Kind.F ref06_Walk_Kind.s9
  refine (Sep.start1 (f := fW rb a c l en s) (S := fpW rb a) h fun k hk => hk).new fun w1 b1 h1 k1 => ?_
  refine h1.wNext 1 rfl fun w2 h2 => ?_
  refine h2.new fun w3 b3 h3 k3 => ?_
  refine h3.stN 0 rfl (by simp) rfl (Tk.enc_one _) (cs' := (peekS l en s.i).enc) (by simp [lay, Tk.enc]) fun w4 h4 k4 => ?_
  simp only [add_mk, Nat.zero_add]
  refine h4.ldI 0 rfl rfl ?_
  have fin : ∀ (s1 : Ws) (w5 : World), s1.i ≤ 1000000 → kindW l en k s = skipW s1 → Sep (fpW rb a) w w5 [fB b3 (peekS l en s.i).enc, fB b1 (Tk.enc ⟨0, 0, noText, 0⟩), fW rb a c l en s1] → ref06_Walk_Kind.s6 Z Q (some ⟨rb, 0, none⟩) ⟨b1, 0, none⟩ ⟨b3, 0, none⟩ w5 := fun s1 w5 hs1 e h5 => by
    unfold ref06_Walk_Kind.s6
    simp only [nn_some, add_mk, Nat.zero_add]
    refine h5.wI 2 rfl ?_
    refine h5.wSkip 2 rfl hs1 fun w6 h6 => ?_
    refine h6.ldN 0 rfl (vs := (peekS l en s.i).enc) rfl rfl ?_
    refine h6.stN 1 rfl (by simp [Tk.enc]) rfl (Tk.enc_one _) (cs' := (peekS l en s.i).enc) (by simp [lay, Tk.enc]) fun w7 h7 k7 => ?_
    refine h7.ldN 1 rfl (vs := (peekS l en s.i).enc) rfl rfl ?_
    rw [e] at hq
    exact hq w7 h7.kept (h7.at (n := 2) rfl)
  rw [pif_bne]
  split
  · rename_i hk
    exact fin s w4 hi (by unfold kindW; rw [if_neg (by simpa using hk)]) h4
  · rename_i hk
    refine h4.wWrong 2 rfl fun w5 h5 => ?_
    exact fin (wrongW l en 8 s) w5 (by rw [wrong_i]; exact hi) (by unfold kindW; rw [if_pos hk]) h5
theorem Sep.wKind (n : Nat) {k : Int} {K : List Value → PT} (h : Sep S w0 w L) (hn : L[n]? = some (fW rb a c l en s)) (hi : s.i ≤ 1000000) (hk : ∀ w', Sep S w0 w' (L.set n (fW rb a c l en (kindW l en k s))) → K (peekS l en s.i).enc w') : cal Tryd.prog Z 75 [.pointer (some ⟨rb, 0, none⟩), .int .i64 k] (isN fun v => K v) w :=
  ref06_Walk_Kind.cal (wkind_F (h.at hn : Wk w rb a c l en s) hi fun w' k g => hk w' (h.wCall n hn k g))
theorem fig2_F {Q : List Value → PT} (h : Wk w rb a c l en s) (hi : s.i ≤ 1000000) (hq : ∀ w', Keep (fpW rb a) w w' → Wk w' rb a c l en (figW l en s) → Q (figV l en s).enc w') : ref06_Walk_Figure.F Z Q (some ⟨rb, 0, none⟩) w := by
  unfold ref06_Walk_Figure.F
  refine (Sep.start1 (f := fW rb a c l en s) (S := fpW rb a) h fun k hk => hk).new fun w1 b1 h1 k1 => ?_
  refine h1.wKind 1 rfl hi fun w2 h2 => ?_
  refine h2.new fun w3 b3 h3 k3 => ?_
  refine h3.stN 0 rfl (by simp) rfl (Tk.enc_one _) (cs' := (peekS l en s.i).enc) (by simp [lay, Tk.enc]) fun w4 h4 k4 => ?_
  simp only [add_mk, Nat.zero_add]
  refine h4.ldI 0 rfl rfl (h4.ldI 0 rfl rfl ?_)
  refine h4.stN 1 rfl (by simp) rfl (by simp [Value.oneCell']) (cs' := (figV l en s).enc) (by simp [lay, Fg.enc, figV]) fun w5 h5 k5 => ?_
  refine h5.ldN 1 rfl (vs := (figV l en s).enc) rfl rfl ?_
  exact hq w5 h5.kept (h5.at (n := 2) rfl)
theorem Sep.wFig (n : Nat) {K : List Value → PT} (h : Sep S w0 w L) (hn : L[n]? = some (fW rb a c l en s)) (hi : s.i ≤ 1000000) (hk : ∀ w', Sep S w0 w' (L.set n (fW rb a c l en (figW l en s))) → K (figV l en s).enc w') : cal Tryd.prog Z 73 [.pointer (some ⟨rb, 0, none⟩)] (isN fun v => K v) w :=
  ref06_Walk_Figure.cal (fig2_F (h.at hn : Wk w rb a c l en s) hi fun w' k g => hk w' (h.wCall n hn k g))
theorem Sep.wWord (n : Nat) {t : ByteArray} {K : Bool → PT} (h : Sep S w0 w L) (hn : L[n]? = some (fW rb a c l en s)) (hk : ∀ w', Sep S w0 w' L → K (wordW l en t s) w') : cal Tryd.prog Z 72 [.pointer (some ⟨rb, 0, none⟩), .string t] (isB fun v => K v) w := by
  refine ref06_Walk_Word.cal ?_
  unfold ref06_Walk_Word.F
  refine h.wNext n hn fun w1 h1 => ?_
  refine ptI_of (n := (peekS l en s.i).kind) rfl ?_
  unfold wordW at hk
  rw [pif_beq]
  split
  · rename_i h1'
    refine h1.wNext n hn fun w2 h2 => ?_
    refine ptS_of (n := (peekS l en s.i).text) rfl ?_
    have := hk w2 h2
    rw [h1'] at this
    exact this
  · rename_i h1'
    have := hk w1 h1
    rw [beq_eq_false_iff_ne.2 h1'] at this
    exact this
end
end Go.Proofs.YtllgjjldnnmjkaaDoor
end
section
set_option maxRecDepth 100000
namespace Go.Proofs.YtllgjjldnnmjkaaDoor
open Go.RowKit
abbrev fNums (sl : Sl3) (ns : List Fg) : Fct := fL 49 2 Fg.enc sl.a sl.n sl.c ns
/-- What lies there while a clause is read. -/
abbrev CL (rb : Nat) (a : Option Addr) (c : Nat) (l : List Tk) (en : Int) (cb tb ob : Nat) (t : Tk) (z : List Value) (x : Cl) (sl : Sl3) (s : Ws) : List Fct := [fNums sl x.nums, fB cb (clEnc (x, sl)), fB tb t.enc, fB ob z, fW rb a c l en s]
section
variable {Z : List PanicEntry → PT} {S : Nat → Prop} {w0 w : World} {rb cb tb ob : Nat} {a : Option Addr} {c : Nat} {l : List Tk} {en : Int} {s : Ws} {t : Tk} {z : List Value} {x : Cl} {sl : Sl3}
theorem cw_app {K : PT} (h : Sep S w0 w (CL rb a c l en cb tb ob t z x sl s)) (hi : s.i ≤ 1000000) (hn : x.nums.length ≤ 1000) (hk : ∀ w' sl', Sep S w0 w' (CL rb a c l en cb tb ob t z { x with nums := x.nums ++ [figV l en s] } sl' (figW l en s)) → K w') :
    drawn (fun S => hL S ⟨cb, 2, none⟩ fun v vn vc => cal Tryd.prog Z 73 [.pointer (some ⟨rb, 0, none⟩)] (isN fun u => sAnd S (cnd (List.length u = 2) (newC 49 (u ++ []) fun ad => sAnd S (runL Tryd.prog (bi .append #[53, 53] 53 [false, false] [.slice v vn vc, .slice (some ad) 1 1]) fun p pn pc => sAnd S (st1 ⟨cb, 2, none⟩ (.slice p pn pc) K)))))) w := by
  refine h.drawn (fun w' => IsB w' cb (clEnc (x, sl))) (h.drew.at (n := 1) rfl : IsB _ _ _) fun h => ?_
  refine hL_of (fun w' hw' => hw'.cell 2) ?_
  refine h.wFig 4 rfl hi fun w1 h1 => ?_
  refine sAnd_of (h1.at (n := 1) rfl : IsB _ _ _) (cnd_of rfl ?_)
  rw [List.append_nil]
  refine h1.new fun w2 b2 h2 k2 => ?_
  refine sAnd_of (h2.at (n := 2) rfl : IsB _ _ _) ?_
  refine h2.app (x := figV l en s) 1 rfl (bytes := 16) (z := .agg #[.int .i64 0, .int .i64 0]) Tryd.underlying53 (by kernel_rfl) rfl (by decide) Fg.enc_len (Fg.enc_one _) (fun j u hu => by rw [add_mk, Nat.zero_add, (h2.at (n := 0) rfl : IsB _ _ _).cell]; exact hu) (by decide) (by omega) fun a' c' w3 h3 k3 => ?_
  refine sAnd_of (h3.at (n := 2) rfl : IsB _ _ _) ?_
  refine h3.st1 2 rfl (by simp [clEnc]) rfl fun w4 h4 k4 => ?_
  exact hk w4 ⟨a', sl.n + 1, c'⟩ (h4.drop 0)
theorem fig_i2 (s : Ws) : (figW l en s).i = s.i + 1 := fig_i
theorem kind_i {k : Int} : (kindW l en k s).i = s.i + 1 := by
  unfold kindW skipW wrongW
  grind
theorem dots_i : ∀ (m : Nat) (s : Ws) (ns : List Fg), (dotsW l en m s ns).2.i = s.i + 2 * m ∧ (dotsW l en m s ns).1.length = ns.length + m
  | 0, s, ns => ⟨rfl, rfl⟩
  | m + 1, s, ns => by
    unfold dotsW
    obtain ⟨h1, h2⟩ := dots_i m (figW l en (kindW l en 3 s)) (ns ++ [figV l en (kindW l en 3 s)])
    rw [h1, h2, fig_i2, kind_i]
    simp; omega
theorem more_i {k : Int} {ns : List Fg} : s.i ≤ (moreW l en k s ns).2.2.i ∧ (moreW l en k s ns).2.2.i ≤ s.i + 2 ∧ (moreW l en k s ns).1.length ≤ ns.length + 1 := by
  unfold moreW
  split
  · simp only [fig_i2, skipW]; simp; omega
  · simp
/-- What is asked behind a clause. -/
def CwQ (Q : List Value → PT) (w0 : World) (rb : Nat) (a : Option Addr) (c : Nat) (l : List Tk) (en : Int) (x : Cl) (s : Ws) : Prop := ∀ (sl : Sl3) w', Keep (fpW rb a) w0 w' → Wk w' rb a c l en s → Lst w' 49 2 Fg.enc sl.a sl.n sl.c x.nums → (∀ k, inB sl.a k → w0.heap.size ≤ k) → Q (clEnc (x, sl)) w'
theorem cw_fin {Q : List Value → PT} (h : Sep (fpW rb a) w0 w (CL rb a c l en cb tb ob t z x sl s)) (hz : z.length = 5) (hq : CwQ Q w0 rb a c l en x s) : ldN 5 ⟨cb, 0, none⟩ (fun v => stN 5 ⟨ob, 0, none⟩ v (ldN 5 ⟨ob, 0, none⟩ fun u => Q u)) w := by
  refine h.ldN 1 rfl (vs := clEnc (x, sl)) rfl rfl ?_
  refine h.stN 3 rfl (by omega) rfl (clEnc_one _) (cs' := clEnc (x, sl)) ?_ fun w1 h1 k1 => ?_
  · unfold lay
    rw [List.take_zero, List.drop_eq_nil_of_le (by rw [clEnc_len]; omega)]
    simp
  · refine h1.ldN 3 rfl (vs := clEnc (x, sl)) rfl rfl ?_
    refine hq sl w1 h1.kept (h1.at (n := 4) rfl) (h1.at (n := 0) rfl) fun k hk => ?_
    rcases h1.own (fNums sl x.nums) (by simp) k hk with g | g
    · exact g
    · have : apart (fNums sl x.nums) (fW rb a c l en s) := pw_at apart.symm h1.dis (i := 0) (j := 4) rfl rfl (by decide)
      exact absurd g (this k hk)
theorem cw_s26 {Q : List Value → PT} {port : Bool} (h : Sep (fpW rb a) w0 w (CL rb a c l en cb tb ob t z x sl s)) (hz : z.length = 5) (hi : s.i ≤ 900000) (hn : x.nums.length ≤ 100) (hd : x.dash = false)
    (hq : CwQ Q w0 rb a c l en { x with nums := (if port = true then moreW l en 5 s x.nums else (x.nums, false, s)).1, dash := (if port = true then moreW l en 5 s x.nums else (x.nums, false, s)).2.1 } (if port = true then moreW l en 5 s x.nums else (x.nums, false, s)).2.2) :
    ref06_Walk_Clause.s26 Z Q (some ⟨rb, 0, none⟩) ⟨ob, 0, none⟩ ⟨cb, 0, none⟩ port w := by
  obtain ⟨xw, xp, xn, xs, xd⟩ := x
  simp only at hd hn hq
  subst hd
  unfold ref06_Walk_Clause.s26
  simp only [nn_some, add_mk, Nat.zero_add]
  rw [pif_bool]
  split
  · rename_i hp
    subst hp
    simp only [if_true] at hq
    unfold moreW at hq
    refine h.wNext 4 rfl fun w1 h1 => ?_
    refine ptI_of (n := (peekS l en s.i).kind) rfl ?_
    rw [pif_beq]
    split
    · rename_i hk
      rw [if_pos hk] at hq
      refine h1.st1 1 rfl (by simp [clEnc]) rfl fun w2 h2 k2 => ?_
      have h2 : Sep (fpW rb a) w0 w2 (CL rb a c l en cb tb ob t z ⟨xw, xp, xn, xs, true⟩ sl s) := h2
      refine h2.wI 4 rfl ?_
      refine h2.wSkip 4 rfl (by omega) fun w3 h3 => ?_
      have h3 : Sep (fpW rb a) w0 w3 (CL rb a c l en cb tb ob t z ⟨xw, xp, xn, xs, true⟩ sl (skipW s)) := h3
      refine cw_app h3 (by simp only [skipW]; omega) (by simp only; omega) fun w4 sl4 h4 => ?_
      exact cw_fin h4 hz hq
    · rename_i hk
      rw [if_neg hk] at hq
      exact cw_fin h1 hz hq
  · rename_i hp
    rw [if_neg hp] at hq
    exact cw_fin h hz hq
theorem cw_s29 {Q : List Value → PT} {addr port : Bool} (h : Sep (fpW rb a) w0 w (CL rb a c l en cb tb ob t z x sl s)) (hz : z.length = 5) (hi : s.i ≤ 800000) (hn : x.nums.length ≤ 90) (hd : x.dash = false) (hs : x.slash = false)
    (hq : let m := if addr = true then moreW l en 4 s x.nums else (x.nums, false, s)
      let q := if port = true then moreW l en 5 m.2.2 m.1 else (m.1, false, m.2.2)
      CwQ Q w0 rb a c l en ⟨x.word, x.pos, q.1, m.2.1, q.2.1⟩ q.2.2) :
    ref06_Walk_Clause.s29 Z Q (some ⟨rb, 0, none⟩) ⟨ob, 0, none⟩ ⟨cb, 0, none⟩ addr port w := by
  obtain ⟨xw, xp, xn, xs, xd⟩ := x
  simp only at hd hn hq hs
  subst hd hs
  unfold ref06_Walk_Clause.s29
  simp only [nn_some, add_mk, Nat.zero_add]
  rw [pif_bool]
  split
  · rename_i hp
    subst hp
    simp only [if_true] at hq
    have hm := more_i (l := l) (en := en) (s := s) (k := 4) (ns := xn)
    unfold moreW at hq hm
    refine h.wNext 4 rfl fun w1 h1 => ?_
    refine ptI_of (n := (peekS l en s.i).kind) rfl ?_
    rw [pif_beq]
    split
    · rename_i hk
      rw [if_pos hk] at hq hm
      refine h1.st1 1 rfl (by simp [clEnc]) rfl fun w2 h2 k2 => ?_
      have h2 : Sep (fpW rb a) w0 w2 (CL rb a c l en cb tb ob t z ⟨xw, xp, xn, true, false⟩ sl s) := h2
      refine h2.wI 4 rfl ?_
      refine h2.wSkip 4 rfl (by omega) fun w3 h3 => ?_
      have h3 : Sep (fpW rb a) w0 w3 (CL rb a c l en cb tb ob t z ⟨xw, xp, xn, true, false⟩ sl (skipW s)) := h3
      refine cw_app h3 (by simp only [skipW]; omega) (by simp only; omega) fun w4 sl4 h4 => ?_
      exact cw_s26 h4 hz (by simp only at hm; omega) (by simp only at hm ⊢; omega) rfl hq
    · rename_i hk
      rw [if_neg hk] at hq
      exact cw_s26 h1 hz (by omega) (by simp only; omega) rfl hq
  · rename_i hp
    rw [if_neg hp] at hq
    exact cw_s26 h hz (by omega) (by simp only; omega) rfl hq
theorem cw_dots {Q : List Value → PT} {port : Bool} (hz : z.length = 5) : ∀ (m : Nat) (x : Cl) (sl : Sl3) (s : Ws) (w : World), m ≤ 3 → Sep (fpW rb a) w0 w (CL rb a c l en cb tb ob t z x sl s) → s.i + 2 * m ≤ 700010 → x.nums.length + m ≤ 80 →
    (∀ w' sl', Sep (fpW rb a) w0 w' (CL rb a c l en cb tb ob t z { x with nums := (dotsW l en m s x.nums).1 } sl' (dotsW l en m s x.nums).2) → ref06_Walk_Clause.s29 Z Q (some ⟨rb, 0, none⟩) ⟨ob, 0, none⟩ ⟨cb, 0, none⟩ true port w') →
    ref06_Walk_Clause.l38 Z Q (m + 1) (some ⟨rb, 0, none⟩) ⟨ob, 0, none⟩ ⟨cb, 0, none⟩ true port (3 - m : Int) w
  | 0, x, sl, s, w, hm, h, hi, hn, hk => by
    unfold ref06_Walk_Clause.l38 ref06_Walk_Clause.s41
    rw [pif_true, pif_dec, if_neg (by omega)]
    exact hk w sl h
  | m + 1, x, sl, s, w, hm, h, hi, hn, hk => by
    unfold ref06_Walk_Clause.l38 ref06_Walk_Clause.s41
    rw [pif_true, pif_dec, if_pos (by omega)]
    refine h.wKind 4 rfl (by omega) fun w1 h1 => ?_
    have h1 : Sep (fpW rb a) w0 w1 (CL rb a c l en cb tb ob t z x sl (kindW l en 3 s)) := h1
    have e1 := kind_i (l := l) (en := en) (s := s) (k := 3)
    simp only [add_mk, Nat.zero_add]
    refine cw_app h1 (by omega) (by omega) fun w2 sl2 h2 => ?_
    have e2 := fig_i2 (l := l) (en := en) (kindW l en 3 s)
    rw [show IntKind.wrap .i64 ((3 - ((m + 1 : Nat) : Int)) + 1) = 3 - (m : Int) by rw [wrap_in (by omega) (by omega)]; omega]
    exact cw_dots hz m _ sl2 _ w2 (by omega) h2 (by omega) (by simp; omega) hk
theorem cw_s49 {Q : List Value → PT} {f : Fg} (h : Sep (fpW rb a) w0 w (CL rb a c l en cb tb ob t z ⟨t.text, t.pos, [f], false, false⟩ sl s)) (hz : z.length = 5) (hi : s.i ≤ 700000)
    (hq : CwQ Q w0 rb a c l en (clauseW2 l en t s f).1 (clauseW2 l en t s f).2) :
    ref06_Walk_Clause.s49 Z Q (some ⟨rb, 0, none⟩) ⟨ob, 0, none⟩ ⟨cb, 0, none⟩ (addrT t.text) (portT t.text) w := by
  unfold ref06_Walk_Clause.s49
  unfold clauseW2 at hq
  simp only at hq
  cases ha : addrT t.text with
  | false =>
    rw [ha] at hq
    simp only [Bool.false_eq_true, if_false] at hq
    refine exK_of 1 ?_
    unfold ref06_Walk_Clause.l38 ref06_Walk_Clause.s41
    rw [pif_false]
    refine cw_s29 h hz (by omega) (by simp) rfl rfl ?_
    simp only [Bool.false_eq_true, if_false]
    exact hq
  | true =>
    rw [ha] at hq
    simp only [if_true] at hq
    refine exK_of (3 + 1) ?_
    refine cw_dots hz 3 _ sl s w (by decide) h (by omega) (by simp) fun w1 sl1 h1 => ?_
    obtain ⟨d1, d2⟩ := dots_i (l := l) (en := en) 3 s [f]
    refine cw_s29 h1 hz (by simp only; omega) (by simp only [d2]; simp) rfl rfl ?_
    simp only [if_true]
    exact hq
theorem cw_s52 {Q : List Value → PT} (h : Sep (fpW rb a) w0 w (CL rb a c l en cb tb ob t z ⟨t.text, t.pos, [], false, false⟩ sl s)) (hz : z.length = 5) (hi : s.i ≤ 600000)
    (hq : CwQ Q w0 rb a c l en (clauseW2 l en t (figW l en (skipW s)) (figV l en (skipW s))).1 (clauseW2 l en t (figW l en (skipW s)) (figV l en (skipW s))).2) :
    ref06_Walk_Clause.s52 Z Q (some ⟨rb, 0, none⟩) ⟨ob, 0, none⟩ ⟨cb, 0, none⟩ (addrT t.text) (portT t.text) w := by
  unfold ref06_Walk_Clause.s52
  simp only [nn_some, add_mk, Nat.zero_add]
  refine h.wI 4 rfl ?_
  refine h.wSkip 4 rfl (by omega) fun w1 h1 => ?_
  have h1 : Sep (fpW rb a) w0 w1 (CL rb a c l en cb tb ob t z ⟨t.text, t.pos, [], false, false⟩ sl (skipW s)) := h1
  refine cw_app h1 (by simp only [skipW]; omega) (by simp) fun w2 sl2 h2 => ?_
  exact cw_s49 h2 hz (by rw [fig_i2]; simp only [skipW]; omega) hq
theorem cw_had {Q : List Value → PT} {ha : Option Addr} {hn hc : Nat} {cps : List (Cl × Sl3)} (hh : Lst w0 55 5 clEnc ha hn hc cps) (hd : ∀ k, inB ha k → ¬ fpW rb a k) (hl : cps.length ≤ 100000) (hz : z.length = 5) :
    ∀ (m j : Nat) (s : Ws) (w : World), cps.length = j + m → Sep (fpW rb a) w0 w (CL rb a c l en cb tb ob t z ⟨t.text, t.pos, [], false, false⟩ sl s) → s.i ≤ 600000 →
    (∀ w', Sep (fpW rb a) w0 w' (CL rb a c l en cb tb ob t z ⟨t.text, t.pos, [], false, false⟩ sl (hadW l en t.text ((cps.drop j).map fun p => p.1.word) s)) → ref06_Walk_Clause.s52 Z Q (some ⟨rb, 0, none⟩) ⟨ob, 0, none⟩ ⟨cb, 0, none⟩ (addrT t.text) (portT t.text) w') →
    ref06_Walk_Clause.l61 Z Q (m + 1) (some ⟨rb, 0, none⟩) ha hn hc ⟨ob, 0, none⟩ ⟨tb, 0, none⟩ ⟨cb, 0, none⟩ (addrT t.text) (portT t.text) j w := by
  intro m
  induction m with
  | zero =>
    intro j s w hm h hi hk
    unfold ref06_Walk_Clause.l61 ref06_Walk_Clause.s64
    rw [pif_dec, if_neg (by rw [hh.1]; omega)]
    rw [List.drop_eq_nil_of_le (by omega)] at hk
    exact hk w h
  | succ m ih =>
    intro j s w hm h hi hk
    unfold ref06_Walk_Clause.l61 ref06_Walk_Clause.s64
    rw [pif_dec, if_pos (by rw [hh.1]; omega)]
    have h := h.drew
    show ixS _ _ _ _ _ w.drew
    generalize w.drew = w1 at h ⊢
    have hx := List.getElem?_eq_getElem (show j < cps.length by omega)
    rw [List.drop_eq_getElem_cons (by omega), List.map_cons] at hk
    unfold hadW at hk
    refine ixS_Lst clEnc_len (hh.keep h.kept hd) hx fun b hb hcl => ?_
    refine ldS_of (by rw [add_mk]; exact hcl 0 _ rfl) ?_
    simp only [add_mk, Nat.zero_add]
    refine h.ldS 2 rfl rfl ?_
    rw [wrap_nat1 (by omega)]
    show pif (same (cps[j]).1.word t.text) _ _ w1
    rw [pif_bool]
    split
    · rename_i hs
      rw [if_pos hs] at hk
      refine h.wWrong 4 rfl fun w2 h2 => ?_
      exact ih (j + 1) _ w2 (by omega) h2 (by rw [wrong_i]; exact hi) hk
    · rename_i hs
      rw [if_neg hs] at hk
      exact ih (j + 1) s w1 (by omega) h hi hk
theorem clause2_F {Q : List Value → PT} {ha : Option Addr} {hn hc : Nat} {cps : List (Cl × Sl3)} (h : Wk w rb a c l en s) (hi : s.i ≤ 600000) (hh : Lst w 55 5 clEnc ha hn hc cps) (hd : ∀ k, inB ha k → ¬ fpW rb a k) (hl : cps.length ≤ 100000)
    (hq : CwQ Q w rb a c l en (clauseW l en (cps.map fun p => p.1.word) s).1 (clauseW l en (cps.map fun p => p.1.word) s).2) : ref06_Walk_Clause.F Z Q (some ⟨rb, 0, none⟩) ha hn hc w := by
  unfold ref06_Walk_Clause.F ref06_Walk_Clause.s79
  refine (Sep.start1 (f := fW rb a c l en s) (S := fpW rb a) h fun k hk => hk).new fun w1 ob h1 k1 => ?_
  refine h1.wNext 1 rfl fun w2 h2 => ?_
  unfold clauseW at hq
  simp only at hq
  generalize ht : peekS l en s.i = t at hq ⊢
  refine h2.new fun w3 tb h3 k3 => ?_
  refine h3.stN 0 rfl (by simp) rfl (Tk.enc_one _) (cs' := t.enc) (by simp [lay, Tk.enc]) fun w4 h4 k4 => ?_
  simp only [add_mk, Nat.zero_add]
  refine h4.ldS 0 rfl rfl (h4.ldI 0 rfl rfl ?_)
  refine h4.new fun w5 cb h5 k5 => ?_
  refine h5.stN 0 rfl (by simp) rfl (by simp [Value.oneCell']) (cs' := clEnc (⟨t.text, t.pos, [], false, false⟩, ⟨none, 0, 0⟩)) (by simp [lay, clEnc]) fun w6 h6 k6 => ?_
  have h7 : Sep (fpW rb a) w w6 (CL rb a c l en cb tb ob t [.string ⟨#[]⟩, .int .i64 0, .slice none 0 0, .bool false, .bool false] ⟨t.text, t.pos, [], false, false⟩ ⟨none, 0, 0⟩ s) := h6.add Keep.refl (f := fNums ⟨none, 0, 0⟩ []) Lst.nil fun k ⟨p, hp, _⟩ => by cases hp
  have e1 := clauseW1_i (l := l) (en := en) (s := s) (t := t) (had := cps.map fun p => p.1.word)
  have s72 : ∀ (s1 : Ws) (w7 : World), s1.i = s.i → s1 = (if addrT t.text = false ∧ portT t.text = false ∧ same t.text wProto = false then wrongW l en 8 s else s) → Sep (fpW rb a) w w7 (CL rb a c l en cb tb ob t [.string ⟨#[]⟩, .int .i64 0, .slice none 0 0, .bool false, .bool false] ⟨t.text, t.pos, [], false, false⟩ ⟨none, 0, 0⟩ s1) → ref06_Walk_Clause.s72 Z Q (some ⟨rb, 0, none⟩) ha hn hc ⟨ob, 0, none⟩ ⟨tb, 0, none⟩ ⟨cb, 0, none⟩ (addrT t.text) (portT t.text) w7 := fun s1 w7 hi1 he h7 => by
    unfold ref06_Walk_Clause.s72
    refine exK_of (cps.length + 1) (cw_had hh hd hl rfl cps.length 0 s1 w7 (by omega) h7 (by omega) fun w8 h8 => ?_)
    rw [List.drop_zero, he] at h8
    refine cw_s52 h8 rfl ?_ hq
    have : (clauseW1 l en (cps.map fun p => p.1.word) t s).i ≤ 600000 := by rw [e1]; exact hi
    exact this
  have s75 : ∀ (p : Bool), p = portT t.text → ref06_Walk_Clause.s75 Z Q (some ⟨rb, 0, none⟩) ha hn hc ⟨ob, 0, none⟩ ⟨tb, 0, none⟩ ⟨cb, 0, none⟩ (addrT t.text) p w6 := fun p hp => by
    subst hp
    unfold ref06_Walk_Clause.s75
    rw [pif_not, pif_not, pif_bool]
    split
    · rename_i ha
      exact s72 s w6 rfl (by rw [if_neg (by simp [ha])]) h7
    · rename_i ha
      rw [pif_bool]
      split
      · rename_i hp
        exact s72 s w6 rfl (by rw [if_neg (by simp [hp])]) h7
      · rename_i hp
        simp only [add_mk, Nat.zero_add]
        refine h7.ldS 2 rfl rfl ?_
        rw [pif_not]
        show pif (same t.text wProto) _ _ w6
        rw [pif_bool]
        split
        · rename_i hs
          exact s72 s w6 rfl (by rw [if_neg (by simp [hs])]) h7
        · rename_i hs
          refine h7.wWrong 4 rfl fun w8 h8 => ?_
          exact s72 _ w8 wrong_i (by rw [if_pos (by simp at ha hp hs; simp [ha, hp, hs])]) h8
  have s77 : ∀ (p : Bool), p = addrT t.text → ref06_Walk_Clause.s77 Z Q (some ⟨rb, 0, none⟩) ha hn hc ⟨ob, 0, none⟩ ⟨tb, 0, none⟩ ⟨cb, 0, none⟩ p w6 := fun p hp => by
    subst hp
    unfold ref06_Walk_Clause.s77
    simp only [add_mk, Nat.zero_add]
    refine h7.ldS 2 rfl rfl ?_
    show pif (same t.text wSport) _ _ w6
    rw [pif_bool]
    split
    · rename_i hs
      exact s75 true (by simp [portT, hs])
    · rename_i hs
      refine h7.ldS 2 rfl rfl ?_
      exact s75 _ (by show same t.text wDport = _; simp [portT, hs])
  refine h7.ldS 2 rfl rfl ?_
  show pif (same t.text wSrc) _ _ w6
  rw [pif_bool]
  split
  · rename_i hs
    exact s77 true (by simp [addrT, hs])
  · rename_i hs
    refine h7.ldS 2 rfl rfl ?_
    exact s77 _ (by show same t.text wDst = _; simp [addrT, hs])
end
end Go.Proofs.YtllgjjldnnmjkaaDoor
end
section
set_option maxRecDepth 100000
namespace Go.Proofs.YtllgjjldnnmjkaaDoor
open Go.RowKit
abbrev fCls (sl : Sl3) (cps : List (Cl × Sl3)) : Fct := fN 55 5 clEnc (fun p => fNums p.2 p.1.nums) sl.a sl.n sl.c cps
abbrev RL (rb : Nat) (a : Option Addr) (c : Nat) (l : List Tk) (en : Int) (xb ob : Nat) (z : List Value) (x : Rw) (sl : Sl3) (cps : List (Cl × Sl3)) (s : Ws) : List Fct := [fCls sl cps, fB xb (rwEnc (x, sl)), fB ob z, fW rb a c l en s]
/-- What is asked behind a line. -/
def RwQ (Q : List Value → PT) (w0 : World) (rb : Nat) (a : Option Addr) (c : Nat) (l : List Tk) (en : Int) (x : Rw) (s : Ws) : Prop := ∀ (sl : Sl3) (cps : List (Cl × Sl3)) w', x.clauses = cps.map Prod.fst → Keep (fpW rb a) w0 w' → Wk w' rb a c l en s → (fCls sl cps).P w' → (∀ k, (fCls sl cps).fp k → w0.heap.size ≤ k) → Q (rwEnc (x, sl)) w'
section
variable {Z : List PanicEntry → PT} {w0 w : World} {rb xb ob : Nat} {a : Option Addr} {c : Nat} {l : List Tk} {en : Int} {s : Ws} {z : List Value} {x : Rw} {sl : Sl3} {cps : List (Cl × Sl3)}
theorem rw_fin {Q : List Value → PT} (h : Sep (fpW rb a) w0 w (RL rb a c l en xb ob z x sl cps s)) (hz : z.length = 8) (hc : x.clauses = cps.map Prod.fst) (hq : RwQ Q w0 rb a c l en x s) : ldN 8 ⟨xb, 0, none⟩ (fun v => stN 8 ⟨ob, 0, none⟩ v (ldN 8 ⟨ob, 0, none⟩ fun u => Q u)) w := by
  refine h.ldN 1 rfl (vs := rwEnc (x, sl)) rfl rfl ?_
  refine h.stN 2 rfl (by omega) rfl (rwEnc_one _) (cs' := rwEnc (x, sl)) ?_ fun w1 h1 k1 => ?_
  · unfold lay
    rw [List.take_zero, List.drop_eq_nil_of_le (by rw [rwEnc_len]; omega)]
    simp
  · refine h1.ldN 2 rfl (vs := rwEnc (x, sl)) rfl rfl ?_
    refine hq sl cps w1 hc h1.kept (h1.at (n := 3) rfl) (h1.at (n := 0) rfl) fun k hk => ?_
    rcases h1.own (fCls sl cps) (by simp) k hk with g | g
    · exact g
    · have : apart (fCls sl cps) (fW rb a c l en s) := pw_at apart.symm h1.dis (i := 0) (j := 3) rfl rfl (by decide)
      exact absurd g (this k hk)
theorem rw_s14 {Q : List Value → PT} (h : Sep (fpW rb a) w0 w (RL rb a c l en xb ob z x sl cps s)) (hz : z.length = 8) (hc : x.clauses = cps.map Prod.fst) (hq : RwQ Q w0 rb a c l en x (tailW l en s)) : ref06_Walk_Row.s14 Z Q (some ⟨rb, 0, none⟩) ⟨ob, 0, none⟩ ⟨xb, 0, none⟩ w := by
  unfold ref06_Walk_Row.s14
  have h := h.drew
  show nn _ _ w.drew
  generalize w.drew = w1 at h ⊢
  simp only [nn_some, add_mk, Nat.zero_add]
  have hw : Wk w1 rb a c l en s := h.at (n := 3) rfl
  refine h.wI 3 rfl ?_
  refine ldL_of (hw.cell.cell 0) ?_
  unfold tailW at hq
  rw [pif_dec]
  split
  · rename_i hi
    have hi : s.i < l.length := by omega
    refine ldL_of (hw.cell.cell 0) ?_
    refine h.wI 3 rfl ?_
    have hx := List.getElem?_eq_getElem hi
    have ep : (peekS l en s.i) = l[s.i] := by
      unfold peekS
      rw [if_pos hi, hx]; rfl
    refine ixS_Lst Tk.enc_len hw.toks hx fun b hb hcl => ?_
    refine ldI_of (by rw [add_mk]; exact hcl 0 _ rfl) ?_
    rw [pif_bne]
    split
    · rename_i h7
      rw [if_neg (fun g => g.2 (by rw [ep]; exact h7))] at hq
      exact rw_fin h hz hc hq
    · rename_i h7
      rw [if_pos ⟨hi, by rw [ep]; exact h7⟩] at hq
      refine h.wWrong 3 rfl fun w2 h2 => ?_
      exact rw_fin h2 hz hc hq
  · rename_i hi
    rw [if_neg (fun g => hi (by have := g.1; omega))] at hq
    exact rw_fin h hz hc hq
theorem rw_s34 {Q : List Value → PT} (h : Sep (fpW rb a) w0 w (RL rb a c l en xb ob z x sl cps s)) (hz : z.length = 8) (hc : x.clauses = cps.map Prod.fst) (hi : s.i ≤ 900000) (hq : RwQ Q w0 rb a c l en (actW2 l en x s).1 (actW2 l en x s).2) : ref06_Walk_Row.s34 Z Q (some ⟨rb, 0, none⟩) ⟨ob, 0, none⟩ ⟨xb, 0, none⟩ w := by
  unfold ref06_Walk_Row.s34
  refine h.wWord 3 rfl fun w1 h1 => ?_
  unfold actW2 at hq
  simp only at hq
  show pif (wordW l en wDrop s) _ _ w1
  rw [pif_bool]
  split
  · rename_i hd
    rw [if_pos hd] at hq
    unfold ref06_Walk_Row.s23
    simp only [nn_some, add_mk, Nat.zero_add]
    refine h1.st1 1 rfl (by simp [rwEnc]) rfl fun w2 h2 k2 => ?_
    have h2 : Sep (fpW rb a) w0 w2 (RL rb a c l en xb ob z { x with drop := true } sl cps s) := h2
    refine h2.wI 3 rfl ?_
    refine h2.wSkip 3 rfl (by omega) fun w3 h3 => ?_
    exact rw_s14 h3 hz hc hq
  · rename_i hd
    rw [if_neg hd] at hq
    have s29 : ∀ (s1 : Ws) (w2 : World), s1.i = s.i → s1 = (if wordW l en wPort s = true then s else wrongW l en 8 s) → Sep (fpW rb a) w0 w2 (RL rb a c l en xb ob z x sl cps s1) → ref06_Walk_Row.s29 Z Q (some ⟨rb, 0, none⟩) ⟨ob, 0, none⟩ ⟨xb, 0, none⟩ w2 := fun s1 w2 e1 e2 h2 => by
      rw [← e2] at hq
      unfold ref06_Walk_Row.s29
      simp only [nn_some, add_mk, Nat.zero_add]
      refine h2.wI 3 rfl ?_
      refine h2.wSkip 3 rfl (by omega) fun w3 h3 => ?_
      refine h3.wFig 3 rfl (by simp only [skipW]; omega) fun w4 h4 => ?_
      refine h4.stN 1 rfl (by simp [rwEnc]) rfl (Fg.enc_one _) (cs' := rwEnc ({ x with port := figV l en (skipW s1) }, sl)) (by simp [lay, rwEnc, Fg.enc]) fun w5 h5 k5 => ?_
      exact rw_s14 h5 hz hc hq
    unfold ref06_Walk_Row.s31
    refine h1.wWord 3 rfl fun w2 h2 => ?_
    rw [pif_not]
    show pif (wordW l en wPort s) _ _ w2
    rw [pif_bool]
    split
    · rename_i hp
      exact s29 s w2 rfl (by rw [if_pos hp]) h2
    · rename_i hp
      refine h2.wWrong 3 rfl fun w3 h3 => ?_
      exact s29 _ w3 wrong_i (by rw [if_neg hp]) h3
theorem rw_s37 {Q : List Value → PT} (h : Sep (fpW rb a) w0 w (RL rb a c l en xb ob z x sl cps s)) (hz : z.length = 8) (hc : x.clauses = cps.map Prod.fst) (hi : s.i ≤ 800000) (hq : RwQ Q w0 rb a c l en (actW l en x s).1 (actW l en x s).2) : ref06_Walk_Row.s37 Z Q (some ⟨rb, 0, none⟩) ⟨ob, 0, none⟩ ⟨xb, 0, none⟩ w := by
  unfold ref06_Walk_Row.s37
  refine h.wKind 3 rfl (by omega) fun w1 h1 => ?_
  exact rw_s34 h1 hz hc (by rw [kind_i]; omega) hq
theorem clauseW_i {had : List ByteArray} : s.i + 2 ≤ (clauseW l en had s).2.i ∧ (clauseW l en had s).2.i ≤ s.i + 12 := by
  unfold clauseW
  simp only
  generalize peekS l en s.i = t
  have e1 := clauseW1_i (l := l) (en := en) (s := s) (t := t) (had := had)
  have e2 := fig_i2 (l := l) (en := en) (skipW (clauseW1 l en had t s))
  have e3 : (skipW (clauseW1 l en had t s)).i = s.i + 1 := by simp only [skipW, e1]
  generalize figV l en (skipW (clauseW1 l en had t s)) = f
  rw [e3] at e2
  generalize figW l en (skipW (clauseW1 l en had t s)) = s1 at e2
  unfold clauseW2
  simp only
  have d := dots_i (l := l) (en := en) 3 s1 [f]
  have m1 := fun (s : Ws) ns => more_i (l := l) (en := en) (s := s) (k := 4) (ns := ns)
  have m2 := fun (s : Ws) ns => more_i (l := l) (en := en) (s := s) (k := 5) (ns := ns)
  by_cases ha : addrT t.text = true <;> by_cases hp : portT t.text = true <;> simp only [ha, hp, if_true, if_false, Bool.false_eq_true]
  · have := m1 (dotsW l en 3 s1 [f]).2 (dotsW l en 3 s1 [f]).1
    have := m2 (moreW l en 4 (dotsW l en 3 s1 [f]).2 (dotsW l en 3 s1 [f]).1).2.2 (moreW l en 4 (dotsW l en 3 s1 [f]).2 (dotsW l en 3 s1 [f]).1).1
    omega
  · have := m1 (dotsW l en 3 s1 [f]).2 (dotsW l en 3 s1 [f]).1
    omega
  · have := m2 s1 [f]
    omega
  · omega
theorem rw_loop {Q : List Value → PT} (hz : z.length = 8) (hl : l.length ≤ 10000) : ∀ (m : Nat) (x : Rw) (sl : Sl3) (cps : List (Cl × Sl3)) (s : Ws) (w : World), l.length ≤ s.i + m → s.i ≤ 100000 → cps.length ≤ s.i → x.clauses = cps.map Prod.fst → Sep (fpW rb a) w0 w (RL rb a c l en xb ob z x sl cps s) →
    RwQ Q w0 rb a c l en (actW l en { x with clauses := (clausesW l en m s x.clauses).1 } (clausesW l en m s x.clauses).2).1 (actW l en { x with clauses := (clausesW l en m s x.clauses).1 } (clausesW l en m s x.clauses).2).2 →
    ref06_Walk_Row.l55 Z Q (m + 1) (some ⟨rb, 0, none⟩) ⟨ob, 0, none⟩ ⟨xb, 0, none⟩ w := by
  intro m
  induction m with
  | zero =>
    intro x sl cps s w hlen hi hcl hc h hq
    unfold ref06_Walk_Row.l55 ref06_Walk_Row.s57
    simp only [nn_some, add_mk, Nat.zero_add]
    have fin : ∀ w', Sep (fpW rb a) w0 w' (RL rb a c l en xb ob z x sl cps s) → ref06_Walk_Row.s37 Z Q (some ⟨rb, 0, none⟩) ⟨ob, 0, none⟩ ⟨xb, 0, none⟩ w' := fun w' h' => rw_s37 h' hz hc (by omega) hq
    refine h.wB 3 rfl ?_
    rw [pif_beq]
    split
    · refine h.wNext 3 rfl fun w1 h1 => ?_
      refine ptI_of (n := (peekS l en s.i).kind) rfl ?_
      rw [pif_beq, if_neg]
      · exact fin w1 h1
      · unfold peekS
        rw [if_neg (by omega)]
        simp
    · exact fin w h
  | succ m ih =>
    intro x sl cps s w hlen hi hcl hc h hq
    unfold ref06_Walk_Row.l55 ref06_Walk_Row.s57
    simp only [nn_some, add_mk, Nat.zero_add]
    have fin : ¬ (s.b = 0 ∧ (peekS l en s.i).kind = 1) → ∀ w', Sep (fpW rb a) w0 w' (RL rb a c l en xb ob z x sl cps s) → ref06_Walk_Row.s37 Z Q (some ⟨rb, 0, none⟩) ⟨ob, 0, none⟩ ⟨xb, 0, none⟩ w' := fun hn w' h' => by
      unfold clausesW at hq
      rw [if_neg hn] at hq
      exact rw_s37 h' hz hc (by omega) hq
    refine h.wB 3 rfl ?_
    rw [pif_beq]
    split
    · rename_i hb
      refine h.wNext 3 rfl fun w1 h1 => ?_
      refine ptI_of (n := (peekS l en s.i).kind) rfl ?_
      rw [pif_beq]
      split
      · rename_i hk
        have hin := peekS_in (l := l) (en := en) (i := s.i) (by omega)
        unfold clausesW at hq
        rw [if_pos ⟨hb, hk⟩] at hq
        have ci := clauseW_i (l := l) (en := en) (s := s) (had := x.clauses.map Cl.word)
        refine h1.drawn (fun w' => IsB w' xb (rwEnc (x, sl))) (h1.drew.at (n := 1) rfl : IsB _ _ _) fun h1 => ?_
        refine hL_of (fun w' hw' => hw'.cell 4) ?_
        refine hL_of (fun w' hw' => hw'.cell 4) ?_
        have hcw : x.clauses.map Cl.word = cps.map fun p => p.1.word := by rw [hc, List.map_map]; rfl
        have hap : apart (fCls sl cps) (fW rb a c l en s) := pw_at apart.symm h1.dis (i := 0) (j := 3) rfl rfl (by decide)
        refine ref06_Walk_Clause.cal (clause2_F (h1.at (n := 3) rfl : Wk _ rb a c l en s) (by omega) (h1.at (n := 0) rfl : (fCls sl cps).P _).1 (fun k hk => hap k (.inl hk)) (by omega) ?_)
        rw [← hcw]
        generalize clauseW l en (x.clauses.map Cl.word) s = r at ci hq ⊢
        obtain ⟨y, s2⟩ := r
        simp only at ci hq ⊢
        intro sn w2 k2 g2 n2 i2
        have h2 : Sep (fpW rb a) w0 w2 (fNums sn y.nums :: RL rb a c l en xb ob z x sl cps s2) := h1.turnAdd (n := 3) rfl k2 (g := fW rb a c l en s2) g2 (fun k hk => hk) (q := fNums sn y.nums) n2 i2
        refine sAnd_of (h2.at (n := 2) rfl : IsB _ _ _) (cnd_of (clEnc_len _) ?_)
        rw [List.append_nil]
        refine h2.new fun w3 b3 h3 k3 => ?_
        refine sAnd_of (h3.at (n := 3) rfl : IsB _ _ _) ?_
        refine h3.appN 2 1 (x := (y, sn)) rfl rfl (by decide) (bytes := 56) (z := .agg #[.string noText, .int .i64 0, .slice none 0 0, .bool false, .bool false]) Tryd.underlying50 (by kernel_rfl) rfl (by decide) clEnc_len (clEnc_one _) (fun j u hu => by rw [add_mk, Nat.zero_add, (h3.at (n := 0) rfl : IsB _ _ _).cell]; exact hu) (by decide) (by omega) fun a' c' w4 h4 k4 => ?_
        refine sAnd_of (h4.at (n := 3) rfl : IsB _ _ _) ?_
        refine h4.st1 3 rfl (by simp [rwEnc]) rfl fun w5 h5 k5 => ?_
        refine ih { x with clauses := x.clauses ++ [y] } ⟨a', sl.n + 1, c'⟩ (cps ++ [(y, sn)]) s2 w5 (by omega) (by omega) (by simp; omega) (by simp [hc]) ((h5.drop 0).drop 0) hq
      · rename_i hk
        exact fin (fun g => hk g.2) w1 h1
    · rename_i hb
      exact fin (fun g => hb g.1) w h
theorem row_F {Q : List Value → PT} (h : Wk w rb a c l en s) (hi : s.i ≤ 20000) (hl : l.length ≤ 10000) (hq : RwQ Q w rb a c l en (rowW l en s).1 (rowW l en s).2) : ref06_Walk_Row.F Z Q (some ⟨rb, 0, none⟩) w := by
  unfold ref06_Walk_Row.F ref06_Walk_Row.s71
  refine (Sep.start1 (f := fW rb a c l en s) (S := fpW rb a) h fun k hk => hk).new fun w1 ob h1 k1 => ?_
  refine h1.wNext 1 rfl fun w2 h2 => ?_
  refine ptI_of (n := (peekS l en s.i).pos) rfl ?_
  refine h2.new fun w3 xb h3 k3 => ?_
  refine h3.stN 0 rfl (by simp) rfl (by simp [Value.oneCell']) (cs' := rwEnc (rw0 (peekS l en s.i).pos, ⟨none, 0, 0⟩)) (by simp [lay, rwEnc, rw0]) fun w4 h4 k4 => ?_
  have h5 : Sep (fpW rb a) w w4 (RL rb a c l en xb ob [.int .i64 0, .bool false, .int .i64 0, .int .i64 0, .slice none 0 0, .bool false, .int .i64 0, .int .i64 0] (rw0 (peekS l en s.i).pos) ⟨none, 0, 0⟩ [] s) := h4.add Keep.refl (f := fCls ⟨none, 0, 0⟩ []) ⟨Lst.nil, by simp, by simp⟩ fun k hk => hk.elim (fun ⟨p, hp, _⟩ => by cases hp) (fun ⟨y, hy, _⟩ => by cases hy)
  unfold rowW at hq
  simp only at hq
  unfold ref06_Walk_Row.s68
  refine h5.wWord 3 rfl fun w6 h6 => ?_
  show pif (wordW l en wDefault s) _ _ w6
  rw [pif_bool]
  split
  · rename_i hd
    rw [if_pos hd] at hq
    unfold ref06_Walk_Row.s45
    simp only [nn_some, add_mk, Nat.zero_add]
    refine h6.st1 1 rfl (by simp [rwEnc]) rfl fun w7 h7 k7 => ?_
    have h7 : Sep (fpW rb a) w w7 (RL rb a c l en xb ob _ { rw0 (peekS l en s.i).pos with default := true } ⟨none, 0, 0⟩ [] s) := h7
    refine h7.wI 3 rfl ?_
    refine h7.wSkip 3 rfl (by omega) fun w8 h8 => ?_
    exact rw_s37 h8 rfl rfl (by simp only [skipW]; omega) hq
  · rename_i hd
    rw [if_neg hd] at hq
    unfold ref06_Walk_Row.s65
    refine h6.wFig 3 rfl (by omega) fun w7 h7 => ?_
    simp only [add_mk, Nat.zero_add]
    refine h7.stN 1 rfl (by simp [rwEnc]) rfl (Fg.enc_one _) (cs' := rwEnc ({ rw0 (peekS l en s.i).pos with prio := figV l en s }, ⟨none, 0, 0⟩)) (by simp [lay, rwEnc, Fg.enc]) fun w8 h8 k8 => ?_
    have fi := fig_i2 (l := l) (en := en) s
    refine exK_of (l.length - (figW l en s).i + 1) ?_
    exact rw_loop rfl hl _ { rw0 (peekS l en s.i).pos with prio := figV l en s } ⟨none, 0, 0⟩ [] (figW l en s) w8 (by omega) (by omega) (by simp) rfl h8 hq
end
end Go.Proofs.YtllgjjldnnmjkaaDoor
end
section
set_option maxRecDepth 100000
namespace Go.Proofs.YtllgjjldnnmjkaaDoor
open Go.RowKit

section
variable {Z : List PanicEntry → PT} {s : ByteArray} {w : World}
theorem kind_F {Q : Int → PT} {c : Int} (hq : Q (kindOf c) w) : ref05_Kind.F Z Q c w := by
  have is : ∀ {k : Int}, kindOf c = k → Q k w := fun h => by rw [← h]; exact hq
  have last : ¬ (c = 9 ∨ c = 13 ∨ c = 32) → ¬ (c ≥ 97 ∧ c ≤ 122) → ¬ (c ≥ 48 ∧ c ≤ 57) → ref05_Kind.s9 Z Q c w := fun h1 h2 h3 => by
    unfold ref05_Kind.s9
    rw [pif_beq]; split
    · exact is (by unfold kindOf; grind (splits := 30))
    rw [pif_beq]; split
    · exact is (by unfold kindOf; grind (splits := 30))
    rw [pif_beq]; split
    · exact is (by unfold kindOf; grind (splits := 30))
    rw [pif_beq]; split
    · exact is (by unfold kindOf; grind (splits := 30))
    rw [pif_beq]; split
    · exact is (by unfold kindOf; grind (splits := 30))
    · exact is (by unfold kindOf; grind (splits := 30))
  have tail : ¬ (c = 9 ∨ c = 13 ∨ c = 32) → ¬ (c ≥ 97 ∧ c ≤ 122) → ref05_Kind.s12 Z Q c w := fun h1 h2 => by
    unfold ref05_Kind.s12
    rw [pif_dec]; split
    · rw [pif_dec]; split
      · exact is (by unfold kindOf; grind (splits := 30))
      · exact last h1 h2 (by omega)
    · exact last h1 h2 (by omega)
  unfold ref05_Kind.F ref05_Kind.s14
  rw [pif_beq]; split
  · exact is (by unfold kindOf; grind (splits := 30))
  rw [pif_beq]; split
  · exact is (by unfold kindOf; grind (splits := 30))
  rw [pif_beq]; split
  · exact is (by unfold kindOf; grind (splits := 30))
  rw [pif_dec]; split
  · rw [pif_dec]; split
    · exact is (by unfold kindOf; grind (splits := 30))
    · exact tail (by omega) (by omega)
  · exact tail (by omega) (by omega)

theorem value_loop {Q : Int → PT} (hd : ∀ i, i < s.size → 48 ≤ by_ s i ∧ by_ s i ≤ 57) (hs : s.size ≤ 1000000) (hq : Q (numV s) w) :
    ∀ (m j : Nat), j + m = s.size → valU s j ≤ 4294967295 → ref05_value.l18 Z Q (m + 1) s (valU s j : Nat) j w
  | 0, j, h, hv => by
    unfold ref05_value.l18 ref05_value.s21 ref05_value.s8
    rw [pif_dec, if_neg (by omega)]
    obtain rfl : j = s.size := by omega
    unfold numV at hq
    rw [pif_dec]
    split
    · rename_i h1
      refine ixT_by (i := 0) (K := fun v => pif (v == 48) _ _) (by omega) ?_
      rw [pif_beq]
      split
      · rwa [if_pos ⟨by omega, by assumption⟩] at hq
      · rename_i h0
        rwa [if_neg (fun h => h0 h.2), if_neg (by omega)] at hq
    · rwa [if_neg (by omega), if_neg (by omega)] at hq
  | m + 1, j, h, hv => by
    unfold ref05_value.l18 ref05_value.s21
    rw [pif_dec, if_pos (by omega)]
    have hb := hd j (by omega)
    refine ixT_by (K := fun v => pif (decide ((IntKind.wrap .i64 ((IntKind.wrap .i64 ((IntKind.wrap .i64 ((valU s j : Nat) * 10)) + (IntKind.wrap .i64 v))) - 48)) > 4294967295)) (Q (-1)) (ref05_value.l18 Z Q (m + 1) s (IntKind.wrap .i64 ((IntKind.wrap .i64 ((IntKind.wrap .i64 ((valU s j : Nat) * 10)) + (IntKind.wrap .i64 v))) - 48)) (IntKind.wrap .i64 ((j : Int) + 1)))) (by omega) ?_
    rw [wrap_in (n := by_ s j) (by omega) (by omega), wrap_in (n := ((valU s j : Nat) : Int) * 10) (by omega) (by omega), wrap_in (n := ((valU s j : Nat) : Int) * 10 + by_ s j) (by omega) (by omega), wrap_in (by omega) (by omega), wrap_nat1 (by omega)]
    have : ((valU s j : Nat) : Int) * 10 + by_ s j - 48 = ((valU s (j + 1) : Nat) : Int) := by simp only [valU]; omega
    rw [this, pif_dec]
    split
    · have hm := valU_mono (d := s) (i := j + 1) (j := s.size) (by omega)
      unfold numV at hq
      rw [if_pos (c := valU s s.size > 4294967295) (by omega)] at hq
      split at hq <;> exact hq
    · exact value_loop hd hs hq m (j + 1) (by omega) (by omega)
theorem value_F {Q : Int → PT} (hd : ∀ i, i < s.size → 48 ≤ by_ s i ∧ by_ s i ≤ 57) (hs : s.size ≤ 1000000) (hq : Q (numV s) w) : ref05_value.F Z Q s w := by
  unfold ref05_value.F ref05_value.s32 ref05_value.s29
  exact exK_of (s.size + 1) (value_loop hd hs hq s.size 0 (by omega) (by simp [valU]))

section
variable {Q : Option Addr → Nat → Nat → Int → Int → PT} {X1 : ByteArray → Option Addr → Nat → Nat → Int → PT} {a : Option Addr} {n c : Nat} {i : Int}
/-- The remark's run. -/
theorem rem_loop (hs : s.size ≤ 1000000) : ∀ (m e : Nat), s.size ≤ e + m → ref05_Tokens.s55 Z Q X1 s a n c i 9 (runEnd markB s m e : Nat) w → ref05_Tokens.l61 Z Q X1 (m + 1) s a n c i 9 e w
  | 0, e, h1, hq => by
    unfold ref05_Tokens.l61 ref05_Tokens.s64
    rw [pif_beq, if_pos rfl, pif_dec, if_neg (by omega)]
    exact hq
  | m + 1, e, h1, hq => by
    unfold ref05_Tokens.l61 ref05_Tokens.s64
    rw [pif_beq, if_pos rfl, pif_dec]
    unfold runEnd at hq
    split
    · rename_i hlt
      refine ixT_by (K := fun v => pif (v != 10) _ _) (by omega) ?_
      rw [pif_bne]
      split
      · rename_i h0
        rw [if_neg (by simp [markB, h0])] at hq
        exact hq
      · rename_i h0
        rw [if_pos ⟨by omega, by simpa [markB] using h0⟩] at hq
        rw [wrap_nat1 (by omega)]
        exact rem_loop hs m (e + 1) (by omega) hq
    · rw [if_neg (by omega)] at hq
      exact hq
theorem rem_no {k : Int} {e : Int} (hk : k ≠ 9) (hq : ref05_Tokens.s55 Z Q X1 s a n c i k e w) : exK (fun f => ref05_Tokens.l61 Z Q X1 f s a n c i k e) w := by
  refine exK_of 1 ?_
  unfold ref05_Tokens.l61 ref05_Tokens.s64
  rw [pif_beq, if_neg hk]
  exact hq
/-- A word's or a number's run. -/
theorem run2_loop {k : Int} {p : Int → Bool} (hk : k = 1 ∨ k = 2) (hp : ∀ c, kindOf c = k ↔ p c = true) (hs : s.size ≤ 1000000) :
    ∀ (m e : Nat), s.size ≤ e + m → ref05_Tokens.s55 Z Q X1 s a n c i k (runEnd p s m e : Nat) w → ref05_Tokens.l77 Z Q X1 (m + 1) s a n c i k e w
  | m, e, h1, hq => by
    have key : (pif (decide ((e : Int) < ((s.size : Nat) : Int))) (ixT s e fun v56 => (cal Tryd.prog Z 69 [(Value.int .u8 ((v56.toNat : Nat) : Int))] (isI .i64 fun v57 => (pif (v57 == k) (ref05_Tokens.l77 Z Q X1 m s a n c i k (IntKind.wrap .i64 ((e : Int) + 1))) (exK fun f => ref05_Tokens.l61 Z Q X1 f s a n c i k e))))) (exK fun f => ref05_Tokens.l61 Z Q X1 f s a n c i k e)) w := by
      have stop : runEnd p s m e = e → exK (fun f => ref05_Tokens.l61 Z Q X1 f s a n c i k e) w := fun he => by
        rw [he] at hq
        exact rem_no (by omega) hq
      rw [pif_dec]
      split
      · rename_i hlt
        refine ixT_by (K := fun v => cal Tryd.prog Z 69 [Value.int .u8 v] _) (by omega) ?_
        refine ref05_Kind.cal (kind_F ?_)
        rw [pif_beq]
        cases m with
        | zero => omega
        | succ m =>
          unfold runEnd at hq stop
          split
          · rename_i hkk
            rw [if_pos ⟨by omega, (hp _).1 hkk⟩] at hq
            rw [wrap_nat1 (by omega)]
            exact run2_loop hk hp hs m (e + 1) (by omega) hq
          · rename_i hkk
            exact stop (by rw [if_neg (fun h => hkk ((hp _).2 h.2))])
      · refine stop ?_
        cases m with
        | zero => rfl
        | succ m => unfold runEnd; rw [if_neg (by omega)]
    unfold ref05_Tokens.l77 ref05_Tokens.s80
    rcases hk with rfl | rfl
    · rw [pif_beq, if_pos rfl]; exact key
    · rw [pif_beq, if_neg (by decide), pif_beq, if_pos rfl]; exact key
theorem run2_no {k e : Int} (h1 : k ≠ 1) (h2 : k ≠ 2) (hq : exK (fun f => ref05_Tokens.l61 Z Q X1 f s a n c i k e) w) : exK (fun f => ref05_Tokens.l77 Z Q X1 f s a n c i k e) w := by
  refine exK_of 1 ?_
  unfold ref05_Tokens.l77 ref05_Tokens.s80
  rw [pif_beq, if_neg h1, pif_beq, if_neg h2]
  exact hq
end

theorem tokens2_loop {Q : Option Addr → Nat → Nat → Int → Int → PT} {w0 : World} (hs : s.size ≤ 4096) :
    ∀ (m i : Nat) (l : List Tk) (a : Option Addr) (n c : Nat) (w : World), s.size ≤ i + m → i ≤ s.size → n ≤ i → Lst w 79 4 Tk.enc a n c l → Ext w0 w → (∀ k, inB a k → w0.heap.size ≤ k) →
      (∀ a c w', Lst w' 79 4 Tk.enc a (lexAll s m i l).1.length c (lexAll s m i l).1 → Ext w0 w' → (∀ k, inB a k → w0.heap.size ≤ k) → Q a (lexAll s m i l).1.length c (lexAll s m i l).2.1 (lexAll s m i l).2.2 w') → ref05_Tokens.l17 Z Q (m + 1) s a n c i w
  | 0, i, l, a, n, c, w, h1, h2, hn, hl, ke, ha, hq => by
    unfold ref05_Tokens.l17 ref05_Tokens.s92
    rw [pif_dec, if_neg (by omega)]
    unfold ref05_Tokens.s10
    have := hq a c w (by unfold lexAll; rw [← hl.1]; exact hl) ke ha
    unfold lexAll at this
    rw [hl.1]
    exact this
  | m + 1, i, l, a, n, c, w, h1, h2, hn, hl, ke, ha, hq => by
    unfold ref05_Tokens.l17 ref05_Tokens.s92
    rw [pif_dec]
    by_cases hi : i < s.size
    · rw [if_pos (by omega)]
      unfold ref05_Tokens.s89
      refine ixT_by (K := fun v => cal Tryd.prog Z 69 [Value.int .u8 v] _) hi ?_
      refine ref05_Kind.cal (kind_F ?_)
      rw [wrap_nat1 (by omega)]
      have hstep := fun he => lexStep_next hi (s := s) (i := i) he
      unfold lexAll at hq
      rw [if_pos hi] at hq
      have skip : ∀ (j : Nat) (w' : World), lexStep s i = (none, j, 0) → Lst w' 79 4 Tk.enc a n c l → Ext w0 w' → ref05_Tokens.l17 Z Q (m + 1) s a n c j w' := fun j w' he h' k' => by
        rw [he] at hq hstep
        obtain ⟨g1, g2⟩ := hstep rfl
        simp only at g1 g2
        exact tokens2_loop hs m j l a n c w' (by omega) g2 (by omega) h' k' ha hq
      have fault : ∀ (e : Int) (w' : World), lexStep s i = (none, i, e) → e ≠ 0 → Ext w0 w' → Q none 0 0 e i w' := fun e w' he h0 k' => by
        rw [he, if_pos h0] at hq
        exact hq none 0 w' Lst.nil k' fun k ⟨p, hp, _⟩ => by cases hp
      -- from the kind on: what step it is
      have go : ∀ (k : Int) (j : Nat), j ≤ s.size → i < j →
          (k < 0 → lexStep s i = (none, i, 6)) → (k = 0 ∨ k = 9 → lexStep s i = (none, j, 0)) → (k = 1 → lexStep s i = (some ⟨1, i, s.extract i j, 0⟩, j, 0)) →
          (k = 2 → (∀ q, q < j - i → digitB (by_ s (i + q)) = true) ∧ lexStep s i = if numV (s.extract i j) < 0 then (none, i, 7) else (some ⟨2, i, noText, numV (s.extract i j)⟩, j, 0)) →
          (2 < k ∧ k < 9 → lexStep s i = (some ⟨k, i, noText, 0⟩, j, 0)) → k ≤ 9 → ref05_Tokens.s53 Z Q (ref05_Tokens.l17 Z Q (m + 1)) s a n c i k j w := fun k j hj hij g0 g1 g2 g3 g4 gk => by
        unfold ref05_Tokens.s53
        rw [pif_dec]
        split
        · rename_i h; exact fault 6 w (g0 h) (by decide) ke
        rename_i hk0
        refine newC_B fun w1 b1 k1 s1 => ?_
        refine stN_B b1 (by simp) rfl (by simp [Value.oneCell']) fun w2 b2 k2 => ?_
        replace b2 : IsB w2 w.heap.size (Tk.enc ⟨k, i, noText, 0⟩) := by simpa [lay, Tk.enc, noText] using b2
        have ke2 : Ext w0 w2 := (ke.trans k1).own ke.size k2
        have hl2 : Lst w2 79 4 Tk.enc a n c l := (hl.ext k1).keep k2 fun k hk e => by have := hl.lt hk; omega
        have hlt : w.heap.size < w2.heap.size := b2.lt
        have hx : ∀ k, inB a k → k ≠ w.heap.size := fun k hk e => by have := hl.lt hk; omega
        have hge : w0.heap.size ≤ w.heap.size := ke.size
        clear b1 k1 k2 s1 w1
        generalize w.heap.size = b at *
        -- the end: a token is put
        have take : ∀ (t : Tk) (w' : World), lexStep s i = (some t, j, 0) → 0 < k → k < 9 → IsB w' b t.enc → Keep (· = b) w2 w' → ref05_Tokens.s46 Z Q (ref05_Tokens.l17 Z Q (m + 1)) s a n c k j ⟨b, 0, none⟩ w' := fun t w' he hk1 hk2 bt k' => by
          rw [he] at hq
          unfold ref05_Tokens.s46
          rw [pif_dec, if_pos (by omega), pif_dec, if_pos (by omega)]
          have ke' := ke2.own hge k'
          refine app_tok (hl2.keep k' hx) bt (by omega) fun a3 c3 w3 l3 k3 i3 => ?_
          refine tokens2_loop hs m j (l ++ [t]) a3 (n + 1) c3 w3 (by omega) hj (by omega) l3 (ke'.trans_new k3 fun k hk hin => by have := ha k hin; omega) (fun k hk => ?_) hq
          rcases i3 k hk with h | h
          · exact ha k h
          · have := ke'.size; omega
        have none' : (k = 0 ∨ k = 9) → ref05_Tokens.s46 Z Q (ref05_Tokens.l17 Z Q (m + 1)) s a n c k j ⟨b, 0, none⟩ w2 := fun h => by
          unfold ref05_Tokens.s46
          rw [pif_dec]
          split
          · rw [pif_dec, if_neg (by omega)]
            exact skip j w2 (g1 h) hl2 ke2
          · exact skip j w2 (g1 h) hl2 ke2
        have hex : (0 ≤ (i : Int) ∧ (i : Int) ≤ (j : Int) ∧ (j : Int) ≤ s.size) := ⟨by omega, by omega, by omega⟩
        rw [pif_beq]
        split
        · rename_i hk1
          subst hk1
          refine cnd_of hex ?_
          rw [Int.toNat_natCast, Int.toNat_natCast, add_mk]
          refine st1_B b2 (by simp [Tk.enc]) rfl fun w3 b3 k3 => ?_
          unfold ref05_Tokens.s51
          rw [pif_beq, if_neg (by decide)]
          exact take _ w3 (g2 rfl) (by decide) (by decide) b3 k3
        rename_i hk1
        unfold ref05_Tokens.s51
        rw [pif_beq]
        split
        · rename_i hk2
          subst hk2
          obtain ⟨hd, hst⟩ := g3 rfl
          refine cnd_of hex ?_
          rw [Int.toNat_natCast, Int.toNat_natCast]
          have hsz : (s.extract i j).size = j - i := by rw [ByteArray.size_extract]; omega
          refine ref05_value.cal (value_F (fun q hq => ?_) (by omega) ?_)
          · rw [hsz] at hq
            rw [by_extract hj hq]
            have := hd q hq
            simp [digitB] at this
            omega
          · rw [add_mk]
            refine st1_B b2 (by simp [Tk.enc]) rfl fun w3 b3 k3 => ?_
            refine ldI_B b3 rfl ?_
            rw [pif_dec]
            split
            · rename_i hneg
              rw [if_pos hneg] at hst
              exact fault 7 w3 hst (by decide) (ke2.own hge k3)
            · rename_i hneg
              rw [if_neg hneg] at hst
              exact take _ w3 hst (by decide) (by decide) b3 k3
        rename_i hk2
        by_cases hk3 : 2 < k ∧ k < 9
        · exact take _ w2 (g4 hk3) (by omega) (by omega) b2 Keep.refl
        · exact none' (by omega)
      have hc := by_lt s i
      have hnd : ∀ {k : Int} {j : Nat}, k ≠ 5 → ref05_Tokens.s53 Z Q (ref05_Tokens.l17 Z Q (m + 1)) s a n c i k j w → ref05_Tokens.s55 Z Q (ref05_Tokens.l17 Z Q (m + 1)) s a n c i k j w := fun hk h => by
        unfold ref05_Tokens.s55
        rw [pif_beq, if_neg hk]
        exact h
      generalize hkd : kindOf (by_ s i) = k
      have hkr : k = 0 ∨ k = 1 ∨ k = 2 ∨ k = 3 ∨ k = 4 ∨ k = 5 ∨ k = 7 ∨ k = 9 ∨ k = -1 := by
        rw [← hkd]; unfold kindOf; grind (splits := 30)
      by_cases k1 : k = 1
      · subst k1
        have g1 := runEnd_ge (p := wordB) (s := s) (s.size - (i + 1)) (i + 1)
        have g2 := runEnd_le (p := wordB) (s := s) (s.size - (i + 1)) (i + 1) (by omega)
        refine exK_of (s.size - (i + 1) + 1) (run2_loop (.inl rfl) (fun _ => kindOf_word) (by omega) _ (i + 1) (by omega) ?_)
        refine hnd (by decide) (go 1 _ g2 (by omega) (by omega) (by omega) (fun _ => ?_) (by omega) (by omega) (by omega))
        unfold lexStep
        simp only [hkd]
        rfl
      by_cases k2 : k = 2
      · subst k2
        have g1 := runEnd_ge (p := digitB) (s := s) (s.size - (i + 1)) (i + 1)
        have g2 := runEnd_le (p := digitB) (s := s) (s.size - (i + 1)) (i + 1) (by omega)
        have g3 := runEnd_in (p := digitB) (s := s) (s.size - (i + 1)) (i + 1)
        refine exK_of (s.size - (i + 1) + 1) (run2_loop (.inr rfl) (fun _ => kindOf_digit) (by omega) _ (i + 1) (by omega) ?_)
        refine hnd (by decide) (go 2 _ g2 (by omega) (by omega) (by omega) (by omega) (fun _ => ⟨fun q hq => ?_, ?_⟩) (by omega) (by omega))
        · rcases Nat.eq_zero_or_pos q with rfl | h
          · exact kindOf_digit.1 hkd
          · exact g3 _ (by omega) (by omega)
        · unfold lexStep
          simp only [hkd]
          rfl
      refine run2_no k1 k2 ?_
      by_cases k9 : k = 9
      · subst k9
        have g1 := runEnd_ge (p := markB) (s := s) (s.size - (i + 1)) (i + 1)
        have g2 := runEnd_le (p := markB) (s := s) (s.size - (i + 1)) (i + 1) (by omega)
        refine exK_of (s.size - (i + 1) + 1) (rem_loop (by omega) _ (i + 1) (by omega) ?_)
        refine hnd (by decide) (go 9 _ g2 (by omega) (by omega) (fun _ => ?_) (by omega) (by omega) (by omega) (by omega))
        unfold lexStep
        simp only [hkd]
        rfl
      refine rem_no k9 ?_
      by_cases k5 : k = 5
      · subst k5
        unfold ref05_Tokens.s55
        rw [pif_beq, if_pos rfl]
        have dash : ¬ (i + 1 < s.size ∧ by_ s (i + 1) = 62) → ref05_Tokens.s53 Z Q (ref05_Tokens.l17 Z Q (m + 1)) s a n c i 5 (i + 1 : Nat) w := fun hn => by
          refine go 5 (i + 1) (by omega) (by omega) (by omega) (by omega) (by omega) (by omega) (fun _ => ?_) (by omega)
          unfold lexStep
          simp only [hkd]
          rw [if_neg (by decide), if_neg (by decide), if_neg (by decide), if_neg (by decide), if_pos trivial, if_neg hn]
        rw [pif_dec]
        split
        · rename_i h6
          refine ixT_by (K := fun v => pif (v == 62) _ _) (by omega) ?_
          rw [pif_beq]
          split
          · rename_i h7
            rw [wrap_nat1 (by omega)]
            refine go 6 (i + 1 + 1) (by omega) (by omega) (by omega) (by omega) (by omega) (by omega) (fun _ => ?_) (by omega)
            unfold lexStep
            simp only [hkd]
            rw [if_neg (by decide), if_neg (by decide), if_neg (by decide), if_neg (by decide), if_pos trivial, if_pos ⟨by omega, h7⟩]
          · rename_i h7
            exact dash (fun h => h7 h.2)
        · exact dash (by omega)
      refine hnd k5 (go k (i + 1) (by omega) (by omega) (fun h => ?_) (fun h => ?_) (by omega) (by omega) (fun h => ?_) (by omega))
      · unfold lexStep
        simp only [hkd]
        rw [if_neg (by omega), if_neg (by omega), if_neg (by omega), if_neg (by omega), if_neg (by omega), if_pos h]
      · obtain rfl : k = 0 := by omega
        unfold lexStep
        simp only [hkd]
        rfl
      · unfold lexStep
        simp only [hkd]
        rw [if_neg (by omega), if_neg (by omega), if_neg (by omega), if_neg (by omega), if_neg (by omega), if_neg (by omega)]
    · rw [if_neg (by omega)]
      unfold lexAll at hq
      rw [if_neg hi] at hq
      unfold ref05_Tokens.s10
      have := hq a c w (by rw [← hl.1]; exact hl) ke ha
      rw [hl.1]
      exact this
theorem tokens2_F {Q : Option Addr → Nat → Nat → Int → Int → PT} (hq : ∀ a c w', Lst w' 79 4 Tk.enc a (lexS s).1.length c (lexS s).1 → Ext w w' → (∀ k, inB a k → w.heap.size ≤ k) → Q a (lexS s).1.length c (lexS s).2.1 (lexS s).2.2 w') : ref05_Tokens.F Z Q s w := by
  unfold ref05_Tokens.F ref05_Tokens.s99
  unfold lexS at hq
  rw [pif_dec]
  split
  · rw [if_pos (by omega)] at hq
    exact hq none 0 w Lst.nil Keep.refl fun k ⟨p, hp, _⟩ => by cases hp
  · rw [if_neg (by omega)] at hq
    show (exK _) _
    exact exK_of (s.size + 1) (tokens2_loop (w0 := w) (by omega) s.size 0 [] _ 0 0 _ (by omega) (by omega) (by omega) (Lst.new w _ _ _) (Keep.refl.alloc _) (fun k ⟨p, hp, hk⟩ => by cases hp; exact Nat.le_of_eq hk) hq)
end
end Go.Proofs.YtllgjjldnnmjkaaDoor
end
section
set_option maxRecDepth 100000
namespace Go.Proofs.YtllgjjldnnmjkaaDoor
open Go.RowKit
/-- A line, where its clauses lie, and they. -/
abbrev Rp := Rw × Sl3 × List (Cl × Sl3)
def rpEnc (p : Rp) : List Value := rwEnc (p.1, p.2.1)
abbrev fRows (sl : Sl3) (rps : List Rp) : Fct := fN 52 8 rpEnc (fun p => fCls p.2.1 p.2.2) sl.a sl.n sl.c rps
theorem row_i {l : List Tk} {en : Int} {s : Ws} (h : s.i ≤ l.length) : s.i + 1 ≤ (rowW l en s).2.i := by
  have ks := fun (s : Ws) k => kind_i (l := l) (en := en) (s := s) (k := k)
  have fs := fun s : Ws => fig_i2 (l := l) (en := en) s
  have ws := fun (s : Ws) e => wrong_i (l := l) (en := en) (s := s) (e := e)
  have ts : ∀ s : Ws, (tailW l en s).i = s.i := fun s => by unfold tailW; split; exact wrong_i; rfl
  have a2 : ∀ (x : Rw) (s : Ws), s.i ≤ (actW2 l en x s).2.i := fun x s => by
    unfold actW2
    simp only
    split
    · simp only [ts, skipW]; omega
    · simp only [ts, fs, skipW]
      split
      · omega
      · simp only [ws]; omega
  have cs : ∀ (m : Nat) (s : Ws) (o : List Cl), s.i ≤ (clausesW l en m s o).2.i := by
    intro m
    induction m with
    | zero => intro s o; exact Nat.le_refl _
    | succ m ih =>
      intro s o
      unfold clausesW
      split
      · have := clauseW_i (l := l) (en := en) (s := s) (had := o.map Cl.word)
        have := ih (clauseW l en (o.map Cl.word) s).2 (o ++ [(clauseW l en (o.map Cl.word) s).1])
        omega
      · exact Nat.le_refl _
  unfold rowW
  split
  · refine Nat.le_trans ?_ (a2 _ _)
    rw [ks]
    simp only [skipW]
    omega
  · refine Nat.le_trans ?_ (a2 _ _)
    rw [ks]
    have h1 := cs (l.length - (figW l en s).i) (figW l en s) []
    have h4 := fs s
    omega
theorem lexS_len2 (s : ByteArray) : (lexS s).1.length ≤ 4096 := by
  unfold lexS
  split
  · simp
  · have := lexAll_len s s.size 0 []
    simp at this
    omega
section
variable {Z : List PanicEntry → PT} {w0 w : World} {rb : Nat} {a : Option Addr} {c : Nat} {l : List Tk} {en : Int}
theorem rows_loop {Q : Option Addr → Nat → Nat → Int → Int → PT} (hl : l.length ≤ 10000) : ∀ (m : Nat) (s : Ws) (sl : Sl3) (rps : List Rp) (w : World), l.length ≤ s.i + m → rps.length ≤ s.i → (∀ p ∈ rps, p.1.clauses = p.2.2.map Prod.fst) → Sep (fun _ => False) w0 w [fRows sl rps, fW rb a c l en s] →
    (∀ sl' rps' w', (∀ p ∈ rps', p.1.clauses = p.2.2.map Prod.fst) → Sep (fun _ => False) w0 w' [fRows sl' rps', fW rb a c l en (rowsW l en m s (rps.map Prod.fst)).2] → rps'.map Prod.fst = (rowsW l en m s (rps.map Prod.fst)).1 → ref06_Parse.s11 Z Q (some ⟨rb, 0, none⟩) sl'.a sl'.n sl'.c w') →
    ref06_Parse.l18 Z Q (m + 1) a l.length c (some ⟨rb, 0, none⟩) sl.a sl.n sl.c w := by
  intro m
  induction m with
  | zero =>
    intro s sl rps w hlen hi hc h hq
    unfold ref06_Parse.l18 ref06_Parse.s21
    simp only [nn_some, add_mk, Nat.zero_add]
    refine h.wI 1 rfl ?_
    rw [pif_dec, if_neg (by omega)]
    exact hq sl rps w hc h rfl
  | succ m ih =>
    intro s sl rps w hlen hi hc h hq
    have fin : ¬ (s.i < l.length ∧ s.b = 0) → ref06_Parse.s11 Z Q (some ⟨rb, 0, none⟩) sl.a sl.n sl.c w := fun hn => by
      exact hq sl rps w hc (by unfold rowsW; rw [if_neg hn]; exact h) (by unfold rowsW; rw [if_neg hn])
    unfold ref06_Parse.l18 ref06_Parse.s21
    simp only [nn_some, add_mk, Nat.zero_add]
    refine h.wI 1 rfl ?_
    rw [pif_dec]
    split
    · rename_i hlt
      have hlt : s.i < l.length := by omega
      refine h.wB 1 rfl ?_
      rw [pif_beq]
      split
      · rename_i hb
        refine h.wI 1 rfl ?_
        have hw : Wk w rb a c l en s := h.at (n := 1) rfl
        have hx := List.getElem?_eq_getElem hlt
        have ep : (peekS l en s.i) = l[s.i] := by unfold peekS; rw [if_pos hlt, hx]; rfl
        refine ixS_Lst Tk.enc_len hw.toks hx fun b hb' hcl => ?_
        refine ldI_of (by rw [add_mk]; exact hcl 0 _ rfl) ?_
        unfold rowsW at hq
        rw [if_pos ⟨hlt, hb⟩] at hq
        rw [pif_beq]
        split
        · rename_i h7
          rw [if_pos (by rw [ep]; exact h7)] at hq
          refine h.wI 1 rfl ?_
          refine h.wSkip 1 rfl (by omega) fun w1 h1 => ?_
          exact ih (skipW s) sl rps w1 (by simp only [skipW]; omega) (by simp only [skipW]; omega) hc h1 hq
        · rename_i h7
          rw [if_neg (by rw [ep]; exact h7)] at hq
          have hn : sl.n = rps.length := (h.at (n := 0) rfl : (fRows sl rps).P w).1.1
          have row : ∀ (s1 : Ws) (w1 : World), s1.i = s.i → s1 = (if (rps.map Prod.fst).length = 64 then wrongW l en 4 s else s) → Sep (fun _ => False) w0 w1 [fRows sl rps, fW rb a c l en s1] →
              cal Tryd.prog Z 47 [.pointer (some ⟨rb, 0, none⟩)] (isN fun v => cnd (List.length v = 8) (newC 52 (v ++ []) fun ad => runL Tryd.prog (bi .append #[29, 29] 29 [false, false] [.slice sl.a sl.n sl.c, .slice (some ad) 1 1]) fun p pn pc => ref06_Parse.l18 Z Q (m + 1) a l.length c (some ⟨rb, 0, none⟩) p pn pc)) w1 := fun s1 w1 e1 e2 h1 => by
            rw [← e2] at hq
            have ri := row_i (l := l) (en := en) (s := s1) (by omega)
            refine ref06_Walk_Row.cal (row_F (h1.at (n := 1) rfl : Wk _ rb a c l en s1) (by omega) hl ?_)
            generalize rowW l en s1 = r at hq ri ⊢
            obtain ⟨y, s2⟩ := r
            simp only at hq ri ⊢
            intro sn cps w2 hcy k2 g2 n2 i2
            have h2 : Sep (fun _ => False) w0 w2 [fCls sn cps, fRows sl rps, fW rb a c l en s2] := h1.turnAdd (n := 1) rfl k2 (g := fW rb a c l en s2) g2 (fun k hk => hk) (q := fCls sn cps) n2 i2
            refine cnd_of (rwEnc_len _) ?_
            rw [List.append_nil]
            refine h2.new fun w3 b3 h3 k3 => ?_
            refine h3.appN 2 1 (x := (y, sn, cps)) rfl rfl (by decide) (bytes := 80) (z := .agg #[.int .i64 0, .bool false, .int .i64 0, .int .i64 0, .slice none 0 0, .bool false, .int .i64 0, .int .i64 0]) Tryd.underlying29 (by kernel_rfl) rfl (by decide) (fun p => rfl) (rwEnc_one _) (fun j u hu => by rw [add_mk, Nat.zero_add, (h3.at (n := 0) rfl : IsB _ _ _).cell]; exact hu) (by decide) (by omega) fun a' c' w4 h4 k4 => ?_
            refine ih s2 ⟨a', sl.n + 1, c'⟩ (rps ++ [(y, sn, cps)]) w4 (by omega) (by simp; omega) ?_ ((h4.drop 0).drop 0) ?_
            · intro p hp
              rcases List.mem_append.1 hp with hp | hp
              · exact hc p hp
              · rw [List.mem_singleton.1 hp]; exact hcy
            · rw [List.map_append]; exact hq
          rw [pif_beq]
          split
          · rename_i h64
            refine h.wWrong 1 rfl fun w1 h1 => ?_
            exact row _ w1 wrong_i (by rw [if_pos (by simp; omega)]) h1
          · rename_i h64
            exact row s w rfl (by rw [if_neg (by simp; omega)]) h
      · rename_i hb
        exact fin (fun g => hb g.2)
    · rename_i hlt
      exact fin (fun g => hlt (by have := g.1; omega))
/-- What the document's parser comes to. -/
theorem ref_cal {Q : Option Addr → Nat → Nat → Int → Int → PT} {s : ByteArray} (hq : ∀ (sl : Sl3) (rps : List Rp) w', (∀ p ∈ rps, p.1.clauses = p.2.2.map Prod.fst) → (fRows sl rps).P w' → rps.map Prod.fst = (parseS s).1 → Ext w w' → Q sl.a sl.n sl.c (parseS s).2.1 (parseS s).2.2 w') :
    cal Tryd.prog Z 27 [.string s] (isT3 fun x y z => (isL fun r0 r0n r0c => (isI .i64 fun r1 => (isI .i64 fun r2 => Q r0 r0n r0c r1 r2) z) y) x) w := by
  refine ref06_Parse.cal ?_
  unfold ref06_Parse.F ref06_Parse.s30
  refine ref05_Tokens.cal (tokens2_F fun a c w1 l1 k1 i1 => ?_)
  have hlen := lexS_len2 s
  unfold parseS at hq
  rw [pif_bne]
  split
  · rename_i he
    rw [if_neg (by rw [he]; decide)] at hq
    refine newC_B fun w2 b2 k2 s2 => ?_
    have l2 := l1.ext k2
    have lt1 := fun k hk => l1.lt (k := k) hk
    have h2 : Sep (fun _ => False) w w2 [fW w1.heap.size a c (lexS s).1 s.size ⟨0, 0, 0⟩] := (Sep.start _ w).add (k1.trans k2) (f := fW w1.heap.size a c (lexS s).1 s.size ⟨0, 0, 0⟩) ⟨b2, l2, fun k hk e => by have := lt1 k hk; omega⟩ fun k hk => by
      rcases hk with rfl | hk
      · exact k1.size
      · exact i1 k hk
    refine h2.newR rpEnc (sz := 8) fun w3 b3 h3 k3 => ?_
    have h3 : Sep (fun _ => False) w w3 [fRows ⟨some ⟨b3, 0, none⟩, 0, 0⟩ [], fW w1.heap.size a c (lexS s).1 s.size ⟨0, 0, 0⟩] := by
      refine ⟨h3.kept, ?_, ?_, ?_⟩
      · intro f hf
        simp only [List.mem_cons, List.not_mem_nil, or_false] at hf
        rcases hf with rfl | rfl
        · exact ⟨h3.at (n := 0) rfl, by simp, by simp⟩
        · exact h3.at (n := 1) rfl
      · intro f hf k hk
        simp only [List.mem_cons, List.not_mem_nil, or_false] at hf
        rcases hf with rfl | rfl
        · rcases hk with hk | ⟨y, hy, _⟩
          · exact h3.own _ (List.mem_cons_self ..) k hk
          · cases hy
        · exact h3.own _ (List.mem_cons_of_mem _ (List.mem_cons_self ..)) k hk
      · refine List.pairwise_cons.2 ⟨fun f hf k hk hk' => ?_, by simp⟩
        rw [List.mem_singleton.1 hf] at hk'
        rcases hk with hk | ⟨y, hy, _⟩
        · exact pw_at apart.symm h3.dis (i := 0) (j := 1) rfl rfl (by decide) k hk hk'
        · cases hy
    have rel := rows_rel (l := (lexS s).1) (en := s.size) lexS_kind (lexS s).1.length ⟨0, 0, 0⟩ [] rfl
    refine exK_of ((lexS s).1.length + 1) (rows_loop (by omega) (lexS s).1.length ⟨0, 0, 0⟩ ⟨some ⟨b3, 0, none⟩, 0, 0⟩ [] w3 (by omega) (by simp) (by simp) h3 fun sl rps w4 hc h4 hr => ?_)
    simp only [List.map_nil] at h4 hr
    unfold ref06_Parse.s11
    simp only [nn_some, add_mk, Nat.zero_add]
    refine h4.wB 1 rfl ?_
    cases hls : linesS (lexS s).1 s.size (lexS s).1.length 0 [] with
    | ok o j =>
      rw [hls] at rel hq
      obtain ⟨g1, g2⟩ := rel
      rw [pif_bne, if_pos g2]
      exact hq sl rps w4 hc (h4.at (n := 0) rfl) (by rw [hr, g1]) h4.kept
    | no e p =>
      rw [hls] at rel hq
      obtain ⟨g1, g2, g3⟩ := rel
      rw [pif_bne, if_neg (by rw [g2]; exact g1)]
      have h5 := h4.drew
      show ldI _ _ _ w4.drew
      refine h5.wB 1 rfl ?_
      refine ldI_B (h5.at (n := 1) rfl : Wk _ _ _ _ _ _ _).cell rfl ?_
      have := hq ⟨none, 0, 0⟩ [] w4.drew (by simp) ⟨Lst.nil, by simp, by simp⟩ rfl h5.kept
      rw [← g2, ← g3] at this
      exact this
  · rename_i he
    rw [if_pos he] at hq
    exact hq ⟨none, 0, 0⟩ [] w1 (by simp) ⟨Lst.nil, by simp, by simp⟩ rfl k1
end
end Go.Proofs.YtllgjjldnnmjkaaDoor
end
section
set_option maxRecDepth 100000
namespace Go.Proofs.YtllgjjldnnmjkaaDoor
open Go.RowKit
section
variable {Z : List PanicEntry → PT} {Q : Option Addr → Nat → Nat → Int → Int → PT} {W w : World} {s : Sl3} {R : List En × Int × Int} {size : Int}
theorem rows2_loop {ps : List (Rw × Sl3)} (hr : Ro W 8 rwEnc s.a s.n s.c ps) (hp : ∀ p ∈ ps, ClsO W p.2 p.1.clauses) (hq : ∀ w' o, Sep (fun _ => False) W w' [fE o R.1] → Q o.a o.n o.c R.2.1 R.2.2 w') :
    ∀ (m j : Nat) (had : Bool) (out : List En) (o : Sl3) (w : World), ps.length = j + m → j ≤ 64 → out.length = j → snRows ((ps.drop j).map Prod.fst) j had out size = R → Sep (fun _ => False) W w [fE o out] →
    ref07_Check.l19 Z Q (m + 1) s.a s.n s.c size o.a o.n o.c had j w := by
  have hmax := hr.max
  have hn := hr.1
  intro m
  induction m with
  | zero =>
    intro j had out o w hm hj ho he h
    unfold ref07_Check.l19 ref07_Check.s58
    rw [pif_dec, if_neg (by omega)]
    unfold ref07_Check.s9
    rw [List.drop_eq_nil_of_le (by omega)] at he
    simp only [List.map_nil] at he
    unfold snRows at he
    cases had with
    | true => rw [if_pos rfl] at he; subst he; exact hq w o h
    | false => rw [if_neg (by decide)] at he; subst he; exact hq w ⟨none, 0, 0⟩ h.eNil
  | succ m ih =>
    intro j had out o w hm hj ho he h
    have hx := List.getElem?_eq_getElem (show j < ps.length by omega)
    have hmem := List.getElem_mem (show j < ps.length by omega)
    have hd := List.drop_eq_getElem_cons (show j < ps.length by omega)
    unfold ref07_Check.l19 ref07_Check.s58
    rw [pif_dec, if_pos (by omega)]
    unfold ref07_Check.s54
    refine ixS_Ro (hr.ext h.kept) hx fun ad hcell => ?_
    refine ldN_at hcell rfl ?_
    rw [hd] at he
    have hcls := hp _ hmem
    generalize ps[j] = q at hx hd he hcls
    obtain ⟨r, sr⟩ := q
    have hcls : ClsO W sr r.clauses := hcls
    simp only [List.map_cons] at he
    unfold snRows at he
    simp only at he
    refine h.new fun w1 rb h1 k1 => ?_
    refine h1.stN 0 rfl (by simp) rfl (rwEnc_one _) (lay_full rfl rfl) fun w2 h2 k2 => ?_
    have h2 : Sep (fun _ => False) W w2 [fB rb (rwEnc (r, sr)), fE o out] := h2
    simp only [add_mk, Nat.zero_add]
    have no : ∀ (e p : Int) (w : World), ([], e, p) = R → Sep (fun _ => False) W w [fB rb (rwEnc (r, sr)), fE o out] → Q none 0 0 e p w := fun e p w hR h => by
      subst hR
      exact hq w ⟨none, 0, 0⟩ h.eNil
    have bad : ∀ (x : En) (e p : Int), e ≠ 0 → snAct r x ⟨e, p⟩ = (x, ⟨e, p⟩) := fun x e p he => by
      unfold snAct
      rw [if_neg (fun g => he g.1)]
    rw [pif_dec]
    split
    · rename_i e0
      have t : snRow j had r = (en0, ⟨4, r.pos⟩, had) := by unfold snRow; rw [if_pos (by omega)]
      rw [t] at he
      simp only [bad en0 4 r.pos (by decide)] at he
      rw [if_pos (by simp)] at he
      exact h2.drew.ldI 0 (x := r.pos) rfl rfl (no _ _ _ he h2.drew)
    rename_i e0
    have hlt : j < 64 := by omega
    -- behind the default one's question
    have rest : ¬ (r.default = true ∧ had = true) → ref07_Check.s52 Z Q (ref07_Check.l19 Z Q (m + 1)) s.a s.n s.c size o.a o.n o.c had j ⟨rb, 0, none⟩ w2 := fun ndd => by
      have row : snRow j had r = if r.default = true then ({ en0 with default := true }, ft0, true) else ((snLine r).1, (snLine r).2, had) := by
        unfold snRow
        rw [if_neg (by omega), if_neg ndd]
      have hhad : (snRow j had r).2.2 = (had || r.default) := by
        rw [row]
        cases hdf : r.default with
        | true => rw [if_pos rfl, Bool.or_true]
        | false => rw [if_neg (by decide), Bool.or_false]
      -- the action, and the entry
      have s46 : ∀ (w : World), (r.default = true ∨ (snLine r).2.e = 0) → Sep (fun _ => False) W w [fB rb (rwEnc (r, sr)), fE o out] → ref07_Check.s46 Z Q (ref07_Check.l19 Z Q (m + 1)) s.a s.n s.c size o.a o.n o.c (had || r.default) j ⟨rb, 0, none⟩ w := fun w hok h => by
        have fe : (snRow j had r).2.1.e = 0 := by
          rw [row]
          split
          · rfl
          · rename_i e; exact hok.resolve_left e
        -- all is well
        have add : ∀ (w : World), (snAct r (snRow j had r).1 (snRow j had r).2.1).2.e = 0 → Sep (fun _ => False) W w [fB rb (rwEnc (r, sr)), fE o out] →
            ldN 8 ⟨rb, 0, none⟩ (fun v => cal Tryd.prog Z 31 [.agg ⟨v⟩] (isN fun v => cnd (List.length v = 12) (newC 35 (v ++ []) fun p => runL Tryd.prog (bi .append #[23, 23] 23 [false, false] [.slice o.a o.n o.c, .slice (some p) 1 1]) fun a n c => ref07_Check.s28 Z Q (ref07_Check.l19 Z Q (m + 1)) s.a s.n s.c size a n c (had || r.default) j))) w := fun w hu h => by
          obtain ⟨m1, m2⟩ := row_mean hu
          refine h.ldN 0 (vs := rwEnc (r, sr)) rfl rfl rfl ?_
          refine meaning_cal (hcls.ext h.kept) m2 fun w3 k3 => ?_
          have h3 := h.ext k3
          refine cnd_of rfl ?_
          simp only [List.append_nil]
          rw [hhad] at he
          simp only [m1, hu] at he
          rw [if_neg (by simp)] at he
          generalize rfMean r = x at he
          refine h3.new fun w4 nb h4 k4 => ?_
          refine h4.app 2 rfl (bytes := 96) (z := .agg #[.bool false, .int .i64 0, .int .u32 0, .int .i64 0, .int .u32 0, .int .i64 0, .int .i64 0, .int .i64 0, .int .i64 0, .int .i64 0, .int .i64 0, .int .i64 0]) Tryd.underlying23 (by kernel_rfl) rfl (by decide) En.enc_len (En.enc_one x) (fun i u hu => by rw [add_mk, Nat.zero_add, (h4.at (n := 0) rfl : IsB w4 nb x.enc).cell]; exact hu) (by decide) (by omega) fun a' c' w5 h5 k5 => ?_
          unfold ref07_Check.s28
          rw [wrap_nat1 (by omega)]
          exact ih (j + 1) _ (out ++ [x]) ⟨a', o.n + 1, c'⟩ w5 (by omega) (by omega) (by simp [ho]) he ((h5.drop 0).drop 0)
        unfold ref07_Check.s46
        simp only [add_mk, Nat.zero_add]
        refine h.ldB 0 (x := r.drop) rfl rfl ?_
        cases hdr : r.drop with
        | true =>
          rw [pif_not, pif_true]
          refine add w ?_ h
          unfold snAct
          rw [if_neg (by simp [hdr])]
          exact fe
        | false =>
          have hu : snAct r (snRow j had r).1 (snRow j had r).2.1 = ({ (snRow j had r).1 with action := r.port.n }, snWithin r.port 1 99) := by
            unfold snAct
            rw [if_pos ⟨fe, hdr⟩]
          rw [pif_not, pif_false]
          refine h.ldI 0 (x := r.port.n) rfl rfl ?_
          have wrong : (r.port.n < 1 ∨ r.port.n > 99) → ([], 10, r.port.pos) = R := fun e => by
            rw [hu] at he
            simp only [within_bad e] at he
            rw [if_pos (by simp)] at he
            exact he
          rw [pif_dec]
          split
          · rename_i e
            exact h.drew.ldI 0 (x := r.port.pos) rfl rfl (no _ _ _ (wrong (.inl e)) h.drew)
          rename_i e1
          refine h.ldI 0 (x := r.port.n) rfl rfl ?_
          rw [pif_dec]
          split
          · rename_i e
            exact h.drew.ldI 0 (x := r.port.pos) rfl rfl (no _ _ _ (wrong (.inr e)) h.drew)
          rename_i e2
          refine add w ?_ h
          rw [hu]
          simp only
          rw [within_good (by omega)]
          rfl
      have s50 : ∀ (w : World), Sep (fun _ => False) W w [fB rb (rwEnc (r, sr)), fE o out] → ref07_Check.s50 Z Q (ref07_Check.l19 Z Q (m + 1)) s.a s.n s.c size o.a o.n o.c (had || r.default) j ⟨rb, 0, none⟩ w := fun w h => by
        unfold ref07_Check.s50
        simp only [add_mk, Nat.zero_add]
        refine h.ldN 0 (vs := rwEnc (r, sr)) rfl rfl rfl ?_
        refine fault_cal (hcls.ext h.kept) fun w3 k3 => ?_
        have h3 := h.ext k3
        refine h3.ldB 0 (x := r.default) rfl rfl ?_
        rw [← rfFault_eq]
        cases hdf : r.default with
        | true =>
          rw [pif_not, pif_true]
          have := s46 w3 (.inl hdf) h3
          rw [hdf] at this
          exact this
        | false =>
          rw [pif_not, pif_false, pif_bne]
          split
          · rename_i e
            have := s46 w3 (.inr e) h3
            rw [hdf] at this
            exact this
          · rename_i e
            rw [row, hdf] at he
            simp only [Bool.false_eq_true, if_false] at he
            have hb := bad (snLine r).1 (snLine r).2.e (snLine r).2.p e
            have hf : (⟨(snLine r).2.e, (snLine r).2.p⟩ : Ft) = (snLine r).2 := rfl
            rw [hf] at hb
            rw [hb] at he
            simp only at he
            rw [if_pos e] at he
            exact no _ _ _ he h3
      unfold ref07_Check.s52
      simp only [add_mk, Nat.zero_add]
      cases hh : had with
      | true =>
        rw [pif_true]
        have := s50 w2 h2
        rw [hh, Bool.true_or] at this
        exact this
      | false =>
        rw [pif_false]
        refine h2.ldB 0 (x := r.default) rfl rfl ?_
        have := s50 w2 h2
        rw [hh, Bool.false_or] at this
        exact this
    refine h2.ldB 0 (x := r.default) rfl rfl ?_
    cases hdf : r.default with
    | true =>
      rw [pif_true]
      cases hh : had with
      | true =>
        rw [pif_true]
        have t : snRow j had r = (en0, ⟨9, r.pos⟩, had) := by unfold snRow; rw [if_neg (by omega), if_pos ⟨hdf, hh⟩]
        rw [t] at he
        simp only [bad en0 9 r.pos (by decide)] at he
        rw [if_pos (by simp)] at he
        exact h2.drew.ldI 0 (x := r.pos) rfl rfl (no _ _ _ he h2.drew)
      | false =>
        rw [pif_false]
        have := rest (by simp [hh])
        rw [hh] at this
        exact this
    | false =>
      rw [pif_false]
      exact rest (by simp [hdf])
theorem check2_cal {K : Option Addr → Nat → Nat → Int → Int → PT} {l : List Rw} (hc : RwsO w s l) (hk : ∀ w' o, Sep (fun _ => False) w w' [fE o (snCheck l size).1] → K o.a o.n o.c (snCheck l size).2.1 (snCheck l size).2.2 w') :
    cal Tryd.prog Z 17 [.slice s.a s.n s.c, .int .i64 size] (isT3 fun x y z => (isL fun r0 r0n r0c => (isI .i64 fun r1 => (isI .i64 fun r2 => K r0 r0n r0c r1 r2) z) y) x) w := by
  refine ref07_Check.cal ?_
  unfold ref07_Check.F ref07_Check.s67
  refine (Sep.start (fun _ => False) w).newR En.enc (sz := 12) fun w1 b h1 k1 => ?_
  unfold ref07_Check.s64
  obtain ⟨ps, p1, p2, p3⟩ := hc
  subst p1
  exact exK_of (ps.length + 1) (rows2_loop p2 p3 hk ps.length 0 false [] ⟨some ⟨b, 0, none⟩, 0, 0⟩ w1 (by omega) (by omega) rfl rfl h1)
theorem RwsO.of_rows {sl : Sl3} {rps : List Rp} (hc : ∀ p ∈ rps, p.1.clauses = p.2.2.map Prod.fst) (h : (fRows sl rps).P w) : RwsO w sl (rps.map Prod.fst) := by
  obtain ⟨h1, h2, _⟩ := h
  refine ⟨rps.map fun p => (p.1, p.2.1), by simp, Lst.ro rwEnc_len (e := 52) ⟨by rw [h1.1]; simp, ?_⟩, fun p hp => ?_⟩
  · have : ∀ l : List Rp, flat rwEnc (l.map fun p => (p.1, p.2.1)) = flat rpEnc l := fun l => by
      induction l with
      | nil => rfl
      | cons x l ih => simp only [List.map_cons, flat, ih]; rfl
    rw [this]; exact h1.2
  · obtain ⟨q, hq, rfl⟩ := List.mem_map.1 hp
    exact ⟨q.2.2, hc q hq, (h2 q hq).1.1.ro clEnc_len, fun y hy => ((h2 q hq).1.2.1 y hy).1.ro Fg.enc_len⟩
theorem read2_cal {K : Option Addr → Nat → Nat → Int → Int → PT} {t : ByteArray} (hk : ∀ w' o, Sep (fun _ => False) w w' [fE o (snRead t).1] → K o.a o.n o.c (snRead t).2.1 (snRead t).2.2 w') :
    cal Tryd.prog Z 13 [.string t] (isT3 fun x y z => (isL fun r0 r0n r0c => (isI .i64 fun r1 => (isI .i64 fun r2 => K r0 r0n r0c r1 r2) z) y) x) w := by
  refine ref07_Read.cal ?_
  unfold ref07_Read.F
  unfold snRead at hk
  refine ref_cal fun sl rps w1 c1 r1 e1 k1 => ?_
  rw [pif_bne]
  split
  · rename_i e0
    rw [if_neg (by simpa using e0)] at hk
    have hc := RwsO.of_rows c1 r1
    rw [e1] at hc
    refine check2_cal hc fun w2 o h2 => ?_
    exact hk w2 o ⟨k1.trans h2.kept, h2.all, fun f hf k hk => (h2.own f hf k hk).imp (fun g => Nat.le_trans k1.size g) id, h2.dis⟩
  · rename_i e0
    rw [if_pos e0] at hk
    exact hk w1 ⟨none, 0, 0⟩ ((Sep.start (fun _ => False) w).ext k1).eNil
/-! ### Same -/
theorem eqf_step {d : Nat} {xs : Array Value} {f : Field} {fs : List Field} {a : Value} (hn : f.name ≠ "_") (h1 : (part f.type xs f.offset).run Tryd.prog w = .ok a w) (h2 : (Op.equalIn d f.type a a).run Tryd.prog w = .ok true w) :
    (Op.eqFields d xs xs (f :: fs)).run Tryd.prog w = (Op.eqFields d xs xs fs).run Tryd.prog w := by
  simp [Op.eqFields, hn, h1, h2]
theorem neqE {K : Bool → PT} {x y : Operand} {e : En} (hk : K false w) : runB Tryd.prog (do eqGuard .neq 35 x y (.agg ⟨e.enc⟩) (.agg ⟨e.enc⟩); binOp .neq 35 (.agg ⟨e.enc⟩) (.agg ⟨e.enc⟩)) K w := by
  refine ⟨false, w, ?_, hk⟩
  have hg : (eqGuard .neq 35 x y (.agg ⟨e.enc⟩) (.agg ⟨e.enc⟩)).run Tryd.prog w = .ok () w := run_eqGuard_agg w _ _ _ _ _ _ (by kernel_rfl)
  simp only [Sem.run_bind, hg, Result.andThen_ok]
  rw [run_neq_struct, run_equalIn_struct w 9999 35 _ _ (by kernel_rfl) (by kernel_rfl)]
  have key : (Op.eqFields 9999 ⟨e.enc⟩ ⟨e.enc⟩ (Tryd.prog.fieldsOf 35).toList).run Tryd.prog w = .ok true w := by
    unfold Program.fieldsOf
    rw [Tryd.underlying35]
    have ii : ∀ (k : IntKind) (t : TypeId) (n : Int), Tryd.prog.underlying t = some (.int k) → (Op.equalIn 9999 t (.int k n) (.int k n)).run Tryd.prog w = .ok true w := fun k t n h => by
      rw [run_equalIn_int w 9998 t k k n n h, beq_self_eq_true]
    refine (eqf_step (a := .bool e.default) (by decide) (by kernel_rfl) (by rw [run_equalIn_bool' w 9998 _ _ _ Tryd.underlying4, beq_self_eq_true])).trans ?_
    refine (eqf_step (a := .int .i64 e.prio) (by decide) (by kernel_rfl) (ii _ _ _ Tryd.underlying3)).trans ?_
    refine (eqf_step (a := .int .u32 e.src) (by decide) (by kernel_rfl) (ii _ _ _ Tryd.underlying33)).trans ?_
    refine (eqf_step (a := .int .i64 e.srcBits) (by decide) (by kernel_rfl) (ii _ _ _ Tryd.underlying3)).trans ?_
    refine (eqf_step (a := .int .u32 e.dst) (by decide) (by kernel_rfl) (ii _ _ _ Tryd.underlying33)).trans ?_
    refine (eqf_step (a := .int .i64 e.dstBits) (by decide) (by kernel_rfl) (ii _ _ _ Tryd.underlying3)).trans ?_
    refine (eqf_step (a := .int .i64 e.sLow) (by decide) (by kernel_rfl) (ii _ _ _ Tryd.underlying3)).trans ?_
    refine (eqf_step (a := .int .i64 e.sHigh) (by decide) (by kernel_rfl) (ii _ _ _ Tryd.underlying3)).trans ?_
    refine (eqf_step (a := .int .i64 e.dLow) (by decide) (by kernel_rfl) (ii _ _ _ Tryd.underlying3)).trans ?_
    refine (eqf_step (a := .int .i64 e.dHigh) (by decide) (by kernel_rfl) (ii _ _ _ Tryd.underlying3)).trans ?_
    refine (eqf_step (a := .int .i64 e.proto) (by decide) (by kernel_rfl) (ii _ _ _ Tryd.underlying3)).trans ?_
    refine (eqf_step (a := .int .i64 e.action) (by decide) (by kernel_rfl) (ii _ _ _ Tryd.underlying3)).trans ?_
    rfl
  rw [key]
  rfl
theorem same_en {K : Bool → PT} {o p : Sl3} {l : List En} (h1 : EnO w o l) (h2 : EnO w p l) (hk : ∀ w', Ext w w' → K true w') : cal Tryd.prog Z 14 [.slice o.a o.n o.c, .slice p.a p.n p.c] (isB fun v => K v) w := by
  refine ref07_Same.cal ?_
  unfold ref07_Same.F ref07_Same.s32
  have n1 := h1.1
  have n2 := h2.1
  have hmax := h1.max
  rw [pif_bne, if_pos (by omega)]
  unfold ref07_Same.s29
  have loop : ∀ (m j : Nat) (w' : World), l.length = j + m → Ext w w' → ref07_Same.l18 Z K (m + 1) o.a o.n o.c p.a p.n p.c j w' := by
    intro m
    induction m with
    | zero =>
      intro j w' hm k
      unfold ref07_Same.l18 ref07_Same.s21 ref07_Same.s8
      rw [pif_dec, if_neg (by omega)]
      exact hk w' k
    | succ m ih =>
      intro j w' hm k
      have hx := List.getElem?_eq_getElem (show j < l.length by omega)
      unfold ref07_Same.l18 ref07_Same.s21
      rw [pif_dec, if_pos (by omega)]
      refine ⟨fun w' => EnO w' o l ∧ EnO w' p l, ⟨h1.ext k.drew, h2.ext k.drew⟩, ?_⟩
      have k := k.drew
      have g1 : EnO w'.drew o l := h1.ext k
      have g2 : EnO w'.drew p l := h2.ext k
      refine ixS_held g1 (S := fun w' => EnO w' o l ∧ EnO w' p l) (fun w' h => h.1) hx fun ad hc => ?_
      refine hN_of rfl hc ?_
      refine ixS_held g2 (S := fun w' => EnO w' o l ∧ EnO w' p l) (fun w' h => h.2) hx fun ad hc => ?_
      refine hN_of rfl hc ?_
      refine neqE (sAnd_of ⟨g1, g2⟩ ?_)
      rw [pif_false, wrap_nat1 (by omega)]
      exact ih (j + 1) _ (by omega) k
  exact exK_of (l.length + 1) (loop l.length 0 w (by omega) Keep.refl)
end
end Go.Proofs.YtllgjjldnnmjkaaDoor
end
section
set_option maxRecDepth 100000
namespace Go.Proofs.YtllgjjldnnmjkaaDoor
open Go.RowKit
/-- 'long' ends, and writes nothing. -/
theorem long_cal {Z : List PanicEntry → PT} {w : World} {K : Bool → PT} {s : Sl3} {l : List Rw} (hc : RwsO w s l) (hk : ∀ b, K b w) : cal Tryd.prog Z 15 [.slice s.a s.n s.c] (isB fun v => K v) w := by
  refine law07_long.cal ?_
  unfold law07_long.F law07_long.s66 law07_long.s63
  obtain ⟨ps, p1, p2, p3⟩ := hc
  have hmax := p2.max
  have hn := p2.1
  have fin : ∀ n : Int, law07_long.s8 Z K s.a s.n s.c n w := fun n => by
    unfold law07_long.s8
    rw [pif_dec]
    split
    · exact hk _
    · exact hk _
  have outer : ∀ (m j : Nat) (n : Int), ps.length = j + m → law07_long.l18 Z K (m + 1) s.a s.n s.c n j w := by
    intro m
    induction m with
    | zero =>
      intro j n hm
      unfold law07_long.l18 law07_long.s57
      rw [pif_dec, if_neg (by omega)]
      exact fin n
    | succ m ih =>
      intro j n hm
      have hx := List.getElem?_eq_getElem (show j < ps.length by omega)
      have hcls := p3 _ (List.getElem_mem (show j < ps.length by omega))
      generalize ps[j] = q at hx hcls
      obtain ⟨r, sr⟩ := q
      have hcls : ClsO w sr r.clauses := hcls
      obtain ⟨qs, q1, q2, q3⟩ := hcls
      have qmax := q2.max
      have qn := q2.1
      unfold law07_long.l18 law07_long.s57
      rw [pif_dec, if_pos (by omega)]
      rw [pif_dec]
      split
      case isFalse => exact fin n
      rw [pif_dec]
      split
      case isFalse => exact fin n
      unfold law07_long.s53
      refine ixS_Ro p2 hx fun ad hcell => ?_
      refine ldL_of (hcell 4 (.slice sr.a sr.n sr.c) rfl) ?_
      have next : ∀ n : Int, law07_long.s27 Z K (law07_long.l18 Z K (m + 1)) s.a s.n s.c n j w := fun n => by
        unfold law07_long.s27
        rw [wrap_nat1 (by omega)]
        exact ih (j + 1) n (by omega)
      have inner : ∀ (m2 k : Nat) (n : Int), qs.length = k + m2 → law07_long.l41 Z K (law07_long.l18 Z K (m + 1)) (m2 + 1) s.a s.n s.c n j k w := by
        intro m2
        induction m2 with
        | zero =>
          intro k n hm2
          unfold law07_long.l41 law07_long.s45
          refine ixS_Ro p2 hx fun ad hcell => ?_
          refine ldL_of (hcell 4 (.slice sr.a sr.n sr.c) rfl) ?_
          rw [pif_dec, if_neg (by omega)]
          exact next n
        | succ m2 ih2 =>
          intro k n hm2
          have hy := List.getElem?_eq_getElem (show k < qs.length by omega)
          unfold law07_long.l41 law07_long.s45
          refine ixS_Ro p2 hx fun ad hcell => ?_
          refine ldL_of (hcell 4 (.slice sr.a sr.n sr.c) rfl) ?_
          rw [pif_dec, if_pos (by omega)]
          rw [pif_dec]
          split
          case isFalse => exact next n
          refine ixS_Ro p2 hx fun ad hcell => ?_
          refine ldL_of (hcell 4 (.slice sr.a sr.n sr.c) rfl) ?_
          refine ixS_Ro q2 hy fun ad2 hcell2 => ?_
          generalize qs[k] = c at hy hcell2
          refine ldL_of (hcell2 2 (.slice c.2.a c.2.n c.2.c) rfl) ?_
          rw [wrap_nat1 (i := k) (by omega)]
          exact ih2 (k + 1) _ (by omega)
      exact exK_of (qs.length + 1) (inner qs.length 0 _ (by omega))
  exact exK_of (ps.length + 1) (outer ps.length 0 0 (by omega))
theorem sck_F {Z : List PanicEntry → PT} {Q : Bool → PT} {w : World} {s : Sl3} {l : List Rw} {size : Int} (hv : Places w) (hc : RwsO w s l) (hq : ∀ w', Ext w w' → Q true w') : law07_SenseChecks.F Z Q s.a s.n s.c size w := by
  unfold law07_SenseChecks.F
  refine awake_cal hv fun w2 k2 => ?_
  rw [pif_not, pif_true]
  refine long_cal (hc.ext k2) fun b => ?_
  rw [pif_bool]
  split
  · exact hq w2 k2
  refine check_cal (hc.ext k2) fun w3 o r3 => ?_
  refine check2_cal ((hc.ext k2).ext r3.kept) fun w4 p r4 => ?_
  rw [pif_beq, if_pos rfl, pif_beq, if_pos rfl]
  refine same_en (r3.en.ext r4.kept) r4.en fun w5 k5 => ?_
  exact hq w5 (((k2.trans r3.kept).trans r4.kept).trans k5)
theorem SenseChecks_walk : WalkedL (Rows.senseChecksRow.laid) 4 [29, 3] := by
  intro vs W hl ha hL
  match vs, hl with
  | [v0, v1], _ =>
    obtain ⟨s, l, rfl, hc⟩ := raws_arg (ha 0 _ v0 rfl rfl)
    obtain ⟨n, rfl, _⟩ := (ha 1 _ v1 rfl rfl).int Tryd.underlying3
    have g1 := places_of hL (by simp [Rows.senseChecksRow]; rfl)
    refine (law07_SenseChecks.vc0 (Good W) s.a s.n s.c n W (sck_F g1 hc fun w' k => ⟨rfl, k⟩)).mono fun e w' ⟨r, he, hr, hk⟩ => ⟨by rw [he, hr], hk.below⟩
end Go.Proofs.YtllgjjldnnmjkaaDoor
end
