/-
  Texts of this claim, one behind the other: part 3 of 7. No condition.
-/
import Derived.Test.YtllgjjldnnmjkaaDoorZb2
set_option linter.unusedVariables false
set_option linter.unusedSimpArgs false
section
namespace Go.Proofs.YtllgjjldnnmjkaaDoor
open Go.RowKit
set_option maxRecDepth 100000

/-! ### milepost/sense.within: function 29 -/
noncomputable def sense_within.body : Code := bodyC Tryd.f29
def sense_within.F (Z : ZT) (Q : List Value → PT) (n_0 : List Value) (low_1 : Int) (high_2 : Int) : PT :=
  (newC 49 n_0 fun n11 => (newC 57 [(Value.int .i64 0), (Value.int .i64 0)] fun v12 => (ldI .i64 (n11.add 0) fun v13 => (pif (decide (v13 < low_1)) (ldI .i64 (n11.add 1) fun v14 => (stN 2 v12 [(Value.int .i64 10), (Value.int .i64 v14)] (ldN 2 v12 fun v15 => (Q v15)))) (ldI .i64 (n11.add 0) fun v16 => (pif (decide (v16 > high_2)) (ldI .i64 (n11.add 1) fun v17 => (stN 2 v12 [(Value.int .i64 10), (Value.int .i64 v17)] (ldN 2 v12 fun v18 => (Q v18)))) (stN 2 v12 [(Value.int .i64 0), (Value.int .i64 0)] (ldN 2 v12 fun v19 => (Q v19)))))))))
def sense_within.q1 (Z : ZT) (Q : List Value → PT) : QF := bodyQ Tryd.prog [.cell 6 57] (fun v => atN v fun va => Q va)
theorem sense_within.eq (Z : ZT) (Q : List Value → PT) (n_0 : List Value) (low_1 : Int) (high_2 : Int) : comp Tryd.prog Z sense_within.body (sense_within.q1 Z Q) (fr0 [(Value.agg ⟨n_0⟩), (Value.int .i64 low_1), (Value.int .i64 high_2)]) = sense_within.F Z Q n_0 low_1 high_2 := by kernel_rfl
theorem sense_within.vc (Z : ZT) (Q : List Value → PT) (n_0 : List Value) (low_1 : Int) (high_2 : Int) (w : World) (h : sense_within.F Z Q n_0 low_1 high_2 w) : Calls Tryd.prog 29 ⟨[(Value.agg ⟨n_0⟩), (Value.int .i64 low_1), (Value.int .i64 high_2)]⟩ w fun e w' => (∃ (r0 : List Value), e = .returned (.agg ⟨r0⟩) ∧ Q r0 w') ∨ ∃ c, e = .panicked c ∧ Z c w' := by
  refine (calls_of_ok (args := [(Value.agg ⟨n_0⟩), (Value.int .i64 low_1), (Value.int .i64 high_2)]) (w := w) (rs := [.cell 6 57]) (fn := Tryd.f29) (c := sense_within.body) Tryd.func29 (by kernel_rfl) (by kernel_rfl) (Nat.le_of_ble_eq_true (by kernel_rfl)) (okC sense_within.body (sense_within.q1 Z Q) (by kernel_rfl)) (by rw [sense_within.eq]; exact h)).mono fun e w' hR => ?_
  cases e with
  | returned v =>
    obtain ⟨va, rfl, hR⟩ := atN_e hR
    exact .inl ⟨va, rfl, hR⟩
  | panicked c => exact .inr ⟨c, rfl, hR⟩
  | outgrown => exact hR.elim
theorem sense_within.vc0 (Q : List Value → PT) (n_0 : List Value) (low_1 : Int) (high_2 : Int) (w : World) (h : sense_within.F Z0 Q n_0 low_1 high_2 w) : Calls Tryd.prog 29 ⟨[(Value.agg ⟨n_0⟩), (Value.int .i64 low_1), (Value.int .i64 high_2)]⟩ w fun e w' => (∃ (r0 : List Value), e = .returned (.agg ⟨r0⟩) ∧ Q r0 w') :=
  (sense_within.vc Z0 Q n_0 low_1 high_2 w h).mono fun _ _ hR => hR.elim id fun ⟨_, _, hz⟩ => hz.elim
theorem sense_within.cal {Z : ZT} {Q : List Value → PT} {n_0 : List Value} {low_1 : Int} {high_2 : Int} {w : World} (h : sense_within.F Z Q n_0 low_1 high_2 w) : Go.Proofs.YtllgjjldnnmjkaaDoor.cal Tryd.prog Z 29 [(Value.agg ⟨n_0⟩), (Value.int .i64 low_1), (Value.int .i64 high_2)] (isN fun r0 => Q r0) w := by
  refine (sense_within.vc Z Q n_0 low_1 high_2 w h).mono fun e w' hR => ?_
  rcases hR with ⟨r0, rfl, h⟩ | ⟨c, rfl, h⟩
  · show (isN fun r0 => Q r0) (.agg ⟨r0⟩) w'
    exact ⟨_, rfl, h⟩
  · exact h

/-! ### milepost/sense.first: function 83 -/
noncomputable def sense_first.body : Code := bodyC Tryd.f83
noncomputable def sense_first.c1 : Code := sq1 sense_first.body
noncomputable def sense_first.c2 : Code := sq2 sense_first.body
theorem sense_first.q3 : sense_first.body = .seq sense_first.c1 sense_first.c2 := by kernel_rfl
noncomputable def sense_first.c4 : Code := sq1 sense_first.c2
noncomputable def sense_first.c5 : Code := sq2 sense_first.c2
theorem sense_first.q6 : sense_first.c2 = .seq sense_first.c4 sense_first.c5 := by kernel_rfl
def sense_first.s7 (Z : ZT) (Q : List Value → PT) (t_2 : Addr) : PT :=
  (stN 2 t_2 [(Value.int .i64 0), (Value.int .i64 0)] (ldN 2 t_2 fun v2 => (Q v2)))
def sense_first.q8 (Z : ZT) (Q : List Value → PT) : QF := bodyQ Tryd.prog [.cell 2 57] (fun v => atN v fun va => Q va)
theorem sense_first.s7_eq (Z : ZT) (Q : List Value → PT) (ρ : Fr) (t_2 : Addr) : comp Tryd.prog Z sense_first.c5 (sense_first.q8 Z Q) (puts ρ [(2, (Value.pointer (some t_2)))]) = sense_first.s7 Z Q t_2 := by kernel_rfl
def sense_first.j9 (Z : ZT) (Q : List Value → PT) : Fr → PT := (fun ρ => atA (ρ 2) fun t_2 => (sense_first.s7 Z Q t_2))
theorem sense_first.s7_ok (Z : ZT) (Q : List Value → PT) : Ok Tryd.prog Tryd.f83.ntmps Z sense_first.c5 (sense_first.q8 Z Q) (sense_first.j9 Z Q) := by
  intro E he ρ w a hr h
  obtain ⟨t_2, e2, h⟩ := atA_e h
  exact ok_at [(2, (Value.pointer (some t_2)))] (okC sense_first.c5 (sense_first.q8 Z Q) (by kernel_rfl)) (puts_cons e2 (fun p hp => puts_nil hp)) (sense_first.s7_eq Z Q ρ t_2) he hr h
noncomputable def sense_first.c10 : Code := sq1 sense_first.c4
noncomputable def sense_first.c11 : Code := sq2 sense_first.c4
theorem sense_first.q12 : sense_first.c4 = .seq sense_first.c10 sense_first.c11 := by kernel_rfl
noncomputable def sense_first.c13 : Code := blk sense_first.c11
theorem sense_first.q14 : sense_first.c11 = .block 0 sense_first.c13 := by kernel_rfl
noncomputable def sense_first.c15 : Code := lop sense_first.c13
theorem sense_first.q16 : sense_first.c13 = .loop sense_first.c15 := by kernel_rfl
def sense_first.q18 (Z : ZT) (Q : List Value → PT) : QF := thenK (sense_first.j9 Z Q) (sense_first.q8 Z Q)
def sense_first.q19 (Z : ZT) (Q : List Value → PT) : QF := inBl 0 (sense_first.q18 Z Q)
def sense_first.s20 (Z : ZT) (Q : List Value → PT) (X1 : Addr → OA → Nat → Nat → Int → Int → PT) (t_2 : Addr) (t_5 : OA) (t_5n t_5c : Nat) (t_6 : Int) (t_7 : Int) : PT :=
  (pif (decide (t_7 < t_6)) (ixS t_5 t_5n t_7 2 fun v15 => (ldN 2 v15 fun v16 => (newC 57 [(Value.int .i64 0), (Value.int .i64 0)] fun f17 => (stN 2 f17 v16 (ldI .i64 (f17.add 0) fun v18 => (pif (v18 != 0) (ldN 2 f17 fun v19 => (stN 2 t_2 v19 (ldN 2 t_2 fun v20 => (Q v20)))) (X1 t_2 t_5 t_5n t_5c t_6 (IntKind.wrap .i64 (t_7 + 1))))))))) (sense_first.s7 Z Q t_2))
def sense_first.j21 (Z : ZT) (Q : List Value → PT) (X1 : Addr → OA → Nat → Nat → Int → Int → PT) : Fr → PT := (fun ρ => atA (ρ 2) fun t_2 => atL (ρ 5) fun t_5 t_5n t_5c => atI .i64 (ρ 6) fun t_6 => atI .i64 (ρ 7) fun t_7 => (X1 t_2 t_5 t_5n t_5c t_6 t_7))
def sense_first.q22 (Z : ZT) (Q : List Value → PT) (X1 : Addr → OA → Nat → Nat → Int → Int → PT) : QF := thenK (sense_first.j21 Z Q X1) (sense_first.q19 Z Q)
theorem sense_first.s20_eq (Z : ZT) (Q : List Value → PT) (X1 : Addr → OA → Nat → Nat → Int → Int → PT) (ρ : Fr) (t_2 : Addr) (t_5 : OA) (t_5n t_5c : Nat) (t_6 : Int) (t_7 : Int) : comp Tryd.prog Z sense_first.c15 (sense_first.q22 Z Q X1) (puts ρ [(2, (Value.pointer (some t_2))), (5, (Value.slice t_5 t_5n t_5c)), (6, (Value.int .i64 t_6)), (7, (Value.int .i64 t_7))]) = sense_first.s20 Z Q X1 t_2 t_5 t_5n t_5c t_6 t_7 := by kernel_rfl
def sense_first.j23 (Z : ZT) (Q : List Value → PT) (X1 : Addr → OA → Nat → Nat → Int → Int → PT) : Fr → PT := (fun ρ => atA (ρ 2) fun t_2 => atL (ρ 5) fun t_5 t_5n t_5c => atI .i64 (ρ 6) fun t_6 => atI .i64 (ρ 7) fun t_7 => (sense_first.s20 Z Q X1 t_2 t_5 t_5n t_5c t_6 t_7))
theorem sense_first.s20_ok (Z : ZT) (Q : List Value → PT) (X1 : Addr → OA → Nat → Nat → Int → Int → PT) : Ok Tryd.prog Tryd.f83.ntmps Z sense_first.c15 (sense_first.q22 Z Q X1) (sense_first.j23 Z Q X1) := by
  intro E he ρ w a hr h
  obtain ⟨t_2, e2, h⟩ := atA_e h
  obtain ⟨t_5, t_5n, t_5c, e5, h⟩ := atL_e h
  obtain ⟨t_6, e6, h⟩ := atI_e h
  obtain ⟨t_7, e7, h⟩ := atI_e h
  exact ok_at [(2, (Value.pointer (some t_2))), (5, (Value.slice t_5 t_5n t_5c)), (6, (Value.int .i64 t_6)), (7, (Value.int .i64 t_7))] (okC sense_first.c15 (sense_first.q22 Z Q X1) (by kernel_rfl)) (puts_cons e2 (puts_cons e5 (puts_cons e6 (puts_cons e7 (fun p hp => puts_nil hp))))) (sense_first.s20_eq Z Q X1 ρ t_2 t_5 t_5n t_5c t_6 t_7) he hr h
def sense_first.l17 (Z : ZT) (Q : List Value → PT) : Nat → Addr → OA → Nat → Nat → Int → Int → PT
  | 0, _, _, _, _, _, _ => bad
  | k + 1, t_2, t_5, t_5n, t_5c, t_6, t_7 => (sense_first.s20 Z Q (sense_first.l17 Z Q k) t_2 t_5 t_5n t_5c t_6 t_7)
def sense_first.j24 (Z : ZT) (Q : List Value → PT) (k : Nat) : Fr → PT := (fun ρ => atA (ρ 2) fun t_2 => atL (ρ 5) fun t_5 t_5n t_5c => atI .i64 (ρ 6) fun t_6 => atI .i64 (ρ 7) fun t_7 => (sense_first.l17 Z Q k t_2 t_5 t_5n t_5c t_6 t_7))
def sense_first.j25 (Z : ZT) (Q : List Value → PT) : Fr → PT := (fun ρ => atA (ρ 2) fun t_2 => atL (ρ 5) fun t_5 t_5n t_5c => atI .i64 (ρ 6) fun t_6 => atI .i64 (ρ 7) fun t_7 => (exK fun k => sense_first.l17 Z Q k t_2 t_5 t_5n t_5c t_6 t_7))
theorem sense_first.o26 (Z : ZT) (Q : List Value → PT) : Ok Tryd.prog Tryd.f83.ntmps Z sense_first.c13 (sense_first.q19 Z Q) (sense_first.j25 Z Q) := by
  rw [sense_first.q16]
  refine Ok.imp (ok_loop (J := sense_first.j24 Z Q) ?_ ?_) ?_
  · intro ρ w h
    obtain ⟨t_2, e2, h⟩ := atA_e h
    obtain ⟨t_5, t_5n, t_5c, e5, h⟩ := atL_e h
    obtain ⟨t_6, e6, h⟩ := atI_e h
    obtain ⟨t_7, e7, h⟩ := atI_e h
    exact h
  · intro k
    refine Ok.imp (sense_first.s20_ok Z Q (sense_first.l17 Z Q k)) fun ρ w h => ?_
    obtain ⟨t_2, e2, h⟩ := atA_e h
    obtain ⟨t_5, t_5n, t_5c, e5, h⟩ := atL_e h
    obtain ⟨t_6, e6, h⟩ := atI_e h
    obtain ⟨t_7, e7, h⟩ := atI_e h
    show (sense_first.j23 Z Q (sense_first.l17 Z Q k)) ρ w
    simp only [sense_first.j23]
    rw [e2]
    rw [e5]
    rw [e6]
    rw [e7]
    exact h
  · intro ρ w h
    obtain ⟨t_2, e2, h⟩ := atA_e h
    obtain ⟨t_5, t_5n, t_5c, e5, h⟩ := atL_e h
    obtain ⟨t_6, e6, h⟩ := atI_e h
    obtain ⟨t_7, e7, h⟩ := atI_e h
    obtain ⟨k, h⟩ := h
    refine ⟨k, ?_⟩
    show (atA (ρ 2) fun t_2 => atL (ρ 5) fun t_5 t_5n t_5c => atI .i64 (ρ 6) fun t_6 => atI .i64 (ρ 7) fun t_7 => (sense_first.l17 Z Q k t_2 t_5 t_5n t_5c t_6 t_7)) w
    rw [e2]
    rw [e5]
    rw [e6]
    rw [e7]
    exact h
theorem sense_first.o27 (Z : ZT) (Q : List Value → PT) : Ok Tryd.prog Tryd.f83.ntmps Z sense_first.c11 (sense_first.q18 Z Q) (sense_first.j25 Z Q) := by
  rw [sense_first.q14]; exact ok_block (sense_first.o26 Z Q)
def sense_first.s28 (Z : ZT) (Q : List Value → PT) (l_0 : OA) (l_0n l_0c : Nat) (t_2 : Addr) : PT :=
  (exK fun k => sense_first.l17 Z Q k t_2 l_0 l_0n l_0c ((l_0n : Nat) : Int) 0)
theorem sense_first.s28_eq (Z : ZT) (Q : List Value → PT) (ρ : Fr) (l_0 : OA) (l_0n l_0c : Nat) (t_2 : Addr) : (comp Tryd.prog Z sense_first.c10 (thenK (sense_first.j25 Z Q) (sense_first.q18 Z Q))) (puts ρ [(0, (Value.slice l_0 l_0n l_0c)), (2, (Value.pointer (some t_2)))]) = sense_first.s28 Z Q l_0 l_0n l_0c t_2 := by kernel_rfl
def sense_first.j29 (Z : ZT) (Q : List Value → PT) : Fr → PT := (fun ρ => atL (ρ 0) fun l_0 l_0n l_0c => atA (ρ 2) fun t_2 => (sense_first.s28 Z Q l_0 l_0n l_0c t_2))
theorem sense_first.s28_ok (Z : ZT) (Q : List Value → PT) : Ok Tryd.prog Tryd.f83.ntmps Z sense_first.c4 (sense_first.q18 Z Q) (sense_first.j29 Z Q) := by
  intro E he ρ w a hr h
  rw [sense_first.q12] at he ⊢
  obtain ⟨l_0, l_0n, l_0c, e0, h⟩ := atL_e h
  obtain ⟨t_2, e2, h⟩ := atA_e h
  exact ok_at [(0, (Value.slice l_0 l_0n l_0c)), (2, (Value.pointer (some t_2)))] (ok_seq (okC sense_first.c10 _ (by kernel_rfl)) (sense_first.o27 Z Q)) (puts_cons e0 (puts_cons e2 (fun p hp => puts_nil hp))) (sense_first.s28_eq Z Q ρ l_0 l_0n l_0c t_2) he hr h
theorem sense_first.o30 (Z : ZT) (Q : List Value → PT) : Ok Tryd.prog Tryd.f83.ntmps Z sense_first.c2 (sense_first.q8 Z Q) (sense_first.j29 Z Q) := by
  rw [sense_first.q6]; exact ok_seq (sense_first.s28_ok Z Q) (sense_first.s7_ok Z Q)
def sense_first.s31 (Z : ZT) (Q : List Value → PT) (l_0 : OA) (l_0n l_0c : Nat) : PT :=
  (newC 57 [(Value.int .i64 0), (Value.int .i64 0)] fun v21 => (sense_first.s28 Z Q l_0 l_0n l_0c v21))
theorem sense_first.s31_eq (Z : ZT) (Q : List Value → PT) (ρ : Fr) (l_0 : OA) (l_0n l_0c : Nat) : (comp Tryd.prog Z sense_first.c1 (thenK (sense_first.j29 Z Q) (sense_first.q8 Z Q))) (puts ρ [(0, (Value.slice l_0 l_0n l_0c))]) = sense_first.s31 Z Q l_0 l_0n l_0c := by kernel_rfl
def sense_first.j32 (Z : ZT) (Q : List Value → PT) : Fr → PT := (fun ρ => atL (ρ 0) fun l_0 l_0n l_0c => (sense_first.s31 Z Q l_0 l_0n l_0c))
theorem sense_first.s31_ok (Z : ZT) (Q : List Value → PT) : Ok Tryd.prog Tryd.f83.ntmps Z sense_first.body (sense_first.q8 Z Q) (sense_first.j32 Z Q) := by
  intro E he ρ w a hr h
  rw [sense_first.q3] at he ⊢
  obtain ⟨l_0, l_0n, l_0c, e0, h⟩ := atL_e h
  exact ok_at [(0, (Value.slice l_0 l_0n l_0c))] (ok_seq (okC sense_first.c1 _ (by kernel_rfl)) (sense_first.o30 Z Q)) (puts_cons e0 (fun p hp => puts_nil hp)) (sense_first.s31_eq Z Q ρ l_0 l_0n l_0c) he hr h
def sense_first.F (Z : ZT) (Q : List Value → PT) (l_0 : OA) (l_0n l_0c : Nat) : PT :=
  (sense_first.s31 Z Q l_0 l_0n l_0c)
theorem sense_first.vc (Z : ZT) (Q : List Value → PT) (l_0 : OA) (l_0n l_0c : Nat) (w : World) (h : sense_first.F Z Q l_0 l_0n l_0c w) : Calls Tryd.prog 83 ⟨[(Value.slice l_0 l_0n l_0c)]⟩ w fun e w' => (∃ (r0 : List Value), e = .returned (.agg ⟨r0⟩) ∧ Q r0 w') ∨ ∃ c, e = .panicked c ∧ Z c w' := by
  refine (calls_of_ok (args := [(Value.slice l_0 l_0n l_0c)]) (w := w) (rs := [.cell 2 57]) (fn := Tryd.f83) (c := sense_first.body) Tryd.func83 (by kernel_rfl) (by kernel_rfl) (Nat.le_of_ble_eq_true (by kernel_rfl)) (sense_first.s31_ok Z Q) (h)).mono fun e w' hR => ?_
  cases e with
  | returned v =>
    obtain ⟨va, rfl, hR⟩ := atN_e hR
    exact .inl ⟨va, rfl, hR⟩
  | panicked c => exact .inr ⟨c, rfl, hR⟩
  | outgrown => exact hR.elim
theorem sense_first.vc0 (Q : List Value → PT) (l_0 : OA) (l_0n l_0c : Nat) (w : World) (h : sense_first.F Z0 Q l_0 l_0n l_0c w) : Calls Tryd.prog 83 ⟨[(Value.slice l_0 l_0n l_0c)]⟩ w fun e w' => (∃ (r0 : List Value), e = .returned (.agg ⟨r0⟩) ∧ Q r0 w') :=
  (sense_first.vc Z0 Q l_0 l_0n l_0c w h).mono fun _ _ hR => hR.elim id fun ⟨_, _, hz⟩ => hz.elim
theorem sense_first.cal {Z : ZT} {Q : List Value → PT} {l_0 : OA} {l_0n l_0c : Nat} {w : World} (h : sense_first.F Z Q l_0 l_0n l_0c w) : Go.Proofs.YtllgjjldnnmjkaaDoor.cal Tryd.prog Z 83 [(Value.slice l_0 l_0n l_0c)] (isN fun r0 => Q r0) w := by
  refine (sense_first.vc Z Q l_0 l_0n l_0c w h).mono fun e w' hR => ?_
  rcases hR with ⟨r0, rfl, h⟩ | ⟨c, rfl, h⟩
  · show (isN fun r0 => Q r0) (.agg ⟨r0⟩) w'
    exact ⟨_, rfl, h⟩
  · exact h

/-! ### milepost/sense.address: function 76 -/
noncomputable def sense_address.body : Code := bodyC Tryd.f76
noncomputable def sense_address.c1 : Code := sq1 sense_address.body
noncomputable def sense_address.c2 : Code := sq1 (sq2 sense_address.body)
noncomputable def sense_address.c3 : Code := sq1 (sq2 (sq2 sense_address.body))
noncomputable def sense_address.c4 : Code := sq2 (sq2 (sq2 sense_address.body))
theorem sense_address.q5 : sense_address.body = .seq sense_address.c1 (.seq sense_address.c2 (.seq sense_address.c3 sense_address.c4)) := by kernel_rfl
noncomputable def sense_address.c6 : Code := sq1 sense_address.c4
noncomputable def sense_address.c7 : Code := sq2 sense_address.c4
theorem sense_address.q8 : sense_address.c4 = .seq sense_address.c6 sense_address.c7 := by kernel_rfl
def sense_address.s9 (Z : ZT) (Q : Int → Int → List Value → PT) (t_4 : Addr) (v_5 : Int) (bits_6 : Int) : PT :=
  (stN 2 t_4 [(Value.int .i64 0), (Value.int .i64 0)] (ldN 2 t_4 fun v7 => (Q v_5 bits_6 v7)))
def sense_address.q10 (Z : ZT) (Q : Int → Int → List Value → PT) : QF := bodyQ Tryd.prog [.tmp 2, .tmp 3, .cell 4 57] (fun v => at3 v fun x y z => atI .u32 x fun xa => atI .i64 y fun ya => atN z fun za => Q xa ya za)
theorem sense_address.s9_eq (Z : ZT) (Q : Int → Int → List Value → PT) (ρ : Fr) (t_4 : Addr) (v_5 : Int) (bits_6 : Int) : comp Tryd.prog Z sense_address.c7 (sense_address.q10 Z Q) (puts ρ [(4, (Value.pointer (some t_4))), (5, (Value.int .u32 v_5)), (6, (Value.int .i64 bits_6))]) = sense_address.s9 Z Q t_4 v_5 bits_6 := by kernel_rfl
def sense_address.j11 (Z : ZT) (Q : Int → Int → List Value → PT) : Fr → PT := (fun ρ => atA (ρ 4) fun t_4 => atI .u32 (ρ 5) fun v_5 => atI .i64 (ρ 6) fun bits_6 => (sense_address.s9 Z Q t_4 v_5 bits_6))
theorem sense_address.s9_ok (Z : ZT) (Q : Int → Int → List Value → PT) : Ok Tryd.prog Tryd.f76.ntmps Z sense_address.c7 (sense_address.q10 Z Q) (sense_address.j11 Z Q) := by
  intro E he ρ w a hr h
  obtain ⟨t_4, e4, h⟩ := atA_e h
  obtain ⟨v_5, e5, h⟩ := atI_e h
  obtain ⟨bits_6, e6, h⟩ := atI_e h
  exact ok_at [(4, (Value.pointer (some t_4))), (5, (Value.int .u32 v_5)), (6, (Value.int .i64 bits_6))] (okC sense_address.c7 (sense_address.q10 Z Q) (by kernel_rfl)) (puts_cons e4 (puts_cons e5 (puts_cons e6 (fun p hp => puts_nil hp)))) (sense_address.s9_eq Z Q ρ t_4 v_5 bits_6) he hr h
noncomputable def sense_address.c12 : Code := sq1 sense_address.c6
noncomputable def sense_address.c13 : Code := sq2 sense_address.c6
theorem sense_address.q14 : sense_address.c6 = .seq sense_address.c12 sense_address.c13 := by kernel_rfl
noncomputable def sense_address.c15 : Code := blk sense_address.c13
theorem sense_address.q16 : sense_address.c13 = .block 0 sense_address.c15 := by kernel_rfl
noncomputable def sense_address.c17 : Code := lop sense_address.c15
theorem sense_address.q18 : sense_address.c15 = .loop sense_address.c17 := by kernel_rfl
def sense_address.q20 (Z : ZT) (Q : Int → Int → List Value → PT) : QF := thenK (sense_address.j11 Z Q) (sense_address.q10 Z Q)
def sense_address.q21 (Z : ZT) (Q : Int → Int → List Value → PT) : QF := inBl 0 (sense_address.q20 Z Q)
noncomputable def sense_address.c22 : Code := sq1 sense_address.c17
noncomputable def sense_address.c23 : Code := sq1 (sq2 sense_address.c17)
noncomputable def sense_address.c24 : Code := sq2 (sq2 sense_address.c17)
theorem sense_address.q25 : sense_address.c17 = .seq sense_address.c22 (.seq sense_address.c23 sense_address.c24) := by kernel_rfl
noncomputable def sense_address.c26 : Code := sq1 sense_address.c24
noncomputable def sense_address.c27 : Code := sq2 sense_address.c24
theorem sense_address.q28 : sense_address.c24 = .seq sense_address.c26 sense_address.c27 := by kernel_rfl
def sense_address.s29 (Z : ZT) (Q : Int → Int → List Value → PT) (X1 : Addr → Int → Int → OA → Nat → Nat → Int → Int → PT) (t_4 : Addr) (v_5 : Int) (bits_6 : Int) (t_12 : OA) (t_12n t_12c : Nat) (t_13 : Int) (t_14 : Int) : PT :=
  (X1 t_4 v_5 bits_6 t_12 t_12n t_12c t_13 (IntKind.wrap .i64 (t_14 + 1)))
def sense_address.j30 (Z : ZT) (Q : Int → Int → List Value → PT) (X1 : Addr → Int → Int → OA → Nat → Nat → Int → Int → PT) : Fr → PT := (fun ρ => atA (ρ 4) fun t_4 => atI .u32 (ρ 5) fun v_5 => atI .i64 (ρ 6) fun bits_6 => atL (ρ 12) fun t_12 t_12n t_12c => atI .i64 (ρ 13) fun t_13 => atI .i64 (ρ 14) fun t_14 => (X1 t_4 v_5 bits_6 t_12 t_12n t_12c t_13 t_14))
def sense_address.q31 (Z : ZT) (Q : Int → Int → List Value → PT) (X1 : Addr → Int → Int → OA → Nat → Nat → Int → Int → PT) : QF := thenK (sense_address.j30 Z Q X1) (sense_address.q21 Z Q)
theorem sense_address.s29_eq (Z : ZT) (Q : Int → Int → List Value → PT) (X1 : Addr → Int → Int → OA → Nat → Nat → Int → Int → PT) (ρ : Fr) (t_4 : Addr) (v_5 : Int) (bits_6 : Int) (t_12 : OA) (t_12n t_12c : Nat) (t_13 : Int) (t_14 : Int) : comp Tryd.prog Z sense_address.c27 (sense_address.q31 Z Q X1) (puts ρ [(4, (Value.pointer (some t_4))), (5, (Value.int .u32 v_5)), (6, (Value.int .i64 bits_6)), (12, (Value.slice t_12 t_12n t_12c)), (13, (Value.int .i64 t_13)), (14, (Value.int .i64 t_14))]) = sense_address.s29 Z Q X1 t_4 v_5 bits_6 t_12 t_12n t_12c t_13 t_14 := by kernel_rfl
def sense_address.j32 (Z : ZT) (Q : Int → Int → List Value → PT) (X1 : Addr → Int → Int → OA → Nat → Nat → Int → Int → PT) : Fr → PT := (fun ρ => atA (ρ 4) fun t_4 => atI .u32 (ρ 5) fun v_5 => atI .i64 (ρ 6) fun bits_6 => atL (ρ 12) fun t_12 t_12n t_12c => atI .i64 (ρ 13) fun t_13 => atI .i64 (ρ 14) fun t_14 => (sense_address.s29 Z Q X1 t_4 v_5 bits_6 t_12 t_12n t_12c t_13 t_14))
theorem sense_address.s29_ok (Z : ZT) (Q : Int → Int → List Value → PT) (X1 : Addr → Int → Int → OA → Nat → Nat → Int → Int → PT) : Ok Tryd.prog Tryd.f76.ntmps Z sense_address.c27 (sense_address.q31 Z Q X1) (sense_address.j32 Z Q X1) := by
  intro E he ρ w a hr h
  obtain ⟨t_4, e4, h⟩ := atA_e h
  obtain ⟨v_5, e5, h⟩ := atI_e h
  obtain ⟨bits_6, e6, h⟩ := atI_e h
  obtain ⟨t_12, t_12n, t_12c, e12, h⟩ := atL_e h
  obtain ⟨t_13, e13, h⟩ := atI_e h
  obtain ⟨t_14, e14, h⟩ := atI_e h
  exact ok_at [(4, (Value.pointer (some t_4))), (5, (Value.int .u32 v_5)), (6, (Value.int .i64 bits_6)), (12, (Value.slice t_12 t_12n t_12c)), (13, (Value.int .i64 t_13)), (14, (Value.int .i64 t_14))] (okC sense_address.c27 (sense_address.q31 Z Q X1) (by kernel_rfl)) (puts_cons e4 (puts_cons e5 (puts_cons e6 (puts_cons e12 (puts_cons e13 (puts_cons e14 (fun p hp => puts_nil hp))))))) (sense_address.s29_eq Z Q X1 ρ t_4 v_5 bits_6 t_12 t_12n t_12c t_13 t_14) he hr h
noncomputable def sense_address.c33 : Code := blk sense_address.c26
theorem sense_address.q34 : sense_address.c26 = .block 1 sense_address.c33 := by kernel_rfl
noncomputable def sense_address.c35 : Code := sq1 sense_address.c33
noncomputable def sense_address.c36 : Code := sq1 (sq2 sense_address.c33)
noncomputable def sense_address.c37 : Code := sq1 (sq2 (sq2 sense_address.c33))
noncomputable def sense_address.c38 : Code := sq2 (sq2 (sq2 sense_address.c33))
theorem sense_address.q39 : sense_address.c33 = .seq sense_address.c35 (.seq sense_address.c36 (.seq sense_address.c37 sense_address.c38)) := by kernel_rfl
def sense_address.s40 (Z : ZT) (Q : Int → Int → List Value → PT) (X1 : Addr → Int → Int → OA → Nat → Nat → Int → Int → PT) (t_4 : Addr) (v_5 : Int) (bits_6 : Int) (n_8 : Addr) (high_9 : Int) (t_12 : OA) (t_12n t_12c : Nat) (t_13 : Int) (t_14 : Int) : PT :=
  (ldN 2 n_8 fun v93 => (cal Tryd.prog Z 29 [(Value.agg ⟨v93⟩), (Value.int .i64 0), (Value.int .i64 high_9)] (isN fun v94 => (newC 57 [(Value.int .i64 0), (Value.int .i64 0)] fun f95 => (stN 2 f95 v94 (ldI .i64 (f95.add 0) fun v96 => (pif (v96 != 0) (drawn fun S97 => (hN S97 2 f95 fun v98 => (stN 2 t_4 v98 (ldN 2 t_4 fun v99 => (Q 0 0 v99))))) (sense_address.s29 Z Q X1 t_4 v_5 bits_6 t_12 t_12n t_12c t_13 t_14))))))))
def sense_address.q41 (Z : ZT) (Q : Int → Int → List Value → PT) (X1 : Addr → Int → Int → OA → Nat → Nat → Int → Int → PT) : QF := thenK (sense_address.j32 Z Q X1) (sense_address.q31 Z Q X1)
def sense_address.q42 (Z : ZT) (Q : Int → Int → List Value → PT) (X1 : Addr → Int → Int → OA → Nat → Nat → Int → Int → PT) : QF := inBl 1 (sense_address.q41 Z Q X1)
theorem sense_address.s40_eq (Z : ZT) (Q : Int → Int → List Value → PT) (X1 : Addr → Int → Int → OA → Nat → Nat → Int → Int → PT) (ρ : Fr) (t_4 : Addr) (v_5 : Int) (bits_6 : Int) (n_8 : Addr) (high_9 : Int) (t_12 : OA) (t_12n t_12c : Nat) (t_13 : Int) (t_14 : Int) : comp Tryd.prog Z sense_address.c38 (sense_address.q42 Z Q X1) (puts ρ [(4, (Value.pointer (some t_4))), (5, (Value.int .u32 v_5)), (6, (Value.int .i64 bits_6)), (8, (Value.pointer (some n_8))), (9, (Value.int .i64 high_9)), (12, (Value.slice t_12 t_12n t_12c)), (13, (Value.int .i64 t_13)), (14, (Value.int .i64 t_14))]) = sense_address.s40 Z Q X1 t_4 v_5 bits_6 n_8 high_9 t_12 t_12n t_12c t_13 t_14 := by kernel_rfl
def sense_address.j43 (Z : ZT) (Q : Int → Int → List Value → PT) (X1 : Addr → Int → Int → OA → Nat → Nat → Int → Int → PT) : Fr → PT := (fun ρ => atA (ρ 4) fun t_4 => atI .u32 (ρ 5) fun v_5 => atI .i64 (ρ 6) fun bits_6 => atA (ρ 8) fun n_8 => atI .i64 (ρ 9) fun high_9 => atL (ρ 12) fun t_12 t_12n t_12c => atI .i64 (ρ 13) fun t_13 => atI .i64 (ρ 14) fun t_14 => (sense_address.s40 Z Q X1 t_4 v_5 bits_6 n_8 high_9 t_12 t_12n t_12c t_13 t_14))
theorem sense_address.s40_ok (Z : ZT) (Q : Int → Int → List Value → PT) (X1 : Addr → Int → Int → OA → Nat → Nat → Int → Int → PT) : Ok Tryd.prog Tryd.f76.ntmps Z sense_address.c38 (sense_address.q42 Z Q X1) (sense_address.j43 Z Q X1) := by
  intro E he ρ w a hr h
  obtain ⟨t_4, e4, h⟩ := atA_e h
  obtain ⟨v_5, e5, h⟩ := atI_e h
  obtain ⟨bits_6, e6, h⟩ := atI_e h
  obtain ⟨n_8, e8, h⟩ := atA_e h
  obtain ⟨high_9, e9, h⟩ := atI_e h
  obtain ⟨t_12, t_12n, t_12c, e12, h⟩ := atL_e h
  obtain ⟨t_13, e13, h⟩ := atI_e h
  obtain ⟨t_14, e14, h⟩ := atI_e h
  exact ok_at [(4, (Value.pointer (some t_4))), (5, (Value.int .u32 v_5)), (6, (Value.int .i64 bits_6)), (8, (Value.pointer (some n_8))), (9, (Value.int .i64 high_9)), (12, (Value.slice t_12 t_12n t_12c)), (13, (Value.int .i64 t_13)), (14, (Value.int .i64 t_14))] (okC sense_address.c38 (sense_address.q42 Z Q X1) (by kernel_rfl)) (puts_cons e4 (puts_cons e5 (puts_cons e6 (puts_cons e8 (puts_cons e9 (puts_cons e12 (puts_cons e13 (puts_cons e14 (fun p hp => puts_nil hp))))))))) (sense_address.s40_eq Z Q X1 ρ t_4 v_5 bits_6 n_8 high_9 t_12 t_12n t_12c t_13 t_14) he hr h
def sense_address.s44 (Z : ZT) (Q : Int → Int → List Value → PT) (X1 : Addr → Int → Int → OA → Nat → Nat → Int → Int → PT) (t_4 : Addr) (v_5 : Int) (bits_6 : Int) (t_12 : OA) (t_12n t_12c : Nat) (t_13 : Int) (t_14 : Int) : PT :=
  (ixS t_12 t_12n t_14 2 fun v100 => (ldN 2 v100 fun v101 => (newC 49 [(Value.int .i64 0), (Value.int .i64 0)] fun n102 => (stN 2 n102 v101 (pif (t_14 == 4) (ldI .i64 (n102.add 0) fun v103 => (sense_address.s40 Z Q X1 t_4 v_5 v103 n102 32 t_12 t_12n t_12c t_13 t_14)) (cnd ((0 : Int) ≤ 8) (ldI .i64 (n102.add 0) fun v104 => (sense_address.s40 Z Q X1 t_4 (IntKind.wrap .u32 (BitVec.ofInt (IntKind.bits .u32) (IntKind.wrap .u32 (v_5 * 2 ^ (min (8 : Int).toNat (IntKind.bits .u32)))) ||| BitVec.ofInt (IntKind.bits .u32) (IntKind.wrap .u32 (IntKind.wrap .i64 (BitVec.ofInt (IntKind.bits .i64) v104 &&& BitVec.ofInt (IntKind.bits .i64) 255).toNat))).toNat) bits_6 n102 255 t_12 t_12n t_12c t_13 t_14))))))))
theorem sense_address.s44_eq (Z : ZT) (Q : Int → Int → List Value → PT) (X1 : Addr → Int → Int → OA → Nat → Nat → Int → Int → PT) (ρ : Fr) (t_4 : Addr) (v_5 : Int) (bits_6 : Int) (t_12 : OA) (t_12n t_12c : Nat) (t_13 : Int) (t_14 : Int) : (comp Tryd.prog Z sense_address.c35 (thenK (comp Tryd.prog Z sense_address.c36 (thenK (comp Tryd.prog Z sense_address.c37 (thenK (sense_address.j43 Z Q X1) (sense_address.q42 Z Q X1))) (sense_address.q42 Z Q X1))) (sense_address.q42 Z Q X1))) (puts ρ [(4, (Value.pointer (some t_4))), (5, (Value.int .u32 v_5)), (6, (Value.int .i64 bits_6)), (12, (Value.slice t_12 t_12n t_12c)), (13, (Value.int .i64 t_13)), (14, (Value.int .i64 t_14))]) = sense_address.s44 Z Q X1 t_4 v_5 bits_6 t_12 t_12n t_12c t_13 t_14 := by kernel_rfl
def sense_address.j45 (Z : ZT) (Q : Int → Int → List Value → PT) (X1 : Addr → Int → Int → OA → Nat → Nat → Int → Int → PT) : Fr → PT := (fun ρ => atA (ρ 4) fun t_4 => atI .u32 (ρ 5) fun v_5 => atI .i64 (ρ 6) fun bits_6 => atL (ρ 12) fun t_12 t_12n t_12c => atI .i64 (ρ 13) fun t_13 => atI .i64 (ρ 14) fun t_14 => (sense_address.s44 Z Q X1 t_4 v_5 bits_6 t_12 t_12n t_12c t_13 t_14))
theorem sense_address.s44_ok (Z : ZT) (Q : Int → Int → List Value → PT) (X1 : Addr → Int → Int → OA → Nat → Nat → Int → Int → PT) : Ok Tryd.prog Tryd.f76.ntmps Z sense_address.c33 (sense_address.q42 Z Q X1) (sense_address.j45 Z Q X1) := by
  intro E he ρ w a hr h
  rw [sense_address.q39] at he ⊢
  obtain ⟨t_4, e4, h⟩ := atA_e h
  obtain ⟨v_5, e5, h⟩ := atI_e h
  obtain ⟨bits_6, e6, h⟩ := atI_e h
  obtain ⟨t_12, t_12n, t_12c, e12, h⟩ := atL_e h
  obtain ⟨t_13, e13, h⟩ := atI_e h
  obtain ⟨t_14, e14, h⟩ := atI_e h
  exact ok_at [(4, (Value.pointer (some t_4))), (5, (Value.int .u32 v_5)), (6, (Value.int .i64 bits_6)), (12, (Value.slice t_12 t_12n t_12c)), (13, (Value.int .i64 t_13)), (14, (Value.int .i64 t_14))] (ok_seq (okC sense_address.c35 _ (by kernel_rfl)) (ok_seq (okC sense_address.c36 _ (by kernel_rfl)) (ok_seq (okC sense_address.c37 _ (by kernel_rfl)) (sense_address.s40_ok Z Q X1)))) (puts_cons e4 (puts_cons e5 (puts_cons e6 (puts_cons e12 (puts_cons e13 (puts_cons e14 (fun p hp => puts_nil hp))))))) (sense_address.s44_eq Z Q X1 ρ t_4 v_5 bits_6 t_12 t_12n t_12c t_13 t_14) he hr h
theorem sense_address.o46 (Z : ZT) (Q : Int → Int → List Value → PT) (X1 : Addr → Int → Int → OA → Nat → Nat → Int → Int → PT) : Ok Tryd.prog Tryd.f76.ntmps Z sense_address.c26 (sense_address.q41 Z Q X1) (sense_address.j45 Z Q X1) := by
  rw [sense_address.q34]; exact ok_block (sense_address.s44_ok Z Q X1)
theorem sense_address.o47 (Z : ZT) (Q : Int → Int → List Value → PT) (X1 : Addr → Int → Int → OA → Nat → Nat → Int → Int → PT) : Ok Tryd.prog Tryd.f76.ntmps Z sense_address.c24 (sense_address.q31 Z Q X1) (sense_address.j45 Z Q X1) := by
  rw [sense_address.q28]; exact ok_seq (sense_address.o46 Z Q X1) (sense_address.s29_ok Z Q X1)
def sense_address.s48 (Z : ZT) (Q : Int → Int → List Value → PT) (X1 : Addr → Int → Int → OA → Nat → Nat → Int → Int → PT) (t_4 : Addr) (v_5 : Int) (bits_6 : Int) (t_12 : OA) (t_12n t_12c : Nat) (t_13 : Int) (t_14 : Int) : PT :=
  (pif (decide (t_14 < t_13)) (sense_address.s44 Z Q X1 t_4 v_5 bits_6 t_12 t_12n t_12c t_13 t_14) (sense_address.s9 Z Q t_4 v_5 bits_6))
theorem sense_address.s48_eq (Z : ZT) (Q : Int → Int → List Value → PT) (X1 : Addr → Int → Int → OA → Nat → Nat → Int → Int → PT) (ρ : Fr) (t_4 : Addr) (v_5 : Int) (bits_6 : Int) (t_12 : OA) (t_12n t_12c : Nat) (t_13 : Int) (t_14 : Int) : (comp Tryd.prog Z sense_address.c22 (thenK (comp Tryd.prog Z sense_address.c23 (thenK (sense_address.j45 Z Q X1) (sense_address.q31 Z Q X1))) (sense_address.q31 Z Q X1))) (puts ρ [(4, (Value.pointer (some t_4))), (5, (Value.int .u32 v_5)), (6, (Value.int .i64 bits_6)), (12, (Value.slice t_12 t_12n t_12c)), (13, (Value.int .i64 t_13)), (14, (Value.int .i64 t_14))]) = sense_address.s48 Z Q X1 t_4 v_5 bits_6 t_12 t_12n t_12c t_13 t_14 := by kernel_rfl
def sense_address.j49 (Z : ZT) (Q : Int → Int → List Value → PT) (X1 : Addr → Int → Int → OA → Nat → Nat → Int → Int → PT) : Fr → PT := (fun ρ => atA (ρ 4) fun t_4 => atI .u32 (ρ 5) fun v_5 => atI .i64 (ρ 6) fun bits_6 => atL (ρ 12) fun t_12 t_12n t_12c => atI .i64 (ρ 13) fun t_13 => atI .i64 (ρ 14) fun t_14 => (sense_address.s48 Z Q X1 t_4 v_5 bits_6 t_12 t_12n t_12c t_13 t_14))
theorem sense_address.s48_ok (Z : ZT) (Q : Int → Int → List Value → PT) (X1 : Addr → Int → Int → OA → Nat → Nat → Int → Int → PT) : Ok Tryd.prog Tryd.f76.ntmps Z sense_address.c17 (sense_address.q31 Z Q X1) (sense_address.j49 Z Q X1) := by
  intro E he ρ w a hr h
  rw [sense_address.q25] at he ⊢
  obtain ⟨t_4, e4, h⟩ := atA_e h
  obtain ⟨v_5, e5, h⟩ := atI_e h
  obtain ⟨bits_6, e6, h⟩ := atI_e h
  obtain ⟨t_12, t_12n, t_12c, e12, h⟩ := atL_e h
  obtain ⟨t_13, e13, h⟩ := atI_e h
  obtain ⟨t_14, e14, h⟩ := atI_e h
  exact ok_at [(4, (Value.pointer (some t_4))), (5, (Value.int .u32 v_5)), (6, (Value.int .i64 bits_6)), (12, (Value.slice t_12 t_12n t_12c)), (13, (Value.int .i64 t_13)), (14, (Value.int .i64 t_14))] (ok_seq (okC sense_address.c22 _ (by kernel_rfl)) (ok_seq (okC sense_address.c23 _ (by kernel_rfl)) (sense_address.o47 Z Q X1))) (puts_cons e4 (puts_cons e5 (puts_cons e6 (puts_cons e12 (puts_cons e13 (puts_cons e14 (fun p hp => puts_nil hp))))))) (sense_address.s48_eq Z Q X1 ρ t_4 v_5 bits_6 t_12 t_12n t_12c t_13 t_14) he hr h
def sense_address.l19 (Z : ZT) (Q : Int → Int → List Value → PT) : Nat → Addr → Int → Int → OA → Nat → Nat → Int → Int → PT
  | 0, _, _, _, _, _, _, _, _ => bad
  | k + 1, t_4, v_5, bits_6, t_12, t_12n, t_12c, t_13, t_14 => (sense_address.s48 Z Q (sense_address.l19 Z Q k) t_4 v_5 bits_6 t_12 t_12n t_12c t_13 t_14)
def sense_address.j50 (Z : ZT) (Q : Int → Int → List Value → PT) (k : Nat) : Fr → PT := (fun ρ => atA (ρ 4) fun t_4 => atI .u32 (ρ 5) fun v_5 => atI .i64 (ρ 6) fun bits_6 => atL (ρ 12) fun t_12 t_12n t_12c => atI .i64 (ρ 13) fun t_13 => atI .i64 (ρ 14) fun t_14 => (sense_address.l19 Z Q k t_4 v_5 bits_6 t_12 t_12n t_12c t_13 t_14))
def sense_address.j51 (Z : ZT) (Q : Int → Int → List Value → PT) : Fr → PT := (fun ρ => atA (ρ 4) fun t_4 => atI .u32 (ρ 5) fun v_5 => atI .i64 (ρ 6) fun bits_6 => atL (ρ 12) fun t_12 t_12n t_12c => atI .i64 (ρ 13) fun t_13 => atI .i64 (ρ 14) fun t_14 => (exK fun k => sense_address.l19 Z Q k t_4 v_5 bits_6 t_12 t_12n t_12c t_13 t_14))
theorem sense_address.o52 (Z : ZT) (Q : Int → Int → List Value → PT) : Ok Tryd.prog Tryd.f76.ntmps Z sense_address.c15 (sense_address.q21 Z Q) (sense_address.j51 Z Q) := by
  rw [sense_address.q18]
  refine Ok.imp (ok_loop (J := sense_address.j50 Z Q) ?_ ?_) ?_
  · intro ρ w h
    obtain ⟨t_4, e4, h⟩ := atA_e h
    obtain ⟨v_5, e5, h⟩ := atI_e h
    obtain ⟨bits_6, e6, h⟩ := atI_e h
    obtain ⟨t_12, t_12n, t_12c, e12, h⟩ := atL_e h
    obtain ⟨t_13, e13, h⟩ := atI_e h
    obtain ⟨t_14, e14, h⟩ := atI_e h
    exact h
  · intro k
    refine Ok.imp (sense_address.s48_ok Z Q (sense_address.l19 Z Q k)) fun ρ w h => ?_
    obtain ⟨t_4, e4, h⟩ := atA_e h
    obtain ⟨v_5, e5, h⟩ := atI_e h
    obtain ⟨bits_6, e6, h⟩ := atI_e h
    obtain ⟨t_12, t_12n, t_12c, e12, h⟩ := atL_e h
    obtain ⟨t_13, e13, h⟩ := atI_e h
    obtain ⟨t_14, e14, h⟩ := atI_e h
    show (sense_address.j49 Z Q (sense_address.l19 Z Q k)) ρ w
    simp only [sense_address.j49]
    rw [e4]
    rw [e5]
    rw [e6]
    rw [e12]
    rw [e13]
    rw [e14]
    exact h
  · intro ρ w h
    obtain ⟨t_4, e4, h⟩ := atA_e h
    obtain ⟨v_5, e5, h⟩ := atI_e h
    obtain ⟨bits_6, e6, h⟩ := atI_e h
    obtain ⟨t_12, t_12n, t_12c, e12, h⟩ := atL_e h
    obtain ⟨t_13, e13, h⟩ := atI_e h
    obtain ⟨t_14, e14, h⟩ := atI_e h
    obtain ⟨k, h⟩ := h
    refine ⟨k, ?_⟩
    show (atA (ρ 4) fun t_4 => atI .u32 (ρ 5) fun v_5 => atI .i64 (ρ 6) fun bits_6 => atL (ρ 12) fun t_12 t_12n t_12c => atI .i64 (ρ 13) fun t_13 => atI .i64 (ρ 14) fun t_14 => (sense_address.l19 Z Q k t_4 v_5 bits_6 t_12 t_12n t_12c t_13 t_14)) w
    rw [e4]
    rw [e5]
    rw [e6]
    rw [e12]
    rw [e13]
    rw [e14]
    exact h
theorem sense_address.o53 (Z : ZT) (Q : Int → Int → List Value → PT) : Ok Tryd.prog Tryd.f76.ntmps Z sense_address.c13 (sense_address.q20 Z Q) (sense_address.j51 Z Q) := by
  rw [sense_address.q16]; exact ok_block (sense_address.o52 Z Q)
def sense_address.s54 (Z : ZT) (Q : Int → Int → List Value → PT) (c_1 : Addr) (t_4 : Addr) (v_5 : Int) (bits_6 : Int) : PT :=
  (ldL (c_1.add 2) fun v105 v105n v105c => (exK fun k => sense_address.l19 Z Q k t_4 v_5 bits_6 v105 v105n v105c ((v105n : Nat) : Int) 0))
theorem sense_address.s54_eq (Z : ZT) (Q : Int → Int → List Value → PT) (ρ : Fr) (c_1 : Addr) (t_4 : Addr) (v_5 : Int) (bits_6 : Int) : (comp Tryd.prog Z sense_address.c12 (thenK (sense_address.j51 Z Q) (sense_address.q20 Z Q))) (puts ρ [(1, (Value.pointer (some c_1))), (4, (Value.pointer (some t_4))), (5, (Value.int .u32 v_5)), (6, (Value.int .i64 bits_6))]) = sense_address.s54 Z Q c_1 t_4 v_5 bits_6 := by kernel_rfl
def sense_address.j55 (Z : ZT) (Q : Int → Int → List Value → PT) : Fr → PT := (fun ρ => atA (ρ 1) fun c_1 => atA (ρ 4) fun t_4 => atI .u32 (ρ 5) fun v_5 => atI .i64 (ρ 6) fun bits_6 => (sense_address.s54 Z Q c_1 t_4 v_5 bits_6))
theorem sense_address.s54_ok (Z : ZT) (Q : Int → Int → List Value → PT) : Ok Tryd.prog Tryd.f76.ntmps Z sense_address.c6 (sense_address.q20 Z Q) (sense_address.j55 Z Q) := by
  intro E he ρ w a hr h
  rw [sense_address.q14] at he ⊢
  obtain ⟨c_1, e1, h⟩ := atA_e h
  obtain ⟨t_4, e4, h⟩ := atA_e h
  obtain ⟨v_5, e5, h⟩ := atI_e h
  obtain ⟨bits_6, e6, h⟩ := atI_e h
  exact ok_at [(1, (Value.pointer (some c_1))), (4, (Value.pointer (some t_4))), (5, (Value.int .u32 v_5)), (6, (Value.int .i64 bits_6))] (ok_seq (okC sense_address.c12 _ (by kernel_rfl)) (sense_address.o53 Z Q)) (puts_cons e1 (puts_cons e4 (puts_cons e5 (puts_cons e6 (fun p hp => puts_nil hp))))) (sense_address.s54_eq Z Q ρ c_1 t_4 v_5 bits_6) he hr h
theorem sense_address.o56 (Z : ZT) (Q : Int → Int → List Value → PT) : Ok Tryd.prog Tryd.f76.ntmps Z sense_address.c4 (sense_address.q10 Z Q) (sense_address.j55 Z Q) := by
  rw [sense_address.q8]; exact ok_seq (sense_address.s54_ok Z Q) (sense_address.s9_ok Z Q)
def sense_address.s57 (Z : ZT) (Q : Int → Int → List Value → PT) (c_0 : List Value) : PT :=
  (newC 55 c_0 fun c106 => (newC 57 [(Value.int .i64 0), (Value.int .i64 0)] fun v107 => (sense_address.s54 Z Q c106 v107 0 32)))
theorem sense_address.s57_eq (Z : ZT) (Q : Int → Int → List Value → PT) (ρ : Fr) (c_0 : List Value) : (comp Tryd.prog Z sense_address.c1 (thenK (comp Tryd.prog Z sense_address.c2 (thenK (comp Tryd.prog Z sense_address.c3 (thenK (sense_address.j55 Z Q) (sense_address.q10 Z Q))) (sense_address.q10 Z Q))) (sense_address.q10 Z Q))) (puts ρ [(0, (Value.agg ⟨c_0⟩))]) = sense_address.s57 Z Q c_0 := by kernel_rfl
def sense_address.j58 (Z : ZT) (Q : Int → Int → List Value → PT) : Fr → PT := (fun ρ => atN (ρ 0) fun c_0 => (sense_address.s57 Z Q c_0))
theorem sense_address.s57_ok (Z : ZT) (Q : Int → Int → List Value → PT) : Ok Tryd.prog Tryd.f76.ntmps Z sense_address.body (sense_address.q10 Z Q) (sense_address.j58 Z Q) := by
  intro E he ρ w a hr h
  rw [sense_address.q5] at he ⊢
  obtain ⟨c_0, e0, h⟩ := atN_e h
  exact ok_at [(0, (Value.agg ⟨c_0⟩))] (ok_seq (okC sense_address.c1 _ (by kernel_rfl)) (ok_seq (okC sense_address.c2 _ (by kernel_rfl)) (ok_seq (okC sense_address.c3 _ (by kernel_rfl)) (sense_address.o56 Z Q)))) (puts_cons e0 (fun p hp => puts_nil hp)) (sense_address.s57_eq Z Q ρ c_0) he hr h
def sense_address.F (Z : ZT) (Q : Int → Int → List Value → PT) (c_0 : List Value) : PT :=
  (sense_address.s57 Z Q c_0)
theorem sense_address.vc (Z : ZT) (Q : Int → Int → List Value → PT) (c_0 : List Value) (w : World) (h : sense_address.F Z Q c_0 w) : Calls Tryd.prog 76 ⟨[(Value.agg ⟨c_0⟩)]⟩ w fun e w' => (∃ (r0 : Int) (r1 : Int) (r2 : List Value), e = .returned (.tuple #[.int .u32 r0, .int .i64 r1, .agg ⟨r2⟩]) ∧ Q r0 r1 r2 w') ∨ ∃ c, e = .panicked c ∧ Z c w' := by
  refine (calls_of_ok (args := [(Value.agg ⟨c_0⟩)]) (w := w) (rs := [.tmp 2, .tmp 3, .cell 4 57]) (fn := Tryd.f76) (c := sense_address.body) Tryd.func76 (by kernel_rfl) (by kernel_rfl) (Nat.le_of_ble_eq_true (by kernel_rfl)) (sense_address.s57_ok Z Q) (h)).mono fun e w' hR => ?_
  cases e with
  | returned v =>
    obtain ⟨x, y, z, rfl, hR⟩ := at3_e hR
    obtain ⟨xa, rfl, hR⟩ := atI_e hR
    obtain ⟨ya, rfl, hR⟩ := atI_e hR
    obtain ⟨za, rfl, hR⟩ := atN_e hR
    exact .inl ⟨xa, ya, za, rfl, hR⟩
  | panicked c => exact .inr ⟨c, rfl, hR⟩
  | outgrown => exact hR.elim
theorem sense_address.vc0 (Q : Int → Int → List Value → PT) (c_0 : List Value) (w : World) (h : sense_address.F Z0 Q c_0 w) : Calls Tryd.prog 76 ⟨[(Value.agg ⟨c_0⟩)]⟩ w fun e w' => (∃ (r0 : Int) (r1 : Int) (r2 : List Value), e = .returned (.tuple #[.int .u32 r0, .int .i64 r1, .agg ⟨r2⟩]) ∧ Q r0 r1 r2 w') :=
  (sense_address.vc Z0 Q c_0 w h).mono fun _ _ hR => hR.elim id fun ⟨_, _, hz⟩ => hz.elim
theorem sense_address.cal {Z : ZT} {Q : Int → Int → List Value → PT} {c_0 : List Value} {w : World} (h : sense_address.F Z Q c_0 w) : Go.Proofs.YtllgjjldnnmjkaaDoor.cal Tryd.prog Z 76 [(Value.agg ⟨c_0⟩)] (isT3 fun x y z => (isI .u32 fun r0 => (isI .i64 fun r1 => (isN fun r2 => Q r0 r1 r2) z) y) x) w := by
  refine (sense_address.vc Z Q c_0 w h).mono fun e w' hR => ?_
  rcases hR with ⟨r0, r1, r2, rfl, h⟩ | ⟨c, rfl, h⟩
  · show (isT3 fun x y z => (isI .u32 fun r0 => (isI .i64 fun r1 => (isN fun r2 => Q r0 r1 r2) z) y) x) (.tuple #[.int .u32 r0, .int .i64 r1, .agg ⟨r2⟩]) w'
    exact ⟨_, _, _, rfl, ⟨_, rfl, ⟨_, rfl, ⟨_, rfl, h⟩⟩⟩⟩
  · exact h

/-! ### milepost/sense.ports: function 77 -/
noncomputable def sense_ports.body : Code := bodyC Tryd.f77
noncomputable def sense_ports.c1 : Code := sq1 sense_ports.body
noncomputable def sense_ports.c2 : Code := sq1 (sq2 sense_ports.body)
noncomputable def sense_ports.c3 : Code := sq1 (sq2 (sq2 sense_ports.body))
noncomputable def sense_ports.c4 : Code := sq1 (sq2 (sq2 (sq2 sense_ports.body)))
noncomputable def sense_ports.c5 : Code := sq2 (sq2 (sq2 (sq2 sense_ports.body)))
theorem sense_ports.q6 : sense_ports.body = .seq sense_ports.c1 (.seq sense_ports.c2 (.seq sense_ports.c3 (.seq sense_ports.c4 sense_ports.c5))) := by kernel_rfl
def sense_ports.s7 (Z : ZT) (Q : Int → Int → List Value → PT) (t_4 : Addr) (low_5 : Addr) (high_6 : Addr) (f_7 : Addr) : PT :=
  (drawn fun S199 => (hI S199 .i64 (low_5.add 0) fun v200 => (hI S199 .i64 (high_6.add 0) fun v201 => (hN S199 2 f_7 fun v202 => (stN 2 t_4 v202 (ldN 2 t_4 fun v203 => (Q v200 v201 v203)))))))
def sense_ports.q8 (Z : ZT) (Q : Int → Int → List Value → PT) : QF := bodyQ Tryd.prog [.tmp 2, .tmp 3, .cell 4 57] (fun v => at3 v fun x y z => atI .i64 x fun xa => atI .i64 y fun ya => atN z fun za => Q xa ya za)
theorem sense_ports.s7_eq (Z : ZT) (Q : Int → Int → List Value → PT) (ρ : Fr) (t_4 : Addr) (low_5 : Addr) (high_6 : Addr) (f_7 : Addr) : comp Tryd.prog Z sense_ports.c5 (sense_ports.q8 Z Q) (puts ρ [(4, (Value.pointer (some t_4))), (5, (Value.pointer (some low_5))), (6, (Value.pointer (some high_6))), (7, (Value.pointer (some f_7)))]) = sense_ports.s7 Z Q t_4 low_5 high_6 f_7 := by kernel_rfl
def sense_ports.j9 (Z : ZT) (Q : Int → Int → List Value → PT) : Fr → PT := (fun ρ => atA (ρ 4) fun t_4 => atA (ρ 5) fun low_5 => atA (ρ 6) fun high_6 => atA (ρ 7) fun f_7 => (sense_ports.s7 Z Q t_4 low_5 high_6 f_7))
theorem sense_ports.s7_ok (Z : ZT) (Q : Int → Int → List Value → PT) : Ok Tryd.prog Tryd.f77.ntmps Z sense_ports.c5 (sense_ports.q8 Z Q) (sense_ports.j9 Z Q) := by
  intro E he ρ w a hr h
  obtain ⟨t_4, e4, h⟩ := atA_e h
  obtain ⟨low_5, e5, h⟩ := atA_e h
  obtain ⟨high_6, e6, h⟩ := atA_e h
  obtain ⟨f_7, e7, h⟩ := atA_e h
  exact ok_at [(4, (Value.pointer (some t_4))), (5, (Value.pointer (some low_5))), (6, (Value.pointer (some high_6))), (7, (Value.pointer (some f_7)))] (okC sense_ports.c5 (sense_ports.q8 Z Q) (by kernel_rfl)) (puts_cons e4 (puts_cons e5 (puts_cons e6 (puts_cons e7 (fun p hp => puts_nil hp))))) (sense_ports.s7_eq Z Q ρ t_4 low_5 high_6 f_7) he hr h
def sense_ports.s10 (Z : ZT) (Q : Int → Int → List Value → PT) (c_0 : List Value) : PT :=
  (newC 55 c_0 fun c204 => (newC 57 [(Value.int .i64 0), (Value.int .i64 0)] fun v205 => (ldL (c204.add 2) fun v206 v206n v206c => (ixS v206 v206n 0 2 fun v207 => (ldN 2 v207 fun v208 => (newC 49 [(Value.int .i64 0), (Value.int .i64 0)] fun low209 => (stN 2 low209 v208 (ldL (c204.add 2) fun v210 v210n v210c => (ldL (c204.add 2) fun v211 v211n v211c => (ixS v210 v210n (IntKind.wrap .i64 (((v211n : Nat) : Int) - 1)) 2 fun v212 => (ldN 2 v212 fun v213 => (newC 49 [(Value.int .i64 0), (Value.int .i64 0)] fun high214 => (stN 2 high214 v213 (drawn fun S215 => (hN S215 2 low209 fun v216 => (hN S215 2 high214 fun v217 => (hN S215 2 high214 fun v218 => (hI S215 .i64 (low209.add 0) fun v219 => (fun w250 => (cal Tryd.prog Z 29 [(Value.agg ⟨v216⟩), (Value.int .i64 0), (Value.int .i64 65535)] (isN fun v220 => (sAnd S215 (fun w243 => (cal Tryd.prog Z 29 [(Value.agg ⟨v217⟩), (Value.int .i64 0), (Value.int .i64 65535)] (isN fun v221 => (sAnd S215 (fun w237 => (cal Tryd.prog Z 29 [(Value.agg ⟨v218⟩), (Value.int .i64 v219), (Value.int .i64 65535)] (isN fun v222 => (sAnd S215 (fun w232 => (cnd (List.length v220 = 2) (cnd (List.length v221 = 2) (cnd (List.length v222 = 2) (newC 57 (v220 ++ (v221 ++ (v222 ++ ([])))) fun v223 => (sAnd S215 (fun w228 => (cal Tryd.prog Z 83 [(Value.slice (some v223) 3 3)] (isN fun v224 => (sAnd S215 (newC 57 [(Value.int .i64 0), (Value.int .i64 0)] fun f225 => (sAnd S215 (stN 2 f225 v224 (sense_ports.s7 Z Q v205 low209 high214 f225))))))) w228 ∧ (newC 57 [(Value.int .i64 0), (Value.int .i64 0)] fun f226 => (sAnd S215 (cal Tryd.prog Z 83 [(Value.slice (some v223) 3 3)] (isN fun v227 => (sAnd S215 (stN 2 f226 v227 (sense_ports.s7 Z Q v205 low209 high214 f226))))))) w228)))))) w232 ∧ (newC 57 [(Value.int .i64 0), (Value.int .i64 0)] fun f229 => (sAnd S215 (cnd (List.length v220 = 2) (cnd (List.length v221 = 2) (cnd (List.length v222 = 2) (newC 57 (v220 ++ (v221 ++ (v222 ++ ([])))) fun v230 => (sAnd S215 (cal Tryd.prog Z 83 [(Value.slice (some v230) 3 3)] (isN fun v231 => (sAnd S215 (stN 2 f229 v231 (sense_ports.s7 Z Q v205 low209 high214 f229)))))))))))) w232)))) w237 ∧ (newC 57 [(Value.int .i64 0), (Value.int .i64 0)] fun f233 => (sAnd S215 (cal Tryd.prog Z 29 [(Value.agg ⟨v218⟩), (Value.int .i64 v219), (Value.int .i64 65535)] (isN fun v234 => (sAnd S215 (cnd (List.length v220 = 2) (cnd (List.length v221 = 2) (cnd (List.length v234 = 2) (newC 57 (v220 ++ (v221 ++ (v234 ++ ([])))) fun v235 => (sAnd S215 (cal Tryd.prog Z 83 [(Value.slice (some v235) 3 3)] (isN fun v236 => (sAnd S215 (stN 2 f233 v236 (sense_ports.s7 Z Q v205 low209 high214 f233))))))))))))))) w237)))) w243 ∧ (newC 57 [(Value.int .i64 0), (Value.int .i64 0)] fun f238 => (sAnd S215 (cal Tryd.prog Z 29 [(Value.agg ⟨v217⟩), (Value.int .i64 0), (Value.int .i64 65535)] (isN fun v239 => (sAnd S215 (cal Tryd.prog Z 29 [(Value.agg ⟨v218⟩), (Value.int .i64 v219), (Value.int .i64 65535)] (isN fun v240 => (sAnd S215 (cnd (List.length v220 = 2) (cnd (List.length v239 = 2) (cnd (List.length v240 = 2) (newC 57 (v220 ++ (v239 ++ (v240 ++ ([])))) fun v241 => (sAnd S215 (cal Tryd.prog Z 83 [(Value.slice (some v241) 3 3)] (isN fun v242 => (sAnd S215 (stN 2 f238 v242 (sense_ports.s7 Z Q v205 low209 high214 f238)))))))))))))))))) w243)))) w250 ∧ (newC 57 [(Value.int .i64 0), (Value.int .i64 0)] fun f244 => (sAnd S215 (cal Tryd.prog Z 29 [(Value.agg ⟨v216⟩), (Value.int .i64 0), (Value.int .i64 65535)] (isN fun v245 => (sAnd S215 (cal Tryd.prog Z 29 [(Value.agg ⟨v217⟩), (Value.int .i64 0), (Value.int .i64 65535)] (isN fun v246 => (sAnd S215 (cal Tryd.prog Z 29 [(Value.agg ⟨v218⟩), (Value.int .i64 v219), (Value.int .i64 65535)] (isN fun v247 => (sAnd S215 (cnd (List.length v245 = 2) (cnd (List.length v246 = 2) (cnd (List.length v247 = 2) (newC 57 (v245 ++ (v246 ++ (v247 ++ ([])))) fun v248 => (sAnd S215 (cal Tryd.prog Z 83 [(Value.slice (some v248) 3 3)] (isN fun v249 => (sAnd S215 (stN 2 f244 v249 (sense_ports.s7 Z Q v205 low209 high214 f244))))))))))))))))))))) w250)))))))))))))))))))
theorem sense_ports.s10_eq (Z : ZT) (Q : Int → Int → List Value → PT) (ρ : Fr) (c_0 : List Value) : (comp Tryd.prog Z sense_ports.c1 (thenK (comp Tryd.prog Z sense_ports.c2 (thenK (comp Tryd.prog Z sense_ports.c3 (thenK (comp Tryd.prog Z sense_ports.c4 (thenK (sense_ports.j9 Z Q) (sense_ports.q8 Z Q))) (sense_ports.q8 Z Q))) (sense_ports.q8 Z Q))) (sense_ports.q8 Z Q))) (puts ρ [(0, (Value.agg ⟨c_0⟩))]) = sense_ports.s10 Z Q c_0 := by kernel_rfl
def sense_ports.j11 (Z : ZT) (Q : Int → Int → List Value → PT) : Fr → PT := (fun ρ => atN (ρ 0) fun c_0 => (sense_ports.s10 Z Q c_0))
theorem sense_ports.s10_ok (Z : ZT) (Q : Int → Int → List Value → PT) : Ok Tryd.prog Tryd.f77.ntmps Z sense_ports.body (sense_ports.q8 Z Q) (sense_ports.j11 Z Q) := by
  intro E he ρ w a hr h
  rw [sense_ports.q6] at he ⊢
  obtain ⟨c_0, e0, h⟩ := atN_e h
  exact ok_at [(0, (Value.agg ⟨c_0⟩))] (ok_seq (okC sense_ports.c1 _ (by kernel_rfl)) (ok_seq (okC sense_ports.c2 _ (by kernel_rfl)) (ok_seq (okC sense_ports.c3 _ (by kernel_rfl)) (ok_seq (okC sense_ports.c4 _ (by kernel_rfl)) (sense_ports.s7_ok Z Q))))) (puts_cons e0 (fun p hp => puts_nil hp)) (sense_ports.s10_eq Z Q ρ c_0) he hr h
def sense_ports.F (Z : ZT) (Q : Int → Int → List Value → PT) (c_0 : List Value) : PT :=
  (sense_ports.s10 Z Q c_0)
theorem sense_ports.vc (Z : ZT) (Q : Int → Int → List Value → PT) (c_0 : List Value) (w : World) (h : sense_ports.F Z Q c_0 w) : Calls Tryd.prog 77 ⟨[(Value.agg ⟨c_0⟩)]⟩ w fun e w' => (∃ (r0 : Int) (r1 : Int) (r2 : List Value), e = .returned (.tuple #[.int .i64 r0, .int .i64 r1, .agg ⟨r2⟩]) ∧ Q r0 r1 r2 w') ∨ ∃ c, e = .panicked c ∧ Z c w' := by
  refine (calls_of_ok (args := [(Value.agg ⟨c_0⟩)]) (w := w) (rs := [.tmp 2, .tmp 3, .cell 4 57]) (fn := Tryd.f77) (c := sense_ports.body) Tryd.func77 (by kernel_rfl) (by kernel_rfl) (Nat.le_of_ble_eq_true (by kernel_rfl)) (sense_ports.s10_ok Z Q) (h)).mono fun e w' hR => ?_
  cases e with
  | returned v =>
    obtain ⟨x, y, z, rfl, hR⟩ := at3_e hR
    obtain ⟨xa, rfl, hR⟩ := atI_e hR
    obtain ⟨ya, rfl, hR⟩ := atI_e hR
    obtain ⟨za, rfl, hR⟩ := atN_e hR
    exact .inl ⟨xa, ya, za, rfl, hR⟩
  | panicked c => exact .inr ⟨c, rfl, hR⟩
  | outgrown => exact hR.elim
theorem sense_ports.vc0 (Q : Int → Int → List Value → PT) (c_0 : List Value) (w : World) (h : sense_ports.F Z0 Q c_0 w) : Calls Tryd.prog 77 ⟨[(Value.agg ⟨c_0⟩)]⟩ w fun e w' => (∃ (r0 : Int) (r1 : Int) (r2 : List Value), e = .returned (.tuple #[.int .i64 r0, .int .i64 r1, .agg ⟨r2⟩]) ∧ Q r0 r1 r2 w') :=
  (sense_ports.vc Z0 Q c_0 w h).mono fun _ _ hR => hR.elim id fun ⟨_, _, hz⟩ => hz.elim
theorem sense_ports.cal {Z : ZT} {Q : Int → Int → List Value → PT} {c_0 : List Value} {w : World} (h : sense_ports.F Z Q c_0 w) : Go.Proofs.YtllgjjldnnmjkaaDoor.cal Tryd.prog Z 77 [(Value.agg ⟨c_0⟩)] (isT3 fun x y z => (isI .i64 fun r0 => (isI .i64 fun r1 => (isN fun r2 => Q r0 r1 r2) z) y) x) w := by
  refine (sense_ports.vc Z Q c_0 w h).mono fun e w' hR => ?_
  rcases hR with ⟨r0, r1, r2, rfl, h⟩ | ⟨c, rfl, h⟩
  · show (isT3 fun x y z => (isI .i64 fun r0 => (isI .i64 fun r1 => (isN fun r2 => Q r0 r1 r2) z) y) x) (.tuple #[.int .i64 r0, .int .i64 r1, .agg ⟨r2⟩]) w'
    exact ⟨_, _, _, rfl, ⟨_, rfl, ⟨_, rfl, ⟨_, rfl, h⟩⟩⟩⟩
  · exact h

/-! ### milepost/sense.many: function 48 -/
noncomputable def sense_many.body : Code := bodyC Tryd.f48
noncomputable def sense_many.c1 : Code := sq1 sense_many.body
noncomputable def sense_many.c2 : Code := sq2 sense_many.body
theorem sense_many.q3 : sense_many.body = .seq sense_many.c1 sense_many.c2 := by kernel_rfl
noncomputable def sense_many.c4 : Code := sq1 sense_many.c2
noncomputable def sense_many.c5 : Code := sq2 sense_many.c2
theorem sense_many.q6 : sense_many.c2 = .seq sense_many.c4 sense_many.c5 := by kernel_rfl
def sense_many.s7 (Z : ZT) (Q : Int → PT)  : PT :=
  (Q 0)
def sense_many.q8 (Z : ZT) (Q : Int → PT) : QF := bodyQ Tryd.prog [.tmp 2] (fun v => atI .i64 v fun va => Q va)
theorem sense_many.s7_eq (Z : ZT) (Q : Int → PT) (ρ : Fr)  : comp Tryd.prog Z sense_many.c5 (sense_many.q8 Z Q) (puts ρ []) = sense_many.s7 Z Q  := by kernel_rfl
def sense_many.j9 (Z : ZT) (Q : Int → PT) : Fr → PT := (fun ρ => (sense_many.s7 Z Q ))
theorem sense_many.s7_ok (Z : ZT) (Q : Int → PT) : Ok Tryd.prog Tryd.f48.ntmps Z sense_many.c5 (sense_many.q8 Z Q) (sense_many.j9 Z Q) := by
  intro E he ρ w a hr h
  exact ok_at [] (okC sense_many.c5 (sense_many.q8 Z Q) (by kernel_rfl)) (fun p hp => puts_nil hp) (sense_many.s7_eq Z Q ρ ) he hr h
noncomputable def sense_many.c10 : Code := sq1 sense_many.c4
noncomputable def sense_many.c11 : Code := sq2 sense_many.c4
theorem sense_many.q12 : sense_many.c4 = .seq sense_many.c10 sense_many.c11 := by kernel_rfl
noncomputable def sense_many.c13 : Code := blk sense_many.c11
theorem sense_many.q14 : sense_many.c11 = .block 0 sense_many.c13 := by kernel_rfl
noncomputable def sense_many.c15 : Code := sq1 sense_many.c13
noncomputable def sense_many.c16 : Code := sq2 sense_many.c13
theorem sense_many.q17 : sense_many.c13 = .seq sense_many.c15 sense_many.c16 := by kernel_rfl
noncomputable def sense_many.c18 : Code := cn1 sense_many.c16
noncomputable def sense_many.c19 : Code := cn2 sense_many.c16
theorem sense_many.q20 : sense_many.c16 = .cond (.tmp 5) sense_many.c18 sense_many.c19 := by kernel_rfl
def sense_many.s21 (Z : ZT) (Q : Int → PT) (c_1 : Addr) : PT :=
  (ldB (c_1.add 3) fun v15 => (pif v15 (Q 5) (Q 4)))
def sense_many.q22 (Z : ZT) (Q : Int → PT) : QF := thenK (sense_many.j9 Z Q) (sense_many.q8 Z Q)
def sense_many.q23 (Z : ZT) (Q : Int → PT) : QF := inBl 0 (sense_many.q22 Z Q)
theorem sense_many.s21_eq (Z : ZT) (Q : Int → PT) (ρ : Fr) (c_1 : Addr) : comp Tryd.prog Z sense_many.c18 (sense_many.q23 Z Q) (puts ρ [(1, (Value.pointer (some c_1)))]) = sense_many.s21 Z Q c_1 := by kernel_rfl
def sense_many.j24 (Z : ZT) (Q : Int → PT) : Fr → PT := (fun ρ => atA (ρ 1) fun c_1 => (sense_many.s21 Z Q c_1))
theorem sense_many.s21_ok (Z : ZT) (Q : Int → PT) : Ok Tryd.prog Tryd.f48.ntmps Z sense_many.c18 (sense_many.q23 Z Q) (sense_many.j24 Z Q) := by
  intro E he ρ w a hr h
  obtain ⟨c_1, e1, h⟩ := atA_e h
  exact ok_at [(1, (Value.pointer (some c_1)))] (okC sense_many.c18 (sense_many.q23 Z Q) (by kernel_rfl)) (puts_cons e1 (fun p hp => puts_nil hp)) (sense_many.s21_eq Z Q ρ c_1) he hr h
noncomputable def sense_many.c25 : Code := sq1 sense_many.c19
noncomputable def sense_many.c26 : Code := sq2 sense_many.c19
theorem sense_many.q27 : sense_many.c19 = .seq sense_many.c25 sense_many.c26 := by kernel_rfl
def sense_many.s28 (Z : ZT) (Q : Int → PT) (c_1 : Addr) (t_4 : ByteArray) (t_10 : Bool) : PT :=
  (pif t_10 (ldB (c_1.add 4) fun v18 => (pif v18 (Q 2) (Q 1))) (pif (t_4.toList == (⟨#[112, 114, 111, 116, 111]⟩ : ByteArray).toList) (Q 1) (sense_many.s7 Z Q )))
theorem sense_many.s28_eq (Z : ZT) (Q : Int → PT) (ρ : Fr) (c_1 : Addr) (t_4 : ByteArray) (t_10 : Bool) : comp Tryd.prog Z sense_many.c26 (sense_many.q23 Z Q) (puts ρ [(1, (Value.pointer (some c_1))), (4, (Value.string t_4)), (10, (Value.bool t_10))]) = sense_many.s28 Z Q c_1 t_4 t_10 := by kernel_rfl
def sense_many.j29 (Z : ZT) (Q : Int → PT) : Fr → PT := (fun ρ => atA (ρ 1) fun c_1 => atS (ρ 4) fun t_4 => atB (ρ 10) fun t_10 => (sense_many.s28 Z Q c_1 t_4 t_10))
theorem sense_many.s28_ok (Z : ZT) (Q : Int → PT) : Ok Tryd.prog Tryd.f48.ntmps Z sense_many.c26 (sense_many.q23 Z Q) (sense_many.j29 Z Q) := by
  intro E he ρ w a hr h
  obtain ⟨c_1, e1, h⟩ := atA_e h
  obtain ⟨t_4, e4, h⟩ := atS_e h
  obtain ⟨t_10, e10, h⟩ := atB_e h
  exact ok_at [(1, (Value.pointer (some c_1))), (4, (Value.string t_4)), (10, (Value.bool t_10))] (okC sense_many.c26 (sense_many.q23 Z Q) (by kernel_rfl)) (puts_cons e1 (puts_cons e4 (puts_cons e10 (fun p hp => puts_nil hp)))) (sense_many.s28_eq Z Q ρ c_1 t_4 t_10) he hr h
def sense_many.s30 (Z : ZT) (Q : Int → PT) (c_1 : Addr) (t_4 : ByteArray) : PT :=
  (pif (t_4.toList == (⟨#[115, 112, 111, 114, 116]⟩ : ByteArray).toList) (sense_many.s28 Z Q c_1 t_4 (t_4.toList == (⟨#[115, 112, 111, 114, 116]⟩ : ByteArray).toList)) (sense_many.s28 Z Q c_1 t_4 (t_4.toList == (⟨#[100, 112, 111, 114, 116]⟩ : ByteArray).toList)))
theorem sense_many.s30_eq (Z : ZT) (Q : Int → PT) (ρ : Fr) (c_1 : Addr) (t_4 : ByteArray) : (comp Tryd.prog Z sense_many.c25 (thenK (sense_many.j29 Z Q) (sense_many.q23 Z Q))) (puts ρ [(1, (Value.pointer (some c_1))), (4, (Value.string t_4))]) = sense_many.s30 Z Q c_1 t_4 := by kernel_rfl
def sense_many.j31 (Z : ZT) (Q : Int → PT) : Fr → PT := (fun ρ => atA (ρ 1) fun c_1 => atS (ρ 4) fun t_4 => (sense_many.s30 Z Q c_1 t_4))
theorem sense_many.s30_ok (Z : ZT) (Q : Int → PT) : Ok Tryd.prog Tryd.f48.ntmps Z sense_many.c19 (sense_many.q23 Z Q) (sense_many.j31 Z Q) := by
  intro E he ρ w a hr h
  rw [sense_many.q27] at he ⊢
  obtain ⟨c_1, e1, h⟩ := atA_e h
  obtain ⟨t_4, e4, h⟩ := atS_e h
  exact ok_at [(1, (Value.pointer (some c_1))), (4, (Value.string t_4))] (ok_seq (okC sense_many.c25 _ (by kernel_rfl)) (sense_many.s28_ok Z Q)) (puts_cons e1 (puts_cons e4 (fun p hp => puts_nil hp))) (sense_many.s30_eq Z Q ρ c_1 t_4) he hr h
theorem sense_many.o32 (Z : ZT) (Q : Int → PT) : Ok Tryd.prog Tryd.f48.ntmps Z sense_many.c16 (sense_many.q23 Z Q) (condJ (.tmp 5) (sense_many.j24 Z Q) (sense_many.j31 Z Q)) := by
  rw [sense_many.q20]; exact ok_cond (sense_many.s21_ok Z Q) (sense_many.s30_ok Z Q)
def sense_many.s33 (Z : ZT) (Q : Int → PT) (c_1 : Addr) (t_4 : ByteArray) : PT :=
  (pif (t_4.toList == (⟨#[115, 114, 99]⟩ : ByteArray).toList) (pif (t_4.toList == (⟨#[115, 114, 99]⟩ : ByteArray).toList) (sense_many.s21 Z Q c_1) (sense_many.s30 Z Q c_1 t_4)) (pif (t_4.toList == (⟨#[100, 115, 116]⟩ : ByteArray).toList) (sense_many.s21 Z Q c_1) (sense_many.s30 Z Q c_1 t_4)))
theorem sense_many.s33_eq (Z : ZT) (Q : Int → PT) (ρ : Fr) (c_1 : Addr) (t_4 : ByteArray) : (comp Tryd.prog Z sense_many.c15 (thenK (condJ (.tmp 5) (sense_many.j24 Z Q) (sense_many.j31 Z Q)) (sense_many.q23 Z Q))) (puts ρ [(1, (Value.pointer (some c_1))), (4, (Value.string t_4))]) = sense_many.s33 Z Q c_1 t_4 := by kernel_rfl
def sense_many.j34 (Z : ZT) (Q : Int → PT) : Fr → PT := (fun ρ => atA (ρ 1) fun c_1 => atS (ρ 4) fun t_4 => (sense_many.s33 Z Q c_1 t_4))
theorem sense_many.s33_ok (Z : ZT) (Q : Int → PT) : Ok Tryd.prog Tryd.f48.ntmps Z sense_many.c13 (sense_many.q23 Z Q) (sense_many.j34 Z Q) := by
  intro E he ρ w a hr h
  rw [sense_many.q17] at he ⊢
  obtain ⟨c_1, e1, h⟩ := atA_e h
  obtain ⟨t_4, e4, h⟩ := atS_e h
  exact ok_at [(1, (Value.pointer (some c_1))), (4, (Value.string t_4))] (ok_seq (okC sense_many.c15 _ (by kernel_rfl)) (sense_many.o32 Z Q)) (puts_cons e1 (puts_cons e4 (fun p hp => puts_nil hp))) (sense_many.s33_eq Z Q ρ c_1 t_4) he hr h
theorem sense_many.o35 (Z : ZT) (Q : Int → PT) : Ok Tryd.prog Tryd.f48.ntmps Z sense_many.c11 (sense_many.q22 Z Q) (sense_many.j34 Z Q) := by
  rw [sense_many.q14]; exact ok_block (sense_many.s33_ok Z Q)
def sense_many.s36 (Z : ZT) (Q : Int → PT) (c_1 : Addr) : PT :=
  (ldS (c_1.add 0) fun v19 => (sense_many.s33 Z Q c_1 v19))
theorem sense_many.s36_eq (Z : ZT) (Q : Int → PT) (ρ : Fr) (c_1 : Addr) : (comp Tryd.prog Z sense_many.c10 (thenK (sense_many.j34 Z Q) (sense_many.q22 Z Q))) (puts ρ [(1, (Value.pointer (some c_1)))]) = sense_many.s36 Z Q c_1 := by kernel_rfl
def sense_many.j37 (Z : ZT) (Q : Int → PT) : Fr → PT := (fun ρ => atA (ρ 1) fun c_1 => (sense_many.s36 Z Q c_1))
theorem sense_many.s36_ok (Z : ZT) (Q : Int → PT) : Ok Tryd.prog Tryd.f48.ntmps Z sense_many.c4 (sense_many.q22 Z Q) (sense_many.j37 Z Q) := by
  intro E he ρ w a hr h
  rw [sense_many.q12] at he ⊢
  obtain ⟨c_1, e1, h⟩ := atA_e h
  exact ok_at [(1, (Value.pointer (some c_1)))] (ok_seq (okC sense_many.c10 _ (by kernel_rfl)) (sense_many.o35 Z Q)) (puts_cons e1 (fun p hp => puts_nil hp)) (sense_many.s36_eq Z Q ρ c_1) he hr h
theorem sense_many.o38 (Z : ZT) (Q : Int → PT) : Ok Tryd.prog Tryd.f48.ntmps Z sense_many.c2 (sense_many.q8 Z Q) (sense_many.j37 Z Q) := by
  rw [sense_many.q6]; exact ok_seq (sense_many.s36_ok Z Q) (sense_many.s7_ok Z Q)
def sense_many.s39 (Z : ZT) (Q : Int → PT) (c_0 : List Value) : PT :=
  (newC 55 c_0 fun c20 => (sense_many.s36 Z Q c20))
theorem sense_many.s39_eq (Z : ZT) (Q : Int → PT) (ρ : Fr) (c_0 : List Value) : (comp Tryd.prog Z sense_many.c1 (thenK (sense_many.j37 Z Q) (sense_many.q8 Z Q))) (puts ρ [(0, (Value.agg ⟨c_0⟩))]) = sense_many.s39 Z Q c_0 := by kernel_rfl
def sense_many.j40 (Z : ZT) (Q : Int → PT) : Fr → PT := (fun ρ => atN (ρ 0) fun c_0 => (sense_many.s39 Z Q c_0))
theorem sense_many.s39_ok (Z : ZT) (Q : Int → PT) : Ok Tryd.prog Tryd.f48.ntmps Z sense_many.body (sense_many.q8 Z Q) (sense_many.j40 Z Q) := by
  intro E he ρ w a hr h
  rw [sense_many.q3] at he ⊢
  obtain ⟨c_0, e0, h⟩ := atN_e h
  exact ok_at [(0, (Value.agg ⟨c_0⟩))] (ok_seq (okC sense_many.c1 _ (by kernel_rfl)) (sense_many.o38 Z Q)) (puts_cons e0 (fun p hp => puts_nil hp)) (sense_many.s39_eq Z Q ρ c_0) he hr h
def sense_many.F (Z : ZT) (Q : Int → PT) (c_0 : List Value) : PT :=
  (sense_many.s39 Z Q c_0)
theorem sense_many.vc (Z : ZT) (Q : Int → PT) (c_0 : List Value) (w : World) (h : sense_many.F Z Q c_0 w) : Calls Tryd.prog 48 ⟨[(Value.agg ⟨c_0⟩)]⟩ w fun e w' => (∃ (r0 : Int), e = .returned (.int .i64 r0) ∧ Q r0 w') ∨ ∃ c, e = .panicked c ∧ Z c w' := by
  refine (calls_of_ok (args := [(Value.agg ⟨c_0⟩)]) (w := w) (rs := [.tmp 2]) (fn := Tryd.f48) (c := sense_many.body) Tryd.func48 (by kernel_rfl) (by kernel_rfl) (Nat.le_of_ble_eq_true (by kernel_rfl)) (sense_many.s39_ok Z Q) (h)).mono fun e w' hR => ?_
  cases e with
  | returned v =>
    obtain ⟨va, rfl, hR⟩ := atI_e hR
    exact .inl ⟨va, rfl, hR⟩
  | panicked c => exact .inr ⟨c, rfl, hR⟩
  | outgrown => exact hR.elim
theorem sense_many.vc0 (Q : Int → PT) (c_0 : List Value) (w : World) (h : sense_many.F Z0 Q c_0 w) : Calls Tryd.prog 48 ⟨[(Value.agg ⟨c_0⟩)]⟩ w fun e w' => (∃ (r0 : Int), e = .returned (.int .i64 r0) ∧ Q r0 w') :=
  (sense_many.vc Z0 Q c_0 w h).mono fun _ _ hR => hR.elim id fun ⟨_, _, hz⟩ => hz.elim
theorem sense_many.cal {Z : ZT} {Q : Int → PT} {c_0 : List Value} {w : World} (h : sense_many.F Z Q c_0 w) : Go.Proofs.YtllgjjldnnmjkaaDoor.cal Tryd.prog Z 48 [(Value.agg ⟨c_0⟩)] (isI .i64 fun r0 => Q r0) w := by
  refine (sense_many.vc Z Q c_0 w h).mono fun e w' hR => ?_
  rcases hR with ⟨r0, rfl, h⟩ | ⟨c, rfl, h⟩
  · show (isI .i64 fun r0 => Q r0) (.int .i64 r0) w'
    exact ⟨_, rfl, h⟩
  · exact h

/-! ### milepost/sense.clause: function 49 -/
noncomputable def sense_clause.body : Code := bodyC Tryd.f49
noncomputable def sense_clause.c1 : Code := sq1 sense_clause.body
noncomputable def sense_clause.c2 : Code := sq1 (sq2 sense_clause.body)
noncomputable def sense_clause.c3 : Code := sq2 (sq2 sense_clause.body)
theorem sense_clause.q4 : sense_clause.body = .seq sense_clause.c1 (.seq sense_clause.c2 sense_clause.c3) := by kernel_rfl
def sense_clause.s5 (Z : ZT) (Q : List Value → PT) (f_4 : Addr) : PT :=
  (ldN 2 f_4 fun v163 => (stN 2 f_4 v163 (ldN 2 f_4 fun f164 => (Q f164))))
def sense_clause.q6 (Z : ZT) (Q : List Value → PT) : QF := bodyQ Tryd.prog [.cell 4 57] (fun v => atN v fun va => Q va)
theorem sense_clause.s5_eq (Z : ZT) (Q : List Value → PT) (ρ : Fr) (f_4 : Addr) : comp Tryd.prog Z sense_clause.c3 (sense_clause.q6 Z Q) (puts ρ [(4, (Value.pointer (some f_4)))]) = sense_clause.s5 Z Q f_4 := by kernel_rfl
def sense_clause.j7 (Z : ZT) (Q : List Value → PT) : Fr → PT := (fun ρ => atA (ρ 4) fun f_4 => (sense_clause.s5 Z Q f_4))
theorem sense_clause.s5_ok (Z : ZT) (Q : List Value → PT) : Ok Tryd.prog Tryd.f49.ntmps Z sense_clause.c3 (sense_clause.q6 Z Q) (sense_clause.j7 Z Q) := by
  intro E he ρ w a hr h
  obtain ⟨f_4, e4, h⟩ := atA_e h
  exact ok_at [(4, (Value.pointer (some f_4)))] (okC sense_clause.c3 (sense_clause.q6 Z Q) (by kernel_rfl)) (puts_cons e4 (fun p hp => puts_nil hp)) (sense_clause.s5_eq Z Q ρ f_4) he hr h
def sense_clause.s8 (Z : ZT) (Q : List Value → PT) (x_0 : OA) (c_1 : List Value) : PT :=
  (newC 55 c_1 fun c165 => (newC 57 [(Value.int .i64 0), (Value.int .i64 0)] fun f166 => (ldS (c165.add 0) fun v167 => (pif (v167.toList == (⟨#[115, 114, 99]⟩ : ByteArray).toList) (ldN 5 c165 fun v168 => (cal Tryd.prog Z 76 [(Value.agg ⟨v168⟩)] (isT3 fun t169 t170 t171 => (isI .u32 fun v172 => ((isI .i64 fun v173 => ((isN fun v174 => (nn x_0 fun v175 => (st1 (v175.add 2) (Value.int .u32 v172) (nn x_0 fun v176 => (st1 (v176.add 3) (Value.int .i64 v173) (stN 2 f166 v174 (sense_clause.s5 Z Q f166))))))) t171)) t170)) t169))) (pif (v167.toList == (⟨#[100, 115, 116]⟩ : ByteArray).toList) (ldN 5 c165 fun v177 => (cal Tryd.prog Z 76 [(Value.agg ⟨v177⟩)] (isT3 fun t178 t179 t180 => (isI .u32 fun v181 => ((isI .i64 fun v182 => ((isN fun v183 => (nn x_0 fun v184 => (st1 (v184.add 4) (Value.int .u32 v181) (nn x_0 fun v185 => (st1 (v185.add 5) (Value.int .i64 v182) (stN 2 f166 v183 (sense_clause.s5 Z Q f166))))))) t180)) t179)) t178))) (pif (v167.toList == (⟨#[115, 112, 111, 114, 116]⟩ : ByteArray).toList) (ldN 5 c165 fun v186 => (cal Tryd.prog Z 77 [(Value.agg ⟨v186⟩)] (isT3 fun t187 t188 t189 => (isI .i64 fun v190 => ((isI .i64 fun v191 => ((isN fun v192 => (nn x_0 fun v193 => (st1 (v193.add 6) (Value.int .i64 v190) (nn x_0 fun v194 => (st1 (v194.add 7) (Value.int .i64 v191) (stN 2 f166 v192 (sense_clause.s5 Z Q f166))))))) t189)) t188)) t187))) (pif (v167.toList == (⟨#[100, 112, 111, 114, 116]⟩ : ByteArray).toList) (ldN 5 c165 fun v195 => (cal Tryd.prog Z 77 [(Value.agg ⟨v195⟩)] (isT3 fun t196 t197 t198 => (isI .i64 fun v199 => ((isI .i64 fun v200 => ((isN fun v201 => (nn x_0 fun v202 => (st1 (v202.add 8) (Value.int .i64 v199) (nn x_0 fun v203 => (st1 (v203.add 9) (Value.int .i64 v200) (stN 2 f166 v201 (sense_clause.s5 Z Q f166))))))) t198)) t197)) t196))) (ldL (c165.add 2) fun v204 v204n v204c => (ixS v204 v204n 0 2 fun v205 => (ldI .i64 (v205.add 0) fun v206 => (nn x_0 fun v207 => (st1 (v207.add 10) (Value.int .i64 v206) (ldL (c165.add 2) fun v208 v208n v208c => (ixS v208 v208n 0 2 fun v209 => (ldN 2 v209 fun v210 => (cal Tryd.prog Z 29 [(Value.agg ⟨v210⟩), (Value.int .i64 0), (Value.int .i64 255)] (isN fun v211 => (stN 2 f166 v211 (sense_clause.s5 Z Q f166)))))))))))))))))))
theorem sense_clause.s8_eq (Z : ZT) (Q : List Value → PT) (ρ : Fr) (x_0 : OA) (c_1 : List Value) : (comp Tryd.prog Z sense_clause.c1 (thenK (comp Tryd.prog Z sense_clause.c2 (thenK (sense_clause.j7 Z Q) (sense_clause.q6 Z Q))) (sense_clause.q6 Z Q))) (puts ρ [(0, (Value.pointer x_0)), (1, (Value.agg ⟨c_1⟩))]) = sense_clause.s8 Z Q x_0 c_1 := by kernel_rfl
def sense_clause.j9 (Z : ZT) (Q : List Value → PT) : Fr → PT := (fun ρ => atP (ρ 0) fun x_0 => atN (ρ 1) fun c_1 => (sense_clause.s8 Z Q x_0 c_1))
theorem sense_clause.s8_ok (Z : ZT) (Q : List Value → PT) : Ok Tryd.prog Tryd.f49.ntmps Z sense_clause.body (sense_clause.q6 Z Q) (sense_clause.j9 Z Q) := by
  intro E he ρ w a hr h
  rw [sense_clause.q4] at he ⊢
  obtain ⟨x_0, e0, h⟩ := atP_e h
  obtain ⟨c_1, e1, h⟩ := atN_e h
  exact ok_at [(0, (Value.pointer x_0)), (1, (Value.agg ⟨c_1⟩))] (ok_seq (okC sense_clause.c1 _ (by kernel_rfl)) (ok_seq (okC sense_clause.c2 _ (by kernel_rfl)) (sense_clause.s5_ok Z Q))) (puts_cons e0 (puts_cons e1 (fun p hp => puts_nil hp))) (sense_clause.s8_eq Z Q ρ x_0 c_1) he hr h
def sense_clause.F (Z : ZT) (Q : List Value → PT) (x_0 : OA) (c_1 : List Value) : PT :=
  (sense_clause.s8 Z Q x_0 c_1)
theorem sense_clause.vc (Z : ZT) (Q : List Value → PT) (x_0 : OA) (c_1 : List Value) (w : World) (h : sense_clause.F Z Q x_0 c_1 w) : Calls Tryd.prog 49 ⟨[(Value.pointer x_0), (Value.agg ⟨c_1⟩)]⟩ w fun e w' => (∃ (r0 : List Value), e = .returned (.agg ⟨r0⟩) ∧ Q r0 w') ∨ ∃ c, e = .panicked c ∧ Z c w' := by
  refine (calls_of_ok (args := [(Value.pointer x_0), (Value.agg ⟨c_1⟩)]) (w := w) (rs := [.cell 4 57]) (fn := Tryd.f49) (c := sense_clause.body) Tryd.func49 (by kernel_rfl) (by kernel_rfl) (Nat.le_of_ble_eq_true (by kernel_rfl)) (sense_clause.s8_ok Z Q) (h)).mono fun e w' hR => ?_
  cases e with
  | returned v =>
    obtain ⟨va, rfl, hR⟩ := atN_e hR
    exact .inl ⟨va, rfl, hR⟩
  | panicked c => exact .inr ⟨c, rfl, hR⟩
  | outgrown => exact hR.elim
theorem sense_clause.vc0 (Q : List Value → PT) (x_0 : OA) (c_1 : List Value) (w : World) (h : sense_clause.F Z0 Q x_0 c_1 w) : Calls Tryd.prog 49 ⟨[(Value.pointer x_0), (Value.agg ⟨c_1⟩)]⟩ w fun e w' => (∃ (r0 : List Value), e = .returned (.agg ⟨r0⟩) ∧ Q r0 w') :=
  (sense_clause.vc Z0 Q x_0 c_1 w h).mono fun _ _ hR => hR.elim id fun ⟨_, _, hz⟩ => hz.elim
theorem sense_clause.cal {Z : ZT} {Q : List Value → PT} {x_0 : OA} {c_1 : List Value} {w : World} (h : sense_clause.F Z Q x_0 c_1 w) : Go.Proofs.YtllgjjldnnmjkaaDoor.cal Tryd.prog Z 49 [(Value.pointer x_0), (Value.agg ⟨c_1⟩)] (isN fun r0 => Q r0) w := by
  refine (sense_clause.vc Z Q x_0 c_1 w h).mono fun e w' hR => ?_
  rcases hR with ⟨r0, rfl, h⟩ | ⟨c, rfl, h⟩
  · show (isN fun r0 => Q r0) (.agg ⟨r0⟩) w'
    exact ⟨_, rfl, h⟩
  · exact h

/-! ### milepost/sense.line: function 28 -/
noncomputable def sense_line.body : Code := bodyC Tryd.f28
noncomputable def sense_line.c1 : Code := sq1 sense_line.body
noncomputable def sense_line.c2 : Code := sq1 (sq2 sense_line.body)
noncomputable def sense_line.c3 : Code := sq1 (sq2 (sq2 sense_line.body))
noncomputable def sense_line.c4 : Code := sq2 (sq2 (sq2 sense_line.body))
theorem sense_line.q5 : sense_line.body = .seq sense_line.c1 (.seq sense_line.c2 (.seq sense_line.c3 sense_line.c4)) := by kernel_rfl
noncomputable def sense_line.c6 : Code := sq1 sense_line.c4
noncomputable def sense_line.c7 : Code := sq2 sense_line.c4
theorem sense_line.q8 : sense_line.c4 = .seq sense_line.c6 sense_line.c7 := by kernel_rfl
def sense_line.s9 (Z : ZT) (Q : List Value → List Value → PT) (t_2 : Addr) (t_3 : Addr) (x_4 : Addr) : PT :=
  (ldN 12 x_4 fun v28 => (stN 12 t_2 v28 (stN 2 t_3 [(Value.int .i64 0), (Value.int .i64 0)] (ldN 12 t_2 fun v29 => (ldN 2 t_3 fun v30 => (Q v29 v30))))))
def sense_line.q10 (Z : ZT) (Q : List Value → List Value → PT) : QF := bodyQ Tryd.prog [.cell 2 35, .cell 3 57] (fun v => at2 v fun x y => atN x fun xa => atN y fun ya => Q xa ya)
theorem sense_line.s9_eq (Z : ZT) (Q : List Value → List Value → PT) (ρ : Fr) (t_2 : Addr) (t_3 : Addr) (x_4 : Addr) : comp Tryd.prog Z sense_line.c7 (sense_line.q10 Z Q) (puts ρ [(2, (Value.pointer (some t_2))), (3, (Value.pointer (some t_3))), (4, (Value.pointer (some x_4)))]) = sense_line.s9 Z Q t_2 t_3 x_4 := by kernel_rfl
def sense_line.j11 (Z : ZT) (Q : List Value → List Value → PT) : Fr → PT := (fun ρ => atA (ρ 2) fun t_2 => atA (ρ 3) fun t_3 => atA (ρ 4) fun x_4 => (sense_line.s9 Z Q t_2 t_3 x_4))
theorem sense_line.s9_ok (Z : ZT) (Q : List Value → List Value → PT) : Ok Tryd.prog Tryd.f28.ntmps Z sense_line.c7 (sense_line.q10 Z Q) (sense_line.j11 Z Q) := by
  intro E he ρ w a hr h
  obtain ⟨t_2, e2, h⟩ := atA_e h
  obtain ⟨t_3, e3, h⟩ := atA_e h
  obtain ⟨x_4, e4, h⟩ := atA_e h
  exact ok_at [(2, (Value.pointer (some t_2))), (3, (Value.pointer (some t_3))), (4, (Value.pointer (some x_4)))] (okC sense_line.c7 (sense_line.q10 Z Q) (by kernel_rfl)) (puts_cons e2 (puts_cons e3 (puts_cons e4 (fun p hp => puts_nil hp)))) (sense_line.s9_eq Z Q ρ t_2 t_3 x_4) he hr h
noncomputable def sense_line.c12 : Code := sq1 sense_line.c6
noncomputable def sense_line.c13 : Code := sq2 sense_line.c6
theorem sense_line.q14 : sense_line.c6 = .seq sense_line.c12 sense_line.c13 := by kernel_rfl
noncomputable def sense_line.c15 : Code := blk sense_line.c13
theorem sense_line.q16 : sense_line.c13 = .block 0 sense_line.c15 := by kernel_rfl
noncomputable def sense_line.c17 : Code := lop sense_line.c15
theorem sense_line.q18 : sense_line.c15 = .loop sense_line.c17 := by kernel_rfl
def sense_line.q20 (Z : ZT) (Q : List Value → List Value → PT) : QF := thenK (sense_line.j11 Z Q) (sense_line.q10 Z Q)
def sense_line.q21 (Z : ZT) (Q : List Value → List Value → PT) : QF := inBl 0 (sense_line.q20 Z Q)
noncomputable def sense_line.c22 : Code := sq1 sense_line.c17
noncomputable def sense_line.c23 : Code := sq1 (sq2 sense_line.c17)
noncomputable def sense_line.c24 : Code := sq2 (sq2 sense_line.c17)
theorem sense_line.q25 : sense_line.c17 = .seq sense_line.c22 (.seq sense_line.c23 sense_line.c24) := by kernel_rfl
noncomputable def sense_line.c26 : Code := sq1 sense_line.c24
noncomputable def sense_line.c27 : Code := sq2 sense_line.c24
theorem sense_line.q28 : sense_line.c24 = .seq sense_line.c26 sense_line.c27 := by kernel_rfl
def sense_line.s29 (Z : ZT) (Q : List Value → List Value → PT) (X1 : Addr → Addr → Addr → Addr → OA → Nat → Nat → Int → Int → PT) (r_1 : Addr) (t_2 : Addr) (t_3 : Addr) (x_4 : Addr) (t_24 : OA) (t_24n t_24c : Nat) (t_25 : Int) (t_26 : Int) : PT :=
  (X1 r_1 t_2 t_3 x_4 t_24 t_24n t_24c t_25 (IntKind.wrap .i64 (t_26 + 1)))
def sense_line.j30 (Z : ZT) (Q : List Value → List Value → PT) (X1 : Addr → Addr → Addr → Addr → OA → Nat → Nat → Int → Int → PT) : Fr → PT := (fun ρ => atA (ρ 1) fun r_1 => atA (ρ 2) fun t_2 => atA (ρ 3) fun t_3 => atA (ρ 4) fun x_4 => atL (ρ 24) fun t_24 t_24n t_24c => atI .i64 (ρ 25) fun t_25 => atI .i64 (ρ 26) fun t_26 => (X1 r_1 t_2 t_3 x_4 t_24 t_24n t_24c t_25 t_26))
def sense_line.q31 (Z : ZT) (Q : List Value → List Value → PT) (X1 : Addr → Addr → Addr → Addr → OA → Nat → Nat → Int → Int → PT) : QF := thenK (sense_line.j30 Z Q X1) (sense_line.q21 Z Q)
theorem sense_line.s29_eq (Z : ZT) (Q : List Value → List Value → PT) (X1 : Addr → Addr → Addr → Addr → OA → Nat → Nat → Int → Int → PT) (ρ : Fr) (r_1 : Addr) (t_2 : Addr) (t_3 : Addr) (x_4 : Addr) (t_24 : OA) (t_24n t_24c : Nat) (t_25 : Int) (t_26 : Int) : comp Tryd.prog Z sense_line.c27 (sense_line.q31 Z Q X1) (puts ρ [(1, (Value.pointer (some r_1))), (2, (Value.pointer (some t_2))), (3, (Value.pointer (some t_3))), (4, (Value.pointer (some x_4))), (24, (Value.slice t_24 t_24n t_24c)), (25, (Value.int .i64 t_25)), (26, (Value.int .i64 t_26))]) = sense_line.s29 Z Q X1 r_1 t_2 t_3 x_4 t_24 t_24n t_24c t_25 t_26 := by kernel_rfl
def sense_line.j32 (Z : ZT) (Q : List Value → List Value → PT) (X1 : Addr → Addr → Addr → Addr → OA → Nat → Nat → Int → Int → PT) : Fr → PT := (fun ρ => atA (ρ 1) fun r_1 => atA (ρ 2) fun t_2 => atA (ρ 3) fun t_3 => atA (ρ 4) fun x_4 => atL (ρ 24) fun t_24 t_24n t_24c => atI .i64 (ρ 25) fun t_25 => atI .i64 (ρ 26) fun t_26 => (sense_line.s29 Z Q X1 r_1 t_2 t_3 x_4 t_24 t_24n t_24c t_25 t_26))
theorem sense_line.s29_ok (Z : ZT) (Q : List Value → List Value → PT) (X1 : Addr → Addr → Addr → Addr → OA → Nat → Nat → Int → Int → PT) : Ok Tryd.prog Tryd.f28.ntmps Z sense_line.c27 (sense_line.q31 Z Q X1) (sense_line.j32 Z Q X1) := by
  intro E he ρ w a hr h
  obtain ⟨r_1, e1, h⟩ := atA_e h
  obtain ⟨t_2, e2, h⟩ := atA_e h
  obtain ⟨t_3, e3, h⟩ := atA_e h
  obtain ⟨x_4, e4, h⟩ := atA_e h
  obtain ⟨t_24, t_24n, t_24c, e24, h⟩ := atL_e h
  obtain ⟨t_25, e25, h⟩ := atI_e h
  obtain ⟨t_26, e26, h⟩ := atI_e h
  exact ok_at [(1, (Value.pointer (some r_1))), (2, (Value.pointer (some t_2))), (3, (Value.pointer (some t_3))), (4, (Value.pointer (some x_4))), (24, (Value.slice t_24 t_24n t_24c)), (25, (Value.int .i64 t_25)), (26, (Value.int .i64 t_26))] (okC sense_line.c27 (sense_line.q31 Z Q X1) (by kernel_rfl)) (puts_cons e1 (puts_cons e2 (puts_cons e3 (puts_cons e4 (puts_cons e24 (puts_cons e25 (puts_cons e26 (fun p hp => puts_nil hp)))))))) (sense_line.s29_eq Z Q X1 ρ r_1 t_2 t_3 x_4 t_24 t_24n t_24c t_25 t_26) he hr h
noncomputable def sense_line.c33 : Code := blk sense_line.c26
theorem sense_line.q34 : sense_line.c26 = .block 1 sense_line.c33 := by kernel_rfl
noncomputable def sense_line.c35 : Code := sq1 sense_line.c33
noncomputable def sense_line.c36 : Code := sq1 (sq2 sense_line.c33)
noncomputable def sense_line.c37 : Code := sq2 (sq2 sense_line.c33)
theorem sense_line.q38 : sense_line.c33 = .seq sense_line.c35 (.seq sense_line.c36 sense_line.c37) := by kernel_rfl
noncomputable def sense_line.c39 : Code := sq1 sense_line.c37
noncomputable def sense_line.c40 : Code := sq2 sense_line.c37
theorem sense_line.q41 : sense_line.c37 = .seq sense_line.c39 sense_line.c40 := by kernel_rfl
def sense_line.s42 (Z : ZT) (Q : List Value → List Value → PT) (X1 : Addr → Addr → Addr → Addr → OA → Nat → Nat → Int → Int → PT) (r_1 : Addr) (t_2 : Addr) (t_3 : Addr) (x_4 : Addr) (c_7 : Addr) (t_24 : OA) (t_24n t_24c : Nat) (t_25 : Int) (t_26 : Int) : PT :=
  (ldN 5 c_7 fun v63 => (cal Tryd.prog Z 49 [(Value.pointer (some x_4)), (Value.agg ⟨v63⟩)] (isN fun v64 => (newC 57 [(Value.int .i64 0), (Value.int .i64 0)] fun f65 => (stN 2 f65 v64 (ldI .i64 (f65.add 0) fun v66 => (pif (v66 != 0) (drawn fun S67 => (hN S67 12 x_4 fun v68 => (hN S67 2 f65 fun v69 => (stN 12 t_2 v68 (sAnd S67 (stN 2 t_3 v69 (ldN 12 t_2 fun v70 => (ldN 2 t_3 fun v71 => (Q v70 v71))))))))) (sense_line.s29 Z Q X1 r_1 t_2 t_3 x_4 t_24 t_24n t_24c t_25 t_26))))))))
def sense_line.q43 (Z : ZT) (Q : List Value → List Value → PT) (X1 : Addr → Addr → Addr → Addr → OA → Nat → Nat → Int → Int → PT) : QF := thenK (sense_line.j32 Z Q X1) (sense_line.q31 Z Q X1)
def sense_line.q44 (Z : ZT) (Q : List Value → List Value → PT) (X1 : Addr → Addr → Addr → Addr → OA → Nat → Nat → Int → Int → PT) : QF := inBl 1 (sense_line.q43 Z Q X1)
theorem sense_line.s42_eq (Z : ZT) (Q : List Value → List Value → PT) (X1 : Addr → Addr → Addr → Addr → OA → Nat → Nat → Int → Int → PT) (ρ : Fr) (r_1 : Addr) (t_2 : Addr) (t_3 : Addr) (x_4 : Addr) (c_7 : Addr) (t_24 : OA) (t_24n t_24c : Nat) (t_25 : Int) (t_26 : Int) : comp Tryd.prog Z sense_line.c40 (sense_line.q44 Z Q X1) (puts ρ [(1, (Value.pointer (some r_1))), (2, (Value.pointer (some t_2))), (3, (Value.pointer (some t_3))), (4, (Value.pointer (some x_4))), (7, (Value.pointer (some c_7))), (24, (Value.slice t_24 t_24n t_24c)), (25, (Value.int .i64 t_25)), (26, (Value.int .i64 t_26))]) = sense_line.s42 Z Q X1 r_1 t_2 t_3 x_4 c_7 t_24 t_24n t_24c t_25 t_26 := by kernel_rfl
def sense_line.j45 (Z : ZT) (Q : List Value → List Value → PT) (X1 : Addr → Addr → Addr → Addr → OA → Nat → Nat → Int → Int → PT) : Fr → PT := (fun ρ => atA (ρ 1) fun r_1 => atA (ρ 2) fun t_2 => atA (ρ 3) fun t_3 => atA (ρ 4) fun x_4 => atA (ρ 7) fun c_7 => atL (ρ 24) fun t_24 t_24n t_24c => atI .i64 (ρ 25) fun t_25 => atI .i64 (ρ 26) fun t_26 => (sense_line.s42 Z Q X1 r_1 t_2 t_3 x_4 c_7 t_24 t_24n t_24c t_25 t_26))
theorem sense_line.s42_ok (Z : ZT) (Q : List Value → List Value → PT) (X1 : Addr → Addr → Addr → Addr → OA → Nat → Nat → Int → Int → PT) : Ok Tryd.prog Tryd.f28.ntmps Z sense_line.c40 (sense_line.q44 Z Q X1) (sense_line.j45 Z Q X1) := by
  intro E he ρ w a hr h
  obtain ⟨r_1, e1, h⟩ := atA_e h
  obtain ⟨t_2, e2, h⟩ := atA_e h
  obtain ⟨t_3, e3, h⟩ := atA_e h
  obtain ⟨x_4, e4, h⟩ := atA_e h
  obtain ⟨c_7, e7, h⟩ := atA_e h
  obtain ⟨t_24, t_24n, t_24c, e24, h⟩ := atL_e h
  obtain ⟨t_25, e25, h⟩ := atI_e h
  obtain ⟨t_26, e26, h⟩ := atI_e h
  exact ok_at [(1, (Value.pointer (some r_1))), (2, (Value.pointer (some t_2))), (3, (Value.pointer (some t_3))), (4, (Value.pointer (some x_4))), (7, (Value.pointer (some c_7))), (24, (Value.slice t_24 t_24n t_24c)), (25, (Value.int .i64 t_25)), (26, (Value.int .i64 t_26))] (okC sense_line.c40 (sense_line.q44 Z Q X1) (by kernel_rfl)) (puts_cons e1 (puts_cons e2 (puts_cons e3 (puts_cons e4 (puts_cons e7 (puts_cons e24 (puts_cons e25 (puts_cons e26 (fun p hp => puts_nil hp))))))))) (sense_line.s42_eq Z Q X1 ρ r_1 t_2 t_3 x_4 c_7 t_24 t_24n t_24c t_25 t_26) he hr h
noncomputable def sense_line.c46 : Code := sq1 sense_line.c39
noncomputable def sense_line.c47 : Code := sq2 sense_line.c39
theorem sense_line.q48 : sense_line.c39 = .seq sense_line.c46 sense_line.c47 := by kernel_rfl
noncomputable def sense_line.c49 : Code := blk sense_line.c47
theorem sense_line.q50 : sense_line.c47 = .block 2 sense_line.c49 := by kernel_rfl
noncomputable def sense_line.c51 : Code := lop sense_line.c49
theorem sense_line.q52 : sense_line.c49 = .loop sense_line.c51 := by kernel_rfl
def sense_line.q54 (Z : ZT) (Q : List Value → List Value → PT) (X1 : Addr → Addr → Addr → Addr → OA → Nat → Nat → Int → Int → PT) : QF := thenK (sense_line.j45 Z Q X1) (sense_line.q44 Z Q X1)
def sense_line.q55 (Z : ZT) (Q : List Value → List Value → PT) (X1 : Addr → Addr → Addr → Addr → OA → Nat → Nat → Int → Int → PT) : QF := inBl 2 (sense_line.q54 Z Q X1)
def sense_line.s56 (Z : ZT) (Q : List Value → List Value → PT) (X1 : Addr → Addr → Addr → Addr → OA → Nat → Nat → Int → Int → PT) (X2 : Addr → Addr → Addr → Addr → Addr → OA → Nat → Nat → Int → Int → OA → Nat → Nat → Int → Int → PT) (r_1 : Addr) (t_2 : Addr) (t_3 : Addr) (x_4 : Addr) (c_7 : Addr) (t_24 : OA) (t_24n t_24c : Nat) (t_25 : Int) (t_26 : Int) (t_50 : OA) (t_50n t_50c : Nat) (t_51 : Int) (t_52 : Int) : PT :=
  (pif (decide (t_52 < t_51)) (ixS t_50 t_50n t_52 5 fun v91 => (ldN 5 v91 fun v92 => (newC 55 [(Value.string ⟨#[]⟩), (Value.int .i64 0), (Value.slice none 0 0), (Value.bool false), (Value.bool false)] fun d93 => (stN 5 d93 v92 (ldS (d93.add 0) fun v94 => (ldS (c_7.add 0) fun v95 => (pif (v94.toList == v95.toList) (drawn fun S96 => (hN S96 12 x_4 fun v97 => (hI S96 .i64 (c_7.add 1) fun v98 => (fun w103 => (sAnd S96 (stN 12 t_2 v97 (sAnd S96 (stN 2 t_3 [(Value.int .i64 9), (Value.int .i64 v98)] (ldN 12 t_2 fun v99 => (ldN 2 t_3 fun v100 => (Q v99 v100))))))) w103 ∧ (stN 12 t_2 v97 (sAnd S96 (sAnd S96 (stN 2 t_3 [(Value.int .i64 9), (Value.int .i64 v98)] (ldN 12 t_2 fun v101 => (ldN 2 t_3 fun v102 => (Q v101 v102))))))) w103)))) (X2 r_1 t_2 t_3 x_4 c_7 t_24 t_24n t_24c t_25 t_26 t_50 t_50n t_50c t_51 (IntKind.wrap .i64 (t_52 + 1)))))))))) (sense_line.s42 Z Q X1 r_1 t_2 t_3 x_4 c_7 t_24 t_24n t_24c t_25 t_26))
def sense_line.j57 (Z : ZT) (Q : List Value → List Value → PT) (X1 : Addr → Addr → Addr → Addr → OA → Nat → Nat → Int → Int → PT) (X2 : Addr → Addr → Addr → Addr → Addr → OA → Nat → Nat → Int → Int → OA → Nat → Nat → Int → Int → PT) : Fr → PT := (fun ρ => atA (ρ 1) fun r_1 => atA (ρ 2) fun t_2 => atA (ρ 3) fun t_3 => atA (ρ 4) fun x_4 => atA (ρ 7) fun c_7 => atL (ρ 24) fun t_24 t_24n t_24c => atI .i64 (ρ 25) fun t_25 => atI .i64 (ρ 26) fun t_26 => atL (ρ 50) fun t_50 t_50n t_50c => atI .i64 (ρ 51) fun t_51 => atI .i64 (ρ 52) fun t_52 => (X2 r_1 t_2 t_3 x_4 c_7 t_24 t_24n t_24c t_25 t_26 t_50 t_50n t_50c t_51 t_52))
def sense_line.q58 (Z : ZT) (Q : List Value → List Value → PT) (X1 : Addr → Addr → Addr → Addr → OA → Nat → Nat → Int → Int → PT) (X2 : Addr → Addr → Addr → Addr → Addr → OA → Nat → Nat → Int → Int → OA → Nat → Nat → Int → Int → PT) : QF := thenK (sense_line.j57 Z Q X1 X2) (sense_line.q55 Z Q X1)
theorem sense_line.s56_eq (Z : ZT) (Q : List Value → List Value → PT) (X1 : Addr → Addr → Addr → Addr → OA → Nat → Nat → Int → Int → PT) (X2 : Addr → Addr → Addr → Addr → Addr → OA → Nat → Nat → Int → Int → OA → Nat → Nat → Int → Int → PT) (ρ : Fr) (r_1 : Addr) (t_2 : Addr) (t_3 : Addr) (x_4 : Addr) (c_7 : Addr) (t_24 : OA) (t_24n t_24c : Nat) (t_25 : Int) (t_26 : Int) (t_50 : OA) (t_50n t_50c : Nat) (t_51 : Int) (t_52 : Int) : comp Tryd.prog Z sense_line.c51 (sense_line.q58 Z Q X1 X2) (puts ρ [(1, (Value.pointer (some r_1))), (2, (Value.pointer (some t_2))), (3, (Value.pointer (some t_3))), (4, (Value.pointer (some x_4))), (7, (Value.pointer (some c_7))), (24, (Value.slice t_24 t_24n t_24c)), (25, (Value.int .i64 t_25)), (26, (Value.int .i64 t_26)), (50, (Value.slice t_50 t_50n t_50c)), (51, (Value.int .i64 t_51)), (52, (Value.int .i64 t_52))]) = sense_line.s56 Z Q X1 X2 r_1 t_2 t_3 x_4 c_7 t_24 t_24n t_24c t_25 t_26 t_50 t_50n t_50c t_51 t_52 := by kernel_rfl
def sense_line.j59 (Z : ZT) (Q : List Value → List Value → PT) (X1 : Addr → Addr → Addr → Addr → OA → Nat → Nat → Int → Int → PT) (X2 : Addr → Addr → Addr → Addr → Addr → OA → Nat → Nat → Int → Int → OA → Nat → Nat → Int → Int → PT) : Fr → PT := (fun ρ => atA (ρ 1) fun r_1 => atA (ρ 2) fun t_2 => atA (ρ 3) fun t_3 => atA (ρ 4) fun x_4 => atA (ρ 7) fun c_7 => atL (ρ 24) fun t_24 t_24n t_24c => atI .i64 (ρ 25) fun t_25 => atI .i64 (ρ 26) fun t_26 => atL (ρ 50) fun t_50 t_50n t_50c => atI .i64 (ρ 51) fun t_51 => atI .i64 (ρ 52) fun t_52 => (sense_line.s56 Z Q X1 X2 r_1 t_2 t_3 x_4 c_7 t_24 t_24n t_24c t_25 t_26 t_50 t_50n t_50c t_51 t_52))
theorem sense_line.s56_ok (Z : ZT) (Q : List Value → List Value → PT) (X1 : Addr → Addr → Addr → Addr → OA → Nat → Nat → Int → Int → PT) (X2 : Addr → Addr → Addr → Addr → Addr → OA → Nat → Nat → Int → Int → OA → Nat → Nat → Int → Int → PT) : Ok Tryd.prog Tryd.f28.ntmps Z sense_line.c51 (sense_line.q58 Z Q X1 X2) (sense_line.j59 Z Q X1 X2) := by
  intro E he ρ w a hr h
  obtain ⟨r_1, e1, h⟩ := atA_e h
  obtain ⟨t_2, e2, h⟩ := atA_e h
  obtain ⟨t_3, e3, h⟩ := atA_e h
  obtain ⟨x_4, e4, h⟩ := atA_e h
  obtain ⟨c_7, e7, h⟩ := atA_e h
  obtain ⟨t_24, t_24n, t_24c, e24, h⟩ := atL_e h
  obtain ⟨t_25, e25, h⟩ := atI_e h
  obtain ⟨t_26, e26, h⟩ := atI_e h
  obtain ⟨t_50, t_50n, t_50c, e50, h⟩ := atL_e h
  obtain ⟨t_51, e51, h⟩ := atI_e h
  obtain ⟨t_52, e52, h⟩ := atI_e h
  exact ok_at [(1, (Value.pointer (some r_1))), (2, (Value.pointer (some t_2))), (3, (Value.pointer (some t_3))), (4, (Value.pointer (some x_4))), (7, (Value.pointer (some c_7))), (24, (Value.slice t_24 t_24n t_24c)), (25, (Value.int .i64 t_25)), (26, (Value.int .i64 t_26)), (50, (Value.slice t_50 t_50n t_50c)), (51, (Value.int .i64 t_51)), (52, (Value.int .i64 t_52))] (okC sense_line.c51 (sense_line.q58 Z Q X1 X2) (by kernel_rfl)) (puts_cons e1 (puts_cons e2 (puts_cons e3 (puts_cons e4 (puts_cons e7 (puts_cons e24 (puts_cons e25 (puts_cons e26 (puts_cons e50 (puts_cons e51 (puts_cons e52 (fun p hp => puts_nil hp)))))))))))) (sense_line.s56_eq Z Q X1 X2 ρ r_1 t_2 t_3 x_4 c_7 t_24 t_24n t_24c t_25 t_26 t_50 t_50n t_50c t_51 t_52) he hr h
def sense_line.l53 (Z : ZT) (Q : List Value → List Value → PT) (X1 : Addr → Addr → Addr → Addr → OA → Nat → Nat → Int → Int → PT) : Nat → Addr → Addr → Addr → Addr → Addr → OA → Nat → Nat → Int → Int → OA → Nat → Nat → Int → Int → PT
  | 0, _, _, _, _, _, _, _, _, _, _, _, _, _, _, _ => bad
  | k + 1, r_1, t_2, t_3, x_4, c_7, t_24, t_24n, t_24c, t_25, t_26, t_50, t_50n, t_50c, t_51, t_52 => (sense_line.s56 Z Q X1 (sense_line.l53 Z Q X1 k) r_1 t_2 t_3 x_4 c_7 t_24 t_24n t_24c t_25 t_26 t_50 t_50n t_50c t_51 t_52)
def sense_line.j60 (Z : ZT) (Q : List Value → List Value → PT) (X1 : Addr → Addr → Addr → Addr → OA → Nat → Nat → Int → Int → PT) (k : Nat) : Fr → PT := (fun ρ => atA (ρ 1) fun r_1 => atA (ρ 2) fun t_2 => atA (ρ 3) fun t_3 => atA (ρ 4) fun x_4 => atA (ρ 7) fun c_7 => atL (ρ 24) fun t_24 t_24n t_24c => atI .i64 (ρ 25) fun t_25 => atI .i64 (ρ 26) fun t_26 => atL (ρ 50) fun t_50 t_50n t_50c => atI .i64 (ρ 51) fun t_51 => atI .i64 (ρ 52) fun t_52 => (sense_line.l53 Z Q X1 k r_1 t_2 t_3 x_4 c_7 t_24 t_24n t_24c t_25 t_26 t_50 t_50n t_50c t_51 t_52))
def sense_line.j61 (Z : ZT) (Q : List Value → List Value → PT) (X1 : Addr → Addr → Addr → Addr → OA → Nat → Nat → Int → Int → PT) : Fr → PT := (fun ρ => atA (ρ 1) fun r_1 => atA (ρ 2) fun t_2 => atA (ρ 3) fun t_3 => atA (ρ 4) fun x_4 => atA (ρ 7) fun c_7 => atL (ρ 24) fun t_24 t_24n t_24c => atI .i64 (ρ 25) fun t_25 => atI .i64 (ρ 26) fun t_26 => atL (ρ 50) fun t_50 t_50n t_50c => atI .i64 (ρ 51) fun t_51 => atI .i64 (ρ 52) fun t_52 => (exK fun k => sense_line.l53 Z Q X1 k r_1 t_2 t_3 x_4 c_7 t_24 t_24n t_24c t_25 t_26 t_50 t_50n t_50c t_51 t_52))
theorem sense_line.o62 (Z : ZT) (Q : List Value → List Value → PT) (X1 : Addr → Addr → Addr → Addr → OA → Nat → Nat → Int → Int → PT) : Ok Tryd.prog Tryd.f28.ntmps Z sense_line.c49 (sense_line.q55 Z Q X1) (sense_line.j61 Z Q X1) := by
  rw [sense_line.q52]
  refine Ok.imp (ok_loop (J := sense_line.j60 Z Q X1) ?_ ?_) ?_
  · intro ρ w h
    obtain ⟨r_1, e1, h⟩ := atA_e h
    obtain ⟨t_2, e2, h⟩ := atA_e h
    obtain ⟨t_3, e3, h⟩ := atA_e h
    obtain ⟨x_4, e4, h⟩ := atA_e h
    obtain ⟨c_7, e7, h⟩ := atA_e h
    obtain ⟨t_24, t_24n, t_24c, e24, h⟩ := atL_e h
    obtain ⟨t_25, e25, h⟩ := atI_e h
    obtain ⟨t_26, e26, h⟩ := atI_e h
    obtain ⟨t_50, t_50n, t_50c, e50, h⟩ := atL_e h
    obtain ⟨t_51, e51, h⟩ := atI_e h
    obtain ⟨t_52, e52, h⟩ := atI_e h
    exact h
  · intro k
    refine Ok.imp (sense_line.s56_ok Z Q X1 (sense_line.l53 Z Q X1 k)) fun ρ w h => ?_
    obtain ⟨r_1, e1, h⟩ := atA_e h
    obtain ⟨t_2, e2, h⟩ := atA_e h
    obtain ⟨t_3, e3, h⟩ := atA_e h
    obtain ⟨x_4, e4, h⟩ := atA_e h
    obtain ⟨c_7, e7, h⟩ := atA_e h
    obtain ⟨t_24, t_24n, t_24c, e24, h⟩ := atL_e h
    obtain ⟨t_25, e25, h⟩ := atI_e h
    obtain ⟨t_26, e26, h⟩ := atI_e h
    obtain ⟨t_50, t_50n, t_50c, e50, h⟩ := atL_e h
    obtain ⟨t_51, e51, h⟩ := atI_e h
    obtain ⟨t_52, e52, h⟩ := atI_e h
    show (sense_line.j59 Z Q X1 (sense_line.l53 Z Q X1 k)) ρ w
    simp only [sense_line.j59]
    rw [e1]
    rw [e2]
    rw [e3]
    rw [e4]
    rw [e7]
    rw [e24]
    rw [e25]
    rw [e26]
    rw [e50]
    rw [e51]
    rw [e52]
    exact h
  · intro ρ w h
    obtain ⟨r_1, e1, h⟩ := atA_e h
    obtain ⟨t_2, e2, h⟩ := atA_e h
    obtain ⟨t_3, e3, h⟩ := atA_e h
    obtain ⟨x_4, e4, h⟩ := atA_e h
    obtain ⟨c_7, e7, h⟩ := atA_e h
    obtain ⟨t_24, t_24n, t_24c, e24, h⟩ := atL_e h
    obtain ⟨t_25, e25, h⟩ := atI_e h
    obtain ⟨t_26, e26, h⟩ := atI_e h
    obtain ⟨t_50, t_50n, t_50c, e50, h⟩ := atL_e h
    obtain ⟨t_51, e51, h⟩ := atI_e h
    obtain ⟨t_52, e52, h⟩ := atI_e h
    obtain ⟨k, h⟩ := h
    refine ⟨k, ?_⟩
    show (atA (ρ 1) fun r_1 => atA (ρ 2) fun t_2 => atA (ρ 3) fun t_3 => atA (ρ 4) fun x_4 => atA (ρ 7) fun c_7 => atL (ρ 24) fun t_24 t_24n t_24c => atI .i64 (ρ 25) fun t_25 => atI .i64 (ρ 26) fun t_26 => atL (ρ 50) fun t_50 t_50n t_50c => atI .i64 (ρ 51) fun t_51 => atI .i64 (ρ 52) fun t_52 => (sense_line.l53 Z Q X1 k r_1 t_2 t_3 x_4 c_7 t_24 t_24n t_24c t_25 t_26 t_50 t_50n t_50c t_51 t_52)) w
    rw [e1]
    rw [e2]
    rw [e3]
    rw [e4]
    rw [e7]
    rw [e24]
    rw [e25]
    rw [e26]
    rw [e50]
    rw [e51]
    rw [e52]
    exact h
theorem sense_line.o63 (Z : ZT) (Q : List Value → List Value → PT) (X1 : Addr → Addr → Addr → Addr → OA → Nat → Nat → Int → Int → PT) : Ok Tryd.prog Tryd.f28.ntmps Z sense_line.c47 (sense_line.q54 Z Q X1) (sense_line.j61 Z Q X1) := by
  rw [sense_line.q50]; exact ok_block (sense_line.o62 Z Q X1)
def sense_line.s64 (Z : ZT) (Q : List Value → List Value → PT) (X1 : Addr → Addr → Addr → Addr → OA → Nat → Nat → Int → Int → PT) (r_1 : Addr) (t_2 : Addr) (t_3 : Addr) (x_4 : Addr) (i_6 : Int) (c_7 : Addr) (t_24 : OA) (t_24n t_24c : Nat) (t_25 : Int) (t_26 : Int) : PT :=
  (ldL (r_1.add 4) fun v104 v104n v104c => (slS v104 v104c 0 i_6 5 fun v105 v105n v105c => (exK fun k => sense_line.l53 Z Q X1 k r_1 t_2 t_3 x_4 c_7 t_24 t_24n t_24c t_25 t_26 v105 v105n v105c ((v105n : Nat) : Int) 0)))
theorem sense_line.s64_eq (Z : ZT) (Q : List Value → List Value → PT) (X1 : Addr → Addr → Addr → Addr → OA → Nat → Nat → Int → Int → PT) (ρ : Fr) (r_1 : Addr) (t_2 : Addr) (t_3 : Addr) (x_4 : Addr) (i_6 : Int) (c_7 : Addr) (t_24 : OA) (t_24n t_24c : Nat) (t_25 : Int) (t_26 : Int) : (comp Tryd.prog Z sense_line.c46 (thenK (sense_line.j61 Z Q X1) (sense_line.q54 Z Q X1))) (puts ρ [(1, (Value.pointer (some r_1))), (2, (Value.pointer (some t_2))), (3, (Value.pointer (some t_3))), (4, (Value.pointer (some x_4))), (6, (Value.int .i64 i_6)), (7, (Value.pointer (some c_7))), (24, (Value.slice t_24 t_24n t_24c)), (25, (Value.int .i64 t_25)), (26, (Value.int .i64 t_26))]) = sense_line.s64 Z Q X1 r_1 t_2 t_3 x_4 i_6 c_7 t_24 t_24n t_24c t_25 t_26 := by kernel_rfl
def sense_line.j65 (Z : ZT) (Q : List Value → List Value → PT) (X1 : Addr → Addr → Addr → Addr → OA → Nat → Nat → Int → Int → PT) : Fr → PT := (fun ρ => atA (ρ 1) fun r_1 => atA (ρ 2) fun t_2 => atA (ρ 3) fun t_3 => atA (ρ 4) fun x_4 => atI .i64 (ρ 6) fun i_6 => atA (ρ 7) fun c_7 => atL (ρ 24) fun t_24 t_24n t_24c => atI .i64 (ρ 25) fun t_25 => atI .i64 (ρ 26) fun t_26 => (sense_line.s64 Z Q X1 r_1 t_2 t_3 x_4 i_6 c_7 t_24 t_24n t_24c t_25 t_26))
theorem sense_line.s64_ok (Z : ZT) (Q : List Value → List Value → PT) (X1 : Addr → Addr → Addr → Addr → OA → Nat → Nat → Int → Int → PT) : Ok Tryd.prog Tryd.f28.ntmps Z sense_line.c39 (sense_line.q54 Z Q X1) (sense_line.j65 Z Q X1) := by
  intro E he ρ w a hr h
  rw [sense_line.q48] at he ⊢
  obtain ⟨r_1, e1, h⟩ := atA_e h
  obtain ⟨t_2, e2, h⟩ := atA_e h
  obtain ⟨t_3, e3, h⟩ := atA_e h
  obtain ⟨x_4, e4, h⟩ := atA_e h
  obtain ⟨i_6, e6, h⟩ := atI_e h
  obtain ⟨c_7, e7, h⟩ := atA_e h
  obtain ⟨t_24, t_24n, t_24c, e24, h⟩ := atL_e h
  obtain ⟨t_25, e25, h⟩ := atI_e h
  obtain ⟨t_26, e26, h⟩ := atI_e h
  exact ok_at [(1, (Value.pointer (some r_1))), (2, (Value.pointer (some t_2))), (3, (Value.pointer (some t_3))), (4, (Value.pointer (some x_4))), (6, (Value.int .i64 i_6)), (7, (Value.pointer (some c_7))), (24, (Value.slice t_24 t_24n t_24c)), (25, (Value.int .i64 t_25)), (26, (Value.int .i64 t_26))] (ok_seq (okC sense_line.c46 _ (by kernel_rfl)) (sense_line.o63 Z Q X1)) (puts_cons e1 (puts_cons e2 (puts_cons e3 (puts_cons e4 (puts_cons e6 (puts_cons e7 (puts_cons e24 (puts_cons e25 (puts_cons e26 (fun p hp => puts_nil hp)))))))))) (sense_line.s64_eq Z Q X1 ρ r_1 t_2 t_3 x_4 i_6 c_7 t_24 t_24n t_24c t_25 t_26) he hr h
theorem sense_line.o66 (Z : ZT) (Q : List Value → List Value → PT) (X1 : Addr → Addr → Addr → Addr → OA → Nat → Nat → Int → Int → PT) : Ok Tryd.prog Tryd.f28.ntmps Z sense_line.c37 (sense_line.q44 Z Q X1) (sense_line.j65 Z Q X1) := by
  rw [sense_line.q41]; exact ok_seq (sense_line.s64_ok Z Q X1) (sense_line.s42_ok Z Q X1)
def sense_line.s67 (Z : ZT) (Q : List Value → List Value → PT) (X1 : Addr → Addr → Addr → Addr → OA → Nat → Nat → Int → Int → PT) (r_1 : Addr) (t_2 : Addr) (t_3 : Addr) (x_4 : Addr) (t_24 : OA) (t_24n t_24c : Nat) (t_25 : Int) (t_26 : Int) : PT :=
  (ixS t_24 t_24n t_26 5 fun v106 => (ldN 5 v106 fun v107 => (newC 55 [(Value.string ⟨#[]⟩), (Value.int .i64 0), (Value.slice none 0 0), (Value.bool false), (Value.bool false)] fun c108 => (stN 5 c108 v107 (drawn fun S109 => (hL S109 (c108.add 2) fun v110 v110n v110c => (pif (((v110n : Nat) : Int) == 0) (drawn fun S111 => (hN S111 12 x_4 fun v112 => (hI S111 .i64 (c108.add 1) fun v113 => (fun w118 => (sAnd S111 (stN 12 t_2 v112 (sAnd S111 (stN 2 t_3 [(Value.int .i64 8), (Value.int .i64 v113)] (ldN 12 t_2 fun v114 => (ldN 2 t_3 fun v115 => (Q v114 v115))))))) w118 ∧ (stN 12 t_2 v112 (sAnd S111 (sAnd S111 (stN 2 t_3 [(Value.int .i64 8), (Value.int .i64 v113)] (ldN 12 t_2 fun v116 => (ldN 2 t_3 fun v117 => (Q v116 v117))))))) w118)))) (hL S109 (c108.add 2) fun v119 v119n v119c => (hN S109 5 c108 fun v120 => (cal Tryd.prog Z 48 [(Value.agg ⟨v120⟩)] (isI .i64 fun v121 => (sAnd S109 (pif (((v119n : Nat) : Int) != v121) (drawn fun S122 => (hN S122 12 x_4 fun v123 => (hI S122 .i64 (c108.add 1) fun v124 => (fun w129 => (sAnd S122 (stN 12 t_2 v123 (sAnd S122 (stN 2 t_3 [(Value.int .i64 8), (Value.int .i64 v124)] (ldN 12 t_2 fun v125 => (ldN 2 t_3 fun v126 => (Q v125 v126))))))) w129 ∧ (stN 12 t_2 v123 (sAnd S122 (sAnd S122 (stN 2 t_3 [(Value.int .i64 8), (Value.int .i64 v124)] (ldN 12 t_2 fun v127 => (ldN 2 t_3 fun v128 => (Q v127 v128))))))) w129)))) (sense_line.s64 Z Q X1 r_1 t_2 t_3 x_4 t_26 c108 t_24 t_24n t_24c t_25 t_26))))))))))))))
theorem sense_line.s67_eq (Z : ZT) (Q : List Value → List Value → PT) (X1 : Addr → Addr → Addr → Addr → OA → Nat → Nat → Int → Int → PT) (ρ : Fr) (r_1 : Addr) (t_2 : Addr) (t_3 : Addr) (x_4 : Addr) (t_24 : OA) (t_24n t_24c : Nat) (t_25 : Int) (t_26 : Int) : (comp Tryd.prog Z sense_line.c35 (thenK (comp Tryd.prog Z sense_line.c36 (thenK (sense_line.j65 Z Q X1) (sense_line.q44 Z Q X1))) (sense_line.q44 Z Q X1))) (puts ρ [(1, (Value.pointer (some r_1))), (2, (Value.pointer (some t_2))), (3, (Value.pointer (some t_3))), (4, (Value.pointer (some x_4))), (24, (Value.slice t_24 t_24n t_24c)), (25, (Value.int .i64 t_25)), (26, (Value.int .i64 t_26))]) = sense_line.s67 Z Q X1 r_1 t_2 t_3 x_4 t_24 t_24n t_24c t_25 t_26 := by kernel_rfl
def sense_line.j68 (Z : ZT) (Q : List Value → List Value → PT) (X1 : Addr → Addr → Addr → Addr → OA → Nat → Nat → Int → Int → PT) : Fr → PT := (fun ρ => atA (ρ 1) fun r_1 => atA (ρ 2) fun t_2 => atA (ρ 3) fun t_3 => atA (ρ 4) fun x_4 => atL (ρ 24) fun t_24 t_24n t_24c => atI .i64 (ρ 25) fun t_25 => atI .i64 (ρ 26) fun t_26 => (sense_line.s67 Z Q X1 r_1 t_2 t_3 x_4 t_24 t_24n t_24c t_25 t_26))
theorem sense_line.s67_ok (Z : ZT) (Q : List Value → List Value → PT) (X1 : Addr → Addr → Addr → Addr → OA → Nat → Nat → Int → Int → PT) : Ok Tryd.prog Tryd.f28.ntmps Z sense_line.c33 (sense_line.q44 Z Q X1) (sense_line.j68 Z Q X1) := by
  intro E he ρ w a hr h
  rw [sense_line.q38] at he ⊢
  obtain ⟨r_1, e1, h⟩ := atA_e h
  obtain ⟨t_2, e2, h⟩ := atA_e h
  obtain ⟨t_3, e3, h⟩ := atA_e h
  obtain ⟨x_4, e4, h⟩ := atA_e h
  obtain ⟨t_24, t_24n, t_24c, e24, h⟩ := atL_e h
  obtain ⟨t_25, e25, h⟩ := atI_e h
  obtain ⟨t_26, e26, h⟩ := atI_e h
  exact ok_at [(1, (Value.pointer (some r_1))), (2, (Value.pointer (some t_2))), (3, (Value.pointer (some t_3))), (4, (Value.pointer (some x_4))), (24, (Value.slice t_24 t_24n t_24c)), (25, (Value.int .i64 t_25)), (26, (Value.int .i64 t_26))] (ok_seq (okC sense_line.c35 _ (by kernel_rfl)) (ok_seq (okC sense_line.c36 _ (by kernel_rfl)) (sense_line.o66 Z Q X1))) (puts_cons e1 (puts_cons e2 (puts_cons e3 (puts_cons e4 (puts_cons e24 (puts_cons e25 (puts_cons e26 (fun p hp => puts_nil hp)))))))) (sense_line.s67_eq Z Q X1 ρ r_1 t_2 t_3 x_4 t_24 t_24n t_24c t_25 t_26) he hr h
theorem sense_line.o69 (Z : ZT) (Q : List Value → List Value → PT) (X1 : Addr → Addr → Addr → Addr → OA → Nat → Nat → Int → Int → PT) : Ok Tryd.prog Tryd.f28.ntmps Z sense_line.c26 (sense_line.q43 Z Q X1) (sense_line.j68 Z Q X1) := by
  rw [sense_line.q34]; exact ok_block (sense_line.s67_ok Z Q X1)
theorem sense_line.o70 (Z : ZT) (Q : List Value → List Value → PT) (X1 : Addr → Addr → Addr → Addr → OA → Nat → Nat → Int → Int → PT) : Ok Tryd.prog Tryd.f28.ntmps Z sense_line.c24 (sense_line.q31 Z Q X1) (sense_line.j68 Z Q X1) := by
  rw [sense_line.q28]; exact ok_seq (sense_line.o69 Z Q X1) (sense_line.s29_ok Z Q X1)
def sense_line.s71 (Z : ZT) (Q : List Value → List Value → PT) (X1 : Addr → Addr → Addr → Addr → OA → Nat → Nat → Int → Int → PT) (r_1 : Addr) (t_2 : Addr) (t_3 : Addr) (x_4 : Addr) (t_24 : OA) (t_24n t_24c : Nat) (t_25 : Int) (t_26 : Int) : PT :=
  (pif (decide (t_26 < t_25)) (sense_line.s67 Z Q X1 r_1 t_2 t_3 x_4 t_24 t_24n t_24c t_25 t_26) (sense_line.s9 Z Q t_2 t_3 x_4))
theorem sense_line.s71_eq (Z : ZT) (Q : List Value → List Value → PT) (X1 : Addr → Addr → Addr → Addr → OA → Nat → Nat → Int → Int → PT) (ρ : Fr) (r_1 : Addr) (t_2 : Addr) (t_3 : Addr) (x_4 : Addr) (t_24 : OA) (t_24n t_24c : Nat) (t_25 : Int) (t_26 : Int) : (comp Tryd.prog Z sense_line.c22 (thenK (comp Tryd.prog Z sense_line.c23 (thenK (sense_line.j68 Z Q X1) (sense_line.q31 Z Q X1))) (sense_line.q31 Z Q X1))) (puts ρ [(1, (Value.pointer (some r_1))), (2, (Value.pointer (some t_2))), (3, (Value.pointer (some t_3))), (4, (Value.pointer (some x_4))), (24, (Value.slice t_24 t_24n t_24c)), (25, (Value.int .i64 t_25)), (26, (Value.int .i64 t_26))]) = sense_line.s71 Z Q X1 r_1 t_2 t_3 x_4 t_24 t_24n t_24c t_25 t_26 := by kernel_rfl
def sense_line.j72 (Z : ZT) (Q : List Value → List Value → PT) (X1 : Addr → Addr → Addr → Addr → OA → Nat → Nat → Int → Int → PT) : Fr → PT := (fun ρ => atA (ρ 1) fun r_1 => atA (ρ 2) fun t_2 => atA (ρ 3) fun t_3 => atA (ρ 4) fun x_4 => atL (ρ 24) fun t_24 t_24n t_24c => atI .i64 (ρ 25) fun t_25 => atI .i64 (ρ 26) fun t_26 => (sense_line.s71 Z Q X1 r_1 t_2 t_3 x_4 t_24 t_24n t_24c t_25 t_26))
theorem sense_line.s71_ok (Z : ZT) (Q : List Value → List Value → PT) (X1 : Addr → Addr → Addr → Addr → OA → Nat → Nat → Int → Int → PT) : Ok Tryd.prog Tryd.f28.ntmps Z sense_line.c17 (sense_line.q31 Z Q X1) (sense_line.j72 Z Q X1) := by
  intro E he ρ w a hr h
  rw [sense_line.q25] at he ⊢
  obtain ⟨r_1, e1, h⟩ := atA_e h
  obtain ⟨t_2, e2, h⟩ := atA_e h
  obtain ⟨t_3, e3, h⟩ := atA_e h
  obtain ⟨x_4, e4, h⟩ := atA_e h
  obtain ⟨t_24, t_24n, t_24c, e24, h⟩ := atL_e h
  obtain ⟨t_25, e25, h⟩ := atI_e h
  obtain ⟨t_26, e26, h⟩ := atI_e h
  exact ok_at [(1, (Value.pointer (some r_1))), (2, (Value.pointer (some t_2))), (3, (Value.pointer (some t_3))), (4, (Value.pointer (some x_4))), (24, (Value.slice t_24 t_24n t_24c)), (25, (Value.int .i64 t_25)), (26, (Value.int .i64 t_26))] (ok_seq (okC sense_line.c22 _ (by kernel_rfl)) (ok_seq (okC sense_line.c23 _ (by kernel_rfl)) (sense_line.o70 Z Q X1))) (puts_cons e1 (puts_cons e2 (puts_cons e3 (puts_cons e4 (puts_cons e24 (puts_cons e25 (puts_cons e26 (fun p hp => puts_nil hp)))))))) (sense_line.s71_eq Z Q X1 ρ r_1 t_2 t_3 x_4 t_24 t_24n t_24c t_25 t_26) he hr h
def sense_line.l19 (Z : ZT) (Q : List Value → List Value → PT) : Nat → Addr → Addr → Addr → Addr → OA → Nat → Nat → Int → Int → PT
  | 0, _, _, _, _, _, _, _, _, _ => bad
  | k + 1, r_1, t_2, t_3, x_4, t_24, t_24n, t_24c, t_25, t_26 => (sense_line.s71 Z Q (sense_line.l19 Z Q k) r_1 t_2 t_3 x_4 t_24 t_24n t_24c t_25 t_26)
def sense_line.j73 (Z : ZT) (Q : List Value → List Value → PT) (k : Nat) : Fr → PT := (fun ρ => atA (ρ 1) fun r_1 => atA (ρ 2) fun t_2 => atA (ρ 3) fun t_3 => atA (ρ 4) fun x_4 => atL (ρ 24) fun t_24 t_24n t_24c => atI .i64 (ρ 25) fun t_25 => atI .i64 (ρ 26) fun t_26 => (sense_line.l19 Z Q k r_1 t_2 t_3 x_4 t_24 t_24n t_24c t_25 t_26))
def sense_line.j74 (Z : ZT) (Q : List Value → List Value → PT) : Fr → PT := (fun ρ => atA (ρ 1) fun r_1 => atA (ρ 2) fun t_2 => atA (ρ 3) fun t_3 => atA (ρ 4) fun x_4 => atL (ρ 24) fun t_24 t_24n t_24c => atI .i64 (ρ 25) fun t_25 => atI .i64 (ρ 26) fun t_26 => (exK fun k => sense_line.l19 Z Q k r_1 t_2 t_3 x_4 t_24 t_24n t_24c t_25 t_26))
theorem sense_line.o75 (Z : ZT) (Q : List Value → List Value → PT) : Ok Tryd.prog Tryd.f28.ntmps Z sense_line.c15 (sense_line.q21 Z Q) (sense_line.j74 Z Q) := by
  rw [sense_line.q18]
  refine Ok.imp (ok_loop (J := sense_line.j73 Z Q) ?_ ?_) ?_
  · intro ρ w h
    obtain ⟨r_1, e1, h⟩ := atA_e h
    obtain ⟨t_2, e2, h⟩ := atA_e h
    obtain ⟨t_3, e3, h⟩ := atA_e h
    obtain ⟨x_4, e4, h⟩ := atA_e h
    obtain ⟨t_24, t_24n, t_24c, e24, h⟩ := atL_e h
    obtain ⟨t_25, e25, h⟩ := atI_e h
    obtain ⟨t_26, e26, h⟩ := atI_e h
    exact h
  · intro k
    refine Ok.imp (sense_line.s71_ok Z Q (sense_line.l19 Z Q k)) fun ρ w h => ?_
    obtain ⟨r_1, e1, h⟩ := atA_e h
    obtain ⟨t_2, e2, h⟩ := atA_e h
    obtain ⟨t_3, e3, h⟩ := atA_e h
    obtain ⟨x_4, e4, h⟩ := atA_e h
    obtain ⟨t_24, t_24n, t_24c, e24, h⟩ := atL_e h
    obtain ⟨t_25, e25, h⟩ := atI_e h
    obtain ⟨t_26, e26, h⟩ := atI_e h
    show (sense_line.j72 Z Q (sense_line.l19 Z Q k)) ρ w
    simp only [sense_line.j72]
    rw [e1]
    rw [e2]
    rw [e3]
    rw [e4]
    rw [e24]
    rw [e25]
    rw [e26]
    exact h
  · intro ρ w h
    obtain ⟨r_1, e1, h⟩ := atA_e h
    obtain ⟨t_2, e2, h⟩ := atA_e h
    obtain ⟨t_3, e3, h⟩ := atA_e h
    obtain ⟨x_4, e4, h⟩ := atA_e h
    obtain ⟨t_24, t_24n, t_24c, e24, h⟩ := atL_e h
    obtain ⟨t_25, e25, h⟩ := atI_e h
    obtain ⟨t_26, e26, h⟩ := atI_e h
    obtain ⟨k, h⟩ := h
    refine ⟨k, ?_⟩
    show (atA (ρ 1) fun r_1 => atA (ρ 2) fun t_2 => atA (ρ 3) fun t_3 => atA (ρ 4) fun x_4 => atL (ρ 24) fun t_24 t_24n t_24c => atI .i64 (ρ 25) fun t_25 => atI .i64 (ρ 26) fun t_26 => (sense_line.l19 Z Q k r_1 t_2 t_3 x_4 t_24 t_24n t_24c t_25 t_26)) w
    rw [e1]
    rw [e2]
    rw [e3]
    rw [e4]
    rw [e24]
    rw [e25]
    rw [e26]
    exact h
theorem sense_line.o76 (Z : ZT) (Q : List Value → List Value → PT) : Ok Tryd.prog Tryd.f28.ntmps Z sense_line.c13 (sense_line.q20 Z Q) (sense_line.j74 Z Q) := by
  rw [sense_line.q16]; exact ok_block (sense_line.o75 Z Q)
def sense_line.s77 (Z : ZT) (Q : List Value → List Value → PT) (r_1 : Addr) (t_2 : Addr) (t_3 : Addr) (x_4 : Addr) : PT :=
  (ldL (r_1.add 4) fun v130 v130n v130c => (exK fun k => sense_line.l19 Z Q k r_1 t_2 t_3 x_4 v130 v130n v130c ((v130n : Nat) : Int) 0))
theorem sense_line.s77_eq (Z : ZT) (Q : List Value → List Value → PT) (ρ : Fr) (r_1 : Addr) (t_2 : Addr) (t_3 : Addr) (x_4 : Addr) : (comp Tryd.prog Z sense_line.c12 (thenK (sense_line.j74 Z Q) (sense_line.q20 Z Q))) (puts ρ [(1, (Value.pointer (some r_1))), (2, (Value.pointer (some t_2))), (3, (Value.pointer (some t_3))), (4, (Value.pointer (some x_4)))]) = sense_line.s77 Z Q r_1 t_2 t_3 x_4 := by kernel_rfl
def sense_line.j78 (Z : ZT) (Q : List Value → List Value → PT) : Fr → PT := (fun ρ => atA (ρ 1) fun r_1 => atA (ρ 2) fun t_2 => atA (ρ 3) fun t_3 => atA (ρ 4) fun x_4 => (sense_line.s77 Z Q r_1 t_2 t_3 x_4))
theorem sense_line.s77_ok (Z : ZT) (Q : List Value → List Value → PT) : Ok Tryd.prog Tryd.f28.ntmps Z sense_line.c6 (sense_line.q20 Z Q) (sense_line.j78 Z Q) := by
  intro E he ρ w a hr h
  rw [sense_line.q14] at he ⊢
  obtain ⟨r_1, e1, h⟩ := atA_e h
  obtain ⟨t_2, e2, h⟩ := atA_e h
  obtain ⟨t_3, e3, h⟩ := atA_e h
  obtain ⟨x_4, e4, h⟩ := atA_e h
  exact ok_at [(1, (Value.pointer (some r_1))), (2, (Value.pointer (some t_2))), (3, (Value.pointer (some t_3))), (4, (Value.pointer (some x_4)))] (ok_seq (okC sense_line.c12 _ (by kernel_rfl)) (sense_line.o76 Z Q)) (puts_cons e1 (puts_cons e2 (puts_cons e3 (puts_cons e4 (fun p hp => puts_nil hp))))) (sense_line.s77_eq Z Q ρ r_1 t_2 t_3 x_4) he hr h
theorem sense_line.o79 (Z : ZT) (Q : List Value → List Value → PT) : Ok Tryd.prog Tryd.f28.ntmps Z sense_line.c4 (sense_line.q10 Z Q) (sense_line.j78 Z Q) := by
  rw [sense_line.q8]; exact ok_seq (sense_line.s77_ok Z Q) (sense_line.s9_ok Z Q)
def sense_line.s80 (Z : ZT) (Q : List Value → List Value → PT) (r_0 : List Value) : PT :=
  (newC 52 r_0 fun r131 => (newC 35 [(Value.bool false), (Value.int .i64 0), (Value.int .u32 0), (Value.int .i64 0), (Value.int .u32 0), (Value.int .i64 0), (Value.int .i64 0), (Value.int .i64 0), (Value.int .i64 0), (Value.int .i64 0), (Value.int .i64 0), (Value.int .i64 0)] fun v132 => (newC 57 [(Value.int .i64 0), (Value.int .i64 0)] fun v133 => (ldI .i64 ((r131.add 2).add 0) fun v134 => (newC 35 [(Value.bool false), (Value.int .i64 0), (Value.int .u32 0), (Value.int .i64 0), (Value.int .u32 0), (Value.int .i64 0), (Value.int .i64 0), (Value.int .i64 0), (Value.int .i64 0), (Value.int .i64 0), (Value.int .i64 0), (Value.int .i64 0)] fun x135 => (stN 12 x135 [(Value.bool false), (Value.int .i64 v134), (Value.int .u32 0), (Value.int .i64 0), (Value.int .u32 0), (Value.int .i64 0), (Value.int .i64 0), (Value.int .i64 65535), (Value.int .i64 0), (Value.int .i64 65535), (Value.int .i64 (-1)), (Value.int .i64 0)] (ldN 2 (r131.add 2) fun v136 => (cal Tryd.prog Z 29 [(Value.agg ⟨v136⟩), (Value.int .i64 0), (Value.int .i64 65535)] (isN fun v137 => (newC 57 [(Value.int .i64 0), (Value.int .i64 0)] fun f138 => (stN 2 f138 v137 (ldI .i64 (f138.add 0) fun v139 => (pif (v139 != 0) (drawn fun S140 => (hN S140 12 x135 fun v141 => (hN S140 2 f138 fun v142 => (stN 12 v132 v141 (sAnd S140 (stN 2 v133 v142 (ldN 12 v132 fun v143 => (ldN 2 v133 fun v144 => (Q v143 v144))))))))) (sense_line.s77 Z Q r131 v132 v133 x135))))))))))))))
theorem sense_line.s80_eq (Z : ZT) (Q : List Value → List Value → PT) (ρ : Fr) (r_0 : List Value) : (comp Tryd.prog Z sense_line.c1 (thenK (comp Tryd.prog Z sense_line.c2 (thenK (comp Tryd.prog Z sense_line.c3 (thenK (sense_line.j78 Z Q) (sense_line.q10 Z Q))) (sense_line.q10 Z Q))) (sense_line.q10 Z Q))) (puts ρ [(0, (Value.agg ⟨r_0⟩))]) = sense_line.s80 Z Q r_0 := by kernel_rfl
def sense_line.j81 (Z : ZT) (Q : List Value → List Value → PT) : Fr → PT := (fun ρ => atN (ρ 0) fun r_0 => (sense_line.s80 Z Q r_0))
theorem sense_line.s80_ok (Z : ZT) (Q : List Value → List Value → PT) : Ok Tryd.prog Tryd.f28.ntmps Z sense_line.body (sense_line.q10 Z Q) (sense_line.j81 Z Q) := by
  intro E he ρ w a hr h
  rw [sense_line.q5] at he ⊢
  obtain ⟨r_0, e0, h⟩ := atN_e h
  exact ok_at [(0, (Value.agg ⟨r_0⟩))] (ok_seq (okC sense_line.c1 _ (by kernel_rfl)) (ok_seq (okC sense_line.c2 _ (by kernel_rfl)) (ok_seq (okC sense_line.c3 _ (by kernel_rfl)) (sense_line.o79 Z Q)))) (puts_cons e0 (fun p hp => puts_nil hp)) (sense_line.s80_eq Z Q ρ r_0) he hr h
def sense_line.F (Z : ZT) (Q : List Value → List Value → PT) (r_0 : List Value) : PT :=
  (sense_line.s80 Z Q r_0)
theorem sense_line.vc (Z : ZT) (Q : List Value → List Value → PT) (r_0 : List Value) (w : World) (h : sense_line.F Z Q r_0 w) : Calls Tryd.prog 28 ⟨[(Value.agg ⟨r_0⟩)]⟩ w fun e w' => (∃ (r0 : List Value) (r1 : List Value), e = .returned (.tuple #[.agg ⟨r0⟩, .agg ⟨r1⟩]) ∧ Q r0 r1 w') ∨ ∃ c, e = .panicked c ∧ Z c w' := by
  refine (calls_of_ok (args := [(Value.agg ⟨r_0⟩)]) (w := w) (rs := [.cell 2 35, .cell 3 57]) (fn := Tryd.f28) (c := sense_line.body) Tryd.func28 (by kernel_rfl) (by kernel_rfl) (Nat.le_of_ble_eq_true (by kernel_rfl)) (sense_line.s80_ok Z Q) (h)).mono fun e w' hR => ?_
  cases e with
  | returned v =>
    obtain ⟨x, y, rfl, hR⟩ := at2_e hR
    obtain ⟨xa, rfl, hR⟩ := atN_e hR
    obtain ⟨ya, rfl, hR⟩ := atN_e hR
    exact .inl ⟨xa, ya, rfl, hR⟩
  | panicked c => exact .inr ⟨c, rfl, hR⟩
  | outgrown => exact hR.elim
theorem sense_line.vc0 (Q : List Value → List Value → PT) (r_0 : List Value) (w : World) (h : sense_line.F Z0 Q r_0 w) : Calls Tryd.prog 28 ⟨[(Value.agg ⟨r_0⟩)]⟩ w fun e w' => (∃ (r0 : List Value) (r1 : List Value), e = .returned (.tuple #[.agg ⟨r0⟩, .agg ⟨r1⟩]) ∧ Q r0 r1 w') :=
  (sense_line.vc Z0 Q r_0 w h).mono fun _ _ hR => hR.elim id fun ⟨_, _, hz⟩ => hz.elim
theorem sense_line.cal {Z : ZT} {Q : List Value → List Value → PT} {r_0 : List Value} {w : World} (h : sense_line.F Z Q r_0 w) : Go.Proofs.YtllgjjldnnmjkaaDoor.cal Tryd.prog Z 28 [(Value.agg ⟨r_0⟩)] (isT2 fun x y => (isN fun r0 => (isN fun r1 => Q r0 r1) y) x) w := by
  refine (sense_line.vc Z Q r_0 w h).mono fun e w' hR => ?_
  rcases hR with ⟨r0, r1, rfl, h⟩ | ⟨c, rfl, h⟩
  · show (isT2 fun x y => (isN fun r0 => (isN fun r1 => Q r0 r1) y) x) (.tuple #[.agg ⟨r0⟩, .agg ⟨r1⟩]) w'
    exact ⟨_, _, rfl, ⟨_, rfl, ⟨_, rfl, h⟩⟩⟩
  · exact h

/-! ### milepost/sense.Check: function 16 -/
noncomputable def sense_Check.body : Code := bodyC Tryd.f16
noncomputable def sense_Check.c1 : Code := sq1 sense_Check.body
noncomputable def sense_Check.c2 : Code := sq1 (sq2 sense_Check.body)
noncomputable def sense_Check.c3 : Code := sq1 (sq2 (sq2 sense_Check.body))
noncomputable def sense_Check.c4 : Code := sq2 (sq2 (sq2 sense_Check.body))
theorem sense_Check.q5 : sense_Check.body = .seq sense_Check.c1 (.seq sense_Check.c2 (.seq sense_Check.c3 sense_Check.c4)) := by kernel_rfl
noncomputable def sense_Check.c6 : Code := sq1 sense_Check.c4
noncomputable def sense_Check.c7 : Code := sq2 sense_Check.c4
theorem sense_Check.q8 : sense_Check.c4 = .seq sense_Check.c6 sense_Check.c7 := by kernel_rfl
def sense_Check.s9 (Z : ZT) (Q : OA → Nat → Nat → Int → Int → PT) (size_1 : Int) (out_7 : OA) (out_7n out_7c : Nat) (had_8 : Bool) : PT :=
  (pif (!had_8) (Q none 0 0 11 size_1) (Q out_7 out_7n out_7c 0 0))
def sense_Check.q10 (Z : ZT) (Q : OA → Nat → Nat → Int → Int → PT) : QF := bodyQ Tryd.prog [.tmp 4, .tmp 5, .tmp 6] (fun v => at3 v fun x y z => atL x fun xa xn xc => atI .i64 y fun ya => atI .i64 z fun za => Q xa xn xc ya za)
theorem sense_Check.s9_eq (Z : ZT) (Q : OA → Nat → Nat → Int → Int → PT) (ρ : Fr) (size_1 : Int) (out_7 : OA) (out_7n out_7c : Nat) (had_8 : Bool) : comp Tryd.prog Z sense_Check.c7 (sense_Check.q10 Z Q) (puts ρ [(1, (Value.int .i64 size_1)), (7, (Value.slice out_7 out_7n out_7c)), (8, (Value.bool had_8))]) = sense_Check.s9 Z Q size_1 out_7 out_7n out_7c had_8 := by kernel_rfl
def sense_Check.j11 (Z : ZT) (Q : OA → Nat → Nat → Int → Int → PT) : Fr → PT := (fun ρ => atI .i64 (ρ 1) fun size_1 => atL (ρ 7) fun out_7 out_7n out_7c => atB (ρ 8) fun had_8 => (sense_Check.s9 Z Q size_1 out_7 out_7n out_7c had_8))
theorem sense_Check.s9_ok (Z : ZT) (Q : OA → Nat → Nat → Int → Int → PT) : Ok Tryd.prog Tryd.f16.ntmps Z sense_Check.c7 (sense_Check.q10 Z Q) (sense_Check.j11 Z Q) := by
  intro E he ρ w a hr h
  obtain ⟨size_1, e1, h⟩ := atI_e h
  obtain ⟨out_7, out_7n, out_7c, e7, h⟩ := atL_e h
  obtain ⟨had_8, e8, h⟩ := atB_e h
  exact ok_at [(1, (Value.int .i64 size_1)), (7, (Value.slice out_7 out_7n out_7c)), (8, (Value.bool had_8))] (okC sense_Check.c7 (sense_Check.q10 Z Q) (by kernel_rfl)) (puts_cons e1 (puts_cons e7 (puts_cons e8 (fun p hp => puts_nil hp)))) (sense_Check.s9_eq Z Q ρ size_1 out_7 out_7n out_7c had_8) he hr h
noncomputable def sense_Check.c12 : Code := sq1 sense_Check.c6
noncomputable def sense_Check.c13 : Code := sq2 sense_Check.c6
theorem sense_Check.q14 : sense_Check.c6 = .seq sense_Check.c12 sense_Check.c13 := by kernel_rfl
noncomputable def sense_Check.c15 : Code := blk sense_Check.c13
theorem sense_Check.q16 : sense_Check.c13 = .block 0 sense_Check.c15 := by kernel_rfl
noncomputable def sense_Check.c17 : Code := lop sense_Check.c15
theorem sense_Check.q18 : sense_Check.c15 = .loop sense_Check.c17 := by kernel_rfl
def sense_Check.q20 (Z : ZT) (Q : OA → Nat → Nat → Int → Int → PT) : QF := thenK (sense_Check.j11 Z Q) (sense_Check.q10 Z Q)
def sense_Check.q21 (Z : ZT) (Q : OA → Nat → Nat → Int → Int → PT) : QF := inBl 0 (sense_Check.q20 Z Q)
noncomputable def sense_Check.c22 : Code := sq1 sense_Check.c17
noncomputable def sense_Check.c23 : Code := sq1 (sq2 sense_Check.c17)
noncomputable def sense_Check.c24 : Code := sq2 (sq2 sense_Check.c17)
theorem sense_Check.q25 : sense_Check.c17 = .seq sense_Check.c22 (.seq sense_Check.c23 sense_Check.c24) := by kernel_rfl
noncomputable def sense_Check.c26 : Code := sq1 sense_Check.c24
noncomputable def sense_Check.c27 : Code := sq2 sense_Check.c24
theorem sense_Check.q28 : sense_Check.c24 = .seq sense_Check.c26 sense_Check.c27 := by kernel_rfl
def sense_Check.s29 (Z : ZT) (Q : OA → Nat → Nat → Int → Int → PT) (X1 : Int → OA → Nat → Nat → Bool → OA → Nat → Nat → Int → Int → PT) (size_1 : Int) (out_7 : OA) (out_7n out_7c : Nat) (had_8 : Bool) (t_13 : OA) (t_13n t_13c : Nat) (t_14 : Int) (t_15 : Int) : PT :=
  (X1 size_1 out_7 out_7n out_7c had_8 t_13 t_13n t_13c t_14 (IntKind.wrap .i64 (t_15 + 1)))
def sense_Check.j30 (Z : ZT) (Q : OA → Nat → Nat → Int → Int → PT) (X1 : Int → OA → Nat → Nat → Bool → OA → Nat → Nat → Int → Int → PT) : Fr → PT := (fun ρ => atI .i64 (ρ 1) fun size_1 => atL (ρ 7) fun out_7 out_7n out_7c => atB (ρ 8) fun had_8 => atL (ρ 13) fun t_13 t_13n t_13c => atI .i64 (ρ 14) fun t_14 => atI .i64 (ρ 15) fun t_15 => (X1 size_1 out_7 out_7n out_7c had_8 t_13 t_13n t_13c t_14 t_15))
def sense_Check.q31 (Z : ZT) (Q : OA → Nat → Nat → Int → Int → PT) (X1 : Int → OA → Nat → Nat → Bool → OA → Nat → Nat → Int → Int → PT) : QF := thenK (sense_Check.j30 Z Q X1) (sense_Check.q21 Z Q)
theorem sense_Check.s29_eq (Z : ZT) (Q : OA → Nat → Nat → Int → Int → PT) (X1 : Int → OA → Nat → Nat → Bool → OA → Nat → Nat → Int → Int → PT) (ρ : Fr) (size_1 : Int) (out_7 : OA) (out_7n out_7c : Nat) (had_8 : Bool) (t_13 : OA) (t_13n t_13c : Nat) (t_14 : Int) (t_15 : Int) : comp Tryd.prog Z sense_Check.c27 (sense_Check.q31 Z Q X1) (puts ρ [(1, (Value.int .i64 size_1)), (7, (Value.slice out_7 out_7n out_7c)), (8, (Value.bool had_8)), (13, (Value.slice t_13 t_13n t_13c)), (14, (Value.int .i64 t_14)), (15, (Value.int .i64 t_15))]) = sense_Check.s29 Z Q X1 size_1 out_7 out_7n out_7c had_8 t_13 t_13n t_13c t_14 t_15 := by kernel_rfl
def sense_Check.j32 (Z : ZT) (Q : OA → Nat → Nat → Int → Int → PT) (X1 : Int → OA → Nat → Nat → Bool → OA → Nat → Nat → Int → Int → PT) : Fr → PT := (fun ρ => atI .i64 (ρ 1) fun size_1 => atL (ρ 7) fun out_7 out_7n out_7c => atB (ρ 8) fun had_8 => atL (ρ 13) fun t_13 t_13n t_13c => atI .i64 (ρ 14) fun t_14 => atI .i64 (ρ 15) fun t_15 => (sense_Check.s29 Z Q X1 size_1 out_7 out_7n out_7c had_8 t_13 t_13n t_13c t_14 t_15))
theorem sense_Check.s29_ok (Z : ZT) (Q : OA → Nat → Nat → Int → Int → PT) (X1 : Int → OA → Nat → Nat → Bool → OA → Nat → Nat → Int → Int → PT) : Ok Tryd.prog Tryd.f16.ntmps Z sense_Check.c27 (sense_Check.q31 Z Q X1) (sense_Check.j32 Z Q X1) := by
  intro E he ρ w a hr h
  obtain ⟨size_1, e1, h⟩ := atI_e h
  obtain ⟨out_7, out_7n, out_7c, e7, h⟩ := atL_e h
  obtain ⟨had_8, e8, h⟩ := atB_e h
  obtain ⟨t_13, t_13n, t_13c, e13, h⟩ := atL_e h
  obtain ⟨t_14, e14, h⟩ := atI_e h
  obtain ⟨t_15, e15, h⟩ := atI_e h
  exact ok_at [(1, (Value.int .i64 size_1)), (7, (Value.slice out_7 out_7n out_7c)), (8, (Value.bool had_8)), (13, (Value.slice t_13 t_13n t_13c)), (14, (Value.int .i64 t_14)), (15, (Value.int .i64 t_15))] (okC sense_Check.c27 (sense_Check.q31 Z Q X1) (by kernel_rfl)) (puts_cons e1 (puts_cons e7 (puts_cons e8 (puts_cons e13 (puts_cons e14 (puts_cons e15 (fun p hp => puts_nil hp))))))) (sense_Check.s29_eq Z Q X1 ρ size_1 out_7 out_7n out_7c had_8 t_13 t_13n t_13c t_14 t_15) he hr h
noncomputable def sense_Check.c33 : Code := blk sense_Check.c26
theorem sense_Check.q34 : sense_Check.c26 = .block 1 sense_Check.c33 := by kernel_rfl
noncomputable def sense_Check.c35 : Code := sq1 sense_Check.c33
noncomputable def sense_Check.c36 : Code := sq1 (sq2 sense_Check.c33)
noncomputable def sense_Check.c37 : Code := sq1 (sq2 (sq2 sense_Check.c33))
noncomputable def sense_Check.c38 : Code := sq2 (sq2 (sq2 sense_Check.c33))
theorem sense_Check.q39 : sense_Check.c33 = .seq sense_Check.c35 (.seq sense_Check.c36 (.seq sense_Check.c37 sense_Check.c38)) := by kernel_rfl
noncomputable def sense_Check.c40 : Code := sq1 sense_Check.c38
noncomputable def sense_Check.c41 : Code := sq2 sense_Check.c38
theorem sense_Check.q42 : sense_Check.c38 = .seq sense_Check.c40 sense_Check.c41 := by kernel_rfl
noncomputable def sense_Check.c43 : Code := sq1 sense_Check.c41
noncomputable def sense_Check.c44 : Code := sq2 sense_Check.c41
theorem sense_Check.q45 : sense_Check.c41 = .seq sense_Check.c43 sense_Check.c44 := by kernel_rfl
def sense_Check.s46 (Z : ZT) (Q : OA → Nat → Nat → Int → Int → PT) (X1 : Int → OA → Nat → Nat → Bool → OA → Nat → Nat → Int → Int → PT) (size_1 : Int) (out_7 : OA) (out_7n out_7c : Nat) (had_8 : Bool) (x_11 : Addr) (f_12 : Addr) (t_13 : OA) (t_13n t_13c : Nat) (t_14 : Int) (t_15 : Int) : PT :=
  (ldI .i64 (f_12.add 0) fun v116 => (pif (v116 != 0) (drew0 (ldI .i64 (f_12.add 0) fun v117 => (ldI .i64 (f_12.add 1) fun v118 => (Q none 0 0 v117 v118)))) (ldN 12 x_11 fun v119 => (cnd (List.length v119 = 12) (newC 35 (v119 ++ ([])) fun v120 => (runL Tryd.prog (bi .append #[23, 23] 23 [false, false] [(Value.slice out_7 out_7n out_7c), (Value.slice (some v120) 1 1)]) fun v121 v121n v121c => (sense_Check.s29 Z Q X1 size_1 v121 v121n v121c had_8 t_13 t_13n t_13c t_14 t_15)))))))
def sense_Check.q47 (Z : ZT) (Q : OA → Nat → Nat → Int → Int → PT) (X1 : Int → OA → Nat → Nat → Bool → OA → Nat → Nat → Int → Int → PT) : QF := thenK (sense_Check.j32 Z Q X1) (sense_Check.q31 Z Q X1)
def sense_Check.q48 (Z : ZT) (Q : OA → Nat → Nat → Int → Int → PT) (X1 : Int → OA → Nat → Nat → Bool → OA → Nat → Nat → Int → Int → PT) : QF := inBl 1 (sense_Check.q47 Z Q X1)
theorem sense_Check.s46_eq (Z : ZT) (Q : OA → Nat → Nat → Int → Int → PT) (X1 : Int → OA → Nat → Nat → Bool → OA → Nat → Nat → Int → Int → PT) (ρ : Fr) (size_1 : Int) (out_7 : OA) (out_7n out_7c : Nat) (had_8 : Bool) (x_11 : Addr) (f_12 : Addr) (t_13 : OA) (t_13n t_13c : Nat) (t_14 : Int) (t_15 : Int) : comp Tryd.prog Z sense_Check.c44 (sense_Check.q48 Z Q X1) (puts ρ [(1, (Value.int .i64 size_1)), (7, (Value.slice out_7 out_7n out_7c)), (8, (Value.bool had_8)), (11, (Value.pointer (some x_11))), (12, (Value.pointer (some f_12))), (13, (Value.slice t_13 t_13n t_13c)), (14, (Value.int .i64 t_14)), (15, (Value.int .i64 t_15))]) = sense_Check.s46 Z Q X1 size_1 out_7 out_7n out_7c had_8 x_11 f_12 t_13 t_13n t_13c t_14 t_15 := by kernel_rfl
def sense_Check.j49 (Z : ZT) (Q : OA → Nat → Nat → Int → Int → PT) (X1 : Int → OA → Nat → Nat → Bool → OA → Nat → Nat → Int → Int → PT) : Fr → PT := (fun ρ => atI .i64 (ρ 1) fun size_1 => atL (ρ 7) fun out_7 out_7n out_7c => atB (ρ 8) fun had_8 => atA (ρ 11) fun x_11 => atA (ρ 12) fun f_12 => atL (ρ 13) fun t_13 t_13n t_13c => atI .i64 (ρ 14) fun t_14 => atI .i64 (ρ 15) fun t_15 => (sense_Check.s46 Z Q X1 size_1 out_7 out_7n out_7c had_8 x_11 f_12 t_13 t_13n t_13c t_14 t_15))
theorem sense_Check.s46_ok (Z : ZT) (Q : OA → Nat → Nat → Int → Int → PT) (X1 : Int → OA → Nat → Nat → Bool → OA → Nat → Nat → Int → Int → PT) : Ok Tryd.prog Tryd.f16.ntmps Z sense_Check.c44 (sense_Check.q48 Z Q X1) (sense_Check.j49 Z Q X1) := by
  intro E he ρ w a hr h
  obtain ⟨size_1, e1, h⟩ := atI_e h
  obtain ⟨out_7, out_7n, out_7c, e7, h⟩ := atL_e h
  obtain ⟨had_8, e8, h⟩ := atB_e h
  obtain ⟨x_11, e11, h⟩ := atA_e h
  obtain ⟨f_12, e12, h⟩ := atA_e h
  obtain ⟨t_13, t_13n, t_13c, e13, h⟩ := atL_e h
  obtain ⟨t_14, e14, h⟩ := atI_e h
  obtain ⟨t_15, e15, h⟩ := atI_e h
  exact ok_at [(1, (Value.int .i64 size_1)), (7, (Value.slice out_7 out_7n out_7c)), (8, (Value.bool had_8)), (11, (Value.pointer (some x_11))), (12, (Value.pointer (some f_12))), (13, (Value.slice t_13 t_13n t_13c)), (14, (Value.int .i64 t_14)), (15, (Value.int .i64 t_15))] (okC sense_Check.c44 (sense_Check.q48 Z Q X1) (by kernel_rfl)) (puts_cons e1 (puts_cons e7 (puts_cons e8 (puts_cons e11 (puts_cons e12 (puts_cons e13 (puts_cons e14 (puts_cons e15 (fun p hp => puts_nil hp))))))))) (sense_Check.s46_eq Z Q X1 ρ size_1 out_7 out_7n out_7c had_8 x_11 f_12 t_13 t_13n t_13c t_14 t_15) he hr h
def sense_Check.s50 (Z : ZT) (Q : OA → Nat → Nat → Int → Int → PT) (X1 : Int → OA → Nat → Nat → Bool → OA → Nat → Nat → Int → Int → PT) (size_1 : Int) (out_7 : OA) (out_7n out_7c : Nat) (had_8 : Bool) (r_10 : Addr) (x_11 : Addr) (f_12 : Addr) (t_13 : OA) (t_13n t_13c : Nat) (t_14 : Int) (t_15 : Int) : PT :=
  (ldI .i64 (f_12.add 0) fun v122 => (pif (v122 == 0) (ldB (r_10.add 5) fun v123 => (pif (!v123) (ldN 2 (r_10.add 6) fun v124 => (cal Tryd.prog Z 29 [(Value.agg ⟨v124⟩), (Value.int .i64 1), (Value.int .i64 99)] (isN fun v125 => (stN 2 f_12 v125 (ldI .i64 ((r_10.add 6).add 0) fun v126 => (st1 (x_11.add 11) (Value.int .i64 v126) (sense_Check.s46 Z Q X1 size_1 out_7 out_7n out_7c had_8 x_11 f_12 t_13 t_13n t_13c t_14 t_15))))))) (sense_Check.s46 Z Q X1 size_1 out_7 out_7n out_7c had_8 x_11 f_12 t_13 t_13n t_13c t_14 t_15))) (sense_Check.s46 Z Q X1 size_1 out_7 out_7n out_7c had_8 x_11 f_12 t_13 t_13n t_13c t_14 t_15)))
theorem sense_Check.s50_eq (Z : ZT) (Q : OA → Nat → Nat → Int → Int → PT) (X1 : Int → OA → Nat → Nat → Bool → OA → Nat → Nat → Int → Int → PT) (ρ : Fr) (size_1 : Int) (out_7 : OA) (out_7n out_7c : Nat) (had_8 : Bool) (r_10 : Addr) (x_11 : Addr) (f_12 : Addr) (t_13 : OA) (t_13n t_13c : Nat) (t_14 : Int) (t_15 : Int) : (comp Tryd.prog Z sense_Check.c43 (thenK (sense_Check.j49 Z Q X1) (sense_Check.q48 Z Q X1))) (puts ρ [(1, (Value.int .i64 size_1)), (7, (Value.slice out_7 out_7n out_7c)), (8, (Value.bool had_8)), (10, (Value.pointer (some r_10))), (11, (Value.pointer (some x_11))), (12, (Value.pointer (some f_12))), (13, (Value.slice t_13 t_13n t_13c)), (14, (Value.int .i64 t_14)), (15, (Value.int .i64 t_15))]) = sense_Check.s50 Z Q X1 size_1 out_7 out_7n out_7c had_8 r_10 x_11 f_12 t_13 t_13n t_13c t_14 t_15 := by kernel_rfl
def sense_Check.j51 (Z : ZT) (Q : OA → Nat → Nat → Int → Int → PT) (X1 : Int → OA → Nat → Nat → Bool → OA → Nat → Nat → Int → Int → PT) : Fr → PT := (fun ρ => atI .i64 (ρ 1) fun size_1 => atL (ρ 7) fun out_7 out_7n out_7c => atB (ρ 8) fun had_8 => atA (ρ 10) fun r_10 => atA (ρ 11) fun x_11 => atA (ρ 12) fun f_12 => atL (ρ 13) fun t_13 t_13n t_13c => atI .i64 (ρ 14) fun t_14 => atI .i64 (ρ 15) fun t_15 => (sense_Check.s50 Z Q X1 size_1 out_7 out_7n out_7c had_8 r_10 x_11 f_12 t_13 t_13n t_13c t_14 t_15))
theorem sense_Check.s50_ok (Z : ZT) (Q : OA → Nat → Nat → Int → Int → PT) (X1 : Int → OA → Nat → Nat → Bool → OA → Nat → Nat → Int → Int → PT) : Ok Tryd.prog Tryd.f16.ntmps Z sense_Check.c41 (sense_Check.q48 Z Q X1) (sense_Check.j51 Z Q X1) := by
  intro E he ρ w a hr h
  rw [sense_Check.q45] at he ⊢
  obtain ⟨size_1, e1, h⟩ := atI_e h
  obtain ⟨out_7, out_7n, out_7c, e7, h⟩ := atL_e h
  obtain ⟨had_8, e8, h⟩ := atB_e h
  obtain ⟨r_10, e10, h⟩ := atA_e h
  obtain ⟨x_11, e11, h⟩ := atA_e h
  obtain ⟨f_12, e12, h⟩ := atA_e h
  obtain ⟨t_13, t_13n, t_13c, e13, h⟩ := atL_e h
  obtain ⟨t_14, e14, h⟩ := atI_e h
  obtain ⟨t_15, e15, h⟩ := atI_e h
  exact ok_at [(1, (Value.int .i64 size_1)), (7, (Value.slice out_7 out_7n out_7c)), (8, (Value.bool had_8)), (10, (Value.pointer (some r_10))), (11, (Value.pointer (some x_11))), (12, (Value.pointer (some f_12))), (13, (Value.slice t_13 t_13n t_13c)), (14, (Value.int .i64 t_14)), (15, (Value.int .i64 t_15))] (ok_seq (okC sense_Check.c43 _ (by kernel_rfl)) (sense_Check.s46_ok Z Q X1)) (puts_cons e1 (puts_cons e7 (puts_cons e8 (puts_cons e10 (puts_cons e11 (puts_cons e12 (puts_cons e13 (puts_cons e14 (puts_cons e15 (fun p hp => puts_nil hp)))))))))) (sense_Check.s50_eq Z Q X1 ρ size_1 out_7 out_7n out_7c had_8 r_10 x_11 f_12 t_13 t_13n t_13c t_14 t_15) he hr h
noncomputable def sense_Check.c52 : Code := blk sense_Check.c40
theorem sense_Check.q53 : sense_Check.c40 = .block 2 sense_Check.c52 := by kernel_rfl
noncomputable def sense_Check.c54 : Code := sq1 sense_Check.c52
noncomputable def sense_Check.c55 : Code := sq2 sense_Check.c52
theorem sense_Check.q56 : sense_Check.c52 = .seq sense_Check.c54 sense_Check.c55 := by kernel_rfl
noncomputable def sense_Check.c57 : Code := cn1 sense_Check.c55
noncomputable def sense_Check.c58 : Code := cn2 sense_Check.c55
theorem sense_Check.q59 : sense_Check.c55 = .cond (.tmp 25) sense_Check.c57 sense_Check.c58 := by kernel_rfl
def sense_Check.s60 (Z : ZT) (Q : OA → Nat → Nat → Int → Int → PT) (X1 : Int → OA → Nat → Nat → Bool → OA → Nat → Nat → Int → Int → PT) (size_1 : Int) (out_7 : OA) (out_7n out_7c : Nat) (had_8 : Bool) (r_10 : Addr) (x_11 : Addr) (f_12 : Addr) (t_13 : OA) (t_13n t_13c : Nat) (t_14 : Int) (t_15 : Int) : PT :=
  (ldI .i64 (r_10.add 0) fun v130 => (stN 2 f_12 [(Value.int .i64 4), (Value.int .i64 v130)] (sense_Check.s50 Z Q X1 size_1 out_7 out_7n out_7c had_8 r_10 x_11 f_12 t_13 t_13n t_13c t_14 t_15)))
def sense_Check.q61 (Z : ZT) (Q : OA → Nat → Nat → Int → Int → PT) (X1 : Int → OA → Nat → Nat → Bool → OA → Nat → Nat → Int → Int → PT) : QF := thenK (sense_Check.j51 Z Q X1) (sense_Check.q48 Z Q X1)
def sense_Check.q62 (Z : ZT) (Q : OA → Nat → Nat → Int → Int → PT) (X1 : Int → OA → Nat → Nat → Bool → OA → Nat → Nat → Int → Int → PT) : QF := inBl 2 (sense_Check.q61 Z Q X1)
theorem sense_Check.s60_eq (Z : ZT) (Q : OA → Nat → Nat → Int → Int → PT) (X1 : Int → OA → Nat → Nat → Bool → OA → Nat → Nat → Int → Int → PT) (ρ : Fr) (size_1 : Int) (out_7 : OA) (out_7n out_7c : Nat) (had_8 : Bool) (r_10 : Addr) (x_11 : Addr) (f_12 : Addr) (t_13 : OA) (t_13n t_13c : Nat) (t_14 : Int) (t_15 : Int) : comp Tryd.prog Z sense_Check.c57 (sense_Check.q62 Z Q X1) (puts ρ [(1, (Value.int .i64 size_1)), (7, (Value.slice out_7 out_7n out_7c)), (8, (Value.bool had_8)), (10, (Value.pointer (some r_10))), (11, (Value.pointer (some x_11))), (12, (Value.pointer (some f_12))), (13, (Value.slice t_13 t_13n t_13c)), (14, (Value.int .i64 t_14)), (15, (Value.int .i64 t_15))]) = sense_Check.s60 Z Q X1 size_1 out_7 out_7n out_7c had_8 r_10 x_11 f_12 t_13 t_13n t_13c t_14 t_15 := by kernel_rfl
def sense_Check.j63 (Z : ZT) (Q : OA → Nat → Nat → Int → Int → PT) (X1 : Int → OA → Nat → Nat → Bool → OA → Nat → Nat → Int → Int → PT) : Fr → PT := (fun ρ => atI .i64 (ρ 1) fun size_1 => atL (ρ 7) fun out_7 out_7n out_7c => atB (ρ 8) fun had_8 => atA (ρ 10) fun r_10 => atA (ρ 11) fun x_11 => atA (ρ 12) fun f_12 => atL (ρ 13) fun t_13 t_13n t_13c => atI .i64 (ρ 14) fun t_14 => atI .i64 (ρ 15) fun t_15 => (sense_Check.s60 Z Q X1 size_1 out_7 out_7n out_7c had_8 r_10 x_11 f_12 t_13 t_13n t_13c t_14 t_15))
theorem sense_Check.s60_ok (Z : ZT) (Q : OA → Nat → Nat → Int → Int → PT) (X1 : Int → OA → Nat → Nat → Bool → OA → Nat → Nat → Int → Int → PT) : Ok Tryd.prog Tryd.f16.ntmps Z sense_Check.c57 (sense_Check.q62 Z Q X1) (sense_Check.j63 Z Q X1) := by
  intro E he ρ w a hr h
  obtain ⟨size_1, e1, h⟩ := atI_e h
  obtain ⟨out_7, out_7n, out_7c, e7, h⟩ := atL_e h
  obtain ⟨had_8, e8, h⟩ := atB_e h
  obtain ⟨r_10, e10, h⟩ := atA_e h
  obtain ⟨x_11, e11, h⟩ := atA_e h
  obtain ⟨f_12, e12, h⟩ := atA_e h
  obtain ⟨t_13, t_13n, t_13c, e13, h⟩ := atL_e h
  obtain ⟨t_14, e14, h⟩ := atI_e h
  obtain ⟨t_15, e15, h⟩ := atI_e h
  exact ok_at [(1, (Value.int .i64 size_1)), (7, (Value.slice out_7 out_7n out_7c)), (8, (Value.bool had_8)), (10, (Value.pointer (some r_10))), (11, (Value.pointer (some x_11))), (12, (Value.pointer (some f_12))), (13, (Value.slice t_13 t_13n t_13c)), (14, (Value.int .i64 t_14)), (15, (Value.int .i64 t_15))] (okC sense_Check.c57 (sense_Check.q62 Z Q X1) (by kernel_rfl)) (puts_cons e1 (puts_cons e7 (puts_cons e8 (puts_cons e10 (puts_cons e11 (puts_cons e12 (puts_cons e13 (puts_cons e14 (puts_cons e15 (fun p hp => puts_nil hp)))))))))) (sense_Check.s60_eq Z Q X1 ρ size_1 out_7 out_7n out_7c had_8 r_10 x_11 f_12 t_13 t_13n t_13c t_14 t_15) he hr h
noncomputable def sense_Check.c64 : Code := sq1 sense_Check.c58
noncomputable def sense_Check.c65 : Code := sq2 sense_Check.c58
theorem sense_Check.q66 : sense_Check.c58 = .seq sense_Check.c64 sense_Check.c65 := by kernel_rfl
def sense_Check.s67 (Z : ZT) (Q : OA → Nat → Nat → Int → Int → PT) (X1 : Int → OA → Nat → Nat → Bool → OA → Nat → Nat → Int → Int → PT) (size_1 : Int) (out_7 : OA) (out_7n out_7c : Nat) (had_8 : Bool) (r_10 : Addr) (x_11 : Addr) (f_12 : Addr) (t_13 : OA) (t_13n t_13c : Nat) (t_14 : Int) (t_15 : Int) (t_31 : Bool) : PT :=
  (pif t_31 (ldI .i64 (r_10.add 0) fun v134 => (stN 2 f_12 [(Value.int .i64 9), (Value.int .i64 v134)] (sense_Check.s50 Z Q X1 size_1 out_7 out_7n out_7c had_8 r_10 x_11 f_12 t_13 t_13n t_13c t_14 t_15))) (ldB (r_10.add 1) fun v135 => (pif v135 (st1 (x_11.add 0) (Value.bool true) (sense_Check.s50 Z Q X1 size_1 out_7 out_7n out_7c true r_10 x_11 f_12 t_13 t_13n t_13c t_14 t_15)) (ldN 8 r_10 fun v136 => (cal Tryd.prog Z 28 [(Value.agg ⟨v136⟩)] (isT2 fun t137 t138 => (isN fun v139 => ((isN fun v140 => (stN 12 x_11 v139 (stN 2 f_12 v140 (sense_Check.s50 Z Q X1 size_1 out_7 out_7n out_7c had_8 r_10 x_11 f_12 t_13 t_13n t_13c t_14 t_15)))) t138)) t137))))))
theorem sense_Check.s67_eq (Z : ZT) (Q : OA → Nat → Nat → Int → Int → PT) (X1 : Int → OA → Nat → Nat → Bool → OA → Nat → Nat → Int → Int → PT) (ρ : Fr) (size_1 : Int) (out_7 : OA) (out_7n out_7c : Nat) (had_8 : Bool) (r_10 : Addr) (x_11 : Addr) (f_12 : Addr) (t_13 : OA) (t_13n t_13c : Nat) (t_14 : Int) (t_15 : Int) (t_31 : Bool) : comp Tryd.prog Z sense_Check.c65 (sense_Check.q62 Z Q X1) (puts ρ [(1, (Value.int .i64 size_1)), (7, (Value.slice out_7 out_7n out_7c)), (8, (Value.bool had_8)), (10, (Value.pointer (some r_10))), (11, (Value.pointer (some x_11))), (12, (Value.pointer (some f_12))), (13, (Value.slice t_13 t_13n t_13c)), (14, (Value.int .i64 t_14)), (15, (Value.int .i64 t_15)), (31, (Value.bool t_31))]) = sense_Check.s67 Z Q X1 size_1 out_7 out_7n out_7c had_8 r_10 x_11 f_12 t_13 t_13n t_13c t_14 t_15 t_31 := by kernel_rfl
def sense_Check.j68 (Z : ZT) (Q : OA → Nat → Nat → Int → Int → PT) (X1 : Int → OA → Nat → Nat → Bool → OA → Nat → Nat → Int → Int → PT) : Fr → PT := (fun ρ => atI .i64 (ρ 1) fun size_1 => atL (ρ 7) fun out_7 out_7n out_7c => atB (ρ 8) fun had_8 => atA (ρ 10) fun r_10 => atA (ρ 11) fun x_11 => atA (ρ 12) fun f_12 => atL (ρ 13) fun t_13 t_13n t_13c => atI .i64 (ρ 14) fun t_14 => atI .i64 (ρ 15) fun t_15 => atB (ρ 31) fun t_31 => (sense_Check.s67 Z Q X1 size_1 out_7 out_7n out_7c had_8 r_10 x_11 f_12 t_13 t_13n t_13c t_14 t_15 t_31))
theorem sense_Check.s67_ok (Z : ZT) (Q : OA → Nat → Nat → Int → Int → PT) (X1 : Int → OA → Nat → Nat → Bool → OA → Nat → Nat → Int → Int → PT) : Ok Tryd.prog Tryd.f16.ntmps Z sense_Check.c65 (sense_Check.q62 Z Q X1) (sense_Check.j68 Z Q X1) := by
  intro E he ρ w a hr h
  obtain ⟨size_1, e1, h⟩ := atI_e h
  obtain ⟨out_7, out_7n, out_7c, e7, h⟩ := atL_e h
  obtain ⟨had_8, e8, h⟩ := atB_e h
  obtain ⟨r_10, e10, h⟩ := atA_e h
  obtain ⟨x_11, e11, h⟩ := atA_e h
  obtain ⟨f_12, e12, h⟩ := atA_e h
  obtain ⟨t_13, t_13n, t_13c, e13, h⟩ := atL_e h
  obtain ⟨t_14, e14, h⟩ := atI_e h
  obtain ⟨t_15, e15, h⟩ := atI_e h
  obtain ⟨t_31, e31, h⟩ := atB_e h
  exact ok_at [(1, (Value.int .i64 size_1)), (7, (Value.slice out_7 out_7n out_7c)), (8, (Value.bool had_8)), (10, (Value.pointer (some r_10))), (11, (Value.pointer (some x_11))), (12, (Value.pointer (some f_12))), (13, (Value.slice t_13 t_13n t_13c)), (14, (Value.int .i64 t_14)), (15, (Value.int .i64 t_15)), (31, (Value.bool t_31))] (okC sense_Check.c65 (sense_Check.q62 Z Q X1) (by kernel_rfl)) (puts_cons e1 (puts_cons e7 (puts_cons e8 (puts_cons e10 (puts_cons e11 (puts_cons e12 (puts_cons e13 (puts_cons e14 (puts_cons e15 (puts_cons e31 (fun p hp => puts_nil hp))))))))))) (sense_Check.s67_eq Z Q X1 ρ size_1 out_7 out_7n out_7c had_8 r_10 x_11 f_12 t_13 t_13n t_13c t_14 t_15 t_31) he hr h
def sense_Check.s69 (Z : ZT) (Q : OA → Nat → Nat → Int → Int → PT) (X1 : Int → OA → Nat → Nat → Bool → OA → Nat → Nat → Int → Int → PT) (size_1 : Int) (out_7 : OA) (out_7n out_7c : Nat) (had_8 : Bool) (r_10 : Addr) (x_11 : Addr) (f_12 : Addr) (t_13 : OA) (t_13n t_13c : Nat) (t_14 : Int) (t_15 : Int) : PT :=
  (ldB (r_10.add 1) fun v141 => (pif v141 (sense_Check.s67 Z Q X1 size_1 out_7 out_7n out_7c had_8 r_10 x_11 f_12 t_13 t_13n t_13c t_14 t_15 had_8) (sense_Check.s67 Z Q X1 size_1 out_7 out_7n out_7c had_8 r_10 x_11 f_12 t_13 t_13n t_13c t_14 t_15 false)))
theorem sense_Check.s69_eq (Z : ZT) (Q : OA → Nat → Nat → Int → Int → PT) (X1 : Int → OA → Nat → Nat → Bool → OA → Nat → Nat → Int → Int → PT) (ρ : Fr) (size_1 : Int) (out_7 : OA) (out_7n out_7c : Nat) (had_8 : Bool) (r_10 : Addr) (x_11 : Addr) (f_12 : Addr) (t_13 : OA) (t_13n t_13c : Nat) (t_14 : Int) (t_15 : Int) : (comp Tryd.prog Z sense_Check.c64 (thenK (sense_Check.j68 Z Q X1) (sense_Check.q62 Z Q X1))) (puts ρ [(1, (Value.int .i64 size_1)), (7, (Value.slice out_7 out_7n out_7c)), (8, (Value.bool had_8)), (10, (Value.pointer (some r_10))), (11, (Value.pointer (some x_11))), (12, (Value.pointer (some f_12))), (13, (Value.slice t_13 t_13n t_13c)), (14, (Value.int .i64 t_14)), (15, (Value.int .i64 t_15))]) = sense_Check.s69 Z Q X1 size_1 out_7 out_7n out_7c had_8 r_10 x_11 f_12 t_13 t_13n t_13c t_14 t_15 := by kernel_rfl
def sense_Check.j70 (Z : ZT) (Q : OA → Nat → Nat → Int → Int → PT) (X1 : Int → OA → Nat → Nat → Bool → OA → Nat → Nat → Int → Int → PT) : Fr → PT := (fun ρ => atI .i64 (ρ 1) fun size_1 => atL (ρ 7) fun out_7 out_7n out_7c => atB (ρ 8) fun had_8 => atA (ρ 10) fun r_10 => atA (ρ 11) fun x_11 => atA (ρ 12) fun f_12 => atL (ρ 13) fun t_13 t_13n t_13c => atI .i64 (ρ 14) fun t_14 => atI .i64 (ρ 15) fun t_15 => (sense_Check.s69 Z Q X1 size_1 out_7 out_7n out_7c had_8 r_10 x_11 f_12 t_13 t_13n t_13c t_14 t_15))
theorem sense_Check.s69_ok (Z : ZT) (Q : OA → Nat → Nat → Int → Int → PT) (X1 : Int → OA → Nat → Nat → Bool → OA → Nat → Nat → Int → Int → PT) : Ok Tryd.prog Tryd.f16.ntmps Z sense_Check.c58 (sense_Check.q62 Z Q X1) (sense_Check.j70 Z Q X1) := by
  intro E he ρ w a hr h
  rw [sense_Check.q66] at he ⊢
  obtain ⟨size_1, e1, h⟩ := atI_e h
  obtain ⟨out_7, out_7n, out_7c, e7, h⟩ := atL_e h
  obtain ⟨had_8, e8, h⟩ := atB_e h
  obtain ⟨r_10, e10, h⟩ := atA_e h
  obtain ⟨x_11, e11, h⟩ := atA_e h
  obtain ⟨f_12, e12, h⟩ := atA_e h
  obtain ⟨t_13, t_13n, t_13c, e13, h⟩ := atL_e h
  obtain ⟨t_14, e14, h⟩ := atI_e h
  obtain ⟨t_15, e15, h⟩ := atI_e h
  exact ok_at [(1, (Value.int .i64 size_1)), (7, (Value.slice out_7 out_7n out_7c)), (8, (Value.bool had_8)), (10, (Value.pointer (some r_10))), (11, (Value.pointer (some x_11))), (12, (Value.pointer (some f_12))), (13, (Value.slice t_13 t_13n t_13c)), (14, (Value.int .i64 t_14)), (15, (Value.int .i64 t_15))] (ok_seq (okC sense_Check.c64 _ (by kernel_rfl)) (sense_Check.s67_ok Z Q X1)) (puts_cons e1 (puts_cons e7 (puts_cons e8 (puts_cons e10 (puts_cons e11 (puts_cons e12 (puts_cons e13 (puts_cons e14 (puts_cons e15 (fun p hp => puts_nil hp)))))))))) (sense_Check.s69_eq Z Q X1 ρ size_1 out_7 out_7n out_7c had_8 r_10 x_11 f_12 t_13 t_13n t_13c t_14 t_15) he hr h
theorem sense_Check.o71 (Z : ZT) (Q : OA → Nat → Nat → Int → Int → PT) (X1 : Int → OA → Nat → Nat → Bool → OA → Nat → Nat → Int → Int → PT) : Ok Tryd.prog Tryd.f16.ntmps Z sense_Check.c55 (sense_Check.q62 Z Q X1) (condJ (.tmp 25) (sense_Check.j63 Z Q X1) (sense_Check.j70 Z Q X1)) := by
  rw [sense_Check.q59]; exact ok_cond (sense_Check.s60_ok Z Q X1) (sense_Check.s69_ok Z Q X1)
def sense_Check.s72 (Z : ZT) (Q : OA → Nat → Nat → Int → Int → PT) (X1 : Int → OA → Nat → Nat → Bool → OA → Nat → Nat → Int → Int → PT) (size_1 : Int) (out_7 : OA) (out_7n out_7c : Nat) (had_8 : Bool) (i_9 : Int) (r_10 : Addr) (x_11 : Addr) (f_12 : Addr) (t_13 : OA) (t_13n t_13c : Nat) (t_14 : Int) (t_15 : Int) : PT :=
  (pif (i_9 == 64) (sense_Check.s60 Z Q X1 size_1 out_7 out_7n out_7c had_8 r_10 x_11 f_12 t_13 t_13n t_13c t_14 t_15) (sense_Check.s69 Z Q X1 size_1 out_7 out_7n out_7c had_8 r_10 x_11 f_12 t_13 t_13n t_13c t_14 t_15))
theorem sense_Check.s72_eq (Z : ZT) (Q : OA → Nat → Nat → Int → Int → PT) (X1 : Int → OA → Nat → Nat → Bool → OA → Nat → Nat → Int → Int → PT) (ρ : Fr) (size_1 : Int) (out_7 : OA) (out_7n out_7c : Nat) (had_8 : Bool) (i_9 : Int) (r_10 : Addr) (x_11 : Addr) (f_12 : Addr) (t_13 : OA) (t_13n t_13c : Nat) (t_14 : Int) (t_15 : Int) : (comp Tryd.prog Z sense_Check.c54 (thenK (condJ (.tmp 25) (sense_Check.j63 Z Q X1) (sense_Check.j70 Z Q X1)) (sense_Check.q62 Z Q X1))) (puts ρ [(1, (Value.int .i64 size_1)), (7, (Value.slice out_7 out_7n out_7c)), (8, (Value.bool had_8)), (9, (Value.int .i64 i_9)), (10, (Value.pointer (some r_10))), (11, (Value.pointer (some x_11))), (12, (Value.pointer (some f_12))), (13, (Value.slice t_13 t_13n t_13c)), (14, (Value.int .i64 t_14)), (15, (Value.int .i64 t_15))]) = sense_Check.s72 Z Q X1 size_1 out_7 out_7n out_7c had_8 i_9 r_10 x_11 f_12 t_13 t_13n t_13c t_14 t_15 := by kernel_rfl
def sense_Check.j73 (Z : ZT) (Q : OA → Nat → Nat → Int → Int → PT) (X1 : Int → OA → Nat → Nat → Bool → OA → Nat → Nat → Int → Int → PT) : Fr → PT := (fun ρ => atI .i64 (ρ 1) fun size_1 => atL (ρ 7) fun out_7 out_7n out_7c => atB (ρ 8) fun had_8 => atI .i64 (ρ 9) fun i_9 => atA (ρ 10) fun r_10 => atA (ρ 11) fun x_11 => atA (ρ 12) fun f_12 => atL (ρ 13) fun t_13 t_13n t_13c => atI .i64 (ρ 14) fun t_14 => atI .i64 (ρ 15) fun t_15 => (sense_Check.s72 Z Q X1 size_1 out_7 out_7n out_7c had_8 i_9 r_10 x_11 f_12 t_13 t_13n t_13c t_14 t_15))
theorem sense_Check.s72_ok (Z : ZT) (Q : OA → Nat → Nat → Int → Int → PT) (X1 : Int → OA → Nat → Nat → Bool → OA → Nat → Nat → Int → Int → PT) : Ok Tryd.prog Tryd.f16.ntmps Z sense_Check.c52 (sense_Check.q62 Z Q X1) (sense_Check.j73 Z Q X1) := by
  intro E he ρ w a hr h
  rw [sense_Check.q56] at he ⊢
  obtain ⟨size_1, e1, h⟩ := atI_e h
  obtain ⟨out_7, out_7n, out_7c, e7, h⟩ := atL_e h
  obtain ⟨had_8, e8, h⟩ := atB_e h
  obtain ⟨i_9, e9, h⟩ := atI_e h
  obtain ⟨r_10, e10, h⟩ := atA_e h
  obtain ⟨x_11, e11, h⟩ := atA_e h
  obtain ⟨f_12, e12, h⟩ := atA_e h
  obtain ⟨t_13, t_13n, t_13c, e13, h⟩ := atL_e h
  obtain ⟨t_14, e14, h⟩ := atI_e h
  obtain ⟨t_15, e15, h⟩ := atI_e h
  exact ok_at [(1, (Value.int .i64 size_1)), (7, (Value.slice out_7 out_7n out_7c)), (8, (Value.bool had_8)), (9, (Value.int .i64 i_9)), (10, (Value.pointer (some r_10))), (11, (Value.pointer (some x_11))), (12, (Value.pointer (some f_12))), (13, (Value.slice t_13 t_13n t_13c)), (14, (Value.int .i64 t_14)), (15, (Value.int .i64 t_15))] (ok_seq (okC sense_Check.c54 _ (by kernel_rfl)) (sense_Check.o71 Z Q X1)) (puts_cons e1 (puts_cons e7 (puts_cons e8 (puts_cons e9 (puts_cons e10 (puts_cons e11 (puts_cons e12 (puts_cons e13 (puts_cons e14 (puts_cons e15 (fun p hp => puts_nil hp))))))))))) (sense_Check.s72_eq Z Q X1 ρ size_1 out_7 out_7n out_7c had_8 i_9 r_10 x_11 f_12 t_13 t_13n t_13c t_14 t_15) he hr h
theorem sense_Check.o74 (Z : ZT) (Q : OA → Nat → Nat → Int → Int → PT) (X1 : Int → OA → Nat → Nat → Bool → OA → Nat → Nat → Int → Int → PT) : Ok Tryd.prog Tryd.f16.ntmps Z sense_Check.c40 (sense_Check.q61 Z Q X1) (sense_Check.j73 Z Q X1) := by
  rw [sense_Check.q53]; exact ok_block (sense_Check.s72_ok Z Q X1)
theorem sense_Check.o75 (Z : ZT) (Q : OA → Nat → Nat → Int → Int → PT) (X1 : Int → OA → Nat → Nat → Bool → OA → Nat → Nat → Int → Int → PT) : Ok Tryd.prog Tryd.f16.ntmps Z sense_Check.c38 (sense_Check.q48 Z Q X1) (sense_Check.j73 Z Q X1) := by
  rw [sense_Check.q42]; exact ok_seq (sense_Check.o74 Z Q X1) (sense_Check.s50_ok Z Q X1)
def sense_Check.s76 (Z : ZT) (Q : OA → Nat → Nat → Int → Int → PT) (X1 : Int → OA → Nat → Nat → Bool → OA → Nat → Nat → Int → Int → PT) (size_1 : Int) (out_7 : OA) (out_7n out_7c : Nat) (had_8 : Bool) (t_13 : OA) (t_13n t_13c : Nat) (t_14 : Int) (t_15 : Int) : PT :=
  (ixS t_13 t_13n t_15 8 fun v142 => (ldN 8 v142 fun v143 => (newC 52 [(Value.int .i64 0), (Value.bool false), (Value.int .i64 0), (Value.int .i64 0), (Value.slice none 0 0), (Value.bool false), (Value.int .i64 0), (Value.int .i64 0)] fun r144 => (stN 8 r144 v143 (newC 35 [(Value.bool false), (Value.int .i64 0), (Value.int .u32 0), (Value.int .i64 0), (Value.int .u32 0), (Value.int .i64 0), (Value.int .i64 0), (Value.int .i64 0), (Value.int .i64 0), (Value.int .i64 0), (Value.int .i64 0), (Value.int .i64 0)] fun x145 => (newC 57 [(Value.int .i64 0), (Value.int .i64 0)] fun f146 => (sense_Check.s72 Z Q X1 size_1 out_7 out_7n out_7c had_8 t_15 r144 x145 f146 t_13 t_13n t_13c t_14 t_15)))))))
theorem sense_Check.s76_eq (Z : ZT) (Q : OA → Nat → Nat → Int → Int → PT) (X1 : Int → OA → Nat → Nat → Bool → OA → Nat → Nat → Int → Int → PT) (ρ : Fr) (size_1 : Int) (out_7 : OA) (out_7n out_7c : Nat) (had_8 : Bool) (t_13 : OA) (t_13n t_13c : Nat) (t_14 : Int) (t_15 : Int) : (comp Tryd.prog Z sense_Check.c35 (thenK (comp Tryd.prog Z sense_Check.c36 (thenK (comp Tryd.prog Z sense_Check.c37 (thenK (sense_Check.j73 Z Q X1) (sense_Check.q48 Z Q X1))) (sense_Check.q48 Z Q X1))) (sense_Check.q48 Z Q X1))) (puts ρ [(1, (Value.int .i64 size_1)), (7, (Value.slice out_7 out_7n out_7c)), (8, (Value.bool had_8)), (13, (Value.slice t_13 t_13n t_13c)), (14, (Value.int .i64 t_14)), (15, (Value.int .i64 t_15))]) = sense_Check.s76 Z Q X1 size_1 out_7 out_7n out_7c had_8 t_13 t_13n t_13c t_14 t_15 := by kernel_rfl
def sense_Check.j77 (Z : ZT) (Q : OA → Nat → Nat → Int → Int → PT) (X1 : Int → OA → Nat → Nat → Bool → OA → Nat → Nat → Int → Int → PT) : Fr → PT := (fun ρ => atI .i64 (ρ 1) fun size_1 => atL (ρ 7) fun out_7 out_7n out_7c => atB (ρ 8) fun had_8 => atL (ρ 13) fun t_13 t_13n t_13c => atI .i64 (ρ 14) fun t_14 => atI .i64 (ρ 15) fun t_15 => (sense_Check.s76 Z Q X1 size_1 out_7 out_7n out_7c had_8 t_13 t_13n t_13c t_14 t_15))
theorem sense_Check.s76_ok (Z : ZT) (Q : OA → Nat → Nat → Int → Int → PT) (X1 : Int → OA → Nat → Nat → Bool → OA → Nat → Nat → Int → Int → PT) : Ok Tryd.prog Tryd.f16.ntmps Z sense_Check.c33 (sense_Check.q48 Z Q X1) (sense_Check.j77 Z Q X1) := by
  intro E he ρ w a hr h
  rw [sense_Check.q39] at he ⊢
  obtain ⟨size_1, e1, h⟩ := atI_e h
  obtain ⟨out_7, out_7n, out_7c, e7, h⟩ := atL_e h
  obtain ⟨had_8, e8, h⟩ := atB_e h
  obtain ⟨t_13, t_13n, t_13c, e13, h⟩ := atL_e h
  obtain ⟨t_14, e14, h⟩ := atI_e h
  obtain ⟨t_15, e15, h⟩ := atI_e h
  exact ok_at [(1, (Value.int .i64 size_1)), (7, (Value.slice out_7 out_7n out_7c)), (8, (Value.bool had_8)), (13, (Value.slice t_13 t_13n t_13c)), (14, (Value.int .i64 t_14)), (15, (Value.int .i64 t_15))] (ok_seq (okC sense_Check.c35 _ (by kernel_rfl)) (ok_seq (okC sense_Check.c36 _ (by kernel_rfl)) (ok_seq (okC sense_Check.c37 _ (by kernel_rfl)) (sense_Check.o75 Z Q X1)))) (puts_cons e1 (puts_cons e7 (puts_cons e8 (puts_cons e13 (puts_cons e14 (puts_cons e15 (fun p hp => puts_nil hp))))))) (sense_Check.s76_eq Z Q X1 ρ size_1 out_7 out_7n out_7c had_8 t_13 t_13n t_13c t_14 t_15) he hr h
theorem sense_Check.o78 (Z : ZT) (Q : OA → Nat → Nat → Int → Int → PT) (X1 : Int → OA → Nat → Nat → Bool → OA → Nat → Nat → Int → Int → PT) : Ok Tryd.prog Tryd.f16.ntmps Z sense_Check.c26 (sense_Check.q47 Z Q X1) (sense_Check.j77 Z Q X1) := by
  rw [sense_Check.q34]; exact ok_block (sense_Check.s76_ok Z Q X1)
theorem sense_Check.o79 (Z : ZT) (Q : OA → Nat → Nat → Int → Int → PT) (X1 : Int → OA → Nat → Nat → Bool → OA → Nat → Nat → Int → Int → PT) : Ok Tryd.prog Tryd.f16.ntmps Z sense_Check.c24 (sense_Check.q31 Z Q X1) (sense_Check.j77 Z Q X1) := by
  rw [sense_Check.q28]; exact ok_seq (sense_Check.o78 Z Q X1) (sense_Check.s29_ok Z Q X1)
def sense_Check.s80 (Z : ZT) (Q : OA → Nat → Nat → Int → Int → PT) (X1 : Int → OA → Nat → Nat → Bool → OA → Nat → Nat → Int → Int → PT) (size_1 : Int) (out_7 : OA) (out_7n out_7c : Nat) (had_8 : Bool) (t_13 : OA) (t_13n t_13c : Nat) (t_14 : Int) (t_15 : Int) : PT :=
  (pif (decide (t_15 < t_14)) (sense_Check.s76 Z Q X1 size_1 out_7 out_7n out_7c had_8 t_13 t_13n t_13c t_14 t_15) (sense_Check.s9 Z Q size_1 out_7 out_7n out_7c had_8))
theorem sense_Check.s80_eq (Z : ZT) (Q : OA → Nat → Nat → Int → Int → PT) (X1 : Int → OA → Nat → Nat → Bool → OA → Nat → Nat → Int → Int → PT) (ρ : Fr) (size_1 : Int) (out_7 : OA) (out_7n out_7c : Nat) (had_8 : Bool) (t_13 : OA) (t_13n t_13c : Nat) (t_14 : Int) (t_15 : Int) : (comp Tryd.prog Z sense_Check.c22 (thenK (comp Tryd.prog Z sense_Check.c23 (thenK (sense_Check.j77 Z Q X1) (sense_Check.q31 Z Q X1))) (sense_Check.q31 Z Q X1))) (puts ρ [(1, (Value.int .i64 size_1)), (7, (Value.slice out_7 out_7n out_7c)), (8, (Value.bool had_8)), (13, (Value.slice t_13 t_13n t_13c)), (14, (Value.int .i64 t_14)), (15, (Value.int .i64 t_15))]) = sense_Check.s80 Z Q X1 size_1 out_7 out_7n out_7c had_8 t_13 t_13n t_13c t_14 t_15 := by kernel_rfl
def sense_Check.j81 (Z : ZT) (Q : OA → Nat → Nat → Int → Int → PT) (X1 : Int → OA → Nat → Nat → Bool → OA → Nat → Nat → Int → Int → PT) : Fr → PT := (fun ρ => atI .i64 (ρ 1) fun size_1 => atL (ρ 7) fun out_7 out_7n out_7c => atB (ρ 8) fun had_8 => atL (ρ 13) fun t_13 t_13n t_13c => atI .i64 (ρ 14) fun t_14 => atI .i64 (ρ 15) fun t_15 => (sense_Check.s80 Z Q X1 size_1 out_7 out_7n out_7c had_8 t_13 t_13n t_13c t_14 t_15))
theorem sense_Check.s80_ok (Z : ZT) (Q : OA → Nat → Nat → Int → Int → PT) (X1 : Int → OA → Nat → Nat → Bool → OA → Nat → Nat → Int → Int → PT) : Ok Tryd.prog Tryd.f16.ntmps Z sense_Check.c17 (sense_Check.q31 Z Q X1) (sense_Check.j81 Z Q X1) := by
  intro E he ρ w a hr h
  rw [sense_Check.q25] at he ⊢
  obtain ⟨size_1, e1, h⟩ := atI_e h
  obtain ⟨out_7, out_7n, out_7c, e7, h⟩ := atL_e h
  obtain ⟨had_8, e8, h⟩ := atB_e h
  obtain ⟨t_13, t_13n, t_13c, e13, h⟩ := atL_e h
  obtain ⟨t_14, e14, h⟩ := atI_e h
  obtain ⟨t_15, e15, h⟩ := atI_e h
  exact ok_at [(1, (Value.int .i64 size_1)), (7, (Value.slice out_7 out_7n out_7c)), (8, (Value.bool had_8)), (13, (Value.slice t_13 t_13n t_13c)), (14, (Value.int .i64 t_14)), (15, (Value.int .i64 t_15))] (ok_seq (okC sense_Check.c22 _ (by kernel_rfl)) (ok_seq (okC sense_Check.c23 _ (by kernel_rfl)) (sense_Check.o79 Z Q X1))) (puts_cons e1 (puts_cons e7 (puts_cons e8 (puts_cons e13 (puts_cons e14 (puts_cons e15 (fun p hp => puts_nil hp))))))) (sense_Check.s80_eq Z Q X1 ρ size_1 out_7 out_7n out_7c had_8 t_13 t_13n t_13c t_14 t_15) he hr h
def sense_Check.l19 (Z : ZT) (Q : OA → Nat → Nat → Int → Int → PT) : Nat → Int → OA → Nat → Nat → Bool → OA → Nat → Nat → Int → Int → PT
  | 0, _, _, _, _, _, _, _, _, _, _ => bad
  | k + 1, size_1, out_7, out_7n, out_7c, had_8, t_13, t_13n, t_13c, t_14, t_15 => (sense_Check.s80 Z Q (sense_Check.l19 Z Q k) size_1 out_7 out_7n out_7c had_8 t_13 t_13n t_13c t_14 t_15)
def sense_Check.j82 (Z : ZT) (Q : OA → Nat → Nat → Int → Int → PT) (k : Nat) : Fr → PT := (fun ρ => atI .i64 (ρ 1) fun size_1 => atL (ρ 7) fun out_7 out_7n out_7c => atB (ρ 8) fun had_8 => atL (ρ 13) fun t_13 t_13n t_13c => atI .i64 (ρ 14) fun t_14 => atI .i64 (ρ 15) fun t_15 => (sense_Check.l19 Z Q k size_1 out_7 out_7n out_7c had_8 t_13 t_13n t_13c t_14 t_15))
def sense_Check.j83 (Z : ZT) (Q : OA → Nat → Nat → Int → Int → PT) : Fr → PT := (fun ρ => atI .i64 (ρ 1) fun size_1 => atL (ρ 7) fun out_7 out_7n out_7c => atB (ρ 8) fun had_8 => atL (ρ 13) fun t_13 t_13n t_13c => atI .i64 (ρ 14) fun t_14 => atI .i64 (ρ 15) fun t_15 => (exK fun k => sense_Check.l19 Z Q k size_1 out_7 out_7n out_7c had_8 t_13 t_13n t_13c t_14 t_15))
theorem sense_Check.o84 (Z : ZT) (Q : OA → Nat → Nat → Int → Int → PT) : Ok Tryd.prog Tryd.f16.ntmps Z sense_Check.c15 (sense_Check.q21 Z Q) (sense_Check.j83 Z Q) := by
  rw [sense_Check.q18]
  refine Ok.imp (ok_loop (J := sense_Check.j82 Z Q) ?_ ?_) ?_
  · intro ρ w h
    obtain ⟨size_1, e1, h⟩ := atI_e h
    obtain ⟨out_7, out_7n, out_7c, e7, h⟩ := atL_e h
    obtain ⟨had_8, e8, h⟩ := atB_e h
    obtain ⟨t_13, t_13n, t_13c, e13, h⟩ := atL_e h
    obtain ⟨t_14, e14, h⟩ := atI_e h
    obtain ⟨t_15, e15, h⟩ := atI_e h
    exact h
  · intro k
    refine Ok.imp (sense_Check.s80_ok Z Q (sense_Check.l19 Z Q k)) fun ρ w h => ?_
    obtain ⟨size_1, e1, h⟩ := atI_e h
    obtain ⟨out_7, out_7n, out_7c, e7, h⟩ := atL_e h
    obtain ⟨had_8, e8, h⟩ := atB_e h
    obtain ⟨t_13, t_13n, t_13c, e13, h⟩ := atL_e h
    obtain ⟨t_14, e14, h⟩ := atI_e h
    obtain ⟨t_15, e15, h⟩ := atI_e h
    show (sense_Check.j81 Z Q (sense_Check.l19 Z Q k)) ρ w
    simp only [sense_Check.j81]
    rw [e1]
    rw [e7]
    rw [e8]
    rw [e13]
    rw [e14]
    rw [e15]
    exact h
  · intro ρ w h
    obtain ⟨size_1, e1, h⟩ := atI_e h
    obtain ⟨out_7, out_7n, out_7c, e7, h⟩ := atL_e h
    obtain ⟨had_8, e8, h⟩ := atB_e h
    obtain ⟨t_13, t_13n, t_13c, e13, h⟩ := atL_e h
    obtain ⟨t_14, e14, h⟩ := atI_e h
    obtain ⟨t_15, e15, h⟩ := atI_e h
    obtain ⟨k, h⟩ := h
    refine ⟨k, ?_⟩
    show (atI .i64 (ρ 1) fun size_1 => atL (ρ 7) fun out_7 out_7n out_7c => atB (ρ 8) fun had_8 => atL (ρ 13) fun t_13 t_13n t_13c => atI .i64 (ρ 14) fun t_14 => atI .i64 (ρ 15) fun t_15 => (sense_Check.l19 Z Q k size_1 out_7 out_7n out_7c had_8 t_13 t_13n t_13c t_14 t_15)) w
    rw [e1]
    rw [e7]
    rw [e8]
    rw [e13]
    rw [e14]
    rw [e15]
    exact h
theorem sense_Check.o85 (Z : ZT) (Q : OA → Nat → Nat → Int → Int → PT) : Ok Tryd.prog Tryd.f16.ntmps Z sense_Check.c13 (sense_Check.q20 Z Q) (sense_Check.j83 Z Q) := by
  rw [sense_Check.q16]; exact ok_block (sense_Check.o84 Z Q)
def sense_Check.s86 (Z : ZT) (Q : OA → Nat → Nat → Int → Int → PT) (l_0 : OA) (l_0n l_0c : Nat) (size_1 : Int) (out_7 : OA) (out_7n out_7c : Nat) (had_8 : Bool) : PT :=
  (exK fun k => sense_Check.l19 Z Q k size_1 out_7 out_7n out_7c had_8 l_0 l_0n l_0c ((l_0n : Nat) : Int) 0)
theorem sense_Check.s86_eq (Z : ZT) (Q : OA → Nat → Nat → Int → Int → PT) (ρ : Fr) (l_0 : OA) (l_0n l_0c : Nat) (size_1 : Int) (out_7 : OA) (out_7n out_7c : Nat) (had_8 : Bool) : (comp Tryd.prog Z sense_Check.c12 (thenK (sense_Check.j83 Z Q) (sense_Check.q20 Z Q))) (puts ρ [(0, (Value.slice l_0 l_0n l_0c)), (1, (Value.int .i64 size_1)), (7, (Value.slice out_7 out_7n out_7c)), (8, (Value.bool had_8))]) = sense_Check.s86 Z Q l_0 l_0n l_0c size_1 out_7 out_7n out_7c had_8 := by kernel_rfl
def sense_Check.j87 (Z : ZT) (Q : OA → Nat → Nat → Int → Int → PT) : Fr → PT := (fun ρ => atL (ρ 0) fun l_0 l_0n l_0c => atI .i64 (ρ 1) fun size_1 => atL (ρ 7) fun out_7 out_7n out_7c => atB (ρ 8) fun had_8 => (sense_Check.s86 Z Q l_0 l_0n l_0c size_1 out_7 out_7n out_7c had_8))
theorem sense_Check.s86_ok (Z : ZT) (Q : OA → Nat → Nat → Int → Int → PT) : Ok Tryd.prog Tryd.f16.ntmps Z sense_Check.c6 (sense_Check.q20 Z Q) (sense_Check.j87 Z Q) := by
  intro E he ρ w a hr h
  rw [sense_Check.q14] at he ⊢
  obtain ⟨l_0, l_0n, l_0c, e0, h⟩ := atL_e h
  obtain ⟨size_1, e1, h⟩ := atI_e h
  obtain ⟨out_7, out_7n, out_7c, e7, h⟩ := atL_e h
  obtain ⟨had_8, e8, h⟩ := atB_e h
  exact ok_at [(0, (Value.slice l_0 l_0n l_0c)), (1, (Value.int .i64 size_1)), (7, (Value.slice out_7 out_7n out_7c)), (8, (Value.bool had_8))] (ok_seq (okC sense_Check.c12 _ (by kernel_rfl)) (sense_Check.o85 Z Q)) (puts_cons e0 (puts_cons e1 (puts_cons e7 (puts_cons e8 (fun p hp => puts_nil hp))))) (sense_Check.s86_eq Z Q ρ l_0 l_0n l_0c size_1 out_7 out_7n out_7c had_8) he hr h
theorem sense_Check.o88 (Z : ZT) (Q : OA → Nat → Nat → Int → Int → PT) : Ok Tryd.prog Tryd.f16.ntmps Z sense_Check.c4 (sense_Check.q10 Z Q) (sense_Check.j87 Z Q) := by
  rw [sense_Check.q8]; exact ok_seq (sense_Check.s86_ok Z Q) (sense_Check.s9_ok Z Q)
def sense_Check.s89 (Z : ZT) (Q : OA → Nat → Nat → Int → Int → PT) (l_0 : OA) (l_0n l_0c : Nat) (size_1 : Int) : PT :=
  (sense_Check.s86 Z Q l_0 l_0n l_0c size_1 none 0 0 false)
theorem sense_Check.s89_eq (Z : ZT) (Q : OA → Nat → Nat → Int → Int → PT) (ρ : Fr) (l_0 : OA) (l_0n l_0c : Nat) (size_1 : Int) : (comp Tryd.prog Z sense_Check.c1 (thenK (comp Tryd.prog Z sense_Check.c2 (thenK (comp Tryd.prog Z sense_Check.c3 (thenK (sense_Check.j87 Z Q) (sense_Check.q10 Z Q))) (sense_Check.q10 Z Q))) (sense_Check.q10 Z Q))) (puts ρ [(0, (Value.slice l_0 l_0n l_0c)), (1, (Value.int .i64 size_1))]) = sense_Check.s89 Z Q l_0 l_0n l_0c size_1 := by kernel_rfl
def sense_Check.j90 (Z : ZT) (Q : OA → Nat → Nat → Int → Int → PT) : Fr → PT := (fun ρ => atL (ρ 0) fun l_0 l_0n l_0c => atI .i64 (ρ 1) fun size_1 => (sense_Check.s89 Z Q l_0 l_0n l_0c size_1))
theorem sense_Check.s89_ok (Z : ZT) (Q : OA → Nat → Nat → Int → Int → PT) : Ok Tryd.prog Tryd.f16.ntmps Z sense_Check.body (sense_Check.q10 Z Q) (sense_Check.j90 Z Q) := by
  intro E he ρ w a hr h
  rw [sense_Check.q5] at he ⊢
  obtain ⟨l_0, l_0n, l_0c, e0, h⟩ := atL_e h
  obtain ⟨size_1, e1, h⟩ := atI_e h
  exact ok_at [(0, (Value.slice l_0 l_0n l_0c)), (1, (Value.int .i64 size_1))] (ok_seq (okC sense_Check.c1 _ (by kernel_rfl)) (ok_seq (okC sense_Check.c2 _ (by kernel_rfl)) (ok_seq (okC sense_Check.c3 _ (by kernel_rfl)) (sense_Check.o88 Z Q)))) (puts_cons e0 (puts_cons e1 (fun p hp => puts_nil hp))) (sense_Check.s89_eq Z Q ρ l_0 l_0n l_0c size_1) he hr h
def sense_Check.F (Z : ZT) (Q : OA → Nat → Nat → Int → Int → PT) (l_0 : OA) (l_0n l_0c : Nat) (size_1 : Int) : PT :=
  (sense_Check.s89 Z Q l_0 l_0n l_0c size_1)
theorem sense_Check.vc (Z : ZT) (Q : OA → Nat → Nat → Int → Int → PT) (l_0 : OA) (l_0n l_0c : Nat) (size_1 : Int) (w : World) (h : sense_Check.F Z Q l_0 l_0n l_0c size_1 w) : Calls Tryd.prog 16 ⟨[(Value.slice l_0 l_0n l_0c), (Value.int .i64 size_1)]⟩ w fun e w' => (∃ (r0 : OA) (r0n r0c : Nat) (r1 : Int) (r2 : Int), e = .returned (.tuple #[.slice r0 r0n r0c, .int .i64 r1, .int .i64 r2]) ∧ Q r0 r0n r0c r1 r2 w') ∨ ∃ c, e = .panicked c ∧ Z c w' := by
  refine (calls_of_ok (args := [(Value.slice l_0 l_0n l_0c), (Value.int .i64 size_1)]) (w := w) (rs := [.tmp 4, .tmp 5, .tmp 6]) (fn := Tryd.f16) (c := sense_Check.body) Tryd.func16 (by kernel_rfl) (by kernel_rfl) (Nat.le_of_ble_eq_true (by kernel_rfl)) (sense_Check.s89_ok Z Q) (h)).mono fun e w' hR => ?_
  cases e with
  | returned v =>
    obtain ⟨x, y, z, rfl, hR⟩ := at3_e hR
    obtain ⟨xa, xn, xc, rfl, hR⟩ := atL_e hR
    obtain ⟨ya, rfl, hR⟩ := atI_e hR
    obtain ⟨za, rfl, hR⟩ := atI_e hR
    exact .inl ⟨xa, xn, xc, ya, za, rfl, hR⟩
  | panicked c => exact .inr ⟨c, rfl, hR⟩
  | outgrown => exact hR.elim
theorem sense_Check.vc0 (Q : OA → Nat → Nat → Int → Int → PT) (l_0 : OA) (l_0n l_0c : Nat) (size_1 : Int) (w : World) (h : sense_Check.F Z0 Q l_0 l_0n l_0c size_1 w) : Calls Tryd.prog 16 ⟨[(Value.slice l_0 l_0n l_0c), (Value.int .i64 size_1)]⟩ w fun e w' => (∃ (r0 : OA) (r0n r0c : Nat) (r1 : Int) (r2 : Int), e = .returned (.tuple #[.slice r0 r0n r0c, .int .i64 r1, .int .i64 r2]) ∧ Q r0 r0n r0c r1 r2 w') :=
  (sense_Check.vc Z0 Q l_0 l_0n l_0c size_1 w h).mono fun _ _ hR => hR.elim id fun ⟨_, _, hz⟩ => hz.elim
theorem sense_Check.cal {Z : ZT} {Q : OA → Nat → Nat → Int → Int → PT} {l_0 : OA} {l_0n l_0c : Nat} {size_1 : Int} {w : World} (h : sense_Check.F Z Q l_0 l_0n l_0c size_1 w) : Go.Proofs.YtllgjjldnnmjkaaDoor.cal Tryd.prog Z 16 [(Value.slice l_0 l_0n l_0c), (Value.int .i64 size_1)] (isT3 fun x y z => (isL fun r0 r0n r0c => (isI .i64 fun r1 => (isI .i64 fun r2 => Q r0 r0n r0c r1 r2) z) y) x) w := by
  refine (sense_Check.vc Z Q l_0 l_0n l_0c size_1 w h).mono fun e w' hR => ?_
  rcases hR with ⟨r0, r0n, r0c, r1, r2, rfl, h⟩ | ⟨c, rfl, h⟩
  · show (isT3 fun x y z => (isL fun r0 r0n r0c => (isI .i64 fun r1 => (isI .i64 fun r2 => Q r0 r0n r0c r1 r2) z) y) x) (.tuple #[.slice r0 r0n r0c, .int .i64 r1, .int .i64 r2]) w'
    exact ⟨_, _, _, rfl, ⟨_, _, _, rfl, ⟨_, rfl, ⟨_, rfl, h⟩⟩⟩⟩
  · exact h

/-! ### milepost/sense.Read: function 12 -/
noncomputable def sense_Read.body : Code := bodyC Tryd.f12
def sense_Read.F (Z : ZT) (Q : OA → Nat → Nat → Int → Int → PT) (s_0 : ByteArray) : PT :=
  (cal Tryd.prog Z 24 [(Value.string s_0)] (isT3 fun t13 t14 t15 => (isL fun v16 v16n v16c => ((isI .i64 fun v17 => ((isI .i64 fun v18 => (pif (v17 != 0) (Q none 0 0 v17 v18) (cal Tryd.prog Z 16 [(Value.slice v16 v16n v16c), (Value.int .i64 ((s_0.size : Nat) : Int))] (isT3 fun t19 t20 t21 => (isL fun v22 v22n v22c => ((isI .i64 fun v23 => ((isI .i64 fun v24 => (Q v22 v22n v22c v23 v24)) t21)) t20)) t19)))) t15)) t14)) t13))
def sense_Read.q1 (Z : ZT) (Q : OA → Nat → Nat → Int → Int → PT) : QF := bodyQ Tryd.prog [.tmp 2, .tmp 3, .tmp 4] (fun v => at3 v fun x y z => atL x fun xa xn xc => atI .i64 y fun ya => atI .i64 z fun za => Q xa xn xc ya za)
theorem sense_Read.eq (Z : ZT) (Q : OA → Nat → Nat → Int → Int → PT) (s_0 : ByteArray) : comp Tryd.prog Z sense_Read.body (sense_Read.q1 Z Q) (fr0 [(Value.string s_0)]) = sense_Read.F Z Q s_0 := by kernel_rfl
theorem sense_Read.vc (Z : ZT) (Q : OA → Nat → Nat → Int → Int → PT) (s_0 : ByteArray) (w : World) (h : sense_Read.F Z Q s_0 w) : Calls Tryd.prog 12 ⟨[(Value.string s_0)]⟩ w fun e w' => (∃ (r0 : OA) (r0n r0c : Nat) (r1 : Int) (r2 : Int), e = .returned (.tuple #[.slice r0 r0n r0c, .int .i64 r1, .int .i64 r2]) ∧ Q r0 r0n r0c r1 r2 w') ∨ ∃ c, e = .panicked c ∧ Z c w' := by
  refine (calls_of_ok (args := [(Value.string s_0)]) (w := w) (rs := [.tmp 2, .tmp 3, .tmp 4]) (fn := Tryd.f12) (c := sense_Read.body) Tryd.func12 (by kernel_rfl) (by kernel_rfl) (Nat.le_of_ble_eq_true (by kernel_rfl)) (okC sense_Read.body (sense_Read.q1 Z Q) (by kernel_rfl)) (by rw [sense_Read.eq]; exact h)).mono fun e w' hR => ?_
  cases e with
  | returned v =>
    obtain ⟨x, y, z, rfl, hR⟩ := at3_e hR
    obtain ⟨xa, xn, xc, rfl, hR⟩ := atL_e hR
    obtain ⟨ya, rfl, hR⟩ := atI_e hR
    obtain ⟨za, rfl, hR⟩ := atI_e hR
    exact .inl ⟨xa, xn, xc, ya, za, rfl, hR⟩
  | panicked c => exact .inr ⟨c, rfl, hR⟩
  | outgrown => exact hR.elim
theorem sense_Read.vc0 (Q : OA → Nat → Nat → Int → Int → PT) (s_0 : ByteArray) (w : World) (h : sense_Read.F Z0 Q s_0 w) : Calls Tryd.prog 12 ⟨[(Value.string s_0)]⟩ w fun e w' => (∃ (r0 : OA) (r0n r0c : Nat) (r1 : Int) (r2 : Int), e = .returned (.tuple #[.slice r0 r0n r0c, .int .i64 r1, .int .i64 r2]) ∧ Q r0 r0n r0c r1 r2 w') :=
  (sense_Read.vc Z0 Q s_0 w h).mono fun _ _ hR => hR.elim id fun ⟨_, _, hz⟩ => hz.elim
theorem sense_Read.cal {Z : ZT} {Q : OA → Nat → Nat → Int → Int → PT} {s_0 : ByteArray} {w : World} (h : sense_Read.F Z Q s_0 w) : Go.Proofs.YtllgjjldnnmjkaaDoor.cal Tryd.prog Z 12 [(Value.string s_0)] (isT3 fun x y z => (isL fun r0 r0n r0c => (isI .i64 fun r1 => (isI .i64 fun r2 => Q r0 r0n r0c r1 r2) z) y) x) w := by
  refine (sense_Read.vc Z Q s_0 w h).mono fun e w' hR => ?_
  rcases hR with ⟨r0, r0n, r0c, r1, r2, rfl, h⟩ | ⟨c, rfl, h⟩
  · show (isT3 fun x y z => (isL fun r0 r0n r0c => (isI .i64 fun r1 => (isI .i64 fun r2 => Q r0 r0n r0c r1 r2) z) y) x) (.tuple #[.slice r0 r0n r0c, .int .i64 r1, .int .i64 r2]) w'
    exact ⟨_, _, _, rfl, ⟨_, _, _, rfl, ⟨_, rfl, ⟨_, rfl, h⟩⟩⟩⟩
  · exact h

/-! ### milepost/sense.begins: function 33 -/
noncomputable def sense_begins.body : Code := bodyC Tryd.f33
def sense_begins.F (Z : ZT) (Q : Bool → PT) (a_0 : Int) (b_1 : Int) (n_2 : Int) : PT :=
  (cnd ((0 : Int) ≤ (IntKind.wrap .i64 ((32 : Int) - (if (if 32 < n_2 then 32 else n_2) > 0 then (if 32 < n_2 then 32 else n_2) else 0)))) (Q ((Int.fdiv (IntKind.wrap .u64 (IntKind.wrap .u32 (BitVec.ofInt (IntKind.bits .u32) a_0 ^^^ BitVec.ofInt (IntKind.bits .u32) b_1).toNat)) (2 ^ (min (IntKind.wrap .i64 ((32 : Int) - (if (if 32 < n_2 then 32 else n_2) > 0 then (if 32 < n_2 then 32 else n_2) else 0))).toNat (IntKind.bits .u64)))) == 0)))
def sense_begins.q1 (Z : ZT) (Q : Bool → PT) : QF := bodyQ Tryd.prog [.tmp 6] (fun v => atB v fun va => Q va)
theorem sense_begins.eq (Z : ZT) (Q : Bool → PT) (a_0 : Int) (b_1 : Int) (n_2 : Int) : comp Tryd.prog Z sense_begins.body (sense_begins.q1 Z Q) (fr0 [(Value.int .u32 a_0), (Value.int .u32 b_1), (Value.int .i64 n_2)]) = sense_begins.F Z Q a_0 b_1 n_2 := by kernel_rfl
theorem sense_begins.vc (Z : ZT) (Q : Bool → PT) (a_0 : Int) (b_1 : Int) (n_2 : Int) (w : World) (h : sense_begins.F Z Q a_0 b_1 n_2 w) : Calls Tryd.prog 33 ⟨[(Value.int .u32 a_0), (Value.int .u32 b_1), (Value.int .i64 n_2)]⟩ w fun e w' => (∃ (r0 : Bool), e = .returned (.bool r0) ∧ Q r0 w') ∨ ∃ c, e = .panicked c ∧ Z c w' := by
  refine (calls_of_ok (args := [(Value.int .u32 a_0), (Value.int .u32 b_1), (Value.int .i64 n_2)]) (w := w) (rs := [.tmp 6]) (fn := Tryd.f33) (c := sense_begins.body) Tryd.func33 (by kernel_rfl) (by kernel_rfl) (Nat.le_of_ble_eq_true (by kernel_rfl)) (okC sense_begins.body (sense_begins.q1 Z Q) (by kernel_rfl)) (by rw [sense_begins.eq]; exact h)).mono fun e w' hR => ?_
  cases e with
  | returned v =>
    obtain ⟨va, rfl, hR⟩ := atB_e hR
    exact .inl ⟨va, rfl, hR⟩
  | panicked c => exact .inr ⟨c, rfl, hR⟩
  | outgrown => exact hR.elim
theorem sense_begins.vc0 (Q : Bool → PT) (a_0 : Int) (b_1 : Int) (n_2 : Int) (w : World) (h : sense_begins.F Z0 Q a_0 b_1 n_2 w) : Calls Tryd.prog 33 ⟨[(Value.int .u32 a_0), (Value.int .u32 b_1), (Value.int .i64 n_2)]⟩ w fun e w' => (∃ (r0 : Bool), e = .returned (.bool r0) ∧ Q r0 w') :=
  (sense_begins.vc Z0 Q a_0 b_1 n_2 w h).mono fun _ _ hR => hR.elim id fun ⟨_, _, hz⟩ => hz.elim
theorem sense_begins.cal {Z : ZT} {Q : Bool → PT} {a_0 : Int} {b_1 : Int} {n_2 : Int} {w : World} (h : sense_begins.F Z Q a_0 b_1 n_2 w) : Go.Proofs.YtllgjjldnnmjkaaDoor.cal Tryd.prog Z 33 [(Value.int .u32 a_0), (Value.int .u32 b_1), (Value.int .i64 n_2)] (isB fun r0 => Q r0) w := by
  refine (sense_begins.vc Z Q a_0 b_1 n_2 w h).mono fun e w' hR => ?_
  rcases hR with ⟨r0, rfl, h⟩ | ⟨c, rfl, h⟩
  · show (isB fun r0 => Q r0) (.bool r0) w'
    exact ⟨_, rfl, h⟩
  · exact h

/-! ### milepost/sense.Applies: function 18 -/
noncomputable def sense_Applies.body : Code := bodyC Tryd.f18
noncomputable def sense_Applies.c1 : Code := sq1 sense_Applies.body
noncomputable def sense_Applies.c2 : Code := sq1 (sq2 sense_Applies.body)
noncomputable def sense_Applies.c3 : Code := sq1 (sq2 (sq2 sense_Applies.body))
noncomputable def sense_Applies.c4 : Code := sq2 (sq2 (sq2 sense_Applies.body))
theorem sense_Applies.q5 : sense_Applies.body = .seq sense_Applies.c1 (.seq sense_Applies.c2 (.seq sense_Applies.c3 sense_Applies.c4)) := by kernel_rfl
noncomputable def sense_Applies.c6 : Code := sq1 sense_Applies.c4
noncomputable def sense_Applies.c7 : Code := sq2 sense_Applies.c4
theorem sense_Applies.q8 : sense_Applies.c4 = .seq sense_Applies.c6 sense_Applies.c7 := by kernel_rfl
def sense_Applies.s9 (Z : ZT) (Q : Bool → PT) (x_2 : Addr) (v_5 : Addr) : PT :=
  (cnd ((0 : Int) ≤ 0 ∧ 0 < ((5 : Nat) : Int)) (ldI .i64 (v_5.add ((0 : Int).toNat * 1)) fun v11 => (ldI .u32 (x_2.add 2) fun v12 => (ldI .i64 (x_2.add 3) fun v13 => (cal Tryd.prog Z 33 [(Value.int .u32 (IntKind.wrap .u32 v11)), (Value.int .u32 v12), (Value.int .i64 v13)] (isB fun v14 => (pif v14 (cnd ((0 : Int) ≤ 1 ∧ 1 < ((5 : Nat) : Int)) (ldI .i64 (v_5.add ((1 : Int).toNat * 1)) fun v15 => (ldI .u32 (x_2.add 4) fun v16 => (ldI .i64 (x_2.add 5) fun v17 => (cal Tryd.prog Z 33 [(Value.int .u32 (IntKind.wrap .u32 v15)), (Value.int .u32 v16), (Value.int .i64 v17)] (isB fun v18 => (pif v18 (cnd ((0 : Int) ≤ 2 ∧ 2 < ((5 : Nat) : Int)) (ldI .i64 (v_5.add ((2 : Int).toNat * 1)) fun v19 => (ldI .i64 (x_2.add 6) fun v20 => (pif (decide (v19 ≥ v20)) (cnd ((0 : Int) ≤ 2 ∧ 2 < ((5 : Nat) : Int)) (ldI .i64 (v_5.add ((2 : Int).toNat * 1)) fun v21 => (ldI .i64 (x_2.add 7) fun v22 => (pif (decide (v21 ≤ v22)) (cnd ((0 : Int) ≤ 3 ∧ 3 < ((5 : Nat) : Int)) (ldI .i64 (v_5.add ((3 : Int).toNat * 1)) fun v23 => (ldI .i64 (x_2.add 8) fun v24 => (pif (decide (v23 ≥ v24)) (cnd ((0 : Int) ≤ 3 ∧ 3 < ((5 : Nat) : Int)) (ldI .i64 (v_5.add ((3 : Int).toNat * 1)) fun v25 => (ldI .i64 (x_2.add 9) fun v26 => (pif (decide (v25 ≤ v26)) (ldI .i64 (x_2.add 10) fun v27 => (pif (v27 == (-1)) (Q true) (ldI .i64 (x_2.add 10) fun v28 => (cnd ((0 : Int) ≤ 4 ∧ 4 < ((5 : Nat) : Int)) (ldI .i64 (v_5.add ((4 : Int).toNat * 1)) fun v29 => (Q (v28 == v29))))))) (Q false))))) (Q false))))) (Q false))))) (Q false))))) (Q false)))))))) (Q false))))))))
def sense_Applies.q10 (Z : ZT) (Q : Bool → PT) : QF := bodyQ Tryd.prog [.tmp 4] (fun v => atB v fun va => Q va)
theorem sense_Applies.s9_eq (Z : ZT) (Q : Bool → PT) (ρ : Fr) (x_2 : Addr) (v_5 : Addr) : comp Tryd.prog Z sense_Applies.c7 (sense_Applies.q10 Z Q) (puts ρ [(2, (Value.pointer (some x_2))), (5, (Value.pointer (some v_5)))]) = sense_Applies.s9 Z Q x_2 v_5 := by kernel_rfl
def sense_Applies.j11 (Z : ZT) (Q : Bool → PT) : Fr → PT := (fun ρ => atA (ρ 2) fun x_2 => atA (ρ 5) fun v_5 => (sense_Applies.s9 Z Q x_2 v_5))
theorem sense_Applies.s9_ok (Z : ZT) (Q : Bool → PT) : Ok Tryd.prog Tryd.f18.ntmps Z sense_Applies.c7 (sense_Applies.q10 Z Q) (sense_Applies.j11 Z Q) := by
  intro E he ρ w a hr h
  obtain ⟨x_2, e2, h⟩ := atA_e h
  obtain ⟨v_5, e5, h⟩ := atA_e h
  exact ok_at [(2, (Value.pointer (some x_2))), (5, (Value.pointer (some v_5)))] (okC sense_Applies.c7 (sense_Applies.q10 Z Q) (by kernel_rfl)) (puts_cons e2 (puts_cons e5 (fun p hp => puts_nil hp))) (sense_Applies.s9_eq Z Q ρ x_2 v_5) he hr h
noncomputable def sense_Applies.c12 : Code := sq1 sense_Applies.c6
noncomputable def sense_Applies.c13 : Code := sq2 sense_Applies.c6
theorem sense_Applies.q14 : sense_Applies.c6 = .seq sense_Applies.c12 sense_Applies.c13 := by kernel_rfl
noncomputable def sense_Applies.c15 : Code := blk sense_Applies.c13
theorem sense_Applies.q16 : sense_Applies.c13 = .block 0 sense_Applies.c15 := by kernel_rfl
noncomputable def sense_Applies.c17 : Code := lop sense_Applies.c15
theorem sense_Applies.q18 : sense_Applies.c15 = .loop sense_Applies.c17 := by kernel_rfl
def sense_Applies.q20 (Z : ZT) (Q : Bool → PT) : QF := thenK (sense_Applies.j11 Z Q) (sense_Applies.q10 Z Q)
def sense_Applies.q21 (Z : ZT) (Q : Bool → PT) : QF := inBl 0 (sense_Applies.q20 Z Q)
def sense_Applies.s22 (Z : ZT) (Q : Bool → PT) (X1 : Addr → Addr → Addr → Int → PT) (x_2 : Addr) (h_3 : Addr) (v_5 : Addr) (t_11 : Int) : PT :=
  (pif (decide (t_11 < 5)) (ldN 13 h_3 fun v40 => (cal Tryd.prog Z 32 [(Value.agg ⟨v40⟩), (Value.int .i64 t_11)] (isT2 fun t41 t42 => (isI .u32 fun v43 => ((isI .i64 fun v44 => (cnd ((0 : Int) ≤ t_11 ∧ t_11 < ((5 : Nat) : Int)) (st1 (v_5.add (t_11.toNat * 1)) (Value.int .i64 (IntKind.wrap .i64 v43)) (X1 x_2 h_3 v_5 (IntKind.wrap .i64 (t_11 + 1)))))) t42)) t41))) (sense_Applies.s9 Z Q x_2 v_5))
def sense_Applies.j23 (Z : ZT) (Q : Bool → PT) (X1 : Addr → Addr → Addr → Int → PT) : Fr → PT := (fun ρ => atA (ρ 2) fun x_2 => atA (ρ 3) fun h_3 => atA (ρ 5) fun v_5 => atI .i64 (ρ 11) fun t_11 => (X1 x_2 h_3 v_5 t_11))
def sense_Applies.q24 (Z : ZT) (Q : Bool → PT) (X1 : Addr → Addr → Addr → Int → PT) : QF := thenK (sense_Applies.j23 Z Q X1) (sense_Applies.q21 Z Q)
theorem sense_Applies.s22_eq (Z : ZT) (Q : Bool → PT) (X1 : Addr → Addr → Addr → Int → PT) (ρ : Fr) (x_2 : Addr) (h_3 : Addr) (v_5 : Addr) (t_11 : Int) : comp Tryd.prog Z sense_Applies.c17 (sense_Applies.q24 Z Q X1) (puts ρ [(2, (Value.pointer (some x_2))), (3, (Value.pointer (some h_3))), (5, (Value.pointer (some v_5))), (11, (Value.int .i64 t_11))]) = sense_Applies.s22 Z Q X1 x_2 h_3 v_5 t_11 := by kernel_rfl
def sense_Applies.j25 (Z : ZT) (Q : Bool → PT) (X1 : Addr → Addr → Addr → Int → PT) : Fr → PT := (fun ρ => atA (ρ 2) fun x_2 => atA (ρ 3) fun h_3 => atA (ρ 5) fun v_5 => atI .i64 (ρ 11) fun t_11 => (sense_Applies.s22 Z Q X1 x_2 h_3 v_5 t_11))
theorem sense_Applies.s22_ok (Z : ZT) (Q : Bool → PT) (X1 : Addr → Addr → Addr → Int → PT) : Ok Tryd.prog Tryd.f18.ntmps Z sense_Applies.c17 (sense_Applies.q24 Z Q X1) (sense_Applies.j25 Z Q X1) := by
  intro E he ρ w a hr h
  obtain ⟨x_2, e2, h⟩ := atA_e h
  obtain ⟨h_3, e3, h⟩ := atA_e h
  obtain ⟨v_5, e5, h⟩ := atA_e h
  obtain ⟨t_11, e11, h⟩ := atI_e h
  exact ok_at [(2, (Value.pointer (some x_2))), (3, (Value.pointer (some h_3))), (5, (Value.pointer (some v_5))), (11, (Value.int .i64 t_11))] (okC sense_Applies.c17 (sense_Applies.q24 Z Q X1) (by kernel_rfl)) (puts_cons e2 (puts_cons e3 (puts_cons e5 (puts_cons e11 (fun p hp => puts_nil hp))))) (sense_Applies.s22_eq Z Q X1 ρ x_2 h_3 v_5 t_11) he hr h
def sense_Applies.l19 (Z : ZT) (Q : Bool → PT) : Nat → Addr → Addr → Addr → Int → PT
  | 0, _, _, _, _ => bad
  | k + 1, x_2, h_3, v_5, t_11 => (sense_Applies.s22 Z Q (sense_Applies.l19 Z Q k) x_2 h_3 v_5 t_11)
def sense_Applies.j26 (Z : ZT) (Q : Bool → PT) (k : Nat) : Fr → PT := (fun ρ => atA (ρ 2) fun x_2 => atA (ρ 3) fun h_3 => atA (ρ 5) fun v_5 => atI .i64 (ρ 11) fun t_11 => (sense_Applies.l19 Z Q k x_2 h_3 v_5 t_11))
def sense_Applies.j27 (Z : ZT) (Q : Bool → PT) : Fr → PT := (fun ρ => atA (ρ 2) fun x_2 => atA (ρ 3) fun h_3 => atA (ρ 5) fun v_5 => atI .i64 (ρ 11) fun t_11 => (exK fun k => sense_Applies.l19 Z Q k x_2 h_3 v_5 t_11))
theorem sense_Applies.o28 (Z : ZT) (Q : Bool → PT) : Ok Tryd.prog Tryd.f18.ntmps Z sense_Applies.c15 (sense_Applies.q21 Z Q) (sense_Applies.j27 Z Q) := by
  rw [sense_Applies.q18]
  refine Ok.imp (ok_loop (J := sense_Applies.j26 Z Q) ?_ ?_) ?_
  · intro ρ w h
    obtain ⟨x_2, e2, h⟩ := atA_e h
    obtain ⟨h_3, e3, h⟩ := atA_e h
    obtain ⟨v_5, e5, h⟩ := atA_e h
    obtain ⟨t_11, e11, h⟩ := atI_e h
    exact h
  · intro k
    refine Ok.imp (sense_Applies.s22_ok Z Q (sense_Applies.l19 Z Q k)) fun ρ w h => ?_
    obtain ⟨x_2, e2, h⟩ := atA_e h
    obtain ⟨h_3, e3, h⟩ := atA_e h
    obtain ⟨v_5, e5, h⟩ := atA_e h
    obtain ⟨t_11, e11, h⟩ := atI_e h
    show (sense_Applies.j25 Z Q (sense_Applies.l19 Z Q k)) ρ w
    simp only [sense_Applies.j25]
    rw [e2]
    rw [e3]
    rw [e5]
    rw [e11]
    exact h
  · intro ρ w h
    obtain ⟨x_2, e2, h⟩ := atA_e h
    obtain ⟨h_3, e3, h⟩ := atA_e h
    obtain ⟨v_5, e5, h⟩ := atA_e h
    obtain ⟨t_11, e11, h⟩ := atI_e h
    obtain ⟨k, h⟩ := h
    refine ⟨k, ?_⟩
    show (atA (ρ 2) fun x_2 => atA (ρ 3) fun h_3 => atA (ρ 5) fun v_5 => atI .i64 (ρ 11) fun t_11 => (sense_Applies.l19 Z Q k x_2 h_3 v_5 t_11)) w
    rw [e2]
    rw [e3]
    rw [e5]
    rw [e11]
    exact h
theorem sense_Applies.o29 (Z : ZT) (Q : Bool → PT) : Ok Tryd.prog Tryd.f18.ntmps Z sense_Applies.c13 (sense_Applies.q20 Z Q) (sense_Applies.j27 Z Q) := by
  rw [sense_Applies.q16]; exact ok_block (sense_Applies.o28 Z Q)
def sense_Applies.s30 (Z : ZT) (Q : Bool → PT) (x_2 : Addr) (h_3 : Addr) (v_5 : Addr) : PT :=
  (exK fun k => sense_Applies.l19 Z Q k x_2 h_3 v_5 0)
theorem sense_Applies.s30_eq (Z : ZT) (Q : Bool → PT) (ρ : Fr) (x_2 : Addr) (h_3 : Addr) (v_5 : Addr) : (comp Tryd.prog Z sense_Applies.c12 (thenK (sense_Applies.j27 Z Q) (sense_Applies.q20 Z Q))) (puts ρ [(2, (Value.pointer (some x_2))), (3, (Value.pointer (some h_3))), (5, (Value.pointer (some v_5)))]) = sense_Applies.s30 Z Q x_2 h_3 v_5 := by kernel_rfl
def sense_Applies.j31 (Z : ZT) (Q : Bool → PT) : Fr → PT := (fun ρ => atA (ρ 2) fun x_2 => atA (ρ 3) fun h_3 => atA (ρ 5) fun v_5 => (sense_Applies.s30 Z Q x_2 h_3 v_5))
theorem sense_Applies.s30_ok (Z : ZT) (Q : Bool → PT) : Ok Tryd.prog Tryd.f18.ntmps Z sense_Applies.c6 (sense_Applies.q20 Z Q) (sense_Applies.j31 Z Q) := by
  intro E he ρ w a hr h
  rw [sense_Applies.q14] at he ⊢
  obtain ⟨x_2, e2, h⟩ := atA_e h
  obtain ⟨h_3, e3, h⟩ := atA_e h
  obtain ⟨v_5, e5, h⟩ := atA_e h
  exact ok_at [(2, (Value.pointer (some x_2))), (3, (Value.pointer (some h_3))), (5, (Value.pointer (some v_5)))] (ok_seq (okC sense_Applies.c12 _ (by kernel_rfl)) (sense_Applies.o29 Z Q)) (puts_cons e2 (puts_cons e3 (puts_cons e5 (fun p hp => puts_nil hp)))) (sense_Applies.s30_eq Z Q ρ x_2 h_3 v_5) he hr h
theorem sense_Applies.o32 (Z : ZT) (Q : Bool → PT) : Ok Tryd.prog Tryd.f18.ntmps Z sense_Applies.c4 (sense_Applies.q10 Z Q) (sense_Applies.j31 Z Q) := by
  rw [sense_Applies.q8]; exact ok_seq (sense_Applies.s30_ok Z Q) (sense_Applies.s9_ok Z Q)
def sense_Applies.s33 (Z : ZT) (Q : Bool → PT) (x_0 : List Value) (h_1 : List Value) : PT :=
  (newC 35 x_0 fun x45 => (newC 37 h_1 fun h46 => (ldB (x45.add 0) fun v47 => (pif v47 (Q true) (newC 64 [(Value.int .i64 0), (Value.int .i64 0), (Value.int .i64 0), (Value.int .i64 0), (Value.int .i64 0)] fun v48 => (sense_Applies.s30 Z Q x45 h46 v48))))))
theorem sense_Applies.s33_eq (Z : ZT) (Q : Bool → PT) (ρ : Fr) (x_0 : List Value) (h_1 : List Value) : (comp Tryd.prog Z sense_Applies.c1 (thenK (comp Tryd.prog Z sense_Applies.c2 (thenK (comp Tryd.prog Z sense_Applies.c3 (thenK (sense_Applies.j31 Z Q) (sense_Applies.q10 Z Q))) (sense_Applies.q10 Z Q))) (sense_Applies.q10 Z Q))) (puts ρ [(0, (Value.agg ⟨x_0⟩)), (1, (Value.agg ⟨h_1⟩))]) = sense_Applies.s33 Z Q x_0 h_1 := by kernel_rfl
def sense_Applies.j34 (Z : ZT) (Q : Bool → PT) : Fr → PT := (fun ρ => atN (ρ 0) fun x_0 => atN (ρ 1) fun h_1 => (sense_Applies.s33 Z Q x_0 h_1))
theorem sense_Applies.s33_ok (Z : ZT) (Q : Bool → PT) : Ok Tryd.prog Tryd.f18.ntmps Z sense_Applies.body (sense_Applies.q10 Z Q) (sense_Applies.j34 Z Q) := by
  intro E he ρ w a hr h
  rw [sense_Applies.q5] at he ⊢
  obtain ⟨x_0, e0, h⟩ := atN_e h
  obtain ⟨h_1, e1, h⟩ := atN_e h
  exact ok_at [(0, (Value.agg ⟨x_0⟩)), (1, (Value.agg ⟨h_1⟩))] (ok_seq (okC sense_Applies.c1 _ (by kernel_rfl)) (ok_seq (okC sense_Applies.c2 _ (by kernel_rfl)) (ok_seq (okC sense_Applies.c3 _ (by kernel_rfl)) (sense_Applies.o32 Z Q)))) (puts_cons e0 (puts_cons e1 (fun p hp => puts_nil hp))) (sense_Applies.s33_eq Z Q ρ x_0 h_1) he hr h
def sense_Applies.F (Z : ZT) (Q : Bool → PT) (x_0 : List Value) (h_1 : List Value) : PT :=
  (sense_Applies.s33 Z Q x_0 h_1)
theorem sense_Applies.vc (Z : ZT) (Q : Bool → PT) (x_0 : List Value) (h_1 : List Value) (w : World) (h : sense_Applies.F Z Q x_0 h_1 w) : Calls Tryd.prog 18 ⟨[(Value.agg ⟨x_0⟩), (Value.agg ⟨h_1⟩)]⟩ w fun e w' => (∃ (r0 : Bool), e = .returned (.bool r0) ∧ Q r0 w') ∨ ∃ c, e = .panicked c ∧ Z c w' := by
  refine (calls_of_ok (args := [(Value.agg ⟨x_0⟩), (Value.agg ⟨h_1⟩)]) (w := w) (rs := [.tmp 4]) (fn := Tryd.f18) (c := sense_Applies.body) Tryd.func18 (by kernel_rfl) (by kernel_rfl) (Nat.le_of_ble_eq_true (by kernel_rfl)) (sense_Applies.s33_ok Z Q) (h)).mono fun e w' hR => ?_
  cases e with
  | returned v =>
    obtain ⟨va, rfl, hR⟩ := atB_e hR
    exact .inl ⟨va, rfl, hR⟩
  | panicked c => exact .inr ⟨c, rfl, hR⟩
  | outgrown => exact hR.elim
theorem sense_Applies.vc0 (Q : Bool → PT) (x_0 : List Value) (h_1 : List Value) (w : World) (h : sense_Applies.F Z0 Q x_0 h_1 w) : Calls Tryd.prog 18 ⟨[(Value.agg ⟨x_0⟩), (Value.agg ⟨h_1⟩)]⟩ w fun e w' => (∃ (r0 : Bool), e = .returned (.bool r0) ∧ Q r0 w') :=
  (sense_Applies.vc Z0 Q x_0 h_1 w h).mono fun _ _ hR => hR.elim id fun ⟨_, _, hz⟩ => hz.elim
theorem sense_Applies.cal {Z : ZT} {Q : Bool → PT} {x_0 : List Value} {h_1 : List Value} {w : World} (h : sense_Applies.F Z Q x_0 h_1 w) : Go.Proofs.YtllgjjldnnmjkaaDoor.cal Tryd.prog Z 18 [(Value.agg ⟨x_0⟩), (Value.agg ⟨h_1⟩)] (isB fun r0 => Q r0) w := by
  refine (sense_Applies.vc Z Q x_0 h_1 w h).mono fun e w' hR => ?_
  rcases hR with ⟨r0, rfl, h⟩ | ⟨c, rfl, h⟩
  · show (isB fun r0 => Q r0) (.bool r0) w'
    exact ⟨_, rfl, h⟩
  · exact h

/-! ### milepost/sense.Which: function 20 -/
noncomputable def sense_Which.body : Code := bodyC Tryd.f20
noncomputable def sense_Which.c1 : Code := sq1 sense_Which.body
noncomputable def sense_Which.c2 : Code := sq1 (sq2 sense_Which.body)
noncomputable def sense_Which.c3 : Code := sq2 (sq2 sense_Which.body)
theorem sense_Which.q4 : sense_Which.body = .seq sense_Which.c1 (.seq sense_Which.c2 sense_Which.c3) := by kernel_rfl
noncomputable def sense_Which.c5 : Code := sq1 sense_Which.c3
noncomputable def sense_Which.c6 : Code := sq2 sense_Which.c3
theorem sense_Which.q7 : sense_Which.c3 = .seq sense_Which.c5 sense_Which.c6 := by kernel_rfl
def sense_Which.s8 (Z : ZT) (Q : Int → PT) (best_5 : Int) : PT :=
  (Q best_5)
def sense_Which.q9 (Z : ZT) (Q : Int → PT) : QF := bodyQ Tryd.prog [.tmp 4] (fun v => atI .i64 v fun va => Q va)
theorem sense_Which.s8_eq (Z : ZT) (Q : Int → PT) (ρ : Fr) (best_5 : Int) : comp Tryd.prog Z sense_Which.c6 (sense_Which.q9 Z Q) (puts ρ [(5, (Value.int .i64 best_5))]) = sense_Which.s8 Z Q best_5 := by kernel_rfl
def sense_Which.j10 (Z : ZT) (Q : Int → PT) : Fr → PT := (fun ρ => atI .i64 (ρ 5) fun best_5 => (sense_Which.s8 Z Q best_5))
theorem sense_Which.s8_ok (Z : ZT) (Q : Int → PT) : Ok Tryd.prog Tryd.f20.ntmps Z sense_Which.c6 (sense_Which.q9 Z Q) (sense_Which.j10 Z Q) := by
  intro E he ρ w a hr h
  obtain ⟨best_5, e5, h⟩ := atI_e h
  exact ok_at [(5, (Value.int .i64 best_5))] (okC sense_Which.c6 (sense_Which.q9 Z Q) (by kernel_rfl)) (puts_cons e5 (fun p hp => puts_nil hp)) (sense_Which.s8_eq Z Q ρ best_5) he hr h
noncomputable def sense_Which.c11 : Code := sq1 sense_Which.c5
noncomputable def sense_Which.c12 : Code := sq2 sense_Which.c5
theorem sense_Which.q13 : sense_Which.c5 = .seq sense_Which.c11 sense_Which.c12 := by kernel_rfl
noncomputable def sense_Which.c14 : Code := blk sense_Which.c12
theorem sense_Which.q15 : sense_Which.c12 = .block 0 sense_Which.c14 := by kernel_rfl
noncomputable def sense_Which.c16 : Code := lop sense_Which.c14
theorem sense_Which.q17 : sense_Which.c14 = .loop sense_Which.c16 := by kernel_rfl
def sense_Which.q19 (Z : ZT) (Q : Int → PT) : QF := thenK (sense_Which.j10 Z Q) (sense_Which.q9 Z Q)
def sense_Which.q20 (Z : ZT) (Q : Int → PT) : QF := inBl 0 (sense_Which.q19 Z Q)
noncomputable def sense_Which.c21 : Code := sq1 sense_Which.c16
noncomputable def sense_Which.c22 : Code := sq1 (sq2 sense_Which.c16)
noncomputable def sense_Which.c23 : Code := sq2 (sq2 sense_Which.c16)
theorem sense_Which.q24 : sense_Which.c16 = .seq sense_Which.c21 (.seq sense_Which.c22 sense_Which.c23) := by kernel_rfl
noncomputable def sense_Which.c25 : Code := sq1 sense_Which.c23
noncomputable def sense_Which.c26 : Code := sq2 sense_Which.c23
theorem sense_Which.q27 : sense_Which.c23 = .seq sense_Which.c25 sense_Which.c26 := by kernel_rfl
def sense_Which.s28 (Z : ZT) (Q : Int → PT) (X1 : OA → Nat → Nat → Addr → Int → OA → Nat → Nat → Int → Int → PT) (l_0 : OA) (l_0n l_0c : Nat) (h_3 : Addr) (best_5 : Int) (t_8 : OA) (t_8n t_8c : Nat) (t_9 : Int) (t_10 : Int) : PT :=
  (X1 l_0 l_0n l_0c h_3 best_5 t_8 t_8n t_8c t_9 (IntKind.wrap .i64 (t_10 + 1)))
def sense_Which.j29 (Z : ZT) (Q : Int → PT) (X1 : OA → Nat → Nat → Addr → Int → OA → Nat → Nat → Int → Int → PT) : Fr → PT := (fun ρ => atL (ρ 0) fun l_0 l_0n l_0c => atA (ρ 3) fun h_3 => atI .i64 (ρ 5) fun best_5 => atL (ρ 8) fun t_8 t_8n t_8c => atI .i64 (ρ 9) fun t_9 => atI .i64 (ρ 10) fun t_10 => (X1 l_0 l_0n l_0c h_3 best_5 t_8 t_8n t_8c t_9 t_10))
def sense_Which.q30 (Z : ZT) (Q : Int → PT) (X1 : OA → Nat → Nat → Addr → Int → OA → Nat → Nat → Int → Int → PT) : QF := thenK (sense_Which.j29 Z Q X1) (sense_Which.q20 Z Q)
theorem sense_Which.s28_eq (Z : ZT) (Q : Int → PT) (X1 : OA → Nat → Nat → Addr → Int → OA → Nat → Nat → Int → Int → PT) (ρ : Fr) (l_0 : OA) (l_0n l_0c : Nat) (h_3 : Addr) (best_5 : Int) (t_8 : OA) (t_8n t_8c : Nat) (t_9 : Int) (t_10 : Int) : comp Tryd.prog Z sense_Which.c26 (sense_Which.q30 Z Q X1) (puts ρ [(0, (Value.slice l_0 l_0n l_0c)), (3, (Value.pointer (some h_3))), (5, (Value.int .i64 best_5)), (8, (Value.slice t_8 t_8n t_8c)), (9, (Value.int .i64 t_9)), (10, (Value.int .i64 t_10))]) = sense_Which.s28 Z Q X1 l_0 l_0n l_0c h_3 best_5 t_8 t_8n t_8c t_9 t_10 := by kernel_rfl
def sense_Which.j31 (Z : ZT) (Q : Int → PT) (X1 : OA → Nat → Nat → Addr → Int → OA → Nat → Nat → Int → Int → PT) : Fr → PT := (fun ρ => atL (ρ 0) fun l_0 l_0n l_0c => atA (ρ 3) fun h_3 => atI .i64 (ρ 5) fun best_5 => atL (ρ 8) fun t_8 t_8n t_8c => atI .i64 (ρ 9) fun t_9 => atI .i64 (ρ 10) fun t_10 => (sense_Which.s28 Z Q X1 l_0 l_0n l_0c h_3 best_5 t_8 t_8n t_8c t_9 t_10))
theorem sense_Which.s28_ok (Z : ZT) (Q : Int → PT) (X1 : OA → Nat → Nat → Addr → Int → OA → Nat → Nat → Int → Int → PT) : Ok Tryd.prog Tryd.f20.ntmps Z sense_Which.c26 (sense_Which.q30 Z Q X1) (sense_Which.j31 Z Q X1) := by
  intro E he ρ w a hr h
  obtain ⟨l_0, l_0n, l_0c, e0, h⟩ := atL_e h
  obtain ⟨h_3, e3, h⟩ := atA_e h
  obtain ⟨best_5, e5, h⟩ := atI_e h
  obtain ⟨t_8, t_8n, t_8c, e8, h⟩ := atL_e h
  obtain ⟨t_9, e9, h⟩ := atI_e h
  obtain ⟨t_10, e10, h⟩ := atI_e h
  exact ok_at [(0, (Value.slice l_0 l_0n l_0c)), (3, (Value.pointer (some h_3))), (5, (Value.int .i64 best_5)), (8, (Value.slice t_8 t_8n t_8c)), (9, (Value.int .i64 t_9)), (10, (Value.int .i64 t_10))] (okC sense_Which.c26 (sense_Which.q30 Z Q X1) (by kernel_rfl)) (puts_cons e0 (puts_cons e3 (puts_cons e5 (puts_cons e8 (puts_cons e9 (puts_cons e10 (fun p hp => puts_nil hp))))))) (sense_Which.s28_eq Z Q X1 ρ l_0 l_0n l_0c h_3 best_5 t_8 t_8n t_8c t_9 t_10) he hr h
noncomputable def sense_Which.c32 : Code := blk sense_Which.c25
theorem sense_Which.q33 : sense_Which.c25 = .block 1 sense_Which.c32 := by kernel_rfl
noncomputable def sense_Which.c34 : Code := sq1 sense_Which.c32
noncomputable def sense_Which.c35 : Code := sq2 sense_Which.c32
theorem sense_Which.q36 : sense_Which.c32 = .seq sense_Which.c34 sense_Which.c35 := by kernel_rfl
noncomputable def sense_Which.c37 : Code := blk sense_Which.c35
theorem sense_Which.q38 : sense_Which.c35 = .block 2 sense_Which.c37 := by kernel_rfl
noncomputable def sense_Which.c39 : Code := sq1 sense_Which.c37
noncomputable def sense_Which.c40 : Code := sq2 sense_Which.c37
theorem sense_Which.q41 : sense_Which.c37 = .seq sense_Which.c39 sense_Which.c40 := by kernel_rfl
noncomputable def sense_Which.c42 : Code := cn1 sense_Which.c40
noncomputable def sense_Which.c43 : Code := cn2 sense_Which.c40
theorem sense_Which.q44 : sense_Which.c40 = .cond (.tmp 15) sense_Which.c42 sense_Which.c43 := by kernel_rfl
def sense_Which.s45 (Z : ZT) (Q : Int → PT) (X1 : OA → Nat → Nat → Addr → Int → OA → Nat → Nat → Int → Int → PT) (l_0 : OA) (l_0n l_0c : Nat) (h_3 : Addr) (best_5 : Int) (t_8 : OA) (t_8n t_8c : Nat) (t_9 : Int) (t_10 : Int) : PT :=
  (sense_Which.s28 Z Q X1 l_0 l_0n l_0c h_3 best_5 t_8 t_8n t_8c t_9 t_10)
def sense_Which.q46 (Z : ZT) (Q : Int → PT) (X1 : OA → Nat → Nat → Addr → Int → OA → Nat → Nat → Int → Int → PT) : QF := thenK (sense_Which.j31 Z Q X1) (sense_Which.q30 Z Q X1)
def sense_Which.q47 (Z : ZT) (Q : Int → PT) (X1 : OA → Nat → Nat → Addr → Int → OA → Nat → Nat → Int → Int → PT) : QF := inBl 1 (sense_Which.q46 Z Q X1)
def sense_Which.q48 (Z : ZT) (Q : Int → PT) (X1 : OA → Nat → Nat → Addr → Int → OA → Nat → Nat → Int → Int → PT) : QF := inBl 2 (sense_Which.q47 Z Q X1)
theorem sense_Which.s45_eq (Z : ZT) (Q : Int → PT) (X1 : OA → Nat → Nat → Addr → Int → OA → Nat → Nat → Int → Int → PT) (ρ : Fr) (l_0 : OA) (l_0n l_0c : Nat) (h_3 : Addr) (best_5 : Int) (t_8 : OA) (t_8n t_8c : Nat) (t_9 : Int) (t_10 : Int) : comp Tryd.prog Z sense_Which.c42 (sense_Which.q48 Z Q X1) (puts ρ [(0, (Value.slice l_0 l_0n l_0c)), (3, (Value.pointer (some h_3))), (5, (Value.int .i64 best_5)), (8, (Value.slice t_8 t_8n t_8c)), (9, (Value.int .i64 t_9)), (10, (Value.int .i64 t_10))]) = sense_Which.s45 Z Q X1 l_0 l_0n l_0c h_3 best_5 t_8 t_8n t_8c t_9 t_10 := by kernel_rfl
def sense_Which.j49 (Z : ZT) (Q : Int → PT) (X1 : OA → Nat → Nat → Addr → Int → OA → Nat → Nat → Int → Int → PT) : Fr → PT := (fun ρ => atL (ρ 0) fun l_0 l_0n l_0c => atA (ρ 3) fun h_3 => atI .i64 (ρ 5) fun best_5 => atL (ρ 8) fun t_8 t_8n t_8c => atI .i64 (ρ 9) fun t_9 => atI .i64 (ρ 10) fun t_10 => (sense_Which.s45 Z Q X1 l_0 l_0n l_0c h_3 best_5 t_8 t_8n t_8c t_9 t_10))
theorem sense_Which.s45_ok (Z : ZT) (Q : Int → PT) (X1 : OA → Nat → Nat → Addr → Int → OA → Nat → Nat → Int → Int → PT) : Ok Tryd.prog Tryd.f20.ntmps Z sense_Which.c42 (sense_Which.q48 Z Q X1) (sense_Which.j49 Z Q X1) := by
  intro E he ρ w a hr h
  obtain ⟨l_0, l_0n, l_0c, e0, h⟩ := atL_e h
  obtain ⟨h_3, e3, h⟩ := atA_e h
  obtain ⟨best_5, e5, h⟩ := atI_e h
  obtain ⟨t_8, t_8n, t_8c, e8, h⟩ := atL_e h
  obtain ⟨t_9, e9, h⟩ := atI_e h
  obtain ⟨t_10, e10, h⟩ := atI_e h
  exact ok_at [(0, (Value.slice l_0 l_0n l_0c)), (3, (Value.pointer (some h_3))), (5, (Value.int .i64 best_5)), (8, (Value.slice t_8 t_8n t_8c)), (9, (Value.int .i64 t_9)), (10, (Value.int .i64 t_10))] (okC sense_Which.c42 (sense_Which.q48 Z Q X1) (by kernel_rfl)) (puts_cons e0 (puts_cons e3 (puts_cons e5 (puts_cons e8 (puts_cons e9 (puts_cons e10 (fun p hp => puts_nil hp))))))) (sense_Which.s45_eq Z Q X1 ρ l_0 l_0n l_0c h_3 best_5 t_8 t_8n t_8c t_9 t_10) he hr h
noncomputable def sense_Which.c50 : Code := sq1 sense_Which.c43
noncomputable def sense_Which.c51 : Code := sq2 sense_Which.c43
theorem sense_Which.q52 : sense_Which.c43 = .seq sense_Which.c50 sense_Which.c51 := by kernel_rfl
def sense_Which.s53 (Z : ZT) (Q : Int → PT) (X1 : OA → Nat → Nat → Addr → Int → OA → Nat → Nat → Int → Int → PT) (l_0 : OA) (l_0n l_0c : Nat) (h_3 : Addr) (best_5 : Int) (i_6 : Int) (x_7 : Addr) (t_8 : OA) (t_8n t_8c : Nat) (t_9 : Int) (t_10 : Int) (t_20 : Bool) : PT :=
  (pif t_20 (sense_Which.s28 Z Q X1 l_0 l_0n l_0c h_3 i_6 t_8 t_8n t_8c t_9 t_10) (drew0 (ldB (x_7.add 0) fun v88 => (pif (!v88) (ldI .i64 (x_7.add 1) fun v89 => (ixS l_0 l_0n best_5 12 fun v90 => (ldI .i64 (v90.add 1) fun v91 => (pif (decide (v89 > v91)) (sense_Which.s28 Z Q X1 l_0 l_0n l_0c h_3 i_6 t_8 t_8n t_8c t_9 t_10) (sense_Which.s28 Z Q X1 l_0 l_0n l_0c h_3 best_5 t_8 t_8n t_8c t_9 t_10))))) (sense_Which.s28 Z Q X1 l_0 l_0n l_0c h_3 best_5 t_8 t_8n t_8c t_9 t_10)))))
theorem sense_Which.s53_eq (Z : ZT) (Q : Int → PT) (X1 : OA → Nat → Nat → Addr → Int → OA → Nat → Nat → Int → Int → PT) (ρ : Fr) (l_0 : OA) (l_0n l_0c : Nat) (h_3 : Addr) (best_5 : Int) (i_6 : Int) (x_7 : Addr) (t_8 : OA) (t_8n t_8c : Nat) (t_9 : Int) (t_10 : Int) (t_20 : Bool) : comp Tryd.prog Z sense_Which.c51 (sense_Which.q48 Z Q X1) (puts ρ [(0, (Value.slice l_0 l_0n l_0c)), (3, (Value.pointer (some h_3))), (5, (Value.int .i64 best_5)), (6, (Value.int .i64 i_6)), (7, (Value.pointer (some x_7))), (8, (Value.slice t_8 t_8n t_8c)), (9, (Value.int .i64 t_9)), (10, (Value.int .i64 t_10)), (20, (Value.bool t_20))]) = sense_Which.s53 Z Q X1 l_0 l_0n l_0c h_3 best_5 i_6 x_7 t_8 t_8n t_8c t_9 t_10 t_20 := by kernel_rfl
def sense_Which.j54 (Z : ZT) (Q : Int → PT) (X1 : OA → Nat → Nat → Addr → Int → OA → Nat → Nat → Int → Int → PT) : Fr → PT := (fun ρ => atL (ρ 0) fun l_0 l_0n l_0c => atA (ρ 3) fun h_3 => atI .i64 (ρ 5) fun best_5 => atI .i64 (ρ 6) fun i_6 => atA (ρ 7) fun x_7 => atL (ρ 8) fun t_8 t_8n t_8c => atI .i64 (ρ 9) fun t_9 => atI .i64 (ρ 10) fun t_10 => atB (ρ 20) fun t_20 => (sense_Which.s53 Z Q X1 l_0 l_0n l_0c h_3 best_5 i_6 x_7 t_8 t_8n t_8c t_9 t_10 t_20))
theorem sense_Which.s53_ok (Z : ZT) (Q : Int → PT) (X1 : OA → Nat → Nat → Addr → Int → OA → Nat → Nat → Int → Int → PT) : Ok Tryd.prog Tryd.f20.ntmps Z sense_Which.c51 (sense_Which.q48 Z Q X1) (sense_Which.j54 Z Q X1) := by
  intro E he ρ w a hr h
  obtain ⟨l_0, l_0n, l_0c, e0, h⟩ := atL_e h
  obtain ⟨h_3, e3, h⟩ := atA_e h
  obtain ⟨best_5, e5, h⟩ := atI_e h
  obtain ⟨i_6, e6, h⟩ := atI_e h
  obtain ⟨x_7, e7, h⟩ := atA_e h
  obtain ⟨t_8, t_8n, t_8c, e8, h⟩ := atL_e h
  obtain ⟨t_9, e9, h⟩ := atI_e h
  obtain ⟨t_10, e10, h⟩ := atI_e h
  obtain ⟨t_20, e20, h⟩ := atB_e h
  exact ok_at [(0, (Value.slice l_0 l_0n l_0c)), (3, (Value.pointer (some h_3))), (5, (Value.int .i64 best_5)), (6, (Value.int .i64 i_6)), (7, (Value.pointer (some x_7))), (8, (Value.slice t_8 t_8n t_8c)), (9, (Value.int .i64 t_9)), (10, (Value.int .i64 t_10)), (20, (Value.bool t_20))] (okC sense_Which.c51 (sense_Which.q48 Z Q X1) (by kernel_rfl)) (puts_cons e0 (puts_cons e3 (puts_cons e5 (puts_cons e6 (puts_cons e7 (puts_cons e8 (puts_cons e9 (puts_cons e10 (puts_cons e20 (fun p hp => puts_nil hp)))))))))) (sense_Which.s53_eq Z Q X1 ρ l_0 l_0n l_0c h_3 best_5 i_6 x_7 t_8 t_8n t_8c t_9 t_10 t_20) he hr h
def sense_Which.s55 (Z : ZT) (Q : Int → PT) (X1 : OA → Nat → Nat → Addr → Int → OA → Nat → Nat → Int → Int → PT) (l_0 : OA) (l_0n l_0c : Nat) (h_3 : Addr) (best_5 : Int) (i_6 : Int) (x_7 : Addr) (t_8 : OA) (t_8n t_8c : Nat) (t_9 : Int) (t_10 : Int) : PT :=
  (pif (decide (best_5 < 0)) (sense_Which.s53 Z Q X1 l_0 l_0n l_0c h_3 best_5 i_6 x_7 t_8 t_8n t_8c t_9 t_10 (decide (best_5 < 0))) (ixS l_0 l_0n best_5 12 fun v92 => (ldB (v92.add 0) fun v93 => (pif v93 (ldB (x_7.add 0) fun v94 => (sense_Which.s53 Z Q X1 l_0 l_0n l_0c h_3 best_5 i_6 x_7 t_8 t_8n t_8c t_9 t_10 (!v94))) (sense_Which.s53 Z Q X1 l_0 l_0n l_0c h_3 best_5 i_6 x_7 t_8 t_8n t_8c t_9 t_10 false)))))
theorem sense_Which.s55_eq (Z : ZT) (Q : Int → PT) (X1 : OA → Nat → Nat → Addr → Int → OA → Nat → Nat → Int → Int → PT) (ρ : Fr) (l_0 : OA) (l_0n l_0c : Nat) (h_3 : Addr) (best_5 : Int) (i_6 : Int) (x_7 : Addr) (t_8 : OA) (t_8n t_8c : Nat) (t_9 : Int) (t_10 : Int) : (comp Tryd.prog Z sense_Which.c50 (thenK (sense_Which.j54 Z Q X1) (sense_Which.q48 Z Q X1))) (puts ρ [(0, (Value.slice l_0 l_0n l_0c)), (3, (Value.pointer (some h_3))), (5, (Value.int .i64 best_5)), (6, (Value.int .i64 i_6)), (7, (Value.pointer (some x_7))), (8, (Value.slice t_8 t_8n t_8c)), (9, (Value.int .i64 t_9)), (10, (Value.int .i64 t_10))]) = sense_Which.s55 Z Q X1 l_0 l_0n l_0c h_3 best_5 i_6 x_7 t_8 t_8n t_8c t_9 t_10 := by kernel_rfl
def sense_Which.j56 (Z : ZT) (Q : Int → PT) (X1 : OA → Nat → Nat → Addr → Int → OA → Nat → Nat → Int → Int → PT) : Fr → PT := (fun ρ => atL (ρ 0) fun l_0 l_0n l_0c => atA (ρ 3) fun h_3 => atI .i64 (ρ 5) fun best_5 => atI .i64 (ρ 6) fun i_6 => atA (ρ 7) fun x_7 => atL (ρ 8) fun t_8 t_8n t_8c => atI .i64 (ρ 9) fun t_9 => atI .i64 (ρ 10) fun t_10 => (sense_Which.s55 Z Q X1 l_0 l_0n l_0c h_3 best_5 i_6 x_7 t_8 t_8n t_8c t_9 t_10))
theorem sense_Which.s55_ok (Z : ZT) (Q : Int → PT) (X1 : OA → Nat → Nat → Addr → Int → OA → Nat → Nat → Int → Int → PT) : Ok Tryd.prog Tryd.f20.ntmps Z sense_Which.c43 (sense_Which.q48 Z Q X1) (sense_Which.j56 Z Q X1) := by
  intro E he ρ w a hr h
  rw [sense_Which.q52] at he ⊢
  obtain ⟨l_0, l_0n, l_0c, e0, h⟩ := atL_e h
  obtain ⟨h_3, e3, h⟩ := atA_e h
  obtain ⟨best_5, e5, h⟩ := atI_e h
  obtain ⟨i_6, e6, h⟩ := atI_e h
  obtain ⟨x_7, e7, h⟩ := atA_e h
  obtain ⟨t_8, t_8n, t_8c, e8, h⟩ := atL_e h
  obtain ⟨t_9, e9, h⟩ := atI_e h
  obtain ⟨t_10, e10, h⟩ := atI_e h
  exact ok_at [(0, (Value.slice l_0 l_0n l_0c)), (3, (Value.pointer (some h_3))), (5, (Value.int .i64 best_5)), (6, (Value.int .i64 i_6)), (7, (Value.pointer (some x_7))), (8, (Value.slice t_8 t_8n t_8c)), (9, (Value.int .i64 t_9)), (10, (Value.int .i64 t_10))] (ok_seq (okC sense_Which.c50 _ (by kernel_rfl)) (sense_Which.s53_ok Z Q X1)) (puts_cons e0 (puts_cons e3 (puts_cons e5 (puts_cons e6 (puts_cons e7 (puts_cons e8 (puts_cons e9 (puts_cons e10 (fun p hp => puts_nil hp))))))))) (sense_Which.s55_eq Z Q X1 ρ l_0 l_0n l_0c h_3 best_5 i_6 x_7 t_8 t_8n t_8c t_9 t_10) he hr h
theorem sense_Which.o57 (Z : ZT) (Q : Int → PT) (X1 : OA → Nat → Nat → Addr → Int → OA → Nat → Nat → Int → Int → PT) : Ok Tryd.prog Tryd.f20.ntmps Z sense_Which.c40 (sense_Which.q48 Z Q X1) (condJ (.tmp 15) (sense_Which.j49 Z Q X1) (sense_Which.j56 Z Q X1)) := by
  rw [sense_Which.q44]; exact ok_cond (sense_Which.s45_ok Z Q X1) (sense_Which.s55_ok Z Q X1)
def sense_Which.s58 (Z : ZT) (Q : Int → PT) (X1 : OA → Nat → Nat → Addr → Int → OA → Nat → Nat → Int → Int → PT) (l_0 : OA) (l_0n l_0c : Nat) (h_3 : Addr) (best_5 : Int) (i_6 : Int) (x_7 : Addr) (t_8 : OA) (t_8n t_8c : Nat) (t_9 : Int) (t_10 : Int) : PT :=
  (ldN 12 x_7 fun v95 => (ldN 13 h_3 fun v96 => (cal Tryd.prog Z 18 [(Value.agg ⟨v95⟩), (Value.agg ⟨v96⟩)] (isB fun v97 => (pif (!v97) (sense_Which.s45 Z Q X1 l_0 l_0n l_0c h_3 best_5 t_8 t_8n t_8c t_9 t_10) (sense_Which.s55 Z Q X1 l_0 l_0n l_0c h_3 best_5 i_6 x_7 t_8 t_8n t_8c t_9 t_10))))))
theorem sense_Which.s58_eq (Z : ZT) (Q : Int → PT) (X1 : OA → Nat → Nat → Addr → Int → OA → Nat → Nat → Int → Int → PT) (ρ : Fr) (l_0 : OA) (l_0n l_0c : Nat) (h_3 : Addr) (best_5 : Int) (i_6 : Int) (x_7 : Addr) (t_8 : OA) (t_8n t_8c : Nat) (t_9 : Int) (t_10 : Int) : (comp Tryd.prog Z sense_Which.c39 (thenK (condJ (.tmp 15) (sense_Which.j49 Z Q X1) (sense_Which.j56 Z Q X1)) (sense_Which.q48 Z Q X1))) (puts ρ [(0, (Value.slice l_0 l_0n l_0c)), (3, (Value.pointer (some h_3))), (5, (Value.int .i64 best_5)), (6, (Value.int .i64 i_6)), (7, (Value.pointer (some x_7))), (8, (Value.slice t_8 t_8n t_8c)), (9, (Value.int .i64 t_9)), (10, (Value.int .i64 t_10))]) = sense_Which.s58 Z Q X1 l_0 l_0n l_0c h_3 best_5 i_6 x_7 t_8 t_8n t_8c t_9 t_10 := by kernel_rfl
def sense_Which.j59 (Z : ZT) (Q : Int → PT) (X1 : OA → Nat → Nat → Addr → Int → OA → Nat → Nat → Int → Int → PT) : Fr → PT := (fun ρ => atL (ρ 0) fun l_0 l_0n l_0c => atA (ρ 3) fun h_3 => atI .i64 (ρ 5) fun best_5 => atI .i64 (ρ 6) fun i_6 => atA (ρ 7) fun x_7 => atL (ρ 8) fun t_8 t_8n t_8c => atI .i64 (ρ 9) fun t_9 => atI .i64 (ρ 10) fun t_10 => (sense_Which.s58 Z Q X1 l_0 l_0n l_0c h_3 best_5 i_6 x_7 t_8 t_8n t_8c t_9 t_10))
theorem sense_Which.s58_ok (Z : ZT) (Q : Int → PT) (X1 : OA → Nat → Nat → Addr → Int → OA → Nat → Nat → Int → Int → PT) : Ok Tryd.prog Tryd.f20.ntmps Z sense_Which.c37 (sense_Which.q48 Z Q X1) (sense_Which.j59 Z Q X1) := by
  intro E he ρ w a hr h
  rw [sense_Which.q41] at he ⊢
  obtain ⟨l_0, l_0n, l_0c, e0, h⟩ := atL_e h
  obtain ⟨h_3, e3, h⟩ := atA_e h
  obtain ⟨best_5, e5, h⟩ := atI_e h
  obtain ⟨i_6, e6, h⟩ := atI_e h
  obtain ⟨x_7, e7, h⟩ := atA_e h
  obtain ⟨t_8, t_8n, t_8c, e8, h⟩ := atL_e h
  obtain ⟨t_9, e9, h⟩ := atI_e h
  obtain ⟨t_10, e10, h⟩ := atI_e h
  exact ok_at [(0, (Value.slice l_0 l_0n l_0c)), (3, (Value.pointer (some h_3))), (5, (Value.int .i64 best_5)), (6, (Value.int .i64 i_6)), (7, (Value.pointer (some x_7))), (8, (Value.slice t_8 t_8n t_8c)), (9, (Value.int .i64 t_9)), (10, (Value.int .i64 t_10))] (ok_seq (okC sense_Which.c39 _ (by kernel_rfl)) (sense_Which.o57 Z Q X1)) (puts_cons e0 (puts_cons e3 (puts_cons e5 (puts_cons e6 (puts_cons e7 (puts_cons e8 (puts_cons e9 (puts_cons e10 (fun p hp => puts_nil hp))))))))) (sense_Which.s58_eq Z Q X1 ρ l_0 l_0n l_0c h_3 best_5 i_6 x_7 t_8 t_8n t_8c t_9 t_10) he hr h
theorem sense_Which.o60 (Z : ZT) (Q : Int → PT) (X1 : OA → Nat → Nat → Addr → Int → OA → Nat → Nat → Int → Int → PT) : Ok Tryd.prog Tryd.f20.ntmps Z sense_Which.c35 (sense_Which.q47 Z Q X1) (sense_Which.j59 Z Q X1) := by
  rw [sense_Which.q38]; exact ok_block (sense_Which.s58_ok Z Q X1)
def sense_Which.s61 (Z : ZT) (Q : Int → PT) (X1 : OA → Nat → Nat → Addr → Int → OA → Nat → Nat → Int → Int → PT) (l_0 : OA) (l_0n l_0c : Nat) (h_3 : Addr) (best_5 : Int) (t_8 : OA) (t_8n t_8c : Nat) (t_9 : Int) (t_10 : Int) : PT :=
  (ixS t_8 t_8n t_10 12 fun v98 => (ldN 12 v98 fun v99 => (newC 35 [(Value.bool false), (Value.int .i64 0), (Value.int .u32 0), (Value.int .i64 0), (Value.int .u32 0), (Value.int .i64 0), (Value.int .i64 0), (Value.int .i64 0), (Value.int .i64 0), (Value.int .i64 0), (Value.int .i64 0), (Value.int .i64 0)] fun x100 => (stN 12 x100 v99 (sense_Which.s58 Z Q X1 l_0 l_0n l_0c h_3 best_5 t_10 x100 t_8 t_8n t_8c t_9 t_10)))))
theorem sense_Which.s61_eq (Z : ZT) (Q : Int → PT) (X1 : OA → Nat → Nat → Addr → Int → OA → Nat → Nat → Int → Int → PT) (ρ : Fr) (l_0 : OA) (l_0n l_0c : Nat) (h_3 : Addr) (best_5 : Int) (t_8 : OA) (t_8n t_8c : Nat) (t_9 : Int) (t_10 : Int) : (comp Tryd.prog Z sense_Which.c34 (thenK (sense_Which.j59 Z Q X1) (sense_Which.q47 Z Q X1))) (puts ρ [(0, (Value.slice l_0 l_0n l_0c)), (3, (Value.pointer (some h_3))), (5, (Value.int .i64 best_5)), (8, (Value.slice t_8 t_8n t_8c)), (9, (Value.int .i64 t_9)), (10, (Value.int .i64 t_10))]) = sense_Which.s61 Z Q X1 l_0 l_0n l_0c h_3 best_5 t_8 t_8n t_8c t_9 t_10 := by kernel_rfl
def sense_Which.j62 (Z : ZT) (Q : Int → PT) (X1 : OA → Nat → Nat → Addr → Int → OA → Nat → Nat → Int → Int → PT) : Fr → PT := (fun ρ => atL (ρ 0) fun l_0 l_0n l_0c => atA (ρ 3) fun h_3 => atI .i64 (ρ 5) fun best_5 => atL (ρ 8) fun t_8 t_8n t_8c => atI .i64 (ρ 9) fun t_9 => atI .i64 (ρ 10) fun t_10 => (sense_Which.s61 Z Q X1 l_0 l_0n l_0c h_3 best_5 t_8 t_8n t_8c t_9 t_10))
theorem sense_Which.s61_ok (Z : ZT) (Q : Int → PT) (X1 : OA → Nat → Nat → Addr → Int → OA → Nat → Nat → Int → Int → PT) : Ok Tryd.prog Tryd.f20.ntmps Z sense_Which.c32 (sense_Which.q47 Z Q X1) (sense_Which.j62 Z Q X1) := by
  intro E he ρ w a hr h
  rw [sense_Which.q36] at he ⊢
  obtain ⟨l_0, l_0n, l_0c, e0, h⟩ := atL_e h
  obtain ⟨h_3, e3, h⟩ := atA_e h
  obtain ⟨best_5, e5, h⟩ := atI_e h
  obtain ⟨t_8, t_8n, t_8c, e8, h⟩ := atL_e h
  obtain ⟨t_9, e9, h⟩ := atI_e h
  obtain ⟨t_10, e10, h⟩ := atI_e h
  exact ok_at [(0, (Value.slice l_0 l_0n l_0c)), (3, (Value.pointer (some h_3))), (5, (Value.int .i64 best_5)), (8, (Value.slice t_8 t_8n t_8c)), (9, (Value.int .i64 t_9)), (10, (Value.int .i64 t_10))] (ok_seq (okC sense_Which.c34 _ (by kernel_rfl)) (sense_Which.o60 Z Q X1)) (puts_cons e0 (puts_cons e3 (puts_cons e5 (puts_cons e8 (puts_cons e9 (puts_cons e10 (fun p hp => puts_nil hp))))))) (sense_Which.s61_eq Z Q X1 ρ l_0 l_0n l_0c h_3 best_5 t_8 t_8n t_8c t_9 t_10) he hr h
theorem sense_Which.o63 (Z : ZT) (Q : Int → PT) (X1 : OA → Nat → Nat → Addr → Int → OA → Nat → Nat → Int → Int → PT) : Ok Tryd.prog Tryd.f20.ntmps Z sense_Which.c25 (sense_Which.q46 Z Q X1) (sense_Which.j62 Z Q X1) := by
  rw [sense_Which.q33]; exact ok_block (sense_Which.s61_ok Z Q X1)
theorem sense_Which.o64 (Z : ZT) (Q : Int → PT) (X1 : OA → Nat → Nat → Addr → Int → OA → Nat → Nat → Int → Int → PT) : Ok Tryd.prog Tryd.f20.ntmps Z sense_Which.c23 (sense_Which.q30 Z Q X1) (sense_Which.j62 Z Q X1) := by
  rw [sense_Which.q27]; exact ok_seq (sense_Which.o63 Z Q X1) (sense_Which.s28_ok Z Q X1)
def sense_Which.s65 (Z : ZT) (Q : Int → PT) (X1 : OA → Nat → Nat → Addr → Int → OA → Nat → Nat → Int → Int → PT) (l_0 : OA) (l_0n l_0c : Nat) (h_3 : Addr) (best_5 : Int) (t_8 : OA) (t_8n t_8c : Nat) (t_9 : Int) (t_10 : Int) : PT :=
  (pif (decide (t_10 < t_9)) (sense_Which.s61 Z Q X1 l_0 l_0n l_0c h_3 best_5 t_8 t_8n t_8c t_9 t_10) (sense_Which.s8 Z Q best_5))
theorem sense_Which.s65_eq (Z : ZT) (Q : Int → PT) (X1 : OA → Nat → Nat → Addr → Int → OA → Nat → Nat → Int → Int → PT) (ρ : Fr) (l_0 : OA) (l_0n l_0c : Nat) (h_3 : Addr) (best_5 : Int) (t_8 : OA) (t_8n t_8c : Nat) (t_9 : Int) (t_10 : Int) : (comp Tryd.prog Z sense_Which.c21 (thenK (comp Tryd.prog Z sense_Which.c22 (thenK (sense_Which.j62 Z Q X1) (sense_Which.q30 Z Q X1))) (sense_Which.q30 Z Q X1))) (puts ρ [(0, (Value.slice l_0 l_0n l_0c)), (3, (Value.pointer (some h_3))), (5, (Value.int .i64 best_5)), (8, (Value.slice t_8 t_8n t_8c)), (9, (Value.int .i64 t_9)), (10, (Value.int .i64 t_10))]) = sense_Which.s65 Z Q X1 l_0 l_0n l_0c h_3 best_5 t_8 t_8n t_8c t_9 t_10 := by kernel_rfl
def sense_Which.j66 (Z : ZT) (Q : Int → PT) (X1 : OA → Nat → Nat → Addr → Int → OA → Nat → Nat → Int → Int → PT) : Fr → PT := (fun ρ => atL (ρ 0) fun l_0 l_0n l_0c => atA (ρ 3) fun h_3 => atI .i64 (ρ 5) fun best_5 => atL (ρ 8) fun t_8 t_8n t_8c => atI .i64 (ρ 9) fun t_9 => atI .i64 (ρ 10) fun t_10 => (sense_Which.s65 Z Q X1 l_0 l_0n l_0c h_3 best_5 t_8 t_8n t_8c t_9 t_10))
theorem sense_Which.s65_ok (Z : ZT) (Q : Int → PT) (X1 : OA → Nat → Nat → Addr → Int → OA → Nat → Nat → Int → Int → PT) : Ok Tryd.prog Tryd.f20.ntmps Z sense_Which.c16 (sense_Which.q30 Z Q X1) (sense_Which.j66 Z Q X1) := by
  intro E he ρ w a hr h
  rw [sense_Which.q24] at he ⊢
  obtain ⟨l_0, l_0n, l_0c, e0, h⟩ := atL_e h
  obtain ⟨h_3, e3, h⟩ := atA_e h
  obtain ⟨best_5, e5, h⟩ := atI_e h
  obtain ⟨t_8, t_8n, t_8c, e8, h⟩ := atL_e h
  obtain ⟨t_9, e9, h⟩ := atI_e h
  obtain ⟨t_10, e10, h⟩ := atI_e h
  exact ok_at [(0, (Value.slice l_0 l_0n l_0c)), (3, (Value.pointer (some h_3))), (5, (Value.int .i64 best_5)), (8, (Value.slice t_8 t_8n t_8c)), (9, (Value.int .i64 t_9)), (10, (Value.int .i64 t_10))] (ok_seq (okC sense_Which.c21 _ (by kernel_rfl)) (ok_seq (okC sense_Which.c22 _ (by kernel_rfl)) (sense_Which.o64 Z Q X1))) (puts_cons e0 (puts_cons e3 (puts_cons e5 (puts_cons e8 (puts_cons e9 (puts_cons e10 (fun p hp => puts_nil hp))))))) (sense_Which.s65_eq Z Q X1 ρ l_0 l_0n l_0c h_3 best_5 t_8 t_8n t_8c t_9 t_10) he hr h
def sense_Which.l18 (Z : ZT) (Q : Int → PT) : Nat → OA → Nat → Nat → Addr → Int → OA → Nat → Nat → Int → Int → PT
  | 0, _, _, _, _, _, _, _, _, _, _ => bad
  | k + 1, l_0, l_0n, l_0c, h_3, best_5, t_8, t_8n, t_8c, t_9, t_10 => (sense_Which.s65 Z Q (sense_Which.l18 Z Q k) l_0 l_0n l_0c h_3 best_5 t_8 t_8n t_8c t_9 t_10)
def sense_Which.j67 (Z : ZT) (Q : Int → PT) (k : Nat) : Fr → PT := (fun ρ => atL (ρ 0) fun l_0 l_0n l_0c => atA (ρ 3) fun h_3 => atI .i64 (ρ 5) fun best_5 => atL (ρ 8) fun t_8 t_8n t_8c => atI .i64 (ρ 9) fun t_9 => atI .i64 (ρ 10) fun t_10 => (sense_Which.l18 Z Q k l_0 l_0n l_0c h_3 best_5 t_8 t_8n t_8c t_9 t_10))
def sense_Which.j68 (Z : ZT) (Q : Int → PT) : Fr → PT := (fun ρ => atL (ρ 0) fun l_0 l_0n l_0c => atA (ρ 3) fun h_3 => atI .i64 (ρ 5) fun best_5 => atL (ρ 8) fun t_8 t_8n t_8c => atI .i64 (ρ 9) fun t_9 => atI .i64 (ρ 10) fun t_10 => (exK fun k => sense_Which.l18 Z Q k l_0 l_0n l_0c h_3 best_5 t_8 t_8n t_8c t_9 t_10))
theorem sense_Which.o69 (Z : ZT) (Q : Int → PT) : Ok Tryd.prog Tryd.f20.ntmps Z sense_Which.c14 (sense_Which.q20 Z Q) (sense_Which.j68 Z Q) := by
  rw [sense_Which.q17]
  refine Ok.imp (ok_loop (J := sense_Which.j67 Z Q) ?_ ?_) ?_
  · intro ρ w h
    obtain ⟨l_0, l_0n, l_0c, e0, h⟩ := atL_e h
    obtain ⟨h_3, e3, h⟩ := atA_e h
    obtain ⟨best_5, e5, h⟩ := atI_e h
    obtain ⟨t_8, t_8n, t_8c, e8, h⟩ := atL_e h
    obtain ⟨t_9, e9, h⟩ := atI_e h
    obtain ⟨t_10, e10, h⟩ := atI_e h
    exact h
  · intro k
    refine Ok.imp (sense_Which.s65_ok Z Q (sense_Which.l18 Z Q k)) fun ρ w h => ?_
    obtain ⟨l_0, l_0n, l_0c, e0, h⟩ := atL_e h
    obtain ⟨h_3, e3, h⟩ := atA_e h
    obtain ⟨best_5, e5, h⟩ := atI_e h
    obtain ⟨t_8, t_8n, t_8c, e8, h⟩ := atL_e h
    obtain ⟨t_9, e9, h⟩ := atI_e h
    obtain ⟨t_10, e10, h⟩ := atI_e h
    show (sense_Which.j66 Z Q (sense_Which.l18 Z Q k)) ρ w
    simp only [sense_Which.j66]
    rw [e0]
    rw [e3]
    rw [e5]
    rw [e8]
    rw [e9]
    rw [e10]
    exact h
  · intro ρ w h
    obtain ⟨l_0, l_0n, l_0c, e0, h⟩ := atL_e h
    obtain ⟨h_3, e3, h⟩ := atA_e h
    obtain ⟨best_5, e5, h⟩ := atI_e h
    obtain ⟨t_8, t_8n, t_8c, e8, h⟩ := atL_e h
    obtain ⟨t_9, e9, h⟩ := atI_e h
    obtain ⟨t_10, e10, h⟩ := atI_e h
    obtain ⟨k, h⟩ := h
    refine ⟨k, ?_⟩
    show (atL (ρ 0) fun l_0 l_0n l_0c => atA (ρ 3) fun h_3 => atI .i64 (ρ 5) fun best_5 => atL (ρ 8) fun t_8 t_8n t_8c => atI .i64 (ρ 9) fun t_9 => atI .i64 (ρ 10) fun t_10 => (sense_Which.l18 Z Q k l_0 l_0n l_0c h_3 best_5 t_8 t_8n t_8c t_9 t_10)) w
    rw [e0]
    rw [e3]
    rw [e5]
    rw [e8]
    rw [e9]
    rw [e10]
    exact h
theorem sense_Which.o70 (Z : ZT) (Q : Int → PT) : Ok Tryd.prog Tryd.f20.ntmps Z sense_Which.c12 (sense_Which.q19 Z Q) (sense_Which.j68 Z Q) := by
  rw [sense_Which.q15]; exact ok_block (sense_Which.o69 Z Q)
def sense_Which.s71 (Z : ZT) (Q : Int → PT) (l_0 : OA) (l_0n l_0c : Nat) (h_3 : Addr) (best_5 : Int) : PT :=
  (exK fun k => sense_Which.l18 Z Q k l_0 l_0n l_0c h_3 best_5 l_0 l_0n l_0c ((l_0n : Nat) : Int) 0)
theorem sense_Which.s71_eq (Z : ZT) (Q : Int → PT) (ρ : Fr) (l_0 : OA) (l_0n l_0c : Nat) (h_3 : Addr) (best_5 : Int) : (comp Tryd.prog Z sense_Which.c11 (thenK (sense_Which.j68 Z Q) (sense_Which.q19 Z Q))) (puts ρ [(0, (Value.slice l_0 l_0n l_0c)), (3, (Value.pointer (some h_3))), (5, (Value.int .i64 best_5))]) = sense_Which.s71 Z Q l_0 l_0n l_0c h_3 best_5 := by kernel_rfl
def sense_Which.j72 (Z : ZT) (Q : Int → PT) : Fr → PT := (fun ρ => atL (ρ 0) fun l_0 l_0n l_0c => atA (ρ 3) fun h_3 => atI .i64 (ρ 5) fun best_5 => (sense_Which.s71 Z Q l_0 l_0n l_0c h_3 best_5))
theorem sense_Which.s71_ok (Z : ZT) (Q : Int → PT) : Ok Tryd.prog Tryd.f20.ntmps Z sense_Which.c5 (sense_Which.q19 Z Q) (sense_Which.j72 Z Q) := by
  intro E he ρ w a hr h
  rw [sense_Which.q13] at he ⊢
  obtain ⟨l_0, l_0n, l_0c, e0, h⟩ := atL_e h
  obtain ⟨h_3, e3, h⟩ := atA_e h
  obtain ⟨best_5, e5, h⟩ := atI_e h
  exact ok_at [(0, (Value.slice l_0 l_0n l_0c)), (3, (Value.pointer (some h_3))), (5, (Value.int .i64 best_5))] (ok_seq (okC sense_Which.c11 _ (by kernel_rfl)) (sense_Which.o70 Z Q)) (puts_cons e0 (puts_cons e3 (puts_cons e5 (fun p hp => puts_nil hp)))) (sense_Which.s71_eq Z Q ρ l_0 l_0n l_0c h_3 best_5) he hr h
theorem sense_Which.o73 (Z : ZT) (Q : Int → PT) : Ok Tryd.prog Tryd.f20.ntmps Z sense_Which.c3 (sense_Which.q9 Z Q) (sense_Which.j72 Z Q) := by
  rw [sense_Which.q7]; exact ok_seq (sense_Which.s71_ok Z Q) (sense_Which.s8_ok Z Q)
def sense_Which.s74 (Z : ZT) (Q : Int → PT) (l_0 : OA) (l_0n l_0c : Nat) (h_1 : List Value) : PT :=
  (newC 37 h_1 fun h101 => (sense_Which.s71 Z Q l_0 l_0n l_0c h101 (-1)))
theorem sense_Which.s74_eq (Z : ZT) (Q : Int → PT) (ρ : Fr) (l_0 : OA) (l_0n l_0c : Nat) (h_1 : List Value) : (comp Tryd.prog Z sense_Which.c1 (thenK (comp Tryd.prog Z sense_Which.c2 (thenK (sense_Which.j72 Z Q) (sense_Which.q9 Z Q))) (sense_Which.q9 Z Q))) (puts ρ [(0, (Value.slice l_0 l_0n l_0c)), (1, (Value.agg ⟨h_1⟩))]) = sense_Which.s74 Z Q l_0 l_0n l_0c h_1 := by kernel_rfl
def sense_Which.j75 (Z : ZT) (Q : Int → PT) : Fr → PT := (fun ρ => atL (ρ 0) fun l_0 l_0n l_0c => atN (ρ 1) fun h_1 => (sense_Which.s74 Z Q l_0 l_0n l_0c h_1))
theorem sense_Which.s74_ok (Z : ZT) (Q : Int → PT) : Ok Tryd.prog Tryd.f20.ntmps Z sense_Which.body (sense_Which.q9 Z Q) (sense_Which.j75 Z Q) := by
  intro E he ρ w a hr h
  rw [sense_Which.q4] at he ⊢
  obtain ⟨l_0, l_0n, l_0c, e0, h⟩ := atL_e h
  obtain ⟨h_1, e1, h⟩ := atN_e h
  exact ok_at [(0, (Value.slice l_0 l_0n l_0c)), (1, (Value.agg ⟨h_1⟩))] (ok_seq (okC sense_Which.c1 _ (by kernel_rfl)) (ok_seq (okC sense_Which.c2 _ (by kernel_rfl)) (sense_Which.o73 Z Q))) (puts_cons e0 (puts_cons e1 (fun p hp => puts_nil hp))) (sense_Which.s74_eq Z Q ρ l_0 l_0n l_0c h_1) he hr h
def sense_Which.F (Z : ZT) (Q : Int → PT) (l_0 : OA) (l_0n l_0c : Nat) (h_1 : List Value) : PT :=
  (sense_Which.s74 Z Q l_0 l_0n l_0c h_1)
theorem sense_Which.vc (Z : ZT) (Q : Int → PT) (l_0 : OA) (l_0n l_0c : Nat) (h_1 : List Value) (w : World) (h : sense_Which.F Z Q l_0 l_0n l_0c h_1 w) : Calls Tryd.prog 20 ⟨[(Value.slice l_0 l_0n l_0c), (Value.agg ⟨h_1⟩)]⟩ w fun e w' => (∃ (r0 : Int), e = .returned (.int .i64 r0) ∧ Q r0 w') ∨ ∃ c, e = .panicked c ∧ Z c w' := by
  refine (calls_of_ok (args := [(Value.slice l_0 l_0n l_0c), (Value.agg ⟨h_1⟩)]) (w := w) (rs := [.tmp 4]) (fn := Tryd.f20) (c := sense_Which.body) Tryd.func20 (by kernel_rfl) (by kernel_rfl) (Nat.le_of_ble_eq_true (by kernel_rfl)) (sense_Which.s74_ok Z Q) (h)).mono fun e w' hR => ?_
  cases e with
  | returned v =>
    obtain ⟨va, rfl, hR⟩ := atI_e hR
    exact .inl ⟨va, rfl, hR⟩
  | panicked c => exact .inr ⟨c, rfl, hR⟩
  | outgrown => exact hR.elim
theorem sense_Which.vc0 (Q : Int → PT) (l_0 : OA) (l_0n l_0c : Nat) (h_1 : List Value) (w : World) (h : sense_Which.F Z0 Q l_0 l_0n l_0c h_1 w) : Calls Tryd.prog 20 ⟨[(Value.slice l_0 l_0n l_0c), (Value.agg ⟨h_1⟩)]⟩ w fun e w' => (∃ (r0 : Int), e = .returned (.int .i64 r0) ∧ Q r0 w') :=
  (sense_Which.vc Z0 Q l_0 l_0n l_0c h_1 w h).mono fun _ _ hR => hR.elim id fun ⟨_, _, hz⟩ => hz.elim
theorem sense_Which.cal {Z : ZT} {Q : Int → PT} {l_0 : OA} {l_0n l_0c : Nat} {h_1 : List Value} {w : World} (h : sense_Which.F Z Q l_0 l_0n l_0c h_1 w) : Go.Proofs.YtllgjjldnnmjkaaDoor.cal Tryd.prog Z 20 [(Value.slice l_0 l_0n l_0c), (Value.agg ⟨h_1⟩)] (isI .i64 fun r0 => Q r0) w := by
  refine (sense_Which.vc Z Q l_0 l_0n l_0c h_1 w h).mono fun e w' hR => ?_
  rcases hR with ⟨r0, rfl, h⟩ | ⟨c, rfl, h⟩
  · show (isI .i64 fun r0 => Q r0) (.int .i64 r0) w'
    exact ⟨_, rfl, h⟩
  · exact h

/-! ### milepost/sense.Says: function 21 -/
noncomputable def sense_Says.body : Code := bodyC Tryd.f21
def sense_Says.F (Z : ZT) (Q : Int → Bool → PT) (l_0 : OA) (l_0n l_0c : Nat) (h_1 : List Value) : PT :=
  (newC 37 h_1 fun h8 => (ldN 13 h8 fun v9 => (cal Tryd.prog Z 20 [(Value.slice l_0 l_0n l_0c), (Value.agg ⟨v9⟩)] (isI .i64 fun v10 => (pif (decide (v10 < 0)) (Q 0 false) (ixS l_0 l_0n v10 12 fun v11 => (ldI .i64 (v11.add 11) fun v12 => (Q v12 true))))))))
def sense_Says.q1 (Z : ZT) (Q : Int → Bool → PT) : QF := bodyQ Tryd.prog [.tmp 4, .tmp 5] (fun v => at2 v fun x y => atI .i64 x fun xa => atB y fun ya => Q xa ya)
theorem sense_Says.eq (Z : ZT) (Q : Int → Bool → PT) (l_0 : OA) (l_0n l_0c : Nat) (h_1 : List Value) : comp Tryd.prog Z sense_Says.body (sense_Says.q1 Z Q) (fr0 [(Value.slice l_0 l_0n l_0c), (Value.agg ⟨h_1⟩)]) = sense_Says.F Z Q l_0 l_0n l_0c h_1 := by kernel_rfl
theorem sense_Says.vc (Z : ZT) (Q : Int → Bool → PT) (l_0 : OA) (l_0n l_0c : Nat) (h_1 : List Value) (w : World) (h : sense_Says.F Z Q l_0 l_0n l_0c h_1 w) : Calls Tryd.prog 21 ⟨[(Value.slice l_0 l_0n l_0c), (Value.agg ⟨h_1⟩)]⟩ w fun e w' => (∃ (r0 : Int) (r1 : Bool), e = .returned (.tuple #[.int .i64 r0, .bool r1]) ∧ Q r0 r1 w') ∨ ∃ c, e = .panicked c ∧ Z c w' := by
  refine (calls_of_ok (args := [(Value.slice l_0 l_0n l_0c), (Value.agg ⟨h_1⟩)]) (w := w) (rs := [.tmp 4, .tmp 5]) (fn := Tryd.f21) (c := sense_Says.body) Tryd.func21 (by kernel_rfl) (by kernel_rfl) (Nat.le_of_ble_eq_true (by kernel_rfl)) (okC sense_Says.body (sense_Says.q1 Z Q) (by kernel_rfl)) (by rw [sense_Says.eq]; exact h)).mono fun e w' hR => ?_
  cases e with
  | returned v =>
    obtain ⟨x, y, rfl, hR⟩ := at2_e hR
    obtain ⟨xa, rfl, hR⟩ := atI_e hR
    obtain ⟨ya, rfl, hR⟩ := atB_e hR
    exact .inl ⟨xa, ya, rfl, hR⟩
  | panicked c => exact .inr ⟨c, rfl, hR⟩
  | outgrown => exact hR.elim
theorem sense_Says.vc0 (Q : Int → Bool → PT) (l_0 : OA) (l_0n l_0c : Nat) (h_1 : List Value) (w : World) (h : sense_Says.F Z0 Q l_0 l_0n l_0c h_1 w) : Calls Tryd.prog 21 ⟨[(Value.slice l_0 l_0n l_0c), (Value.agg ⟨h_1⟩)]⟩ w fun e w' => (∃ (r0 : Int) (r1 : Bool), e = .returned (.tuple #[.int .i64 r0, .bool r1]) ∧ Q r0 r1 w') :=
  (sense_Says.vc Z0 Q l_0 l_0n l_0c h_1 w h).mono fun _ _ hR => hR.elim id fun ⟨_, _, hz⟩ => hz.elim
theorem sense_Says.cal {Z : ZT} {Q : Int → Bool → PT} {l_0 : OA} {l_0n l_0c : Nat} {h_1 : List Value} {w : World} (h : sense_Says.F Z Q l_0 l_0n l_0c h_1 w) : Go.Proofs.YtllgjjldnnmjkaaDoor.cal Tryd.prog Z 21 [(Value.slice l_0 l_0n l_0c), (Value.agg ⟨h_1⟩)] (isT2 fun x y => (isI .i64 fun r0 => (isB fun r1 => Q r0 r1) y) x) w := by
  refine (sense_Says.vc Z Q l_0 l_0n l_0c h_1 w h).mono fun e w' hR => ?_
  rcases hR with ⟨r0, r1, rfl, h⟩ | ⟨c, rfl, h⟩
  · show (isT2 fun x y => (isI .i64 fun r0 => (isB fun r1 => Q r0 r1) y) x) (.tuple #[.int .i64 r0, .bool r1]) w'
    exact ⟨_, _, rfl, ⟨_, rfl, ⟨_, rfl, h⟩⟩⟩
  · exact h

end Go.Proofs.YtllgjjldnnmjkaaDoor
end
section
set_option maxRecDepth 100000
namespace Go.Proofs.YtllgjjldnnmjkaaDoor
open Go.RowKit
section
variable {Z : List PanicEntry → PT} {S : Nat → Prop} {w0 w : World} {L : List Fct}
theorem within_cal {K : List Value → PT} {n : Fg} {lo hi : Int} (hk : ∀ w', Ext w w' → K (snWithin n lo hi).enc w') : cal Tryd.prog Z 29 [.agg ⟨n.enc⟩, .int .i64 lo, .int .i64 hi] (isN fun v => K v) w := by
  refine sense_within.cal ?_
  unfold sense_within.F
  refine (Sep.start (fun _ => False) w).new fun w1 b1 h1 k1 => ?_
  refine h1.new fun w2 b2 h2 k2 => ?_
  simp only [add_mk, Nat.zero_add]
  refine h2.ldI 1 (x := n.n) rfl rfl ?_
  have fin : ∀ (f : Ft), f = snWithin n lo hi → stN 2 ⟨b2, 0, none⟩ f.enc (ldN 2 ⟨b2, 0, none⟩ fun v => K v) w2 := fun f hf => by
    refine h2.stN 0 rfl (by simp) rfl (Ft.enc_one f) (lay_full rfl rfl) fun w3 h3 k3 => ?_
    refine h3.ldN 0 rfl (vs := f.enc) rfl rfl ?_
    rw [hf]
    exact hk w3 h3.kept
  rw [pif_dec]
  split
  · rename_i h
    refine h2.ldI 1 (x := n.pos) rfl rfl ?_
    exact fin ⟨10, n.pos⟩ (by unfold snWithin; rw [if_pos h])
  · rename_i h
    refine h2.ldI 1 (x := n.n) rfl rfl ?_
    rw [pif_dec]
    split
    · rename_i h'
      refine h2.ldI 1 (x := n.pos) rfl rfl ?_
      exact fin ⟨10, n.pos⟩ (by unfold snWithin; rw [if_neg h, if_pos h'])
    · rename_i h'
      exact fin ft0 (by unfold snWithin; rw [if_neg h, if_neg h'])
theorem first_loop {Q : List Value → PT} {a : Option Addr} {n c tb : Nat} {fs : List Ft} {R : Ft} (hr : Ro w0 2 Ft.enc a n c fs) (hq : ∀ w', Ext w0 w' → Q R.enc w') :
    ∀ (m j : Nat) (w : World), fs.length = j + m → snFirst (fs.drop j) = R → Sep (fun _ => False) w0 w [fB tb ft0.enc] → sense_first.l17 Z Q (m + 1) ⟨tb, 0, none⟩ a n c ((n : Nat) : Int) j w := by
  have hmax := hr.max
  have hn := hr.1
  have fin : ∀ (f : Ft) (w : World), f = R → Sep (fun _ => False) w0 w [fB tb ft0.enc] → stN 2 ⟨tb, 0, none⟩ f.enc (ldN 2 ⟨tb, 0, none⟩ fun v => Q v) w := fun f w hf h => by
    refine h.stN 0 rfl (by simp [Ft.enc]) rfl (Ft.enc_one f) (lay_full rfl rfl) fun w3 h3 k3 => ?_
    refine h3.ldN 0 rfl (vs := f.enc) rfl rfl ?_
    rw [hf]
    exact hq w3 h3.kept
  intro m
  induction m with
  | zero =>
    intro j w hm he h
    unfold sense_first.l17 sense_first.s20
    rw [pif_dec, if_neg (by omega)]
    unfold sense_first.s7
    refine fin ft0 w ?_ h
    rw [← he, List.drop_eq_nil_of_le (by omega)]
    rfl
  | succ m ih =>
    intro j w hm he h
    have hx := List.getElem?_eq_getElem (show j < fs.length by omega)
    have hd := List.drop_eq_getElem_cons (show j < fs.length by omega)
    unfold sense_first.l17 sense_first.s20
    rw [pif_dec, if_pos (by omega)]
    refine ixS_Ro (hr.ext h.kept) hx fun ad had => ?_
    refine ldN_at had rfl ?_
    refine h.new fun w1 b1 h1 k1 => ?_
    refine h1.stN 0 rfl (by simp) rfl (Ft.enc_one _) (lay_full rfl rfl) fun w2 h2 k2 => ?_
    simp only [add_mk, Nat.zero_add]
    refine h2.ldI 0 (x := (fs[j]).e) rfl rfl ?_
    rw [hd] at he
    unfold snFirst at he
    rw [pif_bne]
    split
    · rename_i h0
      rw [if_neg (by simpa using h0)] at he
      rw [wrap_nat1 (by omega)]
      exact ih (j + 1) w2 (by omega) he (h2.drop 0)
    · rename_i h0
      rw [if_pos h0] at he
      refine h2.ldN 0 rfl (vs := (fs[j]).enc) rfl rfl ?_
      exact fin _ w2 he (h2.drop 0)
theorem first_cal' {K : List Value → PT} {a : Option Addr} {n c : Nat} {fs : List Ft} (hr : Ro w 2 Ft.enc a n c fs) (hk : ∀ w', Ext w w' → K (snFirst fs).enc w') : cal Tryd.prog Z 83 [.slice a n c] (isN fun v => K v) w := by
  refine sense_first.cal ?_
  unfold sense_first.F sense_first.s31
  refine (Sep.start (fun _ => False) w).new fun w1 b1 h1 k1 => ?_
  unfold sense_first.s28
  exact exK_of (fs.length + 1) (first_loop hr hk fs.length 0 w1 (by omega) rfl h1)
theorem addr_loop {Q : Int → Int → List Value → PT} {tb : Nat} {s : Sl3} {l : List Fg} {R : Int × Int × Ft} (hr : NumsO w0 s l) (hq : ∀ w', Ext w0 w' → Q R.1 R.2.1 R.2.2.enc w') :
    ∀ (m j : Nat) (v b : Int) (w : World), l.length = j + m → snAddr (l.drop j) j v b = R → Sep (fun _ => False) w0 w [fB tb ft0.enc] → sense_address.l19 Z Q (m + 1) ⟨tb, 0, none⟩ v b s.a s.n s.c ((s.n : Nat) : Int) j w := by
  have hmax := hr.max
  have hn := hr.1
  have fin : ∀ (f : Ft) (v b : Int) (w : World), (v, b, f) = R → Sep (fun _ => False) w0 w [fB tb ft0.enc] → stN 2 ⟨tb, 0, none⟩ f.enc (ldN 2 ⟨tb, 0, none⟩ fun u => Q v b u) w := fun f v b w hf h => by
    refine h.stN 0 rfl (by simp [Ft.enc]) rfl (Ft.enc_one f) (lay_full rfl rfl) fun w3 h3 k3 => ?_
    refine h3.ldN 0 rfl (vs := f.enc) rfl rfl ?_
    subst hf
    exact hq w3 h3.kept
  intro m
  induction m with
  | zero =>
    intro j v b w hm he h
    unfold sense_address.l19 sense_address.s48
    rw [pif_dec, if_neg (by omega)]
    unfold sense_address.s9
    refine fin ft0 v b w ?_ h
    rw [← he, List.drop_eq_nil_of_le (by omega)]
    rfl
  | succ m ih =>
    intro j v b w hm he h
    have hx := List.getElem?_eq_getElem (show j < l.length by omega)
    have hd := List.drop_eq_getElem_cons (show j < l.length by omega)
    unfold sense_address.l19 sense_address.s48
    rw [pif_dec, if_pos (by omega)]
    unfold sense_address.s44
    refine ixS_Ro (hr.ext h.kept) hx fun ad had => ?_
    refine ldN_at had rfl ?_
    refine h.new fun w1 nb h1 k1 => ?_
    refine h1.stN 0 rfl (by simp) rfl (Fg.enc_one _) (lay_full rfl rfl) fun w2 h2 k2 => ?_
    rw [hd] at he
    generalize l[j] = x at hx he h2 hd
    unfold snAddr at he
    have step : ∀ (v b hi : Int), (if (snWithin x 0 hi).e ≠ 0 then (0, 0, snWithin x 0 hi) else snAddr (l.drop (j + 1)) (j + 1) v b) = R →
        sense_address.s40 Z Q (sense_address.l19 Z Q (m + 1)) ⟨tb, 0, none⟩ v b ⟨nb, 0, none⟩ hi s.a s.n s.c ((s.n : Nat) : Int) j w2 := fun v b hi he => by
      unfold sense_address.s40
      refine h2.ldN 0 rfl (vs := x.enc) rfl rfl ?_
      refine within_cal fun w3 k3 => ?_
      refine (h2.ext k3).new fun w4 fb h4 k4 => ?_
      refine h4.stN 0 rfl (by simp) rfl (Ft.enc_one _) (lay_full rfl rfl) fun w5 h5 k5 => ?_
      simp only [add_mk, Nat.zero_add]
      refine h5.ldI 0 (x := (snWithin x 0 hi).e) rfl rfl ?_
      rw [pif_bne]
      split
      · rename_i h0
        rw [if_neg (by simpa using h0)] at he
        unfold sense_address.s29
        rw [wrap_nat1 (by omega)]
        exact ih (j + 1) v b w5 (by omega) he ((h5.drop 0).drop 0)
      · rename_i h0
        rw [if_pos h0] at he
        refine h5.drawn (fun w' => IsB w' fb (snWithin x 0 hi).enc) ((h5.drew).at (n := 0) rfl) fun h6 => ?_
        refine hN_of (cs := (snWithin x 0 hi).enc) rfl (fun w' hw' => cellsAt_B hw' rfl) ?_
        exact fin _ 0 0 w5.drew he ((h6.drop 0).drop 0)
    simp only [add_mk, Nat.zero_add]
    rw [pif_beq]
    split
    · rename_i h0
      rw [if_pos (by omega)] at he
      refine h2.ldI 0 (x := x.n) rfl rfl ?_
      exact step v x.n 32 he
    · rename_i h0
      rw [if_neg (by omega)] at he
      refine cnd_of (by decide) ?_
      refine h2.ldI 0 (x := x.n) rfl rfl ?_
      exact step (mixS v x.n) b 255 he
theorem addr_cal {K : Int → Int → List Value → PT} {c : Cl} {s : Sl3} (hr : NumsO w s c.nums) (hk : ∀ w', Ext w w' → K (snAddr c.nums 0 0 32).1 (snAddr c.nums 0 0 32).2.1 (snAddr c.nums 0 0 32).2.2.enc w') :
    cal Tryd.prog Z 76 [.agg ⟨clEnc (c, s)⟩] (isT3 fun x y z => (isI .u32 fun r0 => (isI .i64 fun r1 => (isN fun r2 => K r0 r1 r2) z) y) x) w := by
  refine sense_address.cal ?_
  unfold sense_address.F sense_address.s57
  refine (Sep.start (fun _ => False) w).new fun w1 b1 h1 k1 => ?_
  refine h1.new fun w2 b2 h2 k2 => ?_
  unfold sense_address.s54
  simp only [add_mk, Nat.zero_add]
  refine h2.ldL 1 (x := s.a) (y := s.n) (z := s.c) rfl rfl ?_
  have h3 := h2.sub (M := [fB b2 ft0.enc]) (by simp [ft0, Ft.enc])
  exact exK_of (c.nums.length + 1) (addr_loop hr hk c.nums.length 0 0 32 w2 (by omega) rfl h3)
theorem many_cal {K : Int → PT} {c : Cl} {s : Sl3} (hk : ∀ w', Ext w w' → K (snMany c) w') : cal Tryd.prog Z 48 [.agg ⟨clEnc (c, s)⟩] (isI .i64 fun v => K v) w := by
  refine sense_many.cal ?_
  unfold sense_many.F sense_many.s39
  refine (Sep.start (fun _ => False) w).new fun w1 b1 h1 k1 => ?_
  unfold sense_many.s36
  simp only [add_mk, Nat.zero_add]
  refine h1.ldS 0 (x := c.word) rfl rfl ?_
  have hk := hk w1 h1.kept
  unfold snMany at hk
  have h21 : (same c.word wSrc = true ∨ same c.word wDst = true) → sense_many.s21 Z K ⟨b1, 0, none⟩ w1 := fun e => by
    unfold sense_many.s21
    simp only [add_mk, Nat.zero_add]
    refine h1.ldB 0 (x := c.slash) rfl rfl ?_
    rw [if_pos e] at hk
    rw [pif_bool]
    split
    · rename_i h; rw [if_pos h] at hk; exact hk
    · rename_i h; rw [if_neg h] at hk; exact hk
  have h30 : ¬ (same c.word wSrc = true ∨ same c.word wDst = true) → sense_many.s30 Z K ⟨b1, 0, none⟩ c.word w1 := fun e => by
    rw [if_neg e] at hk
    have h28 : ∀ b, b = true → (same c.word wSport = true ∨ same c.word wDport = true) → sense_many.s28 Z K ⟨b1, 0, none⟩ c.word b w1 := fun b hb e => by
      unfold sense_many.s28
      simp only [add_mk, Nat.zero_add]
      subst hb
      rw [pif_true]
      refine h1.ldB 0 (x := c.dash) rfl rfl ?_
      rw [if_pos e] at hk
      rw [pif_bool]
      split
      · rename_i h; rw [if_pos h] at hk; exact hk
      · rename_i h; rw [if_neg h] at hk; exact hk
    unfold sense_many.s30
    change pif (same c.word wSport) (sense_many.s28 Z K _ _ (same c.word wSport)) (sense_many.s28 Z K _ _ (same c.word wDport)) w1
    cases e1 : same c.word wSport with
    | true => rw [pif_true]; exact h28 _ rfl (.inl e1)
    | false =>
      rw [pif_false]
      cases e2 : same c.word wDport with
      | true => exact h28 _ rfl (.inr e2)
      | false =>
        rw [if_neg (by simp [e1, e2])] at hk
        unfold sense_many.s28
        rw [pif_false]
        change pif (same c.word wProto) _ _ w1
        cases e3 : same c.word wProto with
        | true => rw [if_pos e3] at hk; exact hk
        | false => rw [if_neg (by simp [e3])] at hk; exact hk
  unfold sense_many.s33
  change pif (same c.word wSrc) (pif (same c.word wSrc) _ _) (pif (same c.word wDst) _ _) w1
  cases e1 : same c.word wSrc with
  | true => rw [pif_true, pif_true]; exact h21 (.inl e1)
  | false =>
    rw [pif_false]
    cases e2 : same c.word wDst with
    | true => rw [pif_true]; exact h21 (.inr e2)
    | false => rw [pif_false]; exact h30 (by simp [e1, e2])
end
end Go.Proofs.YtllgjjldnnmjkaaDoor
end
section
set_option maxRecDepth 100000
namespace Go.Proofs.YtllgjjldnnmjkaaDoor
open Go.RowKit
theorem three_ro {w : World} {b : Nat} {f g h : Ft} (hb : IsB w b (f.enc ++ (g.enc ++ (h.enc ++ [])))) : Ro w 2 Ft.enc (some ⟨b, 0, none⟩) 3 3 [f, g, h] := by
  refine ⟨rfl, Nat.le_refl _, by simp [maxLen], fun i x hx => ⟨_, rfl, fun j v hj => ?_⟩⟩
  rw [add_mk, add_mk, hb.cell]
  have hi := (List.getElem?_eq_some_iff.1 hx).1
  have hj' : j < 2 := (List.getElem?_eq_some_iff.1 hj).1
  simp only [List.length_cons, List.length_nil] at hi
  match i, hi, hx with
  | 0, _, hx => cases hx; match j, hj', hj with
    | 0, _, hj => exact hj
    | 1, _, hj => exact hj
  | 1, _, hx => cases hx; match j, hj', hj with
    | 0, _, hj => exact hj
    | 1, _, hj => exact hj
  | 2, _, hx => cases hx; match j, hj', hj with
    | 0, _, hj => exact hj
    | 1, _, hj => exact hj
theorem nth_at {l : List Fg} {i : Nat} (h : i < l.length) : l[i]? = some (nthF l i) := by
  unfold nthF
  rw [List.getElem?_eq_getElem h]
  rfl
section
variable {Z : List PanicEntry → PT} {S : Nat → Prop} {w0 w : World} {L : List Fct}
theorem ports_cal {K : Int → Int → List Value → PT} {c : Cl} {s : Sl3} (hr : NumsO w s c.nums) (h0 : c.nums.length ≠ 0) (hk : ∀ w', Ext w w' → K (snPorts c.nums).1 (snPorts c.nums).2.1 (snPorts c.nums).2.2.enc w') :
    cal Tryd.prog Z 77 [.agg ⟨clEnc (c, s)⟩] (isT3 fun x y z => (isI .i64 fun r0 => (isI .i64 fun r1 => (isN fun r2 => K r0 r1 r2) z) y) x) w := by
  have hmax := hr.max
  have hn := hr.1
  refine sense_ports.cal ?_
  unfold sense_ports.F sense_ports.s10
  refine (Sep.start (fun _ => False) w).new fun w1 b1 h1 k1 => ?_
  refine h1.new fun w2 tb h2 k2 => ?_
  simp only [add_mk, Nat.zero_add]
  refine h2.ldL 1 (x := s.a) (y := s.n) (z := s.c) rfl rfl ?_
  have h3 := h2.sub (M := [fB tb ft0.enc, fB b1 (clEnc (c, s))]) (by simp [ft0, Ft.enc])
  refine ixS_Ro (i := 0) (hr.ext h3.kept) (nth_at (show 0 < c.nums.length by omega)) fun ad had => ?_
  refine ldN_at had rfl ?_
  refine h3.new fun w3 lb h3 k3 => ?_
  generalize elo : nthF c.nums 0 = lo
  refine h3.stN 0 rfl (by simp) rfl (Fg.enc_one lo) (lay_full rfl rfl) fun w4 h4 k4 => ?_
  refine h4.ldL 2 (x := s.a) (y := s.n) (z := s.c) rfl rfl (h4.ldL 2 (x := s.a) (y := s.n) (z := s.c) rfl rfl ?_)
  rw [show IntKind.wrap .i64 (((s.n : Nat) : Int) - 1) = ((c.nums.length - 1 : Nat) : Int) from by rw [wrap_in (by omega) (by omega)]; omega]
  refine ixS_Ro (i := c.nums.length - 1) (hr.ext h4.kept) (nth_at (show c.nums.length - 1 < c.nums.length by omega)) fun ad had => ?_
  refine ldN_at had rfl ?_
  refine h4.new fun w5 hb h5 k5 => ?_
  generalize ehi : nthF c.nums (c.nums.length - 1) = hi
  refine h5.stN 0 rfl (by simp) rfl (Fg.enc_one hi) (lay_full rfl rfl) fun w6 h6 k6 => ?_
  have h7 := h6.turn (n := 3) (g := fT) rfl Keep.refl trivial (fun k hk => hk.elim)
  have h7 : Sep (fun _ => False) w w6 [fB tb ft0.enc, fB hb hi.enc, fB lb lo.enc] := ⟨h6.kept, fun f hf => h6.all f (by simp [List.set] at hf ⊢; grind), fun f hf => h6.own f (by simp [List.set] at hf ⊢; grind), by
    have := h6.dis
    simp only [List.set, List.pairwise_cons, List.mem_cons, List.not_mem_nil, or_false, forall_eq_or_imp, forall_eq, List.Pairwise.nil, and_true] at this ⊢
    exact ⟨⟨this.1.2.1.symm, this.2.1.1.symm⟩, this.1.1, by simp⟩⟩
  unfold snPorts at hk
  simp only [elo, ehi] at hk
  have fin : ∀ (u : World) (fb : Nat), Sep (fun _ => False) w u [fB fb (snFirst [snWithin lo 0 65535, snWithin hi 0 65535, snWithin hi lo.n 65535]).enc, fB tb ft0.enc, fB hb hi.enc, fB lb lo.enc] → sense_ports.s7 Z K ⟨tb, 0, none⟩ ⟨lb, 0, none⟩ ⟨hb, 0, none⟩ ⟨fb, 0, none⟩ u := fun u fb h => by
    unfold sense_ports.s7
    generalize snFirst [snWithin lo 0 65535, snWithin hi 0 65535, snWithin hi lo.n 65535] = f at h hk
    refine h.drawn (fun w' => IsB w' lb lo.enc ∧ IsB w' hb hi.enc ∧ IsB w' fb f.enc) ⟨h.drew.at (n := 3) rfl, h.drew.at (n := 2) rfl, h.drew.at (n := 0) rfl⟩ fun h => ?_
    refine hI_of (n := lo.n) (fun w' hw' => by rw [add_mk]; exact hw'.1.cell 0) ?_
    refine hI_of (n := hi.n) (fun w' hw' => by rw [add_mk]; exact hw'.2.1.cell 0) ?_
    refine hN_of (cs := f.enc) rfl (fun w' hw' => cellsAt_B hw'.2.2 rfl) ?_
    refine h.stN 1 rfl (by simp [Ft.enc]) rfl (Ft.enc_one _) (lay_full rfl rfl) fun w2 h2 k2 => ?_
    refine h2.ldN 1 rfl (vs := f.enc) rfl rfl ?_
    exact hk w2 h2.kept
  refine h7.drawn (fun w' => IsB w' lb lo.enc ∧ IsB w' hb hi.enc) ⟨h7.drew.at (n := 2) rfl, h7.drew.at (n := 1) rfl⟩ fun h9 => ?_
  refine hN_of (cs := lo.enc) rfl (fun w' hw' => cellsAt_B hw'.1 rfl) ?_
  refine hN_of (cs := hi.enc) rfl (fun w' hw' => cellsAt_B hw'.2 rfl) ?_
  refine hN_of (cs := hi.enc) rfl (fun w' hw' => cellsAt_B hw'.2 rfl) ?_
  refine hI_of (n := lo.n) (fun w' hw' => by rw [add_mk]; exact hw'.1.cell 0) ?_
  constructor
  · skip
    refine within_cal fun w11 k11 => ?_
    have h11 := h9.ext k11
    refine sAnd_of ⟨h11.all (fB lb lo.enc) (by simp), h11.all (fB hb hi.enc) (by simp)⟩ ?_
    constructor
    · skip
      refine within_cal fun w12 k12 => ?_
      have h12 := h11.ext k12
      refine sAnd_of ⟨h12.all (fB lb lo.enc) (by simp), h12.all (fB hb hi.enc) (by simp)⟩ ?_
      constructor
      · skip
        refine within_cal fun w13 k13 => ?_
        have h13 := h12.ext k13
        refine sAnd_of ⟨h13.all (fB lb lo.enc) (by simp), h13.all (fB hb hi.enc) (by simp)⟩ ?_
        constructor
        · skip
          refine cnd_of rfl (cnd_of rfl (cnd_of rfl ?_))
          refine h13.new fun w14 ab h14 k14 => ?_
          refine sAnd_of ⟨h14.all (fB lb lo.enc) (by simp), h14.all (fB hb hi.enc) (by simp)⟩ ?_
          constructor
          · skip
            refine first_cal' (three_ro (h14.at (n := 0) rfl)) fun w15 k15 => ?_
            have h15 := h14.ext k15
            refine sAnd_of ⟨h15.all (fB lb lo.enc) (by simp), h15.all (fB hb hi.enc) (by simp)⟩ ?_
            refine h15.new fun w16 fb h16 k16 => ?_
            refine sAnd_of ⟨h16.all (fB lb lo.enc) (by simp), h16.all (fB hb hi.enc) (by simp)⟩ ?_
            refine h16.stN 0 rfl (by simp) rfl (Ft.enc_one _) (lay_full rfl rfl) fun w17 h17 k17 => ?_
            exact fin _ _ (h17.sub (by simp [List.set]))
          · skip
            refine h14.new fun w18 fb h18 k18 => ?_
            refine sAnd_of ⟨h18.all (fB lb lo.enc) (by simp), h18.all (fB hb hi.enc) (by simp)⟩ ?_
            refine first_cal' (three_ro (h18.at (n := 1) rfl)) fun w19 k19 => ?_
            have h19 := h18.ext k19
            refine sAnd_of ⟨h19.all (fB lb lo.enc) (by simp), h19.all (fB hb hi.enc) (by simp)⟩ ?_
            refine h19.stN 0 rfl (by simp) rfl (Ft.enc_one _) (lay_full rfl rfl) fun w20 h20 k20 => ?_
            exact fin _ _ (h20.sub (by simp [List.set]))
        · skip
          refine h13.new fun w21 fb h21 k21 => ?_
          refine sAnd_of ⟨h21.all (fB lb lo.enc) (by simp), h21.all (fB hb hi.enc) (by simp)⟩ ?_
          refine cnd_of rfl (cnd_of rfl (cnd_of rfl ?_))
          refine h21.new fun w22 ab h22 k22 => ?_
          refine sAnd_of ⟨h22.all (fB lb lo.enc) (by simp), h22.all (fB hb hi.enc) (by simp)⟩ ?_
          refine first_cal' (three_ro (h22.at (n := 0) rfl)) fun w23 k23 => ?_
          have h23 := h22.ext k23
          refine sAnd_of ⟨h23.all (fB lb lo.enc) (by simp), h23.all (fB hb hi.enc) (by simp)⟩ ?_
          refine h23.stN 1 rfl (by simp) rfl (Ft.enc_one _) (lay_full rfl rfl) fun w24 h24 k24 => ?_
          exact fin _ _ (h24.sub (by simp [List.set]))
      · skip
        refine h12.new fun w25 fb h25 k25 => ?_
        refine sAnd_of ⟨h25.all (fB lb lo.enc) (by simp), h25.all (fB hb hi.enc) (by simp)⟩ ?_
        refine within_cal fun w26 k26 => ?_
        have h26 := h25.ext k26
        refine sAnd_of ⟨h26.all (fB lb lo.enc) (by simp), h26.all (fB hb hi.enc) (by simp)⟩ ?_
        refine cnd_of rfl (cnd_of rfl (cnd_of rfl ?_))
        refine h26.new fun w27 ab h27 k27 => ?_
        refine sAnd_of ⟨h27.all (fB lb lo.enc) (by simp), h27.all (fB hb hi.enc) (by simp)⟩ ?_
        refine first_cal' (three_ro (h27.at (n := 0) rfl)) fun w28 k28 => ?_
        have h28 := h27.ext k28
        refine sAnd_of ⟨h28.all (fB lb lo.enc) (by simp), h28.all (fB hb hi.enc) (by simp)⟩ ?_
        refine h28.stN 1 rfl (by simp) rfl (Ft.enc_one _) (lay_full rfl rfl) fun w29 h29 k29 => ?_
        exact fin _ _ (h29.sub (by simp [List.set]))
    · skip
      refine h11.new fun w30 fb h30 k30 => ?_
      refine sAnd_of ⟨h30.all (fB lb lo.enc) (by simp), h30.all (fB hb hi.enc) (by simp)⟩ ?_
      refine within_cal fun w31 k31 => ?_
      have h31 := h30.ext k31
      refine sAnd_of ⟨h31.all (fB lb lo.enc) (by simp), h31.all (fB hb hi.enc) (by simp)⟩ ?_
      refine within_cal fun w32 k32 => ?_
      have h32 := h31.ext k32
      refine sAnd_of ⟨h32.all (fB lb lo.enc) (by simp), h32.all (fB hb hi.enc) (by simp)⟩ ?_
      refine cnd_of rfl (cnd_of rfl (cnd_of rfl ?_))
      refine h32.new fun w33 ab h33 k33 => ?_
      refine sAnd_of ⟨h33.all (fB lb lo.enc) (by simp), h33.all (fB hb hi.enc) (by simp)⟩ ?_
      refine first_cal' (three_ro (h33.at (n := 0) rfl)) fun w34 k34 => ?_
      have h34 := h33.ext k34
      refine sAnd_of ⟨h34.all (fB lb lo.enc) (by simp), h34.all (fB hb hi.enc) (by simp)⟩ ?_
      refine h34.stN 1 rfl (by simp) rfl (Ft.enc_one _) (lay_full rfl rfl) fun w35 h35 k35 => ?_
      exact fin _ _ (h35.sub (by simp [List.set]))
  · skip
    refine h9.new fun w36 fb h36 k36 => ?_
    refine sAnd_of ⟨h36.all (fB lb lo.enc) (by simp), h36.all (fB hb hi.enc) (by simp)⟩ ?_
    refine within_cal fun w37 k37 => ?_
    have h37 := h36.ext k37
    refine sAnd_of ⟨h37.all (fB lb lo.enc) (by simp), h37.all (fB hb hi.enc) (by simp)⟩ ?_
    refine within_cal fun w38 k38 => ?_
    have h38 := h37.ext k38
    refine sAnd_of ⟨h38.all (fB lb lo.enc) (by simp), h38.all (fB hb hi.enc) (by simp)⟩ ?_
    refine within_cal fun w39 k39 => ?_
    have h39 := h38.ext k39
    refine sAnd_of ⟨h39.all (fB lb lo.enc) (by simp), h39.all (fB hb hi.enc) (by simp)⟩ ?_
    refine cnd_of rfl (cnd_of rfl (cnd_of rfl ?_))
    refine h39.new fun w40 ab h40 k40 => ?_
    refine sAnd_of ⟨h40.all (fB lb lo.enc) (by simp), h40.all (fB hb hi.enc) (by simp)⟩ ?_
    refine first_cal' (three_ro (h40.at (n := 0) rfl)) fun w41 k41 => ?_
    have h41 := h40.ext k41
    refine sAnd_of ⟨h41.all (fB lb lo.enc) (by simp), h41.all (fB hb hi.enc) (by simp)⟩ ?_
    refine h41.stN 1 rfl (by simp) rfl (Ft.enc_one _) (lay_full rfl rfl) fun w42 h42 k42 => ?_
    exact fin _ _ (h42.sub (by simp [List.set]))
theorem set_at {L : List Fct} {n : Nat} {f g : Fct} (h : L[n]? = some f) : (L.set n g)[n]? = some g := by
  rw [List.getElem?_set_self (List.getElem?_eq_some_iff.1 h).1]
theorem clause_cal {W : World} {K : List Value → PT} (n : Nat) {x : En} {xb : Nat} {c : Cl} {s : Sl3} (h : Sep (fun _ => False) W w L) (hn : L[n]? = some (fB xb x.enc)) (hr : NumsO W s c.nums) (h0 : c.nums.length ≠ 0) (hk : ∀ w', Sep (fun _ => False) W w' (L.set n (fB xb (snClause x c).1.enc)) → K (snClause x c).2.enc w') :
    cal Tryd.prog Z 49 [.pointer (some ⟨xb, 0, none⟩), .agg ⟨clEnc (c, s)⟩] (isN fun v => K v) w := by
  refine sense_clause.cal ?_
  unfold sense_clause.F sense_clause.s8
  refine h.new fun w1 b1 h1 k1 => ?_
  refine h1.new fun w2 fb h2 k2 => ?_
  simp only [add_mk, Nat.zero_add, nn_some]
  refine h2.ldS 1 (x := c.word) rfl rfl ?_
  have fin : ∀ (x' : En) (f : Ft) (w4 : World), (x', f) = snClause x c → Sep (fun _ => False) W w4 (fB fb ft0.enc :: fB b1 (clEnc (c, s)) :: L.set n (fB xb x'.enc)) → stN 2 ⟨fb, 0, none⟩ f.enc (sense_clause.s5 Z K ⟨fb, 0, none⟩) w4 := fun x' f w4 e h4 => by
    have e1 : x' = (snClause x c).1 := by rw [← e]
    have e2 : f = (snClause x c).2 := by rw [← e]
    refine h4.stN 0 rfl (by simp [Ft.enc]) rfl (Ft.enc_one f) (lay_full rfl rfl) fun w5 h5 k5 => ?_
    unfold sense_clause.s5
    refine h5.ldN 0 rfl (vs := f.enc) rfl rfl ?_
    refine h5.stN 0 rfl (by simp [Ft.enc]) rfl (Ft.enc_one f) (lay_full rfl rfl) fun w6 h6 k6 => ?_
    refine h6.ldN 0 rfl (vs := f.enc) rfl rfl ?_
    subst e1 e2
    exact hk w6 ((h6.drop 0).drop 0)
  unfold snClause at fin
  have h2 : Sep (fun _ => False) W w2 (fB fb ft0.enc :: fB b1 (clEnc (c, s)) :: L) := h2
  have two : ∀ {x' x2 : En} {w3 : World} {i j : Nat} {v u : Value} {f : Ft}, Sep (fun _ => False) W w3 (fB fb ft0.enc :: fB b1 (clEnc (c, s)) :: L) → i < 12 → j < 12 → v.oneCell' = true → u.oneCell' = true → x.enc.set i v = x2.enc → x2.enc.set j u = x'.enc →
      (∀ w4, Sep (fun _ => False) W w4 (fB fb ft0.enc :: fB b1 (clEnc (c, s)) :: L.set n (fB xb x'.enc)) → stN 2 ⟨fb, 0, none⟩ f.enc (sense_clause.s5 Z K ⟨fb, 0, none⟩) w4) →
      st1 ⟨xb, i, none⟩ v (st1 ⟨xb, j, none⟩ u (stN 2 ⟨fb, 0, none⟩ f.enc (sense_clause.s5 Z K ⟨fb, 0, none⟩))) w3 := fun {x' x2 w3 i j v u f} h3 hi hj hv hu ev eu hk => by
    refine h3.st1 (n + 2) hn (by simpa [En.enc] using hi) hv fun w4 h4 k4 => ?_
    rw [ev] at h4
    have h4 : Sep (fun _ => False) W w4 (fB fb ft0.enc :: fB b1 (clEnc (c, s)) :: L.set n (fB xb x2.enc)) := h4
    refine h4.st1 (n + 2) (set_at hn) (by simpa [En.enc] using hj) hu fun w5 h5 k5 => ?_
    rw [eu] at h5
    have h5 : Sep (fun _ => False) W w5 (fB fb ft0.enc :: fB b1 (clEnc (c, s)) :: (L.set n (fB xb x2.enc)).set n (fB xb x'.enc)) := h5
    rw [List.set_set] at h5
    exact hk w5 h5
  change pif (same c.word wSrc) _ (pif (same c.word wDst) _ (pif (same c.word wSport) _ (pif (same c.word wDport) _ _))) w2
  cases e1 : same c.word wSrc with
  | true =>
    rw [pif_true]
    refine h2.ldN 1 rfl (vs := clEnc (c, s)) rfl rfl ?_
    refine addr_cal (hr.ext h2.kept) fun w3 k3 => ?_
    rw [if_pos e1] at fin
    exact two (x' := { x with src := (snAddr c.nums 0 0 32).1, srcBits := (snAddr c.nums 0 0 32).2.1 }) (x2 := { x with src := (snAddr c.nums 0 0 32).1 }) (h2.ext k3) (by decide) (by decide) rfl rfl rfl rfl fun w4 h4 => fin _ _ w4 rfl h4
  | false =>
    rw [pif_false]
    rw [if_neg (by simp [e1])] at fin
    cases e2 : same c.word wDst with
    | true =>
      rw [pif_true]
      refine h2.ldN 1 rfl (vs := clEnc (c, s)) rfl rfl ?_
      refine addr_cal (hr.ext h2.kept) fun w3 k3 => ?_
      rw [if_pos e2] at fin
      exact two (x' := { x with dst := (snAddr c.nums 0 0 32).1, dstBits := (snAddr c.nums 0 0 32).2.1 }) (x2 := { x with dst := (snAddr c.nums 0 0 32).1 }) (h2.ext k3) (by decide) (by decide) rfl rfl rfl rfl fun w4 h4 => fin _ _ w4 rfl h4
    | false =>
      rw [pif_false]
      rw [if_neg (by simp [e2])] at fin
      cases e3 : same c.word wSport with
      | true =>
        rw [pif_true]
        refine h2.ldN 1 rfl (vs := clEnc (c, s)) rfl rfl ?_
        refine ports_cal (hr.ext h2.kept) h0 fun w3 k3 => ?_
        rw [if_pos e3] at fin
        exact two (x' := { x with sLow := (snPorts c.nums).1, sHigh := (snPorts c.nums).2.1 }) (x2 := { x with sLow := (snPorts c.nums).1 }) (h2.ext k3) (by decide) (by decide) rfl rfl rfl rfl fun w4 h4 => fin _ _ w4 rfl h4
      | false =>
        rw [pif_false]
        rw [if_neg (by simp [e3])] at fin
        cases e4 : same c.word wDport with
        | true =>
          rw [pif_true]
          refine h2.ldN 1 rfl (vs := clEnc (c, s)) rfl rfl ?_
          refine ports_cal (hr.ext h2.kept) h0 fun w3 k3 => ?_
          rw [if_pos e4] at fin
          exact two (x' := { x with dLow := (snPorts c.nums).1, dHigh := (snPorts c.nums).2.1 }) (x2 := { x with dLow := (snPorts c.nums).1 }) (h2.ext k3) (by decide) (by decide) rfl rfl rfl rfl fun w4 h4 => fin _ _ w4 rfl h4
        | false =>
          rw [pif_false]
          rw [if_neg (by simp [e4])] at fin
          have n0 := nth_at (show 0 < c.nums.length by omega)
          refine h2.ldL 1 (x := s.a) (y := s.n) (z := s.c) rfl rfl ?_
          refine ixS_Ro (i := 0) (hr.ext h2.kept) n0 fun ad had => ?_
          refine ldI_at had (n := (nthF c.nums 0).n) rfl ?_
          refine h2.st1 (n + 2) hn (by simp [En.enc]) rfl fun w4 h4 k4 => ?_
          have h4 : Sep (fun _ => False) W w4 (fB fb ft0.enc :: fB b1 (clEnc (c, s)) :: L.set n (fB xb ({ x with proto := (nthF c.nums 0).n } : En).enc)) := h4
          refine h4.ldL 1 (x := s.a) (y := s.n) (z := s.c) rfl rfl ?_
          refine ixS_Ro (i := 0) (hr.ext h4.kept) n0 fun ad had => ?_
          refine ldN_at had rfl ?_
          refine within_cal fun w5 k5 => ?_
          exact fin { x with proto := (nthF c.nums 0).n } _ w5 rfl (h4.ext k5)
end
end Go.Proofs.YtllgjjldnnmjkaaDoor
end
section
set_option maxRecDepth 100000
namespace Go.Proofs.YtllgjjldnnmjkaaDoor
open Go.RowKit
section
variable {Z : List PanicEntry → PT} {Q : List Value → List Value → PT} {W w : World} {tb ub xb rb : Nat} {r : Rw} {s : Sl3} {R : En × Ft}
/-- What is told at the end. -/
theorem line_out {M : List Fct} {f : Ft} {x : En} {K : List Value → List Value → PT} {i j : Nat} {g g' : List Value} (h : Sep (fun _ => False) W w M) (hi : M[i]? = some (fB tb x.enc)) (hj : M[j]? = some (fB ub ft0.enc)) (hk : ∀ w', Ext W w' → K x.enc f.enc w') (hij : j ≠ i) :
    stN 2 ⟨ub, 0, none⟩ f.enc (ldN 12 ⟨tb, 0, none⟩ fun a => ldN 2 ⟨ub, 0, none⟩ fun b => K a b) w := by
  refine h.stN j hj (by simp [Ft.enc, ft0]) rfl (Ft.enc_one f) (lay_full rfl rfl) fun w1 h1 k1 => ?_
  refine h1.ldN i (vs := x.enc) (by rw [List.getElem?_set_ne hij]; exact hi) rfl rfl ?_
  refine h1.ldN j (vs := f.enc) (set_at hj) rfl rfl ?_
  exact hk w1 h1.kept
/-- A fault of a clause is told. -/
theorem line_bad {cb : Nat} {c : Cl} {sc : Sl3} {x : En} {e : Int} (h : Sep (fun _ => False) W w [fB cb (clEnc (c, sc)), fB xb x.enc, fB ub ft0.enc, fB tb en0.enc, fB rb (rwEnc (r, s))]) (hk : ∀ w', Ext W w' → Q x.enc (Ft.enc ⟨e, c.pos⟩) w') :
    drawn (fun S => hN S 12 ⟨xb, 0, none⟩ fun v => hI S .i64 ⟨cb, 1, none⟩ fun u => fun w1 => (sAnd S (stN 12 ⟨tb, 0, none⟩ v (sAnd S (stN 2 ⟨ub, 0, none⟩ [.int .i64 e, .int .i64 u] (ldN 12 ⟨tb, 0, none⟩ fun a => ldN 2 ⟨ub, 0, none⟩ fun b => Q a b))))) w1 ∧ (stN 12 ⟨tb, 0, none⟩ v (sAnd S (sAnd S (stN 2 ⟨ub, 0, none⟩ [.int .i64 e, .int .i64 u] (ldN 12 ⟨tb, 0, none⟩ fun a => ldN 2 ⟨ub, 0, none⟩ fun b => Q a b))))) w1) w := by
  refine h.drawn (fun w' => IsB w' xb x.enc ∧ IsB w' cb (clEnc (c, sc))) ⟨h.drew.at (n := 1) rfl, h.drew.at (n := 0) rfl⟩ fun h => ?_
  refine hN_of (cs := x.enc) rfl (fun w' hw' => cellsAt_B hw'.1 rfl) ?_
  refine hI_of (n := c.pos) (fun w' hw' => hw'.2.cell 1) ?_
  have st : ∀ {K : PT}, (∀ w', Sep (fun _ => False) W w' [fB cb (clEnc (c, sc)), fB xb x.enc, fB ub ft0.enc, fB tb x.enc, fB rb (rwEnc (r, s))] → K w') → stN 12 ⟨tb, 0, none⟩ x.enc K w.drew := fun {K} hK =>
    h.stN 3 rfl (by simp [en0, En.enc]) rfl (En.enc_one x) (lay_full rfl rfl) fun w1 h1 k1 => hK w1 h1
  constructor
  · refine sAnd_of ⟨h.at (n := 1) rfl, h.at (n := 0) rfl⟩ ?_
    refine st fun w1 h1 => ?_
    refine sAnd_of ⟨h1.at (n := 1) rfl, h1.at (n := 0) rfl⟩ ?_
    exact line_out (f := ⟨e, c.pos⟩) (i := 3) (j := 2) (g := []) (g' := []) h1 rfl rfl hk (by decide)
  · refine st fun w1 h1 => ?_
    refine sAnd_of ⟨h1.at (n := 1) rfl, h1.at (n := 0) rfl⟩ (sAnd_of ⟨h1.at (n := 1) rfl, h1.at (n := 0) rfl⟩ ?_)
    exact line_out (f := ⟨e, c.pos⟩) (i := 3) (j := 2) (g := []) (g' := []) h1 rfl rfl hk (by decide)
/-- A fault that lies in memory is told. -/
theorem line_bad2 {fb : Nat} {f : Ft} {x : En} {M : List Fct} (h : Sep (fun _ => False) W w (fB fb f.enc :: M)) (n : Nat) (hx : M[n]? = some (fB xb x.enc)) (hu : M[n + 1]? = some (fB ub ft0.enc)) (ht : M[n + 2]? = some (fB tb en0.enc)) (hk : ∀ w', Ext W w' → Q x.enc f.enc w') :
    drawn (fun S => hN S 12 ⟨xb, 0, none⟩ fun v => hN S 2 ⟨fb, 0, none⟩ fun u => stN 12 ⟨tb, 0, none⟩ v (sAnd S (stN 2 ⟨ub, 0, none⟩ u (ldN 12 ⟨tb, 0, none⟩ fun a => ldN 2 ⟨ub, 0, none⟩ fun b => Q a b)))) w := by
  refine h.drawn (fun w' => IsB w' xb x.enc ∧ IsB w' fb f.enc) ⟨h.drew.at (n := n + 1) hx, h.drew.at (n := 0) rfl⟩ fun h => ?_
  refine hN_of (cs := x.enc) rfl (fun w' hw' => cellsAt_B hw'.1 rfl) ?_
  refine hN_of (cs := f.enc) rfl (fun w' hw' => cellsAt_B hw'.2 rfl) ?_
  refine h.stN (n + 3) ht (by simp [en0, En.enc]) rfl (En.enc_one x) (lay_full rfl rfl) fun w1 h1 k1 => ?_
  have h1 : Sep (fun _ => False) W w1 (fB fb f.enc :: M.set (n + 2) (fB tb x.enc)) := h1
  refine sAnd_of ⟨h1.at (n := n + 1) (f := fB xb x.enc) (by rw [List.getElem?_cons_succ, List.getElem?_set_ne (by omega)]; exact hx), h1.at (n := 0) rfl⟩ ?_
  exact line_out (f := f) (i := n + 3) (j := n + 2) (g := []) (g' := []) h1 (set_at ht) (by rw [List.getElem?_cons_succ, List.getElem?_set_ne (by omega)]; exact hu) hk (by omega)
theorem dup_loop {X1 : Addr → Addr → Addr → Addr → Option Addr → Nat → Nat → Int → Int → PT} {a : Option Addr} {n c0 : Nat} {ps : List (Cl × Sl3)} {a' : Option Addr} {n' c' : Nat} {t1 t2 : Int} {cb : Nat} {c : Cl} {sc : Sl3} {x : En}
    (hr : Ro W 5 clEnc a n c0 ps) (hq : ∀ w', Ext W w' → Q R.1.enc R.2.enc w') :
    ∀ (m k : Nat) (w : World), ps.length = k + m → Sep (fun _ => False) W w [fB cb (clEnc (c, sc)), fB xb x.enc, fB ub ft0.enc, fB tb en0.enc, fB rb (rwEnc (r, s))] →
    ((ps.drop k).any (fun d => same d.1.word c.word) = true → (x, ⟨9, c.pos⟩) = R) →
    ((ps.drop k).any (fun d => same d.1.word c.word) = false → ∀ w', Sep (fun _ => False) W w' [fB cb (clEnc (c, sc)), fB xb x.enc, fB ub ft0.enc, fB tb en0.enc, fB rb (rwEnc (r, s))] → sense_line.s42 Z Q X1 ⟨rb, 0, none⟩ ⟨tb, 0, none⟩ ⟨ub, 0, none⟩ ⟨xb, 0, none⟩ ⟨cb, 0, none⟩ a' n' c' t1 t2 w') →
    sense_line.l53 Z Q X1 (m + 1) ⟨rb, 0, none⟩ ⟨tb, 0, none⟩ ⟨ub, 0, none⟩ ⟨xb, 0, none⟩ ⟨cb, 0, none⟩ a' n' c' t1 t2 a n c0 ((n : Nat) : Int) k w := by
  have hmax := hr.max
  have hn := hr.1
  intro m
  induction m with
  | zero =>
    intro k w hm h hT hF
    unfold sense_line.l53 sense_line.s56
    rw [pif_dec, if_neg (by omega)]
    refine hF ?_ w h
    rw [List.drop_eq_nil_of_le (by omega)]
    rfl
  | succ m ih =>
    intro k w hm h hT hF
    have hx := List.getElem?_eq_getElem (show k < ps.length by omega)
    have hd := List.drop_eq_getElem_cons (show k < ps.length by omega)
    unfold sense_line.l53 sense_line.s56
    rw [pif_dec, if_pos (by omega)]
    refine ixS_Ro (hr.ext h.kept) hx fun ad had => ?_
    refine ldN_at had rfl ?_
    generalize ps[k] = d at hx hd
    refine h.new fun w1 db h1 k1 => ?_
    refine h1.stN 0 rfl (by simp) rfl (clEnc_one _) (lay_full rfl rfl) fun w2 h2 k2 => ?_
    simp only [add_mk, Nat.zero_add]
    refine h2.ldS 0 (x := d.1.word) rfl rfl (h2.ldS 1 (x := c.word) rfl rfl ?_)
    change pif (same d.1.word c.word) _ _ w2
    rw [hd, List.any_cons] at hT hF
    cases e : same d.1.word c.word with
    | true =>
      rw [pif_true]
      rw [e] at hT
      have hR := hT rfl
      subst hR
      exact line_bad (h2.drop 0) hq
    | false =>
      rw [pif_false]
      rw [e, Bool.false_or] at hT hF
      rw [wrap_nat1 (by omega)]
      exact ih (k + 1) w2 (by omega) (h2.drop 0) hT hF
theorem line_loop {ps : List (Cl × Sl3)} (hr : Ro W 5 clEnc s.a s.n s.c ps) (hp : ∀ p ∈ ps, NumsO W p.2 p.1.nums) (hq : ∀ w', Ext W w' → Q R.1.enc R.2.enc w') :
    ∀ (m j : Nat) (x : En) (w : World), ps.length = j + m → snClauses (ps.map Prod.fst) ((ps.drop j).map Prod.fst) j x = R → Sep (fun _ => False) W w [fB xb x.enc, fB ub ft0.enc, fB tb en0.enc, fB rb (rwEnc (r, s))] →
    sense_line.l19 Z Q (m + 1) ⟨rb, 0, none⟩ ⟨tb, 0, none⟩ ⟨ub, 0, none⟩ ⟨xb, 0, none⟩ s.a s.n s.c ((s.n : Nat) : Int) j w := by
  have hmax := hr.max
  have hn := hr.1
  intro m
  induction m with
  | zero =>
    intro j x w hm he h
    unfold sense_line.l19 sense_line.s71
    rw [pif_dec, if_neg (by omega)]
    unfold sense_line.s9
    refine h.ldN 0 (vs := x.enc) rfl rfl rfl ?_
    refine h.stN 2 rfl (by simp [en0, En.enc]) rfl (En.enc_one x) (lay_full rfl rfl) fun w1 h1 k1 => ?_
    rw [List.drop_eq_nil_of_le (by omega)] at he
    subst he
    exact line_out (f := ft0) (x := x) (i := 2) (j := 1) (g := []) (g' := []) h1 rfl rfl hq (by decide)
  | succ m ih =>
    intro j x w hm he h
    have hx := List.getElem?_eq_getElem (show j < ps.length by omega)
    have hmem := List.getElem_mem (show j < ps.length by omega)
    have hd := List.drop_eq_getElem_cons (show j < ps.length by omega)
    unfold sense_line.l19 sense_line.s71
    rw [pif_dec, if_pos (by omega)]
    unfold sense_line.s67
    refine ixS_Ro (hr.ext h.kept) hx fun ad had => ?_
    refine ldN_at had rfl ?_
    rw [hd] at he
    have hnums := hp _ hmem
    generalize ps[j] = q at hx hd he hnums
    obtain ⟨c, sc⟩ := q
    refine h.new fun w1 cb h1 k1 => ?_
    refine h1.stN 0 rfl (by simp) rfl (clEnc_one _) (lay_full rfl rfl) fun w2 h2 k2 => ?_
    simp only [add_mk, Nat.zero_add]
    have h2 : Sep (fun _ => False) W w2 [fB cb (clEnc (c, sc)), fB xb x.enc, fB ub ft0.enc, fB tb en0.enc, fB rb (rwEnc (r, s))] := h2
    have hcn := hnums.1
    simp only [List.map_cons] at he
    unfold snClauses at he
    refine h2.drawn (fun w' => IsB w' cb (clEnc (c, sc))) (h2.drew.at (n := 0) rfl) fun h3 => ?_
    refine hL_of (b := sc.a) (n := sc.n) (c := sc.c) (fun w' hw' => hw'.cell 2) ?_
    rw [pif_beq]
    split
    · rename_i e0
      rw [if_pos (by simp only at hcn; omega)] at he
      subst he
      exact line_bad h3 hq
    rename_i e0
    rw [if_neg (by simp only at hcn; omega)] at he
    refine hL_of (b := sc.a) (n := sc.n) (c := sc.c) (fun w' hw' => hw'.cell 2) ?_
    refine hN_of (cs := clEnc (c, sc)) rfl (fun w' hw' => cellsAt_B hw' rfl) ?_
    refine many_cal fun w4 k4 => ?_
    have h4 := h3.ext k4
    refine sAnd_of (h4.at (n := 0) rfl) ?_
    rw [pif_bne]
    split
    case isFalse e1 =>
      rw [if_pos (by simp only at hcn; omega)] at he
      subst he
      exact line_bad h4 hq
    rename_i e1
    rw [if_neg (by simp only at hcn; omega)] at he
    unfold sense_line.s64
    simp only [add_mk, Nat.zero_add]
    refine h4.ldL 4 (x := s.a) (y := s.n) (z := s.c) rfl rfl ?_
    refine slS_Ro (hr.ext h4.kept) (show j ≤ ps.length by omega) ?_
    have hlen : (ps.take j).length = j := by rw [List.length_take]; omega
    have hany : ((ps.map Prod.fst).take j).any (fun d => same d.word c.word) = ((ps.take j).drop 0).any (fun d => same d.1.word c.word) := by
      rw [← List.map_take, List.any_map, List.drop_zero]
      rfl
    rw [hany] at he
    refine exK_of (j + 1) (dup_loop (hr.take (show j ≤ ps.length by omega)) hq j 0 w4 (by omega) h4 (fun e => ?_) (fun e w5 h5 => ?_))
    · rw [if_pos e] at he
      exact he
    rw [if_neg (by simp only [e]; decide)] at he
    unfold sense_line.s42
    refine h5.ldN 0 (vs := clEnc (c, sc)) rfl rfl rfl ?_
    refine clause_cal 1 h5 rfl hnums (by simp only at hcn; omega) fun w6 h6 => ?_
    refine h6.new fun w7 fb h7 k7 => ?_
    refine h7.stN 0 rfl (by simp) rfl (Ft.enc_one _) (lay_full rfl rfl) fun w8 h8 k8 => ?_
    have h8 : Sep (fun _ => False) W w8 [fB fb (snClause x c).2.enc, fB cb (clEnc (c, sc)), fB xb (snClause x c).1.enc, fB ub ft0.enc, fB tb en0.enc, fB rb (rwEnc (r, s))] := h8
    simp only [add_mk, Nat.zero_add]
    refine h8.ldI 0 (x := (snClause x c).2.e) rfl rfl ?_
    rw [pif_bne]
    split
    · rename_i e2
      rw [if_neg (by simpa using e2)] at he
      unfold sense_line.s29
      rw [wrap_nat1 (by omega)]
      exact ih (j + 1) _ w8 (by omega) he ((h8.drop 0).drop 0)
    · rename_i e2
      rw [if_pos e2] at he
      subst he
      exact line_bad2 h8 1 rfl rfl rfl hq
theorem line_cal {K : List Value → List Value → PT} (hc : ClsO w s r.clauses) (hk : ∀ w', Ext w w' → K (snLine r).1.enc (snLine r).2.enc w') :
    cal Tryd.prog Z 28 [.agg ⟨rwEnc (r, s)⟩] (isT2 fun x y => (isN fun r0 => (isN fun r1 => K r0 r1) y) x) w := by
  refine sense_line.cal ?_
  unfold sense_line.F sense_line.s80
  refine (Sep.start (fun _ => False) w).new fun w1 rb h1 k1 => ?_
  refine h1.new fun w2 tb h2 k2 => ?_
  refine h2.new fun w3 ub h3 k3 => ?_
  simp only [add_mk, Nat.zero_add]
  refine h3.ldI 2 (x := r.prio.n) rfl rfl ?_
  refine h3.new fun w4 xb h4 k4 => ?_
  generalize ex : (⟨false, r.prio.n, 0, 0, 0, 0, 0, 65535, 0, 65535, -1, 0⟩ : En) = x
  refine h4.stN 0 (cs' := x.enc) rfl (by simp) rfl (by simp [Value.oneCell']) (by subst ex; rfl) fun w5 h5 k5 => ?_
  have h5 : Sep (fun _ => False) w w5 [fB xb x.enc, fB ub ft0.enc, fB tb en0.enc, fB rb (rwEnc (r, s))] := h5
  refine h5.ldN 3 (vs := r.prio.enc) rfl rfl rfl ?_
  refine within_cal fun w6 k6 => ?_
  have h6 := h5.ext k6
  refine h6.new fun w7 fb h7 k7 => ?_
  refine h7.stN 0 rfl (by simp) rfl (Ft.enc_one _) (lay_full rfl rfl) fun w8 h8 k8 => ?_
  simp only [add_mk, Nat.zero_add]
  refine h8.ldI 0 (x := (snWithin r.prio 0 65535).e) rfl rfl ?_
  unfold snLine at hk
  simp only [ex] at hk
  rw [pif_bne]
  split
  · rename_i e0
    rw [if_neg (by simpa using e0)] at hk
    unfold sense_line.s77
    simp only [add_mk, Nat.zero_add]
    have h9 : Sep (fun _ => False) w w8 [fB xb x.enc, fB ub ft0.enc, fB tb en0.enc, fB rb (rwEnc (r, s))] := h8.drop 0
    refine h9.ldL 3 (x := s.a) (y := s.n) (z := s.c) rfl rfl ?_
    obtain ⟨ps, p1, p2, p3⟩ := hc
    rw [p1] at hk
    exact exK_of (ps.length + 1) (line_loop p2 p3 hk ps.length 0 x w8 (by omega) rfl h9)
  · rename_i e0
    rw [if_pos e0] at hk
    exact line_bad2 h8 0 rfl rfl rfl hk
end
end Go.Proofs.YtllgjjldnnmjkaaDoor
end
