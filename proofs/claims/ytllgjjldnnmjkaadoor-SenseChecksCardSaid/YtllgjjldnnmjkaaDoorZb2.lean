/-
  Texts of this claim, one behind the other: part 2 of 7. No condition.
-/
import Derived.Test.YtllgjjldnnmjkaaDoorZb1
set_option linter.unusedVariables false
set_option linter.unusedSimpArgs false
section
namespace Go.Proofs.YtllgjjldnnmjkaaDoor
open Go.RowKit
set_option maxRecDepth 100000

/-! ### milepost/head.Place: function 55 -/
noncomputable def head_Place.body : Code := bodyC Tryd.f55
def head_Place.F (Z : ZT) (Q : Int → Int → Int → PT) (f_0 : Int) : PT :=
  (pif (decide (f_0 < 0)) (Q 0 0 1) (pif (decide (f_0 ≥ 5)) (Q 0 0 1) (drew0 (cnd ((0 : Int) ≤ f_0 ∧ f_0 < ((5 : Nat) : Int)) (ldI .i64 (((⟨0, 0, none⟩ : Addr).add (f_0.toNat * 2)).add 0) fun v1 => (cnd ((0 : Int) ≤ f_0 ∧ f_0 < ((5 : Nat) : Int)) (ldI .i64 (((⟨0, 0, none⟩ : Addr).add (f_0.toNat * 2)).add 1) fun v2 => (Q v1 v2 0))))))))
def head_Place.q1 (Z : ZT) (Q : Int → Int → Int → PT) : QF := bodyQ Tryd.prog [.tmp 2, .tmp 3, .tmp 4] (fun v => at3 v fun x y z => atI .i64 x fun xa => atI .i64 y fun ya => atI .i64 z fun za => Q xa ya za)
theorem head_Place.eq (Z : ZT) (Q : Int → Int → Int → PT) (f_0 : Int) : comp Tryd.prog Z head_Place.body (head_Place.q1 Z Q) (fr0 [(Value.int .i64 f_0)]) = head_Place.F Z Q f_0 := by kernel_rfl
theorem head_Place.vc (Z : ZT) (Q : Int → Int → Int → PT) (f_0 : Int) (w : World) (h : head_Place.F Z Q f_0 w) : Calls Tryd.prog 55 ⟨[(Value.int .i64 f_0)]⟩ w fun e w' => (∃ (r0 : Int) (r1 : Int) (r2 : Int), e = .returned (.tuple #[.int .i64 r0, .int .i64 r1, .int .i64 r2]) ∧ Q r0 r1 r2 w') ∨ ∃ c, e = .panicked c ∧ Z c w' := by
  refine (calls_of_ok (args := [(Value.int .i64 f_0)]) (w := w) (rs := [.tmp 2, .tmp 3, .tmp 4]) (fn := Tryd.f55) (c := head_Place.body) Tryd.func55 (by kernel_rfl) (by kernel_rfl) (Nat.le_of_ble_eq_true (by kernel_rfl)) (okC head_Place.body (head_Place.q1 Z Q) (by kernel_rfl)) (by rw [head_Place.eq]; exact h)).mono fun e w' hR => ?_
  cases e with
  | returned v =>
    obtain ⟨x, y, z, rfl, hR⟩ := at3_e hR
    obtain ⟨xa, rfl, hR⟩ := atI_e hR
    obtain ⟨ya, rfl, hR⟩ := atI_e hR
    obtain ⟨za, rfl, hR⟩ := atI_e hR
    exact .inl ⟨xa, ya, za, rfl, hR⟩
  | panicked c => exact .inr ⟨c, rfl, hR⟩
  | outgrown => exact hR.elim
theorem head_Place.vc0 (Q : Int → Int → Int → PT) (f_0 : Int) (w : World) (h : head_Place.F Z0 Q f_0 w) : Calls Tryd.prog 55 ⟨[(Value.int .i64 f_0)]⟩ w fun e w' => (∃ (r0 : Int) (r1 : Int) (r2 : Int), e = .returned (.tuple #[.int .i64 r0, .int .i64 r1, .int .i64 r2]) ∧ Q r0 r1 r2 w') :=
  (head_Place.vc Z0 Q f_0 w h).mono fun _ _ hR => hR.elim id fun ⟨_, _, hz⟩ => hz.elim
theorem head_Place.cal {Z : ZT} {Q : Int → Int → Int → PT} {f_0 : Int} {w : World} (h : head_Place.F Z Q f_0 w) : Go.Proofs.YtllgjjldnnmjkaaDoor.cal Tryd.prog Z 55 [(Value.int .i64 f_0)] (isT3 fun x y z => (isI .i64 fun r0 => (isI .i64 fun r1 => (isI .i64 fun r2 => Q r0 r1 r2) z) y) x) w := by
  refine (head_Place.vc Z Q f_0 w h).mono fun e w' hR => ?_
  rcases hR with ⟨r0, r1, r2, rfl, h⟩ | ⟨c, rfl, h⟩
  · show (isT3 fun x y z => (isI .i64 fun r0 => (isI .i64 fun r1 => (isI .i64 fun r2 => Q r0 r1 r2) z) y) x) (.tuple #[.int .i64 r0, .int .i64 r1, .int .i64 r2]) w'
    exact ⟨_, _, _, rfl, ⟨_, rfl, ⟨_, rfl, ⟨_, rfl, h⟩⟩⟩⟩
  · exact h

/-! ### milepost/head.Field: function 32 -/
noncomputable def head_Field.body : Code := bodyC Tryd.f32
noncomputable def head_Field.c1 : Code := sq1 head_Field.body
noncomputable def head_Field.c2 : Code := sq1 (sq2 head_Field.body)
noncomputable def head_Field.c3 : Code := sq1 (sq2 (sq2 head_Field.body))
noncomputable def head_Field.c4 : Code := sq1 (sq2 (sq2 (sq2 head_Field.body)))
noncomputable def head_Field.c5 : Code := sq2 (sq2 (sq2 (sq2 head_Field.body)))
theorem head_Field.q6 : head_Field.body = .seq head_Field.c1 (.seq head_Field.c2 (.seq head_Field.c3 (.seq head_Field.c4 head_Field.c5))) := by kernel_rfl
noncomputable def head_Field.c7 : Code := sq1 head_Field.c5
noncomputable def head_Field.c8 : Code := sq2 head_Field.c5
theorem head_Field.q9 : head_Field.c5 = .seq head_Field.c7 head_Field.c8 := by kernel_rfl
def head_Field.s10 (Z : ZT) (Q : Int → Int → PT) (v_9 : Int) : PT :=
  (Q v_9 0)
def head_Field.q11 (Z : ZT) (Q : Int → Int → PT) : QF := bodyQ Tryd.prog [.tmp 4, .tmp 5] (fun v => at2 v fun x y => atI .u32 x fun xa => atI .i64 y fun ya => Q xa ya)
theorem head_Field.s10_eq (Z : ZT) (Q : Int → Int → PT) (ρ : Fr) (v_9 : Int) : comp Tryd.prog Z head_Field.c8 (head_Field.q11 Z Q) (puts ρ [(9, (Value.int .u32 v_9))]) = head_Field.s10 Z Q v_9 := by kernel_rfl
def head_Field.j12 (Z : ZT) (Q : Int → Int → PT) : Fr → PT := (fun ρ => atI .u32 (ρ 9) fun v_9 => (head_Field.s10 Z Q v_9))
theorem head_Field.s10_ok (Z : ZT) (Q : Int → Int → PT) : Ok Tryd.prog Tryd.f32.ntmps Z head_Field.c8 (head_Field.q11 Z Q) (head_Field.j12 Z Q) := by
  intro E he ρ w a hr h
  obtain ⟨v_9, e9, h⟩ := atI_e h
  exact ok_at [(9, (Value.int .u32 v_9))] (okC head_Field.c8 (head_Field.q11 Z Q) (by kernel_rfl)) (puts_cons e9 (fun p hp => puts_nil hp)) (head_Field.s10_eq Z Q ρ v_9) he hr h
noncomputable def head_Field.c13 : Code := sq1 head_Field.c7
noncomputable def head_Field.c14 : Code := sq2 head_Field.c7
theorem head_Field.q15 : head_Field.c7 = .seq head_Field.c13 head_Field.c14 := by kernel_rfl
noncomputable def head_Field.c16 : Code := blk head_Field.c14
theorem head_Field.q17 : head_Field.c14 = .block 0 head_Field.c16 := by kernel_rfl
noncomputable def head_Field.c18 : Code := lop head_Field.c16
theorem head_Field.q19 : head_Field.c16 = .loop head_Field.c18 := by kernel_rfl
def head_Field.q21 (Z : ZT) (Q : Int → Int → PT) : QF := thenK (head_Field.j12 Z Q) (head_Field.q11 Z Q)
def head_Field.q22 (Z : ZT) (Q : Int → Int → PT) : QF := inBl 0 (head_Field.q21 Z Q)
def head_Field.s23 (Z : ZT) (Q : Int → Int → PT) (X1 : Int → OA → Nat → Nat → Int → Int → PT) (v_9 : Int) (t_28 : OA) (t_28n t_28c : Nat) (t_29 : Int) (t_30 : Int) : PT :=
  (pif (decide (t_30 < t_29)) (ixS t_28 t_28n t_30 1 fun v28 => (ldI .u8 v28 fun v29 => (cnd ((0 : Int) ≤ 8) (X1 (IntKind.wrap .u32 (BitVec.ofInt (IntKind.bits .u32) (IntKind.wrap .u32 (v_9 * 2 ^ (min (8 : Int).toNat (IntKind.bits .u32)))) ||| BitVec.ofInt (IntKind.bits .u32) (IntKind.wrap .u32 v29)).toNat) t_28 t_28n t_28c t_29 (IntKind.wrap .i64 (t_30 + 1)))))) (head_Field.s10 Z Q v_9))
def head_Field.j24 (Z : ZT) (Q : Int → Int → PT) (X1 : Int → OA → Nat → Nat → Int → Int → PT) : Fr → PT := (fun ρ => atI .u32 (ρ 9) fun v_9 => atL (ρ 28) fun t_28 t_28n t_28c => atI .i64 (ρ 29) fun t_29 => atI .i64 (ρ 30) fun t_30 => (X1 v_9 t_28 t_28n t_28c t_29 t_30))
def head_Field.q25 (Z : ZT) (Q : Int → Int → PT) (X1 : Int → OA → Nat → Nat → Int → Int → PT) : QF := thenK (head_Field.j24 Z Q X1) (head_Field.q22 Z Q)
theorem head_Field.s23_eq (Z : ZT) (Q : Int → Int → PT) (X1 : Int → OA → Nat → Nat → Int → Int → PT) (ρ : Fr) (v_9 : Int) (t_28 : OA) (t_28n t_28c : Nat) (t_29 : Int) (t_30 : Int) : comp Tryd.prog Z head_Field.c18 (head_Field.q25 Z Q X1) (puts ρ [(9, (Value.int .u32 v_9)), (28, (Value.slice t_28 t_28n t_28c)), (29, (Value.int .i64 t_29)), (30, (Value.int .i64 t_30))]) = head_Field.s23 Z Q X1 v_9 t_28 t_28n t_28c t_29 t_30 := by kernel_rfl
def head_Field.j26 (Z : ZT) (Q : Int → Int → PT) (X1 : Int → OA → Nat → Nat → Int → Int → PT) : Fr → PT := (fun ρ => atI .u32 (ρ 9) fun v_9 => atL (ρ 28) fun t_28 t_28n t_28c => atI .i64 (ρ 29) fun t_29 => atI .i64 (ρ 30) fun t_30 => (head_Field.s23 Z Q X1 v_9 t_28 t_28n t_28c t_29 t_30))
theorem head_Field.s23_ok (Z : ZT) (Q : Int → Int → PT) (X1 : Int → OA → Nat → Nat → Int → Int → PT) : Ok Tryd.prog Tryd.f32.ntmps Z head_Field.c18 (head_Field.q25 Z Q X1) (head_Field.j26 Z Q X1) := by
  intro E he ρ w a hr h
  obtain ⟨v_9, e9, h⟩ := atI_e h
  obtain ⟨t_28, t_28n, t_28c, e28, h⟩ := atL_e h
  obtain ⟨t_29, e29, h⟩ := atI_e h
  obtain ⟨t_30, e30, h⟩ := atI_e h
  exact ok_at [(9, (Value.int .u32 v_9)), (28, (Value.slice t_28 t_28n t_28c)), (29, (Value.int .i64 t_29)), (30, (Value.int .i64 t_30))] (okC head_Field.c18 (head_Field.q25 Z Q X1) (by kernel_rfl)) (puts_cons e9 (puts_cons e28 (puts_cons e29 (puts_cons e30 (fun p hp => puts_nil hp))))) (head_Field.s23_eq Z Q X1 ρ v_9 t_28 t_28n t_28c t_29 t_30) he hr h
def head_Field.l20 (Z : ZT) (Q : Int → Int → PT) : Nat → Int → OA → Nat → Nat → Int → Int → PT
  | 0, _, _, _, _, _, _ => bad
  | k + 1, v_9, t_28, t_28n, t_28c, t_29, t_30 => (head_Field.s23 Z Q (head_Field.l20 Z Q k) v_9 t_28 t_28n t_28c t_29 t_30)
def head_Field.j27 (Z : ZT) (Q : Int → Int → PT) (k : Nat) : Fr → PT := (fun ρ => atI .u32 (ρ 9) fun v_9 => atL (ρ 28) fun t_28 t_28n t_28c => atI .i64 (ρ 29) fun t_29 => atI .i64 (ρ 30) fun t_30 => (head_Field.l20 Z Q k v_9 t_28 t_28n t_28c t_29 t_30))
def head_Field.j28 (Z : ZT) (Q : Int → Int → PT) : Fr → PT := (fun ρ => atI .u32 (ρ 9) fun v_9 => atL (ρ 28) fun t_28 t_28n t_28c => atI .i64 (ρ 29) fun t_29 => atI .i64 (ρ 30) fun t_30 => (exK fun k => head_Field.l20 Z Q k v_9 t_28 t_28n t_28c t_29 t_30))
theorem head_Field.o29 (Z : ZT) (Q : Int → Int → PT) : Ok Tryd.prog Tryd.f32.ntmps Z head_Field.c16 (head_Field.q22 Z Q) (head_Field.j28 Z Q) := by
  rw [head_Field.q19]
  refine Ok.imp (ok_loop (J := head_Field.j27 Z Q) ?_ ?_) ?_
  · intro ρ w h
    obtain ⟨v_9, e9, h⟩ := atI_e h
    obtain ⟨t_28, t_28n, t_28c, e28, h⟩ := atL_e h
    obtain ⟨t_29, e29, h⟩ := atI_e h
    obtain ⟨t_30, e30, h⟩ := atI_e h
    exact h
  · intro k
    refine Ok.imp (head_Field.s23_ok Z Q (head_Field.l20 Z Q k)) fun ρ w h => ?_
    obtain ⟨v_9, e9, h⟩ := atI_e h
    obtain ⟨t_28, t_28n, t_28c, e28, h⟩ := atL_e h
    obtain ⟨t_29, e29, h⟩ := atI_e h
    obtain ⟨t_30, e30, h⟩ := atI_e h
    show (head_Field.j26 Z Q (head_Field.l20 Z Q k)) ρ w
    simp only [head_Field.j26]
    rw [e9]
    rw [e28]
    rw [e29]
    rw [e30]
    exact h
  · intro ρ w h
    obtain ⟨v_9, e9, h⟩ := atI_e h
    obtain ⟨t_28, t_28n, t_28c, e28, h⟩ := atL_e h
    obtain ⟨t_29, e29, h⟩ := atI_e h
    obtain ⟨t_30, e30, h⟩ := atI_e h
    obtain ⟨k, h⟩ := h
    refine ⟨k, ?_⟩
    show (atI .u32 (ρ 9) fun v_9 => atL (ρ 28) fun t_28 t_28n t_28c => atI .i64 (ρ 29) fun t_29 => atI .i64 (ρ 30) fun t_30 => (head_Field.l20 Z Q k v_9 t_28 t_28n t_28c t_29 t_30)) w
    rw [e9]
    rw [e28]
    rw [e29]
    rw [e30]
    exact h
theorem head_Field.o30 (Z : ZT) (Q : Int → Int → PT) : Ok Tryd.prog Tryd.f32.ntmps Z head_Field.c14 (head_Field.q21 Z Q) (head_Field.j28 Z Q) := by
  rw [head_Field.q17]; exact ok_block (head_Field.o29 Z Q)
def head_Field.s31 (Z : ZT) (Q : Int → Int → PT) (h_2 : Addr) (first_6 : Int) (width_7 : Int) (v_9 : Int) : PT :=
  (cnd ((8 : Int) ≠ 0) (cnd ((8 : Int) ≠ 0) (cnd ((8 : Int) ≠ 0) (slA h_2 13 (IntKind.wrap .i64 (Int.tdiv first_6 8)) (IntKind.wrap .i64 ((IntKind.wrap .i64 (Int.tdiv first_6 8)) + (IntKind.wrap .i64 (Int.tdiv width_7 8)))) 1 fun v30 v30n v30c => (exK fun k => head_Field.l20 Z Q k v_9 v30 v30n v30c ((v30n : Nat) : Int) 0)))))
theorem head_Field.s31_eq (Z : ZT) (Q : Int → Int → PT) (ρ : Fr) (h_2 : Addr) (first_6 : Int) (width_7 : Int) (v_9 : Int) : (comp Tryd.prog Z head_Field.c13 (thenK (head_Field.j28 Z Q) (head_Field.q21 Z Q))) (puts ρ [(2, (Value.pointer (some h_2))), (6, (Value.int .i64 first_6)), (7, (Value.int .i64 width_7)), (9, (Value.int .u32 v_9))]) = head_Field.s31 Z Q h_2 first_6 width_7 v_9 := by kernel_rfl
def head_Field.j32 (Z : ZT) (Q : Int → Int → PT) : Fr → PT := (fun ρ => atA (ρ 2) fun h_2 => atI .i64 (ρ 6) fun first_6 => atI .i64 (ρ 7) fun width_7 => atI .u32 (ρ 9) fun v_9 => (head_Field.s31 Z Q h_2 first_6 width_7 v_9))
theorem head_Field.s31_ok (Z : ZT) (Q : Int → Int → PT) : Ok Tryd.prog Tryd.f32.ntmps Z head_Field.c7 (head_Field.q21 Z Q) (head_Field.j32 Z Q) := by
  intro E he ρ w a hr h
  rw [head_Field.q15] at he ⊢
  obtain ⟨h_2, e2, h⟩ := atA_e h
  obtain ⟨first_6, e6, h⟩ := atI_e h
  obtain ⟨width_7, e7, h⟩ := atI_e h
  obtain ⟨v_9, e9, h⟩ := atI_e h
  exact ok_at [(2, (Value.pointer (some h_2))), (6, (Value.int .i64 first_6)), (7, (Value.int .i64 width_7)), (9, (Value.int .u32 v_9))] (ok_seq (okC head_Field.c13 _ (by kernel_rfl)) (head_Field.o30 Z Q)) (puts_cons e2 (puts_cons e6 (puts_cons e7 (puts_cons e9 (fun p hp => puts_nil hp))))) (head_Field.s31_eq Z Q ρ h_2 first_6 width_7 v_9) he hr h
theorem head_Field.o33 (Z : ZT) (Q : Int → Int → PT) : Ok Tryd.prog Tryd.f32.ntmps Z head_Field.c5 (head_Field.q11 Z Q) (head_Field.j32 Z Q) := by
  rw [head_Field.q9]; exact ok_seq (head_Field.s31_ok Z Q) (head_Field.s10_ok Z Q)
def head_Field.s34 (Z : ZT) (Q : Int → Int → PT) (h_0 : List Value) (f_1 : Int) : PT :=
  (newC 37 h_0 fun h31 => (cal Tryd.prog Z 55 [(Value.int .i64 f_1)] (isT3 fun t32 t33 t34 => (isI .i64 fun v35 => ((isI .i64 fun v36 => ((isI .i64 fun v37 => (pif (v37 != 0) (Q 0 v37) (head_Field.s31 Z Q h31 v35 v36 0))) t34)) t33)) t32)))
theorem head_Field.s34_eq (Z : ZT) (Q : Int → Int → PT) (ρ : Fr) (h_0 : List Value) (f_1 : Int) : (comp Tryd.prog Z head_Field.c1 (thenK (comp Tryd.prog Z head_Field.c2 (thenK (comp Tryd.prog Z head_Field.c3 (thenK (comp Tryd.prog Z head_Field.c4 (thenK (head_Field.j32 Z Q) (head_Field.q11 Z Q))) (head_Field.q11 Z Q))) (head_Field.q11 Z Q))) (head_Field.q11 Z Q))) (puts ρ [(0, (Value.agg ⟨h_0⟩)), (1, (Value.int .i64 f_1))]) = head_Field.s34 Z Q h_0 f_1 := by kernel_rfl
def head_Field.j35 (Z : ZT) (Q : Int → Int → PT) : Fr → PT := (fun ρ => atN (ρ 0) fun h_0 => atI .i64 (ρ 1) fun f_1 => (head_Field.s34 Z Q h_0 f_1))
theorem head_Field.s34_ok (Z : ZT) (Q : Int → Int → PT) : Ok Tryd.prog Tryd.f32.ntmps Z head_Field.body (head_Field.q11 Z Q) (head_Field.j35 Z Q) := by
  intro E he ρ w a hr h
  rw [head_Field.q6] at he ⊢
  obtain ⟨h_0, e0, h⟩ := atN_e h
  obtain ⟨f_1, e1, h⟩ := atI_e h
  exact ok_at [(0, (Value.agg ⟨h_0⟩)), (1, (Value.int .i64 f_1))] (ok_seq (okC head_Field.c1 _ (by kernel_rfl)) (ok_seq (okC head_Field.c2 _ (by kernel_rfl)) (ok_seq (okC head_Field.c3 _ (by kernel_rfl)) (ok_seq (okC head_Field.c4 _ (by kernel_rfl)) (head_Field.o33 Z Q))))) (puts_cons e0 (puts_cons e1 (fun p hp => puts_nil hp))) (head_Field.s34_eq Z Q ρ h_0 f_1) he hr h
def head_Field.F (Z : ZT) (Q : Int → Int → PT) (h_0 : List Value) (f_1 : Int) : PT :=
  (head_Field.s34 Z Q h_0 f_1)
theorem head_Field.vc (Z : ZT) (Q : Int → Int → PT) (h_0 : List Value) (f_1 : Int) (w : World) (h : head_Field.F Z Q h_0 f_1 w) : Calls Tryd.prog 32 ⟨[(Value.agg ⟨h_0⟩), (Value.int .i64 f_1)]⟩ w fun e w' => (∃ (r0 : Int) (r1 : Int), e = .returned (.tuple #[.int .u32 r0, .int .i64 r1]) ∧ Q r0 r1 w') ∨ ∃ c, e = .panicked c ∧ Z c w' := by
  refine (calls_of_ok (args := [(Value.agg ⟨h_0⟩), (Value.int .i64 f_1)]) (w := w) (rs := [.tmp 4, .tmp 5]) (fn := Tryd.f32) (c := head_Field.body) Tryd.func32 (by kernel_rfl) (by kernel_rfl) (Nat.le_of_ble_eq_true (by kernel_rfl)) (head_Field.s34_ok Z Q) (h)).mono fun e w' hR => ?_
  cases e with
  | returned v =>
    obtain ⟨x, y, rfl, hR⟩ := at2_e hR
    obtain ⟨xa, rfl, hR⟩ := atI_e hR
    obtain ⟨ya, rfl, hR⟩ := atI_e hR
    exact .inl ⟨xa, ya, rfl, hR⟩
  | panicked c => exact .inr ⟨c, rfl, hR⟩
  | outgrown => exact hR.elim
theorem head_Field.vc0 (Q : Int → Int → PT) (h_0 : List Value) (f_1 : Int) (w : World) (h : head_Field.F Z0 Q h_0 f_1 w) : Calls Tryd.prog 32 ⟨[(Value.agg ⟨h_0⟩), (Value.int .i64 f_1)]⟩ w fun e w' => (∃ (r0 : Int) (r1 : Int), e = .returned (.tuple #[.int .u32 r0, .int .i64 r1]) ∧ Q r0 r1 w') :=
  (head_Field.vc Z0 Q h_0 f_1 w h).mono fun _ _ hR => hR.elim id fun ⟨_, _, hz⟩ => hz.elim
theorem head_Field.cal {Z : ZT} {Q : Int → Int → PT} {h_0 : List Value} {f_1 : Int} {w : World} (h : head_Field.F Z Q h_0 f_1 w) : Go.Proofs.YtllgjjldnnmjkaaDoor.cal Tryd.prog Z 32 [(Value.agg ⟨h_0⟩), (Value.int .i64 f_1)] (isT2 fun x y => (isI .u32 fun r0 => (isI .i64 fun r1 => Q r0 r1) y) x) w := by
  refine (head_Field.vc Z Q h_0 f_1 w h).mono fun e w' hR => ?_
  rcases hR with ⟨r0, r1, rfl, h⟩ | ⟨c, rfl, h⟩
  · show (isT2 fun x y => (isI .u32 fun r0 => (isI .i64 fun r1 => Q r0 r1) y) x) (.tuple #[.int .u32 r0, .int .i64 r1]) w'
    exact ⟨_, _, rfl, ⟨_, rfl, ⟨_, rfl, h⟩⟩⟩
  · exact h

/-! ### milepost/milepostref01.First: function 78 -/
noncomputable def ref01_First.body : Code := bodyC Tryd.f78
def ref01_First.F (Z : ZT) (Q : Int → PT) (f_0 : Int) : PT :=
  (pif (f_0 == 0) (Q 0) (pif (f_0 == 1) (Q 32) (pif (f_0 == 2) (Q 64) (pif (f_0 == 3) (Q 80) (pif (f_0 == 4) (Q 96) (Q (-1)))))))
def ref01_First.q1 (Z : ZT) (Q : Int → PT) : QF := bodyQ Tryd.prog [.tmp 2] (fun v => atI .i64 v fun va => Q va)
theorem ref01_First.eq (Z : ZT) (Q : Int → PT) (f_0 : Int) : comp Tryd.prog Z ref01_First.body (ref01_First.q1 Z Q) (fr0 [(Value.int .i64 f_0)]) = ref01_First.F Z Q f_0 := by kernel_rfl
theorem ref01_First.vc (Z : ZT) (Q : Int → PT) (f_0 : Int) (w : World) (h : ref01_First.F Z Q f_0 w) : Calls Tryd.prog 78 ⟨[(Value.int .i64 f_0)]⟩ w fun e w' => (∃ (r0 : Int), e = .returned (.int .i64 r0) ∧ Q r0 w') ∨ ∃ c, e = .panicked c ∧ Z c w' := by
  refine (calls_of_ok (args := [(Value.int .i64 f_0)]) (w := w) (rs := [.tmp 2]) (fn := Tryd.f78) (c := ref01_First.body) Tryd.func78 (by kernel_rfl) (by kernel_rfl) (Nat.le_of_ble_eq_true (by kernel_rfl)) (okC ref01_First.body (ref01_First.q1 Z Q) (by kernel_rfl)) (by rw [ref01_First.eq]; exact h)).mono fun e w' hR => ?_
  cases e with
  | returned v =>
    obtain ⟨va, rfl, hR⟩ := atI_e hR
    exact .inl ⟨va, rfl, hR⟩
  | panicked c => exact .inr ⟨c, rfl, hR⟩
  | outgrown => exact hR.elim
theorem ref01_First.vc0 (Q : Int → PT) (f_0 : Int) (w : World) (h : ref01_First.F Z0 Q f_0 w) : Calls Tryd.prog 78 ⟨[(Value.int .i64 f_0)]⟩ w fun e w' => (∃ (r0 : Int), e = .returned (.int .i64 r0) ∧ Q r0 w') :=
  (ref01_First.vc Z0 Q f_0 w h).mono fun _ _ hR => hR.elim id fun ⟨_, _, hz⟩ => hz.elim
theorem ref01_First.cal {Z : ZT} {Q : Int → PT} {f_0 : Int} {w : World} (h : ref01_First.F Z Q f_0 w) : Go.Proofs.YtllgjjldnnmjkaaDoor.cal Tryd.prog Z 78 [(Value.int .i64 f_0)] (isI .i64 fun r0 => Q r0) w := by
  refine (ref01_First.vc Z Q f_0 w h).mono fun e w' hR => ?_
  rcases hR with ⟨r0, rfl, h⟩ | ⟨c, rfl, h⟩
  · show (isI .i64 fun r0 => Q r0) (.int .i64 r0) w'
    exact ⟨_, rfl, h⟩
  · exact h

/-! ### milepost/milepostref01.Width: function 79 -/
noncomputable def ref01_Width.body : Code := bodyC Tryd.f79
def ref01_Width.F (Z : ZT) (Q : Int → PT) (f_0 : Int) : PT :=
  (pif (decide (f_0 < 2)) (Q 32) (pif (decide (f_0 < 4)) (Q 16) (Q 8)))
def ref01_Width.q1 (Z : ZT) (Q : Int → PT) : QF := bodyQ Tryd.prog [.tmp 2] (fun v => atI .i64 v fun va => Q va)
theorem ref01_Width.eq (Z : ZT) (Q : Int → PT) (f_0 : Int) : comp Tryd.prog Z ref01_Width.body (ref01_Width.q1 Z Q) (fr0 [(Value.int .i64 f_0)]) = ref01_Width.F Z Q f_0 := by kernel_rfl
theorem ref01_Width.vc (Z : ZT) (Q : Int → PT) (f_0 : Int) (w : World) (h : ref01_Width.F Z Q f_0 w) : Calls Tryd.prog 79 ⟨[(Value.int .i64 f_0)]⟩ w fun e w' => (∃ (r0 : Int), e = .returned (.int .i64 r0) ∧ Q r0 w') ∨ ∃ c, e = .panicked c ∧ Z c w' := by
  refine (calls_of_ok (args := [(Value.int .i64 f_0)]) (w := w) (rs := [.tmp 2]) (fn := Tryd.f79) (c := ref01_Width.body) Tryd.func79 (by kernel_rfl) (by kernel_rfl) (Nat.le_of_ble_eq_true (by kernel_rfl)) (okC ref01_Width.body (ref01_Width.q1 Z Q) (by kernel_rfl)) (by rw [ref01_Width.eq]; exact h)).mono fun e w' hR => ?_
  cases e with
  | returned v =>
    obtain ⟨va, rfl, hR⟩ := atI_e hR
    exact .inl ⟨va, rfl, hR⟩
  | panicked c => exact .inr ⟨c, rfl, hR⟩
  | outgrown => exact hR.elim
theorem ref01_Width.vc0 (Q : Int → PT) (f_0 : Int) (w : World) (h : ref01_Width.F Z0 Q f_0 w) : Calls Tryd.prog 79 ⟨[(Value.int .i64 f_0)]⟩ w fun e w' => (∃ (r0 : Int), e = .returned (.int .i64 r0) ∧ Q r0 w') :=
  (ref01_Width.vc Z0 Q f_0 w h).mono fun _ _ hR => hR.elim id fun ⟨_, _, hz⟩ => hz.elim
theorem ref01_Width.cal {Z : ZT} {Q : Int → PT} {f_0 : Int} {w : World} (h : ref01_Width.F Z Q f_0 w) : Go.Proofs.YtllgjjldnnmjkaaDoor.cal Tryd.prog Z 79 [(Value.int .i64 f_0)] (isI .i64 fun r0 => Q r0) w := by
  refine (ref01_Width.vc Z Q f_0 w h).mono fun e w' hR => ?_
  rcases hR with ⟨r0, rfl, h⟩ | ⟨c, rfl, h⟩
  · show (isI .i64 fun r0 => Q r0) (.int .i64 r0) w'
    exact ⟨_, rfl, h⟩
  · exact h

/-! ### milepost/milepostref01.Bit: function 80 -/
noncomputable def ref01_Bit.body : Code := bodyC Tryd.f80
def ref01_Bit.F (Z : ZT) (Q : Bool → PT) (h_0 : List Value) (i_1 : Int) : PT :=
  (newC 37 h_0 fun h3 => (pif (decide (i_1 < 0)) (Q false) (pif (decide (i_1 > 103)) (Q false) (cnd ((8 : Int) ≠ 0) (cnd ((0 : Int) ≤ (IntKind.wrap .i64 (Int.tdiv i_1 8)) ∧ (IntKind.wrap .i64 (Int.tdiv i_1 8)) < ((13 : Nat) : Int)) (ldI .u8 (h3.add ((IntKind.wrap .i64 (Int.tdiv i_1 8)).toNat * 1)) fun v4 => (cnd ((8 : Int) ≠ 0) (cnd ((0 : Int) ≤ (IntKind.wrap .i64 ((7 : Int) - (Int.tmod i_1 8)))) (cnd ((2 : Int) ≠ 0) (Q ((Int.tmod (Int.fdiv v4 (2 ^ (min (IntKind.wrap .i64 ((7 : Int) - (Int.tmod i_1 8))).toNat (IntKind.bits .u8)))) 2) == 1)))))))))))
def ref01_Bit.q1 (Z : ZT) (Q : Bool → PT) : QF := bodyQ Tryd.prog [.tmp 4] (fun v => atB v fun va => Q va)
theorem ref01_Bit.eq (Z : ZT) (Q : Bool → PT) (h_0 : List Value) (i_1 : Int) : comp Tryd.prog Z ref01_Bit.body (ref01_Bit.q1 Z Q) (fr0 [(Value.agg ⟨h_0⟩), (Value.int .i64 i_1)]) = ref01_Bit.F Z Q h_0 i_1 := by kernel_rfl
theorem ref01_Bit.vc (Z : ZT) (Q : Bool → PT) (h_0 : List Value) (i_1 : Int) (w : World) (h : ref01_Bit.F Z Q h_0 i_1 w) : Calls Tryd.prog 80 ⟨[(Value.agg ⟨h_0⟩), (Value.int .i64 i_1)]⟩ w fun e w' => (∃ (r0 : Bool), e = .returned (.bool r0) ∧ Q r0 w') ∨ ∃ c, e = .panicked c ∧ Z c w' := by
  refine (calls_of_ok (args := [(Value.agg ⟨h_0⟩), (Value.int .i64 i_1)]) (w := w) (rs := [.tmp 4]) (fn := Tryd.f80) (c := ref01_Bit.body) Tryd.func80 (by kernel_rfl) (by kernel_rfl) (Nat.le_of_ble_eq_true (by kernel_rfl)) (okC ref01_Bit.body (ref01_Bit.q1 Z Q) (by kernel_rfl)) (by rw [ref01_Bit.eq]; exact h)).mono fun e w' hR => ?_
  cases e with
  | returned v =>
    obtain ⟨va, rfl, hR⟩ := atB_e hR
    exact .inl ⟨va, rfl, hR⟩
  | panicked c => exact .inr ⟨c, rfl, hR⟩
  | outgrown => exact hR.elim
theorem ref01_Bit.vc0 (Q : Bool → PT) (h_0 : List Value) (i_1 : Int) (w : World) (h : ref01_Bit.F Z0 Q h_0 i_1 w) : Calls Tryd.prog 80 ⟨[(Value.agg ⟨h_0⟩), (Value.int .i64 i_1)]⟩ w fun e w' => (∃ (r0 : Bool), e = .returned (.bool r0) ∧ Q r0 w') :=
  (ref01_Bit.vc Z0 Q h_0 i_1 w h).mono fun _ _ hR => hR.elim id fun ⟨_, _, hz⟩ => hz.elim
theorem ref01_Bit.cal {Z : ZT} {Q : Bool → PT} {h_0 : List Value} {i_1 : Int} {w : World} (h : ref01_Bit.F Z Q h_0 i_1 w) : Go.Proofs.YtllgjjldnnmjkaaDoor.cal Tryd.prog Z 80 [(Value.agg ⟨h_0⟩), (Value.int .i64 i_1)] (isB fun r0 => Q r0) w := by
  refine (ref01_Bit.vc Z Q h_0 i_1 w h).mono fun e w' hR => ?_
  rcases hR with ⟨r0, rfl, h⟩ | ⟨c, rfl, h⟩
  · show (isB fun r0 => Q r0) (.bool r0) w'
    exact ⟨_, rfl, h⟩
  · exact h

/-! ### milepost/milepostref01.Field: function 56 -/
noncomputable def ref01_Field.body : Code := bodyC Tryd.f56
noncomputable def ref01_Field.c1 : Code := sq1 ref01_Field.body
noncomputable def ref01_Field.c2 : Code := sq1 (sq2 ref01_Field.body)
noncomputable def ref01_Field.c3 : Code := sq1 (sq2 (sq2 ref01_Field.body))
noncomputable def ref01_Field.c4 : Code := sq2 (sq2 (sq2 ref01_Field.body))
theorem ref01_Field.q5 : ref01_Field.body = .seq ref01_Field.c1 (.seq ref01_Field.c2 (.seq ref01_Field.c3 ref01_Field.c4)) := by kernel_rfl
noncomputable def ref01_Field.c6 : Code := sq1 ref01_Field.c4
noncomputable def ref01_Field.c7 : Code := sq2 ref01_Field.c4
theorem ref01_Field.q8 : ref01_Field.c4 = .seq ref01_Field.c6 ref01_Field.c7 := by kernel_rfl
def ref01_Field.s9 (Z : ZT) (Q : Int → Int → PT) (n_6 : Int) : PT :=
  (Q n_6 0)
def ref01_Field.q10 (Z : ZT) (Q : Int → Int → PT) : QF := bodyQ Tryd.prog [.tmp 4, .tmp 5] (fun v => at2 v fun x y => atI .u32 x fun xa => atI .i64 y fun ya => Q xa ya)
theorem ref01_Field.s9_eq (Z : ZT) (Q : Int → Int → PT) (ρ : Fr) (n_6 : Int) : comp Tryd.prog Z ref01_Field.c7 (ref01_Field.q10 Z Q) (puts ρ [(6, (Value.int .u32 n_6))]) = ref01_Field.s9 Z Q n_6 := by kernel_rfl
def ref01_Field.j11 (Z : ZT) (Q : Int → Int → PT) : Fr → PT := (fun ρ => atI .u32 (ρ 6) fun n_6 => (ref01_Field.s9 Z Q n_6))
theorem ref01_Field.s9_ok (Z : ZT) (Q : Int → Int → PT) : Ok Tryd.prog Tryd.f56.ntmps Z ref01_Field.c7 (ref01_Field.q10 Z Q) (ref01_Field.j11 Z Q) := by
  intro E he ρ w a hr h
  obtain ⟨n_6, e6, h⟩ := atI_e h
  exact ok_at [(6, (Value.int .u32 n_6))] (okC ref01_Field.c7 (ref01_Field.q10 Z Q) (by kernel_rfl)) (puts_cons e6 (fun p hp => puts_nil hp)) (ref01_Field.s9_eq Z Q ρ n_6) he hr h
noncomputable def ref01_Field.c12 : Code := sq1 ref01_Field.c6
noncomputable def ref01_Field.c13 : Code := sq2 ref01_Field.c6
theorem ref01_Field.q14 : ref01_Field.c6 = .seq ref01_Field.c12 ref01_Field.c13 := by kernel_rfl
noncomputable def ref01_Field.c15 : Code := blk ref01_Field.c13
theorem ref01_Field.q16 : ref01_Field.c13 = .block 0 ref01_Field.c15 := by kernel_rfl
noncomputable def ref01_Field.c17 : Code := lop ref01_Field.c15
theorem ref01_Field.q18 : ref01_Field.c15 = .loop ref01_Field.c17 := by kernel_rfl
def ref01_Field.q20 (Z : ZT) (Q : Int → Int → PT) : QF := thenK (ref01_Field.j11 Z Q) (ref01_Field.q10 Z Q)
def ref01_Field.q21 (Z : ZT) (Q : Int → Int → PT) : QF := inBl 0 (ref01_Field.q20 Z Q)
def ref01_Field.s22 (Z : ZT) (Q : Int → Int → PT) (X1 : Int → Addr → Int → Int → PT) (f_1 : Int) (h_2 : Addr) (n_6 : Int) (i_7 : Int) : PT :=
  (cal Tryd.prog Z 79 [(Value.int .i64 f_1)] (isI .i64 fun v18 => (pif (decide (i_7 < v18)) (drawn fun S19 => (hN S19 13 h_2 fun v20 => (cal Tryd.prog Z 78 [(Value.int .i64 f_1)] (isI .i64 fun v21 => (sAnd S19 (cal Tryd.prog Z 80 [(Value.agg ⟨v20⟩), (Value.int .i64 (IntKind.wrap .i64 (v21 + i_7)))] (isB fun v22 => (sAnd S19 (pif v22 (X1 f_1 h_2 (IntKind.wrap .u32 ((IntKind.wrap .u32 (n_6 * 2)) + 1)) (IntKind.wrap .i64 (i_7 + 1))) (X1 f_1 h_2 (IntKind.wrap .u32 (n_6 * 2)) (IntKind.wrap .i64 (i_7 + 1)))))))))))) (ref01_Field.s9 Z Q n_6))))
def ref01_Field.j23 (Z : ZT) (Q : Int → Int → PT) (X1 : Int → Addr → Int → Int → PT) : Fr → PT := (fun ρ => atI .i64 (ρ 1) fun f_1 => atA (ρ 2) fun h_2 => atI .u32 (ρ 6) fun n_6 => atI .i64 (ρ 7) fun i_7 => (X1 f_1 h_2 n_6 i_7))
def ref01_Field.q24 (Z : ZT) (Q : Int → Int → PT) (X1 : Int → Addr → Int → Int → PT) : QF := thenK (ref01_Field.j23 Z Q X1) (ref01_Field.q21 Z Q)
theorem ref01_Field.s22_eq (Z : ZT) (Q : Int → Int → PT) (X1 : Int → Addr → Int → Int → PT) (ρ : Fr) (f_1 : Int) (h_2 : Addr) (n_6 : Int) (i_7 : Int) : comp Tryd.prog Z ref01_Field.c17 (ref01_Field.q24 Z Q X1) (puts ρ [(1, (Value.int .i64 f_1)), (2, (Value.pointer (some h_2))), (6, (Value.int .u32 n_6)), (7, (Value.int .i64 i_7))]) = ref01_Field.s22 Z Q X1 f_1 h_2 n_6 i_7 := by kernel_rfl
def ref01_Field.j25 (Z : ZT) (Q : Int → Int → PT) (X1 : Int → Addr → Int → Int → PT) : Fr → PT := (fun ρ => atI .i64 (ρ 1) fun f_1 => atA (ρ 2) fun h_2 => atI .u32 (ρ 6) fun n_6 => atI .i64 (ρ 7) fun i_7 => (ref01_Field.s22 Z Q X1 f_1 h_2 n_6 i_7))
theorem ref01_Field.s22_ok (Z : ZT) (Q : Int → Int → PT) (X1 : Int → Addr → Int → Int → PT) : Ok Tryd.prog Tryd.f56.ntmps Z ref01_Field.c17 (ref01_Field.q24 Z Q X1) (ref01_Field.j25 Z Q X1) := by
  intro E he ρ w a hr h
  obtain ⟨f_1, e1, h⟩ := atI_e h
  obtain ⟨h_2, e2, h⟩ := atA_e h
  obtain ⟨n_6, e6, h⟩ := atI_e h
  obtain ⟨i_7, e7, h⟩ := atI_e h
  exact ok_at [(1, (Value.int .i64 f_1)), (2, (Value.pointer (some h_2))), (6, (Value.int .u32 n_6)), (7, (Value.int .i64 i_7))] (okC ref01_Field.c17 (ref01_Field.q24 Z Q X1) (by kernel_rfl)) (puts_cons e1 (puts_cons e2 (puts_cons e6 (puts_cons e7 (fun p hp => puts_nil hp))))) (ref01_Field.s22_eq Z Q X1 ρ f_1 h_2 n_6 i_7) he hr h
def ref01_Field.l19 (Z : ZT) (Q : Int → Int → PT) : Nat → Int → Addr → Int → Int → PT
  | 0, _, _, _, _ => bad
  | k + 1, f_1, h_2, n_6, i_7 => (ref01_Field.s22 Z Q (ref01_Field.l19 Z Q k) f_1 h_2 n_6 i_7)
def ref01_Field.j26 (Z : ZT) (Q : Int → Int → PT) (k : Nat) : Fr → PT := (fun ρ => atI .i64 (ρ 1) fun f_1 => atA (ρ 2) fun h_2 => atI .u32 (ρ 6) fun n_6 => atI .i64 (ρ 7) fun i_7 => (ref01_Field.l19 Z Q k f_1 h_2 n_6 i_7))
def ref01_Field.j27 (Z : ZT) (Q : Int → Int → PT) : Fr → PT := (fun ρ => atI .i64 (ρ 1) fun f_1 => atA (ρ 2) fun h_2 => atI .u32 (ρ 6) fun n_6 => atI .i64 (ρ 7) fun i_7 => (exK fun k => ref01_Field.l19 Z Q k f_1 h_2 n_6 i_7))
theorem ref01_Field.o28 (Z : ZT) (Q : Int → Int → PT) : Ok Tryd.prog Tryd.f56.ntmps Z ref01_Field.c15 (ref01_Field.q21 Z Q) (ref01_Field.j27 Z Q) := by
  rw [ref01_Field.q18]
  refine Ok.imp (ok_loop (J := ref01_Field.j26 Z Q) ?_ ?_) ?_
  · intro ρ w h
    obtain ⟨f_1, e1, h⟩ := atI_e h
    obtain ⟨h_2, e2, h⟩ := atA_e h
    obtain ⟨n_6, e6, h⟩ := atI_e h
    obtain ⟨i_7, e7, h⟩ := atI_e h
    exact h
  · intro k
    refine Ok.imp (ref01_Field.s22_ok Z Q (ref01_Field.l19 Z Q k)) fun ρ w h => ?_
    obtain ⟨f_1, e1, h⟩ := atI_e h
    obtain ⟨h_2, e2, h⟩ := atA_e h
    obtain ⟨n_6, e6, h⟩ := atI_e h
    obtain ⟨i_7, e7, h⟩ := atI_e h
    show (ref01_Field.j25 Z Q (ref01_Field.l19 Z Q k)) ρ w
    simp only [ref01_Field.j25]
    rw [e1]
    rw [e2]
    rw [e6]
    rw [e7]
    exact h
  · intro ρ w h
    obtain ⟨f_1, e1, h⟩ := atI_e h
    obtain ⟨h_2, e2, h⟩ := atA_e h
    obtain ⟨n_6, e6, h⟩ := atI_e h
    obtain ⟨i_7, e7, h⟩ := atI_e h
    obtain ⟨k, h⟩ := h
    refine ⟨k, ?_⟩
    show (atI .i64 (ρ 1) fun f_1 => atA (ρ 2) fun h_2 => atI .u32 (ρ 6) fun n_6 => atI .i64 (ρ 7) fun i_7 => (ref01_Field.l19 Z Q k f_1 h_2 n_6 i_7)) w
    rw [e1]
    rw [e2]
    rw [e6]
    rw [e7]
    exact h
theorem ref01_Field.o29 (Z : ZT) (Q : Int → Int → PT) : Ok Tryd.prog Tryd.f56.ntmps Z ref01_Field.c13 (ref01_Field.q20 Z Q) (ref01_Field.j27 Z Q) := by
  rw [ref01_Field.q16]; exact ok_block (ref01_Field.o28 Z Q)
def ref01_Field.s30 (Z : ZT) (Q : Int → Int → PT) (f_1 : Int) (h_2 : Addr) (n_6 : Int) : PT :=
  (exK fun k => ref01_Field.l19 Z Q k f_1 h_2 n_6 0)
theorem ref01_Field.s30_eq (Z : ZT) (Q : Int → Int → PT) (ρ : Fr) (f_1 : Int) (h_2 : Addr) (n_6 : Int) : (comp Tryd.prog Z ref01_Field.c12 (thenK (ref01_Field.j27 Z Q) (ref01_Field.q20 Z Q))) (puts ρ [(1, (Value.int .i64 f_1)), (2, (Value.pointer (some h_2))), (6, (Value.int .u32 n_6))]) = ref01_Field.s30 Z Q f_1 h_2 n_6 := by kernel_rfl
def ref01_Field.j31 (Z : ZT) (Q : Int → Int → PT) : Fr → PT := (fun ρ => atI .i64 (ρ 1) fun f_1 => atA (ρ 2) fun h_2 => atI .u32 (ρ 6) fun n_6 => (ref01_Field.s30 Z Q f_1 h_2 n_6))
theorem ref01_Field.s30_ok (Z : ZT) (Q : Int → Int → PT) : Ok Tryd.prog Tryd.f56.ntmps Z ref01_Field.c6 (ref01_Field.q20 Z Q) (ref01_Field.j31 Z Q) := by
  intro E he ρ w a hr h
  rw [ref01_Field.q14] at he ⊢
  obtain ⟨f_1, e1, h⟩ := atI_e h
  obtain ⟨h_2, e2, h⟩ := atA_e h
  obtain ⟨n_6, e6, h⟩ := atI_e h
  exact ok_at [(1, (Value.int .i64 f_1)), (2, (Value.pointer (some h_2))), (6, (Value.int .u32 n_6))] (ok_seq (okC ref01_Field.c12 _ (by kernel_rfl)) (ref01_Field.o29 Z Q)) (puts_cons e1 (puts_cons e2 (puts_cons e6 (fun p hp => puts_nil hp)))) (ref01_Field.s30_eq Z Q ρ f_1 h_2 n_6) he hr h
theorem ref01_Field.o32 (Z : ZT) (Q : Int → Int → PT) : Ok Tryd.prog Tryd.f56.ntmps Z ref01_Field.c4 (ref01_Field.q10 Z Q) (ref01_Field.j31 Z Q) := by
  rw [ref01_Field.q8]; exact ok_seq (ref01_Field.s30_ok Z Q) (ref01_Field.s9_ok Z Q)
def ref01_Field.s33 (Z : ZT) (Q : Int → Int → PT) (h_0 : List Value) (f_1 : Int) : PT :=
  (newC 37 h_0 fun h23 => (cal Tryd.prog Z 78 [(Value.int .i64 f_1)] (isI .i64 fun v24 => (pif (decide (v24 < 0)) (Q 0 1) (ref01_Field.s30 Z Q f_1 h23 0)))))
theorem ref01_Field.s33_eq (Z : ZT) (Q : Int → Int → PT) (ρ : Fr) (h_0 : List Value) (f_1 : Int) : (comp Tryd.prog Z ref01_Field.c1 (thenK (comp Tryd.prog Z ref01_Field.c2 (thenK (comp Tryd.prog Z ref01_Field.c3 (thenK (ref01_Field.j31 Z Q) (ref01_Field.q10 Z Q))) (ref01_Field.q10 Z Q))) (ref01_Field.q10 Z Q))) (puts ρ [(0, (Value.agg ⟨h_0⟩)), (1, (Value.int .i64 f_1))]) = ref01_Field.s33 Z Q h_0 f_1 := by kernel_rfl
def ref01_Field.j34 (Z : ZT) (Q : Int → Int → PT) : Fr → PT := (fun ρ => atN (ρ 0) fun h_0 => atI .i64 (ρ 1) fun f_1 => (ref01_Field.s33 Z Q h_0 f_1))
theorem ref01_Field.s33_ok (Z : ZT) (Q : Int → Int → PT) : Ok Tryd.prog Tryd.f56.ntmps Z ref01_Field.body (ref01_Field.q10 Z Q) (ref01_Field.j34 Z Q) := by
  intro E he ρ w a hr h
  rw [ref01_Field.q5] at he ⊢
  obtain ⟨h_0, e0, h⟩ := atN_e h
  obtain ⟨f_1, e1, h⟩ := atI_e h
  exact ok_at [(0, (Value.agg ⟨h_0⟩)), (1, (Value.int .i64 f_1))] (ok_seq (okC ref01_Field.c1 _ (by kernel_rfl)) (ok_seq (okC ref01_Field.c2 _ (by kernel_rfl)) (ok_seq (okC ref01_Field.c3 _ (by kernel_rfl)) (ref01_Field.o32 Z Q)))) (puts_cons e0 (puts_cons e1 (fun p hp => puts_nil hp))) (ref01_Field.s33_eq Z Q ρ h_0 f_1) he hr h
def ref01_Field.F (Z : ZT) (Q : Int → Int → PT) (h_0 : List Value) (f_1 : Int) : PT :=
  (ref01_Field.s33 Z Q h_0 f_1)
theorem ref01_Field.vc (Z : ZT) (Q : Int → Int → PT) (h_0 : List Value) (f_1 : Int) (w : World) (h : ref01_Field.F Z Q h_0 f_1 w) : Calls Tryd.prog 56 ⟨[(Value.agg ⟨h_0⟩), (Value.int .i64 f_1)]⟩ w fun e w' => (∃ (r0 : Int) (r1 : Int), e = .returned (.tuple #[.int .u32 r0, .int .i64 r1]) ∧ Q r0 r1 w') ∨ ∃ c, e = .panicked c ∧ Z c w' := by
  refine (calls_of_ok (args := [(Value.agg ⟨h_0⟩), (Value.int .i64 f_1)]) (w := w) (rs := [.tmp 4, .tmp 5]) (fn := Tryd.f56) (c := ref01_Field.body) Tryd.func56 (by kernel_rfl) (by kernel_rfl) (Nat.le_of_ble_eq_true (by kernel_rfl)) (ref01_Field.s33_ok Z Q) (h)).mono fun e w' hR => ?_
  cases e with
  | returned v =>
    obtain ⟨x, y, rfl, hR⟩ := at2_e hR
    obtain ⟨xa, rfl, hR⟩ := atI_e hR
    obtain ⟨ya, rfl, hR⟩ := atI_e hR
    exact .inl ⟨xa, ya, rfl, hR⟩
  | panicked c => exact .inr ⟨c, rfl, hR⟩
  | outgrown => exact hR.elim
theorem ref01_Field.vc0 (Q : Int → Int → PT) (h_0 : List Value) (f_1 : Int) (w : World) (h : ref01_Field.F Z0 Q h_0 f_1 w) : Calls Tryd.prog 56 ⟨[(Value.agg ⟨h_0⟩), (Value.int .i64 f_1)]⟩ w fun e w' => (∃ (r0 : Int) (r1 : Int), e = .returned (.tuple #[.int .u32 r0, .int .i64 r1]) ∧ Q r0 r1 w') :=
  (ref01_Field.vc Z0 Q h_0 f_1 w h).mono fun _ _ hR => hR.elim id fun ⟨_, _, hz⟩ => hz.elim
theorem ref01_Field.cal {Z : ZT} {Q : Int → Int → PT} {h_0 : List Value} {f_1 : Int} {w : World} (h : ref01_Field.F Z Q h_0 f_1 w) : Go.Proofs.YtllgjjldnnmjkaaDoor.cal Tryd.prog Z 56 [(Value.agg ⟨h_0⟩), (Value.int .i64 f_1)] (isT2 fun x y => (isI .u32 fun r0 => (isI .i64 fun r1 => Q r0 r1) y) x) w := by
  refine (ref01_Field.vc Z Q h_0 f_1 w h).mono fun e w' hR => ?_
  rcases hR with ⟨r0, r1, rfl, h⟩ | ⟨c, rfl, h⟩
  · show (isT2 fun x y => (isI .u32 fun r0 => (isI .i64 fun r1 => Q r0 r1) y) x) (.tuple #[.int .u32 r0, .int .i64 r1]) w'
    exact ⟨_, _, rfl, ⟨_, rfl, ⟨_, rfl, h⟩⟩⟩
  · exact h

end Go.Proofs.YtllgjjldnnmjkaaDoor
end
section
set_option maxRecDepth 100000
namespace Go.Proofs.YtllgjjldnnmjkaaDoor
open Go.RowKit Extern.Stop

/-! ### Numbers -/
theorem wrapU8 (n : Nat) : IntKind.wrap .u8 (n : Int) = (n % 256 : Nat) := by simp [IntKind.wrap, IntKind.bits, IntKind.signed]
theorem wrapU16 (n : Nat) : IntKind.wrap .u16 (n : Int) = (n % 65536 : Nat) := by simp [IntKind.wrap, IntKind.bits, IntKind.signed]
theorem wrapU32 (n : Nat) : IntKind.wrap .u32 (n : Int) = (n % 4294967296 : Nat) := by simp [IntKind.wrap, IntKind.bits, IntKind.signed]
theorem wrapU64 (n : Nat) : IntKind.wrap .u64 (n : Int) = (n % 18446744073709551616 : Nat) := by simp [IntKind.wrap, IntKind.bits, IntKind.signed]
theorem tdivN (n m : Nat) : Int.tdiv (n : Int) (m : Int) = ((n / m : Nat) : Int) := by rw [Int.tdiv_eq_ediv_of_nonneg (by omega)]; rfl
theorem tmodN (n m : Nat) : Int.tmod (n : Int) (m : Int) = ((n % m : Nat) : Int) := by rw [Int.tmod_eq_emod_of_nonneg (by omega)]; rfl
theorem fdivN (n m : Nat) : Int.fdiv (n : Int) (m : Int) = ((n / m : Nat) : Int) := by rw [Int.fdiv_eq_ediv_of_nonneg _ (by omega)]; rfl
theorem powN (k : Nat) : ((2 : Int) ^ k) = ((2 ^ k : Nat) : Int) := by simp
theorem ofN8 {n : Nat} (h : n < 256) : (BitVec.ofInt (IntKind.bits .u8) (n : Int)).toNat = n := by
  show (BitVec.ofInt 8 (n : Int)).toNat = n
  rw [BitVec.toNat_ofInt]; omega
theorem ofN32 {n : Nat} (h : n < 4294967296) : (BitVec.ofInt (IntKind.bits .u32) (n : Int)).toNat = n := by
  show (BitVec.ofInt 32 (n : Int)).toNat = n
  rw [BitVec.toNat_ofInt]; omega
theorem and8 {x y : Nat} (hx : x < 256) (hy : y < 256) : IntKind.wrap .u8 ((BitVec.ofInt (IntKind.bits .u8) (x : Int) &&& BitVec.ofInt (IntKind.bits .u8) (y : Int)).toNat : Nat) = ((x &&& y : Nat) : Int) := by
  rw [BitVec.toNat_and, ofN8 hx, ofN8 hy, wrapU8, Nat.mod_eq_of_lt (Nat.and_lt_two_pow (n := 8) x hy)]
theorem xor8 {x y : Nat} (hx : x < 256) (hy : y < 256) : IntKind.wrap .u8 ((BitVec.ofInt (IntKind.bits .u8) (x : Int) ^^^ BitVec.ofInt (IntKind.bits .u8) (y : Int)).toNat : Nat) = ((x ^^^ y : Nat) : Int) := by
  rw [BitVec.toNat_xor, ofN8 hx, ofN8 hy, wrapU8, Nat.mod_eq_of_lt (Nat.xor_lt_two_pow (n := 8) hx hy)]
theorem or32 {x y : Nat} (hx : x < 4294967296) (hy : y < 4294967296) : IntKind.wrap .u32 ((BitVec.ofInt (IntKind.bits .u32) (x : Int) ||| BitVec.ofInt (IntKind.bits .u32) (y : Int)).toNat : Nat) = ((x ||| y : Nat) : Int) := by
  rw [BitVec.toNat_or, ofN32 hx, ofN32 hy, wrapU32, Nat.mod_eq_of_lt (Nat.or_lt_two_pow (n := 32) hx hy)]
theorem wrapU8_of {n : Nat} (h : n < 256) : IntKind.wrap .u8 (n : Int) = (n : Int) := by rw [wrapU8, Nat.mod_eq_of_lt h]
theorem pow_sub (i : Nat) : 128 / 2 ^ (i % 8) = 2 ^ (7 - i % 8) := by
  have h : ∀ j, j < 8 → 128 / 2 ^ j = 2 ^ (7 - j) := by decide
  exact h _ (Nat.mod_lt _ (by decide))
theorem shr128 (i : Nat) : Int.fdiv (128 : Int) (2 ^ (min (((i % 8 : Nat) : Int)).toNat (IntKind.bits .u8))) = ((2 ^ (7 - i % 8) : Nat) : Int) := by
  have e : min (((i % 8 : Nat) : Int)).toNat (IntKind.bits .u8) = i % 8 := by
    show min _ 8 = _
    omega
  rw [e, powN, ← pow_sub]
  exact fdivN 128 _

abbrev z13 : List Value := [.int .u8 0, .int .u8 0, .int .u8 0, .int .u8 0, .int .u8 0, .int .u8 0, .int .u8 0, .int .u8 0, .int .u8 0, .int .u8 0, .int .u8 0, .int .u8 0, .int .u8 0]
section
variable {Z : List PanicEntry → PT} {w : World} {h : List UInt8}
theorem setN {h : List UInt8} {i : Nat} {n : Nat} {v : Int} (hv : v = (n : Nat)) (hn : n < 256) : (encH h).set i (.int .u8 v) = encH (setH h i n) := by subst hv; exact encH_set hn
theorem bit2_cal {K : Bool → PT} {i : Int} (hl : h.length = 13) (hk : ∀ w', Ext w w' → K (bitI h i) w') : cal Tryd.prog Z 80 [.agg ⟨encH h⟩, .int .i64 i] (isB fun v => K v) w := by
  refine ref01_Bit.cal ?_
  unfold ref01_Bit.F
  refine (Sep.start (fun _ => False) w).new fun w2 b1 h1 k1 => ?_
  unfold bitI at hk
  rw [pif_dec]
  split
  · rename_i g0
    rw [if_neg (by omega)] at hk
    exact hk w2 h1.kept
  · rename_i g0
    rw [pif_dec]
    split
    · rename_i g1
      rw [if_neg (by omega)] at hk
      exact hk w2 h1.kept
    · rename_i g1
      rw [if_pos (by omega)] at hk
      obtain ⟨n, rfl⟩ : ∃ n : Nat, i = n := ⟨i.toNat, by omega⟩
      have e1 : IntKind.wrap .i64 (Int.tdiv (n : Int) 8) = ((n / 8 : Nat) : Int) := by rw [show (8 : Int) = ((8 : Nat) : Int) from rfl, tdivN, wrap_nat (by omega)]
      have e2 : IntKind.wrap .i64 ((7 : Int) - Int.tmod (n : Int) 8) = ((7 - n % 8 : Nat) : Int) := by
        rw [show Int.tmod (n : Int) 8 = ((n % 8 : Nat) : Int) from tmodN n 8, wrap_in (by omega) (by omega)]; omega
      rw [e1, e2]
      refine cnd_of (by decide) (cnd_of ⟨by omega, by omega⟩ ?_)
      simp only [add_mk, Nat.zero_add, Int.toNat_natCast, Nat.mul_one]
      refine h1.ldI 0 rfl (encH_at (by omega)) ?_
      refine cnd_of (by decide) (cnd_of (by omega) (cnd_of (by decide) ?_))
      have e3 : min (7 - n % 8) (IntKind.bits .u8) = 7 - n % 8 := by show min _ 8 = _; omega
      rw [e3, powN, fdivN, show (2 : Int) = ((2 : Nat) : Int) from rfl, tmodN]
      have := (bit_tab _ (hb_lt h (n / 8)) (7 - n % 8) (by omega)).2.2.2
      have e4 : ((((hb h (n / 8) / 2 ^ (7 - n % 8) % 2 : Nat) : Int)) == 1) = (hb h (n / 8)).testBit (7 - n % 8) := by
        rw [← this, Bool.eq_iff_iff]
        simp only [beq_iff_eq]
        omega
      rw [e4]
      exact hk w2 h1.kept
def flipI (h : List UInt8) (i : Int) : List UInt8 := if 0 ≤ i ∧ i < 104 then flipS h i.toNat else h
theorem out13 {b1 b2 : Nat} {Q : List Value → PT} {w0 : World} {h : List UInt8} {z : List Value} (hl : h.length = 13) (hz : z.length = 13) (hs : Sep (fun _ => False) w0 w [fB b2 z, fB b1 (encH h)]) (hk : ∀ w', Ext w0 w' → Q (encH h) w') : ldN 13 ⟨b1, 0, none⟩ (fun v => stN 13 ⟨b2, 0, none⟩ v (ldN 13 ⟨b2, 0, none⟩ fun u => Q u)) w := by
  have e : Go.Proofs.YtllgjjldnnmjkaaDoor.sub (encH h) 0 13 = encH h := by
    unfold Go.Proofs.YtllgjjldnnmjkaaDoor.sub
    rw [List.drop_zero, List.take_of_length_le (by rw [encH_len]; omega)]
  refine hs.ldN 1 rfl e (by rw [encH_len, hl]) ?_
  refine hs.stN 0 rfl (by omega) (by rw [encH_len, hl]) (encH_one h) (cs' := encH h) ?_ fun w1 h1 k1 => ?_
  · unfold lay
    rw [List.take_zero, List.drop_eq_nil_of_le (by rw [encH_len]; omega)]
    simp
  · exact h1.ldN 0 rfl e (by rw [encH_len, hl]) (hk w1 h1.kept)
end
end Go.Proofs.YtllgjjldnnmjkaaDoor
end
section
set_option maxRecDepth 100000
namespace Go.Proofs.YtllgjjldnnmjkaaDoor
open Go.RowKit Extern.Stop
def placesL : List (Int × Int) := [(0, 32), (32, 32), (64, 16), (80, 16), (96, 8)]
abbrev gPlaces : Nat := 0
abbrev Places (w : World) : Prop := VarIs gPlaces (pairCells placesL) w
def qF (n : Nat) : Nat := match n with | 0 => 0 | 1 => 4 | 2 => 8 | 3 => 10 | _ => 12
def mF (n : Nat) : Nat := match n with | 0 => 4 | 1 => 4 | 2 => 2 | 3 => 2 | _ => 1
theorem qm_le (n : Nat) : qF n + mF n ≤ 13 := by unfold qF mF; split <;> decide
theorem mF_le (n : Nat) : 1 ≤ mF n ∧ mF n ≤ 4 := by unfold mF; split <;> decide
theorem placesL_at {n : Nat} (h : n < 5) : placesL[n]? = some (((8 * qF n : Nat) : Int), ((8 * mF n : Nat) : Int)) := by
  match n, h with
  | 0, _ => rfl
  | 1, _ => rfl
  | 2, _ => rfl
  | 3, _ => rfl
  | 4, _ => rfl
/-- Which field a number names. -/
def fldI (f : Int) : Option Nat := if 0 ≤ f ∧ f < 5 then some f.toNat else none
theorem fldI_some {f : Int} {n : Nat} (h : fldI f = some n) : f = n ∧ n < 5 := by
  unfold fldI at h
  split at h
  · cases h; omega
  · cases h
theorem fldI_none {f : Int} (h : fldI f = none) : f < 0 ∨ 5 ≤ f := by
  unfold fldI at h
  split at h
  · cases h
  · omega
theorem fldI_nat {n : Nat} (h : n < 5) : fldI (n : Int) = some n := by unfold fldI; rw [if_pos (by omega)]; simp
section
variable {Z : List PanicEntry → PT} {w : World} {h : List UInt8}
theorem placesB {w : World} (hv : Places w) {n : Nat} (hn : n < 5) : w.cell? ⟨gPlaces, n * 2, none⟩ = some (.int .i64 (8 * qF n : Nat)) ∧ w.cell? ⟨gPlaces, n * 2 + 1, none⟩ = some (.int .i64 (8 * mF n : Nat)) := by
  have := pairCells_at (placesL_at hn)
  rw [hv.cell, hv.cell, Nat.mul_comm n 2]
  exact this
theorem place_cal {Q : Int → Int → Int → PT} {f : Int} (hv : Places w) (h1 : fldI f = none → ∀ w', Ext w w' → Q 0 0 1 w') (h2 : ∀ n, fldI f = some n → ∀ w', Ext w w' → Q (8 * qF n : Nat) (8 * mF n : Nat) 0 w') :
    cal Tryd.prog Z 55 [.int .i64 f] (isT3 fun x y z => (isI .i64 fun r0 => (isI .i64 fun r1 => (isI .i64 fun r2 => Q r0 r1 r2) z) y) x) w := by
  refine head_Place.cal ?_
  unfold head_Place.F
  rw [pif_dec]
  split
  · exact h1 (by unfold fldI; rw [if_neg (by omega)]) w Keep.refl
  · rw [pif_dec]
    split
    · exact h1 (by unfold fldI; rw [if_neg (by omega)]) w Keep.refl
    · have hv' : Places w.drew := hv.ext Keep.refl.drew
      have kd : Ext w w.drew := Keep.refl.drew
      show cnd _ _ w.drew
      generalize w.drew = w1 at hv' kd ⊢
      obtain ⟨n, rfl⟩ : ∃ n : Nat, f = n := ⟨f.toNat, by omega⟩
      have hn : n < 5 := by omega
      obtain ⟨c1, c2⟩ := placesB hv' hn
      refine cnd_of ⟨by omega, by omega⟩ ?_
      simp only [add_mk, Nat.zero_add, Int.toNat_natCast, Nat.add_zero]
      refine ldI_of c1 (cnd_of ⟨by omega, by omega⟩ (ldI_of c2 ?_))
      exact h2 n (fldI_nat hn) w1 kd
theorem first_cal {K : Int → PT} {f : Int} (h1 : fldI f = none → K (-1) w) (h2 : ∀ n, fldI f = some n → K (8 * qF n : Nat) w) : cal Tryd.prog Z 78 [.int .i64 f] (isI .i64 fun v => K v) w := by
  refine ref01_First.cal ?_
  unfold ref01_First.F
  have h2' : ∀ (n : Nat), n < 5 → f = n → K (8 * qF n : Nat) w := fun n hn e => h2 n (by rw [e]; exact fldI_nat hn)
  rw [pif_beq]; split
  · rename_i e; exact h2' 0 (by decide) e
  rw [pif_beq]; split
  · rename_i e; exact h2' 1 (by decide) e
  rw [pif_beq]; split
  · rename_i e; exact h2' 2 (by decide) e
  rw [pif_beq]; split
  · rename_i e; exact h2' 3 (by decide) e
  rw [pif_beq]; split
  · rename_i e; exact h2' 4 (by decide) e
  · exact h1 (by unfold fldI; rw [if_neg (by omega)])
theorem width_cal {K : Int → PT} {n : Nat} (hn : n < 5) (h2 : K (8 * mF n : Nat) w) : cal Tryd.prog Z 79 [.int .i64 (n : Int)] (isI .i64 fun v => K v) w := by
  refine ref01_Width.cal ?_
  unfold ref01_Width.F
  match n, hn, h2 with
  | 0, _, h2 => exact h2
  | 1, _, h2 => exact h2
  | 2, _, h2 => exact h2
  | 3, _, h2 => exact h2
  | 4, _, h2 => exact h2

/-! ### The order -/
theorem sub13 (hl : h.length = 13) : Go.Proofs.YtllgjjldnnmjkaaDoor.sub (encH h) 0 13 = encH h := by
  unfold Go.Proofs.YtllgjjldnnmjkaaDoor.sub
  rw [List.drop_zero, List.take_of_length_le (by rw [encH_len]; omega)]
theorem len13 (hl : h.length = 13) : (encH h).length = 13 := by rw [encH_len, hl]
theorem lexL_cons {x y : UInt8} {a b : List UInt8} : lexL (x :: a) (y :: b) = if x = y then lexL a b else decide (x < y) := rfl
/-! ### Fields -/
end
end Go.Proofs.YtllgjjldnnmjkaaDoor
end
section
set_option maxRecDepth 100000
namespace Go.Proofs.YtllgjjldnnmjkaaDoor
open Go.RowKit Extern.Stop
def fieldI (h : List UInt8) (f : Int) : Nat × Int := match fldI f with
  | none => (0, 1)
  | some n => (fieldS h (8 * qF n) (8 * mF n), 0)
def withI (h : List UInt8) (f : Int) (v : Nat) : List UInt8 × Int := match fldI f with
  | none => (h0, 1)
  | some n => if v / 2 ^ (8 * mF n) ≠ 0 then (h0, 10) else (putB h (qF n) (mF n) v, 0)
theorem encH_h0 : encH h0 = z13 := rfl
theorem lay_all13 {z vs : List Value} (h1 : z.length = 13) (h2 : vs.length = 13) : lay z 0 vs = vs := by
  unfold lay
  rw [List.take_zero, List.drop_eq_nil_of_le (by omega)]
  simp
theorem bytes_lt (h : List UInt8) (q : Nat) : ∀ m, bytesS h q m < 256 ^ m
  | 0 => by simp [bytesS]
  | m + 1 => by
    have := bytes_lt h q m
    have := hb_lt h (q + m)
    simp only [bytesS, Nat.pow_succ]
    omega
section
variable {Z : List PanicEntry → PT} {w : World} {h : List UInt8}
theorem field_cal {Q : Int → Int → PT} {f : Int} (hv : Places w) (hl : h.length = 13) (hk : ∀ w', Ext w w' → Q ((fieldI h f).1 : Nat) (fieldI h f).2 w') :
    cal Tryd.prog Z 32 [.agg ⟨encH h⟩, .int .i64 f] (isT2 fun x y => (isI .u32 fun r0 => (isI .i64 fun r1 => Q r0 r1) y) x) w := by
  refine head_Field.cal ?_
  unfold head_Field.F head_Field.s34
  refine (Sep.start (fun _ => False) w).new fun w1 b1 h1 k1 => ?_
  unfold fieldI at hk
  refine place_cal (hv.ext h1.kept) (fun hf w2 k2 => ?_) fun n hf w2 k2 => ?_
  · rw [pif_bne, if_neg (by decide)]
    rw [hf] at hk
    exact hk w2 (h1.ext k2).kept
  · rw [pif_bne, if_pos rfl]
    rw [hf] at hk
    simp only at hk
    have h2 := h1.ext k2
    have hqm := qm_le n
    have hm := mF_le n
    have d8 : ∀ x : Nat, x ≤ 1000 → IntKind.wrap .i64 (Int.tdiv ((8 * x : Nat) : Int) 8) = (x : Int) := fun x hx => by
      rw [show (8 : Int) = ((8 : Nat) : Int) from rfl, tdivN, wrap_nat (by omega)]; omega
    unfold head_Field.s31
    refine cnd_of (by decide) (cnd_of (by decide) (cnd_of (by decide) ?_))
    rw [d8 _ (by omega), d8 _ (by omega), wrap_in (by omega) (by omega)]
    refine cnd_of ⟨by omega, by omega, by omega⟩ ?_
    have ea : (if 13 = ((qF n : Int)).toNat then (⟨b1, 0, none⟩ : Addr) else (⟨b1, 0, none⟩ : Addr).add (((qF n : Int)).toNat * 1)) = ⟨b1, qF n, none⟩ := by
      rw [if_neg (by omega), add_mk, Int.toNat_natCast]; simp
    rw [ea, show ((qF n : Int) + (mF n : Int)).toNat - ((qF n : Int)).toNat = mF n by omega]
    have loop : ∀ (m i : Nat), i + m = mF n → head_Field.l20 Z Q (m + 1) ((bytesS h (qF n) i : Nat) : Int) (some ⟨b1, qF n, none⟩) (mF n) (13 - ((qF n : Int)).toNat) ((mF n : Nat) : Int) (i : Int) w2 := by
      intro m
      induction m with
      | zero =>
        intro i hi
        unfold head_Field.l20 head_Field.s23
        rw [pif_dec, if_neg (by omega)]
        unfold head_Field.s10
        rw [field_bytes] at hk
        have : i = mF n := by omega
        subst this
        exact hk w2 h2.kept
      | succ m ih =>
        intro i hi
        unfold head_Field.l20 head_Field.s23
        rw [pif_dec, if_pos (by omega)]
        refine ixS_of rfl (by omega) (by omega) ?_
        rw [add_mk, Int.toNat_natCast, Nat.mul_one]
        refine h2.ldI 0 rfl (encH_at (by omega)) (cnd_of (by decide) ?_)
        have hlt := bytes_lt h (qF n) i
        have hle : 256 ^ i ≤ 256 ^ 3 := Nat.pow_le_pow_right (by decide) (by omega)
        have hb1 := hb_lt h (qF n + i)
        rw [show (2 : Int) ^ (min (8 : Int).toNat (IntKind.bits .u32)) = ((256 : Nat) : Int) from rfl, ← Int.natCast_mul, wrapU32 (bytesS h (qF n) i * 256), wrapU32 (hb h (qF n + i)), Nat.mod_eq_of_lt (show bytesS h (qF n) i * 256 < 4294967296 by omega), Nat.mod_eq_of_lt (show hb h (qF n + i) < 4294967296 by omega), or32 (by omega) (by omega)]
        have e : bytesS h (qF n) i * 256 ||| hb h (qF n + i) = bytesS h (qF n) (i + 1) := by
          have := Nat.two_pow_add_eq_or_of_lt (i := 8) (b := hb h (qF n + i)) hb1 (bytesS h (qF n) i)
          rw [bytesS, Nat.mul_comm _ 256]
          exact this.symm
        rw [e, wrap_nat1 (by omega)]
        exact ih (i + 1) (by omega)
    exact exK_of (mF n + 1) (loop (mF n) 0 (by omega))
theorem field2_cal {Q : Int → Int → PT} {f : Int} (hl : h.length = 13) (hk : ∀ w', Ext w w' → Q ((fieldI h f).1 : Nat) (fieldI h f).2 w') :
    cal Tryd.prog Z 56 [.agg ⟨encH h⟩, .int .i64 f] (isT2 fun x y => (isI .u32 fun r0 => (isI .i64 fun r1 => Q r0 r1) y) x) w := by
  refine ref01_Field.cal ?_
  unfold ref01_Field.F ref01_Field.s33
  refine (Sep.start (fun _ => False) w).new fun w1 b1 h1 k1 => ?_
  unfold fieldI at hk
  refine first_cal (fun hf => ?_) fun n hf => ?_
  · rw [pif_dec, if_pos (by decide)]
    rw [hf] at hk
    exact hk w1 h1.kept
  · rw [pif_dec, if_neg (by omega)]
    rw [hf] at hk
    obtain ⟨rfl, hn⟩ := fldI_some hf
    simp only at hk
    have hqm := qm_le n
    have hm := mF_le n
    unfold ref01_Field.s30
    have loop : ∀ (m i : Nat) (w2 : World), i + m = 8 * mF n → Sep (fun _ => False) w w2 [fB b1 (encH h)] → ref01_Field.l19 Z Q (m + 1) (n : Int) ⟨b1, 0, none⟩ ((fieldS h (8 * qF n) i : Nat) : Int) (i : Int) w2 := by
      intro m
      induction m with
      | zero =>
        intro i w2 hi h2
        unfold ref01_Field.l19 ref01_Field.s22
        refine width_cal hn ?_
        rw [pif_dec, if_neg (by omega)]
        unfold ref01_Field.s9
        have : i = 8 * mF n := by omega
        subst this
        exact hk w2 h2.kept
      | succ m ih =>
        intro i w2 hi h2
        unfold ref01_Field.l19 ref01_Field.s22
        refine width_cal hn ?_
        rw [pif_dec, if_pos (by omega)]
        refine h2.drawn (fun w' => IsB w' b1 (encH h)) (h2.drew.at (n := 0) rfl : IsB _ _ _) fun h2 => ?_
        refine hN_of (len13 hl) (fun w' hw' => cellsAt_B hw' (by rw [len13 hl]; exact sub13 hl)) ?_
        refine first_cal (fun hf' => by rw [fldI_nat hn] at hf'; cases hf') fun n' hf' => ?_
        rw [fldI_nat hn] at hf'
        cases hf'
        refine sAnd_of (h2.at (n := 0) rfl : IsB _ _ _) ?_
        rw [← Int.natCast_add, wrap_nat (by omega)]
        refine bit2_cal hl fun w3 k3 => ?_
        have h3 := h2.ext k3
        refine sAnd_of (h3.at (n := 0) rfl : IsB _ _ _) ?_
        have eb : bitI h ((8 * qF n + i : Nat) : Int) = bitS h (8 * qF n + i) := by unfold bitI; rw [if_pos (by omega), Int.toNat_natCast]
        rw [eb]
        have hlt := field_lt h (8 * qF n) i
        have hle : 2 ^ i ≤ 2 ^ 31 := Nat.pow_le_pow_right (by decide) (by omega)
        have e0 : IntKind.wrap .u32 ((fieldS h (8 * qF n) i : Int) * 2) = ((fieldS h (8 * qF n) i * 2 : Nat) : Int) := by
          rw [show (fieldS h (8 * qF n) i : Int) * 2 = ((fieldS h (8 * qF n) i * 2 : Nat) : Int) by omega, wrapU32, Nat.mod_eq_of_lt (by omega)]
        have e1 : IntKind.wrap .u32 (IntKind.wrap .u32 ((fieldS h (8 * qF n) i : Int) * 2) + 1) = ((fieldS h (8 * qF n) i * 2 + 1 : Nat) : Int) := by
          rw [e0, show ((fieldS h (8 * qF n) i * 2 : Nat) : Int) + 1 = ((fieldS h (8 * qF n) i * 2 + 1 : Nat) : Int) by omega, wrapU32, Nat.mod_eq_of_lt (by omega)]
        have ih' := ih (i + 1) w3 (by omega) h3
        simp only [fieldS] at ih'
        rw [e1, e0, wrap_nat1 (by omega), pif_bool]
        cases hb' : bitS h (8 * qF n + i) with
        | true => rw [hb'] at ih'; rw [if_pos rfl]; exact ih'
        | false => rw [hb'] at ih'; rw [if_neg (by decide)]; exact ih'
    exact exK_of (8 * mF n + 1) (loop (8 * mF n) 0 w1 (by omega) h1)
theorem sub13z : Go.Proofs.YtllgjjldnnmjkaaDoor.sub z13 0 13 = z13 := rfl
/-- A header of five numbers. -/
def makeS (v : Nat → Nat) : Nat → List UInt8
  | 0 => h0
  | n + 1 => putB (makeS v n) (qF n) (mF n) (v n)
theorem makeS_len (v : Nat → Nat) : ∀ n, (makeS v n).length = 13
  | 0 => rfl
  | n + 1 => by rw [makeS, putB_len, makeS_len v n]
def vals5 (a b c d e : Nat) (n : Nat) : Nat := match n with | 0 => a | 1 => b | 2 => c | 3 => d | _ => e
end
end Go.Proofs.YtllgjjldnnmjkaaDoor
end
section
set_option maxRecDepth 100000
namespace Go.Proofs.YtllgjjldnnmjkaaDoor
open Go.RowKit

/-! ### Bits alike -/
def clI (n : Int) : Nat := (if (if 32 < n then 32 else n) > 0 then (if 32 < n then 32 else n) else 0).toNat
theorem clI_le (n : Int) : clI n ≤ 32 := by unfold clI; split <;> split <;> omega
def begN (a b m : Nat) : Bool := (a ^^^ b) / 2 ^ (32 - m) == 0
theorem begN_0 {a b : Nat} (ha : a < 4294967296) (hb : b < 4294967296) : begN a b 0 = true := by
  unfold begN
  have : a ^^^ b < 2 ^ 32 := Nat.xor_lt_two_pow (n := 32) ha hb
  rw [Nat.div_eq_of_lt this]; rfl
theorem bit_ne (a b j : Nat) : ((a ^^^ b) / 2 ^ j % 2 = 0) ↔ (a / 2 ^ j % 2 = b / 2 ^ j % 2) := by
  have h := Nat.testBit_xor a b j
  rw [Nat.testBit_eq_decide_div_mod_eq, Nat.testBit_eq_decide_div_mod_eq, Nat.testBit_eq_decide_div_mod_eq] at h
  have h1 : (a ^^^ b) / 2 ^ j % 2 < 2 := Nat.mod_lt _ (by decide)
  have h2 : a / 2 ^ j % 2 < 2 := Nat.mod_lt _ (by decide)
  have h3 : b / 2 ^ j % 2 < 2 := Nat.mod_lt _ (by decide)
  generalize (a ^^^ b) / 2 ^ j % 2 = x at *
  generalize a / 2 ^ j % 2 = y at *
  generalize b / 2 ^ j % 2 = z at *
  have : x = 0 ∨ x = 1 := by omega
  have : y = 0 ∨ y = 1 := by omega
  have : z = 0 ∨ z = 1 := by omega
  rcases ‹x = 0 ∨ x = 1› with rfl | rfl <;> rcases ‹y = 0 ∨ y = 1› with rfl | rfl <;> rcases ‹z = 0 ∨ z = 1› with rfl | rfl <;> simp_all
theorem begN_step {a b k : Nat} (hk : k < 32) : begN a b (k + 1) = (begN a b k && decide (a / 2 ^ (31 - k) % 2 = b / 2 ^ (31 - k) % 2)) := by
  unfold begN
  rw [show 32 - (k + 1) = 31 - k by omega, show 32 - k = (31 - k) + 1 by omega, Nat.pow_succ, ← Nat.div_div_eq_div_mul]
  have h := bit_ne a b (31 - k)
  generalize (a ^^^ b) / 2 ^ (31 - k) = x at h ⊢
  rw [Bool.eq_iff_iff, Bool.and_eq_true, beq_iff_eq, beq_iff_eq, decide_eq_true_eq, ← h]
  omega
theorem begN_mono {a b : Nat} : ∀ (d k : Nat), k + d ≤ 32 → begN a b (k + d) = true → begN a b k = true
  | 0, k, _, h => h
  | d + 1, k, hd, h => by
    rw [← Nat.add_assoc, begN_step (by omega), Bool.and_eq_true] at h
    exact begN_mono d k (by omega) h.1

/-! ### Entries and headers -/
def hf (h : List UInt8) (f : Nat) : Nat := (fieldI h (f : Int)).1
theorem hf_lt (h : List UInt8) {f : Nat} (hf' : f < 5) : hf h f < 4294967296 := by
  unfold hf fieldI
  rw [fldI_nat hf']
  simp only
  refine Nat.lt_of_lt_of_le (field_lt h _ _) ?_
  have := (mF_le f).2
  exact Nat.pow_le_pow_right (by decide) (show 8 * mF f ≤ 32 by omega)
structure En.Ok (x : En) : Prop where
  s0 : 0 ≤ x.src
  s1 : x.src < 4294967296
  d0 : 0 ≤ x.dst
  d1 : x.dst < 4294967296
def snApp (x : En) (h : List UInt8) : Bool :=
  if x.default = true then true
  else if begN (hf h 0) x.src.toNat (clI x.srcBits) = false then false
  else if begN (hf h 1) x.dst.toNat (clI x.dstBits) = false then false
  else if ¬ (hf h 2 : Int) ≥ x.sLow then false
  else if ¬ (hf h 2 : Int) ≤ x.sHigh then false
  else if ¬ (hf h 3 : Int) ≥ x.dLow then false
  else if ¬ (hf h 3 : Int) ≤ x.dHigh then false
  else if x.proto = -1 then true
  else x.proto == (hf h 4 : Int)
theorem snApp_default {x : En} {h : List UInt8} (hd : x.default = true) : snApp x h = true := by unfold snApp; rw [if_pos hd]
section
variable (l : List En) (h : List UInt8)
def enAt (b : Int) : En := (l[b.toNat]?).getD en0
/-- The program's way: one round. -/
def whS : List En → Nat → Int → Int
  | [], _, b => b
  | x :: r, i, b =>
    if snApp x h = false then whS r (i + 1) b
    else if b < 0 then whS r (i + 1) i
    else if (enAt l b).default = true ∧ x.default = false then whS r (i + 1) i
    else if x.default = false ∧ x.prio > (enAt l b).prio then whS r (i + 1) i
    else whS r (i + 1) b
def snWhich : Int := whS l h l 0 (-1)
/-- The document's way: the best one that is no default one; else the first default one. -/
def bestS : List En → Nat → Int → Int
  | [], _, b => b
  | x :: r, i, b =>
    if x.default = false ∧ snApp x h = true ∧ (b < 0 ∨ x.prio > (enAt l b).prio) then bestS r (i + 1) i
    else bestS r (i + 1) b
def dflS : List En → Nat → Int → Int
  | [], _, b => b
  | x :: r, i, b => if b < 0 then (if x.default = true then dflS r (i + 1) i else dflS r (i + 1) b) else b
def rfWhich : Int := dflS l 0 (bestS l h l 0 (-1))
def snSays : Int × Bool := if snWhich l h < 0 then (0, false) else ((enAt l (snWhich l h)).action, true)
end
section
variable {l : List En} {h : List UInt8}
theorem enAt_nat {i : Nat} {x : En} (hx : l[i]? = some x) : enAt l (i : Int) = x := by
  unfold enAt
  rw [Int.toNat_natCast, hx]; rfl
theorem drop_at {l r : List En} {x : En} {i : Nat} (h : l.drop i = x :: r) : l[i]? = some x ∧ l.drop (i + 1) = r := by
  constructor
  · have := congrArg (·[0]?) h
    simpa using this
  · rw [← List.drop_drop, h]; rfl
theorem whS_lt : ∀ (r : List En) (i : Nat) (b : Int), l.drop i = r → b < i → b < l.length → whS l h r i b < l.length
  | [], _, b, _, _, hb => hb
  | x :: r, i, b, hl, hbi, hb => by
    obtain ⟨hx, hl'⟩ := drop_at hl
    have hi := (List.getElem?_eq_some_iff.1 hx).1
    unfold whS
    split
    · exact whS_lt r (i + 1) b hl' (by omega) hb
    split
    · exact whS_lt r (i + 1) i hl' (by omega) (by omega)
    split
    · exact whS_lt r (i + 1) i hl' (by omega) (by omega)
    split
    · exact whS_lt r (i + 1) i hl' (by omega) (by omega)
    · exact whS_lt r (i + 1) b hl' (by omega) hb
theorem snWhich_lt : snWhich l h < l.length := whS_lt l 0 (-1) rfl (by omega) (by omega)
theorem dflS_pos : ∀ (r : List En) (i : Nat) (b : Int), 0 ≤ b → dflS r i b = b
  | [], _, _, _ => rfl
  | x :: r, i, b, hb => by unfold dflS; rw [if_neg (by omega)]
theorem bestS_pos : ∀ (r : List En) (i : Nat) (b : Int), 0 ≤ b → 0 ≤ bestS l h r i b
  | [], _, _, hb => hb
  | x :: r, i, b, hb => by unfold bestS; split <;> exact bestS_pos r (i + 1) _ (by omega)
/-- b: the best one so far that is no default one; d: the first default one so far. -/
theorem which_eq : ∀ (r : List En) (i : Nat) (b d : Int), l.drop i = r → (b < 0 ∨ (enAt l b).default = false) → (d < 0 ∨ (enAt l d).default = true) → b < i → d < i →
    whS l h r i (if b < 0 then d else b) = (if bestS l h r i b < 0 then dflS r i d else bestS l h r i b)
  | [], i, b, d, _, _, _, _, _ => by
    unfold whS bestS dflS; rfl
  | x :: r, i, b, d, hl, hb, hd, hbi, hdi => by
    obtain ⟨hx, hl'⟩ := drop_at hl
    have ei := enAt_nat hx
    have ih := fun b d h1 h2 h3 h4 => which_eq r (i + 1) b d hl' h1 h2 h3 h4
    unfold whS bestS dflS
    by_cases xd : x.default = true
    · -- a default one
      rw [snApp_default xd]
      have xd' : ¬ x.default = false := by simp [xd]
      simp only [xd, Bool.true_eq_false, if_false, and_false, false_and, if_true, gt_iff_lt]
      by_cases h1 : b < 0
      · rw [if_pos h1]
        by_cases h2 : d < 0
        · rw [if_pos h2]
          have := ih b i (.inl h1) (.inr (by rw [ei]; exact xd)) (by omega) (by omega)
          rw [if_pos h1] at this
          rw [this, if_pos h2]
        · rw [if_neg h2]
          have := ih b d (.inl h1) hd (by omega) (by omega)
          rw [if_pos h1] at this
          rw [this, if_neg h2, dflS_pos _ _ _ (by omega)]
      · rw [if_neg h1, if_neg h1]
        have := ih b d hb hd (by omega) (by omega)
        rw [if_neg h1] at this
        have hp := bestS_pos (l := l) (h := h) r (i + 1) b (by omega)
        rw [this, if_neg (by omega), if_neg (by omega)]
    · have xd : x.default = false := by simpa using xd
      simp only [xd, Bool.false_eq_true, if_false, true_and, and_true]
      by_cases ha : snApp x h = false
      · simp only [ha, if_true, Bool.false_eq_true, false_and, if_false]
        have := ih b d hb hd (by omega) (by omega)
        rw [this]
        by_cases h2 : d < 0
        · rw [if_pos h2]
        · rw [if_neg h2, dflS_pos _ _ _ (by omega)]
      · have ha' : snApp x h = true := by simpa using ha
        rw [if_neg ha]
        simp only [ha', true_and]
        by_cases h1 : b < 0
        · simp only [if_pos h1, h1, true_or, if_true]
          have := ih i d (.inr (by rw [ei]; exact xd)) hd (by omega) (by omega)
          rw [if_neg (by omega)] at this
          have hp := bestS_pos (l := l) (h := h) r (i + 1) i (by omega)
          rw [if_neg (by omega)] at this
          rw [if_neg (show ¬ bestS l h r (i + 1) i < 0 by omega)]
          by_cases h2 : d < 0
          · rw [if_pos h2, this]
          · rw [if_neg h2, if_pos (hd.resolve_left h2), this]
        · have hbd := hb.resolve_left h1
          simp only [h1, hbd, false_or, if_false, Bool.false_eq_true]
          by_cases h3 : x.prio > (enAt l b).prio
          · rw [if_pos h3, if_pos h3]
            have := ih i d (.inr (by rw [ei]; exact xd)) hd (by omega) (by omega)
            rw [if_neg (by omega)] at this
            have hp := bestS_pos (l := l) (h := h) r (i + 1) i (by omega)
            rw [this, if_neg (by omega), if_neg (by omega)]
          · rw [if_neg h3, if_neg h3]
            have := ih b d hb hd (by omega) (by omega)
            rw [if_neg h1] at this
            have hp := bestS_pos (l := l) (h := h) r (i + 1) b (by omega)
            rw [this, if_neg (by omega), if_neg (by omega)]
theorem snWhich_eq : snWhich l h = rfWhich l h := by
  have := which_eq (l := l) (h := h) l 0 (-1) (-1) rfl (.inl (by omega)) (.inl (by omega)) (by omega) (by omega)
  simp only [show (-1 : Int) < 0 by omega, if_true] at this
  unfold snWhich rfWhich
  rw [this]
  split
  · rename_i h1
    have hb : ∀ (r : List En) (i : Nat), bestS l h r i (-1) = -1 ∨ 0 ≤ bestS l h r i (-1) := fun r => by
      induction r with
      | nil => intro i; exact .inl rfl
      | cons x r ih =>
        intro i
        unfold bestS
        split
        · exact .inr (bestS_pos r _ _ (by omega))
        · exact ih (i + 1)
    rcases hb l 0 with e | e
    · rw [e]
    · omega
  · rw [dflS_pos _ _ _ (by omega)]
end
end Go.Proofs.YtllgjjldnnmjkaaDoor
end
