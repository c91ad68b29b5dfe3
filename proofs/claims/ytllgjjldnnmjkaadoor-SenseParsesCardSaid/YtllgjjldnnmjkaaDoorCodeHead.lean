/-
  The reading of the code of 6 functions, printed by gen.py off the translation; no condition.
-/
import Derived.Test.YtllgjjldnnmjkaaDoorWlFacts
namespace Go.Proofs.YtllgjjldnnmjkaaDoor
open Go.RowKit
set_option linter.unusedVariables false
set_option maxRecDepth 100000

/-! ### milepost/head.Place: function 55 -/
noncomputable def head_Place.body : Code := bodyC Tryd.f55
def head_Place.F (Z : List PanicEntry → PT) (Q : Int → Int → Int → PT) (f_0 : Int) : PT :=
  (pif (decide (f_0 < 0)) (Q 0 0 1) (pif (decide (f_0 ≥ 5)) (Q 0 0 1) (drew0 (cnd ((0 : Int) ≤ f_0 ∧ f_0 < ((5 : Nat) : Int)) (ldI .i64 (((⟨0, 0, none⟩ : Addr).add (f_0.toNat * 2)).add 0) fun v1 => (cnd ((0 : Int) ≤ f_0 ∧ f_0 < ((5 : Nat) : Int)) (ldI .i64 (((⟨0, 0, none⟩ : Addr).add (f_0.toNat * 2)).add 1) fun v2 => (Q v1 v2 0))))))))
def head_Place.q1 (Z : List PanicEntry → PT) (Q : Int → Int → Int → PT) : QF := bodyQ Tryd.prog [.tmp 2, .tmp 3, .tmp 4] (fun v => at3 v fun x y z => atI .i64 x fun xa => atI .i64 y fun ya => atI .i64 z fun za => Q xa ya za)
theorem head_Place.eq (Z : List PanicEntry → PT) (Q : Int → Int → Int → PT) (f_0 : Int) : comp Tryd.prog Z head_Place.body (head_Place.q1 Z Q) (fr0 [(Value.int .i64 f_0)]) = head_Place.F Z Q f_0 := by kernel_rfl
theorem head_Place.vc (Z : List PanicEntry → PT) (Q : Int → Int → Int → PT) (f_0 : Int) (w : World) (h : head_Place.F Z Q f_0 w) : Calls Tryd.prog 55 ⟨[(Value.int .i64 f_0)]⟩ w fun e w' => (∃ (r0 : Int) (r1 : Int) (r2 : Int), e = .returned (.tuple #[.int .i64 r0, .int .i64 r1, .int .i64 r2]) ∧ Q r0 r1 r2 w') ∨ ∃ c, e = .panicked c ∧ Z c w' := by
  refine (calls_of_ok (args := [(Value.int .i64 f_0)]) (w := w) (rs := [.tmp 2, .tmp 3, .tmp 4]) (fn := Tryd.f55) (c := head_Place.body) Tryd.func55 (by kernel_rfl) (by kernel_rfl) (Nat.le_of_ble_eq_true (by kernel_rfl)) (okC head_Place.body (head_Place.q1 Z Q) (by kernel_rfl)) (by rw [head_Place.eq]; exact h)).mono fun e w' hR => ?_
  cases e with
  | returned v =>
    obtain ⟨x, y, z, rfl, hR⟩ := at3_e hR
    obtain ⟨xa, rfl, hR⟩ := atI_e hR
    obtain ⟨ya, rfl, hR⟩ := atI_e hR
    obtain ⟨za, rfl, hR⟩ := atI_e hR
    exact .inl ⟨xa, ya, za, rfl, hR⟩
  | panicked c => exact .inr ⟨c, rfl, hR⟩
  | outgrown => exact hR.elim
theorem head_Place.vc0 (Q : Int → Int → Int → PT) (f_0 : Int) (w : World) (h : head_Place.F Z0 Q f_0 w) : Calls Tryd.prog 55 ⟨[(Value.int .i64 f_0)]⟩ w fun e w' => (∃ (r0 : Int) (r1 : Int) (r2 : Int), e = .returned (.tuple #[.int .i64 r0, .int .i64 r1, .int .i64 r2]) ∧ Q r0 r1 r2 w') :=
  (head_Place.vc Z0 Q f_0 w h).mono fun _ _ hR => hR.elim id fun ⟨_, _, hz⟩ => hz.elim
theorem head_Place.cal {Z : List PanicEntry → PT} {Q : Int → Int → Int → PT} {f_0 : Int} {w : World} (h : head_Place.F Z Q f_0 w) : Go.Proofs.YtllgjjldnnmjkaaDoor.cal Tryd.prog Z 55 [(Value.int .i64 f_0)] (isT3 fun x y z => (isI .i64 fun r0 => (isI .i64 fun r1 => (isI .i64 fun r2 => Q r0 r1 r2) z) y) x) w := by
  refine (head_Place.vc Z Q f_0 w h).mono fun e w' hR => ?_
  rcases hR with ⟨r0, r1, r2, rfl, h⟩ | ⟨c, rfl, h⟩
  · show (isT3 fun x y z => (isI .i64 fun r0 => (isI .i64 fun r1 => (isI .i64 fun r2 => Q r0 r1 r2) z) y) x) (.tuple #[.int .i64 r0, .int .i64 r1, .int .i64 r2]) w'
    exact ⟨_, _, _, rfl, ⟨_, rfl, ⟨_, rfl, ⟨_, rfl, h⟩⟩⟩⟩
  · exact h

/-! ### milepost/head.Field: function 32 -/
noncomputable def head_Field.body : Code := bodyC Tryd.f32
noncomputable def head_Field.c1 : Code := sq1 head_Field.body
noncomputable def head_Field.c2 : Code := sq1 (sq2 head_Field.body)
noncomputable def head_Field.c3 : Code := sq1 (sq2 (sq2 head_Field.body))
noncomputable def head_Field.c4 : Code := sq1 (sq2 (sq2 (sq2 head_Field.body)))
noncomputable def head_Field.c5 : Code := sq2 (sq2 (sq2 (sq2 head_Field.body)))
theorem head_Field.q6 : head_Field.body = .seq head_Field.c1 (.seq head_Field.c2 (.seq head_Field.c3 (.seq head_Field.c4 head_Field.c5))) := by kernel_rfl
noncomputable def head_Field.c7 : Code := sq1 head_Field.c5
noncomputable def head_Field.c8 : Code := sq2 head_Field.c5
theorem head_Field.q9 : head_Field.c5 = .seq head_Field.c7 head_Field.c8 := by kernel_rfl
def head_Field.s10 (Z : List PanicEntry → PT) (Q : Int → Int → PT) (v_9 : Int) : PT :=
  (Q v_9 0)
def head_Field.q11 (Z : List PanicEntry → PT) (Q : Int → Int → PT) : QF := bodyQ Tryd.prog [.tmp 4, .tmp 5] (fun v => at2 v fun x y => atI .u32 x fun xa => atI .i64 y fun ya => Q xa ya)
theorem head_Field.s10_eq (Z : List PanicEntry → PT) (Q : Int → Int → PT) (ρ : Fr) (v_9 : Int) : comp Tryd.prog Z head_Field.c8 (head_Field.q11 Z Q) (puts ρ [(9, (Value.int .u32 v_9))]) = head_Field.s10 Z Q v_9 := by kernel_rfl
def head_Field.j12 (Z : List PanicEntry → PT) (Q : Int → Int → PT) : Fr → PT := (fun ρ => atI .u32 (ρ 9) fun v_9 => (head_Field.s10 Z Q v_9))
theorem head_Field.s10_ok (Z : List PanicEntry → PT) (Q : Int → Int → PT) : Ok Tryd.prog Tryd.f32.ntmps Z head_Field.c8 (head_Field.q11 Z Q) (head_Field.j12 Z Q) := by
  intro E he ρ w a hr h
  obtain ⟨v_9, e9, h⟩ := atI_e h
  exact ok_at [(9, (Value.int .u32 v_9))] (okC head_Field.c8 (head_Field.q11 Z Q) (by kernel_rfl)) (puts_cons e9 (fun p hp => puts_nil hp)) (head_Field.s10_eq Z Q ρ v_9) he hr h
noncomputable def head_Field.c13 : Code := sq1 head_Field.c7
noncomputable def head_Field.c14 : Code := sq2 head_Field.c7
theorem head_Field.q15 : head_Field.c7 = .seq head_Field.c13 head_Field.c14 := by kernel_rfl
noncomputable def head_Field.c16 : Code := blk head_Field.c14
theorem head_Field.q17 : head_Field.c14 = .block 0 head_Field.c16 := by kernel_rfl
noncomputable def head_Field.c18 : Code := lop head_Field.c16
theorem head_Field.q19 : head_Field.c16 = .loop head_Field.c18 := by kernel_rfl
def head_Field.q21 (Z : List PanicEntry → PT) (Q : Int → Int → PT) : QF := thenK (head_Field.j12 Z Q) (head_Field.q11 Z Q)
def head_Field.q22 (Z : List PanicEntry → PT) (Q : Int → Int → PT) : QF := inBl 0 (head_Field.q21 Z Q)
def head_Field.s23 (Z : List PanicEntry → PT) (Q : Int → Int → PT) (X1 : Int → Option Addr → Nat → Nat → Int → Int → PT) (v_9 : Int) (t_28 : Option Addr) (t_28n t_28c : Nat) (t_29 : Int) (t_30 : Int) : PT :=
  (pif (decide (t_30 < t_29)) (ixS t_28 t_28n t_30 1 fun v28 => (ldI .u8 v28 fun v29 => (cnd ((0 : Int) ≤ 8) (X1 (IntKind.wrap .u32 (BitVec.ofInt (IntKind.bits .u32) (IntKind.wrap .u32 (v_9 * 2 ^ (min (8 : Int).toNat (IntKind.bits .u32)))) ||| BitVec.ofInt (IntKind.bits .u32) (IntKind.wrap .u32 v29)).toNat) t_28 t_28n t_28c t_29 (IntKind.wrap .i64 (t_30 + 1)))))) (head_Field.s10 Z Q v_9))
def head_Field.j24 (Z : List PanicEntry → PT) (Q : Int → Int → PT) (X1 : Int → Option Addr → Nat → Nat → Int → Int → PT) : Fr → PT := (fun ρ => atI .u32 (ρ 9) fun v_9 => atL (ρ 28) fun t_28 t_28n t_28c => atI .i64 (ρ 29) fun t_29 => atI .i64 (ρ 30) fun t_30 => (X1 v_9 t_28 t_28n t_28c t_29 t_30))
def head_Field.q25 (Z : List PanicEntry → PT) (Q : Int → Int → PT) (X1 : Int → Option Addr → Nat → Nat → Int → Int → PT) : QF := thenK (head_Field.j24 Z Q X1) (head_Field.q22 Z Q)
theorem head_Field.s23_eq (Z : List PanicEntry → PT) (Q : Int → Int → PT) (X1 : Int → Option Addr → Nat → Nat → Int → Int → PT) (ρ : Fr) (v_9 : Int) (t_28 : Option Addr) (t_28n t_28c : Nat) (t_29 : Int) (t_30 : Int) : comp Tryd.prog Z head_Field.c18 (head_Field.q25 Z Q X1) (puts ρ [(9, (Value.int .u32 v_9)), (28, (Value.slice t_28 t_28n t_28c)), (29, (Value.int .i64 t_29)), (30, (Value.int .i64 t_30))]) = head_Field.s23 Z Q X1 v_9 t_28 t_28n t_28c t_29 t_30 := by kernel_rfl
def head_Field.j26 (Z : List PanicEntry → PT) (Q : Int → Int → PT) (X1 : Int → Option Addr → Nat → Nat → Int → Int → PT) : Fr → PT := (fun ρ => atI .u32 (ρ 9) fun v_9 => atL (ρ 28) fun t_28 t_28n t_28c => atI .i64 (ρ 29) fun t_29 => atI .i64 (ρ 30) fun t_30 => (head_Field.s23 Z Q X1 v_9 t_28 t_28n t_28c t_29 t_30))
theorem head_Field.s23_ok (Z : List PanicEntry → PT) (Q : Int → Int → PT) (X1 : Int → Option Addr → Nat → Nat → Int → Int → PT) : Ok Tryd.prog Tryd.f32.ntmps Z head_Field.c18 (head_Field.q25 Z Q X1) (head_Field.j26 Z Q X1) := by
  intro E he ρ w a hr h
  obtain ⟨v_9, e9, h⟩ := atI_e h
  obtain ⟨t_28, t_28n, t_28c, e28, h⟩ := atL_e h
  obtain ⟨t_29, e29, h⟩ := atI_e h
  obtain ⟨t_30, e30, h⟩ := atI_e h
  exact ok_at [(9, (Value.int .u32 v_9)), (28, (Value.slice t_28 t_28n t_28c)), (29, (Value.int .i64 t_29)), (30, (Value.int .i64 t_30))] (okC head_Field.c18 (head_Field.q25 Z Q X1) (by kernel_rfl)) (puts_cons e9 (puts_cons e28 (puts_cons e29 (puts_cons e30 (fun p hp => puts_nil hp))))) (head_Field.s23_eq Z Q X1 ρ v_9 t_28 t_28n t_28c t_29 t_30) he hr h
def head_Field.l20 (Z : List PanicEntry → PT) (Q : Int → Int → PT) : Nat → Int → Option Addr → Nat → Nat → Int → Int → PT
  | 0, _, _, _, _, _, _ => bad
  | k + 1, v_9, t_28, t_28n, t_28c, t_29, t_30 => (head_Field.s23 Z Q (head_Field.l20 Z Q k) v_9 t_28 t_28n t_28c t_29 t_30)
def head_Field.j27 (Z : List PanicEntry → PT) (Q : Int → Int → PT) (k : Nat) : Fr → PT := (fun ρ => atI .u32 (ρ 9) fun v_9 => atL (ρ 28) fun t_28 t_28n t_28c => atI .i64 (ρ 29) fun t_29 => atI .i64 (ρ 30) fun t_30 => (head_Field.l20 Z Q k v_9 t_28 t_28n t_28c t_29 t_30))
def head_Field.j28 (Z : List PanicEntry → PT) (Q : Int → Int → PT) : Fr → PT := (fun ρ => atI .u32 (ρ 9) fun v_9 => atL (ρ 28) fun t_28 t_28n t_28c => atI .i64 (ρ 29) fun t_29 => atI .i64 (ρ 30) fun t_30 => (exK fun k => head_Field.l20 Z Q k v_9 t_28 t_28n t_28c t_29 t_30))
theorem head_Field.o29 (Z : List PanicEntry → PT) (Q : Int → Int → PT) : Ok Tryd.prog Tryd.f32.ntmps Z head_Field.c16 (head_Field.q22 Z Q) (head_Field.j28 Z Q) := by
  rw [head_Field.q19]
  refine Ok.imp (ok_loop (J := head_Field.j27 Z Q) ?_ ?_) ?_
  · intro ρ w h
    obtain ⟨v_9, e9, h⟩ := atI_e h
    obtain ⟨t_28, t_28n, t_28c, e28, h⟩ := atL_e h
    obtain ⟨t_29, e29, h⟩ := atI_e h
    obtain ⟨t_30, e30, h⟩ := atI_e h
    exact h
  · intro k
    refine Ok.imp (head_Field.s23_ok Z Q (head_Field.l20 Z Q k)) fun ρ w h => ?_
    obtain ⟨v_9, e9, h⟩ := atI_e h
    obtain ⟨t_28, t_28n, t_28c, e28, h⟩ := atL_e h
    obtain ⟨t_29, e29, h⟩ := atI_e h
    obtain ⟨t_30, e30, h⟩ := atI_e h
    show (head_Field.j26 Z Q (head_Field.l20 Z Q k)) ρ w
    simp only [head_Field.j26]
    rw [e9]
    rw [e28]
    rw [e29]
    rw [e30]
    exact h
  · intro ρ w h
    obtain ⟨v_9, e9, h⟩ := atI_e h
    obtain ⟨t_28, t_28n, t_28c, e28, h⟩ := atL_e h
    obtain ⟨t_29, e29, h⟩ := atI_e h
    obtain ⟨t_30, e30, h⟩ := atI_e h
    obtain ⟨k, h⟩ := h
    refine ⟨k, ?_⟩
    show (atI .u32 (ρ 9) fun v_9 => atL (ρ 28) fun t_28 t_28n t_28c => atI .i64 (ρ 29) fun t_29 => atI .i64 (ρ 30) fun t_30 => (head_Field.l20 Z Q k v_9 t_28 t_28n t_28c t_29 t_30)) w
    rw [e9]
    rw [e28]
    rw [e29]
    rw [e30]
    exact h
theorem head_Field.o30 (Z : List PanicEntry → PT) (Q : Int → Int → PT) : Ok Tryd.prog Tryd.f32.ntmps Z head_Field.c14 (head_Field.q21 Z Q) (head_Field.j28 Z Q) := by
  rw [head_Field.q17]; exact ok_block (head_Field.o29 Z Q)
def head_Field.s31 (Z : List PanicEntry → PT) (Q : Int → Int → PT) (h_2 : Addr) (first_6 : Int) (width_7 : Int) (v_9 : Int) : PT :=
  (cnd ((8 : Int) ≠ 0) (cnd ((8 : Int) ≠ 0) (cnd ((8 : Int) ≠ 0) (slA h_2 13 (IntKind.wrap .i64 (Int.tdiv first_6 8)) (IntKind.wrap .i64 ((IntKind.wrap .i64 (Int.tdiv first_6 8)) + (IntKind.wrap .i64 (Int.tdiv width_7 8)))) 1 fun v30 v30n v30c => (exK fun k => head_Field.l20 Z Q k v_9 v30 v30n v30c ((v30n : Nat) : Int) 0)))))
theorem head_Field.s31_eq (Z : List PanicEntry → PT) (Q : Int → Int → PT) (ρ : Fr) (h_2 : Addr) (first_6 : Int) (width_7 : Int) (v_9 : Int) : (comp Tryd.prog Z head_Field.c13 (thenK (head_Field.j28 Z Q) (head_Field.q21 Z Q))) (puts ρ [(2, (Value.pointer (some h_2))), (6, (Value.int .i64 first_6)), (7, (Value.int .i64 width_7)), (9, (Value.int .u32 v_9))]) = head_Field.s31 Z Q h_2 first_6 width_7 v_9 := by kernel_rfl
def head_Field.j32 (Z : List PanicEntry → PT) (Q : Int → Int → PT) : Fr → PT := (fun ρ => atA (ρ 2) fun h_2 => atI .i64 (ρ 6) fun first_6 => atI .i64 (ρ 7) fun width_7 => atI .u32 (ρ 9) fun v_9 => (head_Field.s31 Z Q h_2 first_6 width_7 v_9))
theorem head_Field.s31_ok (Z : List PanicEntry → PT) (Q : Int → Int → PT) : Ok Tryd.prog Tryd.f32.ntmps Z head_Field.c7 (head_Field.q21 Z Q) (head_Field.j32 Z Q) := by
  intro E he ρ w a hr h
  rw [head_Field.q15] at he ⊢
  obtain ⟨h_2, e2, h⟩ := atA_e h
  obtain ⟨first_6, e6, h⟩ := atI_e h
  obtain ⟨width_7, e7, h⟩ := atI_e h
  obtain ⟨v_9, e9, h⟩ := atI_e h
  exact ok_at [(2, (Value.pointer (some h_2))), (6, (Value.int .i64 first_6)), (7, (Value.int .i64 width_7)), (9, (Value.int .u32 v_9))] (ok_seq (okC head_Field.c13 _ (by kernel_rfl)) (head_Field.o30 Z Q)) (puts_cons e2 (puts_cons e6 (puts_cons e7 (puts_cons e9 (fun p hp => puts_nil hp))))) (head_Field.s31_eq Z Q ρ h_2 first_6 width_7 v_9) he hr h
theorem head_Field.o33 (Z : List PanicEntry → PT) (Q : Int → Int → PT) : Ok Tryd.prog Tryd.f32.ntmps Z head_Field.c5 (head_Field.q11 Z Q) (head_Field.j32 Z Q) := by
  rw [head_Field.q9]; exact ok_seq (head_Field.s31_ok Z Q) (head_Field.s10_ok Z Q)
def head_Field.s34 (Z : List PanicEntry → PT) (Q : Int → Int → PT) (h_0 : List Value) (f_1 : Int) : PT :=
  (newC 37 h_0 fun h31 => (cal Tryd.prog Z 55 [(Value.int .i64 f_1)] (isT3 fun t32 t33 t34 => (isI .i64 fun v35 => ((isI .i64 fun v36 => ((isI .i64 fun v37 => (pif (v37 != 0) (Q 0 v37) (head_Field.s31 Z Q h31 v35 v36 0))) t34)) t33)) t32)))
theorem head_Field.s34_eq (Z : List PanicEntry → PT) (Q : Int → Int → PT) (ρ : Fr) (h_0 : List Value) (f_1 : Int) : (comp Tryd.prog Z head_Field.c1 (thenK (comp Tryd.prog Z head_Field.c2 (thenK (comp Tryd.prog Z head_Field.c3 (thenK (comp Tryd.prog Z head_Field.c4 (thenK (head_Field.j32 Z Q) (head_Field.q11 Z Q))) (head_Field.q11 Z Q))) (head_Field.q11 Z Q))) (head_Field.q11 Z Q))) (puts ρ [(0, (Value.agg ⟨h_0⟩)), (1, (Value.int .i64 f_1))]) = head_Field.s34 Z Q h_0 f_1 := by kernel_rfl
def head_Field.j35 (Z : List PanicEntry → PT) (Q : Int → Int → PT) : Fr → PT := (fun ρ => atN (ρ 0) fun h_0 => atI .i64 (ρ 1) fun f_1 => (head_Field.s34 Z Q h_0 f_1))
theorem head_Field.s34_ok (Z : List PanicEntry → PT) (Q : Int → Int → PT) : Ok Tryd.prog Tryd.f32.ntmps Z head_Field.body (head_Field.q11 Z Q) (head_Field.j35 Z Q) := by
  intro E he ρ w a hr h
  rw [head_Field.q6] at he ⊢
  obtain ⟨h_0, e0, h⟩ := atN_e h
  obtain ⟨f_1, e1, h⟩ := atI_e h
  exact ok_at [(0, (Value.agg ⟨h_0⟩)), (1, (Value.int .i64 f_1))] (ok_seq (okC head_Field.c1 _ (by kernel_rfl)) (ok_seq (okC head_Field.c2 _ (by kernel_rfl)) (ok_seq (okC head_Field.c3 _ (by kernel_rfl)) (ok_seq (okC head_Field.c4 _ (by kernel_rfl)) (head_Field.o33 Z Q))))) (puts_cons e0 (puts_cons e1 (fun p hp => puts_nil hp))) (head_Field.s34_eq Z Q ρ h_0 f_1) he hr h
def head_Field.F (Z : List PanicEntry → PT) (Q : Int → Int → PT) (h_0 : List Value) (f_1 : Int) : PT :=
  (head_Field.s34 Z Q h_0 f_1)
theorem head_Field.vc (Z : List PanicEntry → PT) (Q : Int → Int → PT) (h_0 : List Value) (f_1 : Int) (w : World) (h : head_Field.F Z Q h_0 f_1 w) : Calls Tryd.prog 32 ⟨[(Value.agg ⟨h_0⟩), (Value.int .i64 f_1)]⟩ w fun e w' => (∃ (r0 : Int) (r1 : Int), e = .returned (.tuple #[.int .u32 r0, .int .i64 r1]) ∧ Q r0 r1 w') ∨ ∃ c, e = .panicked c ∧ Z c w' := by
  refine (calls_of_ok (args := [(Value.agg ⟨h_0⟩), (Value.int .i64 f_1)]) (w := w) (rs := [.tmp 4, .tmp 5]) (fn := Tryd.f32) (c := head_Field.body) Tryd.func32 (by kernel_rfl) (by kernel_rfl) (Nat.le_of_ble_eq_true (by kernel_rfl)) (head_Field.s34_ok Z Q) (h)).mono fun e w' hR => ?_
  cases e with
  | returned v =>
    obtain ⟨x, y, rfl, hR⟩ := at2_e hR
    obtain ⟨xa, rfl, hR⟩ := atI_e hR
    obtain ⟨ya, rfl, hR⟩ := atI_e hR
    exact .inl ⟨xa, ya, rfl, hR⟩
  | panicked c => exact .inr ⟨c, rfl, hR⟩
  | outgrown => exact hR.elim
theorem head_Field.vc0 (Q : Int → Int → PT) (h_0 : List Value) (f_1 : Int) (w : World) (h : head_Field.F Z0 Q h_0 f_1 w) : Calls Tryd.prog 32 ⟨[(Value.agg ⟨h_0⟩), (Value.int .i64 f_1)]⟩ w fun e w' => (∃ (r0 : Int) (r1 : Int), e = .returned (.tuple #[.int .u32 r0, .int .i64 r1]) ∧ Q r0 r1 w') :=
  (head_Field.vc Z0 Q h_0 f_1 w h).mono fun _ _ hR => hR.elim id fun ⟨_, _, hz⟩ => hz.elim
theorem head_Field.cal {Z : List PanicEntry → PT} {Q : Int → Int → PT} {h_0 : List Value} {f_1 : Int} {w : World} (h : head_Field.F Z Q h_0 f_1 w) : Go.Proofs.YtllgjjldnnmjkaaDoor.cal Tryd.prog Z 32 [(Value.agg ⟨h_0⟩), (Value.int .i64 f_1)] (isT2 fun x y => (isI .u32 fun r0 => (isI .i64 fun r1 => Q r0 r1) y) x) w := by
  refine (head_Field.vc Z Q h_0 f_1 w h).mono fun e w' hR => ?_
  rcases hR with ⟨r0, r1, rfl, h⟩ | ⟨c, rfl, h⟩
  · show (isT2 fun x y => (isI .u32 fun r0 => (isI .i64 fun r1 => Q r0 r1) y) x) (.tuple #[.int .u32 r0, .int .i64 r1]) w'
    exact ⟨_, _, rfl, ⟨_, rfl, ⟨_, rfl, h⟩⟩⟩
  · exact h

/-! ### milepost/milepostref01.First: function 78 -/
noncomputable def ref01_First.body : Code := bodyC Tryd.f78
def ref01_First.F (Z : List PanicEntry → PT) (Q : Int → PT) (f_0 : Int) : PT :=
  (pif (f_0 == 0) (Q 0) (pif (f_0 == 1) (Q 32) (pif (f_0 == 2) (Q 64) (pif (f_0 == 3) (Q 80) (pif (f_0 == 4) (Q 96) (Q (-1)))))))
def ref01_First.q1 (Z : List PanicEntry → PT) (Q : Int → PT) : QF := bodyQ Tryd.prog [.tmp 2] (fun v => atI .i64 v fun va => Q va)
theorem ref01_First.eq (Z : List PanicEntry → PT) (Q : Int → PT) (f_0 : Int) : comp Tryd.prog Z ref01_First.body (ref01_First.q1 Z Q) (fr0 [(Value.int .i64 f_0)]) = ref01_First.F Z Q f_0 := by kernel_rfl
theorem ref01_First.vc (Z : List PanicEntry → PT) (Q : Int → PT) (f_0 : Int) (w : World) (h : ref01_First.F Z Q f_0 w) : Calls Tryd.prog 78 ⟨[(Value.int .i64 f_0)]⟩ w fun e w' => (∃ (r0 : Int), e = .returned (.int .i64 r0) ∧ Q r0 w') ∨ ∃ c, e = .panicked c ∧ Z c w' := by
  refine (calls_of_ok (args := [(Value.int .i64 f_0)]) (w := w) (rs := [.tmp 2]) (fn := Tryd.f78) (c := ref01_First.body) Tryd.func78 (by kernel_rfl) (by kernel_rfl) (Nat.le_of_ble_eq_true (by kernel_rfl)) (okC ref01_First.body (ref01_First.q1 Z Q) (by kernel_rfl)) (by rw [ref01_First.eq]; exact h)).mono fun e w' hR => ?_
  cases e with
  | returned v =>
    obtain ⟨va, rfl, hR⟩ := atI_e hR
    exact .inl ⟨va, rfl, hR⟩
  | panicked c => exact .inr ⟨c, rfl, hR⟩
  | outgrown => exact hR.elim
theorem ref01_First.vc0 (Q : Int → PT) (f_0 : Int) (w : World) (h : ref01_First.F Z0 Q f_0 w) : Calls Tryd.prog 78 ⟨[(Value.int .i64 f_0)]⟩ w fun e w' => (∃ (r0 : Int), e = .returned (.int .i64 r0) ∧ Q r0 w') :=
  (ref01_First.vc Z0 Q f_0 w h).mono fun _ _ hR => hR.elim id fun ⟨_, _, hz⟩ => hz.elim
theorem ref01_First.cal {Z : List PanicEntry → PT} {Q : Int → PT} {f_0 : Int} {w : World} (h : ref01_First.F Z Q f_0 w) : Go.Proofs.YtllgjjldnnmjkaaDoor.cal Tryd.prog Z 78 [(Value.int .i64 f_0)] (isI .i64 fun r0 => Q r0) w := by
  refine (ref01_First.vc Z Q f_0 w h).mono fun e w' hR => ?_
  rcases hR with ⟨r0, rfl, h⟩ | ⟨c, rfl, h⟩
  · show (isI .i64 fun r0 => Q r0) (.int .i64 r0) w'
    exact ⟨_, rfl, h⟩
  · exact h

/-! ### milepost/milepostref01.Width: function 79 -/
noncomputable def ref01_Width.body : Code := bodyC Tryd.f79
def ref01_Width.F (Z : List PanicEntry → PT) (Q : Int → PT) (f_0 : Int) : PT :=
  (pif (decide (f_0 < 2)) (Q 32) (pif (decide (f_0 < 4)) (Q 16) (Q 8)))
def ref01_Width.q1 (Z : List PanicEntry → PT) (Q : Int → PT) : QF := bodyQ Tryd.prog [.tmp 2] (fun v => atI .i64 v fun va => Q va)
theorem ref01_Width.eq (Z : List PanicEntry → PT) (Q : Int → PT) (f_0 : Int) : comp Tryd.prog Z ref01_Width.body (ref01_Width.q1 Z Q) (fr0 [(Value.int .i64 f_0)]) = ref01_Width.F Z Q f_0 := by kernel_rfl
theorem ref01_Width.vc (Z : List PanicEntry → PT) (Q : Int → PT) (f_0 : Int) (w : World) (h : ref01_Width.F Z Q f_0 w) : Calls Tryd.prog 79 ⟨[(Value.int .i64 f_0)]⟩ w fun e w' => (∃ (r0 : Int), e = .returned (.int .i64 r0) ∧ Q r0 w') ∨ ∃ c, e = .panicked c ∧ Z c w' := by
  refine (calls_of_ok (args := [(Value.int .i64 f_0)]) (w := w) (rs := [.tmp 2]) (fn := Tryd.f79) (c := ref01_Width.body) Tryd.func79 (by kernel_rfl) (by kernel_rfl) (Nat.le_of_ble_eq_true (by kernel_rfl)) (okC ref01_Width.body (ref01_Width.q1 Z Q) (by kernel_rfl)) (by rw [ref01_Width.eq]; exact h)).mono fun e w' hR => ?_
  cases e with
  | returned v =>
    obtain ⟨va, rfl, hR⟩ := atI_e hR
    exact .inl ⟨va, rfl, hR⟩
  | panicked c => exact .inr ⟨c, rfl, hR⟩
  | outgrown => exact hR.elim
theorem ref01_Width.vc0 (Q : Int → PT) (f_0 : Int) (w : World) (h : ref01_Width.F Z0 Q f_0 w) : Calls Tryd.prog 79 ⟨[(Value.int .i64 f_0)]⟩ w fun e w' => (∃ (r0 : Int), e = .returned (.int .i64 r0) ∧ Q r0 w') :=
  (ref01_Width.vc Z0 Q f_0 w h).mono fun _ _ hR => hR.elim id fun ⟨_, _, hz⟩ => hz.elim
theorem ref01_Width.cal {Z : List PanicEntry → PT} {Q : Int → PT} {f_0 : Int} {w : World} (h : ref01_Width.F Z Q f_0 w) : Go.Proofs.YtllgjjldnnmjkaaDoor.cal Tryd.prog Z 79 [(Value.int .i64 f_0)] (isI .i64 fun r0 => Q r0) w := by
  refine (ref01_Width.vc Z Q f_0 w h).mono fun e w' hR => ?_
  rcases hR with ⟨r0, rfl, h⟩ | ⟨c, rfl, h⟩
  · show (isI .i64 fun r0 => Q r0) (.int .i64 r0) w'
    exact ⟨_, rfl, h⟩
  · exact h

/-! ### milepost/milepostref01.Bit: function 80 -/
noncomputable def ref01_Bit.body : Code := bodyC Tryd.f80
def ref01_Bit.F (Z : List PanicEntry → PT) (Q : Bool → PT) (h_0 : List Value) (i_1 : Int) : PT :=
  (newC 37 h_0 fun h3 => (pif (decide (i_1 < 0)) (Q false) (pif (decide (i_1 > 103)) (Q false) (cnd ((8 : Int) ≠ 0) (cnd ((0 : Int) ≤ (IntKind.wrap .i64 (Int.tdiv i_1 8)) ∧ (IntKind.wrap .i64 (Int.tdiv i_1 8)) < ((13 : Nat) : Int)) (ldI .u8 (h3.add ((IntKind.wrap .i64 (Int.tdiv i_1 8)).toNat * 1)) fun v4 => (cnd ((8 : Int) ≠ 0) (cnd ((0 : Int) ≤ (IntKind.wrap .i64 ((7 : Int) - (Int.tmod i_1 8)))) (cnd ((2 : Int) ≠ 0) (Q ((Int.tmod (Int.fdiv v4 (2 ^ (min (IntKind.wrap .i64 ((7 : Int) - (Int.tmod i_1 8))).toNat (IntKind.bits .u8)))) 2) == 1)))))))))))
def ref01_Bit.q1 (Z : List PanicEntry → PT) (Q : Bool → PT) : QF := bodyQ Tryd.prog [.tmp 4] (fun v => atB v fun va => Q va)
theorem ref01_Bit.eq (Z : List PanicEntry → PT) (Q : Bool → PT) (h_0 : List Value) (i_1 : Int) : comp Tryd.prog Z ref01_Bit.body (ref01_Bit.q1 Z Q) (fr0 [(Value.agg ⟨h_0⟩), (Value.int .i64 i_1)]) = ref01_Bit.F Z Q h_0 i_1 := by kernel_rfl
theorem ref01_Bit.vc (Z : List PanicEntry → PT) (Q : Bool → PT) (h_0 : List Value) (i_1 : Int) (w : World) (h : ref01_Bit.F Z Q h_0 i_1 w) : Calls Tryd.prog 80 ⟨[(Value.agg ⟨h_0⟩), (Value.int .i64 i_1)]⟩ w fun e w' => (∃ (r0 : Bool), e = .returned (.bool r0) ∧ Q r0 w') ∨ ∃ c, e = .panicked c ∧ Z c w' := by
  refine (calls_of_ok (args := [(Value.agg ⟨h_0⟩), (Value.int .i64 i_1)]) (w := w) (rs := [.tmp 4]) (fn := Tryd.f80) (c := ref01_Bit.body) Tryd.func80 (by kernel_rfl) (by kernel_rfl) (Nat.le_of_ble_eq_true (by kernel_rfl)) (okC ref01_Bit.body (ref01_Bit.q1 Z Q) (by kernel_rfl)) (by rw [ref01_Bit.eq]; exact h)).mono fun e w' hR => ?_
  cases e with
  | returned v =>
    obtain ⟨va, rfl, hR⟩ := atB_e hR
    exact .inl ⟨va, rfl, hR⟩
  | panicked c => exact .inr ⟨c, rfl, hR⟩
  | outgrown => exact hR.elim
theorem ref01_Bit.vc0 (Q : Bool → PT) (h_0 : List Value) (i_1 : Int) (w : World) (h : ref01_Bit.F Z0 Q h_0 i_1 w) : Calls Tryd.prog 80 ⟨[(Value.agg ⟨h_0⟩), (Value.int .i64 i_1)]⟩ w fun e w' => (∃ (r0 : Bool), e = .returned (.bool r0) ∧ Q r0 w') :=
  (ref01_Bit.vc Z0 Q h_0 i_1 w h).mono fun _ _ hR => hR.elim id fun ⟨_, _, hz⟩ => hz.elim
theorem ref01_Bit.cal {Z : List PanicEntry → PT} {Q : Bool → PT} {h_0 : List Value} {i_1 : Int} {w : World} (h : ref01_Bit.F Z Q h_0 i_1 w) : Go.Proofs.YtllgjjldnnmjkaaDoor.cal Tryd.prog Z 80 [(Value.agg ⟨h_0⟩), (Value.int .i64 i_1)] (isB fun r0 => Q r0) w := by
  refine (ref01_Bit.vc Z Q h_0 i_1 w h).mono fun e w' hR => ?_
  rcases hR with ⟨r0, rfl, h⟩ | ⟨c, rfl, h⟩
  · show (isB fun r0 => Q r0) (.bool r0) w'
    exact ⟨_, rfl, h⟩
  · exact h

/-! ### milepost/milepostref01.Field: function 56 -/
noncomputable def ref01_Field.body : Code := bodyC Tryd.f56
noncomputable def ref01_Field.c1 : Code := sq1 ref01_Field.body
noncomputable def ref01_Field.c2 : Code := sq1 (sq2 ref01_Field.body)
noncomputable def ref01_Field.c3 : Code := sq1 (sq2 (sq2 ref01_Field.body))
noncomputable def ref01_Field.c4 : Code := sq2 (sq2 (sq2 ref01_Field.body))
theorem ref01_Field.q5 : ref01_Field.body = .seq ref01_Field.c1 (.seq ref01_Field.c2 (.seq ref01_Field.c3 ref01_Field.c4)) := by kernel_rfl
noncomputable def ref01_Field.c6 : Code := sq1 ref01_Field.c4
noncomputable def ref01_Field.c7 : Code := sq2 ref01_Field.c4
theorem ref01_Field.q8 : ref01_Field.c4 = .seq ref01_Field.c6 ref01_Field.c7 := by kernel_rfl
def ref01_Field.s9 (Z : List PanicEntry → PT) (Q : Int → Int → PT) (n_6 : Int) : PT :=
  (Q n_6 0)
def ref01_Field.q10 (Z : List PanicEntry → PT) (Q : Int → Int → PT) : QF := bodyQ Tryd.prog [.tmp 4, .tmp 5] (fun v => at2 v fun x y => atI .u32 x fun xa => atI .i64 y fun ya => Q xa ya)
theorem ref01_Field.s9_eq (Z : List PanicEntry → PT) (Q : Int → Int → PT) (ρ : Fr) (n_6 : Int) : comp Tryd.prog Z ref01_Field.c7 (ref01_Field.q10 Z Q) (puts ρ [(6, (Value.int .u32 n_6))]) = ref01_Field.s9 Z Q n_6 := by kernel_rfl
def ref01_Field.j11 (Z : List PanicEntry → PT) (Q : Int → Int → PT) : Fr → PT := (fun ρ => atI .u32 (ρ 6) fun n_6 => (ref01_Field.s9 Z Q n_6))
theorem ref01_Field.s9_ok (Z : List PanicEntry → PT) (Q : Int → Int → PT) : Ok Tryd.prog Tryd.f56.ntmps Z ref01_Field.c7 (ref01_Field.q10 Z Q) (ref01_Field.j11 Z Q) := by
  intro E he ρ w a hr h
  obtain ⟨n_6, e6, h⟩ := atI_e h
  exact ok_at [(6, (Value.int .u32 n_6))] (okC ref01_Field.c7 (ref01_Field.q10 Z Q) (by kernel_rfl)) (puts_cons e6 (fun p hp => puts_nil hp)) (ref01_Field.s9_eq Z Q ρ n_6) he hr h
noncomputable def ref01_Field.c12 : Code := sq1 ref01_Field.c6
noncomputable def ref01_Field.c13 : Code := sq2 ref01_Field.c6
theorem ref01_Field.q14 : ref01_Field.c6 = .seq ref01_Field.c12 ref01_Field.c13 := by kernel_rfl
noncomputable def ref01_Field.c15 : Code := blk ref01_Field.c13
theorem ref01_Field.q16 : ref01_Field.c13 = .block 0 ref01_Field.c15 := by kernel_rfl
noncomputable def ref01_Field.c17 : Code := lop ref01_Field.c15
theorem ref01_Field.q18 : ref01_Field.c15 = .loop ref01_Field.c17 := by kernel_rfl
def ref01_Field.q20 (Z : List PanicEntry → PT) (Q : Int → Int → PT) : QF := thenK (ref01_Field.j11 Z Q) (ref01_Field.q10 Z Q)
def ref01_Field.q21 (Z : List PanicEntry → PT) (Q : Int → Int → PT) : QF := inBl 0 (ref01_Field.q20 Z Q)
def ref01_Field.s22 (Z : List PanicEntry → PT) (Q : Int → Int → PT) (X1 : Int → Addr → Int → Int → PT) (f_1 : Int) (h_2 : Addr) (n_6 : Int) (i_7 : Int) : PT :=
  (cal Tryd.prog Z 79 [(Value.int .i64 f_1)] (isI .i64 fun v18 => (pif (decide (i_7 < v18)) (drawn fun S19 => (hN S19 13 h_2 fun v20 => (cal Tryd.prog Z 78 [(Value.int .i64 f_1)] (isI .i64 fun v21 => (sAnd S19 (cal Tryd.prog Z 80 [(Value.agg ⟨v20⟩), (Value.int .i64 (IntKind.wrap .i64 (v21 + i_7)))] (isB fun v22 => (sAnd S19 (pif v22 (X1 f_1 h_2 (IntKind.wrap .u32 ((IntKind.wrap .u32 (n_6 * 2)) + 1)) (IntKind.wrap .i64 (i_7 + 1))) (X1 f_1 h_2 (IntKind.wrap .u32 (n_6 * 2)) (IntKind.wrap .i64 (i_7 + 1)))))))))))) (ref01_Field.s9 Z Q n_6))))
def ref01_Field.j23 (Z : List PanicEntry → PT) (Q : Int → Int → PT) (X1 : Int → Addr → Int → Int → PT) : Fr → PT := (fun ρ => atI .i64 (ρ 1) fun f_1 => atA (ρ 2) fun h_2 => atI .u32 (ρ 6) fun n_6 => atI .i64 (ρ 7) fun i_7 => (X1 f_1 h_2 n_6 i_7))
def ref01_Field.q24 (Z : List PanicEntry → PT) (Q : Int → Int → PT) (X1 : Int → Addr → Int → Int → PT) : QF := thenK (ref01_Field.j23 Z Q X1) (ref01_Field.q21 Z Q)
theorem ref01_Field.s22_eq (Z : List PanicEntry → PT) (Q : Int → Int → PT) (X1 : Int → Addr → Int → Int → PT) (ρ : Fr) (f_1 : Int) (h_2 : Addr) (n_6 : Int) (i_7 : Int) : comp Tryd.prog Z ref01_Field.c17 (ref01_Field.q24 Z Q X1) (puts ρ [(1, (Value.int .i64 f_1)), (2, (Value.pointer (some h_2))), (6, (Value.int .u32 n_6)), (7, (Value.int .i64 i_7))]) = ref01_Field.s22 Z Q X1 f_1 h_2 n_6 i_7 := by kernel_rfl
def ref01_Field.j25 (Z : List PanicEntry → PT) (Q : Int → Int → PT) (X1 : Int → Addr → Int → Int → PT) : Fr → PT := (fun ρ => atI .i64 (ρ 1) fun f_1 => atA (ρ 2) fun h_2 => atI .u32 (ρ 6) fun n_6 => atI .i64 (ρ 7) fun i_7 => (ref01_Field.s22 Z Q X1 f_1 h_2 n_6 i_7))
theorem ref01_Field.s22_ok (Z : List PanicEntry → PT) (Q : Int → Int → PT) (X1 : Int → Addr → Int → Int → PT) : Ok Tryd.prog Tryd.f56.ntmps Z ref01_Field.c17 (ref01_Field.q24 Z Q X1) (ref01_Field.j25 Z Q X1) := by
  intro E he ρ w a hr h
  obtain ⟨f_1, e1, h⟩ := atI_e h
  obtain ⟨h_2, e2, h⟩ := atA_e h
  obtain ⟨n_6, e6, h⟩ := atI_e h
  obtain ⟨i_7, e7, h⟩ := atI_e h
  exact ok_at [(1, (Value.int .i64 f_1)), (2, (Value.pointer (some h_2))), (6, (Value.int .u32 n_6)), (7, (Value.int .i64 i_7))] (okC ref01_Field.c17 (ref01_Field.q24 Z Q X1) (by kernel_rfl)) (puts_cons e1 (puts_cons e2 (puts_cons e6 (puts_cons e7 (fun p hp => puts_nil hp))))) (ref01_Field.s22_eq Z Q X1 ρ f_1 h_2 n_6 i_7) he hr h
def ref01_Field.l19 (Z : List PanicEntry → PT) (Q : Int → Int → PT) : Nat → Int → Addr → Int → Int → PT
  | 0, _, _, _, _ => bad
  | k + 1, f_1, h_2, n_6, i_7 => (ref01_Field.s22 Z Q (ref01_Field.l19 Z Q k) f_1 h_2 n_6 i_7)
def ref01_Field.j26 (Z : List PanicEntry → PT) (Q : Int → Int → PT) (k : Nat) : Fr → PT := (fun ρ => atI .i64 (ρ 1) fun f_1 => atA (ρ 2) fun h_2 => atI .u32 (ρ 6) fun n_6 => atI .i64 (ρ 7) fun i_7 => (ref01_Field.l19 Z Q k f_1 h_2 n_6 i_7))
def ref01_Field.j27 (Z : List PanicEntry → PT) (Q : Int → Int → PT) : Fr → PT := (fun ρ => atI .i64 (ρ 1) fun f_1 => atA (ρ 2) fun h_2 => atI .u32 (ρ 6) fun n_6 => atI .i64 (ρ 7) fun i_7 => (exK fun k => ref01_Field.l19 Z Q k f_1 h_2 n_6 i_7))
theorem ref01_Field.o28 (Z : List PanicEntry → PT) (Q : Int → Int → PT) : Ok Tryd.prog Tryd.f56.ntmps Z ref01_Field.c15 (ref01_Field.q21 Z Q) (ref01_Field.j27 Z Q) := by
  rw [ref01_Field.q18]
  refine Ok.imp (ok_loop (J := ref01_Field.j26 Z Q) ?_ ?_) ?_
  · intro ρ w h
    obtain ⟨f_1, e1, h⟩ := atI_e h
    obtain ⟨h_2, e2, h⟩ := atA_e h
    obtain ⟨n_6, e6, h⟩ := atI_e h
    obtain ⟨i_7, e7, h⟩ := atI_e h
    exact h
  · intro k
    refine Ok.imp (ref01_Field.s22_ok Z Q (ref01_Field.l19 Z Q k)) fun ρ w h => ?_
    obtain ⟨f_1, e1, h⟩ := atI_e h
    obtain ⟨h_2, e2, h⟩ := atA_e h
    obtain ⟨n_6, e6, h⟩ := atI_e h
    obtain ⟨i_7, e7, h⟩ := atI_e h
    show (ref01_Field.j25 Z Q (ref01_Field.l19 Z Q k)) ρ w
    simp only [ref01_Field.j25]
    rw [e1]
    rw [e2]
    rw [e6]
    rw [e7]
    exact h
  · intro ρ w h
    obtain ⟨f_1, e1, h⟩ := atI_e h
    obtain ⟨h_2, e2, h⟩ := atA_e h
    obtain ⟨n_6, e6, h⟩ := atI_e h
    obtain ⟨i_7, e7, h⟩ := atI_e h
    obtain ⟨k, h⟩ := h
    refine ⟨k, ?_⟩
    show (atI .i64 (ρ 1) fun f_1 => atA (ρ 2) fun h_2 => atI .u32 (ρ 6) fun n_6 => atI .i64 (ρ 7) fun i_7 => (ref01_Field.l19 Z Q k f_1 h_2 n_6 i_7)) w
    rw [e1]
    rw [e2]
    rw [e6]
    rw [e7]
    exact h
theorem ref01_Field.o29 (Z : List PanicEntry → PT) (Q : Int → Int → PT) : Ok Tryd.prog Tryd.f56.ntmps Z ref01_Field.c13 (ref01_Field.q20 Z Q) (ref01_Field.j27 Z Q) := by
  rw [ref01_Field.q16]; exact ok_block (ref01_Field.o28 Z Q)
def ref01_Field.s30 (Z : List PanicEntry → PT) (Q : Int → Int → PT) (f_1 : Int) (h_2 : Addr) (n_6 : Int) : PT :=
  (exK fun k => ref01_Field.l19 Z Q k f_1 h_2 n_6 0)
theorem ref01_Field.s30_eq (Z : List PanicEntry → PT) (Q : Int → Int → PT) (ρ : Fr) (f_1 : Int) (h_2 : Addr) (n_6 : Int) : (comp Tryd.prog Z ref01_Field.c12 (thenK (ref01_Field.j27 Z Q) (ref01_Field.q20 Z Q))) (puts ρ [(1, (Value.int .i64 f_1)), (2, (Value.pointer (some h_2))), (6, (Value.int .u32 n_6))]) = ref01_Field.s30 Z Q f_1 h_2 n_6 := by kernel_rfl
def ref01_Field.j31 (Z : List PanicEntry → PT) (Q : Int → Int → PT) : Fr → PT := (fun ρ => atI .i64 (ρ 1) fun f_1 => atA (ρ 2) fun h_2 => atI .u32 (ρ 6) fun n_6 => (ref01_Field.s30 Z Q f_1 h_2 n_6))
theorem ref01_Field.s30_ok (Z : List PanicEntry → PT) (Q : Int → Int → PT) : Ok Tryd.prog Tryd.f56.ntmps Z ref01_Field.c6 (ref01_Field.q20 Z Q) (ref01_Field.j31 Z Q) := by
  intro E he ρ w a hr h
  rw [ref01_Field.q14] at he ⊢
  obtain ⟨f_1, e1, h⟩ := atI_e h
  obtain ⟨h_2, e2, h⟩ := atA_e h
  obtain ⟨n_6, e6, h⟩ := atI_e h
  exact ok_at [(1, (Value.int .i64 f_1)), (2, (Value.pointer (some h_2))), (6, (Value.int .u32 n_6))] (ok_seq (okC ref01_Field.c12 _ (by kernel_rfl)) (ref01_Field.o29 Z Q)) (puts_cons e1 (puts_cons e2 (puts_cons e6 (fun p hp => puts_nil hp)))) (ref01_Field.s30_eq Z Q ρ f_1 h_2 n_6) he hr h
theorem ref01_Field.o32 (Z : List PanicEntry → PT) (Q : Int → Int → PT) : Ok Tryd.prog Tryd.f56.ntmps Z ref01_Field.c4 (ref01_Field.q10 Z Q) (ref01_Field.j31 Z Q) := by
  rw [ref01_Field.q8]; exact ok_seq (ref01_Field.s30_ok Z Q) (ref01_Field.s9_ok Z Q)
def ref01_Field.s33 (Z : List PanicEntry → PT) (Q : Int → Int → PT) (h_0 : List Value) (f_1 : Int) : PT :=
  (newC 37 h_0 fun h23 => (cal Tryd.prog Z 78 [(Value.int .i64 f_1)] (isI .i64 fun v24 => (pif (decide (v24 < 0)) (Q 0 1) (ref01_Field.s30 Z Q f_1 h23 0)))))
theorem ref01_Field.s33_eq (Z : List PanicEntry → PT) (Q : Int → Int → PT) (ρ : Fr) (h_0 : List Value) (f_1 : Int) : (comp Tryd.prog Z ref01_Field.c1 (thenK (comp Tryd.prog Z ref01_Field.c2 (thenK (comp Tryd.prog Z ref01_Field.c3 (thenK (ref01_Field.j31 Z Q) (ref01_Field.q10 Z Q))) (ref01_Field.q10 Z Q))) (ref01_Field.q10 Z Q))) (puts ρ [(0, (Value.agg ⟨h_0⟩)), (1, (Value.int .i64 f_1))]) = ref01_Field.s33 Z Q h_0 f_1 := by kernel_rfl
def ref01_Field.j34 (Z : List PanicEntry → PT) (Q : Int → Int → PT) : Fr → PT := (fun ρ => atN (ρ 0) fun h_0 => atI .i64 (ρ 1) fun f_1 => (ref01_Field.s33 Z Q h_0 f_1))
theorem ref01_Field.s33_ok (Z : List PanicEntry → PT) (Q : Int → Int → PT) : Ok Tryd.prog Tryd.f56.ntmps Z ref01_Field.body (ref01_Field.q10 Z Q) (ref01_Field.j34 Z Q) := by
  intro E he ρ w a hr h
  rw [ref01_Field.q5] at he ⊢
  obtain ⟨h_0, e0, h⟩ := atN_e h
  obtain ⟨f_1, e1, h⟩ := atI_e h
  exact ok_at [(0, (Value.agg ⟨h_0⟩)), (1, (Value.int .i64 f_1))] (ok_seq (okC ref01_Field.c1 _ (by kernel_rfl)) (ok_seq (okC ref01_Field.c2 _ (by kernel_rfl)) (ok_seq (okC ref01_Field.c3 _ (by kernel_rfl)) (ref01_Field.o32 Z Q)))) (puts_cons e0 (puts_cons e1 (fun p hp => puts_nil hp))) (ref01_Field.s33_eq Z Q ρ h_0 f_1) he hr h
def ref01_Field.F (Z : List PanicEntry → PT) (Q : Int → Int → PT) (h_0 : List Value) (f_1 : Int) : PT :=
  (ref01_Field.s33 Z Q h_0 f_1)
theorem ref01_Field.vc (Z : List PanicEntry → PT) (Q : Int → Int → PT) (h_0 : List Value) (f_1 : Int) (w : World) (h : ref01_Field.F Z Q h_0 f_1 w) : Calls Tryd.prog 56 ⟨[(Value.agg ⟨h_0⟩), (Value.int .i64 f_1)]⟩ w fun e w' => (∃ (r0 : Int) (r1 : Int), e = .returned (.tuple #[.int .u32 r0, .int .i64 r1]) ∧ Q r0 r1 w') ∨ ∃ c, e = .panicked c ∧ Z c w' := by
  refine (calls_of_ok (args := [(Value.agg ⟨h_0⟩), (Value.int .i64 f_1)]) (w := w) (rs := [.tmp 4, .tmp 5]) (fn := Tryd.f56) (c := ref01_Field.body) Tryd.func56 (by kernel_rfl) (by kernel_rfl) (Nat.le_of_ble_eq_true (by kernel_rfl)) (ref01_Field.s33_ok Z Q) (h)).mono fun e w' hR => ?_
  cases e with
  | returned v =>
    obtain ⟨x, y, rfl, hR⟩ := at2_e hR
    obtain ⟨xa, rfl, hR⟩ := atI_e hR
    obtain ⟨ya, rfl, hR⟩ := atI_e hR
    exact .inl ⟨xa, ya, rfl, hR⟩
  | panicked c => exact .inr ⟨c, rfl, hR⟩
  | outgrown => exact hR.elim
theorem ref01_Field.vc0 (Q : Int → Int → PT) (h_0 : List Value) (f_1 : Int) (w : World) (h : ref01_Field.F Z0 Q h_0 f_1 w) : Calls Tryd.prog 56 ⟨[(Value.agg ⟨h_0⟩), (Value.int .i64 f_1)]⟩ w fun e w' => (∃ (r0 : Int) (r1 : Int), e = .returned (.tuple #[.int .u32 r0, .int .i64 r1]) ∧ Q r0 r1 w') :=
  (ref01_Field.vc Z0 Q h_0 f_1 w h).mono fun _ _ hR => hR.elim id fun ⟨_, _, hz⟩ => hz.elim
theorem ref01_Field.cal {Z : List PanicEntry → PT} {Q : Int → Int → PT} {h_0 : List Value} {f_1 : Int} {w : World} (h : ref01_Field.F Z Q h_0 f_1 w) : Go.Proofs.YtllgjjldnnmjkaaDoor.cal Tryd.prog Z 56 [(Value.agg ⟨h_0⟩), (Value.int .i64 f_1)] (isT2 fun x y => (isI .u32 fun r0 => (isI .i64 fun r1 => Q r0 r1) y) x) w := by
  refine (ref01_Field.vc Z Q h_0 f_1 w h).mono fun e w' hR => ?_
  rcases hR with ⟨r0, r1, rfl, h⟩ | ⟨c, rfl, h⟩
  · show (isT2 fun x y => (isI .u32 fun r0 => (isI .i64 fun r1 => Q r0 r1) y) x) (.tuple #[.int .u32 r0, .int .i64 r1]) w'
    exact ⟨_, _, rfl, ⟨_, rfl, ⟨_, rfl, h⟩⟩⟩
  · exact h

end Go.Proofs.YtllgjjldnnmjkaaDoor
