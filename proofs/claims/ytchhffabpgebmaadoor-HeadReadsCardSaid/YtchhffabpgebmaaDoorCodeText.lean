/-
  The reading of the code of 8 functions, printed by gen.py off the translation; no condition.
-/
import Derived.Test.YtchhffabpgebmaaDoorWlFacts
namespace Go.Proofs.YtchhffabpgebmaaDoor
open Go.RowKit
set_option linter.unusedVariables false
set_option maxRecDepth 100000

/-! ### strconv.AppendUint: function 30 -/
noncomputable def strconv_AppendUint.body : Code := bodyC Tryd.f30
def strconv_AppendUint.F (Z : List PanicEntry → PT) (Q : Option Addr → Nat → Nat → PT) (dst_0 : Option Addr) (dst_0n dst_0c : Nat) (i_1 : Int) (base_2 : Int) : PT :=
  (cal Tryd.prog Z 34 [(Value.slice dst_0 dst_0n dst_0c), (Value.int .u64 i_1), (Value.int .i64 base_2)] (isL fun v1 v1n v1c => (Q v1 v1n v1c)))
def strconv_AppendUint.q1 (Z : List PanicEntry → PT) (Q : Option Addr → Nat → Nat → PT) : QF := bodyQ Tryd.prog [.tmp 6] (fun v => atL v fun va vn vc => Q va vn vc)
theorem strconv_AppendUint.eq (Z : List PanicEntry → PT) (Q : Option Addr → Nat → Nat → PT) (dst_0 : Option Addr) (dst_0n dst_0c : Nat) (i_1 : Int) (base_2 : Int) : comp Tryd.prog Z strconv_AppendUint.body (strconv_AppendUint.q1 Z Q) (fr0 [(Value.slice dst_0 dst_0n dst_0c), (Value.int .u64 i_1), (Value.int .i64 base_2)]) = strconv_AppendUint.F Z Q dst_0 dst_0n dst_0c i_1 base_2 := by kernel_rfl
theorem strconv_AppendUint.vc (Z : List PanicEntry → PT) (Q : Option Addr → Nat → Nat → PT) (dst_0 : Option Addr) (dst_0n dst_0c : Nat) (i_1 : Int) (base_2 : Int) (w : World) (h : strconv_AppendUint.F Z Q dst_0 dst_0n dst_0c i_1 base_2 w) : Calls Tryd.prog 30 ⟨[(Value.slice dst_0 dst_0n dst_0c), (Value.int .u64 i_1), (Value.int .i64 base_2)]⟩ w fun e w' => (∃ (r0 : Option Addr) (r0n r0c : Nat), e = .returned (.slice r0 r0n r0c) ∧ Q r0 r0n r0c w') ∨ ∃ c, e = .panicked c ∧ Z c w' := by
  refine (calls_of_ok (args := [(Value.slice dst_0 dst_0n dst_0c), (Value.int .u64 i_1), (Value.int .i64 base_2)]) (w := w) (rs := [.tmp 6]) (fn := Tryd.f30) (c := strconv_AppendUint.body) Tryd.func30 (by kernel_rfl) (by kernel_rfl) (Nat.le_of_ble_eq_true (by kernel_rfl)) (okC strconv_AppendUint.body (strconv_AppendUint.q1 Z Q) (by kernel_rfl)) (by rw [strconv_AppendUint.eq]; exact h)).mono fun e w' hR => ?_
  cases e with
  | returned v =>
    obtain ⟨va, vn, vc, rfl, hR⟩ := atL_e hR
    exact .inl ⟨va, vn, vc, rfl, hR⟩
  | panicked c => exact .inr ⟨c, rfl, hR⟩
  | outgrown => exact hR.elim
theorem strconv_AppendUint.vc0 (Q : Option Addr → Nat → Nat → PT) (dst_0 : Option Addr) (dst_0n dst_0c : Nat) (i_1 : Int) (base_2 : Int) (w : World) (h : strconv_AppendUint.F Z0 Q dst_0 dst_0n dst_0c i_1 base_2 w) : Calls Tryd.prog 30 ⟨[(Value.slice dst_0 dst_0n dst_0c), (Value.int .u64 i_1), (Value.int .i64 base_2)]⟩ w fun e w' => (∃ (r0 : Option Addr) (r0n r0c : Nat), e = .returned (.slice r0 r0n r0c) ∧ Q r0 r0n r0c w') :=
  (strconv_AppendUint.vc Z0 Q dst_0 dst_0n dst_0c i_1 base_2 w h).mono fun _ _ hR => hR.elim id fun ⟨_, _, hz⟩ => hz.elim
theorem strconv_AppendUint.cal {Z : List PanicEntry → PT} {Q : Option Addr → Nat → Nat → PT} {dst_0 : Option Addr} {dst_0n dst_0c : Nat} {i_1 : Int} {base_2 : Int} {w : World} (h : strconv_AppendUint.F Z Q dst_0 dst_0n dst_0c i_1 base_2 w) : Go.Proofs.YtchhffabpgebmaaDoor.cal Tryd.prog Z 30 [(Value.slice dst_0 dst_0n dst_0c), (Value.int .u64 i_1), (Value.int .i64 base_2)] (isL fun r0 r0n r0c => Q r0 r0n r0c) w := by
  refine (strconv_AppendUint.vc Z Q dst_0 dst_0n dst_0c i_1 base_2 w h).mono fun e w' hR => ?_
  rcases hR with ⟨r0, r0n, r0c, rfl, h⟩ | ⟨c, rfl, h⟩
  · show (isL fun r0 r0n r0c => Q r0 r0n r0c) (.slice r0 r0n r0c) w'
    exact ⟨_, _, _, rfl, h⟩
  · exact h

/-! ### milepost/head.Text: function 24 -/
noncomputable def head_Text.body : Code := bodyC Tryd.f24
noncomputable def head_Text.c1 : Code := sq1 head_Text.body
noncomputable def head_Text.c2 : Code := sq1 (sq2 head_Text.body)
noncomputable def head_Text.c3 : Code := sq2 (sq2 head_Text.body)
theorem head_Text.q4 : head_Text.body = .seq head_Text.c1 (.seq head_Text.c2 head_Text.c3) := by kernel_rfl
noncomputable def head_Text.c5 : Code := sq1 head_Text.c3
noncomputable def head_Text.c6 : Code := sq2 head_Text.c3
theorem head_Text.q7 : head_Text.c3 = .seq head_Text.c5 head_Text.c6 := by kernel_rfl
def head_Text.s8 (Z : List PanicEntry → PT) (Q : ByteArray → PT) (h_1 : Addr) (b_3 : Option Addr) (b_3n b_3c : Nat) : PT :=
  (cnd ((0 : Int) ≤ 12 ∧ 12 < ((13 : Nat) : Int)) (ldI .u8 (h_1.add ((12 : Int).toNat * 1)) fun v3 => (cal Tryd.prog Z 30 [(Value.slice b_3 b_3n b_3c), (Value.int .u64 (IntKind.wrap .u64 v3)), (Value.int .i64 10)] (isL fun v4 v4n v4c => (runS Tryd.prog (convert 53 9 (Value.slice v4 v4n v4c)) fun v5 => (Q v5))))))
def head_Text.q9 (Z : List PanicEntry → PT) (Q : ByteArray → PT) : QF := bodyQ Tryd.prog [.tmp 2] (fun v => atS v fun va => Q va)
theorem head_Text.s8_eq (Z : List PanicEntry → PT) (Q : ByteArray → PT) (ρ : Fr) (h_1 : Addr) (b_3 : Option Addr) (b_3n b_3c : Nat) : comp Tryd.prog Z head_Text.c6 (head_Text.q9 Z Q) (puts ρ [(1, (Value.pointer (some h_1))), (3, (Value.slice b_3 b_3n b_3c))]) = head_Text.s8 Z Q h_1 b_3 b_3n b_3c := by kernel_rfl
def head_Text.j10 (Z : List PanicEntry → PT) (Q : ByteArray → PT) : Fr → PT := (fun ρ => atA (ρ 1) fun h_1 => atL (ρ 3) fun b_3 b_3n b_3c => (head_Text.s8 Z Q h_1 b_3 b_3n b_3c))
theorem head_Text.s8_ok (Z : List PanicEntry → PT) (Q : ByteArray → PT) : Ok Tryd.prog Tryd.f24.ntmps Z head_Text.c6 (head_Text.q9 Z Q) (head_Text.j10 Z Q) := by
  intro E he ρ w a hr h
  obtain ⟨h_1, e1, h⟩ := atA_e h
  obtain ⟨b_3, b_3n, b_3c, e3, h⟩ := atL_e h
  exact ok_at [(1, (Value.pointer (some h_1))), (3, (Value.slice b_3 b_3n b_3c))] (okC head_Text.c6 (head_Text.q9 Z Q) (by kernel_rfl)) (puts_cons e1 (puts_cons e3 (fun p hp => puts_nil hp))) (head_Text.s8_eq Z Q ρ h_1 b_3 b_3n b_3c) he hr h
noncomputable def head_Text.c11 : Code := sq1 head_Text.c5
noncomputable def head_Text.c12 : Code := sq2 head_Text.c5
theorem head_Text.q13 : head_Text.c5 = .seq head_Text.c11 head_Text.c12 := by kernel_rfl
noncomputable def head_Text.c14 : Code := blk head_Text.c12
theorem head_Text.q15 : head_Text.c12 = .block 0 head_Text.c14 := by kernel_rfl
noncomputable def head_Text.c16 : Code := lop head_Text.c14
theorem head_Text.q17 : head_Text.c14 = .loop head_Text.c16 := by kernel_rfl
def head_Text.q19 (Z : List PanicEntry → PT) (Q : ByteArray → PT) : QF := thenK (head_Text.j10 Z Q) (head_Text.q9 Z Q)
def head_Text.q20 (Z : List PanicEntry → PT) (Q : ByteArray → PT) : QF := inBl 0 (head_Text.q19 Z Q)
noncomputable def head_Text.c21 : Code := sq1 head_Text.c16
noncomputable def head_Text.c22 : Code := sq1 (sq2 head_Text.c16)
noncomputable def head_Text.c23 : Code := sq2 (sq2 head_Text.c16)
theorem head_Text.q24 : head_Text.c16 = .seq head_Text.c21 (.seq head_Text.c22 head_Text.c23) := by kernel_rfl
noncomputable def head_Text.c25 : Code := blk head_Text.c23
theorem head_Text.q26 : head_Text.c23 = .block 1 head_Text.c25 := by kernel_rfl
noncomputable def head_Text.c27 : Code := sq1 head_Text.c25
noncomputable def head_Text.c28 : Code := sq1 (sq2 head_Text.c25)
noncomputable def head_Text.c29 : Code := sq1 (sq2 (sq2 head_Text.c25))
noncomputable def head_Text.c30 : Code := sq1 (sq2 (sq2 (sq2 head_Text.c25)))
noncomputable def head_Text.c31 : Code := sq2 (sq2 (sq2 (sq2 head_Text.c25)))
theorem head_Text.q32 : head_Text.c25 = .seq head_Text.c27 (.seq head_Text.c28 (.seq head_Text.c29 (.seq head_Text.c30 head_Text.c31))) := by kernel_rfl
def head_Text.s33 (Z : List PanicEntry → PT) (Q : ByteArray → PT) (X1 : Addr → Option Addr → Nat → Nat → Option Addr → PT) (h_1 : Addr) (b_3 : Option Addr) (b_3n b_3c : Nat) (k_4 : Int) (t_8 : Option Addr) (t_29 : Bool) : PT :=
  (pif t_29 (ldN 13 h_1 fun v74 => (cnd ((4 : Int) ≠ 0) (cal Tryd.prog Z 11 [(Value.agg ⟨v74⟩), (Value.int .i64 (IntKind.wrap .i64 ((2 : Int) + (IntKind.wrap .i64 (Int.tdiv k_4 4)))))] (isT2 fun t75 t76 => (isI .u32 fun v77 => ((isI .i64 fun v78 => (cal Tryd.prog Z 30 [(Value.slice b_3 b_3n b_3c), (Value.int .u64 (IntKind.wrap .u64 v77)), (Value.int .i64 10)] (isL fun v79 v79n v79c => (cnd ((4 : Int) ≠ 0) (ixT ⟨#[62, 47]⟩ (IntKind.wrap .i64 (Int.tdiv k_4 4)) fun v80 => (newC 5 [(Value.int .u8 ((v80.toNat : Nat) : Int))] fun v81 => (runL Tryd.prog (bi .append #[53, 53] 53 [false, false] [(Value.slice v79 v79n v79c), (Value.slice (some v81) 1 1)]) fun v82 v82n v82c => (X1 h_1 v82 v82n v82c t_8)))))))) t76)) t75)))) (X1 h_1 b_3 b_3n b_3c t_8))
def head_Text.j34 (Z : List PanicEntry → PT) (Q : ByteArray → PT) (X1 : Addr → Option Addr → Nat → Nat → Option Addr → PT) : Fr → PT := (fun ρ => atA (ρ 1) fun h_1 => atL (ρ 3) fun b_3 b_3n b_3c => atP (ρ 8) fun t_8 => (X1 h_1 b_3 b_3n b_3c t_8))
def head_Text.q35 (Z : List PanicEntry → PT) (Q : ByteArray → PT) (X1 : Addr → Option Addr → Nat → Nat → Option Addr → PT) : QF := thenK (head_Text.j34 Z Q X1) (head_Text.q20 Z Q)
def head_Text.q36 (Z : List PanicEntry → PT) (Q : ByteArray → PT) (X1 : Addr → Option Addr → Nat → Nat → Option Addr → PT) : QF := inBl 1 (head_Text.q35 Z Q X1)
theorem head_Text.s33_eq (Z : List PanicEntry → PT) (Q : ByteArray → PT) (X1 : Addr → Option Addr → Nat → Nat → Option Addr → PT) (ρ : Fr) (h_1 : Addr) (b_3 : Option Addr) (b_3n b_3c : Nat) (k_4 : Int) (t_8 : Option Addr) (t_29 : Bool) : comp Tryd.prog Z head_Text.c31 (head_Text.q36 Z Q X1) (puts ρ [(1, (Value.pointer (some h_1))), (3, (Value.slice b_3 b_3n b_3c)), (4, (Value.int .i64 k_4)), (8, (Value.pointer t_8)), (29, (Value.bool t_29))]) = head_Text.s33 Z Q X1 h_1 b_3 b_3n b_3c k_4 t_8 t_29 := by kernel_rfl
def head_Text.j37 (Z : List PanicEntry → PT) (Q : ByteArray → PT) (X1 : Addr → Option Addr → Nat → Nat → Option Addr → PT) : Fr → PT := (fun ρ => atA (ρ 1) fun h_1 => atL (ρ 3) fun b_3 b_3n b_3c => atI .i64 (ρ 4) fun k_4 => atP (ρ 8) fun t_8 => atB (ρ 29) fun t_29 => (head_Text.s33 Z Q X1 h_1 b_3 b_3n b_3c k_4 t_8 t_29))
theorem head_Text.s33_ok (Z : List PanicEntry → PT) (Q : ByteArray → PT) (X1 : Addr → Option Addr → Nat → Nat → Option Addr → PT) : Ok Tryd.prog Tryd.f24.ntmps Z head_Text.c31 (head_Text.q36 Z Q X1) (head_Text.j37 Z Q X1) := by
  intro E he ρ w a hr h
  obtain ⟨h_1, e1, h⟩ := atA_e h
  obtain ⟨b_3, b_3n, b_3c, e3, h⟩ := atL_e h
  obtain ⟨k_4, e4, h⟩ := atI_e h
  obtain ⟨t_8, e8, h⟩ := atP_e h
  obtain ⟨t_29, e29, h⟩ := atB_e h
  exact ok_at [(1, (Value.pointer (some h_1))), (3, (Value.slice b_3 b_3n b_3c)), (4, (Value.int .i64 k_4)), (8, (Value.pointer t_8)), (29, (Value.bool t_29))] (okC head_Text.c31 (head_Text.q36 Z Q X1) (by kernel_rfl)) (puts_cons e1 (puts_cons e3 (puts_cons e4 (puts_cons e8 (puts_cons e29 (fun p hp => puts_nil hp)))))) (head_Text.s33_eq Z Q X1 ρ h_1 b_3 b_3n b_3c k_4 t_8 t_29) he hr h
def head_Text.s38 (Z : List PanicEntry → PT) (Q : ByteArray → PT) (X1 : Addr → Option Addr → Nat → Nat → Option Addr → PT) (h_1 : Addr) (b_3 : Option Addr) (b_3n b_3c : Nat) (t_8 : Option Addr) (t_9i t_9r : Int) : PT :=
  (cnd ((0 : Int) ≤ t_9i ∧ t_9i < ((13 : Nat) : Int)) (ldI .u8 (h_1.add (t_9i.toNat * 1)) fun v83 => (cal Tryd.prog Z 30 [(Value.slice b_3 b_3n b_3c), (Value.int .u64 (IntKind.wrap .u64 v83)), (Value.int .i64 10)] (isL fun v84 v84n v84c => (newC 5 [(Value.int .u8 (IntKind.wrap .u8 t_9r))] fun v85 => (runL Tryd.prog (bi .append #[53, 53] 53 [false, false] [(Value.slice v84 v84n v84c), (Value.slice (some v85) 1 1)]) fun v86 v86n v86c => (pif (t_9i == 3) (head_Text.s33 Z Q X1 h_1 v86 v86n v86c t_9i t_8 true) (head_Text.s33 Z Q X1 h_1 v86 v86n v86c t_9i t_8 (t_9i == 7)))))))))
theorem head_Text.s38_eq (Z : List PanicEntry → PT) (Q : ByteArray → PT) (X1 : Addr → Option Addr → Nat → Nat → Option Addr → PT) (ρ : Fr) (h_1 : Addr) (b_3 : Option Addr) (b_3n b_3c : Nat) (t_8 : Option Addr) (t_9i t_9r : Int) : (comp Tryd.prog Z head_Text.c27 (thenK (comp Tryd.prog Z head_Text.c28 (thenK (comp Tryd.prog Z head_Text.c29 (thenK (comp Tryd.prog Z head_Text.c30 (thenK (head_Text.j37 Z Q X1) (head_Text.q36 Z Q X1))) (head_Text.q36 Z Q X1))) (head_Text.q36 Z Q X1))) (head_Text.q36 Z Q X1))) (puts ρ [(1, (Value.pointer (some h_1))), (3, (Value.slice b_3 b_3n b_3c)), (8, (Value.pointer t_8)), (9, (Value.tuple #[(Value.bool true), (Value.int .i64 t_9i), (Value.int .i32 t_9r)]))]) = head_Text.s38 Z Q X1 h_1 b_3 b_3n b_3c t_8 t_9i t_9r := by kernel_rfl
def head_Text.j39 (Z : List PanicEntry → PT) (Q : ByteArray → PT) (X1 : Addr → Option Addr → Nat → Nat → Option Addr → PT) : Fr → PT := (fun ρ => atA (ρ 1) fun h_1 => atL (ρ 3) fun b_3 b_3n b_3c => atP (ρ 8) fun t_8 => atNX (ρ 9) fun t_9i t_9r => (head_Text.s38 Z Q X1 h_1 b_3 b_3n b_3c t_8 t_9i t_9r))
theorem head_Text.s38_ok (Z : List PanicEntry → PT) (Q : ByteArray → PT) (X1 : Addr → Option Addr → Nat → Nat → Option Addr → PT) : Ok Tryd.prog Tryd.f24.ntmps Z head_Text.c25 (head_Text.q36 Z Q X1) (head_Text.j39 Z Q X1) := by
  intro E he ρ w a hr h
  rw [head_Text.q32] at he ⊢
  obtain ⟨h_1, e1, h⟩ := atA_e h
  obtain ⟨b_3, b_3n, b_3c, e3, h⟩ := atL_e h
  obtain ⟨t_8, e8, h⟩ := atP_e h
  obtain ⟨t_9i, t_9r, e9, h⟩ := atNX_e h
  exact ok_at [(1, (Value.pointer (some h_1))), (3, (Value.slice b_3 b_3n b_3c)), (8, (Value.pointer t_8)), (9, (Value.tuple #[(Value.bool true), (Value.int .i64 t_9i), (Value.int .i32 t_9r)]))] (ok_seq (okC head_Text.c27 _ (by kernel_rfl)) (ok_seq (okC head_Text.c28 _ (by kernel_rfl)) (ok_seq (okC head_Text.c29 _ (by kernel_rfl)) (ok_seq (okC head_Text.c30 _ (by kernel_rfl)) (head_Text.s33_ok Z Q X1))))) (puts_cons e1 (puts_cons e3 (puts_cons e8 (puts_cons e9 (fun p hp => puts_nil hp))))) (head_Text.s38_eq Z Q X1 ρ h_1 b_3 b_3n b_3c t_8 t_9i t_9r) he hr h
theorem head_Text.o40 (Z : List PanicEntry → PT) (Q : ByteArray → PT) (X1 : Addr → Option Addr → Nat → Nat → Option Addr → PT) : Ok Tryd.prog Tryd.f24.ntmps Z head_Text.c23 (head_Text.q35 Z Q X1) (head_Text.j39 Z Q X1) := by
  rw [head_Text.q26]; exact ok_block (head_Text.s38_ok Z Q X1)
def head_Text.s41 (Z : List PanicEntry → PT) (Q : ByteArray → PT) (X1 : Addr → Option Addr → Nat → Nat → Option Addr → PT) (h_1 : Addr) (b_3 : Option Addr) (b_3n b_3c : Nat) (t_8 : Option Addr) : PT :=
  (nextX Tryd.prog (Instr.next (Value.pointer t_8) true 0) (head_Text.s8 Z Q h_1 b_3 b_3n b_3c) fun t87 t88 => (isI .i64 fun v89 => ((isI .i32 fun v90 => (head_Text.s38 Z Q X1 h_1 b_3 b_3n b_3c t_8 v89 v90)) t88)) t87)
theorem head_Text.s41_eq (Z : List PanicEntry → PT) (Q : ByteArray → PT) (X1 : Addr → Option Addr → Nat → Nat → Option Addr → PT) (ρ : Fr) (h_1 : Addr) (b_3 : Option Addr) (b_3n b_3c : Nat) (t_8 : Option Addr) : (comp Tryd.prog Z head_Text.c21 (thenK (comp Tryd.prog Z head_Text.c22 (thenK (head_Text.j39 Z Q X1) (head_Text.q35 Z Q X1))) (head_Text.q35 Z Q X1))) (puts ρ [(1, (Value.pointer (some h_1))), (3, (Value.slice b_3 b_3n b_3c)), (8, (Value.pointer t_8))]) = head_Text.s41 Z Q X1 h_1 b_3 b_3n b_3c t_8 := by kernel_rfl
def head_Text.j42 (Z : List PanicEntry → PT) (Q : ByteArray → PT) (X1 : Addr → Option Addr → Nat → Nat → Option Addr → PT) : Fr → PT := (fun ρ => atA (ρ 1) fun h_1 => atL (ρ 3) fun b_3 b_3n b_3c => atP (ρ 8) fun t_8 => (head_Text.s41 Z Q X1 h_1 b_3 b_3n b_3c t_8))
theorem head_Text.s41_ok (Z : List PanicEntry → PT) (Q : ByteArray → PT) (X1 : Addr → Option Addr → Nat → Nat → Option Addr → PT) : Ok Tryd.prog Tryd.f24.ntmps Z head_Text.c16 (head_Text.q35 Z Q X1) (head_Text.j42 Z Q X1) := by
  intro E he ρ w a hr h
  rw [head_Text.q24] at he ⊢
  obtain ⟨h_1, e1, h⟩ := atA_e h
  obtain ⟨b_3, b_3n, b_3c, e3, h⟩ := atL_e h
  obtain ⟨t_8, e8, h⟩ := atP_e h
  exact ok_at [(1, (Value.pointer (some h_1))), (3, (Value.slice b_3 b_3n b_3c)), (8, (Value.pointer t_8))] (ok_seq (okC head_Text.c21 _ (by kernel_rfl)) (ok_seq (okC head_Text.c22 _ (by kernel_rfl)) (head_Text.o40 Z Q X1))) (puts_cons e1 (puts_cons e3 (puts_cons e8 (fun p hp => puts_nil hp)))) (head_Text.s41_eq Z Q X1 ρ h_1 b_3 b_3n b_3c t_8) he hr h
def head_Text.l18 (Z : List PanicEntry → PT) (Q : ByteArray → PT) : Nat → Addr → Option Addr → Nat → Nat → Option Addr → PT
  | 0, _, _, _, _, _ => bad
  | k + 1, h_1, b_3, b_3n, b_3c, t_8 => (head_Text.s41 Z Q (head_Text.l18 Z Q k) h_1 b_3 b_3n b_3c t_8)
def head_Text.j43 (Z : List PanicEntry → PT) (Q : ByteArray → PT) (k : Nat) : Fr → PT := (fun ρ => atA (ρ 1) fun h_1 => atL (ρ 3) fun b_3 b_3n b_3c => atP (ρ 8) fun t_8 => (head_Text.l18 Z Q k h_1 b_3 b_3n b_3c t_8))
def head_Text.j44 (Z : List PanicEntry → PT) (Q : ByteArray → PT) : Fr → PT := (fun ρ => atA (ρ 1) fun h_1 => atL (ρ 3) fun b_3 b_3n b_3c => atP (ρ 8) fun t_8 => (exK fun k => head_Text.l18 Z Q k h_1 b_3 b_3n b_3c t_8))
theorem head_Text.o45 (Z : List PanicEntry → PT) (Q : ByteArray → PT) : Ok Tryd.prog Tryd.f24.ntmps Z head_Text.c14 (head_Text.q20 Z Q) (head_Text.j44 Z Q) := by
  rw [head_Text.q17]
  refine Ok.imp (ok_loop (J := head_Text.j43 Z Q) ?_ ?_) ?_
  · intro ρ w h
    obtain ⟨h_1, e1, h⟩ := atA_e h
    obtain ⟨b_3, b_3n, b_3c, e3, h⟩ := atL_e h
    obtain ⟨t_8, e8, h⟩ := atP_e h
    exact h
  · intro k
    refine Ok.imp (head_Text.s41_ok Z Q (head_Text.l18 Z Q k)) fun ρ w h => ?_
    obtain ⟨h_1, e1, h⟩ := atA_e h
    obtain ⟨b_3, b_3n, b_3c, e3, h⟩ := atL_e h
    obtain ⟨t_8, e8, h⟩ := atP_e h
    show (head_Text.j42 Z Q (head_Text.l18 Z Q k)) ρ w
    simp only [head_Text.j42]
    rw [e1]
    rw [e3]
    rw [e8]
    exact h
  · intro ρ w h
    obtain ⟨h_1, e1, h⟩ := atA_e h
    obtain ⟨b_3, b_3n, b_3c, e3, h⟩ := atL_e h
    obtain ⟨t_8, e8, h⟩ := atP_e h
    obtain ⟨k, h⟩ := h
    refine ⟨k, ?_⟩
    show (atA (ρ 1) fun h_1 => atL (ρ 3) fun b_3 b_3n b_3c => atP (ρ 8) fun t_8 => (head_Text.l18 Z Q k h_1 b_3 b_3n b_3c t_8)) w
    rw [e1]
    rw [e3]
    rw [e8]
    exact h
theorem head_Text.o46 (Z : List PanicEntry → PT) (Q : ByteArray → PT) : Ok Tryd.prog Tryd.f24.ntmps Z head_Text.c12 (head_Text.q19 Z Q) (head_Text.j44 Z Q) := by
  rw [head_Text.q15]; exact ok_block (head_Text.o45 Z Q)
def head_Text.s47 (Z : List PanicEntry → PT) (Q : ByteArray → PT) (h_1 : Addr) (b_3 : Option Addr) (b_3n b_3c : Nat) : PT :=
  (runP Tryd.prog (Instr.range 9 (Value.string ⟨#[46, 46, 46, 58, 46, 46, 46, 58]⟩)) fun v91 => (exK fun k => head_Text.l18 Z Q k h_1 b_3 b_3n b_3c v91))
theorem head_Text.s47_eq (Z : List PanicEntry → PT) (Q : ByteArray → PT) (ρ : Fr) (h_1 : Addr) (b_3 : Option Addr) (b_3n b_3c : Nat) : (comp Tryd.prog Z head_Text.c11 (thenK (head_Text.j44 Z Q) (head_Text.q19 Z Q))) (puts ρ [(1, (Value.pointer (some h_1))), (3, (Value.slice b_3 b_3n b_3c))]) = head_Text.s47 Z Q h_1 b_3 b_3n b_3c := by kernel_rfl
def head_Text.j48 (Z : List PanicEntry → PT) (Q : ByteArray → PT) : Fr → PT := (fun ρ => atA (ρ 1) fun h_1 => atL (ρ 3) fun b_3 b_3n b_3c => (head_Text.s47 Z Q h_1 b_3 b_3n b_3c))
theorem head_Text.s47_ok (Z : List PanicEntry → PT) (Q : ByteArray → PT) : Ok Tryd.prog Tryd.f24.ntmps Z head_Text.c5 (head_Text.q19 Z Q) (head_Text.j48 Z Q) := by
  intro E he ρ w a hr h
  rw [head_Text.q13] at he ⊢
  obtain ⟨h_1, e1, h⟩ := atA_e h
  obtain ⟨b_3, b_3n, b_3c, e3, h⟩ := atL_e h
  exact ok_at [(1, (Value.pointer (some h_1))), (3, (Value.slice b_3 b_3n b_3c))] (ok_seq (okC head_Text.c11 _ (by kernel_rfl)) (head_Text.o46 Z Q)) (puts_cons e1 (puts_cons e3 (fun p hp => puts_nil hp))) (head_Text.s47_eq Z Q ρ h_1 b_3 b_3n b_3c) he hr h
theorem head_Text.o49 (Z : List PanicEntry → PT) (Q : ByteArray → PT) : Ok Tryd.prog Tryd.f24.ntmps Z head_Text.c3 (head_Text.q9 Z Q) (head_Text.j48 Z Q) := by
  rw [head_Text.q7]; exact ok_seq (head_Text.s47_ok Z Q) (head_Text.s8_ok Z Q)
def head_Text.s50 (Z : List PanicEntry → PT) (Q : ByteArray → PT) (h_0 : List Value) : PT :=
  (newC 26 h_0 fun h92 => (head_Text.s47 Z Q h92 none 0 0))
theorem head_Text.s50_eq (Z : List PanicEntry → PT) (Q : ByteArray → PT) (ρ : Fr) (h_0 : List Value) : (comp Tryd.prog Z head_Text.c1 (thenK (comp Tryd.prog Z head_Text.c2 (thenK (head_Text.j48 Z Q) (head_Text.q9 Z Q))) (head_Text.q9 Z Q))) (puts ρ [(0, (Value.agg ⟨h_0⟩))]) = head_Text.s50 Z Q h_0 := by kernel_rfl
def head_Text.j51 (Z : List PanicEntry → PT) (Q : ByteArray → PT) : Fr → PT := (fun ρ => atN (ρ 0) fun h_0 => (head_Text.s50 Z Q h_0))
theorem head_Text.s50_ok (Z : List PanicEntry → PT) (Q : ByteArray → PT) : Ok Tryd.prog Tryd.f24.ntmps Z head_Text.body (head_Text.q9 Z Q) (head_Text.j51 Z Q) := by
  intro E he ρ w a hr h
  rw [head_Text.q4] at he ⊢
  obtain ⟨h_0, e0, h⟩ := atN_e h
  exact ok_at [(0, (Value.agg ⟨h_0⟩))] (ok_seq (okC head_Text.c1 _ (by kernel_rfl)) (ok_seq (okC head_Text.c2 _ (by kernel_rfl)) (head_Text.o49 Z Q))) (puts_cons e0 (fun p hp => puts_nil hp)) (head_Text.s50_eq Z Q ρ h_0) he hr h
def head_Text.F (Z : List PanicEntry → PT) (Q : ByteArray → PT) (h_0 : List Value) : PT :=
  (head_Text.s50 Z Q h_0)
theorem head_Text.vc (Z : List PanicEntry → PT) (Q : ByteArray → PT) (h_0 : List Value) (w : World) (h : head_Text.F Z Q h_0 w) : Calls Tryd.prog 24 ⟨[(Value.agg ⟨h_0⟩)]⟩ w fun e w' => (∃ (r0 : ByteArray), e = .returned (.string r0) ∧ Q r0 w') ∨ ∃ c, e = .panicked c ∧ Z c w' := by
  refine (calls_of_ok (args := [(Value.agg ⟨h_0⟩)]) (w := w) (rs := [.tmp 2]) (fn := Tryd.f24) (c := head_Text.body) Tryd.func24 (by kernel_rfl) (by kernel_rfl) (Nat.le_of_ble_eq_true (by kernel_rfl)) (head_Text.s50_ok Z Q) (h)).mono fun e w' hR => ?_
  cases e with
  | returned v =>
    obtain ⟨va, rfl, hR⟩ := atS_e hR
    exact .inl ⟨va, rfl, hR⟩
  | panicked c => exact .inr ⟨c, rfl, hR⟩
  | outgrown => exact hR.elim
theorem head_Text.vc0 (Q : ByteArray → PT) (h_0 : List Value) (w : World) (h : head_Text.F Z0 Q h_0 w) : Calls Tryd.prog 24 ⟨[(Value.agg ⟨h_0⟩)]⟩ w fun e w' => (∃ (r0 : ByteArray), e = .returned (.string r0) ∧ Q r0 w') :=
  (head_Text.vc Z0 Q h_0 w h).mono fun _ _ hR => hR.elim id fun ⟨_, _, hz⟩ => hz.elim
theorem head_Text.cal {Z : List PanicEntry → PT} {Q : ByteArray → PT} {h_0 : List Value} {w : World} (h : head_Text.F Z Q h_0 w) : Go.Proofs.YtchhffabpgebmaaDoor.cal Tryd.prog Z 24 [(Value.agg ⟨h_0⟩)] (isS fun r0 => Q r0) w := by
  refine (head_Text.vc Z Q h_0 w h).mono fun e w' hR => ?_
  rcases hR with ⟨r0, rfl, h⟩ | ⟨c, rfl, h⟩
  · show (isS fun r0 => Q r0) (.string r0) w'
    exact ⟨_, rfl, h⟩
  · exact h

/-! ### milepost/head.Parse: function 25 -/
noncomputable def head_Parse.body : Code := bodyC Tryd.f25
noncomputable def head_Parse.c1 : Code := sq1 head_Parse.body
noncomputable def head_Parse.c2 : Code := sq1 (sq2 head_Parse.body)
noncomputable def head_Parse.c3 : Code := sq1 (sq2 (sq2 head_Parse.body))
noncomputable def head_Parse.c4 : Code := sq2 (sq2 (sq2 head_Parse.body))
theorem head_Parse.q5 : head_Parse.body = .seq head_Parse.c1 (.seq head_Parse.c2 (.seq head_Parse.c3 head_Parse.c4)) := by kernel_rfl
noncomputable def head_Parse.c6 : Code := sq1 head_Parse.c4
noncomputable def head_Parse.c7 : Code := sq2 head_Parse.c4
theorem head_Parse.q8 : head_Parse.c4 = .seq head_Parse.c6 head_Parse.c7 := by kernel_rfl
def head_Parse.s9 (Z : List PanicEntry → PT) (Q : List Value → Int → PT) (s_0 : ByteArray) (t_2 : Addr) (n_4 : Addr) : PT :=
  (cnd ((0 : Int) ≤ 0 ∧ 0 < ((11 : Nat) : Int)) (ldI .u64 (n_4.add ((0 : Int).toNat * 1)) fun v36 => (cnd ((0 : Int) ≤ 24) (cnd ((0 : Int) ≤ 1 ∧ 1 < ((11 : Nat) : Int)) (ldI .u64 (n_4.add ((1 : Int).toNat * 1)) fun v37 => (cnd ((0 : Int) ≤ 16) (cnd ((0 : Int) ≤ 2 ∧ 2 < ((11 : Nat) : Int)) (ldI .u64 (n_4.add ((2 : Int).toNat * 1)) fun v38 => (cnd ((0 : Int) ≤ 8) (cnd ((0 : Int) ≤ 3 ∧ 3 < ((11 : Nat) : Int)) (ldI .u64 (n_4.add ((3 : Int).toNat * 1)) fun v39 => (cnd ((0 : Int) ≤ 5 ∧ 5 < ((11 : Nat) : Int)) (ldI .u64 (n_4.add ((5 : Int).toNat * 1)) fun v40 => (cnd ((0 : Int) ≤ 24) (cnd ((0 : Int) ≤ 6 ∧ 6 < ((11 : Nat) : Int)) (ldI .u64 (n_4.add ((6 : Int).toNat * 1)) fun v41 => (cnd ((0 : Int) ≤ 16) (cnd ((0 : Int) ≤ 7 ∧ 7 < ((11 : Nat) : Int)) (ldI .u64 (n_4.add ((7 : Int).toNat * 1)) fun v42 => (cnd ((0 : Int) ≤ 8) (cnd ((0 : Int) ≤ 8 ∧ 8 < ((11 : Nat) : Int)) (ldI .u64 (n_4.add ((8 : Int).toNat * 1)) fun v43 => (cnd ((0 : Int) ≤ 4 ∧ 4 < ((11 : Nat) : Int)) (ldI .u64 (n_4.add ((4 : Int).toNat * 1)) fun v44 => (cnd ((0 : Int) ≤ 9 ∧ 9 < ((11 : Nat) : Int)) (ldI .u64 (n_4.add ((9 : Int).toNat * 1)) fun v45 => (cnd ((0 : Int) ≤ 10 ∧ 10 < ((11 : Nat) : Int)) (ldI .u64 (n_4.add ((10 : Int).toNat * 1)) fun v46 => (cal Tryd.prog Z 10 [(Value.int .u32 (IntKind.wrap .u32 (IntKind.wrap .u64 (BitVec.ofInt (IntKind.bits .u64) (IntKind.wrap .u64 (BitVec.ofInt (IntKind.bits .u64) (IntKind.wrap .u64 (BitVec.ofInt (IntKind.bits .u64) (IntKind.wrap .u64 (v36 * 2 ^ (min (24 : Int).toNat (IntKind.bits .u64)))) ||| BitVec.ofInt (IntKind.bits .u64) (IntKind.wrap .u64 (v37 * 2 ^ (min (16 : Int).toNat (IntKind.bits .u64))))).toNat) ||| BitVec.ofInt (IntKind.bits .u64) (IntKind.wrap .u64 (v38 * 2 ^ (min (8 : Int).toNat (IntKind.bits .u64))))).toNat) ||| BitVec.ofInt (IntKind.bits .u64) v39).toNat))), (Value.int .u32 (IntKind.wrap .u32 (IntKind.wrap .u64 (BitVec.ofInt (IntKind.bits .u64) (IntKind.wrap .u64 (BitVec.ofInt (IntKind.bits .u64) (IntKind.wrap .u64 (BitVec.ofInt (IntKind.bits .u64) (IntKind.wrap .u64 (v40 * 2 ^ (min (24 : Int).toNat (IntKind.bits .u64)))) ||| BitVec.ofInt (IntKind.bits .u64) (IntKind.wrap .u64 (v41 * 2 ^ (min (16 : Int).toNat (IntKind.bits .u64))))).toNat) ||| BitVec.ofInt (IntKind.bits .u64) (IntKind.wrap .u64 (v42 * 2 ^ (min (8 : Int).toNat (IntKind.bits .u64))))).toNat) ||| BitVec.ofInt (IntKind.bits .u64) v43).toNat))), (Value.int .u16 (IntKind.wrap .u16 v44)), (Value.int .u16 (IntKind.wrap .u16 v45)), (Value.int .u8 (IntKind.wrap .u8 v46))] (isN fun v47 => (newC 26 [(Value.int .u8 0), (Value.int .u8 0), (Value.int .u8 0), (Value.int .u8 0), (Value.int .u8 0), (Value.int .u8 0), (Value.int .u8 0), (Value.int .u8 0), (Value.int .u8 0), (Value.int .u8 0), (Value.int .u8 0), (Value.int .u8 0), (Value.int .u8 0)] fun h48 => (stN 13 h48 v47 (ldN 13 h48 fun v49 => (cal Tryd.prog Z 24 [(Value.agg ⟨v49⟩)] (isS fun v50 => (pif (!(v50.toList == s_0.toList)) (stN 13 t_2 [(Value.int .u8 0), (Value.int .u8 0), (Value.int .u8 0), (Value.int .u8 0), (Value.int .u8 0), (Value.int .u8 0), (Value.int .u8 0), (Value.int .u8 0), (Value.int .u8 0), (Value.int .u8 0), (Value.int .u8 0), (Value.int .u8 0), (Value.int .u8 0)] (ldN 13 t_2 fun v51 => (Q v51 12))) (ldN 13 h48 fun v52 => (stN 13 t_2 v52 (ldN 13 t_2 fun v53 => (Q v53 0))))))))))))))))))))))))))))))))))))))))
def head_Parse.q10 (Z : List PanicEntry → PT) (Q : List Value → Int → PT) : QF := bodyQ Tryd.prog [.cell 2 26, .tmp 3] (fun v => at2 v fun x y => atN x fun xa => atI .i64 y fun ya => Q xa ya)
theorem head_Parse.s9_eq (Z : List PanicEntry → PT) (Q : List Value → Int → PT) (ρ : Fr) (s_0 : ByteArray) (t_2 : Addr) (n_4 : Addr) : comp Tryd.prog Z head_Parse.c7 (head_Parse.q10 Z Q) (puts ρ [(0, (Value.string s_0)), (2, (Value.pointer (some t_2))), (4, (Value.pointer (some n_4)))]) = head_Parse.s9 Z Q s_0 t_2 n_4 := by kernel_rfl
def head_Parse.j11 (Z : List PanicEntry → PT) (Q : List Value → Int → PT) : Fr → PT := (fun ρ => atS (ρ 0) fun s_0 => atA (ρ 2) fun t_2 => atA (ρ 4) fun n_4 => (head_Parse.s9 Z Q s_0 t_2 n_4))
theorem head_Parse.s9_ok (Z : List PanicEntry → PT) (Q : List Value → Int → PT) : Ok Tryd.prog Tryd.f25.ntmps Z head_Parse.c7 (head_Parse.q10 Z Q) (head_Parse.j11 Z Q) := by
  intro E he ρ w a hr h
  obtain ⟨s_0, e0, h⟩ := atS_e h
  obtain ⟨t_2, e2, h⟩ := atA_e h
  obtain ⟨n_4, e4, h⟩ := atA_e h
  exact ok_at [(0, (Value.string s_0)), (2, (Value.pointer (some t_2))), (4, (Value.pointer (some n_4)))] (okC head_Parse.c7 (head_Parse.q10 Z Q) (by kernel_rfl)) (puts_cons e0 (puts_cons e2 (puts_cons e4 (fun p hp => puts_nil hp)))) (head_Parse.s9_eq Z Q ρ s_0 t_2 n_4) he hr h
noncomputable def head_Parse.c12 : Code := sq1 head_Parse.c6
noncomputable def head_Parse.c13 : Code := sq2 head_Parse.c6
theorem head_Parse.q14 : head_Parse.c6 = .seq head_Parse.c12 head_Parse.c13 := by kernel_rfl
noncomputable def head_Parse.c15 : Code := blk head_Parse.c13
theorem head_Parse.q16 : head_Parse.c13 = .block 0 head_Parse.c15 := by kernel_rfl
noncomputable def head_Parse.c17 : Code := lop head_Parse.c15
theorem head_Parse.q18 : head_Parse.c15 = .loop head_Parse.c17 := by kernel_rfl
def head_Parse.q20 (Z : List PanicEntry → PT) (Q : List Value → Int → PT) : QF := thenK (head_Parse.j11 Z Q) (head_Parse.q10 Z Q)
def head_Parse.q21 (Z : List PanicEntry → PT) (Q : List Value → Int → PT) : QF := inBl 0 (head_Parse.q20 Z Q)
noncomputable def head_Parse.c22 : Code := sq1 head_Parse.c17
noncomputable def head_Parse.c23 : Code := sq1 (sq2 head_Parse.c17)
noncomputable def head_Parse.c24 : Code := sq2 (sq2 head_Parse.c17)
theorem head_Parse.q25 : head_Parse.c17 = .seq head_Parse.c22 (.seq head_Parse.c23 head_Parse.c24) := by kernel_rfl
noncomputable def head_Parse.c26 : Code := blk head_Parse.c24
theorem head_Parse.q27 : head_Parse.c24 = .block 1 head_Parse.c26 := by kernel_rfl
noncomputable def head_Parse.c28 : Code := sq1 head_Parse.c26
noncomputable def head_Parse.c29 : Code := sq1 (sq2 head_Parse.c26)
noncomputable def head_Parse.c30 : Code := sq2 (sq2 head_Parse.c26)
theorem head_Parse.q31 : head_Parse.c26 = .seq head_Parse.c28 (.seq head_Parse.c29 head_Parse.c30) := by kernel_rfl
noncomputable def head_Parse.c32 : Code := sq1 head_Parse.c30
noncomputable def head_Parse.c33 : Code := sq2 head_Parse.c30
theorem head_Parse.q34 : head_Parse.c30 = .seq head_Parse.c32 head_Parse.c33 := by kernel_rfl
noncomputable def head_Parse.c35 : Code := sq1 head_Parse.c33
noncomputable def head_Parse.c36 : Code := sq2 head_Parse.c33
theorem head_Parse.q37 : head_Parse.c33 = .seq head_Parse.c35 head_Parse.c36 := by kernel_rfl
def head_Parse.s38 (Z : List PanicEntry → PT) (Q : List Value → Int → PT) (X1 : ByteArray → Addr → Addr → Int → Option Addr → PT) (s_0 : ByteArray) (t_2 : Addr) (n_4 : Addr) (at_5 : Int) (t_10 : Option Addr) : PT :=
  (X1 s_0 t_2 n_4 (IntKind.wrap .i64 (at_5 + 1)) t_10)
def head_Parse.j39 (Z : List PanicEntry → PT) (Q : List Value → Int → PT) (X1 : ByteArray → Addr → Addr → Int → Option Addr → PT) : Fr → PT := (fun ρ => atS (ρ 0) fun s_0 => atA (ρ 2) fun t_2 => atA (ρ 4) fun n_4 => atI .i64 (ρ 5) fun at_5 => atP (ρ 10) fun t_10 => (X1 s_0 t_2 n_4 at_5 t_10))
def head_Parse.q40 (Z : List PanicEntry → PT) (Q : List Value → Int → PT) (X1 : ByteArray → Addr → Addr → Int → Option Addr → PT) : QF := thenK (head_Parse.j39 Z Q X1) (head_Parse.q21 Z Q)
def head_Parse.q41 (Z : List PanicEntry → PT) (Q : List Value → Int → PT) (X1 : ByteArray → Addr → Addr → Int → Option Addr → PT) : QF := inBl 1 (head_Parse.q40 Z Q X1)
theorem head_Parse.s38_eq (Z : List PanicEntry → PT) (Q : List Value → Int → PT) (X1 : ByteArray → Addr → Addr → Int → Option Addr → PT) (ρ : Fr) (s_0 : ByteArray) (t_2 : Addr) (n_4 : Addr) (at_5 : Int) (t_10 : Option Addr) : comp Tryd.prog Z head_Parse.c36 (head_Parse.q41 Z Q X1) (puts ρ [(0, (Value.string s_0)), (2, (Value.pointer (some t_2))), (4, (Value.pointer (some n_4))), (5, (Value.int .i64 at_5)), (10, (Value.pointer t_10))]) = head_Parse.s38 Z Q X1 s_0 t_2 n_4 at_5 t_10 := by kernel_rfl
def head_Parse.j42 (Z : List PanicEntry → PT) (Q : List Value → Int → PT) (X1 : ByteArray → Addr → Addr → Int → Option Addr → PT) : Fr → PT := (fun ρ => atS (ρ 0) fun s_0 => atA (ρ 2) fun t_2 => atA (ρ 4) fun n_4 => atI .i64 (ρ 5) fun at_5 => atP (ρ 10) fun t_10 => (head_Parse.s38 Z Q X1 s_0 t_2 n_4 at_5 t_10))
theorem head_Parse.s38_ok (Z : List PanicEntry → PT) (Q : List Value → Int → PT) (X1 : ByteArray → Addr → Addr → Int → Option Addr → PT) : Ok Tryd.prog Tryd.f25.ntmps Z head_Parse.c36 (head_Parse.q41 Z Q X1) (head_Parse.j42 Z Q X1) := by
  intro E he ρ w a hr h
  obtain ⟨s_0, e0, h⟩ := atS_e h
  obtain ⟨t_2, e2, h⟩ := atA_e h
  obtain ⟨n_4, e4, h⟩ := atA_e h
  obtain ⟨at_5, e5, h⟩ := atI_e h
  obtain ⟨t_10, e10, h⟩ := atP_e h
  exact ok_at [(0, (Value.string s_0)), (2, (Value.pointer (some t_2))), (4, (Value.pointer (some n_4))), (5, (Value.int .i64 at_5)), (10, (Value.pointer t_10))] (okC head_Parse.c36 (head_Parse.q41 Z Q X1) (by kernel_rfl)) (puts_cons e0 (puts_cons e2 (puts_cons e4 (puts_cons e5 (puts_cons e10 (fun p hp => puts_nil hp)))))) (head_Parse.s38_eq Z Q X1 ρ s_0 t_2 n_4 at_5 t_10) he hr h
noncomputable def head_Parse.c43 : Code := sq1 head_Parse.c35
noncomputable def head_Parse.c44 : Code := sq2 head_Parse.c35
theorem head_Parse.q45 : head_Parse.c35 = .seq head_Parse.c43 head_Parse.c44 := by kernel_rfl
def head_Parse.s46 (Z : List PanicEntry → PT) (Q : List Value → Int → PT) (X1 : ByteArray → Addr → Addr → Int → Option Addr → PT) (s_0 : ByteArray) (t_2 : Addr) (n_4 : Addr) (at_5 : Int) (t_10 : Option Addr) (t_78 : Bool) : PT :=
  (pif t_78 (stN 13 t_2 [(Value.int .u8 0), (Value.int .u8 0), (Value.int .u8 0), (Value.int .u8 0), (Value.int .u8 0), (Value.int .u8 0), (Value.int .u8 0), (Value.int .u8 0), (Value.int .u8 0), (Value.int .u8 0), (Value.int .u8 0), (Value.int .u8 0), (Value.int .u8 0)] (ldN 13 t_2 fun v67 => (Q v67 12))) (head_Parse.s38 Z Q X1 s_0 t_2 n_4 at_5 t_10))
def head_Parse.q47 (Z : List PanicEntry → PT) (Q : List Value → Int → PT) (X1 : ByteArray → Addr → Addr → Int → Option Addr → PT) : QF := thenK (head_Parse.j42 Z Q X1) (head_Parse.q41 Z Q X1)
theorem head_Parse.s46_eq (Z : List PanicEntry → PT) (Q : List Value → Int → PT) (X1 : ByteArray → Addr → Addr → Int → Option Addr → PT) (ρ : Fr) (s_0 : ByteArray) (t_2 : Addr) (n_4 : Addr) (at_5 : Int) (t_10 : Option Addr) (t_78 : Bool) : comp Tryd.prog Z head_Parse.c44 (head_Parse.q47 Z Q X1) (puts ρ [(0, (Value.string s_0)), (2, (Value.pointer (some t_2))), (4, (Value.pointer (some n_4))), (5, (Value.int .i64 at_5)), (10, (Value.pointer t_10)), (78, (Value.bool t_78))]) = head_Parse.s46 Z Q X1 s_0 t_2 n_4 at_5 t_10 t_78 := by kernel_rfl
def head_Parse.j48 (Z : List PanicEntry → PT) (Q : List Value → Int → PT) (X1 : ByteArray → Addr → Addr → Int → Option Addr → PT) : Fr → PT := (fun ρ => atS (ρ 0) fun s_0 => atA (ρ 2) fun t_2 => atA (ρ 4) fun n_4 => atI .i64 (ρ 5) fun at_5 => atP (ρ 10) fun t_10 => atB (ρ 78) fun t_78 => (head_Parse.s46 Z Q X1 s_0 t_2 n_4 at_5 t_10 t_78))
theorem head_Parse.s46_ok (Z : List PanicEntry → PT) (Q : List Value → Int → PT) (X1 : ByteArray → Addr → Addr → Int → Option Addr → PT) : Ok Tryd.prog Tryd.f25.ntmps Z head_Parse.c44 (head_Parse.q47 Z Q X1) (head_Parse.j48 Z Q X1) := by
  intro E he ρ w a hr h
  obtain ⟨s_0, e0, h⟩ := atS_e h
  obtain ⟨t_2, e2, h⟩ := atA_e h
  obtain ⟨n_4, e4, h⟩ := atA_e h
  obtain ⟨at_5, e5, h⟩ := atI_e h
  obtain ⟨t_10, e10, h⟩ := atP_e h
  obtain ⟨t_78, e78, h⟩ := atB_e h
  exact ok_at [(0, (Value.string s_0)), (2, (Value.pointer (some t_2))), (4, (Value.pointer (some n_4))), (5, (Value.int .i64 at_5)), (10, (Value.pointer t_10)), (78, (Value.bool t_78))] (okC head_Parse.c44 (head_Parse.q47 Z Q X1) (by kernel_rfl)) (puts_cons e0 (puts_cons e2 (puts_cons e4 (puts_cons e5 (puts_cons e10 (puts_cons e78 (fun p hp => puts_nil hp))))))) (head_Parse.s46_eq Z Q X1 ρ s_0 t_2 n_4 at_5 t_10 t_78) he hr h
def head_Parse.s49 (Z : List PanicEntry → PT) (Q : List Value → Int → PT) (X1 : ByteArray → Addr → Addr → Int → Option Addr → PT) (s_0 : ByteArray) (t_2 : Addr) (n_4 : Addr) (at_5 : Int) (k_6 : Int) (end_7 : Int) (from_8 : Int) (t_10 : Option Addr) : PT :=
  (pif (at_5 == from_8) (head_Parse.s46 Z Q X1 s_0 t_2 n_4 at_5 t_10 true) (pif (decide (at_5 < ((s_0.size : Nat) : Int))) (ixT s_0 at_5 fun v68 => (pif (((v68.toNat : Nat) : Int) != (IntKind.wrap .u8 end_7)) (head_Parse.s46 Z Q X1 s_0 t_2 n_4 at_5 t_10 true) (pif (decide (k_6 < 10)) (head_Parse.s46 Z Q X1 s_0 t_2 n_4 at_5 t_10 (at_5 == ((s_0.size : Nat) : Int))) (head_Parse.s46 Z Q X1 s_0 t_2 n_4 at_5 t_10 false)))) (pif (decide (k_6 < 10)) (head_Parse.s46 Z Q X1 s_0 t_2 n_4 at_5 t_10 (at_5 == ((s_0.size : Nat) : Int))) (head_Parse.s46 Z Q X1 s_0 t_2 n_4 at_5 t_10 false))))
theorem head_Parse.s49_eq (Z : List PanicEntry → PT) (Q : List Value → Int → PT) (X1 : ByteArray → Addr → Addr → Int → Option Addr → PT) (ρ : Fr) (s_0 : ByteArray) (t_2 : Addr) (n_4 : Addr) (at_5 : Int) (k_6 : Int) (end_7 : Int) (from_8 : Int) (t_10 : Option Addr) : (comp Tryd.prog Z head_Parse.c43 (thenK (head_Parse.j48 Z Q X1) (head_Parse.q47 Z Q X1))) (puts ρ [(0, (Value.string s_0)), (2, (Value.pointer (some t_2))), (4, (Value.pointer (some n_4))), (5, (Value.int .i64 at_5)), (6, (Value.int .i64 k_6)), (7, (Value.int .i32 end_7)), (8, (Value.int .i64 from_8)), (10, (Value.pointer t_10))]) = head_Parse.s49 Z Q X1 s_0 t_2 n_4 at_5 k_6 end_7 from_8 t_10 := by kernel_rfl
def head_Parse.j50 (Z : List PanicEntry → PT) (Q : List Value → Int → PT) (X1 : ByteArray → Addr → Addr → Int → Option Addr → PT) : Fr → PT := (fun ρ => atS (ρ 0) fun s_0 => atA (ρ 2) fun t_2 => atA (ρ 4) fun n_4 => atI .i64 (ρ 5) fun at_5 => atI .i64 (ρ 6) fun k_6 => atI .i32 (ρ 7) fun end_7 => atI .i64 (ρ 8) fun from_8 => atP (ρ 10) fun t_10 => (head_Parse.s49 Z Q X1 s_0 t_2 n_4 at_5 k_6 end_7 from_8 t_10))
theorem head_Parse.s49_ok (Z : List PanicEntry → PT) (Q : List Value → Int → PT) (X1 : ByteArray → Addr → Addr → Int → Option Addr → PT) : Ok Tryd.prog Tryd.f25.ntmps Z head_Parse.c35 (head_Parse.q47 Z Q X1) (head_Parse.j50 Z Q X1) := by
  intro E he ρ w a hr h
  rw [head_Parse.q45] at he ⊢
  obtain ⟨s_0, e0, h⟩ := atS_e h
  obtain ⟨t_2, e2, h⟩ := atA_e h
  obtain ⟨n_4, e4, h⟩ := atA_e h
  obtain ⟨at_5, e5, h⟩ := atI_e h
  obtain ⟨k_6, e6, h⟩ := atI_e h
  obtain ⟨end_7, e7, h⟩ := atI_e h
  obtain ⟨from_8, e8, h⟩ := atI_e h
  obtain ⟨t_10, e10, h⟩ := atP_e h
  exact ok_at [(0, (Value.string s_0)), (2, (Value.pointer (some t_2))), (4, (Value.pointer (some n_4))), (5, (Value.int .i64 at_5)), (6, (Value.int .i64 k_6)), (7, (Value.int .i32 end_7)), (8, (Value.int .i64 from_8)), (10, (Value.pointer t_10))] (ok_seq (okC head_Parse.c43 _ (by kernel_rfl)) (head_Parse.s46_ok Z Q X1)) (puts_cons e0 (puts_cons e2 (puts_cons e4 (puts_cons e5 (puts_cons e6 (puts_cons e7 (puts_cons e8 (puts_cons e10 (fun p hp => puts_nil hp))))))))) (head_Parse.s49_eq Z Q X1 ρ s_0 t_2 n_4 at_5 k_6 end_7 from_8 t_10) he hr h
theorem head_Parse.o51 (Z : List PanicEntry → PT) (Q : List Value → Int → PT) (X1 : ByteArray → Addr → Addr → Int → Option Addr → PT) : Ok Tryd.prog Tryd.f25.ntmps Z head_Parse.c33 (head_Parse.q41 Z Q X1) (head_Parse.j50 Z Q X1) := by
  rw [head_Parse.q37]; exact ok_seq (head_Parse.s49_ok Z Q X1) (head_Parse.s38_ok Z Q X1)
noncomputable def head_Parse.c52 : Code := blk head_Parse.c32
theorem head_Parse.q53 : head_Parse.c32 = .block 2 head_Parse.c52 := by kernel_rfl
noncomputable def head_Parse.c54 : Code := lop head_Parse.c52
theorem head_Parse.q55 : head_Parse.c52 = .loop head_Parse.c54 := by kernel_rfl
def head_Parse.q57 (Z : List PanicEntry → PT) (Q : List Value → Int → PT) (X1 : ByteArray → Addr → Addr → Int → Option Addr → PT) : QF := thenK (head_Parse.j50 Z Q X1) (head_Parse.q41 Z Q X1)
def head_Parse.q58 (Z : List PanicEntry → PT) (Q : List Value → Int → PT) (X1 : ByteArray → Addr → Addr → Int → Option Addr → PT) : QF := inBl 2 (head_Parse.q57 Z Q X1)
def head_Parse.s59 (Z : List PanicEntry → PT) (Q : List Value → Int → PT) (X1 : ByteArray → Addr → Addr → Int → Option Addr → PT) (X2 : ByteArray → Addr → Addr → Int → Int → Int → Int → Option Addr → PT) (s_0 : ByteArray) (t_2 : Addr) (n_4 : Addr) (at_5 : Int) (k_6 : Int) (end_7 : Int) (from_8 : Int) (t_10 : Option Addr) : PT :=
  (pif (decide (at_5 < ((s_0.size : Nat) : Int))) (ixT s_0 at_5 fun v76 => (pif (decide (((v76.toNat : Nat) : Int) ≥ 48)) (ixT s_0 at_5 fun v77 => (pif (decide (((v77.toNat : Nat) : Int) ≤ 57)) (pif (decide ((IntKind.wrap .i64 (at_5 - from_8)) < 6)) (drawn fun S78 => (cnd ((0 : Int) ≤ k_6 ∧ k_6 < ((11 : Nat) : Int)) (hI S78 .u64 (n_4.add (k_6.toNat * 1)) fun v79 => (ixT s_0 at_5 fun v80 => (cnd ((0 : Int) ≤ k_6 ∧ k_6 < ((11 : Nat) : Int)) (st1 (n_4.add (k_6.toNat * 1)) (Value.int .u64 (IntKind.wrap .u64 ((IntKind.wrap .u64 (v79 * 10)) + (IntKind.wrap .u64 (IntKind.wrap .u8 (((v80.toNat : Nat) : Int) - 48)))))) (X2 s_0 t_2 n_4 (IntKind.wrap .i64 (at_5 + 1)) k_6 end_7 from_8 t_10))))))) (head_Parse.s49 Z Q X1 s_0 t_2 n_4 at_5 k_6 end_7 from_8 t_10)) (head_Parse.s49 Z Q X1 s_0 t_2 n_4 at_5 k_6 end_7 from_8 t_10))) (head_Parse.s49 Z Q X1 s_0 t_2 n_4 at_5 k_6 end_7 from_8 t_10))) (head_Parse.s49 Z Q X1 s_0 t_2 n_4 at_5 k_6 end_7 from_8 t_10))
def head_Parse.j60 (Z : List PanicEntry → PT) (Q : List Value → Int → PT) (X1 : ByteArray → Addr → Addr → Int → Option Addr → PT) (X2 : ByteArray → Addr → Addr → Int → Int → Int → Int → Option Addr → PT) : Fr → PT := (fun ρ => atS (ρ 0) fun s_0 => atA (ρ 2) fun t_2 => atA (ρ 4) fun n_4 => atI .i64 (ρ 5) fun at_5 => atI .i64 (ρ 6) fun k_6 => atI .i32 (ρ 7) fun end_7 => atI .i64 (ρ 8) fun from_8 => atP (ρ 10) fun t_10 => (X2 s_0 t_2 n_4 at_5 k_6 end_7 from_8 t_10))
def head_Parse.q61 (Z : List PanicEntry → PT) (Q : List Value → Int → PT) (X1 : ByteArray → Addr → Addr → Int → Option Addr → PT) (X2 : ByteArray → Addr → Addr → Int → Int → Int → Int → Option Addr → PT) : QF := thenK (head_Parse.j60 Z Q X1 X2) (head_Parse.q58 Z Q X1)
theorem head_Parse.s59_eq (Z : List PanicEntry → PT) (Q : List Value → Int → PT) (X1 : ByteArray → Addr → Addr → Int → Option Addr → PT) (X2 : ByteArray → Addr → Addr → Int → Int → Int → Int → Option Addr → PT) (ρ : Fr) (s_0 : ByteArray) (t_2 : Addr) (n_4 : Addr) (at_5 : Int) (k_6 : Int) (end_7 : Int) (from_8 : Int) (t_10 : Option Addr) : comp Tryd.prog Z head_Parse.c54 (head_Parse.q61 Z Q X1 X2) (puts ρ [(0, (Value.string s_0)), (2, (Value.pointer (some t_2))), (4, (Value.pointer (some n_4))), (5, (Value.int .i64 at_5)), (6, (Value.int .i64 k_6)), (7, (Value.int .i32 end_7)), (8, (Value.int .i64 from_8)), (10, (Value.pointer t_10))]) = head_Parse.s59 Z Q X1 X2 s_0 t_2 n_4 at_5 k_6 end_7 from_8 t_10 := by kernel_rfl
def head_Parse.j62 (Z : List PanicEntry → PT) (Q : List Value → Int → PT) (X1 : ByteArray → Addr → Addr → Int → Option Addr → PT) (X2 : ByteArray → Addr → Addr → Int → Int → Int → Int → Option Addr → PT) : Fr → PT := (fun ρ => atS (ρ 0) fun s_0 => atA (ρ 2) fun t_2 => atA (ρ 4) fun n_4 => atI .i64 (ρ 5) fun at_5 => atI .i64 (ρ 6) fun k_6 => atI .i32 (ρ 7) fun end_7 => atI .i64 (ρ 8) fun from_8 => atP (ρ 10) fun t_10 => (head_Parse.s59 Z Q X1 X2 s_0 t_2 n_4 at_5 k_6 end_7 from_8 t_10))
theorem head_Parse.s59_ok (Z : List PanicEntry → PT) (Q : List Value → Int → PT) (X1 : ByteArray → Addr → Addr → Int → Option Addr → PT) (X2 : ByteArray → Addr → Addr → Int → Int → Int → Int → Option Addr → PT) : Ok Tryd.prog Tryd.f25.ntmps Z head_Parse.c54 (head_Parse.q61 Z Q X1 X2) (head_Parse.j62 Z Q X1 X2) := by
  intro E he ρ w a hr h
  obtain ⟨s_0, e0, h⟩ := atS_e h
  obtain ⟨t_2, e2, h⟩ := atA_e h
  obtain ⟨n_4, e4, h⟩ := atA_e h
  obtain ⟨at_5, e5, h⟩ := atI_e h
  obtain ⟨k_6, e6, h⟩ := atI_e h
  obtain ⟨end_7, e7, h⟩ := atI_e h
  obtain ⟨from_8, e8, h⟩ := atI_e h
  obtain ⟨t_10, e10, h⟩ := atP_e h
  exact ok_at [(0, (Value.string s_0)), (2, (Value.pointer (some t_2))), (4, (Value.pointer (some n_4))), (5, (Value.int .i64 at_5)), (6, (Value.int .i64 k_6)), (7, (Value.int .i32 end_7)), (8, (Value.int .i64 from_8)), (10, (Value.pointer t_10))] (okC head_Parse.c54 (head_Parse.q61 Z Q X1 X2) (by kernel_rfl)) (puts_cons e0 (puts_cons e2 (puts_cons e4 (puts_cons e5 (puts_cons e6 (puts_cons e7 (puts_cons e8 (puts_cons e10 (fun p hp => puts_nil hp))))))))) (head_Parse.s59_eq Z Q X1 X2 ρ s_0 t_2 n_4 at_5 k_6 end_7 from_8 t_10) he hr h
def head_Parse.l56 (Z : List PanicEntry → PT) (Q : List Value → Int → PT) (X1 : ByteArray → Addr → Addr → Int → Option Addr → PT) : Nat → ByteArray → Addr → Addr → Int → Int → Int → Int → Option Addr → PT
  | 0, _, _, _, _, _, _, _, _ => bad
  | k + 1, s_0, t_2, n_4, at_5, k_6, end_7, from_8, t_10 => (head_Parse.s59 Z Q X1 (head_Parse.l56 Z Q X1 k) s_0 t_2 n_4 at_5 k_6 end_7 from_8 t_10)
def head_Parse.j63 (Z : List PanicEntry → PT) (Q : List Value → Int → PT) (X1 : ByteArray → Addr → Addr → Int → Option Addr → PT) (k : Nat) : Fr → PT := (fun ρ => atS (ρ 0) fun s_0 => atA (ρ 2) fun t_2 => atA (ρ 4) fun n_4 => atI .i64 (ρ 5) fun at_5 => atI .i64 (ρ 6) fun k_6 => atI .i32 (ρ 7) fun end_7 => atI .i64 (ρ 8) fun from_8 => atP (ρ 10) fun t_10 => (head_Parse.l56 Z Q X1 k s_0 t_2 n_4 at_5 k_6 end_7 from_8 t_10))
def head_Parse.j64 (Z : List PanicEntry → PT) (Q : List Value → Int → PT) (X1 : ByteArray → Addr → Addr → Int → Option Addr → PT) : Fr → PT := (fun ρ => atS (ρ 0) fun s_0 => atA (ρ 2) fun t_2 => atA (ρ 4) fun n_4 => atI .i64 (ρ 5) fun at_5 => atI .i64 (ρ 6) fun k_6 => atI .i32 (ρ 7) fun end_7 => atI .i64 (ρ 8) fun from_8 => atP (ρ 10) fun t_10 => (exK fun k => head_Parse.l56 Z Q X1 k s_0 t_2 n_4 at_5 k_6 end_7 from_8 t_10))
theorem head_Parse.o65 (Z : List PanicEntry → PT) (Q : List Value → Int → PT) (X1 : ByteArray → Addr → Addr → Int → Option Addr → PT) : Ok Tryd.prog Tryd.f25.ntmps Z head_Parse.c52 (head_Parse.q58 Z Q X1) (head_Parse.j64 Z Q X1) := by
  rw [head_Parse.q55]
  refine Ok.imp (ok_loop (J := head_Parse.j63 Z Q X1) ?_ ?_) ?_
  · intro ρ w h
    obtain ⟨s_0, e0, h⟩ := atS_e h
    obtain ⟨t_2, e2, h⟩ := atA_e h
    obtain ⟨n_4, e4, h⟩ := atA_e h
    obtain ⟨at_5, e5, h⟩ := atI_e h
    obtain ⟨k_6, e6, h⟩ := atI_e h
    obtain ⟨end_7, e7, h⟩ := atI_e h
    obtain ⟨from_8, e8, h⟩ := atI_e h
    obtain ⟨t_10, e10, h⟩ := atP_e h
    exact h
  · intro k
    refine Ok.imp (head_Parse.s59_ok Z Q X1 (head_Parse.l56 Z Q X1 k)) fun ρ w h => ?_
    obtain ⟨s_0, e0, h⟩ := atS_e h
    obtain ⟨t_2, e2, h⟩ := atA_e h
    obtain ⟨n_4, e4, h⟩ := atA_e h
    obtain ⟨at_5, e5, h⟩ := atI_e h
    obtain ⟨k_6, e6, h⟩ := atI_e h
    obtain ⟨end_7, e7, h⟩ := atI_e h
    obtain ⟨from_8, e8, h⟩ := atI_e h
    obtain ⟨t_10, e10, h⟩ := atP_e h
    show (head_Parse.j62 Z Q X1 (head_Parse.l56 Z Q X1 k)) ρ w
    simp only [head_Parse.j62]
    rw [e0]
    rw [e2]
    rw [e4]
    rw [e5]
    rw [e6]
    rw [e7]
    rw [e8]
    rw [e10]
    exact h
  · intro ρ w h
    obtain ⟨s_0, e0, h⟩ := atS_e h
    obtain ⟨t_2, e2, h⟩ := atA_e h
    obtain ⟨n_4, e4, h⟩ := atA_e h
    obtain ⟨at_5, e5, h⟩ := atI_e h
    obtain ⟨k_6, e6, h⟩ := atI_e h
    obtain ⟨end_7, e7, h⟩ := atI_e h
    obtain ⟨from_8, e8, h⟩ := atI_e h
    obtain ⟨t_10, e10, h⟩ := atP_e h
    obtain ⟨k, h⟩ := h
    refine ⟨k, ?_⟩
    show (atS (ρ 0) fun s_0 => atA (ρ 2) fun t_2 => atA (ρ 4) fun n_4 => atI .i64 (ρ 5) fun at_5 => atI .i64 (ρ 6) fun k_6 => atI .i32 (ρ 7) fun end_7 => atI .i64 (ρ 8) fun from_8 => atP (ρ 10) fun t_10 => (head_Parse.l56 Z Q X1 k s_0 t_2 n_4 at_5 k_6 end_7 from_8 t_10)) w
    rw [e0]
    rw [e2]
    rw [e4]
    rw [e5]
    rw [e6]
    rw [e7]
    rw [e8]
    rw [e10]
    exact h
theorem head_Parse.o66 (Z : List PanicEntry → PT) (Q : List Value → Int → PT) (X1 : ByteArray → Addr → Addr → Int → Option Addr → PT) : Ok Tryd.prog Tryd.f25.ntmps Z head_Parse.c32 (head_Parse.q57 Z Q X1) (head_Parse.j64 Z Q X1) := by
  rw [head_Parse.q53]; exact ok_block (head_Parse.o65 Z Q X1)
theorem head_Parse.o67 (Z : List PanicEntry → PT) (Q : List Value → Int → PT) (X1 : ByteArray → Addr → Addr → Int → Option Addr → PT) : Ok Tryd.prog Tryd.f25.ntmps Z head_Parse.c30 (head_Parse.q41 Z Q X1) (head_Parse.j64 Z Q X1) := by
  rw [head_Parse.q34]; exact ok_seq (head_Parse.o66 Z Q X1) (head_Parse.o51 Z Q X1)
def head_Parse.s68 (Z : List PanicEntry → PT) (Q : List Value → Int → PT) (X1 : ByteArray → Addr → Addr → Int → Option Addr → PT) (s_0 : ByteArray) (t_2 : Addr) (n_4 : Addr) (at_5 : Int) (t_10 : Option Addr) (t_11i t_11r : Int) : PT :=
  (exK fun k => head_Parse.l56 Z Q X1 k s_0 t_2 n_4 at_5 t_11i t_11r at_5 t_10)
theorem head_Parse.s68_eq (Z : List PanicEntry → PT) (Q : List Value → Int → PT) (X1 : ByteArray → Addr → Addr → Int → Option Addr → PT) (ρ : Fr) (s_0 : ByteArray) (t_2 : Addr) (n_4 : Addr) (at_5 : Int) (t_10 : Option Addr) (t_11i t_11r : Int) : (comp Tryd.prog Z head_Parse.c28 (thenK (comp Tryd.prog Z head_Parse.c29 (thenK (head_Parse.j64 Z Q X1) (head_Parse.q41 Z Q X1))) (head_Parse.q41 Z Q X1))) (puts ρ [(0, (Value.string s_0)), (2, (Value.pointer (some t_2))), (4, (Value.pointer (some n_4))), (5, (Value.int .i64 at_5)), (10, (Value.pointer t_10)), (11, (Value.tuple #[(Value.bool true), (Value.int .i64 t_11i), (Value.int .i32 t_11r)]))]) = head_Parse.s68 Z Q X1 s_0 t_2 n_4 at_5 t_10 t_11i t_11r := by kernel_rfl
def head_Parse.j69 (Z : List PanicEntry → PT) (Q : List Value → Int → PT) (X1 : ByteArray → Addr → Addr → Int → Option Addr → PT) : Fr → PT := (fun ρ => atS (ρ 0) fun s_0 => atA (ρ 2) fun t_2 => atA (ρ 4) fun n_4 => atI .i64 (ρ 5) fun at_5 => atP (ρ 10) fun t_10 => atNX (ρ 11) fun t_11i t_11r => (head_Parse.s68 Z Q X1 s_0 t_2 n_4 at_5 t_10 t_11i t_11r))
theorem head_Parse.s68_ok (Z : List PanicEntry → PT) (Q : List Value → Int → PT) (X1 : ByteArray → Addr → Addr → Int → Option Addr → PT) : Ok Tryd.prog Tryd.f25.ntmps Z head_Parse.c26 (head_Parse.q41 Z Q X1) (head_Parse.j69 Z Q X1) := by
  intro E he ρ w a hr h
  rw [head_Parse.q31] at he ⊢
  obtain ⟨s_0, e0, h⟩ := atS_e h
  obtain ⟨t_2, e2, h⟩ := atA_e h
  obtain ⟨n_4, e4, h⟩ := atA_e h
  obtain ⟨at_5, e5, h⟩ := atI_e h
  obtain ⟨t_10, e10, h⟩ := atP_e h
  obtain ⟨t_11i, t_11r, e11, h⟩ := atNX_e h
  exact ok_at [(0, (Value.string s_0)), (2, (Value.pointer (some t_2))), (4, (Value.pointer (some n_4))), (5, (Value.int .i64 at_5)), (10, (Value.pointer t_10)), (11, (Value.tuple #[(Value.bool true), (Value.int .i64 t_11i), (Value.int .i32 t_11r)]))] (ok_seq (okC head_Parse.c28 _ (by kernel_rfl)) (ok_seq (okC head_Parse.c29 _ (by kernel_rfl)) (head_Parse.o67 Z Q X1))) (puts_cons e0 (puts_cons e2 (puts_cons e4 (puts_cons e5 (puts_cons e10 (puts_cons e11 (fun p hp => puts_nil hp))))))) (head_Parse.s68_eq Z Q X1 ρ s_0 t_2 n_4 at_5 t_10 t_11i t_11r) he hr h
theorem head_Parse.o70 (Z : List PanicEntry → PT) (Q : List Value → Int → PT) (X1 : ByteArray → Addr → Addr → Int → Option Addr → PT) : Ok Tryd.prog Tryd.f25.ntmps Z head_Parse.c24 (head_Parse.q40 Z Q X1) (head_Parse.j69 Z Q X1) := by
  rw [head_Parse.q27]; exact ok_block (head_Parse.s68_ok Z Q X1)
def head_Parse.s71 (Z : List PanicEntry → PT) (Q : List Value → Int → PT) (X1 : ByteArray → Addr → Addr → Int → Option Addr → PT) (s_0 : ByteArray) (t_2 : Addr) (n_4 : Addr) (at_5 : Int) (t_10 : Option Addr) : PT :=
  (nextX Tryd.prog (Instr.next (Value.pointer t_10) true 0) (head_Parse.s9 Z Q s_0 t_2 n_4) fun t81 t82 => (isI .i64 fun v83 => ((isI .i32 fun v84 => (head_Parse.s68 Z Q X1 s_0 t_2 n_4 at_5 t_10 v83 v84)) t82)) t81)
theorem head_Parse.s71_eq (Z : List PanicEntry → PT) (Q : List Value → Int → PT) (X1 : ByteArray → Addr → Addr → Int → Option Addr → PT) (ρ : Fr) (s_0 : ByteArray) (t_2 : Addr) (n_4 : Addr) (at_5 : Int) (t_10 : Option Addr) : (comp Tryd.prog Z head_Parse.c22 (thenK (comp Tryd.prog Z head_Parse.c23 (thenK (head_Parse.j69 Z Q X1) (head_Parse.q40 Z Q X1))) (head_Parse.q40 Z Q X1))) (puts ρ [(0, (Value.string s_0)), (2, (Value.pointer (some t_2))), (4, (Value.pointer (some n_4))), (5, (Value.int .i64 at_5)), (10, (Value.pointer t_10))]) = head_Parse.s71 Z Q X1 s_0 t_2 n_4 at_5 t_10 := by kernel_rfl
def head_Parse.j72 (Z : List PanicEntry → PT) (Q : List Value → Int → PT) (X1 : ByteArray → Addr → Addr → Int → Option Addr → PT) : Fr → PT := (fun ρ => atS (ρ 0) fun s_0 => atA (ρ 2) fun t_2 => atA (ρ 4) fun n_4 => atI .i64 (ρ 5) fun at_5 => atP (ρ 10) fun t_10 => (head_Parse.s71 Z Q X1 s_0 t_2 n_4 at_5 t_10))
theorem head_Parse.s71_ok (Z : List PanicEntry → PT) (Q : List Value → Int → PT) (X1 : ByteArray → Addr → Addr → Int → Option Addr → PT) : Ok Tryd.prog Tryd.f25.ntmps Z head_Parse.c17 (head_Parse.q40 Z Q X1) (head_Parse.j72 Z Q X1) := by
  intro E he ρ w a hr h
  rw [head_Parse.q25] at he ⊢
  obtain ⟨s_0, e0, h⟩ := atS_e h
  obtain ⟨t_2, e2, h⟩ := atA_e h
  obtain ⟨n_4, e4, h⟩ := atA_e h
  obtain ⟨at_5, e5, h⟩ := atI_e h
  obtain ⟨t_10, e10, h⟩ := atP_e h
  exact ok_at [(0, (Value.string s_0)), (2, (Value.pointer (some t_2))), (4, (Value.pointer (some n_4))), (5, (Value.int .i64 at_5)), (10, (Value.pointer t_10))] (ok_seq (okC head_Parse.c22 _ (by kernel_rfl)) (ok_seq (okC head_Parse.c23 _ (by kernel_rfl)) (head_Parse.o70 Z Q X1))) (puts_cons e0 (puts_cons e2 (puts_cons e4 (puts_cons e5 (puts_cons e10 (fun p hp => puts_nil hp)))))) (head_Parse.s71_eq Z Q X1 ρ s_0 t_2 n_4 at_5 t_10) he hr h
def head_Parse.l19 (Z : List PanicEntry → PT) (Q : List Value → Int → PT) : Nat → ByteArray → Addr → Addr → Int → Option Addr → PT
  | 0, _, _, _, _, _ => bad
  | k + 1, s_0, t_2, n_4, at_5, t_10 => (head_Parse.s71 Z Q (head_Parse.l19 Z Q k) s_0 t_2 n_4 at_5 t_10)
def head_Parse.j73 (Z : List PanicEntry → PT) (Q : List Value → Int → PT) (k : Nat) : Fr → PT := (fun ρ => atS (ρ 0) fun s_0 => atA (ρ 2) fun t_2 => atA (ρ 4) fun n_4 => atI .i64 (ρ 5) fun at_5 => atP (ρ 10) fun t_10 => (head_Parse.l19 Z Q k s_0 t_2 n_4 at_5 t_10))
def head_Parse.j74 (Z : List PanicEntry → PT) (Q : List Value → Int → PT) : Fr → PT := (fun ρ => atS (ρ 0) fun s_0 => atA (ρ 2) fun t_2 => atA (ρ 4) fun n_4 => atI .i64 (ρ 5) fun at_5 => atP (ρ 10) fun t_10 => (exK fun k => head_Parse.l19 Z Q k s_0 t_2 n_4 at_5 t_10))
theorem head_Parse.o75 (Z : List PanicEntry → PT) (Q : List Value → Int → PT) : Ok Tryd.prog Tryd.f25.ntmps Z head_Parse.c15 (head_Parse.q21 Z Q) (head_Parse.j74 Z Q) := by
  rw [head_Parse.q18]
  refine Ok.imp (ok_loop (J := head_Parse.j73 Z Q) ?_ ?_) ?_
  · intro ρ w h
    obtain ⟨s_0, e0, h⟩ := atS_e h
    obtain ⟨t_2, e2, h⟩ := atA_e h
    obtain ⟨n_4, e4, h⟩ := atA_e h
    obtain ⟨at_5, e5, h⟩ := atI_e h
    obtain ⟨t_10, e10, h⟩ := atP_e h
    exact h
  · intro k
    refine Ok.imp (head_Parse.s71_ok Z Q (head_Parse.l19 Z Q k)) fun ρ w h => ?_
    obtain ⟨s_0, e0, h⟩ := atS_e h
    obtain ⟨t_2, e2, h⟩ := atA_e h
    obtain ⟨n_4, e4, h⟩ := atA_e h
    obtain ⟨at_5, e5, h⟩ := atI_e h
    obtain ⟨t_10, e10, h⟩ := atP_e h
    show (head_Parse.j72 Z Q (head_Parse.l19 Z Q k)) ρ w
    simp only [head_Parse.j72]
    rw [e0]
    rw [e2]
    rw [e4]
    rw [e5]
    rw [e10]
    exact h
  · intro ρ w h
    obtain ⟨s_0, e0, h⟩ := atS_e h
    obtain ⟨t_2, e2, h⟩ := atA_e h
    obtain ⟨n_4, e4, h⟩ := atA_e h
    obtain ⟨at_5, e5, h⟩ := atI_e h
    obtain ⟨t_10, e10, h⟩ := atP_e h
    obtain ⟨k, h⟩ := h
    refine ⟨k, ?_⟩
    show (atS (ρ 0) fun s_0 => atA (ρ 2) fun t_2 => atA (ρ 4) fun n_4 => atI .i64 (ρ 5) fun at_5 => atP (ρ 10) fun t_10 => (head_Parse.l19 Z Q k s_0 t_2 n_4 at_5 t_10)) w
    rw [e0]
    rw [e2]
    rw [e4]
    rw [e5]
    rw [e10]
    exact h
theorem head_Parse.o76 (Z : List PanicEntry → PT) (Q : List Value → Int → PT) : Ok Tryd.prog Tryd.f25.ntmps Z head_Parse.c13 (head_Parse.q20 Z Q) (head_Parse.j74 Z Q) := by
  rw [head_Parse.q16]; exact ok_block (head_Parse.o75 Z Q)
def head_Parse.s77 (Z : List PanicEntry → PT) (Q : List Value → Int → PT) (s_0 : ByteArray) (t_2 : Addr) (n_4 : Addr) (at_5 : Int) : PT :=
  (runP Tryd.prog (Instr.range 9 (Value.string ⟨#[46, 46, 46, 58, 62, 46, 46, 46, 58, 47, 32]⟩)) fun v85 => (exK fun k => head_Parse.l19 Z Q k s_0 t_2 n_4 at_5 v85))
theorem head_Parse.s77_eq (Z : List PanicEntry → PT) (Q : List Value → Int → PT) (ρ : Fr) (s_0 : ByteArray) (t_2 : Addr) (n_4 : Addr) (at_5 : Int) : (comp Tryd.prog Z head_Parse.c12 (thenK (head_Parse.j74 Z Q) (head_Parse.q20 Z Q))) (puts ρ [(0, (Value.string s_0)), (2, (Value.pointer (some t_2))), (4, (Value.pointer (some n_4))), (5, (Value.int .i64 at_5))]) = head_Parse.s77 Z Q s_0 t_2 n_4 at_5 := by kernel_rfl
def head_Parse.j78 (Z : List PanicEntry → PT) (Q : List Value → Int → PT) : Fr → PT := (fun ρ => atS (ρ 0) fun s_0 => atA (ρ 2) fun t_2 => atA (ρ 4) fun n_4 => atI .i64 (ρ 5) fun at_5 => (head_Parse.s77 Z Q s_0 t_2 n_4 at_5))
theorem head_Parse.s77_ok (Z : List PanicEntry → PT) (Q : List Value → Int → PT) : Ok Tryd.prog Tryd.f25.ntmps Z head_Parse.c6 (head_Parse.q20 Z Q) (head_Parse.j78 Z Q) := by
  intro E he ρ w a hr h
  rw [head_Parse.q14] at he ⊢
  obtain ⟨s_0, e0, h⟩ := atS_e h
  obtain ⟨t_2, e2, h⟩ := atA_e h
  obtain ⟨n_4, e4, h⟩ := atA_e h
  obtain ⟨at_5, e5, h⟩ := atI_e h
  exact ok_at [(0, (Value.string s_0)), (2, (Value.pointer (some t_2))), (4, (Value.pointer (some n_4))), (5, (Value.int .i64 at_5))] (ok_seq (okC head_Parse.c12 _ (by kernel_rfl)) (head_Parse.o76 Z Q)) (puts_cons e0 (puts_cons e2 (puts_cons e4 (puts_cons e5 (fun p hp => puts_nil hp))))) (head_Parse.s77_eq Z Q ρ s_0 t_2 n_4 at_5) he hr h
theorem head_Parse.o79 (Z : List PanicEntry → PT) (Q : List Value → Int → PT) : Ok Tryd.prog Tryd.f25.ntmps Z head_Parse.c4 (head_Parse.q10 Z Q) (head_Parse.j78 Z Q) := by
  rw [head_Parse.q8]; exact ok_seq (head_Parse.s77_ok Z Q) (head_Parse.s9_ok Z Q)
def head_Parse.s80 (Z : List PanicEntry → PT) (Q : List Value → Int → PT) (s_0 : ByteArray) : PT :=
  (newC 26 [(Value.int .u8 0), (Value.int .u8 0), (Value.int .u8 0), (Value.int .u8 0), (Value.int .u8 0), (Value.int .u8 0), (Value.int .u8 0), (Value.int .u8 0), (Value.int .u8 0), (Value.int .u8 0), (Value.int .u8 0), (Value.int .u8 0), (Value.int .u8 0)] fun v86 => (newC 58 [(Value.int .u64 0), (Value.int .u64 0), (Value.int .u64 0), (Value.int .u64 0), (Value.int .u64 0), (Value.int .u64 0), (Value.int .u64 0), (Value.int .u64 0), (Value.int .u64 0), (Value.int .u64 0), (Value.int .u64 0)] fun n87 => (head_Parse.s77 Z Q s_0 v86 n87 0)))
theorem head_Parse.s80_eq (Z : List PanicEntry → PT) (Q : List Value → Int → PT) (ρ : Fr) (s_0 : ByteArray) : (comp Tryd.prog Z head_Parse.c1 (thenK (comp Tryd.prog Z head_Parse.c2 (thenK (comp Tryd.prog Z head_Parse.c3 (thenK (head_Parse.j78 Z Q) (head_Parse.q10 Z Q))) (head_Parse.q10 Z Q))) (head_Parse.q10 Z Q))) (puts ρ [(0, (Value.string s_0))]) = head_Parse.s80 Z Q s_0 := by kernel_rfl
def head_Parse.j81 (Z : List PanicEntry → PT) (Q : List Value → Int → PT) : Fr → PT := (fun ρ => atS (ρ 0) fun s_0 => (head_Parse.s80 Z Q s_0))
theorem head_Parse.s80_ok (Z : List PanicEntry → PT) (Q : List Value → Int → PT) : Ok Tryd.prog Tryd.f25.ntmps Z head_Parse.body (head_Parse.q10 Z Q) (head_Parse.j81 Z Q) := by
  intro E he ρ w a hr h
  rw [head_Parse.q5] at he ⊢
  obtain ⟨s_0, e0, h⟩ := atS_e h
  exact ok_at [(0, (Value.string s_0))] (ok_seq (okC head_Parse.c1 _ (by kernel_rfl)) (ok_seq (okC head_Parse.c2 _ (by kernel_rfl)) (ok_seq (okC head_Parse.c3 _ (by kernel_rfl)) (head_Parse.o79 Z Q)))) (puts_cons e0 (fun p hp => puts_nil hp)) (head_Parse.s80_eq Z Q ρ s_0) he hr h
def head_Parse.F (Z : List PanicEntry → PT) (Q : List Value → Int → PT) (s_0 : ByteArray) : PT :=
  (head_Parse.s80 Z Q s_0)
theorem head_Parse.vc (Z : List PanicEntry → PT) (Q : List Value → Int → PT) (s_0 : ByteArray) (w : World) (h : head_Parse.F Z Q s_0 w) : Calls Tryd.prog 25 ⟨[(Value.string s_0)]⟩ w fun e w' => (∃ (r0 : List Value) (r1 : Int), e = .returned (.tuple #[.agg ⟨r0⟩, .int .i64 r1]) ∧ Q r0 r1 w') ∨ ∃ c, e = .panicked c ∧ Z c w' := by
  refine (calls_of_ok (args := [(Value.string s_0)]) (w := w) (rs := [.cell 2 26, .tmp 3]) (fn := Tryd.f25) (c := head_Parse.body) Tryd.func25 (by kernel_rfl) (by kernel_rfl) (Nat.le_of_ble_eq_true (by kernel_rfl)) (head_Parse.s80_ok Z Q) (h)).mono fun e w' hR => ?_
  cases e with
  | returned v =>
    obtain ⟨x, y, rfl, hR⟩ := at2_e hR
    obtain ⟨xa, rfl, hR⟩ := atN_e hR
    obtain ⟨ya, rfl, hR⟩ := atI_e hR
    exact .inl ⟨xa, ya, rfl, hR⟩
  | panicked c => exact .inr ⟨c, rfl, hR⟩
  | outgrown => exact hR.elim
theorem head_Parse.vc0 (Q : List Value → Int → PT) (s_0 : ByteArray) (w : World) (h : head_Parse.F Z0 Q s_0 w) : Calls Tryd.prog 25 ⟨[(Value.string s_0)]⟩ w fun e w' => (∃ (r0 : List Value) (r1 : Int), e = .returned (.tuple #[.agg ⟨r0⟩, .int .i64 r1]) ∧ Q r0 r1 w') :=
  (head_Parse.vc Z0 Q s_0 w h).mono fun _ _ hR => hR.elim id fun ⟨_, _, hz⟩ => hz.elim
theorem head_Parse.cal {Z : List PanicEntry → PT} {Q : List Value → Int → PT} {s_0 : ByteArray} {w : World} (h : head_Parse.F Z Q s_0 w) : Go.Proofs.YtchhffabpgebmaaDoor.cal Tryd.prog Z 25 [(Value.string s_0)] (isT2 fun x y => (isN fun r0 => (isI .i64 fun r1 => Q r0 r1) y) x) w := by
  refine (head_Parse.vc Z Q s_0 w h).mono fun e w' hR => ?_
  rcases hR with ⟨r0, r1, rfl, h⟩ | ⟨c, rfl, h⟩
  · show (isT2 fun x y => (isN fun r0 => (isI .i64 fun r1 => Q r0 r1) y) x) (.tuple #[.agg ⟨r0⟩, .int .i64 r1]) w'
    exact ⟨_, _, rfl, ⟨_, rfl, ⟨_, rfl, h⟩⟩⟩
  · exact h

/-! ### milepost/milepostref01.Digits: function 32 -/
noncomputable def ref01_Digits.body : Code := bodyC Tryd.f32
def ref01_Digits.F (Z : List PanicEntry → PT) (Q : ByteArray → PT) (n_0 : Int) : PT :=
  (cnd ((10 : Int) ≠ 0) (newC 5 [(Value.int .u8 (IntKind.wrap .u8 (IntKind.wrap .u32 ((48 : Int) + (Int.tmod n_0 10)))))] fun v5 => (runS Tryd.prog (convert 53 9 (Value.slice (some v5) 1 1)) fun v6 => (pif (decide (n_0 < 10)) (Q v6) (cnd ((10 : Int) ≠ 0) (cal Tryd.prog Z 32 [(Value.int .u32 (IntKind.wrap .u32 (Int.tdiv n_0 10)))] (isS fun v7 => (cnd (((v7.size + v6.size : Nat) : Int) ≤ IntKind.max .i64) (Q (v7 ++ v6))))))))))
def ref01_Digits.q1 (Z : List PanicEntry → PT) (Q : ByteArray → PT) : QF := bodyQ Tryd.prog [.tmp 2] (fun v => atS v fun va => Q va)
theorem ref01_Digits.eq (Z : List PanicEntry → PT) (Q : ByteArray → PT) (n_0 : Int) : comp Tryd.prog Z ref01_Digits.body (ref01_Digits.q1 Z Q) (fr0 [(Value.int .u32 n_0)]) = ref01_Digits.F Z Q n_0 := by kernel_rfl
theorem ref01_Digits.vc (Z : List PanicEntry → PT) (Q : ByteArray → PT) (n_0 : Int) (w : World) (h : ref01_Digits.F Z Q n_0 w) : Calls Tryd.prog 32 ⟨[(Value.int .u32 n_0)]⟩ w fun e w' => (∃ (r0 : ByteArray), e = .returned (.string r0) ∧ Q r0 w') ∨ ∃ c, e = .panicked c ∧ Z c w' := by
  refine (calls_of_ok (args := [(Value.int .u32 n_0)]) (w := w) (rs := [.tmp 2]) (fn := Tryd.f32) (c := ref01_Digits.body) Tryd.func32 (by kernel_rfl) (by kernel_rfl) (Nat.le_of_ble_eq_true (by kernel_rfl)) (okC ref01_Digits.body (ref01_Digits.q1 Z Q) (by kernel_rfl)) (by rw [ref01_Digits.eq]; exact h)).mono fun e w' hR => ?_
  cases e with
  | returned v =>
    obtain ⟨va, rfl, hR⟩ := atS_e hR
    exact .inl ⟨va, rfl, hR⟩
  | panicked c => exact .inr ⟨c, rfl, hR⟩
  | outgrown => exact hR.elim
theorem ref01_Digits.vc0 (Q : ByteArray → PT) (n_0 : Int) (w : World) (h : ref01_Digits.F Z0 Q n_0 w) : Calls Tryd.prog 32 ⟨[(Value.int .u32 n_0)]⟩ w fun e w' => (∃ (r0 : ByteArray), e = .returned (.string r0) ∧ Q r0 w') :=
  (ref01_Digits.vc Z0 Q n_0 w h).mono fun _ _ hR => hR.elim id fun ⟨_, _, hz⟩ => hz.elim
theorem ref01_Digits.cal {Z : List PanicEntry → PT} {Q : ByteArray → PT} {n_0 : Int} {w : World} (h : ref01_Digits.F Z Q n_0 w) : Go.Proofs.YtchhffabpgebmaaDoor.cal Tryd.prog Z 32 [(Value.int .u32 n_0)] (isS fun r0 => Q r0) w := by
  refine (ref01_Digits.vc Z Q n_0 w h).mono fun e w' hR => ?_
  rcases hR with ⟨r0, rfl, h⟩ | ⟨c, rfl, h⟩
  · show (isS fun r0 => Q r0) (.string r0) w'
    exact ⟨_, rfl, h⟩
  · exact h

/-! ### milepost/milepostref01.address: function 31 -/
noncomputable def ref01_address.body : Code := bodyC Tryd.f31
def ref01_address.F (Z : List PanicEntry → PT) (Q : ByteArray → PT) (v_0 : Int) : PT :=
  (cnd ((0 : Int) ≤ 24) (cal Tryd.prog Z 32 [(Value.int .u32 (Int.fdiv v_0 (2 ^ (min (24 : Int).toNat (IntKind.bits .u32)))))] (isS fun v1 => (cnd (((v1.size + (⟨#[46]⟩ : ByteArray).size : Nat) : Int) ≤ IntKind.max .i64) (cnd ((0 : Int) ≤ 16) (cal Tryd.prog Z 32 [(Value.int .u32 (IntKind.wrap .u32 (BitVec.ofInt (IntKind.bits .u32) (Int.fdiv v_0 (2 ^ (min (16 : Int).toNat (IntKind.bits .u32)))) &&& BitVec.ofInt (IntKind.bits .u32) 255).toNat))] (isS fun v2 => (cnd ((((v1 ++ (⟨#[46]⟩ : ByteArray)).size + v2.size : Nat) : Int) ≤ IntKind.max .i64) (cnd (((((v1 ++ (⟨#[46]⟩ : ByteArray)) ++ v2).size + (⟨#[46]⟩ : ByteArray).size : Nat) : Int) ≤ IntKind.max .i64) (cnd ((0 : Int) ≤ 8) (cal Tryd.prog Z 32 [(Value.int .u32 (IntKind.wrap .u32 (BitVec.ofInt (IntKind.bits .u32) (Int.fdiv v_0 (2 ^ (min (8 : Int).toNat (IntKind.bits .u32)))) &&& BitVec.ofInt (IntKind.bits .u32) 255).toNat))] (isS fun v3 => (cnd ((((((v1 ++ (⟨#[46]⟩ : ByteArray)) ++ v2) ++ (⟨#[46]⟩ : ByteArray)).size + v3.size : Nat) : Int) ≤ IntKind.max .i64) (cnd (((((((v1 ++ (⟨#[46]⟩ : ByteArray)) ++ v2) ++ (⟨#[46]⟩ : ByteArray)) ++ v3).size + (⟨#[46]⟩ : ByteArray).size : Nat) : Int) ≤ IntKind.max .i64) (cal Tryd.prog Z 32 [(Value.int .u32 (IntKind.wrap .u32 (BitVec.ofInt (IntKind.bits .u32) v_0 &&& BitVec.ofInt (IntKind.bits .u32) 255).toNat))] (isS fun v4 => (cnd ((((((((v1 ++ (⟨#[46]⟩ : ByteArray)) ++ v2) ++ (⟨#[46]⟩ : ByteArray)) ++ v3) ++ (⟨#[46]⟩ : ByteArray)).size + v4.size : Nat) : Int) ≤ IntKind.max .i64) (Q ((((((v1 ++ (⟨#[46]⟩ : ByteArray)) ++ v2) ++ (⟨#[46]⟩ : ByteArray)) ++ v3) ++ (⟨#[46]⟩ : ByteArray)) ++ v4)))))))))))))))))))
def ref01_address.q1 (Z : List PanicEntry → PT) (Q : ByteArray → PT) : QF := bodyQ Tryd.prog [.tmp 2] (fun v => atS v fun va => Q va)
theorem ref01_address.eq (Z : List PanicEntry → PT) (Q : ByteArray → PT) (v_0 : Int) : comp Tryd.prog Z ref01_address.body (ref01_address.q1 Z Q) (fr0 [(Value.int .u32 v_0)]) = ref01_address.F Z Q v_0 := by kernel_rfl
theorem ref01_address.vc (Z : List PanicEntry → PT) (Q : ByteArray → PT) (v_0 : Int) (w : World) (h : ref01_address.F Z Q v_0 w) : Calls Tryd.prog 31 ⟨[(Value.int .u32 v_0)]⟩ w fun e w' => (∃ (r0 : ByteArray), e = .returned (.string r0) ∧ Q r0 w') ∨ ∃ c, e = .panicked c ∧ Z c w' := by
  refine (calls_of_ok (args := [(Value.int .u32 v_0)]) (w := w) (rs := [.tmp 2]) (fn := Tryd.f31) (c := ref01_address.body) Tryd.func31 (by kernel_rfl) (by kernel_rfl) (Nat.le_of_ble_eq_true (by kernel_rfl)) (okC ref01_address.body (ref01_address.q1 Z Q) (by kernel_rfl)) (by rw [ref01_address.eq]; exact h)).mono fun e w' hR => ?_
  cases e with
  | returned v =>
    obtain ⟨va, rfl, hR⟩ := atS_e hR
    exact .inl ⟨va, rfl, hR⟩
  | panicked c => exact .inr ⟨c, rfl, hR⟩
  | outgrown => exact hR.elim
theorem ref01_address.vc0 (Q : ByteArray → PT) (v_0 : Int) (w : World) (h : ref01_address.F Z0 Q v_0 w) : Calls Tryd.prog 31 ⟨[(Value.int .u32 v_0)]⟩ w fun e w' => (∃ (r0 : ByteArray), e = .returned (.string r0) ∧ Q r0 w') :=
  (ref01_address.vc Z0 Q v_0 w h).mono fun _ _ hR => hR.elim id fun ⟨_, _, hz⟩ => hz.elim
theorem ref01_address.cal {Z : List PanicEntry → PT} {Q : ByteArray → PT} {v_0 : Int} {w : World} (h : ref01_address.F Z Q v_0 w) : Go.Proofs.YtchhffabpgebmaaDoor.cal Tryd.prog Z 31 [(Value.int .u32 v_0)] (isS fun r0 => Q r0) w := by
  refine (ref01_address.vc Z Q v_0 w h).mono fun e w' hR => ?_
  rcases hR with ⟨r0, rfl, h⟩ | ⟨c, rfl, h⟩
  · show (isS fun r0 => Q r0) (.string r0) w'
    exact ⟨_, rfl, h⟩
  · exact h

/-! ### milepost/milepostref01.Text: function 26 -/
noncomputable def ref01_Text.body : Code := bodyC Tryd.f26
def ref01_Text.F (Z : List PanicEntry → PT) (Q : ByteArray → PT) (h_0 : List Value) : PT :=
  (newC 26 h_0 fun h82 => (ldN 13 h82 fun v83 => (cal Tryd.prog Z 13 [(Value.agg ⟨v83⟩), (Value.int .i64 0)] (isT2 fun t84 t85 => (isI .u32 fun v86 => ((isI .i64 fun v87 => (ldN 13 h82 fun v88 => (cal Tryd.prog Z 13 [(Value.agg ⟨v88⟩), (Value.int .i64 1)] (isT2 fun t89 t90 => (isI .u32 fun v91 => ((isI .i64 fun v92 => (ldN 13 h82 fun v93 => (cal Tryd.prog Z 13 [(Value.agg ⟨v93⟩), (Value.int .i64 2)] (isT2 fun t94 t95 => (isI .u32 fun v96 => ((isI .i64 fun v97 => (ldN 13 h82 fun v98 => (cal Tryd.prog Z 13 [(Value.agg ⟨v98⟩), (Value.int .i64 3)] (isT2 fun t99 t100 => (isI .u32 fun v101 => ((isI .i64 fun v102 => (ldN 13 h82 fun v103 => (cal Tryd.prog Z 13 [(Value.agg ⟨v103⟩), (Value.int .i64 4)] (isT2 fun t104 t105 => (isI .u32 fun v106 => ((isI .i64 fun v107 => (cal Tryd.prog Z 31 [(Value.int .u32 v86)] (isS fun v108 => (cnd (((v108.size + (⟨#[58]⟩ : ByteArray).size : Nat) : Int) ≤ IntKind.max .i64) (cal Tryd.prog Z 32 [(Value.int .u32 v96)] (isS fun v109 => (cnd ((((v108 ++ (⟨#[58]⟩ : ByteArray)).size + v109.size : Nat) : Int) ≤ IntKind.max .i64) (cnd (((((v108 ++ (⟨#[58]⟩ : ByteArray)) ++ v109).size + (⟨#[62]⟩ : ByteArray).size : Nat) : Int) ≤ IntKind.max .i64) (cal Tryd.prog Z 31 [(Value.int .u32 v91)] (isS fun v110 => (cnd ((((((v108 ++ (⟨#[58]⟩ : ByteArray)) ++ v109) ++ (⟨#[62]⟩ : ByteArray)).size + v110.size : Nat) : Int) ≤ IntKind.max .i64) (cnd (((((((v108 ++ (⟨#[58]⟩ : ByteArray)) ++ v109) ++ (⟨#[62]⟩ : ByteArray)) ++ v110).size + (⟨#[58]⟩ : ByteArray).size : Nat) : Int) ≤ IntKind.max .i64) (cal Tryd.prog Z 32 [(Value.int .u32 v101)] (isS fun v111 => (cnd ((((((((v108 ++ (⟨#[58]⟩ : ByteArray)) ++ v109) ++ (⟨#[62]⟩ : ByteArray)) ++ v110) ++ (⟨#[58]⟩ : ByteArray)).size + v111.size : Nat) : Int) ≤ IntKind.max .i64) (cnd (((((((((v108 ++ (⟨#[58]⟩ : ByteArray)) ++ v109) ++ (⟨#[62]⟩ : ByteArray)) ++ v110) ++ (⟨#[58]⟩ : ByteArray)) ++ v111).size + (⟨#[47]⟩ : ByteArray).size : Nat) : Int) ≤ IntKind.max .i64) (cal Tryd.prog Z 32 [(Value.int .u32 v106)] (isS fun v112 => (cnd ((((((((((v108 ++ (⟨#[58]⟩ : ByteArray)) ++ v109) ++ (⟨#[62]⟩ : ByteArray)) ++ v110) ++ (⟨#[58]⟩ : ByteArray)) ++ v111) ++ (⟨#[47]⟩ : ByteArray)).size + v112.size : Nat) : Int) ≤ IntKind.max .i64) (Q ((((((((v108 ++ (⟨#[58]⟩ : ByteArray)) ++ v109) ++ (⟨#[62]⟩ : ByteArray)) ++ v110) ++ (⟨#[58]⟩ : ByteArray)) ++ v111) ++ (⟨#[47]⟩ : ByteArray)) ++ v112))))))))))))))))))))) t105)) t104)))) t100)) t99)))) t95)) t94)))) t90)) t89)))) t85)) t84))))
def ref01_Text.q1 (Z : List PanicEntry → PT) (Q : ByteArray → PT) : QF := bodyQ Tryd.prog [.tmp 2] (fun v => atS v fun va => Q va)
theorem ref01_Text.eq (Z : List PanicEntry → PT) (Q : ByteArray → PT) (h_0 : List Value) : comp Tryd.prog Z ref01_Text.body (ref01_Text.q1 Z Q) (fr0 [(Value.agg ⟨h_0⟩)]) = ref01_Text.F Z Q h_0 := by kernel_rfl
theorem ref01_Text.vc (Z : List PanicEntry → PT) (Q : ByteArray → PT) (h_0 : List Value) (w : World) (h : ref01_Text.F Z Q h_0 w) : Calls Tryd.prog 26 ⟨[(Value.agg ⟨h_0⟩)]⟩ w fun e w' => (∃ (r0 : ByteArray), e = .returned (.string r0) ∧ Q r0 w') ∨ ∃ c, e = .panicked c ∧ Z c w' := by
  refine (calls_of_ok (args := [(Value.agg ⟨h_0⟩)]) (w := w) (rs := [.tmp 2]) (fn := Tryd.f26) (c := ref01_Text.body) Tryd.func26 (by kernel_rfl) (by kernel_rfl) (Nat.le_of_ble_eq_true (by kernel_rfl)) (okC ref01_Text.body (ref01_Text.q1 Z Q) (by kernel_rfl)) (by rw [ref01_Text.eq]; exact h)).mono fun e w' hR => ?_
  cases e with
  | returned v =>
    obtain ⟨va, rfl, hR⟩ := atS_e hR
    exact .inl ⟨va, rfl, hR⟩
  | panicked c => exact .inr ⟨c, rfl, hR⟩
  | outgrown => exact hR.elim
theorem ref01_Text.vc0 (Q : ByteArray → PT) (h_0 : List Value) (w : World) (h : ref01_Text.F Z0 Q h_0 w) : Calls Tryd.prog 26 ⟨[(Value.agg ⟨h_0⟩)]⟩ w fun e w' => (∃ (r0 : ByteArray), e = .returned (.string r0) ∧ Q r0 w') :=
  (ref01_Text.vc Z0 Q h_0 w h).mono fun _ _ hR => hR.elim id fun ⟨_, _, hz⟩ => hz.elim
theorem ref01_Text.cal {Z : List PanicEntry → PT} {Q : ByteArray → PT} {h_0 : List Value} {w : World} (h : ref01_Text.F Z Q h_0 w) : Go.Proofs.YtchhffabpgebmaaDoor.cal Tryd.prog Z 26 [(Value.agg ⟨h_0⟩)] (isS fun r0 => Q r0) w := by
  refine (ref01_Text.vc Z Q h_0 w h).mono fun e w' hR => ?_
  rcases hR with ⟨r0, rfl, h⟩ | ⟨c, rfl, h⟩
  · show (isS fun r0 => Q r0) (.string r0) w'
    exact ⟨_, rfl, h⟩
  · exact h

/-! ### milepost/milepostref01.number: function 33 -/
noncomputable def ref01_number.body : Code := bodyC Tryd.f33
noncomputable def ref01_number.c1 : Code := sq1 ref01_number.body
noncomputable def ref01_number.c2 : Code := sq1 (sq2 ref01_number.body)
noncomputable def ref01_number.c3 : Code := sq2 (sq2 ref01_number.body)
theorem ref01_number.q4 : ref01_number.body = .seq ref01_number.c1 (.seq ref01_number.c2 ref01_number.c3) := by kernel_rfl
noncomputable def ref01_number.c5 : Code := sq1 ref01_number.c3
noncomputable def ref01_number.c6 : Code := sq2 ref01_number.c3
theorem ref01_number.q7 : ref01_number.c3 = .seq ref01_number.c5 ref01_number.c6 := by kernel_rfl
def ref01_number.s8 (Z : List PanicEntry → PT) (Q : Int → Int → PT) (at_1 : Int) (n_6 : Int) : PT :=
  (Q n_6 at_1)
def ref01_number.q9 (Z : List PanicEntry → PT) (Q : Int → Int → PT) : QF := bodyQ Tryd.prog [.tmp 4, .tmp 5] (fun v => at2 v fun x y => atI .u32 x fun xa => atI .i64 y fun ya => Q xa ya)
theorem ref01_number.s8_eq (Z : List PanicEntry → PT) (Q : Int → Int → PT) (ρ : Fr) (at_1 : Int) (n_6 : Int) : comp Tryd.prog Z ref01_number.c6 (ref01_number.q9 Z Q) (puts ρ [(1, (Value.int .i64 at_1)), (6, (Value.int .u32 n_6))]) = ref01_number.s8 Z Q at_1 n_6 := by kernel_rfl
def ref01_number.j10 (Z : List PanicEntry → PT) (Q : Int → Int → PT) : Fr → PT := (fun ρ => atI .i64 (ρ 1) fun at_1 => atI .u32 (ρ 6) fun n_6 => (ref01_number.s8 Z Q at_1 n_6))
theorem ref01_number.s8_ok (Z : List PanicEntry → PT) (Q : Int → Int → PT) : Ok Tryd.prog Tryd.f33.ntmps Z ref01_number.c6 (ref01_number.q9 Z Q) (ref01_number.j10 Z Q) := by
  intro E he ρ w a hr h
  obtain ⟨at_1, e1, h⟩ := atI_e h
  obtain ⟨n_6, e6, h⟩ := atI_e h
  exact ok_at [(1, (Value.int .i64 at_1)), (6, (Value.int .u32 n_6))] (okC ref01_number.c6 (ref01_number.q9 Z Q) (by kernel_rfl)) (puts_cons e1 (puts_cons e6 (fun p hp => puts_nil hp))) (ref01_number.s8_eq Z Q ρ at_1 n_6) he hr h
noncomputable def ref01_number.c11 : Code := sq1 ref01_number.c5
noncomputable def ref01_number.c12 : Code := sq2 ref01_number.c5
theorem ref01_number.q13 : ref01_number.c5 = .seq ref01_number.c11 ref01_number.c12 := by kernel_rfl
noncomputable def ref01_number.c14 : Code := blk ref01_number.c12
theorem ref01_number.q15 : ref01_number.c12 = .block 0 ref01_number.c14 := by kernel_rfl
noncomputable def ref01_number.c16 : Code := lop ref01_number.c14
theorem ref01_number.q17 : ref01_number.c14 = .loop ref01_number.c16 := by kernel_rfl
def ref01_number.q19 (Z : List PanicEntry → PT) (Q : Int → Int → PT) : QF := thenK (ref01_number.j10 Z Q) (ref01_number.q9 Z Q)
def ref01_number.q20 (Z : List PanicEntry → PT) (Q : Int → Int → PT) : QF := inBl 0 (ref01_number.q19 Z Q)
def ref01_number.s21 (Z : List PanicEntry → PT) (Q : Int → Int → PT) (X1 : ByteArray → Int → Int → Int → PT) (s_0 : ByteArray) (at_1 : Int) (n_6 : Int) (k_7 : Int) : PT :=
  (pif (decide (k_7 < 5)) (pif (decide (at_1 < ((s_0.size : Nat) : Int))) (ixT s_0 at_1 fun v9 => (pif (decide (((v9.toNat : Nat) : Int) ≥ 48)) (ixT s_0 at_1 fun v10 => (pif (decide (((v10.toNat : Nat) : Int) ≤ 57)) (ixT s_0 at_1 fun v11 => (X1 s_0 (IntKind.wrap .i64 (at_1 + 1)) (IntKind.wrap .u32 ((IntKind.wrap .u32 (n_6 * 10)) + (IntKind.wrap .u32 (IntKind.wrap .u8 (((v11.toNat : Nat) : Int) - 48))))) (IntKind.wrap .i64 (k_7 + 1)))) (ref01_number.s8 Z Q at_1 n_6))) (ref01_number.s8 Z Q at_1 n_6))) (ref01_number.s8 Z Q at_1 n_6)) (ref01_number.s8 Z Q at_1 n_6))
def ref01_number.j22 (Z : List PanicEntry → PT) (Q : Int → Int → PT) (X1 : ByteArray → Int → Int → Int → PT) : Fr → PT := (fun ρ => atS (ρ 0) fun s_0 => atI .i64 (ρ 1) fun at_1 => atI .u32 (ρ 6) fun n_6 => atI .i64 (ρ 7) fun k_7 => (X1 s_0 at_1 n_6 k_7))
def ref01_number.q23 (Z : List PanicEntry → PT) (Q : Int → Int → PT) (X1 : ByteArray → Int → Int → Int → PT) : QF := thenK (ref01_number.j22 Z Q X1) (ref01_number.q20 Z Q)
theorem ref01_number.s21_eq (Z : List PanicEntry → PT) (Q : Int → Int → PT) (X1 : ByteArray → Int → Int → Int → PT) (ρ : Fr) (s_0 : ByteArray) (at_1 : Int) (n_6 : Int) (k_7 : Int) : comp Tryd.prog Z ref01_number.c16 (ref01_number.q23 Z Q X1) (puts ρ [(0, (Value.string s_0)), (1, (Value.int .i64 at_1)), (6, (Value.int .u32 n_6)), (7, (Value.int .i64 k_7))]) = ref01_number.s21 Z Q X1 s_0 at_1 n_6 k_7 := by kernel_rfl
def ref01_number.j24 (Z : List PanicEntry → PT) (Q : Int → Int → PT) (X1 : ByteArray → Int → Int → Int → PT) : Fr → PT := (fun ρ => atS (ρ 0) fun s_0 => atI .i64 (ρ 1) fun at_1 => atI .u32 (ρ 6) fun n_6 => atI .i64 (ρ 7) fun k_7 => (ref01_number.s21 Z Q X1 s_0 at_1 n_6 k_7))
theorem ref01_number.s21_ok (Z : List PanicEntry → PT) (Q : Int → Int → PT) (X1 : ByteArray → Int → Int → Int → PT) : Ok Tryd.prog Tryd.f33.ntmps Z ref01_number.c16 (ref01_number.q23 Z Q X1) (ref01_number.j24 Z Q X1) := by
  intro E he ρ w a hr h
  obtain ⟨s_0, e0, h⟩ := atS_e h
  obtain ⟨at_1, e1, h⟩ := atI_e h
  obtain ⟨n_6, e6, h⟩ := atI_e h
  obtain ⟨k_7, e7, h⟩ := atI_e h
  exact ok_at [(0, (Value.string s_0)), (1, (Value.int .i64 at_1)), (6, (Value.int .u32 n_6)), (7, (Value.int .i64 k_7))] (okC ref01_number.c16 (ref01_number.q23 Z Q X1) (by kernel_rfl)) (puts_cons e0 (puts_cons e1 (puts_cons e6 (puts_cons e7 (fun p hp => puts_nil hp))))) (ref01_number.s21_eq Z Q X1 ρ s_0 at_1 n_6 k_7) he hr h
def ref01_number.l18 (Z : List PanicEntry → PT) (Q : Int → Int → PT) : Nat → ByteArray → Int → Int → Int → PT
  | 0, _, _, _, _ => bad
  | k + 1, s_0, at_1, n_6, k_7 => (ref01_number.s21 Z Q (ref01_number.l18 Z Q k) s_0 at_1 n_6 k_7)
def ref01_number.j25 (Z : List PanicEntry → PT) (Q : Int → Int → PT) (k : Nat) : Fr → PT := (fun ρ => atS (ρ 0) fun s_0 => atI .i64 (ρ 1) fun at_1 => atI .u32 (ρ 6) fun n_6 => atI .i64 (ρ 7) fun k_7 => (ref01_number.l18 Z Q k s_0 at_1 n_6 k_7))
def ref01_number.j26 (Z : List PanicEntry → PT) (Q : Int → Int → PT) : Fr → PT := (fun ρ => atS (ρ 0) fun s_0 => atI .i64 (ρ 1) fun at_1 => atI .u32 (ρ 6) fun n_6 => atI .i64 (ρ 7) fun k_7 => (exK fun k => ref01_number.l18 Z Q k s_0 at_1 n_6 k_7))
theorem ref01_number.o27 (Z : List PanicEntry → PT) (Q : Int → Int → PT) : Ok Tryd.prog Tryd.f33.ntmps Z ref01_number.c14 (ref01_number.q20 Z Q) (ref01_number.j26 Z Q) := by
  rw [ref01_number.q17]
  refine Ok.imp (ok_loop (J := ref01_number.j25 Z Q) ?_ ?_) ?_
  · intro ρ w h
    obtain ⟨s_0, e0, h⟩ := atS_e h
    obtain ⟨at_1, e1, h⟩ := atI_e h
    obtain ⟨n_6, e6, h⟩ := atI_e h
    obtain ⟨k_7, e7, h⟩ := atI_e h
    exact h
  · intro k
    refine Ok.imp (ref01_number.s21_ok Z Q (ref01_number.l18 Z Q k)) fun ρ w h => ?_
    obtain ⟨s_0, e0, h⟩ := atS_e h
    obtain ⟨at_1, e1, h⟩ := atI_e h
    obtain ⟨n_6, e6, h⟩ := atI_e h
    obtain ⟨k_7, e7, h⟩ := atI_e h
    show (ref01_number.j24 Z Q (ref01_number.l18 Z Q k)) ρ w
    simp only [ref01_number.j24]
    rw [e0]
    rw [e1]
    rw [e6]
    rw [e7]
    exact h
  · intro ρ w h
    obtain ⟨s_0, e0, h⟩ := atS_e h
    obtain ⟨at_1, e1, h⟩ := atI_e h
    obtain ⟨n_6, e6, h⟩ := atI_e h
    obtain ⟨k_7, e7, h⟩ := atI_e h
    obtain ⟨k, h⟩ := h
    refine ⟨k, ?_⟩
    show (atS (ρ 0) fun s_0 => atI .i64 (ρ 1) fun at_1 => atI .u32 (ρ 6) fun n_6 => atI .i64 (ρ 7) fun k_7 => (ref01_number.l18 Z Q k s_0 at_1 n_6 k_7)) w
    rw [e0]
    rw [e1]
    rw [e6]
    rw [e7]
    exact h
theorem ref01_number.o28 (Z : List PanicEntry → PT) (Q : Int → Int → PT) : Ok Tryd.prog Tryd.f33.ntmps Z ref01_number.c12 (ref01_number.q19 Z Q) (ref01_number.j26 Z Q) := by
  rw [ref01_number.q15]; exact ok_block (ref01_number.o27 Z Q)
def ref01_number.s29 (Z : List PanicEntry → PT) (Q : Int → Int → PT) (s_0 : ByteArray) (at_1 : Int) (n_6 : Int) : PT :=
  (exK fun k => ref01_number.l18 Z Q k s_0 at_1 n_6 0)
theorem ref01_number.s29_eq (Z : List PanicEntry → PT) (Q : Int → Int → PT) (ρ : Fr) (s_0 : ByteArray) (at_1 : Int) (n_6 : Int) : (comp Tryd.prog Z ref01_number.c11 (thenK (ref01_number.j26 Z Q) (ref01_number.q19 Z Q))) (puts ρ [(0, (Value.string s_0)), (1, (Value.int .i64 at_1)), (6, (Value.int .u32 n_6))]) = ref01_number.s29 Z Q s_0 at_1 n_6 := by kernel_rfl
def ref01_number.j30 (Z : List PanicEntry → PT) (Q : Int → Int → PT) : Fr → PT := (fun ρ => atS (ρ 0) fun s_0 => atI .i64 (ρ 1) fun at_1 => atI .u32 (ρ 6) fun n_6 => (ref01_number.s29 Z Q s_0 at_1 n_6))
theorem ref01_number.s29_ok (Z : List PanicEntry → PT) (Q : Int → Int → PT) : Ok Tryd.prog Tryd.f33.ntmps Z ref01_number.c5 (ref01_number.q19 Z Q) (ref01_number.j30 Z Q) := by
  intro E he ρ w a hr h
  rw [ref01_number.q13] at he ⊢
  obtain ⟨s_0, e0, h⟩ := atS_e h
  obtain ⟨at_1, e1, h⟩ := atI_e h
  obtain ⟨n_6, e6, h⟩ := atI_e h
  exact ok_at [(0, (Value.string s_0)), (1, (Value.int .i64 at_1)), (6, (Value.int .u32 n_6))] (ok_seq (okC ref01_number.c11 _ (by kernel_rfl)) (ref01_number.o28 Z Q)) (puts_cons e0 (puts_cons e1 (puts_cons e6 (fun p hp => puts_nil hp)))) (ref01_number.s29_eq Z Q ρ s_0 at_1 n_6) he hr h
theorem ref01_number.o31 (Z : List PanicEntry → PT) (Q : Int → Int → PT) : Ok Tryd.prog Tryd.f33.ntmps Z ref01_number.c3 (ref01_number.q9 Z Q) (ref01_number.j30 Z Q) := by
  rw [ref01_number.q7]; exact ok_seq (ref01_number.s29_ok Z Q) (ref01_number.s8_ok Z Q)
def ref01_number.s32 (Z : List PanicEntry → PT) (Q : Int → Int → PT) (s_0 : ByteArray) (at_1 : Int) : PT :=
  (ref01_number.s29 Z Q s_0 at_1 0)
theorem ref01_number.s32_eq (Z : List PanicEntry → PT) (Q : Int → Int → PT) (ρ : Fr) (s_0 : ByteArray) (at_1 : Int) : (comp Tryd.prog Z ref01_number.c1 (thenK (comp Tryd.prog Z ref01_number.c2 (thenK (ref01_number.j30 Z Q) (ref01_number.q9 Z Q))) (ref01_number.q9 Z Q))) (puts ρ [(0, (Value.string s_0)), (1, (Value.int .i64 at_1))]) = ref01_number.s32 Z Q s_0 at_1 := by kernel_rfl
def ref01_number.j33 (Z : List PanicEntry → PT) (Q : Int → Int → PT) : Fr → PT := (fun ρ => atS (ρ 0) fun s_0 => atI .i64 (ρ 1) fun at_1 => (ref01_number.s32 Z Q s_0 at_1))
theorem ref01_number.s32_ok (Z : List PanicEntry → PT) (Q : Int → Int → PT) : Ok Tryd.prog Tryd.f33.ntmps Z ref01_number.body (ref01_number.q9 Z Q) (ref01_number.j33 Z Q) := by
  intro E he ρ w a hr h
  rw [ref01_number.q4] at he ⊢
  obtain ⟨s_0, e0, h⟩ := atS_e h
  obtain ⟨at_1, e1, h⟩ := atI_e h
  exact ok_at [(0, (Value.string s_0)), (1, (Value.int .i64 at_1))] (ok_seq (okC ref01_number.c1 _ (by kernel_rfl)) (ok_seq (okC ref01_number.c2 _ (by kernel_rfl)) (ref01_number.o31 Z Q))) (puts_cons e0 (puts_cons e1 (fun p hp => puts_nil hp))) (ref01_number.s32_eq Z Q ρ s_0 at_1) he hr h
def ref01_number.F (Z : List PanicEntry → PT) (Q : Int → Int → PT) (s_0 : ByteArray) (at_1 : Int) : PT :=
  (ref01_number.s32 Z Q s_0 at_1)
theorem ref01_number.vc (Z : List PanicEntry → PT) (Q : Int → Int → PT) (s_0 : ByteArray) (at_1 : Int) (w : World) (h : ref01_number.F Z Q s_0 at_1 w) : Calls Tryd.prog 33 ⟨[(Value.string s_0), (Value.int .i64 at_1)]⟩ w fun e w' => (∃ (r0 : Int) (r1 : Int), e = .returned (.tuple #[.int .u32 r0, .int .i64 r1]) ∧ Q r0 r1 w') ∨ ∃ c, e = .panicked c ∧ Z c w' := by
  refine (calls_of_ok (args := [(Value.string s_0), (Value.int .i64 at_1)]) (w := w) (rs := [.tmp 4, .tmp 5]) (fn := Tryd.f33) (c := ref01_number.body) Tryd.func33 (by kernel_rfl) (by kernel_rfl) (Nat.le_of_ble_eq_true (by kernel_rfl)) (ref01_number.s32_ok Z Q) (h)).mono fun e w' hR => ?_
  cases e with
  | returned v =>
    obtain ⟨x, y, rfl, hR⟩ := at2_e hR
    obtain ⟨xa, rfl, hR⟩ := atI_e hR
    obtain ⟨ya, rfl, hR⟩ := atI_e hR
    exact .inl ⟨xa, ya, rfl, hR⟩
  | panicked c => exact .inr ⟨c, rfl, hR⟩
  | outgrown => exact hR.elim
theorem ref01_number.vc0 (Q : Int → Int → PT) (s_0 : ByteArray) (at_1 : Int) (w : World) (h : ref01_number.F Z0 Q s_0 at_1 w) : Calls Tryd.prog 33 ⟨[(Value.string s_0), (Value.int .i64 at_1)]⟩ w fun e w' => (∃ (r0 : Int) (r1 : Int), e = .returned (.tuple #[.int .u32 r0, .int .i64 r1]) ∧ Q r0 r1 w') :=
  (ref01_number.vc Z0 Q s_0 at_1 w h).mono fun _ _ hR => hR.elim id fun ⟨_, _, hz⟩ => hz.elim
theorem ref01_number.cal {Z : List PanicEntry → PT} {Q : Int → Int → PT} {s_0 : ByteArray} {at_1 : Int} {w : World} (h : ref01_number.F Z Q s_0 at_1 w) : Go.Proofs.YtchhffabpgebmaaDoor.cal Tryd.prog Z 33 [(Value.string s_0), (Value.int .i64 at_1)] (isT2 fun x y => (isI .u32 fun r0 => (isI .i64 fun r1 => Q r0 r1) y) x) w := by
  refine (ref01_number.vc Z Q s_0 at_1 w h).mono fun e w' hR => ?_
  rcases hR with ⟨r0, r1, rfl, h⟩ | ⟨c, rfl, h⟩
  · show (isT2 fun x y => (isI .u32 fun r0 => (isI .i64 fun r1 => Q r0 r1) y) x) (.tuple #[.int .u32 r0, .int .i64 r1]) w'
    exact ⟨_, _, rfl, ⟨_, rfl, ⟨_, rfl, h⟩⟩⟩
  · exact h

/-! ### milepost/milepostref01.Parse: function 27 -/
noncomputable def ref01_Parse.body : Code := bodyC Tryd.f27
noncomputable def ref01_Parse.c1 : Code := sq1 ref01_Parse.body
noncomputable def ref01_Parse.c2 : Code := sq1 (sq2 ref01_Parse.body)
noncomputable def ref01_Parse.c3 : Code := sq1 (sq2 (sq2 ref01_Parse.body))
noncomputable def ref01_Parse.c4 : Code := sq2 (sq2 (sq2 ref01_Parse.body))
theorem ref01_Parse.q5 : ref01_Parse.body = .seq ref01_Parse.c1 (.seq ref01_Parse.c2 (.seq ref01_Parse.c3 ref01_Parse.c4)) := by kernel_rfl
noncomputable def ref01_Parse.c6 : Code := sq1 ref01_Parse.c4
noncomputable def ref01_Parse.c7 : Code := sq2 ref01_Parse.c4
theorem ref01_Parse.q8 : ref01_Parse.c4 = .seq ref01_Parse.c6 ref01_Parse.c7 := by kernel_rfl
noncomputable def ref01_Parse.c9 : Code := sq1 ref01_Parse.c7
noncomputable def ref01_Parse.c10 : Code := sq2 ref01_Parse.c7
theorem ref01_Parse.q11 : ref01_Parse.c7 = .seq ref01_Parse.c9 ref01_Parse.c10 := by kernel_rfl
noncomputable def ref01_Parse.c12 : Code := sq1 ref01_Parse.c10
noncomputable def ref01_Parse.c13 : Code := sq2 ref01_Parse.c10
theorem ref01_Parse.q14 : ref01_Parse.c10 = .seq ref01_Parse.c12 ref01_Parse.c13 := by kernel_rfl
def ref01_Parse.s15 (Z : List PanicEntry → PT) (Q : List Value → Int → PT) (s_0 : ByteArray) (t_2 : Addr) (h_10 : Addr) : PT :=
  (ldN 13 h_10 fun v66 => (cal Tryd.prog Z 26 [(Value.agg ⟨v66⟩)] (isS fun v67 => (pif (!(v67.toList == s_0.toList)) (stN 13 t_2 [(Value.int .u8 0), (Value.int .u8 0), (Value.int .u8 0), (Value.int .u8 0), (Value.int .u8 0), (Value.int .u8 0), (Value.int .u8 0), (Value.int .u8 0), (Value.int .u8 0), (Value.int .u8 0), (Value.int .u8 0), (Value.int .u8 0), (Value.int .u8 0)] (ldN 13 t_2 fun v68 => (Q v68 12))) (ldN 13 h_10 fun v69 => (stN 13 t_2 v69 (ldN 13 t_2 fun v70 => (Q v70 0))))))))
def ref01_Parse.q16 (Z : List PanicEntry → PT) (Q : List Value → Int → PT) : QF := bodyQ Tryd.prog [.cell 2 26, .tmp 3] (fun v => at2 v fun x y => atN x fun xa => atI .i64 y fun ya => Q xa ya)
theorem ref01_Parse.s15_eq (Z : List PanicEntry → PT) (Q : List Value → Int → PT) (ρ : Fr) (s_0 : ByteArray) (t_2 : Addr) (h_10 : Addr) : comp Tryd.prog Z ref01_Parse.c13 (ref01_Parse.q16 Z Q) (puts ρ [(0, (Value.string s_0)), (2, (Value.pointer (some t_2))), (10, (Value.pointer (some h_10)))]) = ref01_Parse.s15 Z Q s_0 t_2 h_10 := by kernel_rfl
def ref01_Parse.j17 (Z : List PanicEntry → PT) (Q : List Value → Int → PT) : Fr → PT := (fun ρ => atS (ρ 0) fun s_0 => atA (ρ 2) fun t_2 => atA (ρ 10) fun h_10 => (ref01_Parse.s15 Z Q s_0 t_2 h_10))
theorem ref01_Parse.s15_ok (Z : List PanicEntry → PT) (Q : List Value → Int → PT) : Ok Tryd.prog Tryd.f27.ntmps Z ref01_Parse.c13 (ref01_Parse.q16 Z Q) (ref01_Parse.j17 Z Q) := by
  intro E he ρ w a hr h
  obtain ⟨s_0, e0, h⟩ := atS_e h
  obtain ⟨t_2, e2, h⟩ := atA_e h
  obtain ⟨h_10, e10, h⟩ := atA_e h
  exact ok_at [(0, (Value.string s_0)), (2, (Value.pointer (some t_2))), (10, (Value.pointer (some h_10)))] (okC ref01_Parse.c13 (ref01_Parse.q16 Z Q) (by kernel_rfl)) (puts_cons e0 (puts_cons e2 (puts_cons e10 (fun p hp => puts_nil hp)))) (ref01_Parse.s15_eq Z Q ρ s_0 t_2 h_10) he hr h
def ref01_Parse.s18 (Z : List PanicEntry → PT) (Q : List Value → Int → PT) (s_0 : ByteArray) (t_2 : Addr) (n_4 : Option Addr) (n_4n n_4c : Nat) : PT :=
  (drawn fun S71 => (ixS n_4 n_4n 0 1 fun v72 => (hI S71 .u32 v72 fun v73 => (ixS n_4 n_4n 1 1 fun v74 => (hI S71 .u32 v74 fun v75 => (ixS n_4 n_4n 2 1 fun v76 => (hI S71 .u32 v76 fun v77 => (ixS n_4 n_4n 3 1 fun v78 => (hI S71 .u32 v78 fun v79 => (ixS n_4 n_4n 5 1 fun v80 => (hI S71 .u32 v80 fun v81 => (ixS n_4 n_4n 6 1 fun v82 => (hI S71 .u32 v82 fun v83 => (ixS n_4 n_4n 7 1 fun v84 => (hI S71 .u32 v84 fun v85 => (ixS n_4 n_4n 8 1 fun v86 => (hI S71 .u32 v86 fun v87 => (ixS n_4 n_4n 4 1 fun v88 => (hI S71 .u32 v88 fun v89 => (ixS n_4 n_4n 9 1 fun v90 => (hI S71 .u32 v90 fun v91 => (ixS n_4 n_4n 10 1 fun v92 => (hI S71 .u32 v92 fun v93 => (fun w98 => (cal Tryd.prog Z 12 [(Value.int .u32 (IntKind.wrap .u32 ((IntKind.wrap .u32 ((IntKind.wrap .u32 ((IntKind.wrap .u32 ((IntKind.wrap .u32 ((IntKind.wrap .u32 (v73 * 256)) + v75)) * 256)) + v77)) * 256)) + v79))), (Value.int .u32 (IntKind.wrap .u32 ((IntKind.wrap .u32 ((IntKind.wrap .u32 ((IntKind.wrap .u32 ((IntKind.wrap .u32 ((IntKind.wrap .u32 (v81 * 256)) + v83)) * 256)) + v85)) * 256)) + v87))), (Value.int .u32 v89), (Value.int .u32 v91), (Value.int .u32 v93)] (isN fun v94 => (sAnd S71 (newC 26 [(Value.int .u8 0), (Value.int .u8 0), (Value.int .u8 0), (Value.int .u8 0), (Value.int .u8 0), (Value.int .u8 0), (Value.int .u8 0), (Value.int .u8 0), (Value.int .u8 0), (Value.int .u8 0), (Value.int .u8 0), (Value.int .u8 0), (Value.int .u8 0)] fun h95 => (sAnd S71 (stN 13 h95 v94 (ref01_Parse.s15 Z Q s_0 t_2 h95))))))) w98 ∧ (newC 26 [(Value.int .u8 0), (Value.int .u8 0), (Value.int .u8 0), (Value.int .u8 0), (Value.int .u8 0), (Value.int .u8 0), (Value.int .u8 0), (Value.int .u8 0), (Value.int .u8 0), (Value.int .u8 0), (Value.int .u8 0), (Value.int .u8 0), (Value.int .u8 0)] fun h96 => (sAnd S71 (cal Tryd.prog Z 12 [(Value.int .u32 (IntKind.wrap .u32 ((IntKind.wrap .u32 ((IntKind.wrap .u32 ((IntKind.wrap .u32 ((IntKind.wrap .u32 ((IntKind.wrap .u32 (v73 * 256)) + v75)) * 256)) + v77)) * 256)) + v79))), (Value.int .u32 (IntKind.wrap .u32 ((IntKind.wrap .u32 ((IntKind.wrap .u32 ((IntKind.wrap .u32 ((IntKind.wrap .u32 ((IntKind.wrap .u32 (v81 * 256)) + v83)) * 256)) + v85)) * 256)) + v87))), (Value.int .u32 v89), (Value.int .u32 v91), (Value.int .u32 v93)] (isN fun v97 => (sAnd S71 (stN 13 h96 v97 (ref01_Parse.s15 Z Q s_0 t_2 h96))))))) w98))))))))))))))))))))))))
theorem ref01_Parse.s18_eq (Z : List PanicEntry → PT) (Q : List Value → Int → PT) (ρ : Fr) (s_0 : ByteArray) (t_2 : Addr) (n_4 : Option Addr) (n_4n n_4c : Nat) : (comp Tryd.prog Z ref01_Parse.c12 (thenK (ref01_Parse.j17 Z Q) (ref01_Parse.q16 Z Q))) (puts ρ [(0, (Value.string s_0)), (2, (Value.pointer (some t_2))), (4, (Value.slice n_4 n_4n n_4c))]) = ref01_Parse.s18 Z Q s_0 t_2 n_4 n_4n n_4c := by kernel_rfl
def ref01_Parse.j19 (Z : List PanicEntry → PT) (Q : List Value → Int → PT) : Fr → PT := (fun ρ => atS (ρ 0) fun s_0 => atA (ρ 2) fun t_2 => atL (ρ 4) fun n_4 n_4n n_4c => (ref01_Parse.s18 Z Q s_0 t_2 n_4 n_4n n_4c))
theorem ref01_Parse.s18_ok (Z : List PanicEntry → PT) (Q : List Value → Int → PT) : Ok Tryd.prog Tryd.f27.ntmps Z ref01_Parse.c10 (ref01_Parse.q16 Z Q) (ref01_Parse.j19 Z Q) := by
  intro E he ρ w a hr h
  rw [ref01_Parse.q14] at he ⊢
  obtain ⟨s_0, e0, h⟩ := atS_e h
  obtain ⟨t_2, e2, h⟩ := atA_e h
  obtain ⟨n_4, n_4n, n_4c, e4, h⟩ := atL_e h
  exact ok_at [(0, (Value.string s_0)), (2, (Value.pointer (some t_2))), (4, (Value.slice n_4 n_4n n_4c))] (ok_seq (okC ref01_Parse.c12 _ (by kernel_rfl)) (ref01_Parse.s15_ok Z Q)) (puts_cons e0 (puts_cons e2 (puts_cons e4 (fun p hp => puts_nil hp)))) (ref01_Parse.s18_eq Z Q ρ s_0 t_2 n_4 n_4n n_4c) he hr h
noncomputable def ref01_Parse.c20 : Code := sq1 ref01_Parse.c9
noncomputable def ref01_Parse.c21 : Code := sq2 ref01_Parse.c9
theorem ref01_Parse.q22 : ref01_Parse.c9 = .seq ref01_Parse.c20 ref01_Parse.c21 := by kernel_rfl
noncomputable def ref01_Parse.c23 : Code := blk ref01_Parse.c21
theorem ref01_Parse.q24 : ref01_Parse.c21 = .block 2 ref01_Parse.c23 := by kernel_rfl
noncomputable def ref01_Parse.c25 : Code := lop ref01_Parse.c23
theorem ref01_Parse.q26 : ref01_Parse.c23 = .loop ref01_Parse.c25 := by kernel_rfl
def ref01_Parse.q28 (Z : List PanicEntry → PT) (Q : List Value → Int → PT) : QF := thenK (ref01_Parse.j19 Z Q) (ref01_Parse.q16 Z Q)
def ref01_Parse.q29 (Z : List PanicEntry → PT) (Q : List Value → Int → PT) : QF := inBl 2 (ref01_Parse.q28 Z Q)
noncomputable def ref01_Parse.c30 : Code := sq1 ref01_Parse.c25
noncomputable def ref01_Parse.c31 : Code := sq2 ref01_Parse.c25
theorem ref01_Parse.q32 : ref01_Parse.c25 = .seq ref01_Parse.c30 ref01_Parse.c31 := by kernel_rfl
noncomputable def ref01_Parse.c33 : Code := sq1 ref01_Parse.c31
noncomputable def ref01_Parse.c34 : Code := sq2 ref01_Parse.c31
theorem ref01_Parse.q35 : ref01_Parse.c31 = .seq ref01_Parse.c33 ref01_Parse.c34 := by kernel_rfl
def ref01_Parse.s36 (Z : List PanicEntry → PT) (Q : List Value → Int → PT) (X1 : ByteArray → Addr → Option Addr → Nat → Nat → Int → PT) (s_0 : ByteArray) (t_2 : Addr) (n_4 : Option Addr) (n_4n n_4c : Nat) (k_9 : Int) : PT :=
  (X1 s_0 t_2 n_4 n_4n n_4c (IntKind.wrap .i64 (k_9 + 1)))
def ref01_Parse.j37 (Z : List PanicEntry → PT) (Q : List Value → Int → PT) (X1 : ByteArray → Addr → Option Addr → Nat → Nat → Int → PT) : Fr → PT := (fun ρ => atS (ρ 0) fun s_0 => atA (ρ 2) fun t_2 => atL (ρ 4) fun n_4 n_4n n_4c => atI .i64 (ρ 9) fun k_9 => (X1 s_0 t_2 n_4 n_4n n_4c k_9))
def ref01_Parse.q38 (Z : List PanicEntry → PT) (Q : List Value → Int → PT) (X1 : ByteArray → Addr → Option Addr → Nat → Nat → Int → PT) : QF := thenK (ref01_Parse.j37 Z Q X1) (ref01_Parse.q29 Z Q)
theorem ref01_Parse.s36_eq (Z : List PanicEntry → PT) (Q : List Value → Int → PT) (X1 : ByteArray → Addr → Option Addr → Nat → Nat → Int → PT) (ρ : Fr) (s_0 : ByteArray) (t_2 : Addr) (n_4 : Option Addr) (n_4n n_4c : Nat) (k_9 : Int) : comp Tryd.prog Z ref01_Parse.c34 (ref01_Parse.q38 Z Q X1) (puts ρ [(0, (Value.string s_0)), (2, (Value.pointer (some t_2))), (4, (Value.slice n_4 n_4n n_4c)), (9, (Value.int .i64 k_9))]) = ref01_Parse.s36 Z Q X1 s_0 t_2 n_4 n_4n n_4c k_9 := by kernel_rfl
def ref01_Parse.j39 (Z : List PanicEntry → PT) (Q : List Value → Int → PT) (X1 : ByteArray → Addr → Option Addr → Nat → Nat → Int → PT) : Fr → PT := (fun ρ => atS (ρ 0) fun s_0 => atA (ρ 2) fun t_2 => atL (ρ 4) fun n_4 n_4n n_4c => atI .i64 (ρ 9) fun k_9 => (ref01_Parse.s36 Z Q X1 s_0 t_2 n_4 n_4n n_4c k_9))
theorem ref01_Parse.s36_ok (Z : List PanicEntry → PT) (Q : List Value → Int → PT) (X1 : ByteArray → Addr → Option Addr → Nat → Nat → Int → PT) : Ok Tryd.prog Tryd.f27.ntmps Z ref01_Parse.c34 (ref01_Parse.q38 Z Q X1) (ref01_Parse.j39 Z Q X1) := by
  intro E he ρ w a hr h
  obtain ⟨s_0, e0, h⟩ := atS_e h
  obtain ⟨t_2, e2, h⟩ := atA_e h
  obtain ⟨n_4, n_4n, n_4c, e4, h⟩ := atL_e h
  obtain ⟨k_9, e9, h⟩ := atI_e h
  exact ok_at [(0, (Value.string s_0)), (2, (Value.pointer (some t_2))), (4, (Value.slice n_4 n_4n n_4c)), (9, (Value.int .i64 k_9))] (okC ref01_Parse.c34 (ref01_Parse.q38 Z Q X1) (by kernel_rfl)) (puts_cons e0 (puts_cons e2 (puts_cons e4 (puts_cons e9 (fun p hp => puts_nil hp))))) (ref01_Parse.s36_eq Z Q X1 ρ s_0 t_2 n_4 n_4n n_4c k_9) he hr h
noncomputable def ref01_Parse.c40 : Code := blk ref01_Parse.c33
theorem ref01_Parse.q41 : ref01_Parse.c33 = .block 3 ref01_Parse.c40 := by kernel_rfl
noncomputable def ref01_Parse.c42 : Code := sq1 ref01_Parse.c40
noncomputable def ref01_Parse.c43 : Code := sq2 ref01_Parse.c40
theorem ref01_Parse.q44 : ref01_Parse.c40 = .seq ref01_Parse.c42 ref01_Parse.c43 := by kernel_rfl
def ref01_Parse.s45 (Z : List PanicEntry → PT) (Q : List Value → Int → PT) (X1 : ByteArray → Addr → Option Addr → Nat → Nat → Int → PT) (s_0 : ByteArray) (t_2 : Addr) (n_4 : Option Addr) (n_4n n_4c : Nat) (k_9 : Int) (t_53 : Bool) : PT :=
  (pif t_53 (stN 13 t_2 [(Value.int .u8 0), (Value.int .u8 0), (Value.int .u8 0), (Value.int .u8 0), (Value.int .u8 0), (Value.int .u8 0), (Value.int .u8 0), (Value.int .u8 0), (Value.int .u8 0), (Value.int .u8 0), (Value.int .u8 0), (Value.int .u8 0), (Value.int .u8 0)] (ldN 13 t_2 fun v141 => (Q v141 12))) (ref01_Parse.s36 Z Q X1 s_0 t_2 n_4 n_4n n_4c k_9))
def ref01_Parse.q46 (Z : List PanicEntry → PT) (Q : List Value → Int → PT) (X1 : ByteArray → Addr → Option Addr → Nat → Nat → Int → PT) : QF := thenK (ref01_Parse.j39 Z Q X1) (ref01_Parse.q38 Z Q X1)
def ref01_Parse.q47 (Z : List PanicEntry → PT) (Q : List Value → Int → PT) (X1 : ByteArray → Addr → Option Addr → Nat → Nat → Int → PT) : QF := inBl 3 (ref01_Parse.q46 Z Q X1)
theorem ref01_Parse.s45_eq (Z : List PanicEntry → PT) (Q : List Value → Int → PT) (X1 : ByteArray → Addr → Option Addr → Nat → Nat → Int → PT) (ρ : Fr) (s_0 : ByteArray) (t_2 : Addr) (n_4 : Option Addr) (n_4n n_4c : Nat) (k_9 : Int) (t_53 : Bool) : comp Tryd.prog Z ref01_Parse.c43 (ref01_Parse.q47 Z Q X1) (puts ρ [(0, (Value.string s_0)), (2, (Value.pointer (some t_2))), (4, (Value.slice n_4 n_4n n_4c)), (9, (Value.int .i64 k_9)), (53, (Value.bool t_53))]) = ref01_Parse.s45 Z Q X1 s_0 t_2 n_4 n_4n n_4c k_9 t_53 := by kernel_rfl
def ref01_Parse.j48 (Z : List PanicEntry → PT) (Q : List Value → Int → PT) (X1 : ByteArray → Addr → Option Addr → Nat → Nat → Int → PT) : Fr → PT := (fun ρ => atS (ρ 0) fun s_0 => atA (ρ 2) fun t_2 => atL (ρ 4) fun n_4 n_4n n_4c => atI .i64 (ρ 9) fun k_9 => atB (ρ 53) fun t_53 => (ref01_Parse.s45 Z Q X1 s_0 t_2 n_4 n_4n n_4c k_9 t_53))
theorem ref01_Parse.s45_ok (Z : List PanicEntry → PT) (Q : List Value → Int → PT) (X1 : ByteArray → Addr → Option Addr → Nat → Nat → Int → PT) : Ok Tryd.prog Tryd.f27.ntmps Z ref01_Parse.c43 (ref01_Parse.q47 Z Q X1) (ref01_Parse.j48 Z Q X1) := by
  intro E he ρ w a hr h
  obtain ⟨s_0, e0, h⟩ := atS_e h
  obtain ⟨t_2, e2, h⟩ := atA_e h
  obtain ⟨n_4, n_4n, n_4c, e4, h⟩ := atL_e h
  obtain ⟨k_9, e9, h⟩ := atI_e h
  obtain ⟨t_53, e53, h⟩ := atB_e h
  exact ok_at [(0, (Value.string s_0)), (2, (Value.pointer (some t_2))), (4, (Value.slice n_4 n_4n n_4c)), (9, (Value.int .i64 k_9)), (53, (Value.bool t_53))] (okC ref01_Parse.c43 (ref01_Parse.q47 Z Q X1) (by kernel_rfl)) (puts_cons e0 (puts_cons e2 (puts_cons e4 (puts_cons e9 (puts_cons e53 (fun p hp => puts_nil hp)))))) (ref01_Parse.s45_eq Z Q X1 ρ s_0 t_2 n_4 n_4n n_4c k_9 t_53) he hr h
def ref01_Parse.s49 (Z : List PanicEntry → PT) (Q : List Value → Int → PT) (X1 : ByteArray → Addr → Option Addr → Nat → Nat → Int → PT) (s_0 : ByteArray) (t_2 : Addr) (n_4 : Option Addr) (n_4n n_4c : Nat) (k_9 : Int) : PT :=
  (cnd ((5 : Int) ≠ 0) (pif ((Int.tmod k_9 5) == 4) (ixS n_4 n_4n k_9 1 fun v142 => (ldI .u32 v142 fun v143 => (pif (decide (v143 > 65535)) (ref01_Parse.s45 Z Q X1 s_0 t_2 n_4 n_4n n_4c k_9 true) (cnd ((5 : Int) ≠ 0) (pif ((Int.tmod k_9 5) != 4) (ixS n_4 n_4n k_9 1 fun v144 => (ldI .u32 v144 fun v145 => (ref01_Parse.s45 Z Q X1 s_0 t_2 n_4 n_4n n_4c k_9 (decide (v145 > 255))))) (ref01_Parse.s45 Z Q X1 s_0 t_2 n_4 n_4n n_4c k_9 false)))))) (cnd ((5 : Int) ≠ 0) (pif ((Int.tmod k_9 5) != 4) (ixS n_4 n_4n k_9 1 fun v146 => (ldI .u32 v146 fun v147 => (ref01_Parse.s45 Z Q X1 s_0 t_2 n_4 n_4n n_4c k_9 (decide (v147 > 255))))) (ref01_Parse.s45 Z Q X1 s_0 t_2 n_4 n_4n n_4c k_9 false)))))
theorem ref01_Parse.s49_eq (Z : List PanicEntry → PT) (Q : List Value → Int → PT) (X1 : ByteArray → Addr → Option Addr → Nat → Nat → Int → PT) (ρ : Fr) (s_0 : ByteArray) (t_2 : Addr) (n_4 : Option Addr) (n_4n n_4c : Nat) (k_9 : Int) : (comp Tryd.prog Z ref01_Parse.c42 (thenK (ref01_Parse.j48 Z Q X1) (ref01_Parse.q47 Z Q X1))) (puts ρ [(0, (Value.string s_0)), (2, (Value.pointer (some t_2))), (4, (Value.slice n_4 n_4n n_4c)), (9, (Value.int .i64 k_9))]) = ref01_Parse.s49 Z Q X1 s_0 t_2 n_4 n_4n n_4c k_9 := by kernel_rfl
def ref01_Parse.j50 (Z : List PanicEntry → PT) (Q : List Value → Int → PT) (X1 : ByteArray → Addr → Option Addr → Nat → Nat → Int → PT) : Fr → PT := (fun ρ => atS (ρ 0) fun s_0 => atA (ρ 2) fun t_2 => atL (ρ 4) fun n_4 n_4n n_4c => atI .i64 (ρ 9) fun k_9 => (ref01_Parse.s49 Z Q X1 s_0 t_2 n_4 n_4n n_4c k_9))
theorem ref01_Parse.s49_ok (Z : List PanicEntry → PT) (Q : List Value → Int → PT) (X1 : ByteArray → Addr → Option Addr → Nat → Nat → Int → PT) : Ok Tryd.prog Tryd.f27.ntmps Z ref01_Parse.c40 (ref01_Parse.q47 Z Q X1) (ref01_Parse.j50 Z Q X1) := by
  intro E he ρ w a hr h
  rw [ref01_Parse.q44] at he ⊢
  obtain ⟨s_0, e0, h⟩ := atS_e h
  obtain ⟨t_2, e2, h⟩ := atA_e h
  obtain ⟨n_4, n_4n, n_4c, e4, h⟩ := atL_e h
  obtain ⟨k_9, e9, h⟩ := atI_e h
  exact ok_at [(0, (Value.string s_0)), (2, (Value.pointer (some t_2))), (4, (Value.slice n_4 n_4n n_4c)), (9, (Value.int .i64 k_9))] (ok_seq (okC ref01_Parse.c42 _ (by kernel_rfl)) (ref01_Parse.s45_ok Z Q X1)) (puts_cons e0 (puts_cons e2 (puts_cons e4 (puts_cons e9 (fun p hp => puts_nil hp))))) (ref01_Parse.s49_eq Z Q X1 ρ s_0 t_2 n_4 n_4n n_4c k_9) he hr h
theorem ref01_Parse.o51 (Z : List PanicEntry → PT) (Q : List Value → Int → PT) (X1 : ByteArray → Addr → Option Addr → Nat → Nat → Int → PT) : Ok Tryd.prog Tryd.f27.ntmps Z ref01_Parse.c33 (ref01_Parse.q46 Z Q X1) (ref01_Parse.j50 Z Q X1) := by
  rw [ref01_Parse.q41]; exact ok_block (ref01_Parse.s49_ok Z Q X1)
theorem ref01_Parse.o52 (Z : List PanicEntry → PT) (Q : List Value → Int → PT) (X1 : ByteArray → Addr → Option Addr → Nat → Nat → Int → PT) : Ok Tryd.prog Tryd.f27.ntmps Z ref01_Parse.c31 (ref01_Parse.q38 Z Q X1) (ref01_Parse.j50 Z Q X1) := by
  rw [ref01_Parse.q35]; exact ok_seq (ref01_Parse.o51 Z Q X1) (ref01_Parse.s36_ok Z Q X1)
def ref01_Parse.s53 (Z : List PanicEntry → PT) (Q : List Value → Int → PT) (X1 : ByteArray → Addr → Option Addr → Nat → Nat → Int → PT) (s_0 : ByteArray) (t_2 : Addr) (n_4 : Option Addr) (n_4n n_4c : Nat) (k_9 : Int) : PT :=
  (pif (decide (k_9 < 11)) (ref01_Parse.s49 Z Q X1 s_0 t_2 n_4 n_4n n_4c k_9) (ref01_Parse.s18 Z Q s_0 t_2 n_4 n_4n n_4c))
theorem ref01_Parse.s53_eq (Z : List PanicEntry → PT) (Q : List Value → Int → PT) (X1 : ByteArray → Addr → Option Addr → Nat → Nat → Int → PT) (ρ : Fr) (s_0 : ByteArray) (t_2 : Addr) (n_4 : Option Addr) (n_4n n_4c : Nat) (k_9 : Int) : (comp Tryd.prog Z ref01_Parse.c30 (thenK (ref01_Parse.j50 Z Q X1) (ref01_Parse.q38 Z Q X1))) (puts ρ [(0, (Value.string s_0)), (2, (Value.pointer (some t_2))), (4, (Value.slice n_4 n_4n n_4c)), (9, (Value.int .i64 k_9))]) = ref01_Parse.s53 Z Q X1 s_0 t_2 n_4 n_4n n_4c k_9 := by kernel_rfl
def ref01_Parse.j54 (Z : List PanicEntry → PT) (Q : List Value → Int → PT) (X1 : ByteArray → Addr → Option Addr → Nat → Nat → Int → PT) : Fr → PT := (fun ρ => atS (ρ 0) fun s_0 => atA (ρ 2) fun t_2 => atL (ρ 4) fun n_4 n_4n n_4c => atI .i64 (ρ 9) fun k_9 => (ref01_Parse.s53 Z Q X1 s_0 t_2 n_4 n_4n n_4c k_9))
theorem ref01_Parse.s53_ok (Z : List PanicEntry → PT) (Q : List Value → Int → PT) (X1 : ByteArray → Addr → Option Addr → Nat → Nat → Int → PT) : Ok Tryd.prog Tryd.f27.ntmps Z ref01_Parse.c25 (ref01_Parse.q38 Z Q X1) (ref01_Parse.j54 Z Q X1) := by
  intro E he ρ w a hr h
  rw [ref01_Parse.q32] at he ⊢
  obtain ⟨s_0, e0, h⟩ := atS_e h
  obtain ⟨t_2, e2, h⟩ := atA_e h
  obtain ⟨n_4, n_4n, n_4c, e4, h⟩ := atL_e h
  obtain ⟨k_9, e9, h⟩ := atI_e h
  exact ok_at [(0, (Value.string s_0)), (2, (Value.pointer (some t_2))), (4, (Value.slice n_4 n_4n n_4c)), (9, (Value.int .i64 k_9))] (ok_seq (okC ref01_Parse.c30 _ (by kernel_rfl)) (ref01_Parse.o52 Z Q X1)) (puts_cons e0 (puts_cons e2 (puts_cons e4 (puts_cons e9 (fun p hp => puts_nil hp))))) (ref01_Parse.s53_eq Z Q X1 ρ s_0 t_2 n_4 n_4n n_4c k_9) he hr h
def ref01_Parse.l27 (Z : List PanicEntry → PT) (Q : List Value → Int → PT) : Nat → ByteArray → Addr → Option Addr → Nat → Nat → Int → PT
  | 0, _, _, _, _, _, _ => bad
  | k + 1, s_0, t_2, n_4, n_4n, n_4c, k_9 => (ref01_Parse.s53 Z Q (ref01_Parse.l27 Z Q k) s_0 t_2 n_4 n_4n n_4c k_9)
def ref01_Parse.j55 (Z : List PanicEntry → PT) (Q : List Value → Int → PT) (k : Nat) : Fr → PT := (fun ρ => atS (ρ 0) fun s_0 => atA (ρ 2) fun t_2 => atL (ρ 4) fun n_4 n_4n n_4c => atI .i64 (ρ 9) fun k_9 => (ref01_Parse.l27 Z Q k s_0 t_2 n_4 n_4n n_4c k_9))
def ref01_Parse.j56 (Z : List PanicEntry → PT) (Q : List Value → Int → PT) : Fr → PT := (fun ρ => atS (ρ 0) fun s_0 => atA (ρ 2) fun t_2 => atL (ρ 4) fun n_4 n_4n n_4c => atI .i64 (ρ 9) fun k_9 => (exK fun k => ref01_Parse.l27 Z Q k s_0 t_2 n_4 n_4n n_4c k_9))
theorem ref01_Parse.o57 (Z : List PanicEntry → PT) (Q : List Value → Int → PT) : Ok Tryd.prog Tryd.f27.ntmps Z ref01_Parse.c23 (ref01_Parse.q29 Z Q) (ref01_Parse.j56 Z Q) := by
  rw [ref01_Parse.q26]
  refine Ok.imp (ok_loop (J := ref01_Parse.j55 Z Q) ?_ ?_) ?_
  · intro ρ w h
    obtain ⟨s_0, e0, h⟩ := atS_e h
    obtain ⟨t_2, e2, h⟩ := atA_e h
    obtain ⟨n_4, n_4n, n_4c, e4, h⟩ := atL_e h
    obtain ⟨k_9, e9, h⟩ := atI_e h
    exact h
  · intro k
    refine Ok.imp (ref01_Parse.s53_ok Z Q (ref01_Parse.l27 Z Q k)) fun ρ w h => ?_
    obtain ⟨s_0, e0, h⟩ := atS_e h
    obtain ⟨t_2, e2, h⟩ := atA_e h
    obtain ⟨n_4, n_4n, n_4c, e4, h⟩ := atL_e h
    obtain ⟨k_9, e9, h⟩ := atI_e h
    show (ref01_Parse.j54 Z Q (ref01_Parse.l27 Z Q k)) ρ w
    simp only [ref01_Parse.j54]
    rw [e0]
    rw [e2]
    rw [e4]
    rw [e9]
    exact h
  · intro ρ w h
    obtain ⟨s_0, e0, h⟩ := atS_e h
    obtain ⟨t_2, e2, h⟩ := atA_e h
    obtain ⟨n_4, n_4n, n_4c, e4, h⟩ := atL_e h
    obtain ⟨k_9, e9, h⟩ := atI_e h
    obtain ⟨k, h⟩ := h
    refine ⟨k, ?_⟩
    show (atS (ρ 0) fun s_0 => atA (ρ 2) fun t_2 => atL (ρ 4) fun n_4 n_4n n_4c => atI .i64 (ρ 9) fun k_9 => (ref01_Parse.l27 Z Q k s_0 t_2 n_4 n_4n n_4c k_9)) w
    rw [e0]
    rw [e2]
    rw [e4]
    rw [e9]
    exact h
theorem ref01_Parse.o58 (Z : List PanicEntry → PT) (Q : List Value → Int → PT) : Ok Tryd.prog Tryd.f27.ntmps Z ref01_Parse.c21 (ref01_Parse.q28 Z Q) (ref01_Parse.j56 Z Q) := by
  rw [ref01_Parse.q24]; exact ok_block (ref01_Parse.o57 Z Q)
def ref01_Parse.s59 (Z : List PanicEntry → PT) (Q : List Value → Int → PT) (s_0 : ByteArray) (t_2 : Addr) (n_4 : Option Addr) (n_4n n_4c : Nat) : PT :=
  (exK fun k => ref01_Parse.l27 Z Q k s_0 t_2 n_4 n_4n n_4c 0)
theorem ref01_Parse.s59_eq (Z : List PanicEntry → PT) (Q : List Value → Int → PT) (ρ : Fr) (s_0 : ByteArray) (t_2 : Addr) (n_4 : Option Addr) (n_4n n_4c : Nat) : (comp Tryd.prog Z ref01_Parse.c20 (thenK (ref01_Parse.j56 Z Q) (ref01_Parse.q28 Z Q))) (puts ρ [(0, (Value.string s_0)), (2, (Value.pointer (some t_2))), (4, (Value.slice n_4 n_4n n_4c))]) = ref01_Parse.s59 Z Q s_0 t_2 n_4 n_4n n_4c := by kernel_rfl
def ref01_Parse.j60 (Z : List PanicEntry → PT) (Q : List Value → Int → PT) : Fr → PT := (fun ρ => atS (ρ 0) fun s_0 => atA (ρ 2) fun t_2 => atL (ρ 4) fun n_4 n_4n n_4c => (ref01_Parse.s59 Z Q s_0 t_2 n_4 n_4n n_4c))
theorem ref01_Parse.s59_ok (Z : List PanicEntry → PT) (Q : List Value → Int → PT) : Ok Tryd.prog Tryd.f27.ntmps Z ref01_Parse.c9 (ref01_Parse.q28 Z Q) (ref01_Parse.j60 Z Q) := by
  intro E he ρ w a hr h
  rw [ref01_Parse.q22] at he ⊢
  obtain ⟨s_0, e0, h⟩ := atS_e h
  obtain ⟨t_2, e2, h⟩ := atA_e h
  obtain ⟨n_4, n_4n, n_4c, e4, h⟩ := atL_e h
  exact ok_at [(0, (Value.string s_0)), (2, (Value.pointer (some t_2))), (4, (Value.slice n_4 n_4n n_4c))] (ok_seq (okC ref01_Parse.c20 _ (by kernel_rfl)) (ref01_Parse.o58 Z Q)) (puts_cons e0 (puts_cons e2 (puts_cons e4 (fun p hp => puts_nil hp)))) (ref01_Parse.s59_eq Z Q ρ s_0 t_2 n_4 n_4n n_4c) he hr h
theorem ref01_Parse.o61 (Z : List PanicEntry → PT) (Q : List Value → Int → PT) : Ok Tryd.prog Tryd.f27.ntmps Z ref01_Parse.c7 (ref01_Parse.q16 Z Q) (ref01_Parse.j60 Z Q) := by
  rw [ref01_Parse.q11]; exact ok_seq (ref01_Parse.s59_ok Z Q) (ref01_Parse.s18_ok Z Q)
noncomputable def ref01_Parse.c62 : Code := sq1 ref01_Parse.c6
noncomputable def ref01_Parse.c63 : Code := sq2 ref01_Parse.c6
theorem ref01_Parse.q64 : ref01_Parse.c6 = .seq ref01_Parse.c62 ref01_Parse.c63 := by kernel_rfl
noncomputable def ref01_Parse.c65 : Code := blk ref01_Parse.c63
theorem ref01_Parse.q66 : ref01_Parse.c63 = .block 0 ref01_Parse.c65 := by kernel_rfl
noncomputable def ref01_Parse.c67 : Code := lop ref01_Parse.c65
theorem ref01_Parse.q68 : ref01_Parse.c65 = .loop ref01_Parse.c67 := by kernel_rfl
def ref01_Parse.q70 (Z : List PanicEntry → PT) (Q : List Value → Int → PT) : QF := thenK (ref01_Parse.j60 Z Q) (ref01_Parse.q16 Z Q)
def ref01_Parse.q71 (Z : List PanicEntry → PT) (Q : List Value → Int → PT) : QF := inBl 0 (ref01_Parse.q70 Z Q)
def ref01_Parse.s72 (Z : List PanicEntry → PT) (Q : List Value → Int → PT) (X1 : ByteArray → Addr → Option Addr → Nat → Nat → Int → Int → PT) (s_0 : ByteArray) (t_2 : Addr) (n_4 : Option Addr) (n_4n n_4c : Nat) (at_5 : Int) (k_6 : Int) : PT :=
  (pif (decide (k_6 < 11)) (cal Tryd.prog Z 33 [(Value.string s_0), (Value.int .i64 at_5)] (isT2 fun t164 t165 => (isI .u32 fun v166 => ((isI .i64 fun v167 => (newC 22 [(Value.int .u32 v166)] fun v168 => (runL Tryd.prog (bi .append #[60, 60] 60 [false, false] [(Value.slice n_4 n_4n n_4c), (Value.slice (some v168) 1 1)]) fun v169 v169n v169c => (X1 s_0 t_2 v169 v169n v169c (IntKind.wrap .i64 (v167 + 1)) (IntKind.wrap .i64 (k_6 + 1)))))) t165)) t164)) (ref01_Parse.s59 Z Q s_0 t_2 n_4 n_4n n_4c))
def ref01_Parse.j73 (Z : List PanicEntry → PT) (Q : List Value → Int → PT) (X1 : ByteArray → Addr → Option Addr → Nat → Nat → Int → Int → PT) : Fr → PT := (fun ρ => atS (ρ 0) fun s_0 => atA (ρ 2) fun t_2 => atL (ρ 4) fun n_4 n_4n n_4c => atI .i64 (ρ 5) fun at_5 => atI .i64 (ρ 6) fun k_6 => (X1 s_0 t_2 n_4 n_4n n_4c at_5 k_6))
def ref01_Parse.q74 (Z : List PanicEntry → PT) (Q : List Value → Int → PT) (X1 : ByteArray → Addr → Option Addr → Nat → Nat → Int → Int → PT) : QF := thenK (ref01_Parse.j73 Z Q X1) (ref01_Parse.q71 Z Q)
theorem ref01_Parse.s72_eq (Z : List PanicEntry → PT) (Q : List Value → Int → PT) (X1 : ByteArray → Addr → Option Addr → Nat → Nat → Int → Int → PT) (ρ : Fr) (s_0 : ByteArray) (t_2 : Addr) (n_4 : Option Addr) (n_4n n_4c : Nat) (at_5 : Int) (k_6 : Int) : comp Tryd.prog Z ref01_Parse.c67 (ref01_Parse.q74 Z Q X1) (puts ρ [(0, (Value.string s_0)), (2, (Value.pointer (some t_2))), (4, (Value.slice n_4 n_4n n_4c)), (5, (Value.int .i64 at_5)), (6, (Value.int .i64 k_6))]) = ref01_Parse.s72 Z Q X1 s_0 t_2 n_4 n_4n n_4c at_5 k_6 := by kernel_rfl
def ref01_Parse.j75 (Z : List PanicEntry → PT) (Q : List Value → Int → PT) (X1 : ByteArray → Addr → Option Addr → Nat → Nat → Int → Int → PT) : Fr → PT := (fun ρ => atS (ρ 0) fun s_0 => atA (ρ 2) fun t_2 => atL (ρ 4) fun n_4 n_4n n_4c => atI .i64 (ρ 5) fun at_5 => atI .i64 (ρ 6) fun k_6 => (ref01_Parse.s72 Z Q X1 s_0 t_2 n_4 n_4n n_4c at_5 k_6))
theorem ref01_Parse.s72_ok (Z : List PanicEntry → PT) (Q : List Value → Int → PT) (X1 : ByteArray → Addr → Option Addr → Nat → Nat → Int → Int → PT) : Ok Tryd.prog Tryd.f27.ntmps Z ref01_Parse.c67 (ref01_Parse.q74 Z Q X1) (ref01_Parse.j75 Z Q X1) := by
  intro E he ρ w a hr h
  obtain ⟨s_0, e0, h⟩ := atS_e h
  obtain ⟨t_2, e2, h⟩ := atA_e h
  obtain ⟨n_4, n_4n, n_4c, e4, h⟩ := atL_e h
  obtain ⟨at_5, e5, h⟩ := atI_e h
  obtain ⟨k_6, e6, h⟩ := atI_e h
  exact ok_at [(0, (Value.string s_0)), (2, (Value.pointer (some t_2))), (4, (Value.slice n_4 n_4n n_4c)), (5, (Value.int .i64 at_5)), (6, (Value.int .i64 k_6))] (okC ref01_Parse.c67 (ref01_Parse.q74 Z Q X1) (by kernel_rfl)) (puts_cons e0 (puts_cons e2 (puts_cons e4 (puts_cons e5 (puts_cons e6 (fun p hp => puts_nil hp)))))) (ref01_Parse.s72_eq Z Q X1 ρ s_0 t_2 n_4 n_4n n_4c at_5 k_6) he hr h
def ref01_Parse.l69 (Z : List PanicEntry → PT) (Q : List Value → Int → PT) : Nat → ByteArray → Addr → Option Addr → Nat → Nat → Int → Int → PT
  | 0, _, _, _, _, _, _, _ => bad
  | k + 1, s_0, t_2, n_4, n_4n, n_4c, at_5, k_6 => (ref01_Parse.s72 Z Q (ref01_Parse.l69 Z Q k) s_0 t_2 n_4 n_4n n_4c at_5 k_6)
def ref01_Parse.j76 (Z : List PanicEntry → PT) (Q : List Value → Int → PT) (k : Nat) : Fr → PT := (fun ρ => atS (ρ 0) fun s_0 => atA (ρ 2) fun t_2 => atL (ρ 4) fun n_4 n_4n n_4c => atI .i64 (ρ 5) fun at_5 => atI .i64 (ρ 6) fun k_6 => (ref01_Parse.l69 Z Q k s_0 t_2 n_4 n_4n n_4c at_5 k_6))
def ref01_Parse.j77 (Z : List PanicEntry → PT) (Q : List Value → Int → PT) : Fr → PT := (fun ρ => atS (ρ 0) fun s_0 => atA (ρ 2) fun t_2 => atL (ρ 4) fun n_4 n_4n n_4c => atI .i64 (ρ 5) fun at_5 => atI .i64 (ρ 6) fun k_6 => (exK fun k => ref01_Parse.l69 Z Q k s_0 t_2 n_4 n_4n n_4c at_5 k_6))
theorem ref01_Parse.o78 (Z : List PanicEntry → PT) (Q : List Value → Int → PT) : Ok Tryd.prog Tryd.f27.ntmps Z ref01_Parse.c65 (ref01_Parse.q71 Z Q) (ref01_Parse.j77 Z Q) := by
  rw [ref01_Parse.q68]
  refine Ok.imp (ok_loop (J := ref01_Parse.j76 Z Q) ?_ ?_) ?_
  · intro ρ w h
    obtain ⟨s_0, e0, h⟩ := atS_e h
    obtain ⟨t_2, e2, h⟩ := atA_e h
    obtain ⟨n_4, n_4n, n_4c, e4, h⟩ := atL_e h
    obtain ⟨at_5, e5, h⟩ := atI_e h
    obtain ⟨k_6, e6, h⟩ := atI_e h
    exact h
  · intro k
    refine Ok.imp (ref01_Parse.s72_ok Z Q (ref01_Parse.l69 Z Q k)) fun ρ w h => ?_
    obtain ⟨s_0, e0, h⟩ := atS_e h
    obtain ⟨t_2, e2, h⟩ := atA_e h
    obtain ⟨n_4, n_4n, n_4c, e4, h⟩ := atL_e h
    obtain ⟨at_5, e5, h⟩ := atI_e h
    obtain ⟨k_6, e6, h⟩ := atI_e h
    show (ref01_Parse.j75 Z Q (ref01_Parse.l69 Z Q k)) ρ w
    simp only [ref01_Parse.j75]
    rw [e0]
    rw [e2]
    rw [e4]
    rw [e5]
    rw [e6]
    exact h
  · intro ρ w h
    obtain ⟨s_0, e0, h⟩ := atS_e h
    obtain ⟨t_2, e2, h⟩ := atA_e h
    obtain ⟨n_4, n_4n, n_4c, e4, h⟩ := atL_e h
    obtain ⟨at_5, e5, h⟩ := atI_e h
    obtain ⟨k_6, e6, h⟩ := atI_e h
    obtain ⟨k, h⟩ := h
    refine ⟨k, ?_⟩
    show (atS (ρ 0) fun s_0 => atA (ρ 2) fun t_2 => atL (ρ 4) fun n_4 n_4n n_4c => atI .i64 (ρ 5) fun at_5 => atI .i64 (ρ 6) fun k_6 => (ref01_Parse.l69 Z Q k s_0 t_2 n_4 n_4n n_4c at_5 k_6)) w
    rw [e0]
    rw [e2]
    rw [e4]
    rw [e5]
    rw [e6]
    exact h
theorem ref01_Parse.o79 (Z : List PanicEntry → PT) (Q : List Value → Int → PT) : Ok Tryd.prog Tryd.f27.ntmps Z ref01_Parse.c63 (ref01_Parse.q70 Z Q) (ref01_Parse.j77 Z Q) := by
  rw [ref01_Parse.q66]; exact ok_block (ref01_Parse.o78 Z Q)
def ref01_Parse.s80 (Z : List PanicEntry → PT) (Q : List Value → Int → PT) (s_0 : ByteArray) (t_2 : Addr) (n_4 : Option Addr) (n_4n n_4c : Nat) (at_5 : Int) : PT :=
  (exK fun k => ref01_Parse.l69 Z Q k s_0 t_2 n_4 n_4n n_4c at_5 0)
theorem ref01_Parse.s80_eq (Z : List PanicEntry → PT) (Q : List Value → Int → PT) (ρ : Fr) (s_0 : ByteArray) (t_2 : Addr) (n_4 : Option Addr) (n_4n n_4c : Nat) (at_5 : Int) : (comp Tryd.prog Z ref01_Parse.c62 (thenK (ref01_Parse.j77 Z Q) (ref01_Parse.q70 Z Q))) (puts ρ [(0, (Value.string s_0)), (2, (Value.pointer (some t_2))), (4, (Value.slice n_4 n_4n n_4c)), (5, (Value.int .i64 at_5))]) = ref01_Parse.s80 Z Q s_0 t_2 n_4 n_4n n_4c at_5 := by kernel_rfl
def ref01_Parse.j81 (Z : List PanicEntry → PT) (Q : List Value → Int → PT) : Fr → PT := (fun ρ => atS (ρ 0) fun s_0 => atA (ρ 2) fun t_2 => atL (ρ 4) fun n_4 n_4n n_4c => atI .i64 (ρ 5) fun at_5 => (ref01_Parse.s80 Z Q s_0 t_2 n_4 n_4n n_4c at_5))
theorem ref01_Parse.s80_ok (Z : List PanicEntry → PT) (Q : List Value → Int → PT) : Ok Tryd.prog Tryd.f27.ntmps Z ref01_Parse.c6 (ref01_Parse.q70 Z Q) (ref01_Parse.j81 Z Q) := by
  intro E he ρ w a hr h
  rw [ref01_Parse.q64] at he ⊢
  obtain ⟨s_0, e0, h⟩ := atS_e h
  obtain ⟨t_2, e2, h⟩ := atA_e h
  obtain ⟨n_4, n_4n, n_4c, e4, h⟩ := atL_e h
  obtain ⟨at_5, e5, h⟩ := atI_e h
  exact ok_at [(0, (Value.string s_0)), (2, (Value.pointer (some t_2))), (4, (Value.slice n_4 n_4n n_4c)), (5, (Value.int .i64 at_5))] (ok_seq (okC ref01_Parse.c62 _ (by kernel_rfl)) (ref01_Parse.o79 Z Q)) (puts_cons e0 (puts_cons e2 (puts_cons e4 (puts_cons e5 (fun p hp => puts_nil hp))))) (ref01_Parse.s80_eq Z Q ρ s_0 t_2 n_4 n_4n n_4c at_5) he hr h
theorem ref01_Parse.o82 (Z : List PanicEntry → PT) (Q : List Value → Int → PT) : Ok Tryd.prog Tryd.f27.ntmps Z ref01_Parse.c4 (ref01_Parse.q16 Z Q) (ref01_Parse.j81 Z Q) := by
  rw [ref01_Parse.q8]; exact ok_seq (ref01_Parse.s80_ok Z Q) (ref01_Parse.o61 Z Q)
def ref01_Parse.s83 (Z : List PanicEntry → PT) (Q : List Value → Int → PT) (s_0 : ByteArray) : PT :=
  (newC 26 [(Value.int .u8 0), (Value.int .u8 0), (Value.int .u8 0), (Value.int .u8 0), (Value.int .u8 0), (Value.int .u8 0), (Value.int .u8 0), (Value.int .u8 0), (Value.int .u8 0), (Value.int .u8 0), (Value.int .u8 0), (Value.int .u8 0), (Value.int .u8 0)] fun v170 => (newC 22 [] fun v171 => (ref01_Parse.s80 Z Q s_0 v170 (some v171) 0 0 0)))
theorem ref01_Parse.s83_eq (Z : List PanicEntry → PT) (Q : List Value → Int → PT) (ρ : Fr) (s_0 : ByteArray) : (comp Tryd.prog Z ref01_Parse.c1 (thenK (comp Tryd.prog Z ref01_Parse.c2 (thenK (comp Tryd.prog Z ref01_Parse.c3 (thenK (ref01_Parse.j81 Z Q) (ref01_Parse.q16 Z Q))) (ref01_Parse.q16 Z Q))) (ref01_Parse.q16 Z Q))) (puts ρ [(0, (Value.string s_0))]) = ref01_Parse.s83 Z Q s_0 := by kernel_rfl
def ref01_Parse.j84 (Z : List PanicEntry → PT) (Q : List Value → Int → PT) : Fr → PT := (fun ρ => atS (ρ 0) fun s_0 => (ref01_Parse.s83 Z Q s_0))
theorem ref01_Parse.s83_ok (Z : List PanicEntry → PT) (Q : List Value → Int → PT) : Ok Tryd.prog Tryd.f27.ntmps Z ref01_Parse.body (ref01_Parse.q16 Z Q) (ref01_Parse.j84 Z Q) := by
  intro E he ρ w a hr h
  rw [ref01_Parse.q5] at he ⊢
  obtain ⟨s_0, e0, h⟩ := atS_e h
  exact ok_at [(0, (Value.string s_0))] (ok_seq (okC ref01_Parse.c1 _ (by kernel_rfl)) (ok_seq (okC ref01_Parse.c2 _ (by kernel_rfl)) (ok_seq (okC ref01_Parse.c3 _ (by kernel_rfl)) (ref01_Parse.o82 Z Q)))) (puts_cons e0 (fun p hp => puts_nil hp)) (ref01_Parse.s83_eq Z Q ρ s_0) he hr h
def ref01_Parse.F (Z : List PanicEntry → PT) (Q : List Value → Int → PT) (s_0 : ByteArray) : PT :=
  (ref01_Parse.s83 Z Q s_0)
theorem ref01_Parse.vc (Z : List PanicEntry → PT) (Q : List Value → Int → PT) (s_0 : ByteArray) (w : World) (h : ref01_Parse.F Z Q s_0 w) : Calls Tryd.prog 27 ⟨[(Value.string s_0)]⟩ w fun e w' => (∃ (r0 : List Value) (r1 : Int), e = .returned (.tuple #[.agg ⟨r0⟩, .int .i64 r1]) ∧ Q r0 r1 w') ∨ ∃ c, e = .panicked c ∧ Z c w' := by
  refine (calls_of_ok (args := [(Value.string s_0)]) (w := w) (rs := [.cell 2 26, .tmp 3]) (fn := Tryd.f27) (c := ref01_Parse.body) Tryd.func27 (by kernel_rfl) (by kernel_rfl) (Nat.le_of_ble_eq_true (by kernel_rfl)) (ref01_Parse.s83_ok Z Q) (h)).mono fun e w' hR => ?_
  cases e with
  | returned v =>
    obtain ⟨x, y, rfl, hR⟩ := at2_e hR
    obtain ⟨xa, rfl, hR⟩ := atN_e hR
    obtain ⟨ya, rfl, hR⟩ := atI_e hR
    exact .inl ⟨xa, ya, rfl, hR⟩
  | panicked c => exact .inr ⟨c, rfl, hR⟩
  | outgrown => exact hR.elim
theorem ref01_Parse.vc0 (Q : List Value → Int → PT) (s_0 : ByteArray) (w : World) (h : ref01_Parse.F Z0 Q s_0 w) : Calls Tryd.prog 27 ⟨[(Value.string s_0)]⟩ w fun e w' => (∃ (r0 : List Value) (r1 : Int), e = .returned (.tuple #[.agg ⟨r0⟩, .int .i64 r1]) ∧ Q r0 r1 w') :=
  (ref01_Parse.vc Z0 Q s_0 w h).mono fun _ _ hR => hR.elim id fun ⟨_, _, hz⟩ => hz.elim
theorem ref01_Parse.cal {Z : List PanicEntry → PT} {Q : List Value → Int → PT} {s_0 : ByteArray} {w : World} (h : ref01_Parse.F Z Q s_0 w) : Go.Proofs.YtchhffabpgebmaaDoor.cal Tryd.prog Z 27 [(Value.string s_0)] (isT2 fun x y => (isN fun r0 => (isI .i64 fun r1 => Q r0 r1) y) x) w := by
  refine (ref01_Parse.vc Z Q s_0 w h).mono fun e w' hR => ?_
  rcases hR with ⟨r0, r1, rfl, h⟩ | ⟨c, rfl, h⟩
  · show (isT2 fun x y => (isN fun r0 => (isI .i64 fun r1 => Q r0 r1) y) x) (.tuple #[.agg ⟨r0⟩, .int .i64 r1]) w'
    exact ⟨_, _, rfl, ⟨_, rfl, ⟨_, rfl, h⟩⟩⟩
  · exact h

end Go.Proofs.YtchhffabpgebmaaDoor
