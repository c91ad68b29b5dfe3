/-
  The reading of the code of 2 functions, printed by gen.py off the translation; no condition.
-/
import Derived.Test.YtllgjjldnnmjkaaDoorWlDefer
namespace Go.Proofs.YtllgjjldnnmjkaaDoor
open Go.RowKit
set_option linter.unusedVariables false
set_option maxRecDepth 100000

/-! ### milepost/parse.Parse: function 24 -/
noncomputable def parse_Parse.body : Code := bodyC Tryd.f24
noncomputable def parse_Parse.a0 : Code := sq1 (parse_Parse.body)
noncomputable def parse_Parse.a1 : Code := sq1 (sq2 (parse_Parse.body))
noncomputable def parse_Parse.a2 : Code := sq1 (sq2 (sq2 (parse_Parse.body)))
noncomputable def parse_Parse.dr : Code := sq1 (sq2 (sq2 (sq2 (parse_Parse.body))))
noncomputable def parse_Parse.B : Code := sq2 (sq2 (sq2 (sq2 (parse_Parse.body))))
noncomputable def parse_Parse.mk : Oper := opAt parse_Parse.dr 0
noncomputable def parse_Parse.df : Oper := opAt parse_Parse.dr 1
theorem parse_Parse.shape : parse_Parse.body = seqs [parse_Parse.a0, parse_Parse.a1, parse_Parse.a2] (.seq (.region 4 #[parse_Parse.mk, parse_Parse.df] false) parse_Parse.B) := by kernel_rfl
def parse_Parse.A (Z : List PanicEntry → PT) (Q : Option Addr → Nat → Nat → Int → Int → PT) (X0 : ByteArray → Addr → Addr → Addr → Option Addr → Nat → Nat → PT) (s_0 : ByteArray) : PT :=
  (newC 29 [(Value.slice none 0 0)] fun out1 => (newC 24 [(Value.int .i64 0)] fun e2 => (newC 3 [(Value.int .i64 0)] fun pos3 => (cal Tryd.prog Z 36 [(Value.string s_0)] (isT3 fun t4 t5 t6 => (isL fun v7 v7n v7c => ((isI .i64 fun v8 => ((isI .i64 fun v9 => (st1 e2 (Value.int .i64 v8) (st1 pos3 (Value.int .i64 v9) (ldI .i64 e2 fun v10 => (pif (v10 != 0) (drawn fun S11 => (hI S11 .i64 e2 fun v12 => (hI S11 .i64 pos3 fun v13 => (st1 out1 (Value.slice none 0 0) (sAnd S11 (st1 e2 (Value.int .i64 v12) (sAnd S11 (st1 pos3 (Value.int .i64 v13) (ldL out1 fun out14 out14n out14c => (ldI .i64 e2 fun e15 => (ldI .i64 pos3 fun pos16 => (Q out14 out14n out14c e15 pos16)))))))))))) (X0 s_0 out1 e2 pos3 v7 v7n v7c)))))) t6)) t5)) t4)))))
def parse_Parse.KA (X0 : ByteArray → Addr → Addr → Addr → Option Addr → Nat → Nat → PT) : Fr → PT := (fun ρ => atS (ρ 0) fun s_0 => atA (ρ 2) fun out_2 => atA (ρ 3) fun e_3 => atA (ρ 4) fun pos_4 => atL (ρ 5) fun l_5 l_5n l_5c => (X0 s_0 out_2 e_3 pos_4 l_5 l_5n l_5c))
def parse_Parse.q1 (Z : List PanicEntry → PT) (Q : Option Addr → Nat → Nat → Int → Int → PT) : QF := bodyQ Tryd.prog [.cell 2 29, .cell 3 24, .cell 4 3] (fun v => at3 v fun x y z => atL x fun xa xn xc => atI .i64 y fun ya => atI .i64 z fun za => Q xa xn xc ya za)
theorem parse_Parse.A_eq (Z : List PanicEntry → PT) (Q : Option Addr → Nat → Nat → Int → Int → PT) (X0 : ByteArray → Addr → Addr → Addr → Option Addr → Nat → Nat → PT) (s_0 : ByteArray) : compL Tryd.prog Z [parse_Parse.a0, parse_Parse.a1, parse_Parse.a2] (parse_Parse.q1 Z Q) (parse_Parse.KA X0) (fr0 [(Value.string s_0)]) = parse_Parse.A Z Q X0 s_0 := by kernel_rfl
/-! slots behind the defer: s_0 out_2 e_3 pos_4 l_5 l_5n l_5c -/
noncomputable def parse_Parse.c2 : Code := sq1 parse_Parse.B
noncomputable def parse_Parse.c3 : Code := sq2 parse_Parse.B
theorem parse_Parse.q4 : parse_Parse.B = .seq parse_Parse.c2 parse_Parse.c3 := by kernel_rfl
noncomputable def parse_Parse.c5 : Code := sq1 parse_Parse.c3
noncomputable def parse_Parse.c6 : Code := sq2 parse_Parse.c3
theorem parse_Parse.q7 : parse_Parse.c3 = .seq parse_Parse.c5 parse_Parse.c6 := by kernel_rfl
def parse_Parse.s8 (Z : List PanicEntry → PT) (Q : PT) (out_2 : Addr) (e_3 : Addr) (pos_4 : Addr) : PT :=
  (ldL out_2 fun v18 v18n v18c => (st1 out_2 (Value.slice v18 v18n v18c) (st1 e_3 (Value.int .i64 0) (st1 pos_4 (Value.int .i64 0) Q))))
theorem parse_Parse.s8_eq (Z : List PanicEntry → PT) (Q : PT) (ρ : Fr) (out_2 : Addr) (e_3 : Addr) (pos_4 : Addr) : comp Tryd.prog Z parse_Parse.c6 (endQ Q) (puts ρ [(2, (Value.pointer (some out_2))), (3, (Value.pointer (some e_3))), (4, (Value.pointer (some pos_4)))]) = parse_Parse.s8 Z Q out_2 e_3 pos_4 := by kernel_rfl
def parse_Parse.j9 (Z : List PanicEntry → PT) (Q : PT) : Fr → PT := (fun ρ => atA (ρ 2) fun out_2 => atA (ρ 3) fun e_3 => atA (ρ 4) fun pos_4 => (parse_Parse.s8 Z Q out_2 e_3 pos_4))
theorem parse_Parse.s8_ok (Z : List PanicEntry → PT) (Q : PT) : Ok Tryd.prog Tryd.f24.ntmps Z parse_Parse.c6 (endQ Q) (parse_Parse.j9 Z Q) := by
  intro E he ρ w a hr h
  obtain ⟨out_2, e2, h⟩ := atA_e h
  obtain ⟨e_3, e3, h⟩ := atA_e h
  obtain ⟨pos_4, e4, h⟩ := atA_e h
  exact ok_at [(2, (Value.pointer (some out_2))), (3, (Value.pointer (some e_3))), (4, (Value.pointer (some pos_4)))] (okC parse_Parse.c6 (endQ Q) (by kernel_rfl)) (puts_cons e2 (puts_cons e3 (puts_cons e4 (fun p hp => puts_nil hp)))) (parse_Parse.s8_eq Z Q ρ out_2 e_3 pos_4) he hr h
noncomputable def parse_Parse.c10 : Code := blk parse_Parse.c5
theorem parse_Parse.q11 : parse_Parse.c5 = .block 0 parse_Parse.c10 := by kernel_rfl
noncomputable def parse_Parse.c12 : Code := lop parse_Parse.c10
theorem parse_Parse.q13 : parse_Parse.c10 = .loop parse_Parse.c12 := by kernel_rfl
def parse_Parse.q15 (Z : List PanicEntry → PT) (Q : PT) : QF := thenK (parse_Parse.j9 Z Q) (endQ Q)
def parse_Parse.q16 (Z : List PanicEntry → PT) (Q : PT) : QF := inBl 0 (parse_Parse.q15 Z Q)
def parse_Parse.s17 (Z : List PanicEntry → PT) (Q : PT) (X1 : Addr → Addr → Addr → Option Addr → Nat → Nat → Option Addr → PT) (out_2 : Addr) (e_3 : Addr) (pos_4 : Addr) (l_5 : Option Addr) (l_5n l_5c : Nat) (r_6 : Option Addr) : PT :=
  (nn r_6 fun v43 => (ldI .i64 (v43.add 1) fun v44 => (pif (decide (v44 < ((l_5n : Nat) : Int))) (nn r_6 fun v45 => (ldI .i64 (v45.add 1) fun v46 => (ixS l_5 l_5n v46 4 fun v47 => (ldI .i64 (v47.add 0) fun v48 => (pif (v48 == 7) (nn r_6 fun v49 => (ldI .i64 (v49.add 1) fun v50 => (nn r_6 fun v51 => (st1 (v51.add 1) (Value.int .i64 (IntKind.wrap .i64 (v50 + 1))) (X1 out_2 e_3 pos_4 l_5 l_5n l_5c r_6))))) (ldL out_2 fun v52 v52n v52c => (pif (((v52n : Nat) : Int) == 64) (cal Tryd.prog Z 38 [(Value.pointer r_6), (Value.int .i64 4)] (isU (drawn fun S53 => (hL S53 out_2 fun v54 v54n v54c => (cal Tryd.prog Z 39 [(Value.pointer r_6)] (isN fun v55 => (sAnd S53 (cnd (List.length v55 = 8) (newC 52 (v55 ++ ([])) fun v56 => (sAnd S53 (runL Tryd.prog (bi .append #[29, 29] 29 [false, false] [(Value.slice v54 v54n v54c), (Value.slice (some v56) 1 1)]) fun v57 v57n v57c => (sAnd S53 (st1 out_2 (Value.slice v57 v57n v57c) (X1 out_2 e_3 pos_4 l_5 l_5n l_5c r_6)))))))))))))) (drawn fun S58 => (hL S58 out_2 fun v59 v59n v59c => (cal Tryd.prog Z 39 [(Value.pointer r_6)] (isN fun v60 => (sAnd S58 (cnd (List.length v60 = 8) (newC 52 (v60 ++ ([])) fun v61 => (sAnd S58 (runL Tryd.prog (bi .append #[29, 29] 29 [false, false] [(Value.slice v59 v59n v59c), (Value.slice (some v61) 1 1)]) fun v62 v62n v62c => (sAnd S58 (st1 out_2 (Value.slice v62 v62n v62c) (X1 out_2 e_3 pos_4 l_5 l_5n l_5c r_6))))))))))))))))))) (parse_Parse.s8 Z Q out_2 e_3 pos_4))))
def parse_Parse.j18 (Z : List PanicEntry → PT) (Q : PT) (X1 : Addr → Addr → Addr → Option Addr → Nat → Nat → Option Addr → PT) : Fr → PT := (fun ρ => atA (ρ 2) fun out_2 => atA (ρ 3) fun e_3 => atA (ρ 4) fun pos_4 => atL (ρ 5) fun l_5 l_5n l_5c => atP (ρ 6) fun r_6 => (X1 out_2 e_3 pos_4 l_5 l_5n l_5c r_6))
def parse_Parse.q19 (Z : List PanicEntry → PT) (Q : PT) (X1 : Addr → Addr → Addr → Option Addr → Nat → Nat → Option Addr → PT) : QF := thenK (parse_Parse.j18 Z Q X1) (parse_Parse.q16 Z Q)
theorem parse_Parse.s17_eq (Z : List PanicEntry → PT) (Q : PT) (X1 : Addr → Addr → Addr → Option Addr → Nat → Nat → Option Addr → PT) (ρ : Fr) (out_2 : Addr) (e_3 : Addr) (pos_4 : Addr) (l_5 : Option Addr) (l_5n l_5c : Nat) (r_6 : Option Addr) : comp Tryd.prog Z parse_Parse.c12 (parse_Parse.q19 Z Q X1) (puts ρ [(2, (Value.pointer (some out_2))), (3, (Value.pointer (some e_3))), (4, (Value.pointer (some pos_4))), (5, (Value.slice l_5 l_5n l_5c)), (6, (Value.pointer r_6))]) = parse_Parse.s17 Z Q X1 out_2 e_3 pos_4 l_5 l_5n l_5c r_6 := by kernel_rfl
def parse_Parse.j20 (Z : List PanicEntry → PT) (Q : PT) (X1 : Addr → Addr → Addr → Option Addr → Nat → Nat → Option Addr → PT) : Fr → PT := (fun ρ => atA (ρ 2) fun out_2 => atA (ρ 3) fun e_3 => atA (ρ 4) fun pos_4 => atL (ρ 5) fun l_5 l_5n l_5c => atP (ρ 6) fun r_6 => (parse_Parse.s17 Z Q X1 out_2 e_3 pos_4 l_5 l_5n l_5c r_6))
theorem parse_Parse.s17_ok (Z : List PanicEntry → PT) (Q : PT) (X1 : Addr → Addr → Addr → Option Addr → Nat → Nat → Option Addr → PT) : Ok Tryd.prog Tryd.f24.ntmps Z parse_Parse.c12 (parse_Parse.q19 Z Q X1) (parse_Parse.j20 Z Q X1) := by
  intro E he ρ w a hr h
  obtain ⟨out_2, e2, h⟩ := atA_e h
  obtain ⟨e_3, e3, h⟩ := atA_e h
  obtain ⟨pos_4, e4, h⟩ := atA_e h
  obtain ⟨l_5, l_5n, l_5c, e5, h⟩ := atL_e h
  obtain ⟨r_6, e6, h⟩ := atP_e h
  exact ok_at [(2, (Value.pointer (some out_2))), (3, (Value.pointer (some e_3))), (4, (Value.pointer (some pos_4))), (5, (Value.slice l_5 l_5n l_5c)), (6, (Value.pointer r_6))] (okC parse_Parse.c12 (parse_Parse.q19 Z Q X1) (by kernel_rfl)) (puts_cons e2 (puts_cons e3 (puts_cons e4 (puts_cons e5 (puts_cons e6 (fun p hp => puts_nil hp)))))) (parse_Parse.s17_eq Z Q X1 ρ out_2 e_3 pos_4 l_5 l_5n l_5c r_6) he hr h
def parse_Parse.l14 (Z : List PanicEntry → PT) (Q : PT) : Nat → Addr → Addr → Addr → Option Addr → Nat → Nat → Option Addr → PT
  | 0, _, _, _, _, _, _, _ => bad
  | k + 1, out_2, e_3, pos_4, l_5, l_5n, l_5c, r_6 => (parse_Parse.s17 Z Q (parse_Parse.l14 Z Q k) out_2 e_3 pos_4 l_5 l_5n l_5c r_6)
def parse_Parse.j21 (Z : List PanicEntry → PT) (Q : PT) (k : Nat) : Fr → PT := (fun ρ => atA (ρ 2) fun out_2 => atA (ρ 3) fun e_3 => atA (ρ 4) fun pos_4 => atL (ρ 5) fun l_5 l_5n l_5c => atP (ρ 6) fun r_6 => (parse_Parse.l14 Z Q k out_2 e_3 pos_4 l_5 l_5n l_5c r_6))
def parse_Parse.j22 (Z : List PanicEntry → PT) (Q : PT) : Fr → PT := (fun ρ => atA (ρ 2) fun out_2 => atA (ρ 3) fun e_3 => atA (ρ 4) fun pos_4 => atL (ρ 5) fun l_5 l_5n l_5c => atP (ρ 6) fun r_6 => (exK fun k => parse_Parse.l14 Z Q k out_2 e_3 pos_4 l_5 l_5n l_5c r_6))
theorem parse_Parse.o23 (Z : List PanicEntry → PT) (Q : PT) : Ok Tryd.prog Tryd.f24.ntmps Z parse_Parse.c10 (parse_Parse.q16 Z Q) (parse_Parse.j22 Z Q) := by
  rw [parse_Parse.q13]
  refine Ok.imp (ok_loop (J := parse_Parse.j21 Z Q) ?_ ?_) ?_
  · intro ρ w h
    obtain ⟨out_2, e2, h⟩ := atA_e h
    obtain ⟨e_3, e3, h⟩ := atA_e h
    obtain ⟨pos_4, e4, h⟩ := atA_e h
    obtain ⟨l_5, l_5n, l_5c, e5, h⟩ := atL_e h
    obtain ⟨r_6, e6, h⟩ := atP_e h
    exact h
  · intro k
    refine Ok.imp (parse_Parse.s17_ok Z Q (parse_Parse.l14 Z Q k)) fun ρ w h => ?_
    obtain ⟨out_2, e2, h⟩ := atA_e h
    obtain ⟨e_3, e3, h⟩ := atA_e h
    obtain ⟨pos_4, e4, h⟩ := atA_e h
    obtain ⟨l_5, l_5n, l_5c, e5, h⟩ := atL_e h
    obtain ⟨r_6, e6, h⟩ := atP_e h
    show (parse_Parse.j20 Z Q (parse_Parse.l14 Z Q k)) ρ w
    simp only [parse_Parse.j20]
    rw [e2]
    rw [e3]
    rw [e4]
    rw [e5]
    rw [e6]
    exact h
  · intro ρ w h
    obtain ⟨out_2, e2, h⟩ := atA_e h
    obtain ⟨e_3, e3, h⟩ := atA_e h
    obtain ⟨pos_4, e4, h⟩ := atA_e h
    obtain ⟨l_5, l_5n, l_5c, e5, h⟩ := atL_e h
    obtain ⟨r_6, e6, h⟩ := atP_e h
    obtain ⟨k, h⟩ := h
    refine ⟨k, ?_⟩
    show (atA (ρ 2) fun out_2 => atA (ρ 3) fun e_3 => atA (ρ 4) fun pos_4 => atL (ρ 5) fun l_5 l_5n l_5c => atP (ρ 6) fun r_6 => (parse_Parse.l14 Z Q k out_2 e_3 pos_4 l_5 l_5n l_5c r_6)) w
    rw [e2]
    rw [e3]
    rw [e4]
    rw [e5]
    rw [e6]
    exact h
theorem parse_Parse.o24 (Z : List PanicEntry → PT) (Q : PT) : Ok Tryd.prog Tryd.f24.ntmps Z parse_Parse.c5 (parse_Parse.q15 Z Q) (parse_Parse.j22 Z Q) := by
  rw [parse_Parse.q11]; exact ok_block (parse_Parse.o23 Z Q)
theorem parse_Parse.o25 (Z : List PanicEntry → PT) (Q : PT) : Ok Tryd.prog Tryd.f24.ntmps Z parse_Parse.c3 (endQ Q) (parse_Parse.j22 Z Q) := by
  rw [parse_Parse.q7]; exact ok_seq (parse_Parse.o24 Z Q) (parse_Parse.s8_ok Z Q)
def parse_Parse.s26 (Z : List PanicEntry → PT) (Q : PT) (s_0 : ByteArray) (out_2 : Addr) (e_3 : Addr) (pos_4 : Addr) (l_5 : Option Addr) (l_5n l_5c : Nat) : PT :=
  (newC 77 [(Value.slice l_5 l_5n l_5c), (Value.int .i64 0), (Value.int .i64 ((s_0.size : Nat) : Int))] fun v63 => (exK fun k => parse_Parse.l14 Z Q k out_2 e_3 pos_4 l_5 l_5n l_5c (some v63)))
theorem parse_Parse.s26_eq (Z : List PanicEntry → PT) (Q : PT) (ρ : Fr) (s_0 : ByteArray) (out_2 : Addr) (e_3 : Addr) (pos_4 : Addr) (l_5 : Option Addr) (l_5n l_5c : Nat) : (comp Tryd.prog Z parse_Parse.c2 (thenK (parse_Parse.j22 Z Q) (endQ Q))) (puts ρ [(0, (Value.string s_0)), (2, (Value.pointer (some out_2))), (3, (Value.pointer (some e_3))), (4, (Value.pointer (some pos_4))), (5, (Value.slice l_5 l_5n l_5c))]) = parse_Parse.s26 Z Q s_0 out_2 e_3 pos_4 l_5 l_5n l_5c := by kernel_rfl
def parse_Parse.j27 (Z : List PanicEntry → PT) (Q : PT) : Fr → PT := (fun ρ => atS (ρ 0) fun s_0 => atA (ρ 2) fun out_2 => atA (ρ 3) fun e_3 => atA (ρ 4) fun pos_4 => atL (ρ 5) fun l_5 l_5n l_5c => (parse_Parse.s26 Z Q s_0 out_2 e_3 pos_4 l_5 l_5n l_5c))
theorem parse_Parse.s26_ok (Z : List PanicEntry → PT) (Q : PT) : Ok Tryd.prog Tryd.f24.ntmps Z parse_Parse.B (endQ Q) (parse_Parse.j27 Z Q) := by
  intro E he ρ w a hr h
  rw [parse_Parse.q4] at he ⊢
  obtain ⟨s_0, e0, h⟩ := atS_e h
  obtain ⟨out_2, e2, h⟩ := atA_e h
  obtain ⟨e_3, e3, h⟩ := atA_e h
  obtain ⟨pos_4, e4, h⟩ := atA_e h
  obtain ⟨l_5, l_5n, l_5c, e5, h⟩ := atL_e h
  exact ok_at [(0, (Value.string s_0)), (2, (Value.pointer (some out_2))), (3, (Value.pointer (some e_3))), (4, (Value.pointer (some pos_4))), (5, (Value.slice l_5 l_5n l_5c))] (ok_seq (okC parse_Parse.c2 _ (by kernel_rfl)) (parse_Parse.o25 Z Q)) (puts_cons e0 (puts_cons e2 (puts_cons e3 (puts_cons e4 (puts_cons e5 (fun p hp => puts_nil hp)))))) (parse_Parse.s26_eq Z Q ρ s_0 out_2 e_3 pos_4 l_5 l_5n l_5c) he hr h
def parse_Parse.JB (Z : List PanicEntry → PT) (Q : PT) : Fr → PT := (parse_Parse.j27 Z Q)
theorem parse_Parse.okB (Z : List PanicEntry → PT) (Q : PT) : Ok Tryd.prog Tryd.f24.ntmps Z parse_Parse.B (endQ Q) (parse_Parse.JB Z Q) := parse_Parse.s26_ok Z Q

/-! ### milepost/parse.Parse$1: function 37 -/
noncomputable def parse_Parse_c1.body : Code := bodyC Tryd.f37
def parse_Parse_c1.F (Z : List PanicEntry → PT) (Q : PT) (t_0 : Addr) (t_1 : Addr) (t_2 : Addr) : PT :=
  (runR Tryd.prog (bi .recover #[] 20 [] []) fun v14 => (runT2 Tryd.prog (Instr.typeAssert v14 20 73 true) fun t15 t16 => (isN fun v17 => ((isB fun v18 => (newC 73 [(Value.int .i64 0), (Value.int .i64 0)] fun f19 => (stN 2 f19 v17 (pif v18 (st1 t_0 (Value.slice none 0 0) (ldI .i64 (f19.add 0) fun v20 => (st1 t_1 (Value.int .i64 v20) (ldI .i64 (f19.add 1) fun v21 => (st1 t_2 (Value.int .i64 v21) Q))))) Q)))) t16)) t15))
def parse_Parse_c1.q1 (Z : List PanicEntry → PT) (Q : PT) : QF := bodyQ Tryd.prog [] (fun v => atU v Q)
theorem parse_Parse_c1.eq (Z : List PanicEntry → PT) (Q : PT) (t_0 : Addr) (t_1 : Addr) (t_2 : Addr) : comp Tryd.prog Z parse_Parse_c1.body (parse_Parse_c1.q1 Z Q) (fr0 [(Value.pointer (some t_0)), (Value.pointer (some t_1)), (Value.pointer (some t_2))]) = parse_Parse_c1.F Z Q t_0 t_1 t_2 := by kernel_rfl
theorem parse_Parse_c1.vc (Z : List PanicEntry → PT) (Q : PT) (t_0 : Addr) (t_1 : Addr) (t_2 : Addr) (w : World) (h : parse_Parse_c1.F Z Q t_0 t_1 t_2 w) : Calls Tryd.prog 37 ⟨[(Value.pointer (some t_0)), (Value.pointer (some t_1)), (Value.pointer (some t_2))]⟩ w fun e w' => (e = .returned (.tuple #[]) ∧ Q w') ∨ ∃ c, e = .panicked c ∧ Z c w' := by
  refine (calls_of_ok (args := [(Value.pointer (some t_0)), (Value.pointer (some t_1)), (Value.pointer (some t_2))]) (w := w) (rs := []) (fn := Tryd.f37) (c := parse_Parse_c1.body) Tryd.func37 (by kernel_rfl) (by kernel_rfl) (Nat.le_of_ble_eq_true (by kernel_rfl)) (okC parse_Parse_c1.body (parse_Parse_c1.q1 Z Q) (by kernel_rfl)) (by rw [parse_Parse_c1.eq]; exact h)).mono fun e w' hR => ?_
  cases e with
  | returned v =>
    obtain ⟨rfl, h⟩ := atU_e hR
    exact .inl ⟨rfl, h⟩
  | panicked c => exact .inr ⟨c, rfl, hR⟩
  | outgrown => exact hR.elim
theorem parse_Parse_c1.vc0 (Q : PT) (t_0 : Addr) (t_1 : Addr) (t_2 : Addr) (w : World) (h : parse_Parse_c1.F Z0 Q t_0 t_1 t_2 w) : Calls Tryd.prog 37 ⟨[(Value.pointer (some t_0)), (Value.pointer (some t_1)), (Value.pointer (some t_2))]⟩ w fun e w' => (e = .returned (.tuple #[]) ∧ Q w') :=
  (parse_Parse_c1.vc Z0 Q t_0 t_1 t_2 w h).mono fun _ _ hR => hR.elim id fun ⟨_, _, hz⟩ => hz.elim
theorem parse_Parse_c1.cal {Z : List PanicEntry → PT} {Q : PT} {t_0 : Addr} {t_1 : Addr} {t_2 : Addr} {w : World} (h : parse_Parse_c1.F Z Q t_0 t_1 t_2 w) : Go.Proofs.YtllgjjldnnmjkaaDoor.cal Tryd.prog Z 37 [(Value.pointer (some t_0)), (Value.pointer (some t_1)), (Value.pointer (some t_2))] (isU Q) w := by
  refine (parse_Parse_c1.vc Z Q t_0 t_1 t_2 w h).mono fun e w' hR => ?_
  rcases hR with ⟨rfl, h⟩ | ⟨c, rfl, h⟩
  · show (isU Q) (.tuple #[]) w'
    exact ⟨rfl, h⟩
  · exact h

end Go.Proofs.YtllgjjldnnmjkaaDoor
