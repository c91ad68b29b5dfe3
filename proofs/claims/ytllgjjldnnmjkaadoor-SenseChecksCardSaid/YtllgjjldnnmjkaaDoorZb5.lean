/-
  Texts of this claim, one behind the other: part 5 of 7. No condition.
-/
import Derived.Recover
import Derived.Test.YtllgjjldnnmjkaaDoorZb4
set_option linter.unusedVariables false
set_option linter.unusedSimpArgs false
section
namespace Go.Proofs.YtllgjjldnnmjkaaDoor
open Go.RowKit
set_option maxRecDepth 100000

/-! ### milepost/lex.Tokens: function 36 -/
noncomputable def lex_Tokens.body : Code := bodyC Tryd.f36
noncomputable def lex_Tokens.c1 : Code := sq1 lex_Tokens.body
noncomputable def lex_Tokens.c2 : Code := sq2 lex_Tokens.body
theorem lex_Tokens.q3 : lex_Tokens.body = .seq lex_Tokens.c1 lex_Tokens.c2 := by kernel_rfl
noncomputable def lex_Tokens.c4 : Code := scp lex_Tokens.c2
theorem lex_Tokens.q5 : lex_Tokens.c2 = .scope lex_Tokens.c4 := by kernel_rfl
noncomputable def lex_Tokens.c6 : Code := sq1 lex_Tokens.c4
noncomputable def lex_Tokens.c7 : Code := sq1 (sq2 lex_Tokens.c4)
noncomputable def lex_Tokens.c8 : Code := sq1 (sq2 (sq2 lex_Tokens.c4))
noncomputable def lex_Tokens.c9 : Code := sq2 (sq2 (sq2 lex_Tokens.c4))
theorem lex_Tokens.q10 : lex_Tokens.c4 = .seq lex_Tokens.c6 (.seq lex_Tokens.c7 (.seq lex_Tokens.c8 lex_Tokens.c9)) := by kernel_rfl
noncomputable def lex_Tokens.c11 : Code := sq1 lex_Tokens.c9
noncomputable def lex_Tokens.c12 : Code := sq2 lex_Tokens.c9
theorem lex_Tokens.q13 : lex_Tokens.c9 = .seq lex_Tokens.c11 lex_Tokens.c12 := by kernel_rfl
def lex_Tokens.s14 (Z : ZT) (Q : OA → Nat → Nat → Int → Int → PT) (out_5 : OA) (out_5n out_5c : Nat) : PT :=
  (Q out_5 out_5n out_5c 0 0)
def lex_Tokens.q15 (Z : ZT) (Q : OA → Nat → Nat → Int → Int → PT) : QF := bodyQ Tryd.prog [.tmp 2, .tmp 3, .tmp 4] (fun v => at3 v fun x y z => atL x fun xa xn xc => atI .i64 y fun ya => atI .i64 z fun za => Q xa xn xc ya za)
def lex_Tokens.q16 (Z : ZT) (Q : OA → Nat → Nat → Int → Int → PT) : QF := noG (lex_Tokens.q15 Z Q)
theorem lex_Tokens.s14_eq (Z : ZT) (Q : OA → Nat → Nat → Int → Int → PT) (ρ : Fr) (out_5 : OA) (out_5n out_5c : Nat) : comp Tryd.prog Z lex_Tokens.c12 (lex_Tokens.q16 Z Q) (puts ρ [(5, (Value.slice out_5 out_5n out_5c))]) = lex_Tokens.s14 Z Q out_5 out_5n out_5c := by kernel_rfl
def lex_Tokens.j17 (Z : ZT) (Q : OA → Nat → Nat → Int → Int → PT) : Fr → PT := (fun ρ => atL (ρ 5) fun out_5 out_5n out_5c => (lex_Tokens.s14 Z Q out_5 out_5n out_5c))
theorem lex_Tokens.s14_ok (Z : ZT) (Q : OA → Nat → Nat → Int → Int → PT) : Ok Tryd.prog Tryd.f36.ntmps Z lex_Tokens.c12 (lex_Tokens.q16 Z Q) (lex_Tokens.j17 Z Q) := by
  intro E he ρ w a hr h
  obtain ⟨out_5, out_5n, out_5c, e5, h⟩ := atL_e h
  exact ok_at [(5, (Value.slice out_5 out_5n out_5c))] (okC lex_Tokens.c12 (lex_Tokens.q16 Z Q) (by kernel_rfl)) (puts_cons e5 (fun p hp => puts_nil hp)) (lex_Tokens.s14_eq Z Q ρ out_5 out_5n out_5c) he hr h
noncomputable def lex_Tokens.c18 : Code := sq1 lex_Tokens.c11
noncomputable def lex_Tokens.c19 : Code := sq2 lex_Tokens.c11
theorem lex_Tokens.q20 : lex_Tokens.c11 = .seq lex_Tokens.c18 lex_Tokens.c19 := by kernel_rfl
noncomputable def lex_Tokens.c21 : Code := blk lex_Tokens.c19
theorem lex_Tokens.q22 : lex_Tokens.c19 = .block 0 lex_Tokens.c21 := by kernel_rfl
noncomputable def lex_Tokens.c23 : Code := lop lex_Tokens.c21
theorem lex_Tokens.q24 : lex_Tokens.c21 = .loop lex_Tokens.c23 := by kernel_rfl
def lex_Tokens.q26 (Z : ZT) (Q : OA → Nat → Nat → Int → Int → PT) : QF := thenK (lex_Tokens.j17 Z Q) (lex_Tokens.q16 Z Q)
def lex_Tokens.q27 (Z : ZT) (Q : OA → Nat → Nat → Int → Int → PT) : QF := inBl 0 (lex_Tokens.q26 Z Q)
noncomputable def lex_Tokens.c28 : Code := sq1 lex_Tokens.c23
noncomputable def lex_Tokens.c29 : Code := sq2 lex_Tokens.c23
theorem lex_Tokens.q30 : lex_Tokens.c23 = .seq lex_Tokens.c28 lex_Tokens.c29 := by kernel_rfl
noncomputable def lex_Tokens.c31 : Code := blk lex_Tokens.c29
theorem lex_Tokens.q32 : lex_Tokens.c29 = .block 1 lex_Tokens.c31 := by kernel_rfl
noncomputable def lex_Tokens.c33 : Code := sq1 lex_Tokens.c31
noncomputable def lex_Tokens.c34 : Code := sq1 (sq2 lex_Tokens.c31)
noncomputable def lex_Tokens.c35 : Code := sq2 (sq2 lex_Tokens.c31)
theorem lex_Tokens.q36 : lex_Tokens.c31 = .seq lex_Tokens.c33 (.seq lex_Tokens.c34 lex_Tokens.c35) := by kernel_rfl
noncomputable def lex_Tokens.c37 : Code := sq1 lex_Tokens.c35
noncomputable def lex_Tokens.c38 : Code := sq2 lex_Tokens.c35
theorem lex_Tokens.q39 : lex_Tokens.c35 = .seq lex_Tokens.c37 lex_Tokens.c38 := by kernel_rfl
def lex_Tokens.s40 (Z : ZT) (Q : OA → Nat → Nat → Int → Int → PT) (X1 : ByteArray → OA → Nat → Nat → Int → PT) (s_0 : ByteArray) (out_5 : OA) (out_5n out_5c : Nat) (at_6 : Int) (t_7 : Addr) (n_8 : Int) : PT :=
  (ldN 4 t_7 fun v6 => (cnd (List.length v6 = 4) (newC 79 (v6 ++ ([])) fun v7 => (runL Tryd.prog (bi .append #[69, 69] 69 [false, false] [(Value.slice out_5 out_5n out_5c), (Value.slice (some v7) 1 1)]) fun v8 v8n v8c => (X1 s_0 v8 v8n v8c (IntKind.wrap .i64 (at_6 + n_8)))))))
def lex_Tokens.j41 (Z : ZT) (Q : OA → Nat → Nat → Int → Int → PT) (X1 : ByteArray → OA → Nat → Nat → Int → PT) : Fr → PT := (fun ρ => atS (ρ 0) fun s_0 => atL (ρ 5) fun out_5 out_5n out_5c => atI .i64 (ρ 6) fun at_6 => (X1 s_0 out_5 out_5n out_5c at_6))
def lex_Tokens.q42 (Z : ZT) (Q : OA → Nat → Nat → Int → Int → PT) (X1 : ByteArray → OA → Nat → Nat → Int → PT) : QF := thenK (lex_Tokens.j41 Z Q X1) (lex_Tokens.q27 Z Q)
def lex_Tokens.q43 (Z : ZT) (Q : OA → Nat → Nat → Int → Int → PT) (X1 : ByteArray → OA → Nat → Nat → Int → PT) : QF := inBl 1 (lex_Tokens.q42 Z Q X1)
theorem lex_Tokens.s40_eq (Z : ZT) (Q : OA → Nat → Nat → Int → Int → PT) (X1 : ByteArray → OA → Nat → Nat → Int → PT) (ρ : Fr) (s_0 : ByteArray) (out_5 : OA) (out_5n out_5c : Nat) (at_6 : Int) (t_7 : Addr) (n_8 : Int) : comp Tryd.prog Z lex_Tokens.c38 (lex_Tokens.q43 Z Q X1) (puts ρ [(0, (Value.string s_0)), (5, (Value.slice out_5 out_5n out_5c)), (6, (Value.int .i64 at_6)), (7, (Value.pointer (some t_7))), (8, (Value.int .i64 n_8))]) = lex_Tokens.s40 Z Q X1 s_0 out_5 out_5n out_5c at_6 t_7 n_8 := by kernel_rfl
def lex_Tokens.j44 (Z : ZT) (Q : OA → Nat → Nat → Int → Int → PT) (X1 : ByteArray → OA → Nat → Nat → Int → PT) : Fr → PT := (fun ρ => atS (ρ 0) fun s_0 => atL (ρ 5) fun out_5 out_5n out_5c => atI .i64 (ρ 6) fun at_6 => atA (ρ 7) fun t_7 => atI .i64 (ρ 8) fun n_8 => (lex_Tokens.s40 Z Q X1 s_0 out_5 out_5n out_5c at_6 t_7 n_8))
theorem lex_Tokens.s40_ok (Z : ZT) (Q : OA → Nat → Nat → Int → Int → PT) (X1 : ByteArray → OA → Nat → Nat → Int → PT) : Ok Tryd.prog Tryd.f36.ntmps Z lex_Tokens.c38 (lex_Tokens.q43 Z Q X1) (lex_Tokens.j44 Z Q X1) := by
  intro E he ρ w a hr h
  obtain ⟨s_0, e0, h⟩ := atS_e h
  obtain ⟨out_5, out_5n, out_5c, e5, h⟩ := atL_e h
  obtain ⟨at_6, e6, h⟩ := atI_e h
  obtain ⟨t_7, e7, h⟩ := atA_e h
  obtain ⟨n_8, e8, h⟩ := atI_e h
  exact ok_at [(0, (Value.string s_0)), (5, (Value.slice out_5 out_5n out_5c)), (6, (Value.int .i64 at_6)), (7, (Value.pointer (some t_7))), (8, (Value.int .i64 n_8))] (okC lex_Tokens.c38 (lex_Tokens.q43 Z Q X1) (by kernel_rfl)) (puts_cons e0 (puts_cons e5 (puts_cons e6 (puts_cons e7 (puts_cons e8 (fun p hp => puts_nil hp)))))) (lex_Tokens.s40_eq Z Q X1 ρ s_0 out_5 out_5n out_5c at_6 t_7 n_8) he hr h
noncomputable def lex_Tokens.c45 : Code := sq1 lex_Tokens.c37
noncomputable def lex_Tokens.c46 : Code := sq2 lex_Tokens.c37
theorem lex_Tokens.q47 : lex_Tokens.c37 = .seq lex_Tokens.c45 lex_Tokens.c46 := by kernel_rfl
noncomputable def lex_Tokens.c48 : Code := blk lex_Tokens.c46
theorem lex_Tokens.q49 : lex_Tokens.c46 = .block 2 lex_Tokens.c48 := by kernel_rfl
noncomputable def lex_Tokens.c50 : Code := sq1 lex_Tokens.c48
noncomputable def lex_Tokens.c51 : Code := sq2 lex_Tokens.c48
theorem lex_Tokens.q52 : lex_Tokens.c48 = .seq lex_Tokens.c50 lex_Tokens.c51 := by kernel_rfl
noncomputable def lex_Tokens.c53 : Code := cn1 lex_Tokens.c51
noncomputable def lex_Tokens.c54 : Code := cn2 lex_Tokens.c51
theorem lex_Tokens.q55 : lex_Tokens.c51 = .cond (.tmp 25) lex_Tokens.c53 lex_Tokens.c54 := by kernel_rfl
def lex_Tokens.s56 (Z : ZT) (Q : OA → Nat → Nat → Int → Int → PT) (X1 : ByteArray → OA → Nat → Nat → Int → PT) (s_0 : ByteArray) (out_5 : OA) (out_5n out_5c : Nat) (at_6 : Int) : PT :=
  (X1 s_0 out_5 out_5n out_5c (IntKind.wrap .i64 (at_6 + 1)))
def lex_Tokens.q57 (Z : ZT) (Q : OA → Nat → Nat → Int → Int → PT) (X1 : ByteArray → OA → Nat → Nat → Int → PT) : QF := thenK (lex_Tokens.j44 Z Q X1) (lex_Tokens.q43 Z Q X1)
def lex_Tokens.q58 (Z : ZT) (Q : OA → Nat → Nat → Int → Int → PT) (X1 : ByteArray → OA → Nat → Nat → Int → PT) : QF := inBl 2 (lex_Tokens.q57 Z Q X1)
theorem lex_Tokens.s56_eq (Z : ZT) (Q : OA → Nat → Nat → Int → Int → PT) (X1 : ByteArray → OA → Nat → Nat → Int → PT) (ρ : Fr) (s_0 : ByteArray) (out_5 : OA) (out_5n out_5c : Nat) (at_6 : Int) : comp Tryd.prog Z lex_Tokens.c53 (lex_Tokens.q58 Z Q X1) (puts ρ [(0, (Value.string s_0)), (5, (Value.slice out_5 out_5n out_5c)), (6, (Value.int .i64 at_6))]) = lex_Tokens.s56 Z Q X1 s_0 out_5 out_5n out_5c at_6 := by kernel_rfl
def lex_Tokens.j59 (Z : ZT) (Q : OA → Nat → Nat → Int → Int → PT) (X1 : ByteArray → OA → Nat → Nat → Int → PT) : Fr → PT := (fun ρ => atS (ρ 0) fun s_0 => atL (ρ 5) fun out_5 out_5n out_5c => atI .i64 (ρ 6) fun at_6 => (lex_Tokens.s56 Z Q X1 s_0 out_5 out_5n out_5c at_6))
theorem lex_Tokens.s56_ok (Z : ZT) (Q : OA → Nat → Nat → Int → Int → PT) (X1 : ByteArray → OA → Nat → Nat → Int → PT) : Ok Tryd.prog Tryd.f36.ntmps Z lex_Tokens.c53 (lex_Tokens.q58 Z Q X1) (lex_Tokens.j59 Z Q X1) := by
  intro E he ρ w a hr h
  obtain ⟨s_0, e0, h⟩ := atS_e h
  obtain ⟨out_5, out_5n, out_5c, e5, h⟩ := atL_e h
  obtain ⟨at_6, e6, h⟩ := atI_e h
  exact ok_at [(0, (Value.string s_0)), (5, (Value.slice out_5 out_5n out_5c)), (6, (Value.int .i64 at_6))] (okC lex_Tokens.c53 (lex_Tokens.q58 Z Q X1) (by kernel_rfl)) (puts_cons e0 (puts_cons e5 (puts_cons e6 (fun p hp => puts_nil hp)))) (lex_Tokens.s56_eq Z Q X1 ρ s_0 out_5 out_5n out_5c at_6) he hr h
noncomputable def lex_Tokens.c60 : Code := sq1 lex_Tokens.c54
noncomputable def lex_Tokens.c61 : Code := sq2 lex_Tokens.c54
theorem lex_Tokens.q62 : lex_Tokens.c54 = .seq lex_Tokens.c60 lex_Tokens.c61 := by kernel_rfl
noncomputable def lex_Tokens.c63 : Code := cn1 lex_Tokens.c61
noncomputable def lex_Tokens.c64 : Code := cn2 lex_Tokens.c61
theorem lex_Tokens.q65 : lex_Tokens.c61 = .cond (.tmp 38) lex_Tokens.c63 lex_Tokens.c64 := by kernel_rfl
noncomputable def lex_Tokens.c66 : Code := sq1 lex_Tokens.c63
noncomputable def lex_Tokens.c67 : Code := sq2 lex_Tokens.c63
theorem lex_Tokens.q68 : lex_Tokens.c63 = .seq lex_Tokens.c66 lex_Tokens.c67 := by kernel_rfl
def lex_Tokens.s69 (Z : ZT) (Q : OA → Nat → Nat → Int → Int → PT) (X1 : ByteArray → OA → Nat → Nat → Int → PT) (s_0 : ByteArray) (out_5 : OA) (out_5n out_5c : Nat) (at_6 : Int) : PT :=
  (X1 s_0 out_5 out_5n out_5c at_6)
theorem lex_Tokens.s69_eq (Z : ZT) (Q : OA → Nat → Nat → Int → Int → PT) (X1 : ByteArray → OA → Nat → Nat → Int → PT) (ρ : Fr) (s_0 : ByteArray) (out_5 : OA) (out_5n out_5c : Nat) (at_6 : Int) : comp Tryd.prog Z lex_Tokens.c67 (lex_Tokens.q58 Z Q X1) (puts ρ [(0, (Value.string s_0)), (5, (Value.slice out_5 out_5n out_5c)), (6, (Value.int .i64 at_6))]) = lex_Tokens.s69 Z Q X1 s_0 out_5 out_5n out_5c at_6 := by kernel_rfl
def lex_Tokens.j70 (Z : ZT) (Q : OA → Nat → Nat → Int → Int → PT) (X1 : ByteArray → OA → Nat → Nat → Int → PT) : Fr → PT := (fun ρ => atS (ρ 0) fun s_0 => atL (ρ 5) fun out_5 out_5n out_5c => atI .i64 (ρ 6) fun at_6 => (lex_Tokens.s69 Z Q X1 s_0 out_5 out_5n out_5c at_6))
theorem lex_Tokens.s69_ok (Z : ZT) (Q : OA → Nat → Nat → Int → Int → PT) (X1 : ByteArray → OA → Nat → Nat → Int → PT) : Ok Tryd.prog Tryd.f36.ntmps Z lex_Tokens.c67 (lex_Tokens.q58 Z Q X1) (lex_Tokens.j70 Z Q X1) := by
  intro E he ρ w a hr h
  obtain ⟨s_0, e0, h⟩ := atS_e h
  obtain ⟨out_5, out_5n, out_5c, e5, h⟩ := atL_e h
  obtain ⟨at_6, e6, h⟩ := atI_e h
  exact ok_at [(0, (Value.string s_0)), (5, (Value.slice out_5 out_5n out_5c)), (6, (Value.int .i64 at_6))] (okC lex_Tokens.c67 (lex_Tokens.q58 Z Q X1) (by kernel_rfl)) (puts_cons e0 (puts_cons e5 (puts_cons e6 (fun p hp => puts_nil hp)))) (lex_Tokens.s69_eq Z Q X1 ρ s_0 out_5 out_5n out_5c at_6) he hr h
noncomputable def lex_Tokens.c71 : Code := blk lex_Tokens.c66
theorem lex_Tokens.q72 : lex_Tokens.c66 = .block 3 lex_Tokens.c71 := by kernel_rfl
noncomputable def lex_Tokens.c73 : Code := lop lex_Tokens.c71
theorem lex_Tokens.q74 : lex_Tokens.c71 = .loop lex_Tokens.c73 := by kernel_rfl
def lex_Tokens.q76 (Z : ZT) (Q : OA → Nat → Nat → Int → Int → PT) (X1 : ByteArray → OA → Nat → Nat → Int → PT) : QF := thenK (lex_Tokens.j70 Z Q X1) (lex_Tokens.q58 Z Q X1)
def lex_Tokens.q77 (Z : ZT) (Q : OA → Nat → Nat → Int → Int → PT) (X1 : ByteArray → OA → Nat → Nat → Int → PT) : QF := inBl 3 (lex_Tokens.q76 Z Q X1)
def lex_Tokens.s78 (Z : ZT) (Q : OA → Nat → Nat → Int → Int → PT) (X1 : ByteArray → OA → Nat → Nat → Int → PT) (X2 : ByteArray → OA → Nat → Nat → Int → PT) (s_0 : ByteArray) (out_5 : OA) (out_5n out_5c : Nat) (at_6 : Int) : PT :=
  (pif (decide (at_6 < ((s_0.size : Nat) : Int))) (ixT s_0 at_6 fun v12 => (pif (((v12.toNat : Nat) : Int) != 10) (X2 s_0 out_5 out_5n out_5c (IntKind.wrap .i64 (at_6 + 1))) (lex_Tokens.s69 Z Q X1 s_0 out_5 out_5n out_5c at_6))) (lex_Tokens.s69 Z Q X1 s_0 out_5 out_5n out_5c at_6))
def lex_Tokens.j79 (Z : ZT) (Q : OA → Nat → Nat → Int → Int → PT) (X1 : ByteArray → OA → Nat → Nat → Int → PT) (X2 : ByteArray → OA → Nat → Nat → Int → PT) : Fr → PT := (fun ρ => atS (ρ 0) fun s_0 => atL (ρ 5) fun out_5 out_5n out_5c => atI .i64 (ρ 6) fun at_6 => (X2 s_0 out_5 out_5n out_5c at_6))
def lex_Tokens.q80 (Z : ZT) (Q : OA → Nat → Nat → Int → Int → PT) (X1 : ByteArray → OA → Nat → Nat → Int → PT) (X2 : ByteArray → OA → Nat → Nat → Int → PT) : QF := thenK (lex_Tokens.j79 Z Q X1 X2) (lex_Tokens.q77 Z Q X1)
theorem lex_Tokens.s78_eq (Z : ZT) (Q : OA → Nat → Nat → Int → Int → PT) (X1 : ByteArray → OA → Nat → Nat → Int → PT) (X2 : ByteArray → OA → Nat → Nat → Int → PT) (ρ : Fr) (s_0 : ByteArray) (out_5 : OA) (out_5n out_5c : Nat) (at_6 : Int) : comp Tryd.prog Z lex_Tokens.c73 (lex_Tokens.q80 Z Q X1 X2) (puts ρ [(0, (Value.string s_0)), (5, (Value.slice out_5 out_5n out_5c)), (6, (Value.int .i64 at_6))]) = lex_Tokens.s78 Z Q X1 X2 s_0 out_5 out_5n out_5c at_6 := by kernel_rfl
def lex_Tokens.j81 (Z : ZT) (Q : OA → Nat → Nat → Int → Int → PT) (X1 : ByteArray → OA → Nat → Nat → Int → PT) (X2 : ByteArray → OA → Nat → Nat → Int → PT) : Fr → PT := (fun ρ => atS (ρ 0) fun s_0 => atL (ρ 5) fun out_5 out_5n out_5c => atI .i64 (ρ 6) fun at_6 => (lex_Tokens.s78 Z Q X1 X2 s_0 out_5 out_5n out_5c at_6))
theorem lex_Tokens.s78_ok (Z : ZT) (Q : OA → Nat → Nat → Int → Int → PT) (X1 : ByteArray → OA → Nat → Nat → Int → PT) (X2 : ByteArray → OA → Nat → Nat → Int → PT) : Ok Tryd.prog Tryd.f36.ntmps Z lex_Tokens.c73 (lex_Tokens.q80 Z Q X1 X2) (lex_Tokens.j81 Z Q X1 X2) := by
  intro E he ρ w a hr h
  obtain ⟨s_0, e0, h⟩ := atS_e h
  obtain ⟨out_5, out_5n, out_5c, e5, h⟩ := atL_e h
  obtain ⟨at_6, e6, h⟩ := atI_e h
  exact ok_at [(0, (Value.string s_0)), (5, (Value.slice out_5 out_5n out_5c)), (6, (Value.int .i64 at_6))] (okC lex_Tokens.c73 (lex_Tokens.q80 Z Q X1 X2) (by kernel_rfl)) (puts_cons e0 (puts_cons e5 (puts_cons e6 (fun p hp => puts_nil hp)))) (lex_Tokens.s78_eq Z Q X1 X2 ρ s_0 out_5 out_5n out_5c at_6) he hr h
def lex_Tokens.l75 (Z : ZT) (Q : OA → Nat → Nat → Int → Int → PT) (X1 : ByteArray → OA → Nat → Nat → Int → PT) : Nat → ByteArray → OA → Nat → Nat → Int → PT
  | 0, _, _, _, _, _ => bad
  | k + 1, s_0, out_5, out_5n, out_5c, at_6 => (lex_Tokens.s78 Z Q X1 (lex_Tokens.l75 Z Q X1 k) s_0 out_5 out_5n out_5c at_6)
def lex_Tokens.j82 (Z : ZT) (Q : OA → Nat → Nat → Int → Int → PT) (X1 : ByteArray → OA → Nat → Nat → Int → PT) (k : Nat) : Fr → PT := (fun ρ => atS (ρ 0) fun s_0 => atL (ρ 5) fun out_5 out_5n out_5c => atI .i64 (ρ 6) fun at_6 => (lex_Tokens.l75 Z Q X1 k s_0 out_5 out_5n out_5c at_6))
def lex_Tokens.j83 (Z : ZT) (Q : OA → Nat → Nat → Int → Int → PT) (X1 : ByteArray → OA → Nat → Nat → Int → PT) : Fr → PT := (fun ρ => atS (ρ 0) fun s_0 => atL (ρ 5) fun out_5 out_5n out_5c => atI .i64 (ρ 6) fun at_6 => (exK fun k => lex_Tokens.l75 Z Q X1 k s_0 out_5 out_5n out_5c at_6))
theorem lex_Tokens.o84 (Z : ZT) (Q : OA → Nat → Nat → Int → Int → PT) (X1 : ByteArray → OA → Nat → Nat → Int → PT) : Ok Tryd.prog Tryd.f36.ntmps Z lex_Tokens.c71 (lex_Tokens.q77 Z Q X1) (lex_Tokens.j83 Z Q X1) := by
  rw [lex_Tokens.q74]
  refine Ok.imp (ok_loop (J := lex_Tokens.j82 Z Q X1) ?_ ?_) ?_
  · intro ρ w h
    obtain ⟨s_0, e0, h⟩ := atS_e h
    obtain ⟨out_5, out_5n, out_5c, e5, h⟩ := atL_e h
    obtain ⟨at_6, e6, h⟩ := atI_e h
    exact h
  · intro k
    refine Ok.imp (lex_Tokens.s78_ok Z Q X1 (lex_Tokens.l75 Z Q X1 k)) fun ρ w h => ?_
    obtain ⟨s_0, e0, h⟩ := atS_e h
    obtain ⟨out_5, out_5n, out_5c, e5, h⟩ := atL_e h
    obtain ⟨at_6, e6, h⟩ := atI_e h
    show (lex_Tokens.j81 Z Q X1 (lex_Tokens.l75 Z Q X1 k)) ρ w
    simp only [lex_Tokens.j81]
    rw [e0]
    rw [e5]
    rw [e6]
    exact h
  · intro ρ w h
    obtain ⟨s_0, e0, h⟩ := atS_e h
    obtain ⟨out_5, out_5n, out_5c, e5, h⟩ := atL_e h
    obtain ⟨at_6, e6, h⟩ := atI_e h
    obtain ⟨k, h⟩ := h
    refine ⟨k, ?_⟩
    show (atS (ρ 0) fun s_0 => atL (ρ 5) fun out_5 out_5n out_5c => atI .i64 (ρ 6) fun at_6 => (lex_Tokens.l75 Z Q X1 k s_0 out_5 out_5n out_5c at_6)) w
    rw [e0]
    rw [e5]
    rw [e6]
    exact h
theorem lex_Tokens.o85 (Z : ZT) (Q : OA → Nat → Nat → Int → Int → PT) (X1 : ByteArray → OA → Nat → Nat → Int → PT) : Ok Tryd.prog Tryd.f36.ntmps Z lex_Tokens.c66 (lex_Tokens.q76 Z Q X1) (lex_Tokens.j83 Z Q X1) := by
  rw [lex_Tokens.q72]; exact ok_block (lex_Tokens.o84 Z Q X1)
theorem lex_Tokens.o86 (Z : ZT) (Q : OA → Nat → Nat → Int → Int → PT) (X1 : ByteArray → OA → Nat → Nat → Int → PT) : Ok Tryd.prog Tryd.f36.ntmps Z lex_Tokens.c63 (lex_Tokens.q58 Z Q X1) (lex_Tokens.j83 Z Q X1) := by
  rw [lex_Tokens.q68]; exact ok_seq (lex_Tokens.o85 Z Q X1) (lex_Tokens.s69_ok Z Q X1)
noncomputable def lex_Tokens.c87 : Code := sq1 lex_Tokens.c64
noncomputable def lex_Tokens.c88 : Code := sq2 lex_Tokens.c64
theorem lex_Tokens.q89 : lex_Tokens.c64 = .seq lex_Tokens.c87 lex_Tokens.c88 := by kernel_rfl
noncomputable def lex_Tokens.c90 : Code := cn1 lex_Tokens.c88
noncomputable def lex_Tokens.c91 : Code := cn2 lex_Tokens.c88
theorem lex_Tokens.q92 : lex_Tokens.c88 = .cond (.tmp 53) lex_Tokens.c90 lex_Tokens.c91 := by kernel_rfl
def lex_Tokens.s93 (Z : ZT) (Q : OA → Nat → Nat → Int → Int → PT) (X1 : ByteArray → OA → Nat → Nat → Int → PT) (s_0 : ByteArray) (out_5 : OA) (out_5n out_5c : Nat) (at_6 : Int) (t_7 : Addr) : PT :=
  (cal Tryd.prog Z 57 [(Value.string s_0), (Value.int .i64 at_6), (Value.int .u8 97), (Value.int .u8 122)] (isI .i64 fun v17 => (st1 (t_7.add 0) (Value.int .i64 1) (slT s_0 at_6 (IntKind.wrap .i64 (at_6 + v17)) fun v18 => (st1 (t_7.add 2) (Value.string v18) (lex_Tokens.s40 Z Q X1 s_0 out_5 out_5n out_5c at_6 t_7 v17))))))
theorem lex_Tokens.s93_eq (Z : ZT) (Q : OA → Nat → Nat → Int → Int → PT) (X1 : ByteArray → OA → Nat → Nat → Int → PT) (ρ : Fr) (s_0 : ByteArray) (out_5 : OA) (out_5n out_5c : Nat) (at_6 : Int) (t_7 : Addr) : comp Tryd.prog Z lex_Tokens.c90 (lex_Tokens.q58 Z Q X1) (puts ρ [(0, (Value.string s_0)), (5, (Value.slice out_5 out_5n out_5c)), (6, (Value.int .i64 at_6)), (7, (Value.pointer (some t_7)))]) = lex_Tokens.s93 Z Q X1 s_0 out_5 out_5n out_5c at_6 t_7 := by kernel_rfl
def lex_Tokens.j94 (Z : ZT) (Q : OA → Nat → Nat → Int → Int → PT) (X1 : ByteArray → OA → Nat → Nat → Int → PT) : Fr → PT := (fun ρ => atS (ρ 0) fun s_0 => atL (ρ 5) fun out_5 out_5n out_5c => atI .i64 (ρ 6) fun at_6 => atA (ρ 7) fun t_7 => (lex_Tokens.s93 Z Q X1 s_0 out_5 out_5n out_5c at_6 t_7))
theorem lex_Tokens.s93_ok (Z : ZT) (Q : OA → Nat → Nat → Int → Int → PT) (X1 : ByteArray → OA → Nat → Nat → Int → PT) : Ok Tryd.prog Tryd.f36.ntmps Z lex_Tokens.c90 (lex_Tokens.q58 Z Q X1) (lex_Tokens.j94 Z Q X1) := by
  intro E he ρ w a hr h
  obtain ⟨s_0, e0, h⟩ := atS_e h
  obtain ⟨out_5, out_5n, out_5c, e5, h⟩ := atL_e h
  obtain ⟨at_6, e6, h⟩ := atI_e h
  obtain ⟨t_7, e7, h⟩ := atA_e h
  exact ok_at [(0, (Value.string s_0)), (5, (Value.slice out_5 out_5n out_5c)), (6, (Value.int .i64 at_6)), (7, (Value.pointer (some t_7)))] (okC lex_Tokens.c90 (lex_Tokens.q58 Z Q X1) (by kernel_rfl)) (puts_cons e0 (puts_cons e5 (puts_cons e6 (puts_cons e7 (fun p hp => puts_nil hp))))) (lex_Tokens.s93_eq Z Q X1 ρ s_0 out_5 out_5n out_5c at_6 t_7) he hr h
noncomputable def lex_Tokens.c95 : Code := sq1 lex_Tokens.c91
noncomputable def lex_Tokens.c96 : Code := sq2 lex_Tokens.c91
theorem lex_Tokens.q97 : lex_Tokens.c91 = .seq lex_Tokens.c95 lex_Tokens.c96 := by kernel_rfl
noncomputable def lex_Tokens.c98 : Code := cn1 lex_Tokens.c96
noncomputable def lex_Tokens.c99 : Code := cn2 lex_Tokens.c96
theorem lex_Tokens.q100 : lex_Tokens.c96 = .cond (.tmp 71) lex_Tokens.c98 lex_Tokens.c99 := by kernel_rfl
def lex_Tokens.s101 (Z : ZT) (Q : OA → Nat → Nat → Int → Int → PT) (X1 : ByteArray → OA → Nat → Nat → Int → PT) (s_0 : ByteArray) (out_5 : OA) (out_5n out_5c : Nat) (at_6 : Int) (t_7 : Addr) : PT :=
  (cal Tryd.prog Z 57 [(Value.string s_0), (Value.int .i64 at_6), (Value.int .u8 48), (Value.int .u8 57)] (isI .i64 fun v58 => (slT s_0 at_6 (IntKind.wrap .i64 (at_6 + v58)) fun v59 => (cal Tryd.prog Z 58 [(Value.string v59)] (isT2 fun t60 t61 => (isI .i64 fun v62 => ((isB fun v63 => (pif (!v63) (Q none 0 0 7 at_6) (st1 (t_7.add 0) (Value.int .i64 2) (st1 (t_7.add 3) (Value.int .i64 v62) (lex_Tokens.s40 Z Q X1 s_0 out_5 out_5n out_5c at_6 t_7 v58))))) t61)) t60)))))
theorem lex_Tokens.s101_eq (Z : ZT) (Q : OA → Nat → Nat → Int → Int → PT) (X1 : ByteArray → OA → Nat → Nat → Int → PT) (ρ : Fr) (s_0 : ByteArray) (out_5 : OA) (out_5n out_5c : Nat) (at_6 : Int) (t_7 : Addr) : comp Tryd.prog Z lex_Tokens.c98 (lex_Tokens.q58 Z Q X1) (puts ρ [(0, (Value.string s_0)), (5, (Value.slice out_5 out_5n out_5c)), (6, (Value.int .i64 at_6)), (7, (Value.pointer (some t_7)))]) = lex_Tokens.s101 Z Q X1 s_0 out_5 out_5n out_5c at_6 t_7 := by kernel_rfl
def lex_Tokens.j102 (Z : ZT) (Q : OA → Nat → Nat → Int → Int → PT) (X1 : ByteArray → OA → Nat → Nat → Int → PT) : Fr → PT := (fun ρ => atS (ρ 0) fun s_0 => atL (ρ 5) fun out_5 out_5n out_5c => atI .i64 (ρ 6) fun at_6 => atA (ρ 7) fun t_7 => (lex_Tokens.s101 Z Q X1 s_0 out_5 out_5n out_5c at_6 t_7))
theorem lex_Tokens.s101_ok (Z : ZT) (Q : OA → Nat → Nat → Int → Int → PT) (X1 : ByteArray → OA → Nat → Nat → Int → PT) : Ok Tryd.prog Tryd.f36.ntmps Z lex_Tokens.c98 (lex_Tokens.q58 Z Q X1) (lex_Tokens.j102 Z Q X1) := by
  intro E he ρ w a hr h
  obtain ⟨s_0, e0, h⟩ := atS_e h
  obtain ⟨out_5, out_5n, out_5c, e5, h⟩ := atL_e h
  obtain ⟨at_6, e6, h⟩ := atI_e h
  obtain ⟨t_7, e7, h⟩ := atA_e h
  exact ok_at [(0, (Value.string s_0)), (5, (Value.slice out_5 out_5n out_5c)), (6, (Value.int .i64 at_6)), (7, (Value.pointer (some t_7)))] (okC lex_Tokens.c98 (lex_Tokens.q58 Z Q X1) (by kernel_rfl)) (puts_cons e0 (puts_cons e5 (puts_cons e6 (puts_cons e7 (fun p hp => puts_nil hp))))) (lex_Tokens.s101_eq Z Q X1 ρ s_0 out_5 out_5n out_5c at_6 t_7) he hr h
noncomputable def lex_Tokens.c103 : Code := sq1 lex_Tokens.c99
noncomputable def lex_Tokens.c104 : Code := sq2 lex_Tokens.c99
theorem lex_Tokens.q105 : lex_Tokens.c99 = .seq lex_Tokens.c103 lex_Tokens.c104 := by kernel_rfl
noncomputable def lex_Tokens.c106 : Code := cn1 lex_Tokens.c104
noncomputable def lex_Tokens.c107 : Code := cn2 lex_Tokens.c104
theorem lex_Tokens.q108 : lex_Tokens.c104 = .cond (.tmp 97) lex_Tokens.c106 lex_Tokens.c107 := by kernel_rfl
def lex_Tokens.s109 (Z : ZT) (Q : OA → Nat → Nat → Int → Int → PT) (X1 : ByteArray → OA → Nat → Nat → Int → PT) (s_0 : ByteArray) (out_5 : OA) (out_5n out_5c : Nat) (at_6 : Int) (t_7 : Addr) (n_8 : Int) : PT :=
  (st1 (t_7.add 0) (Value.int .i64 3) (lex_Tokens.s40 Z Q X1 s_0 out_5 out_5n out_5c at_6 t_7 n_8))
theorem lex_Tokens.s109_eq (Z : ZT) (Q : OA → Nat → Nat → Int → Int → PT) (X1 : ByteArray → OA → Nat → Nat → Int → PT) (ρ : Fr) (s_0 : ByteArray) (out_5 : OA) (out_5n out_5c : Nat) (at_6 : Int) (t_7 : Addr) (n_8 : Int) : comp Tryd.prog Z lex_Tokens.c106 (lex_Tokens.q58 Z Q X1) (puts ρ [(0, (Value.string s_0)), (5, (Value.slice out_5 out_5n out_5c)), (6, (Value.int .i64 at_6)), (7, (Value.pointer (some t_7))), (8, (Value.int .i64 n_8))]) = lex_Tokens.s109 Z Q X1 s_0 out_5 out_5n out_5c at_6 t_7 n_8 := by kernel_rfl
def lex_Tokens.j110 (Z : ZT) (Q : OA → Nat → Nat → Int → Int → PT) (X1 : ByteArray → OA → Nat → Nat → Int → PT) : Fr → PT := (fun ρ => atS (ρ 0) fun s_0 => atL (ρ 5) fun out_5 out_5n out_5c => atI .i64 (ρ 6) fun at_6 => atA (ρ 7) fun t_7 => atI .i64 (ρ 8) fun n_8 => (lex_Tokens.s109 Z Q X1 s_0 out_5 out_5n out_5c at_6 t_7 n_8))
theorem lex_Tokens.s109_ok (Z : ZT) (Q : OA → Nat → Nat → Int → Int → PT) (X1 : ByteArray → OA → Nat → Nat → Int → PT) : Ok Tryd.prog Tryd.f36.ntmps Z lex_Tokens.c106 (lex_Tokens.q58 Z Q X1) (lex_Tokens.j110 Z Q X1) := by
  intro E he ρ w a hr h
  obtain ⟨s_0, e0, h⟩ := atS_e h
  obtain ⟨out_5, out_5n, out_5c, e5, h⟩ := atL_e h
  obtain ⟨at_6, e6, h⟩ := atI_e h
  obtain ⟨t_7, e7, h⟩ := atA_e h
  obtain ⟨n_8, e8, h⟩ := atI_e h
  exact ok_at [(0, (Value.string s_0)), (5, (Value.slice out_5 out_5n out_5c)), (6, (Value.int .i64 at_6)), (7, (Value.pointer (some t_7))), (8, (Value.int .i64 n_8))] (okC lex_Tokens.c106 (lex_Tokens.q58 Z Q X1) (by kernel_rfl)) (puts_cons e0 (puts_cons e5 (puts_cons e6 (puts_cons e7 (puts_cons e8 (fun p hp => puts_nil hp)))))) (lex_Tokens.s109_eq Z Q X1 ρ s_0 out_5 out_5n out_5c at_6 t_7 n_8) he hr h
noncomputable def lex_Tokens.c111 : Code := sq1 lex_Tokens.c107
noncomputable def lex_Tokens.c112 : Code := sq2 lex_Tokens.c107
theorem lex_Tokens.q113 : lex_Tokens.c107 = .seq lex_Tokens.c111 lex_Tokens.c112 := by kernel_rfl
noncomputable def lex_Tokens.c114 : Code := cn1 lex_Tokens.c112
noncomputable def lex_Tokens.c115 : Code := cn2 lex_Tokens.c112
theorem lex_Tokens.q116 : lex_Tokens.c112 = .cond (.tmp 101) lex_Tokens.c114 lex_Tokens.c115 := by kernel_rfl
def lex_Tokens.s117 (Z : ZT) (Q : OA → Nat → Nat → Int → Int → PT) (X1 : ByteArray → OA → Nat → Nat → Int → PT) (s_0 : ByteArray) (out_5 : OA) (out_5n out_5c : Nat) (at_6 : Int) (t_7 : Addr) (n_8 : Int) : PT :=
  (st1 (t_7.add 0) (Value.int .i64 4) (lex_Tokens.s40 Z Q X1 s_0 out_5 out_5n out_5c at_6 t_7 n_8))
theorem lex_Tokens.s117_eq (Z : ZT) (Q : OA → Nat → Nat → Int → Int → PT) (X1 : ByteArray → OA → Nat → Nat → Int → PT) (ρ : Fr) (s_0 : ByteArray) (out_5 : OA) (out_5n out_5c : Nat) (at_6 : Int) (t_7 : Addr) (n_8 : Int) : comp Tryd.prog Z lex_Tokens.c114 (lex_Tokens.q58 Z Q X1) (puts ρ [(0, (Value.string s_0)), (5, (Value.slice out_5 out_5n out_5c)), (6, (Value.int .i64 at_6)), (7, (Value.pointer (some t_7))), (8, (Value.int .i64 n_8))]) = lex_Tokens.s117 Z Q X1 s_0 out_5 out_5n out_5c at_6 t_7 n_8 := by kernel_rfl
def lex_Tokens.j118 (Z : ZT) (Q : OA → Nat → Nat → Int → Int → PT) (X1 : ByteArray → OA → Nat → Nat → Int → PT) : Fr → PT := (fun ρ => atS (ρ 0) fun s_0 => atL (ρ 5) fun out_5 out_5n out_5c => atI .i64 (ρ 6) fun at_6 => atA (ρ 7) fun t_7 => atI .i64 (ρ 8) fun n_8 => (lex_Tokens.s117 Z Q X1 s_0 out_5 out_5n out_5c at_6 t_7 n_8))
theorem lex_Tokens.s117_ok (Z : ZT) (Q : OA → Nat → Nat → Int → Int → PT) (X1 : ByteArray → OA → Nat → Nat → Int → PT) : Ok Tryd.prog Tryd.f36.ntmps Z lex_Tokens.c114 (lex_Tokens.q58 Z Q X1) (lex_Tokens.j118 Z Q X1) := by
  intro E he ρ w a hr h
  obtain ⟨s_0, e0, h⟩ := atS_e h
  obtain ⟨out_5, out_5n, out_5c, e5, h⟩ := atL_e h
  obtain ⟨at_6, e6, h⟩ := atI_e h
  obtain ⟨t_7, e7, h⟩ := atA_e h
  obtain ⟨n_8, e8, h⟩ := atI_e h
  exact ok_at [(0, (Value.string s_0)), (5, (Value.slice out_5 out_5n out_5c)), (6, (Value.int .i64 at_6)), (7, (Value.pointer (some t_7))), (8, (Value.int .i64 n_8))] (okC lex_Tokens.c114 (lex_Tokens.q58 Z Q X1) (by kernel_rfl)) (puts_cons e0 (puts_cons e5 (puts_cons e6 (puts_cons e7 (puts_cons e8 (fun p hp => puts_nil hp)))))) (lex_Tokens.s117_eq Z Q X1 ρ s_0 out_5 out_5n out_5c at_6 t_7 n_8) he hr h
noncomputable def lex_Tokens.c119 : Code := sq1 lex_Tokens.c115
noncomputable def lex_Tokens.c120 : Code := sq2 lex_Tokens.c115
theorem lex_Tokens.q121 : lex_Tokens.c115 = .seq lex_Tokens.c119 lex_Tokens.c120 := by kernel_rfl
def lex_Tokens.s122 (Z : ZT) (Q : OA → Nat → Nat → Int → Int → PT) (X1 : ByteArray → OA → Nat → Nat → Int → PT) (s_0 : ByteArray) (out_5 : OA) (out_5n out_5c : Nat) (at_6 : Int) (t_7 : Addr) (n_8 : Int) (c_9 : Int) (t_105 : Bool) : PT :=
  (pif t_105 (st1 (t_7.add 0) (Value.int .i64 6) (lex_Tokens.s40 Z Q X1 s_0 out_5 out_5n out_5c at_6 t_7 2)) (pif (c_9 == 45) (st1 (t_7.add 0) (Value.int .i64 5) (lex_Tokens.s40 Z Q X1 s_0 out_5 out_5n out_5c at_6 t_7 n_8)) (pif (c_9 == 10) (st1 (t_7.add 0) (Value.int .i64 7) (lex_Tokens.s40 Z Q X1 s_0 out_5 out_5n out_5c at_6 t_7 n_8)) (Q none 0 0 6 at_6))))
theorem lex_Tokens.s122_eq (Z : ZT) (Q : OA → Nat → Nat → Int → Int → PT) (X1 : ByteArray → OA → Nat → Nat → Int → PT) (ρ : Fr) (s_0 : ByteArray) (out_5 : OA) (out_5n out_5c : Nat) (at_6 : Int) (t_7 : Addr) (n_8 : Int) (c_9 : Int) (t_105 : Bool) : comp Tryd.prog Z lex_Tokens.c120 (lex_Tokens.q58 Z Q X1) (puts ρ [(0, (Value.string s_0)), (5, (Value.slice out_5 out_5n out_5c)), (6, (Value.int .i64 at_6)), (7, (Value.pointer (some t_7))), (8, (Value.int .i64 n_8)), (9, (Value.int .u8 c_9)), (105, (Value.bool t_105))]) = lex_Tokens.s122 Z Q X1 s_0 out_5 out_5n out_5c at_6 t_7 n_8 c_9 t_105 := by kernel_rfl
def lex_Tokens.j123 (Z : ZT) (Q : OA → Nat → Nat → Int → Int → PT) (X1 : ByteArray → OA → Nat → Nat → Int → PT) : Fr → PT := (fun ρ => atS (ρ 0) fun s_0 => atL (ρ 5) fun out_5 out_5n out_5c => atI .i64 (ρ 6) fun at_6 => atA (ρ 7) fun t_7 => atI .i64 (ρ 8) fun n_8 => atI .u8 (ρ 9) fun c_9 => atB (ρ 105) fun t_105 => (lex_Tokens.s122 Z Q X1 s_0 out_5 out_5n out_5c at_6 t_7 n_8 c_9 t_105))
theorem lex_Tokens.s122_ok (Z : ZT) (Q : OA → Nat → Nat → Int → Int → PT) (X1 : ByteArray → OA → Nat → Nat → Int → PT) : Ok Tryd.prog Tryd.f36.ntmps Z lex_Tokens.c120 (lex_Tokens.q58 Z Q X1) (lex_Tokens.j123 Z Q X1) := by
  intro E he ρ w a hr h
  obtain ⟨s_0, e0, h⟩ := atS_e h
  obtain ⟨out_5, out_5n, out_5c, e5, h⟩ := atL_e h
  obtain ⟨at_6, e6, h⟩ := atI_e h
  obtain ⟨t_7, e7, h⟩ := atA_e h
  obtain ⟨n_8, e8, h⟩ := atI_e h
  obtain ⟨c_9, e9, h⟩ := atI_e h
  obtain ⟨t_105, e105, h⟩ := atB_e h
  exact ok_at [(0, (Value.string s_0)), (5, (Value.slice out_5 out_5n out_5c)), (6, (Value.int .i64 at_6)), (7, (Value.pointer (some t_7))), (8, (Value.int .i64 n_8)), (9, (Value.int .u8 c_9)), (105, (Value.bool t_105))] (okC lex_Tokens.c120 (lex_Tokens.q58 Z Q X1) (by kernel_rfl)) (puts_cons e0 (puts_cons e5 (puts_cons e6 (puts_cons e7 (puts_cons e8 (puts_cons e9 (puts_cons e105 (fun p hp => puts_nil hp)))))))) (lex_Tokens.s122_eq Z Q X1 ρ s_0 out_5 out_5n out_5c at_6 t_7 n_8 c_9 t_105) he hr h
def lex_Tokens.s124 (Z : ZT) (Q : OA → Nat → Nat → Int → Int → PT) (X1 : ByteArray → OA → Nat → Nat → Int → PT) (s_0 : ByteArray) (out_5 : OA) (out_5n out_5c : Nat) (at_6 : Int) (t_7 : Addr) (n_8 : Int) (c_9 : Int) : PT :=
  (pif (c_9 == 45) (pif (decide ((IntKind.wrap .i64 (at_6 + 1)) < ((s_0.size : Nat) : Int))) (ixT s_0 (IntKind.wrap .i64 (at_6 + 1)) fun v70 => (lex_Tokens.s122 Z Q X1 s_0 out_5 out_5n out_5c at_6 t_7 n_8 c_9 (((v70.toNat : Nat) : Int) == 62))) (lex_Tokens.s122 Z Q X1 s_0 out_5 out_5n out_5c at_6 t_7 n_8 c_9 false)) (lex_Tokens.s122 Z Q X1 s_0 out_5 out_5n out_5c at_6 t_7 n_8 c_9 false))
theorem lex_Tokens.s124_eq (Z : ZT) (Q : OA → Nat → Nat → Int → Int → PT) (X1 : ByteArray → OA → Nat → Nat → Int → PT) (ρ : Fr) (s_0 : ByteArray) (out_5 : OA) (out_5n out_5c : Nat) (at_6 : Int) (t_7 : Addr) (n_8 : Int) (c_9 : Int) : (comp Tryd.prog Z lex_Tokens.c119 (thenK (lex_Tokens.j123 Z Q X1) (lex_Tokens.q58 Z Q X1))) (puts ρ [(0, (Value.string s_0)), (5, (Value.slice out_5 out_5n out_5c)), (6, (Value.int .i64 at_6)), (7, (Value.pointer (some t_7))), (8, (Value.int .i64 n_8)), (9, (Value.int .u8 c_9))]) = lex_Tokens.s124 Z Q X1 s_0 out_5 out_5n out_5c at_6 t_7 n_8 c_9 := by kernel_rfl
def lex_Tokens.j125 (Z : ZT) (Q : OA → Nat → Nat → Int → Int → PT) (X1 : ByteArray → OA → Nat → Nat → Int → PT) : Fr → PT := (fun ρ => atS (ρ 0) fun s_0 => atL (ρ 5) fun out_5 out_5n out_5c => atI .i64 (ρ 6) fun at_6 => atA (ρ 7) fun t_7 => atI .i64 (ρ 8) fun n_8 => atI .u8 (ρ 9) fun c_9 => (lex_Tokens.s124 Z Q X1 s_0 out_5 out_5n out_5c at_6 t_7 n_8 c_9))
theorem lex_Tokens.s124_ok (Z : ZT) (Q : OA → Nat → Nat → Int → Int → PT) (X1 : ByteArray → OA → Nat → Nat → Int → PT) : Ok Tryd.prog Tryd.f36.ntmps Z lex_Tokens.c115 (lex_Tokens.q58 Z Q X1) (lex_Tokens.j125 Z Q X1) := by
  intro E he ρ w a hr h
  rw [lex_Tokens.q121] at he ⊢
  obtain ⟨s_0, e0, h⟩ := atS_e h
  obtain ⟨out_5, out_5n, out_5c, e5, h⟩ := atL_e h
  obtain ⟨at_6, e6, h⟩ := atI_e h
  obtain ⟨t_7, e7, h⟩ := atA_e h
  obtain ⟨n_8, e8, h⟩ := atI_e h
  obtain ⟨c_9, e9, h⟩ := atI_e h
  exact ok_at [(0, (Value.string s_0)), (5, (Value.slice out_5 out_5n out_5c)), (6, (Value.int .i64 at_6)), (7, (Value.pointer (some t_7))), (8, (Value.int .i64 n_8)), (9, (Value.int .u8 c_9))] (ok_seq (okC lex_Tokens.c119 _ (by kernel_rfl)) (lex_Tokens.s122_ok Z Q X1)) (puts_cons e0 (puts_cons e5 (puts_cons e6 (puts_cons e7 (puts_cons e8 (puts_cons e9 (fun p hp => puts_nil hp))))))) (lex_Tokens.s124_eq Z Q X1 ρ s_0 out_5 out_5n out_5c at_6 t_7 n_8 c_9) he hr h
theorem lex_Tokens.o126 (Z : ZT) (Q : OA → Nat → Nat → Int → Int → PT) (X1 : ByteArray → OA → Nat → Nat → Int → PT) : Ok Tryd.prog Tryd.f36.ntmps Z lex_Tokens.c112 (lex_Tokens.q58 Z Q X1) (condJ (.tmp 101) (lex_Tokens.j118 Z Q X1) (lex_Tokens.j125 Z Q X1)) := by
  rw [lex_Tokens.q116]; exact ok_cond (lex_Tokens.s117_ok Z Q X1) (lex_Tokens.s124_ok Z Q X1)
def lex_Tokens.s127 (Z : ZT) (Q : OA → Nat → Nat → Int → Int → PT) (X1 : ByteArray → OA → Nat → Nat → Int → PT) (s_0 : ByteArray) (out_5 : OA) (out_5n out_5c : Nat) (at_6 : Int) (t_7 : Addr) (n_8 : Int) (c_9 : Int) : PT :=
  (pif (c_9 == 47) (lex_Tokens.s117 Z Q X1 s_0 out_5 out_5n out_5c at_6 t_7 n_8) (lex_Tokens.s124 Z Q X1 s_0 out_5 out_5n out_5c at_6 t_7 n_8 c_9))
theorem lex_Tokens.s127_eq (Z : ZT) (Q : OA → Nat → Nat → Int → Int → PT) (X1 : ByteArray → OA → Nat → Nat → Int → PT) (ρ : Fr) (s_0 : ByteArray) (out_5 : OA) (out_5n out_5c : Nat) (at_6 : Int) (t_7 : Addr) (n_8 : Int) (c_9 : Int) : (comp Tryd.prog Z lex_Tokens.c111 (thenK (condJ (.tmp 101) (lex_Tokens.j118 Z Q X1) (lex_Tokens.j125 Z Q X1)) (lex_Tokens.q58 Z Q X1))) (puts ρ [(0, (Value.string s_0)), (5, (Value.slice out_5 out_5n out_5c)), (6, (Value.int .i64 at_6)), (7, (Value.pointer (some t_7))), (8, (Value.int .i64 n_8)), (9, (Value.int .u8 c_9))]) = lex_Tokens.s127 Z Q X1 s_0 out_5 out_5n out_5c at_6 t_7 n_8 c_9 := by kernel_rfl
def lex_Tokens.j128 (Z : ZT) (Q : OA → Nat → Nat → Int → Int → PT) (X1 : ByteArray → OA → Nat → Nat → Int → PT) : Fr → PT := (fun ρ => atS (ρ 0) fun s_0 => atL (ρ 5) fun out_5 out_5n out_5c => atI .i64 (ρ 6) fun at_6 => atA (ρ 7) fun t_7 => atI .i64 (ρ 8) fun n_8 => atI .u8 (ρ 9) fun c_9 => (lex_Tokens.s127 Z Q X1 s_0 out_5 out_5n out_5c at_6 t_7 n_8 c_9))
theorem lex_Tokens.s127_ok (Z : ZT) (Q : OA → Nat → Nat → Int → Int → PT) (X1 : ByteArray → OA → Nat → Nat → Int → PT) : Ok Tryd.prog Tryd.f36.ntmps Z lex_Tokens.c107 (lex_Tokens.q58 Z Q X1) (lex_Tokens.j128 Z Q X1) := by
  intro E he ρ w a hr h
  rw [lex_Tokens.q113] at he ⊢
  obtain ⟨s_0, e0, h⟩ := atS_e h
  obtain ⟨out_5, out_5n, out_5c, e5, h⟩ := atL_e h
  obtain ⟨at_6, e6, h⟩ := atI_e h
  obtain ⟨t_7, e7, h⟩ := atA_e h
  obtain ⟨n_8, e8, h⟩ := atI_e h
  obtain ⟨c_9, e9, h⟩ := atI_e h
  exact ok_at [(0, (Value.string s_0)), (5, (Value.slice out_5 out_5n out_5c)), (6, (Value.int .i64 at_6)), (7, (Value.pointer (some t_7))), (8, (Value.int .i64 n_8)), (9, (Value.int .u8 c_9))] (ok_seq (okC lex_Tokens.c111 _ (by kernel_rfl)) (lex_Tokens.o126 Z Q X1)) (puts_cons e0 (puts_cons e5 (puts_cons e6 (puts_cons e7 (puts_cons e8 (puts_cons e9 (fun p hp => puts_nil hp))))))) (lex_Tokens.s127_eq Z Q X1 ρ s_0 out_5 out_5n out_5c at_6 t_7 n_8 c_9) he hr h
theorem lex_Tokens.o129 (Z : ZT) (Q : OA → Nat → Nat → Int → Int → PT) (X1 : ByteArray → OA → Nat → Nat → Int → PT) : Ok Tryd.prog Tryd.f36.ntmps Z lex_Tokens.c104 (lex_Tokens.q58 Z Q X1) (condJ (.tmp 97) (lex_Tokens.j110 Z Q X1) (lex_Tokens.j128 Z Q X1)) := by
  rw [lex_Tokens.q108]; exact ok_cond (lex_Tokens.s109_ok Z Q X1) (lex_Tokens.s127_ok Z Q X1)
def lex_Tokens.s130 (Z : ZT) (Q : OA → Nat → Nat → Int → Int → PT) (X1 : ByteArray → OA → Nat → Nat → Int → PT) (s_0 : ByteArray) (out_5 : OA) (out_5n out_5c : Nat) (at_6 : Int) (t_7 : Addr) (n_8 : Int) (c_9 : Int) : PT :=
  (pif (c_9 == 46) (lex_Tokens.s109 Z Q X1 s_0 out_5 out_5n out_5c at_6 t_7 n_8) (lex_Tokens.s127 Z Q X1 s_0 out_5 out_5n out_5c at_6 t_7 n_8 c_9))
theorem lex_Tokens.s130_eq (Z : ZT) (Q : OA → Nat → Nat → Int → Int → PT) (X1 : ByteArray → OA → Nat → Nat → Int → PT) (ρ : Fr) (s_0 : ByteArray) (out_5 : OA) (out_5n out_5c : Nat) (at_6 : Int) (t_7 : Addr) (n_8 : Int) (c_9 : Int) : (comp Tryd.prog Z lex_Tokens.c103 (thenK (condJ (.tmp 97) (lex_Tokens.j110 Z Q X1) (lex_Tokens.j128 Z Q X1)) (lex_Tokens.q58 Z Q X1))) (puts ρ [(0, (Value.string s_0)), (5, (Value.slice out_5 out_5n out_5c)), (6, (Value.int .i64 at_6)), (7, (Value.pointer (some t_7))), (8, (Value.int .i64 n_8)), (9, (Value.int .u8 c_9))]) = lex_Tokens.s130 Z Q X1 s_0 out_5 out_5n out_5c at_6 t_7 n_8 c_9 := by kernel_rfl
def lex_Tokens.j131 (Z : ZT) (Q : OA → Nat → Nat → Int → Int → PT) (X1 : ByteArray → OA → Nat → Nat → Int → PT) : Fr → PT := (fun ρ => atS (ρ 0) fun s_0 => atL (ρ 5) fun out_5 out_5n out_5c => atI .i64 (ρ 6) fun at_6 => atA (ρ 7) fun t_7 => atI .i64 (ρ 8) fun n_8 => atI .u8 (ρ 9) fun c_9 => (lex_Tokens.s130 Z Q X1 s_0 out_5 out_5n out_5c at_6 t_7 n_8 c_9))
theorem lex_Tokens.s130_ok (Z : ZT) (Q : OA → Nat → Nat → Int → Int → PT) (X1 : ByteArray → OA → Nat → Nat → Int → PT) : Ok Tryd.prog Tryd.f36.ntmps Z lex_Tokens.c99 (lex_Tokens.q58 Z Q X1) (lex_Tokens.j131 Z Q X1) := by
  intro E he ρ w a hr h
  rw [lex_Tokens.q105] at he ⊢
  obtain ⟨s_0, e0, h⟩ := atS_e h
  obtain ⟨out_5, out_5n, out_5c, e5, h⟩ := atL_e h
  obtain ⟨at_6, e6, h⟩ := atI_e h
  obtain ⟨t_7, e7, h⟩ := atA_e h
  obtain ⟨n_8, e8, h⟩ := atI_e h
  obtain ⟨c_9, e9, h⟩ := atI_e h
  exact ok_at [(0, (Value.string s_0)), (5, (Value.slice out_5 out_5n out_5c)), (6, (Value.int .i64 at_6)), (7, (Value.pointer (some t_7))), (8, (Value.int .i64 n_8)), (9, (Value.int .u8 c_9))] (ok_seq (okC lex_Tokens.c103 _ (by kernel_rfl)) (lex_Tokens.o129 Z Q X1)) (puts_cons e0 (puts_cons e5 (puts_cons e6 (puts_cons e7 (puts_cons e8 (puts_cons e9 (fun p hp => puts_nil hp))))))) (lex_Tokens.s130_eq Z Q X1 ρ s_0 out_5 out_5n out_5c at_6 t_7 n_8 c_9) he hr h
theorem lex_Tokens.o132 (Z : ZT) (Q : OA → Nat → Nat → Int → Int → PT) (X1 : ByteArray → OA → Nat → Nat → Int → PT) : Ok Tryd.prog Tryd.f36.ntmps Z lex_Tokens.c96 (lex_Tokens.q58 Z Q X1) (condJ (.tmp 71) (lex_Tokens.j102 Z Q X1) (lex_Tokens.j131 Z Q X1)) := by
  rw [lex_Tokens.q100]; exact ok_cond (lex_Tokens.s101_ok Z Q X1) (lex_Tokens.s130_ok Z Q X1)
def lex_Tokens.s133 (Z : ZT) (Q : OA → Nat → Nat → Int → Int → PT) (X1 : ByteArray → OA → Nat → Nat → Int → PT) (s_0 : ByteArray) (out_5 : OA) (out_5n out_5c : Nat) (at_6 : Int) (t_7 : Addr) (n_8 : Int) (c_9 : Int) : PT :=
  (pif (decide (c_9 ≥ 48)) (pif (decide (c_9 ≤ 57)) (lex_Tokens.s101 Z Q X1 s_0 out_5 out_5n out_5c at_6 t_7) (lex_Tokens.s130 Z Q X1 s_0 out_5 out_5n out_5c at_6 t_7 n_8 c_9)) (lex_Tokens.s130 Z Q X1 s_0 out_5 out_5n out_5c at_6 t_7 n_8 c_9))
theorem lex_Tokens.s133_eq (Z : ZT) (Q : OA → Nat → Nat → Int → Int → PT) (X1 : ByteArray → OA → Nat → Nat → Int → PT) (ρ : Fr) (s_0 : ByteArray) (out_5 : OA) (out_5n out_5c : Nat) (at_6 : Int) (t_7 : Addr) (n_8 : Int) (c_9 : Int) : (comp Tryd.prog Z lex_Tokens.c95 (thenK (condJ (.tmp 71) (lex_Tokens.j102 Z Q X1) (lex_Tokens.j131 Z Q X1)) (lex_Tokens.q58 Z Q X1))) (puts ρ [(0, (Value.string s_0)), (5, (Value.slice out_5 out_5n out_5c)), (6, (Value.int .i64 at_6)), (7, (Value.pointer (some t_7))), (8, (Value.int .i64 n_8)), (9, (Value.int .u8 c_9))]) = lex_Tokens.s133 Z Q X1 s_0 out_5 out_5n out_5c at_6 t_7 n_8 c_9 := by kernel_rfl
def lex_Tokens.j134 (Z : ZT) (Q : OA → Nat → Nat → Int → Int → PT) (X1 : ByteArray → OA → Nat → Nat → Int → PT) : Fr → PT := (fun ρ => atS (ρ 0) fun s_0 => atL (ρ 5) fun out_5 out_5n out_5c => atI .i64 (ρ 6) fun at_6 => atA (ρ 7) fun t_7 => atI .i64 (ρ 8) fun n_8 => atI .u8 (ρ 9) fun c_9 => (lex_Tokens.s133 Z Q X1 s_0 out_5 out_5n out_5c at_6 t_7 n_8 c_9))
theorem lex_Tokens.s133_ok (Z : ZT) (Q : OA → Nat → Nat → Int → Int → PT) (X1 : ByteArray → OA → Nat → Nat → Int → PT) : Ok Tryd.prog Tryd.f36.ntmps Z lex_Tokens.c91 (lex_Tokens.q58 Z Q X1) (lex_Tokens.j134 Z Q X1) := by
  intro E he ρ w a hr h
  rw [lex_Tokens.q97] at he ⊢
  obtain ⟨s_0, e0, h⟩ := atS_e h
  obtain ⟨out_5, out_5n, out_5c, e5, h⟩ := atL_e h
  obtain ⟨at_6, e6, h⟩ := atI_e h
  obtain ⟨t_7, e7, h⟩ := atA_e h
  obtain ⟨n_8, e8, h⟩ := atI_e h
  obtain ⟨c_9, e9, h⟩ := atI_e h
  exact ok_at [(0, (Value.string s_0)), (5, (Value.slice out_5 out_5n out_5c)), (6, (Value.int .i64 at_6)), (7, (Value.pointer (some t_7))), (8, (Value.int .i64 n_8)), (9, (Value.int .u8 c_9))] (ok_seq (okC lex_Tokens.c95 _ (by kernel_rfl)) (lex_Tokens.o132 Z Q X1)) (puts_cons e0 (puts_cons e5 (puts_cons e6 (puts_cons e7 (puts_cons e8 (puts_cons e9 (fun p hp => puts_nil hp))))))) (lex_Tokens.s133_eq Z Q X1 ρ s_0 out_5 out_5n out_5c at_6 t_7 n_8 c_9) he hr h
theorem lex_Tokens.o135 (Z : ZT) (Q : OA → Nat → Nat → Int → Int → PT) (X1 : ByteArray → OA → Nat → Nat → Int → PT) : Ok Tryd.prog Tryd.f36.ntmps Z lex_Tokens.c88 (lex_Tokens.q58 Z Q X1) (condJ (.tmp 53) (lex_Tokens.j94 Z Q X1) (lex_Tokens.j134 Z Q X1)) := by
  rw [lex_Tokens.q92]; exact ok_cond (lex_Tokens.s93_ok Z Q X1) (lex_Tokens.s133_ok Z Q X1)
def lex_Tokens.s136 (Z : ZT) (Q : OA → Nat → Nat → Int → Int → PT) (X1 : ByteArray → OA → Nat → Nat → Int → PT) (s_0 : ByteArray) (out_5 : OA) (out_5n out_5c : Nat) (at_6 : Int) (t_7 : Addr) (n_8 : Int) (c_9 : Int) : PT :=
  (pif (decide (c_9 ≥ 97)) (pif (decide (c_9 ≤ 122)) (lex_Tokens.s93 Z Q X1 s_0 out_5 out_5n out_5c at_6 t_7) (lex_Tokens.s133 Z Q X1 s_0 out_5 out_5n out_5c at_6 t_7 n_8 c_9)) (lex_Tokens.s133 Z Q X1 s_0 out_5 out_5n out_5c at_6 t_7 n_8 c_9))
theorem lex_Tokens.s136_eq (Z : ZT) (Q : OA → Nat → Nat → Int → Int → PT) (X1 : ByteArray → OA → Nat → Nat → Int → PT) (ρ : Fr) (s_0 : ByteArray) (out_5 : OA) (out_5n out_5c : Nat) (at_6 : Int) (t_7 : Addr) (n_8 : Int) (c_9 : Int) : (comp Tryd.prog Z lex_Tokens.c87 (thenK (condJ (.tmp 53) (lex_Tokens.j94 Z Q X1) (lex_Tokens.j134 Z Q X1)) (lex_Tokens.q58 Z Q X1))) (puts ρ [(0, (Value.string s_0)), (5, (Value.slice out_5 out_5n out_5c)), (6, (Value.int .i64 at_6)), (7, (Value.pointer (some t_7))), (8, (Value.int .i64 n_8)), (9, (Value.int .u8 c_9))]) = lex_Tokens.s136 Z Q X1 s_0 out_5 out_5n out_5c at_6 t_7 n_8 c_9 := by kernel_rfl
def lex_Tokens.j137 (Z : ZT) (Q : OA → Nat → Nat → Int → Int → PT) (X1 : ByteArray → OA → Nat → Nat → Int → PT) : Fr → PT := (fun ρ => atS (ρ 0) fun s_0 => atL (ρ 5) fun out_5 out_5n out_5c => atI .i64 (ρ 6) fun at_6 => atA (ρ 7) fun t_7 => atI .i64 (ρ 8) fun n_8 => atI .u8 (ρ 9) fun c_9 => (lex_Tokens.s136 Z Q X1 s_0 out_5 out_5n out_5c at_6 t_7 n_8 c_9))
theorem lex_Tokens.s136_ok (Z : ZT) (Q : OA → Nat → Nat → Int → Int → PT) (X1 : ByteArray → OA → Nat → Nat → Int → PT) : Ok Tryd.prog Tryd.f36.ntmps Z lex_Tokens.c64 (lex_Tokens.q58 Z Q X1) (lex_Tokens.j137 Z Q X1) := by
  intro E he ρ w a hr h
  rw [lex_Tokens.q89] at he ⊢
  obtain ⟨s_0, e0, h⟩ := atS_e h
  obtain ⟨out_5, out_5n, out_5c, e5, h⟩ := atL_e h
  obtain ⟨at_6, e6, h⟩ := atI_e h
  obtain ⟨t_7, e7, h⟩ := atA_e h
  obtain ⟨n_8, e8, h⟩ := atI_e h
  obtain ⟨c_9, e9, h⟩ := atI_e h
  exact ok_at [(0, (Value.string s_0)), (5, (Value.slice out_5 out_5n out_5c)), (6, (Value.int .i64 at_6)), (7, (Value.pointer (some t_7))), (8, (Value.int .i64 n_8)), (9, (Value.int .u8 c_9))] (ok_seq (okC lex_Tokens.c87 _ (by kernel_rfl)) (lex_Tokens.o135 Z Q X1)) (puts_cons e0 (puts_cons e5 (puts_cons e6 (puts_cons e7 (puts_cons e8 (puts_cons e9 (fun p hp => puts_nil hp))))))) (lex_Tokens.s136_eq Z Q X1 ρ s_0 out_5 out_5n out_5c at_6 t_7 n_8 c_9) he hr h
theorem lex_Tokens.o138 (Z : ZT) (Q : OA → Nat → Nat → Int → Int → PT) (X1 : ByteArray → OA → Nat → Nat → Int → PT) : Ok Tryd.prog Tryd.f36.ntmps Z lex_Tokens.c61 (lex_Tokens.q58 Z Q X1) (condJ (.tmp 38) (lex_Tokens.j83 Z Q X1) (lex_Tokens.j137 Z Q X1)) := by
  rw [lex_Tokens.q65]; exact ok_cond (lex_Tokens.o86 Z Q X1) (lex_Tokens.s136_ok Z Q X1)
def lex_Tokens.s139 (Z : ZT) (Q : OA → Nat → Nat → Int → Int → PT) (X1 : ByteArray → OA → Nat → Nat → Int → PT) (s_0 : ByteArray) (out_5 : OA) (out_5n out_5c : Nat) (at_6 : Int) (t_7 : Addr) (n_8 : Int) (c_9 : Int) : PT :=
  (pif (c_9 == 35) (exK fun k => lex_Tokens.l75 Z Q X1 k s_0 out_5 out_5n out_5c at_6) (lex_Tokens.s136 Z Q X1 s_0 out_5 out_5n out_5c at_6 t_7 n_8 c_9))
theorem lex_Tokens.s139_eq (Z : ZT) (Q : OA → Nat → Nat → Int → Int → PT) (X1 : ByteArray → OA → Nat → Nat → Int → PT) (ρ : Fr) (s_0 : ByteArray) (out_5 : OA) (out_5n out_5c : Nat) (at_6 : Int) (t_7 : Addr) (n_8 : Int) (c_9 : Int) : (comp Tryd.prog Z lex_Tokens.c60 (thenK (condJ (.tmp 38) (lex_Tokens.j83 Z Q X1) (lex_Tokens.j137 Z Q X1)) (lex_Tokens.q58 Z Q X1))) (puts ρ [(0, (Value.string s_0)), (5, (Value.slice out_5 out_5n out_5c)), (6, (Value.int .i64 at_6)), (7, (Value.pointer (some t_7))), (8, (Value.int .i64 n_8)), (9, (Value.int .u8 c_9))]) = lex_Tokens.s139 Z Q X1 s_0 out_5 out_5n out_5c at_6 t_7 n_8 c_9 := by kernel_rfl
def lex_Tokens.j140 (Z : ZT) (Q : OA → Nat → Nat → Int → Int → PT) (X1 : ByteArray → OA → Nat → Nat → Int → PT) : Fr → PT := (fun ρ => atS (ρ 0) fun s_0 => atL (ρ 5) fun out_5 out_5n out_5c => atI .i64 (ρ 6) fun at_6 => atA (ρ 7) fun t_7 => atI .i64 (ρ 8) fun n_8 => atI .u8 (ρ 9) fun c_9 => (lex_Tokens.s139 Z Q X1 s_0 out_5 out_5n out_5c at_6 t_7 n_8 c_9))
theorem lex_Tokens.s139_ok (Z : ZT) (Q : OA → Nat → Nat → Int → Int → PT) (X1 : ByteArray → OA → Nat → Nat → Int → PT) : Ok Tryd.prog Tryd.f36.ntmps Z lex_Tokens.c54 (lex_Tokens.q58 Z Q X1) (lex_Tokens.j140 Z Q X1) := by
  intro E he ρ w a hr h
  rw [lex_Tokens.q62] at he ⊢
  obtain ⟨s_0, e0, h⟩ := atS_e h
  obtain ⟨out_5, out_5n, out_5c, e5, h⟩ := atL_e h
  obtain ⟨at_6, e6, h⟩ := atI_e h
  obtain ⟨t_7, e7, h⟩ := atA_e h
  obtain ⟨n_8, e8, h⟩ := atI_e h
  obtain ⟨c_9, e9, h⟩ := atI_e h
  exact ok_at [(0, (Value.string s_0)), (5, (Value.slice out_5 out_5n out_5c)), (6, (Value.int .i64 at_6)), (7, (Value.pointer (some t_7))), (8, (Value.int .i64 n_8)), (9, (Value.int .u8 c_9))] (ok_seq (okC lex_Tokens.c60 _ (by kernel_rfl)) (lex_Tokens.o138 Z Q X1)) (puts_cons e0 (puts_cons e5 (puts_cons e6 (puts_cons e7 (puts_cons e8 (puts_cons e9 (fun p hp => puts_nil hp))))))) (lex_Tokens.s139_eq Z Q X1 ρ s_0 out_5 out_5n out_5c at_6 t_7 n_8 c_9) he hr h
theorem lex_Tokens.o141 (Z : ZT) (Q : OA → Nat → Nat → Int → Int → PT) (X1 : ByteArray → OA → Nat → Nat → Int → PT) : Ok Tryd.prog Tryd.f36.ntmps Z lex_Tokens.c51 (lex_Tokens.q58 Z Q X1) (condJ (.tmp 25) (lex_Tokens.j59 Z Q X1) (lex_Tokens.j140 Z Q X1)) := by
  rw [lex_Tokens.q55]; exact ok_cond (lex_Tokens.s56_ok Z Q X1) (lex_Tokens.s139_ok Z Q X1)
def lex_Tokens.s142 (Z : ZT) (Q : OA → Nat → Nat → Int → Int → PT) (X1 : ByteArray → OA → Nat → Nat → Int → PT) (s_0 : ByteArray) (out_5 : OA) (out_5n out_5c : Nat) (at_6 : Int) (t_7 : Addr) (n_8 : Int) (c_9 : Int) : PT :=
  (pif (c_9 == 32) (lex_Tokens.s56 Z Q X1 s_0 out_5 out_5n out_5c at_6) (pif (c_9 == 9) (lex_Tokens.s56 Z Q X1 s_0 out_5 out_5n out_5c at_6) (pif (c_9 == 13) (lex_Tokens.s56 Z Q X1 s_0 out_5 out_5n out_5c at_6) (lex_Tokens.s139 Z Q X1 s_0 out_5 out_5n out_5c at_6 t_7 n_8 c_9))))
theorem lex_Tokens.s142_eq (Z : ZT) (Q : OA → Nat → Nat → Int → Int → PT) (X1 : ByteArray → OA → Nat → Nat → Int → PT) (ρ : Fr) (s_0 : ByteArray) (out_5 : OA) (out_5n out_5c : Nat) (at_6 : Int) (t_7 : Addr) (n_8 : Int) (c_9 : Int) : (comp Tryd.prog Z lex_Tokens.c50 (thenK (condJ (.tmp 25) (lex_Tokens.j59 Z Q X1) (lex_Tokens.j140 Z Q X1)) (lex_Tokens.q58 Z Q X1))) (puts ρ [(0, (Value.string s_0)), (5, (Value.slice out_5 out_5n out_5c)), (6, (Value.int .i64 at_6)), (7, (Value.pointer (some t_7))), (8, (Value.int .i64 n_8)), (9, (Value.int .u8 c_9))]) = lex_Tokens.s142 Z Q X1 s_0 out_5 out_5n out_5c at_6 t_7 n_8 c_9 := by kernel_rfl
def lex_Tokens.j143 (Z : ZT) (Q : OA → Nat → Nat → Int → Int → PT) (X1 : ByteArray → OA → Nat → Nat → Int → PT) : Fr → PT := (fun ρ => atS (ρ 0) fun s_0 => atL (ρ 5) fun out_5 out_5n out_5c => atI .i64 (ρ 6) fun at_6 => atA (ρ 7) fun t_7 => atI .i64 (ρ 8) fun n_8 => atI .u8 (ρ 9) fun c_9 => (lex_Tokens.s142 Z Q X1 s_0 out_5 out_5n out_5c at_6 t_7 n_8 c_9))
theorem lex_Tokens.s142_ok (Z : ZT) (Q : OA → Nat → Nat → Int → Int → PT) (X1 : ByteArray → OA → Nat → Nat → Int → PT) : Ok Tryd.prog Tryd.f36.ntmps Z lex_Tokens.c48 (lex_Tokens.q58 Z Q X1) (lex_Tokens.j143 Z Q X1) := by
  intro E he ρ w a hr h
  rw [lex_Tokens.q52] at he ⊢
  obtain ⟨s_0, e0, h⟩ := atS_e h
  obtain ⟨out_5, out_5n, out_5c, e5, h⟩ := atL_e h
  obtain ⟨at_6, e6, h⟩ := atI_e h
  obtain ⟨t_7, e7, h⟩ := atA_e h
  obtain ⟨n_8, e8, h⟩ := atI_e h
  obtain ⟨c_9, e9, h⟩ := atI_e h
  exact ok_at [(0, (Value.string s_0)), (5, (Value.slice out_5 out_5n out_5c)), (6, (Value.int .i64 at_6)), (7, (Value.pointer (some t_7))), (8, (Value.int .i64 n_8)), (9, (Value.int .u8 c_9))] (ok_seq (okC lex_Tokens.c50 _ (by kernel_rfl)) (lex_Tokens.o141 Z Q X1)) (puts_cons e0 (puts_cons e5 (puts_cons e6 (puts_cons e7 (puts_cons e8 (puts_cons e9 (fun p hp => puts_nil hp))))))) (lex_Tokens.s142_eq Z Q X1 ρ s_0 out_5 out_5n out_5c at_6 t_7 n_8 c_9) he hr h
theorem lex_Tokens.o144 (Z : ZT) (Q : OA → Nat → Nat → Int → Int → PT) (X1 : ByteArray → OA → Nat → Nat → Int → PT) : Ok Tryd.prog Tryd.f36.ntmps Z lex_Tokens.c46 (lex_Tokens.q57 Z Q X1) (lex_Tokens.j143 Z Q X1) := by
  rw [lex_Tokens.q49]; exact ok_block (lex_Tokens.s142_ok Z Q X1)
def lex_Tokens.s145 (Z : ZT) (Q : OA → Nat → Nat → Int → Int → PT) (X1 : ByteArray → OA → Nat → Nat → Int → PT) (s_0 : ByteArray) (out_5 : OA) (out_5n out_5c : Nat) (at_6 : Int) (t_7 : Addr) (n_8 : Int) : PT :=
  (ixT s_0 at_6 fun v71 => (lex_Tokens.s142 Z Q X1 s_0 out_5 out_5n out_5c at_6 t_7 n_8 ((v71.toNat : Nat) : Int)))
theorem lex_Tokens.s145_eq (Z : ZT) (Q : OA → Nat → Nat → Int → Int → PT) (X1 : ByteArray → OA → Nat → Nat → Int → PT) (ρ : Fr) (s_0 : ByteArray) (out_5 : OA) (out_5n out_5c : Nat) (at_6 : Int) (t_7 : Addr) (n_8 : Int) : (comp Tryd.prog Z lex_Tokens.c45 (thenK (lex_Tokens.j143 Z Q X1) (lex_Tokens.q57 Z Q X1))) (puts ρ [(0, (Value.string s_0)), (5, (Value.slice out_5 out_5n out_5c)), (6, (Value.int .i64 at_6)), (7, (Value.pointer (some t_7))), (8, (Value.int .i64 n_8))]) = lex_Tokens.s145 Z Q X1 s_0 out_5 out_5n out_5c at_6 t_7 n_8 := by kernel_rfl
def lex_Tokens.j146 (Z : ZT) (Q : OA → Nat → Nat → Int → Int → PT) (X1 : ByteArray → OA → Nat → Nat → Int → PT) : Fr → PT := (fun ρ => atS (ρ 0) fun s_0 => atL (ρ 5) fun out_5 out_5n out_5c => atI .i64 (ρ 6) fun at_6 => atA (ρ 7) fun t_7 => atI .i64 (ρ 8) fun n_8 => (lex_Tokens.s145 Z Q X1 s_0 out_5 out_5n out_5c at_6 t_7 n_8))
theorem lex_Tokens.s145_ok (Z : ZT) (Q : OA → Nat → Nat → Int → Int → PT) (X1 : ByteArray → OA → Nat → Nat → Int → PT) : Ok Tryd.prog Tryd.f36.ntmps Z lex_Tokens.c37 (lex_Tokens.q57 Z Q X1) (lex_Tokens.j146 Z Q X1) := by
  intro E he ρ w a hr h
  rw [lex_Tokens.q47] at he ⊢
  obtain ⟨s_0, e0, h⟩ := atS_e h
  obtain ⟨out_5, out_5n, out_5c, e5, h⟩ := atL_e h
  obtain ⟨at_6, e6, h⟩ := atI_e h
  obtain ⟨t_7, e7, h⟩ := atA_e h
  obtain ⟨n_8, e8, h⟩ := atI_e h
  exact ok_at [(0, (Value.string s_0)), (5, (Value.slice out_5 out_5n out_5c)), (6, (Value.int .i64 at_6)), (7, (Value.pointer (some t_7))), (8, (Value.int .i64 n_8))] (ok_seq (okC lex_Tokens.c45 _ (by kernel_rfl)) (lex_Tokens.o144 Z Q X1)) (puts_cons e0 (puts_cons e5 (puts_cons e6 (puts_cons e7 (puts_cons e8 (fun p hp => puts_nil hp)))))) (lex_Tokens.s145_eq Z Q X1 ρ s_0 out_5 out_5n out_5c at_6 t_7 n_8) he hr h
theorem lex_Tokens.o147 (Z : ZT) (Q : OA → Nat → Nat → Int → Int → PT) (X1 : ByteArray → OA → Nat → Nat → Int → PT) : Ok Tryd.prog Tryd.f36.ntmps Z lex_Tokens.c35 (lex_Tokens.q43 Z Q X1) (lex_Tokens.j146 Z Q X1) := by
  rw [lex_Tokens.q39]; exact ok_seq (lex_Tokens.s145_ok Z Q X1) (lex_Tokens.s40_ok Z Q X1)
def lex_Tokens.s148 (Z : ZT) (Q : OA → Nat → Nat → Int → Int → PT) (X1 : ByteArray → OA → Nat → Nat → Int → PT) (s_0 : ByteArray) (out_5 : OA) (out_5n out_5c : Nat) (at_6 : Int) : PT :=
  (newC 79 [(Value.int .i64 0), (Value.int .i64 0), (Value.string ⟨#[]⟩), (Value.int .i64 0)] fun t72 => (stN 4 t72 [(Value.int .i64 0), (Value.int .i64 at_6), (Value.string ⟨#[]⟩), (Value.int .i64 0)] (lex_Tokens.s145 Z Q X1 s_0 out_5 out_5n out_5c at_6 t72 1)))
theorem lex_Tokens.s148_eq (Z : ZT) (Q : OA → Nat → Nat → Int → Int → PT) (X1 : ByteArray → OA → Nat → Nat → Int → PT) (ρ : Fr) (s_0 : ByteArray) (out_5 : OA) (out_5n out_5c : Nat) (at_6 : Int) : (comp Tryd.prog Z lex_Tokens.c33 (thenK (comp Tryd.prog Z lex_Tokens.c34 (thenK (lex_Tokens.j146 Z Q X1) (lex_Tokens.q43 Z Q X1))) (lex_Tokens.q43 Z Q X1))) (puts ρ [(0, (Value.string s_0)), (5, (Value.slice out_5 out_5n out_5c)), (6, (Value.int .i64 at_6))]) = lex_Tokens.s148 Z Q X1 s_0 out_5 out_5n out_5c at_6 := by kernel_rfl
def lex_Tokens.j149 (Z : ZT) (Q : OA → Nat → Nat → Int → Int → PT) (X1 : ByteArray → OA → Nat → Nat → Int → PT) : Fr → PT := (fun ρ => atS (ρ 0) fun s_0 => atL (ρ 5) fun out_5 out_5n out_5c => atI .i64 (ρ 6) fun at_6 => (lex_Tokens.s148 Z Q X1 s_0 out_5 out_5n out_5c at_6))
theorem lex_Tokens.s148_ok (Z : ZT) (Q : OA → Nat → Nat → Int → Int → PT) (X1 : ByteArray → OA → Nat → Nat → Int → PT) : Ok Tryd.prog Tryd.f36.ntmps Z lex_Tokens.c31 (lex_Tokens.q43 Z Q X1) (lex_Tokens.j149 Z Q X1) := by
  intro E he ρ w a hr h
  rw [lex_Tokens.q36] at he ⊢
  obtain ⟨s_0, e0, h⟩ := atS_e h
  obtain ⟨out_5, out_5n, out_5c, e5, h⟩ := atL_e h
  obtain ⟨at_6, e6, h⟩ := atI_e h
  exact ok_at [(0, (Value.string s_0)), (5, (Value.slice out_5 out_5n out_5c)), (6, (Value.int .i64 at_6))] (ok_seq (okC lex_Tokens.c33 _ (by kernel_rfl)) (ok_seq (okC lex_Tokens.c34 _ (by kernel_rfl)) (lex_Tokens.o147 Z Q X1))) (puts_cons e0 (puts_cons e5 (puts_cons e6 (fun p hp => puts_nil hp)))) (lex_Tokens.s148_eq Z Q X1 ρ s_0 out_5 out_5n out_5c at_6) he hr h
theorem lex_Tokens.o150 (Z : ZT) (Q : OA → Nat → Nat → Int → Int → PT) (X1 : ByteArray → OA → Nat → Nat → Int → PT) : Ok Tryd.prog Tryd.f36.ntmps Z lex_Tokens.c29 (lex_Tokens.q42 Z Q X1) (lex_Tokens.j149 Z Q X1) := by
  rw [lex_Tokens.q32]; exact ok_block (lex_Tokens.s148_ok Z Q X1)
def lex_Tokens.s151 (Z : ZT) (Q : OA → Nat → Nat → Int → Int → PT) (X1 : ByteArray → OA → Nat → Nat → Int → PT) (s_0 : ByteArray) (out_5 : OA) (out_5n out_5c : Nat) (at_6 : Int) : PT :=
  (pif (decide (at_6 < ((s_0.size : Nat) : Int))) (lex_Tokens.s148 Z Q X1 s_0 out_5 out_5n out_5c at_6) (lex_Tokens.s14 Z Q out_5 out_5n out_5c))
theorem lex_Tokens.s151_eq (Z : ZT) (Q : OA → Nat → Nat → Int → Int → PT) (X1 : ByteArray → OA → Nat → Nat → Int → PT) (ρ : Fr) (s_0 : ByteArray) (out_5 : OA) (out_5n out_5c : Nat) (at_6 : Int) : (comp Tryd.prog Z lex_Tokens.c28 (thenK (lex_Tokens.j149 Z Q X1) (lex_Tokens.q42 Z Q X1))) (puts ρ [(0, (Value.string s_0)), (5, (Value.slice out_5 out_5n out_5c)), (6, (Value.int .i64 at_6))]) = lex_Tokens.s151 Z Q X1 s_0 out_5 out_5n out_5c at_6 := by kernel_rfl
def lex_Tokens.j152 (Z : ZT) (Q : OA → Nat → Nat → Int → Int → PT) (X1 : ByteArray → OA → Nat → Nat → Int → PT) : Fr → PT := (fun ρ => atS (ρ 0) fun s_0 => atL (ρ 5) fun out_5 out_5n out_5c => atI .i64 (ρ 6) fun at_6 => (lex_Tokens.s151 Z Q X1 s_0 out_5 out_5n out_5c at_6))
theorem lex_Tokens.s151_ok (Z : ZT) (Q : OA → Nat → Nat → Int → Int → PT) (X1 : ByteArray → OA → Nat → Nat → Int → PT) : Ok Tryd.prog Tryd.f36.ntmps Z lex_Tokens.c23 (lex_Tokens.q42 Z Q X1) (lex_Tokens.j152 Z Q X1) := by
  intro E he ρ w a hr h
  rw [lex_Tokens.q30] at he ⊢
  obtain ⟨s_0, e0, h⟩ := atS_e h
  obtain ⟨out_5, out_5n, out_5c, e5, h⟩ := atL_e h
  obtain ⟨at_6, e6, h⟩ := atI_e h
  exact ok_at [(0, (Value.string s_0)), (5, (Value.slice out_5 out_5n out_5c)), (6, (Value.int .i64 at_6))] (ok_seq (okC lex_Tokens.c28 _ (by kernel_rfl)) (lex_Tokens.o150 Z Q X1)) (puts_cons e0 (puts_cons e5 (puts_cons e6 (fun p hp => puts_nil hp)))) (lex_Tokens.s151_eq Z Q X1 ρ s_0 out_5 out_5n out_5c at_6) he hr h
def lex_Tokens.l25 (Z : ZT) (Q : OA → Nat → Nat → Int → Int → PT) : Nat → ByteArray → OA → Nat → Nat → Int → PT
  | 0, _, _, _, _, _ => bad
  | k + 1, s_0, out_5, out_5n, out_5c, at_6 => (lex_Tokens.s151 Z Q (lex_Tokens.l25 Z Q k) s_0 out_5 out_5n out_5c at_6)
def lex_Tokens.j153 (Z : ZT) (Q : OA → Nat → Nat → Int → Int → PT) (k : Nat) : Fr → PT := (fun ρ => atS (ρ 0) fun s_0 => atL (ρ 5) fun out_5 out_5n out_5c => atI .i64 (ρ 6) fun at_6 => (lex_Tokens.l25 Z Q k s_0 out_5 out_5n out_5c at_6))
def lex_Tokens.j154 (Z : ZT) (Q : OA → Nat → Nat → Int → Int → PT) : Fr → PT := (fun ρ => atS (ρ 0) fun s_0 => atL (ρ 5) fun out_5 out_5n out_5c => atI .i64 (ρ 6) fun at_6 => (exK fun k => lex_Tokens.l25 Z Q k s_0 out_5 out_5n out_5c at_6))
theorem lex_Tokens.o155 (Z : ZT) (Q : OA → Nat → Nat → Int → Int → PT) : Ok Tryd.prog Tryd.f36.ntmps Z lex_Tokens.c21 (lex_Tokens.q27 Z Q) (lex_Tokens.j154 Z Q) := by
  rw [lex_Tokens.q24]
  refine Ok.imp (ok_loop (J := lex_Tokens.j153 Z Q) ?_ ?_) ?_
  · intro ρ w h
    obtain ⟨s_0, e0, h⟩ := atS_e h
    obtain ⟨out_5, out_5n, out_5c, e5, h⟩ := atL_e h
    obtain ⟨at_6, e6, h⟩ := atI_e h
    exact h
  · intro k
    refine Ok.imp (lex_Tokens.s151_ok Z Q (lex_Tokens.l25 Z Q k)) fun ρ w h => ?_
    obtain ⟨s_0, e0, h⟩ := atS_e h
    obtain ⟨out_5, out_5n, out_5c, e5, h⟩ := atL_e h
    obtain ⟨at_6, e6, h⟩ := atI_e h
    show (lex_Tokens.j152 Z Q (lex_Tokens.l25 Z Q k)) ρ w
    simp only [lex_Tokens.j152]
    rw [e0]
    rw [e5]
    rw [e6]
    exact h
  · intro ρ w h
    obtain ⟨s_0, e0, h⟩ := atS_e h
    obtain ⟨out_5, out_5n, out_5c, e5, h⟩ := atL_e h
    obtain ⟨at_6, e6, h⟩ := atI_e h
    obtain ⟨k, h⟩ := h
    refine ⟨k, ?_⟩
    show (atS (ρ 0) fun s_0 => atL (ρ 5) fun out_5 out_5n out_5c => atI .i64 (ρ 6) fun at_6 => (lex_Tokens.l25 Z Q k s_0 out_5 out_5n out_5c at_6)) w
    rw [e0]
    rw [e5]
    rw [e6]
    exact h
theorem lex_Tokens.o156 (Z : ZT) (Q : OA → Nat → Nat → Int → Int → PT) : Ok Tryd.prog Tryd.f36.ntmps Z lex_Tokens.c19 (lex_Tokens.q26 Z Q) (lex_Tokens.j154 Z Q) := by
  rw [lex_Tokens.q22]; exact ok_block (lex_Tokens.o155 Z Q)
def lex_Tokens.s157 (Z : ZT) (Q : OA → Nat → Nat → Int → Int → PT) (s_0 : ByteArray) (out_5 : OA) (out_5n out_5c : Nat) : PT :=
  (exK fun k => lex_Tokens.l25 Z Q k s_0 out_5 out_5n out_5c 0)
theorem lex_Tokens.s157_eq (Z : ZT) (Q : OA → Nat → Nat → Int → Int → PT) (ρ : Fr) (s_0 : ByteArray) (out_5 : OA) (out_5n out_5c : Nat) : (comp Tryd.prog Z lex_Tokens.c18 (thenK (lex_Tokens.j154 Z Q) (lex_Tokens.q26 Z Q))) (puts ρ [(0, (Value.string s_0)), (5, (Value.slice out_5 out_5n out_5c))]) = lex_Tokens.s157 Z Q s_0 out_5 out_5n out_5c := by kernel_rfl
def lex_Tokens.j158 (Z : ZT) (Q : OA → Nat → Nat → Int → Int → PT) : Fr → PT := (fun ρ => atS (ρ 0) fun s_0 => atL (ρ 5) fun out_5 out_5n out_5c => (lex_Tokens.s157 Z Q s_0 out_5 out_5n out_5c))
theorem lex_Tokens.s157_ok (Z : ZT) (Q : OA → Nat → Nat → Int → Int → PT) : Ok Tryd.prog Tryd.f36.ntmps Z lex_Tokens.c11 (lex_Tokens.q26 Z Q) (lex_Tokens.j158 Z Q) := by
  intro E he ρ w a hr h
  rw [lex_Tokens.q20] at he ⊢
  obtain ⟨s_0, e0, h⟩ := atS_e h
  obtain ⟨out_5, out_5n, out_5c, e5, h⟩ := atL_e h
  exact ok_at [(0, (Value.string s_0)), (5, (Value.slice out_5 out_5n out_5c))] (ok_seq (okC lex_Tokens.c18 _ (by kernel_rfl)) (lex_Tokens.o156 Z Q)) (puts_cons e0 (puts_cons e5 (fun p hp => puts_nil hp))) (lex_Tokens.s157_eq Z Q ρ s_0 out_5 out_5n out_5c) he hr h
theorem lex_Tokens.o159 (Z : ZT) (Q : OA → Nat → Nat → Int → Int → PT) : Ok Tryd.prog Tryd.f36.ntmps Z lex_Tokens.c9 (lex_Tokens.q16 Z Q) (lex_Tokens.j158 Z Q) := by
  rw [lex_Tokens.q13]; exact ok_seq (lex_Tokens.s157_ok Z Q) (lex_Tokens.s14_ok Z Q)
def lex_Tokens.s160 (Z : ZT) (Q : OA → Nat → Nat → Int → Int → PT) (s_0 : ByteArray) : PT :=
  (pif (decide (((s_0.size : Nat) : Int) > 4096)) (Q none 0 0 5 4096) (lex_Tokens.s157 Z Q s_0 none 0 0))
theorem lex_Tokens.s160_eq (Z : ZT) (Q : OA → Nat → Nat → Int → Int → PT) (ρ : Fr) (s_0 : ByteArray) : (comp Tryd.prog Z lex_Tokens.c6 (thenK (comp Tryd.prog Z lex_Tokens.c7 (thenK (comp Tryd.prog Z lex_Tokens.c8 (thenK (lex_Tokens.j158 Z Q) (lex_Tokens.q16 Z Q))) (lex_Tokens.q16 Z Q))) (lex_Tokens.q16 Z Q))) (puts ρ [(0, (Value.string s_0))]) = lex_Tokens.s160 Z Q s_0 := by kernel_rfl
def lex_Tokens.j161 (Z : ZT) (Q : OA → Nat → Nat → Int → Int → PT) : Fr → PT := (fun ρ => atS (ρ 0) fun s_0 => (lex_Tokens.s160 Z Q s_0))
theorem lex_Tokens.s160_ok (Z : ZT) (Q : OA → Nat → Nat → Int → Int → PT) : Ok Tryd.prog Tryd.f36.ntmps Z lex_Tokens.c4 (lex_Tokens.q16 Z Q) (lex_Tokens.j161 Z Q) := by
  intro E he ρ w a hr h
  rw [lex_Tokens.q10] at he ⊢
  obtain ⟨s_0, e0, h⟩ := atS_e h
  exact ok_at [(0, (Value.string s_0))] (ok_seq (okC lex_Tokens.c6 _ (by kernel_rfl)) (ok_seq (okC lex_Tokens.c7 _ (by kernel_rfl)) (ok_seq (okC lex_Tokens.c8 _ (by kernel_rfl)) (lex_Tokens.o159 Z Q)))) (puts_cons e0 (fun p hp => puts_nil hp)) (lex_Tokens.s160_eq Z Q ρ s_0) he hr h
theorem lex_Tokens.o162 (Z : ZT) (Q : OA → Nat → Nat → Int → Int → PT) : Ok Tryd.prog Tryd.f36.ntmps Z lex_Tokens.c2 (lex_Tokens.q15 Z Q) (lex_Tokens.j161 Z Q) := by
  rw [lex_Tokens.q5]; exact ok_scope (lex_Tokens.s160_ok Z Q)
def lex_Tokens.s163 (Z : ZT) (Q : OA → Nat → Nat → Int → Int → PT) (s_0 : ByteArray) : PT :=
  (lex_Tokens.s160 Z Q s_0)
theorem lex_Tokens.s163_eq (Z : ZT) (Q : OA → Nat → Nat → Int → Int → PT) (ρ : Fr) (s_0 : ByteArray) : (comp Tryd.prog Z lex_Tokens.c1 (thenK (lex_Tokens.j161 Z Q) (lex_Tokens.q15 Z Q))) (puts ρ [(0, (Value.string s_0))]) = lex_Tokens.s163 Z Q s_0 := by kernel_rfl
def lex_Tokens.j164 (Z : ZT) (Q : OA → Nat → Nat → Int → Int → PT) : Fr → PT := (fun ρ => atS (ρ 0) fun s_0 => (lex_Tokens.s163 Z Q s_0))
theorem lex_Tokens.s163_ok (Z : ZT) (Q : OA → Nat → Nat → Int → Int → PT) : Ok Tryd.prog Tryd.f36.ntmps Z lex_Tokens.body (lex_Tokens.q15 Z Q) (lex_Tokens.j164 Z Q) := by
  intro E he ρ w a hr h
  rw [lex_Tokens.q3] at he ⊢
  obtain ⟨s_0, e0, h⟩ := atS_e h
  exact ok_at [(0, (Value.string s_0))] (ok_seq (okC lex_Tokens.c1 _ (by kernel_rfl)) (lex_Tokens.o162 Z Q)) (puts_cons e0 (fun p hp => puts_nil hp)) (lex_Tokens.s163_eq Z Q ρ s_0) he hr h
def lex_Tokens.F (Z : ZT) (Q : OA → Nat → Nat → Int → Int → PT) (s_0 : ByteArray) : PT :=
  (lex_Tokens.s163 Z Q s_0)
theorem lex_Tokens.vc (Z : ZT) (Q : OA → Nat → Nat → Int → Int → PT) (s_0 : ByteArray) (w : World) (h : lex_Tokens.F Z Q s_0 w) : Calls Tryd.prog 36 ⟨[(Value.string s_0)]⟩ w fun e w' => (∃ (r0 : OA) (r0n r0c : Nat) (r1 : Int) (r2 : Int), e = .returned (.tuple #[.slice r0 r0n r0c, .int .i64 r1, .int .i64 r2]) ∧ Q r0 r0n r0c r1 r2 w') ∨ ∃ c, e = .panicked c ∧ Z c w' := by
  refine (calls_of_ok (args := [(Value.string s_0)]) (w := w) (rs := [.tmp 2, .tmp 3, .tmp 4]) (fn := Tryd.f36) (c := lex_Tokens.body) Tryd.func36 (by kernel_rfl) (by kernel_rfl) (Nat.le_of_ble_eq_true (by kernel_rfl)) (lex_Tokens.s163_ok Z Q) (h)).mono fun e w' hR => ?_
  cases e with
  | returned v =>
    obtain ⟨x, y, z, rfl, hR⟩ := at3_e hR
    obtain ⟨xa, xn, xc, rfl, hR⟩ := atL_e hR
    obtain ⟨ya, rfl, hR⟩ := atI_e hR
    obtain ⟨za, rfl, hR⟩ := atI_e hR
    exact .inl ⟨xa, xn, xc, ya, za, rfl, hR⟩
  | panicked c => exact .inr ⟨c, rfl, hR⟩
  | outgrown => exact hR.elim
theorem lex_Tokens.vc0 (Q : OA → Nat → Nat → Int → Int → PT) (s_0 : ByteArray) (w : World) (h : lex_Tokens.F Z0 Q s_0 w) : Calls Tryd.prog 36 ⟨[(Value.string s_0)]⟩ w fun e w' => (∃ (r0 : OA) (r0n r0c : Nat) (r1 : Int) (r2 : Int), e = .returned (.tuple #[.slice r0 r0n r0c, .int .i64 r1, .int .i64 r2]) ∧ Q r0 r0n r0c r1 r2 w') :=
  (lex_Tokens.vc Z0 Q s_0 w h).mono fun _ _ hR => hR.elim id fun ⟨_, _, hz⟩ => hz.elim
theorem lex_Tokens.cal {Z : ZT} {Q : OA → Nat → Nat → Int → Int → PT} {s_0 : ByteArray} {w : World} (h : lex_Tokens.F Z Q s_0 w) : Go.Proofs.YtllgjjldnnmjkaaDoor.cal Tryd.prog Z 36 [(Value.string s_0)] (isT3 fun x y z => (isL fun r0 r0n r0c => (isI .i64 fun r1 => (isI .i64 fun r2 => Q r0 r0n r0c r1 r2) z) y) x) w := by
  refine (lex_Tokens.vc Z Q s_0 w h).mono fun e w' hR => ?_
  rcases hR with ⟨r0, r0n, r0c, r1, r2, rfl, h⟩ | ⟨c, rfl, h⟩
  · show (isT3 fun x y z => (isL fun r0 r0n r0c => (isI .i64 fun r1 => (isI .i64 fun r2 => Q r0 r0n r0c r1 r2) z) y) x) (.tuple #[.slice r0 r0n r0c, .int .i64 r1, .int .i64 r2]) w'
    exact ⟨_, _, _, rfl, ⟨_, _, _, rfl, ⟨_, rfl, ⟨_, rfl, h⟩⟩⟩⟩
  · exact h

/-! ### milepost/lex.run: function 57 -/
noncomputable def lex_run.body : Code := bodyC Tryd.f57
noncomputable def lex_run.c1 : Code := sq1 lex_run.body
noncomputable def lex_run.c2 : Code := sq1 (sq2 lex_run.body)
noncomputable def lex_run.c3 : Code := sq2 (sq2 lex_run.body)
theorem lex_run.q4 : lex_run.body = .seq lex_run.c1 (.seq lex_run.c2 lex_run.c3) := by kernel_rfl
noncomputable def lex_run.c5 : Code := sq1 lex_run.c3
noncomputable def lex_run.c6 : Code := sq2 lex_run.c3
theorem lex_run.q7 : lex_run.c3 = .seq lex_run.c5 lex_run.c6 := by kernel_rfl
def lex_run.s8 (Z : ZT) (Q : Int → PT) (n_9 : Int) : PT :=
  (Q n_9)
def lex_run.q9 (Z : ZT) (Q : Int → PT) : QF := bodyQ Tryd.prog [.tmp 8] (fun v => atI .i64 v fun va => Q va)
theorem lex_run.s8_eq (Z : ZT) (Q : Int → PT) (ρ : Fr) (n_9 : Int) : comp Tryd.prog Z lex_run.c6 (lex_run.q9 Z Q) (puts ρ [(9, (Value.int .i64 n_9))]) = lex_run.s8 Z Q n_9 := by kernel_rfl
def lex_run.j10 (Z : ZT) (Q : Int → PT) : Fr → PT := (fun ρ => atI .i64 (ρ 9) fun n_9 => (lex_run.s8 Z Q n_9))
theorem lex_run.s8_ok (Z : ZT) (Q : Int → PT) : Ok Tryd.prog Tryd.f57.ntmps Z lex_run.c6 (lex_run.q9 Z Q) (lex_run.j10 Z Q) := by
  intro E he ρ w a hr h
  obtain ⟨n_9, e9, h⟩ := atI_e h
  exact ok_at [(9, (Value.int .i64 n_9))] (okC lex_run.c6 (lex_run.q9 Z Q) (by kernel_rfl)) (puts_cons e9 (fun p hp => puts_nil hp)) (lex_run.s8_eq Z Q ρ n_9) he hr h
noncomputable def lex_run.c11 : Code := blk lex_run.c5
theorem lex_run.q12 : lex_run.c5 = .block 0 lex_run.c11 := by kernel_rfl
noncomputable def lex_run.c13 : Code := lop lex_run.c11
theorem lex_run.q14 : lex_run.c11 = .loop lex_run.c13 := by kernel_rfl
def lex_run.q16 (Z : ZT) (Q : Int → PT) : QF := thenK (lex_run.j10 Z Q) (lex_run.q9 Z Q)
def lex_run.q17 (Z : ZT) (Q : Int → PT) : QF := inBl 0 (lex_run.q16 Z Q)
def lex_run.s18 (Z : ZT) (Q : Int → PT) (X1 : ByteArray → Int → Int → Int → Int → PT) (s_0 : ByteArray) (at_1 : Int) (low_2 : Int) (high_3 : Int) (n_9 : Int) : PT :=
  (pif (decide ((IntKind.wrap .i64 (at_1 + n_9)) < ((s_0.size : Nat) : Int))) (ixT s_0 (IntKind.wrap .i64 (at_1 + n_9)) fun v5 => (pif (decide (((v5.toNat : Nat) : Int) ≥ low_2)) (ixT s_0 (IntKind.wrap .i64 (at_1 + n_9)) fun v6 => (pif (decide (((v6.toNat : Nat) : Int) ≤ high_3)) (X1 s_0 at_1 low_2 high_3 (IntKind.wrap .i64 (n_9 + 1))) (lex_run.s8 Z Q n_9))) (lex_run.s8 Z Q n_9))) (lex_run.s8 Z Q n_9))
def lex_run.j19 (Z : ZT) (Q : Int → PT) (X1 : ByteArray → Int → Int → Int → Int → PT) : Fr → PT := (fun ρ => atS (ρ 0) fun s_0 => atI .i64 (ρ 1) fun at_1 => atI .u8 (ρ 2) fun low_2 => atI .u8 (ρ 3) fun high_3 => atI .i64 (ρ 9) fun n_9 => (X1 s_0 at_1 low_2 high_3 n_9))
def lex_run.q20 (Z : ZT) (Q : Int → PT) (X1 : ByteArray → Int → Int → Int → Int → PT) : QF := thenK (lex_run.j19 Z Q X1) (lex_run.q17 Z Q)
theorem lex_run.s18_eq (Z : ZT) (Q : Int → PT) (X1 : ByteArray → Int → Int → Int → Int → PT) (ρ : Fr) (s_0 : ByteArray) (at_1 : Int) (low_2 : Int) (high_3 : Int) (n_9 : Int) : comp Tryd.prog Z lex_run.c13 (lex_run.q20 Z Q X1) (puts ρ [(0, (Value.string s_0)), (1, (Value.int .i64 at_1)), (2, (Value.int .u8 low_2)), (3, (Value.int .u8 high_3)), (9, (Value.int .i64 n_9))]) = lex_run.s18 Z Q X1 s_0 at_1 low_2 high_3 n_9 := by kernel_rfl
def lex_run.j21 (Z : ZT) (Q : Int → PT) (X1 : ByteArray → Int → Int → Int → Int → PT) : Fr → PT := (fun ρ => atS (ρ 0) fun s_0 => atI .i64 (ρ 1) fun at_1 => atI .u8 (ρ 2) fun low_2 => atI .u8 (ρ 3) fun high_3 => atI .i64 (ρ 9) fun n_9 => (lex_run.s18 Z Q X1 s_0 at_1 low_2 high_3 n_9))
theorem lex_run.s18_ok (Z : ZT) (Q : Int → PT) (X1 : ByteArray → Int → Int → Int → Int → PT) : Ok Tryd.prog Tryd.f57.ntmps Z lex_run.c13 (lex_run.q20 Z Q X1) (lex_run.j21 Z Q X1) := by
  intro E he ρ w a hr h
  obtain ⟨s_0, e0, h⟩ := atS_e h
  obtain ⟨at_1, e1, h⟩ := atI_e h
  obtain ⟨low_2, e2, h⟩ := atI_e h
  obtain ⟨high_3, e3, h⟩ := atI_e h
  obtain ⟨n_9, e9, h⟩ := atI_e h
  exact ok_at [(0, (Value.string s_0)), (1, (Value.int .i64 at_1)), (2, (Value.int .u8 low_2)), (3, (Value.int .u8 high_3)), (9, (Value.int .i64 n_9))] (okC lex_run.c13 (lex_run.q20 Z Q X1) (by kernel_rfl)) (puts_cons e0 (puts_cons e1 (puts_cons e2 (puts_cons e3 (puts_cons e9 (fun p hp => puts_nil hp)))))) (lex_run.s18_eq Z Q X1 ρ s_0 at_1 low_2 high_3 n_9) he hr h
def lex_run.l15 (Z : ZT) (Q : Int → PT) : Nat → ByteArray → Int → Int → Int → Int → PT
  | 0, _, _, _, _, _ => bad
  | k + 1, s_0, at_1, low_2, high_3, n_9 => (lex_run.s18 Z Q (lex_run.l15 Z Q k) s_0 at_1 low_2 high_3 n_9)
def lex_run.j22 (Z : ZT) (Q : Int → PT) (k : Nat) : Fr → PT := (fun ρ => atS (ρ 0) fun s_0 => atI .i64 (ρ 1) fun at_1 => atI .u8 (ρ 2) fun low_2 => atI .u8 (ρ 3) fun high_3 => atI .i64 (ρ 9) fun n_9 => (lex_run.l15 Z Q k s_0 at_1 low_2 high_3 n_9))
def lex_run.j23 (Z : ZT) (Q : Int → PT) : Fr → PT := (fun ρ => atS (ρ 0) fun s_0 => atI .i64 (ρ 1) fun at_1 => atI .u8 (ρ 2) fun low_2 => atI .u8 (ρ 3) fun high_3 => atI .i64 (ρ 9) fun n_9 => (exK fun k => lex_run.l15 Z Q k s_0 at_1 low_2 high_3 n_9))
theorem lex_run.o24 (Z : ZT) (Q : Int → PT) : Ok Tryd.prog Tryd.f57.ntmps Z lex_run.c11 (lex_run.q17 Z Q) (lex_run.j23 Z Q) := by
  rw [lex_run.q14]
  refine Ok.imp (ok_loop (J := lex_run.j22 Z Q) ?_ ?_) ?_
  · intro ρ w h
    obtain ⟨s_0, e0, h⟩ := atS_e h
    obtain ⟨at_1, e1, h⟩ := atI_e h
    obtain ⟨low_2, e2, h⟩ := atI_e h
    obtain ⟨high_3, e3, h⟩ := atI_e h
    obtain ⟨n_9, e9, h⟩ := atI_e h
    exact h
  · intro k
    refine Ok.imp (lex_run.s18_ok Z Q (lex_run.l15 Z Q k)) fun ρ w h => ?_
    obtain ⟨s_0, e0, h⟩ := atS_e h
    obtain ⟨at_1, e1, h⟩ := atI_e h
    obtain ⟨low_2, e2, h⟩ := atI_e h
    obtain ⟨high_3, e3, h⟩ := atI_e h
    obtain ⟨n_9, e9, h⟩ := atI_e h
    show (lex_run.j21 Z Q (lex_run.l15 Z Q k)) ρ w
    simp only [lex_run.j21]
    rw [e0]
    rw [e1]
    rw [e2]
    rw [e3]
    rw [e9]
    exact h
  · intro ρ w h
    obtain ⟨s_0, e0, h⟩ := atS_e h
    obtain ⟨at_1, e1, h⟩ := atI_e h
    obtain ⟨low_2, e2, h⟩ := atI_e h
    obtain ⟨high_3, e3, h⟩ := atI_e h
    obtain ⟨n_9, e9, h⟩ := atI_e h
    obtain ⟨k, h⟩ := h
    refine ⟨k, ?_⟩
    show (atS (ρ 0) fun s_0 => atI .i64 (ρ 1) fun at_1 => atI .u8 (ρ 2) fun low_2 => atI .u8 (ρ 3) fun high_3 => atI .i64 (ρ 9) fun n_9 => (lex_run.l15 Z Q k s_0 at_1 low_2 high_3 n_9)) w
    rw [e0]
    rw [e1]
    rw [e2]
    rw [e3]
    rw [e9]
    exact h
theorem lex_run.o25 (Z : ZT) (Q : Int → PT) : Ok Tryd.prog Tryd.f57.ntmps Z lex_run.c5 (lex_run.q16 Z Q) (lex_run.j23 Z Q) := by
  rw [lex_run.q12]; exact ok_block (lex_run.o24 Z Q)
theorem lex_run.o26 (Z : ZT) (Q : Int → PT) : Ok Tryd.prog Tryd.f57.ntmps Z lex_run.c3 (lex_run.q9 Z Q) (lex_run.j23 Z Q) := by
  rw [lex_run.q7]; exact ok_seq (lex_run.o25 Z Q) (lex_run.s8_ok Z Q)
def lex_run.s27 (Z : ZT) (Q : Int → PT) (s_0 : ByteArray) (at_1 : Int) (low_2 : Int) (high_3 : Int) : PT :=
  (exK fun k => lex_run.l15 Z Q k s_0 at_1 low_2 high_3 0)
theorem lex_run.s27_eq (Z : ZT) (Q : Int → PT) (ρ : Fr) (s_0 : ByteArray) (at_1 : Int) (low_2 : Int) (high_3 : Int) : (comp Tryd.prog Z lex_run.c1 (thenK (comp Tryd.prog Z lex_run.c2 (thenK (lex_run.j23 Z Q) (lex_run.q9 Z Q))) (lex_run.q9 Z Q))) (puts ρ [(0, (Value.string s_0)), (1, (Value.int .i64 at_1)), (2, (Value.int .u8 low_2)), (3, (Value.int .u8 high_3))]) = lex_run.s27 Z Q s_0 at_1 low_2 high_3 := by kernel_rfl
def lex_run.j28 (Z : ZT) (Q : Int → PT) : Fr → PT := (fun ρ => atS (ρ 0) fun s_0 => atI .i64 (ρ 1) fun at_1 => atI .u8 (ρ 2) fun low_2 => atI .u8 (ρ 3) fun high_3 => (lex_run.s27 Z Q s_0 at_1 low_2 high_3))
theorem lex_run.s27_ok (Z : ZT) (Q : Int → PT) : Ok Tryd.prog Tryd.f57.ntmps Z lex_run.body (lex_run.q9 Z Q) (lex_run.j28 Z Q) := by
  intro E he ρ w a hr h
  rw [lex_run.q4] at he ⊢
  obtain ⟨s_0, e0, h⟩ := atS_e h
  obtain ⟨at_1, e1, h⟩ := atI_e h
  obtain ⟨low_2, e2, h⟩ := atI_e h
  obtain ⟨high_3, e3, h⟩ := atI_e h
  exact ok_at [(0, (Value.string s_0)), (1, (Value.int .i64 at_1)), (2, (Value.int .u8 low_2)), (3, (Value.int .u8 high_3))] (ok_seq (okC lex_run.c1 _ (by kernel_rfl)) (ok_seq (okC lex_run.c2 _ (by kernel_rfl)) (lex_run.o26 Z Q))) (puts_cons e0 (puts_cons e1 (puts_cons e2 (puts_cons e3 (fun p hp => puts_nil hp))))) (lex_run.s27_eq Z Q ρ s_0 at_1 low_2 high_3) he hr h
def lex_run.F (Z : ZT) (Q : Int → PT) (s_0 : ByteArray) (at_1 : Int) (low_2 : Int) (high_3 : Int) : PT :=
  (lex_run.s27 Z Q s_0 at_1 low_2 high_3)
theorem lex_run.vc (Z : ZT) (Q : Int → PT) (s_0 : ByteArray) (at_1 : Int) (low_2 : Int) (high_3 : Int) (w : World) (h : lex_run.F Z Q s_0 at_1 low_2 high_3 w) : Calls Tryd.prog 57 ⟨[(Value.string s_0), (Value.int .i64 at_1), (Value.int .u8 low_2), (Value.int .u8 high_3)]⟩ w fun e w' => (∃ (r0 : Int), e = .returned (.int .i64 r0) ∧ Q r0 w') ∨ ∃ c, e = .panicked c ∧ Z c w' := by
  refine (calls_of_ok (args := [(Value.string s_0), (Value.int .i64 at_1), (Value.int .u8 low_2), (Value.int .u8 high_3)]) (w := w) (rs := [.tmp 8]) (fn := Tryd.f57) (c := lex_run.body) Tryd.func57 (by kernel_rfl) (by kernel_rfl) (Nat.le_of_ble_eq_true (by kernel_rfl)) (lex_run.s27_ok Z Q) (h)).mono fun e w' hR => ?_
  cases e with
  | returned v =>
    obtain ⟨va, rfl, hR⟩ := atI_e hR
    exact .inl ⟨va, rfl, hR⟩
  | panicked c => exact .inr ⟨c, rfl, hR⟩
  | outgrown => exact hR.elim
theorem lex_run.vc0 (Q : Int → PT) (s_0 : ByteArray) (at_1 : Int) (low_2 : Int) (high_3 : Int) (w : World) (h : lex_run.F Z0 Q s_0 at_1 low_2 high_3 w) : Calls Tryd.prog 57 ⟨[(Value.string s_0), (Value.int .i64 at_1), (Value.int .u8 low_2), (Value.int .u8 high_3)]⟩ w fun e w' => (∃ (r0 : Int), e = .returned (.int .i64 r0) ∧ Q r0 w') :=
  (lex_run.vc Z0 Q s_0 at_1 low_2 high_3 w h).mono fun _ _ hR => hR.elim id fun ⟨_, _, hz⟩ => hz.elim
theorem lex_run.cal {Z : ZT} {Q : Int → PT} {s_0 : ByteArray} {at_1 : Int} {low_2 : Int} {high_3 : Int} {w : World} (h : lex_run.F Z Q s_0 at_1 low_2 high_3 w) : Go.Proofs.YtllgjjldnnmjkaaDoor.cal Tryd.prog Z 57 [(Value.string s_0), (Value.int .i64 at_1), (Value.int .u8 low_2), (Value.int .u8 high_3)] (isI .i64 fun r0 => Q r0) w := by
  refine (lex_run.vc Z Q s_0 at_1 low_2 high_3 w h).mono fun e w' hR => ?_
  rcases hR with ⟨r0, rfl, h⟩ | ⟨c, rfl, h⟩
  · show (isI .i64 fun r0 => Q r0) (.int .i64 r0) w'
    exact ⟨_, rfl, h⟩
  · exact h

/-! ### milepost/lex.number: function 58 -/
noncomputable def lex_number.body : Code := bodyC Tryd.f58
noncomputable def lex_number.c1 : Code := sq1 lex_number.body
noncomputable def lex_number.c2 : Code := sq1 (sq2 lex_number.body)
noncomputable def lex_number.c3 : Code := sq2 (sq2 lex_number.body)
theorem lex_number.q4 : lex_number.body = .seq lex_number.c1 (.seq lex_number.c2 lex_number.c3) := by kernel_rfl
noncomputable def lex_number.c5 : Code := sq1 lex_number.c3
noncomputable def lex_number.c6 : Code := sq2 lex_number.c3
theorem lex_number.q7 : lex_number.c3 = .seq lex_number.c5 lex_number.c6 := by kernel_rfl
noncomputable def lex_number.c8 : Code := sq1 lex_number.c6
noncomputable def lex_number.c9 : Code := sq2 lex_number.c6
theorem lex_number.q10 : lex_number.c6 = .seq lex_number.c8 lex_number.c9 := by kernel_rfl
def lex_number.s11 (Z : ZT) (Q : Int → Bool → PT) (n_4 : Int) : PT :=
  (Q n_4 (decide (n_4 < 4294967296)))
def lex_number.q12 (Z : ZT) (Q : Int → Bool → PT) : QF := bodyQ Tryd.prog [.tmp 2, .tmp 3] (fun v => at2 v fun x y => atI .i64 x fun xa => atB y fun ya => Q xa ya)
theorem lex_number.s11_eq (Z : ZT) (Q : Int → Bool → PT) (ρ : Fr) (n_4 : Int) : comp Tryd.prog Z lex_number.c9 (lex_number.q12 Z Q) (puts ρ [(4, (Value.int .i64 n_4))]) = lex_number.s11 Z Q n_4 := by kernel_rfl
def lex_number.j13 (Z : ZT) (Q : Int → Bool → PT) : Fr → PT := (fun ρ => atI .i64 (ρ 4) fun n_4 => (lex_number.s11 Z Q n_4))
theorem lex_number.s11_ok (Z : ZT) (Q : Int → Bool → PT) : Ok Tryd.prog Tryd.f58.ntmps Z lex_number.c9 (lex_number.q12 Z Q) (lex_number.j13 Z Q) := by
  intro E he ρ w a hr h
  obtain ⟨n_4, e4, h⟩ := atI_e h
  exact ok_at [(4, (Value.int .i64 n_4))] (okC lex_number.c9 (lex_number.q12 Z Q) (by kernel_rfl)) (puts_cons e4 (fun p hp => puts_nil hp)) (lex_number.s11_eq Z Q ρ n_4) he hr h
noncomputable def lex_number.c14 : Code := sq1 lex_number.c8
noncomputable def lex_number.c15 : Code := sq2 lex_number.c8
theorem lex_number.q16 : lex_number.c8 = .seq lex_number.c14 lex_number.c15 := by kernel_rfl
noncomputable def lex_number.c17 : Code := blk lex_number.c15
theorem lex_number.q18 : lex_number.c15 = .block 0 lex_number.c17 := by kernel_rfl
noncomputable def lex_number.c19 : Code := lop lex_number.c17
theorem lex_number.q20 : lex_number.c17 = .loop lex_number.c19 := by kernel_rfl
def lex_number.q22 (Z : ZT) (Q : Int → Bool → PT) : QF := thenK (lex_number.j13 Z Q) (lex_number.q12 Z Q)
def lex_number.q23 (Z : ZT) (Q : Int → Bool → PT) : QF := inBl 0 (lex_number.q22 Z Q)
def lex_number.s24 (Z : ZT) (Q : Int → Bool → PT) (X1 : ByteArray → Int → Int → Int → PT) (s_0 : ByteArray) (n_4 : Int) (t_20 : Int) (t_21 : Int) : PT :=
  (pif (decide (t_21 < t_20)) (ixT s_0 t_21 fun v4 => (X1 s_0 (IntKind.wrap .i64 ((IntKind.wrap .i64 (n_4 * 10)) + (IntKind.wrap .i64 (IntKind.wrap .u8 (((v4.toNat : Nat) : Int) - 48))))) t_20 (IntKind.wrap .i64 (t_21 + 1)))) (lex_number.s11 Z Q n_4))
def lex_number.j25 (Z : ZT) (Q : Int → Bool → PT) (X1 : ByteArray → Int → Int → Int → PT) : Fr → PT := (fun ρ => atS (ρ 0) fun s_0 => atI .i64 (ρ 4) fun n_4 => atI .i64 (ρ 20) fun t_20 => atI .i64 (ρ 21) fun t_21 => (X1 s_0 n_4 t_20 t_21))
def lex_number.q26 (Z : ZT) (Q : Int → Bool → PT) (X1 : ByteArray → Int → Int → Int → PT) : QF := thenK (lex_number.j25 Z Q X1) (lex_number.q23 Z Q)
theorem lex_number.s24_eq (Z : ZT) (Q : Int → Bool → PT) (X1 : ByteArray → Int → Int → Int → PT) (ρ : Fr) (s_0 : ByteArray) (n_4 : Int) (t_20 : Int) (t_21 : Int) : comp Tryd.prog Z lex_number.c19 (lex_number.q26 Z Q X1) (puts ρ [(0, (Value.string s_0)), (4, (Value.int .i64 n_4)), (20, (Value.int .i64 t_20)), (21, (Value.int .i64 t_21))]) = lex_number.s24 Z Q X1 s_0 n_4 t_20 t_21 := by kernel_rfl
def lex_number.j27 (Z : ZT) (Q : Int → Bool → PT) (X1 : ByteArray → Int → Int → Int → PT) : Fr → PT := (fun ρ => atS (ρ 0) fun s_0 => atI .i64 (ρ 4) fun n_4 => atI .i64 (ρ 20) fun t_20 => atI .i64 (ρ 21) fun t_21 => (lex_number.s24 Z Q X1 s_0 n_4 t_20 t_21))
theorem lex_number.s24_ok (Z : ZT) (Q : Int → Bool → PT) (X1 : ByteArray → Int → Int → Int → PT) : Ok Tryd.prog Tryd.f58.ntmps Z lex_number.c19 (lex_number.q26 Z Q X1) (lex_number.j27 Z Q X1) := by
  intro E he ρ w a hr h
  obtain ⟨s_0, e0, h⟩ := atS_e h
  obtain ⟨n_4, e4, h⟩ := atI_e h
  obtain ⟨t_20, e20, h⟩ := atI_e h
  obtain ⟨t_21, e21, h⟩ := atI_e h
  exact ok_at [(0, (Value.string s_0)), (4, (Value.int .i64 n_4)), (20, (Value.int .i64 t_20)), (21, (Value.int .i64 t_21))] (okC lex_number.c19 (lex_number.q26 Z Q X1) (by kernel_rfl)) (puts_cons e0 (puts_cons e4 (puts_cons e20 (puts_cons e21 (fun p hp => puts_nil hp))))) (lex_number.s24_eq Z Q X1 ρ s_0 n_4 t_20 t_21) he hr h
def lex_number.l21 (Z : ZT) (Q : Int → Bool → PT) : Nat → ByteArray → Int → Int → Int → PT
  | 0, _, _, _, _ => bad
  | k + 1, s_0, n_4, t_20, t_21 => (lex_number.s24 Z Q (lex_number.l21 Z Q k) s_0 n_4 t_20 t_21)
def lex_number.j28 (Z : ZT) (Q : Int → Bool → PT) (k : Nat) : Fr → PT := (fun ρ => atS (ρ 0) fun s_0 => atI .i64 (ρ 4) fun n_4 => atI .i64 (ρ 20) fun t_20 => atI .i64 (ρ 21) fun t_21 => (lex_number.l21 Z Q k s_0 n_4 t_20 t_21))
def lex_number.j29 (Z : ZT) (Q : Int → Bool → PT) : Fr → PT := (fun ρ => atS (ρ 0) fun s_0 => atI .i64 (ρ 4) fun n_4 => atI .i64 (ρ 20) fun t_20 => atI .i64 (ρ 21) fun t_21 => (exK fun k => lex_number.l21 Z Q k s_0 n_4 t_20 t_21))
theorem lex_number.o30 (Z : ZT) (Q : Int → Bool → PT) : Ok Tryd.prog Tryd.f58.ntmps Z lex_number.c17 (lex_number.q23 Z Q) (lex_number.j29 Z Q) := by
  rw [lex_number.q20]
  refine Ok.imp (ok_loop (J := lex_number.j28 Z Q) ?_ ?_) ?_
  · intro ρ w h
    obtain ⟨s_0, e0, h⟩ := atS_e h
    obtain ⟨n_4, e4, h⟩ := atI_e h
    obtain ⟨t_20, e20, h⟩ := atI_e h
    obtain ⟨t_21, e21, h⟩ := atI_e h
    exact h
  · intro k
    refine Ok.imp (lex_number.s24_ok Z Q (lex_number.l21 Z Q k)) fun ρ w h => ?_
    obtain ⟨s_0, e0, h⟩ := atS_e h
    obtain ⟨n_4, e4, h⟩ := atI_e h
    obtain ⟨t_20, e20, h⟩ := atI_e h
    obtain ⟨t_21, e21, h⟩ := atI_e h
    show (lex_number.j27 Z Q (lex_number.l21 Z Q k)) ρ w
    simp only [lex_number.j27]
    rw [e0]
    rw [e4]
    rw [e20]
    rw [e21]
    exact h
  · intro ρ w h
    obtain ⟨s_0, e0, h⟩ := atS_e h
    obtain ⟨n_4, e4, h⟩ := atI_e h
    obtain ⟨t_20, e20, h⟩ := atI_e h
    obtain ⟨t_21, e21, h⟩ := atI_e h
    obtain ⟨k, h⟩ := h
    refine ⟨k, ?_⟩
    show (atS (ρ 0) fun s_0 => atI .i64 (ρ 4) fun n_4 => atI .i64 (ρ 20) fun t_20 => atI .i64 (ρ 21) fun t_21 => (lex_number.l21 Z Q k s_0 n_4 t_20 t_21)) w
    rw [e0]
    rw [e4]
    rw [e20]
    rw [e21]
    exact h
theorem lex_number.o31 (Z : ZT) (Q : Int → Bool → PT) : Ok Tryd.prog Tryd.f58.ntmps Z lex_number.c15 (lex_number.q22 Z Q) (lex_number.j29 Z Q) := by
  rw [lex_number.q18]; exact ok_block (lex_number.o30 Z Q)
def lex_number.s32 (Z : ZT) (Q : Int → Bool → PT) (s_0 : ByteArray) (n_4 : Int) : PT :=
  (exK fun k => lex_number.l21 Z Q k s_0 n_4 ((s_0.size : Nat) : Int) 0)
theorem lex_number.s32_eq (Z : ZT) (Q : Int → Bool → PT) (ρ : Fr) (s_0 : ByteArray) (n_4 : Int) : (comp Tryd.prog Z lex_number.c14 (thenK (lex_number.j29 Z Q) (lex_number.q22 Z Q))) (puts ρ [(0, (Value.string s_0)), (4, (Value.int .i64 n_4))]) = lex_number.s32 Z Q s_0 n_4 := by kernel_rfl
def lex_number.j33 (Z : ZT) (Q : Int → Bool → PT) : Fr → PT := (fun ρ => atS (ρ 0) fun s_0 => atI .i64 (ρ 4) fun n_4 => (lex_number.s32 Z Q s_0 n_4))
theorem lex_number.s32_ok (Z : ZT) (Q : Int → Bool → PT) : Ok Tryd.prog Tryd.f58.ntmps Z lex_number.c8 (lex_number.q22 Z Q) (lex_number.j33 Z Q) := by
  intro E he ρ w a hr h
  rw [lex_number.q16] at he ⊢
  obtain ⟨s_0, e0, h⟩ := atS_e h
  obtain ⟨n_4, e4, h⟩ := atI_e h
  exact ok_at [(0, (Value.string s_0)), (4, (Value.int .i64 n_4))] (ok_seq (okC lex_number.c14 _ (by kernel_rfl)) (lex_number.o31 Z Q)) (puts_cons e0 (puts_cons e4 (fun p hp => puts_nil hp))) (lex_number.s32_eq Z Q ρ s_0 n_4) he hr h
theorem lex_number.o34 (Z : ZT) (Q : Int → Bool → PT) : Ok Tryd.prog Tryd.f58.ntmps Z lex_number.c6 (lex_number.q12 Z Q) (lex_number.j33 Z Q) := by
  rw [lex_number.q10]; exact ok_seq (lex_number.s32_ok Z Q) (lex_number.s11_ok Z Q)
def lex_number.s35 (Z : ZT) (Q : Int → Bool → PT) (s_0 : ByteArray) : PT :=
  (lex_number.s32 Z Q s_0 0)
theorem lex_number.s35_eq (Z : ZT) (Q : Int → Bool → PT) (ρ : Fr) (s_0 : ByteArray) : (comp Tryd.prog Z lex_number.c5 (thenK (lex_number.j33 Z Q) (lex_number.q12 Z Q))) (puts ρ [(0, (Value.string s_0))]) = lex_number.s35 Z Q s_0 := by kernel_rfl
def lex_number.j36 (Z : ZT) (Q : Int → Bool → PT) : Fr → PT := (fun ρ => atS (ρ 0) fun s_0 => (lex_number.s35 Z Q s_0))
theorem lex_number.s35_ok (Z : ZT) (Q : Int → Bool → PT) : Ok Tryd.prog Tryd.f58.ntmps Z lex_number.c3 (lex_number.q12 Z Q) (lex_number.j36 Z Q) := by
  intro E he ρ w a hr h
  rw [lex_number.q7] at he ⊢
  obtain ⟨s_0, e0, h⟩ := atS_e h
  exact ok_at [(0, (Value.string s_0))] (ok_seq (okC lex_number.c5 _ (by kernel_rfl)) (lex_number.o34 Z Q)) (puts_cons e0 (fun p hp => puts_nil hp)) (lex_number.s35_eq Z Q ρ s_0) he hr h
def lex_number.s37 (Z : ZT) (Q : Int → Bool → PT) (s_0 : ByteArray) : PT :=
  (pif (decide (((s_0.size : Nat) : Int) > 10)) (Q 0 false) (pif (decide (((s_0.size : Nat) : Int) > 1)) (ixT s_0 0 fun v5 => (pif (((v5.toNat : Nat) : Int) == 48) (Q 0 false) (lex_number.s35 Z Q s_0))) (lex_number.s35 Z Q s_0)))
theorem lex_number.s37_eq (Z : ZT) (Q : Int → Bool → PT) (ρ : Fr) (s_0 : ByteArray) : (comp Tryd.prog Z lex_number.c1 (thenK (comp Tryd.prog Z lex_number.c2 (thenK (lex_number.j36 Z Q) (lex_number.q12 Z Q))) (lex_number.q12 Z Q))) (puts ρ [(0, (Value.string s_0))]) = lex_number.s37 Z Q s_0 := by kernel_rfl
def lex_number.j38 (Z : ZT) (Q : Int → Bool → PT) : Fr → PT := (fun ρ => atS (ρ 0) fun s_0 => (lex_number.s37 Z Q s_0))
theorem lex_number.s37_ok (Z : ZT) (Q : Int → Bool → PT) : Ok Tryd.prog Tryd.f58.ntmps Z lex_number.body (lex_number.q12 Z Q) (lex_number.j38 Z Q) := by
  intro E he ρ w a hr h
  rw [lex_number.q4] at he ⊢
  obtain ⟨s_0, e0, h⟩ := atS_e h
  exact ok_at [(0, (Value.string s_0))] (ok_seq (okC lex_number.c1 _ (by kernel_rfl)) (ok_seq (okC lex_number.c2 _ (by kernel_rfl)) (lex_number.s35_ok Z Q))) (puts_cons e0 (fun p hp => puts_nil hp)) (lex_number.s37_eq Z Q ρ s_0) he hr h
def lex_number.F (Z : ZT) (Q : Int → Bool → PT) (s_0 : ByteArray) : PT :=
  (lex_number.s37 Z Q s_0)
theorem lex_number.vc (Z : ZT) (Q : Int → Bool → PT) (s_0 : ByteArray) (w : World) (h : lex_number.F Z Q s_0 w) : Calls Tryd.prog 58 ⟨[(Value.string s_0)]⟩ w fun e w' => (∃ (r0 : Int) (r1 : Bool), e = .returned (.tuple #[.int .i64 r0, .bool r1]) ∧ Q r0 r1 w') ∨ ∃ c, e = .panicked c ∧ Z c w' := by
  refine (calls_of_ok (args := [(Value.string s_0)]) (w := w) (rs := [.tmp 2, .tmp 3]) (fn := Tryd.f58) (c := lex_number.body) Tryd.func58 (by kernel_rfl) (by kernel_rfl) (Nat.le_of_ble_eq_true (by kernel_rfl)) (lex_number.s37_ok Z Q) (h)).mono fun e w' hR => ?_
  cases e with
  | returned v =>
    obtain ⟨x, y, rfl, hR⟩ := at2_e hR
    obtain ⟨xa, rfl, hR⟩ := atI_e hR
    obtain ⟨ya, rfl, hR⟩ := atB_e hR
    exact .inl ⟨xa, ya, rfl, hR⟩
  | panicked c => exact .inr ⟨c, rfl, hR⟩
  | outgrown => exact hR.elim
theorem lex_number.vc0 (Q : Int → Bool → PT) (s_0 : ByteArray) (w : World) (h : lex_number.F Z0 Q s_0 w) : Calls Tryd.prog 58 ⟨[(Value.string s_0)]⟩ w fun e w' => (∃ (r0 : Int) (r1 : Bool), e = .returned (.tuple #[.int .i64 r0, .bool r1]) ∧ Q r0 r1 w') :=
  (lex_number.vc Z0 Q s_0 w h).mono fun _ _ hR => hR.elim id fun ⟨_, _, hz⟩ => hz.elim
theorem lex_number.cal {Z : ZT} {Q : Int → Bool → PT} {s_0 : ByteArray} {w : World} (h : lex_number.F Z Q s_0 w) : Go.Proofs.YtllgjjldnnmjkaaDoor.cal Tryd.prog Z 58 [(Value.string s_0)] (isT2 fun x y => (isI .i64 fun r0 => (isB fun r1 => Q r0 r1) y) x) w := by
  refine (lex_number.vc Z Q s_0 w h).mono fun e w' hR => ?_
  rcases hR with ⟨r0, r1, rfl, h⟩ | ⟨c, rfl, h⟩
  · show (isT2 fun x y => (isI .i64 fun r0 => (isB fun r1 => Q r0 r1) y) x) (.tuple #[.int .i64 r0, .bool r1]) w'
    exact ⟨_, _, rfl, ⟨_, rfl, ⟨_, rfl, h⟩⟩⟩
  · exact h

/-! ### milepost/milepostref05.Tokens: function 45 -/
noncomputable def ref05_Tokens.body : Code := bodyC Tryd.f45
noncomputable def ref05_Tokens.c1 : Code := sq1 ref05_Tokens.body
noncomputable def ref05_Tokens.c2 : Code := sq1 (sq2 ref05_Tokens.body)
noncomputable def ref05_Tokens.c3 : Code := sq1 (sq2 (sq2 ref05_Tokens.body))
noncomputable def ref05_Tokens.c4 : Code := sq1 (sq2 (sq2 (sq2 ref05_Tokens.body)))
noncomputable def ref05_Tokens.c5 : Code := sq2 (sq2 (sq2 (sq2 ref05_Tokens.body)))
theorem ref05_Tokens.q6 : ref05_Tokens.body = .seq ref05_Tokens.c1 (.seq ref05_Tokens.c2 (.seq ref05_Tokens.c3 (.seq ref05_Tokens.c4 ref05_Tokens.c5))) := by kernel_rfl
noncomputable def ref05_Tokens.c7 : Code := sq1 ref05_Tokens.c5
noncomputable def ref05_Tokens.c8 : Code := sq2 ref05_Tokens.c5
theorem ref05_Tokens.q9 : ref05_Tokens.c5 = .seq ref05_Tokens.c7 ref05_Tokens.c8 := by kernel_rfl
def ref05_Tokens.s10 (Z : ZT) (Q : OA → Nat → Nat → Int → Int → PT) (out_5 : OA) (out_5n out_5c : Nat) : PT :=
  (Q out_5 out_5n out_5c 0 0)
def ref05_Tokens.q11 (Z : ZT) (Q : OA → Nat → Nat → Int → Int → PT) : QF := bodyQ Tryd.prog [.tmp 2, .tmp 3, .tmp 4] (fun v => at3 v fun x y z => atL x fun xa xn xc => atI .i64 y fun ya => atI .i64 z fun za => Q xa xn xc ya za)
theorem ref05_Tokens.s10_eq (Z : ZT) (Q : OA → Nat → Nat → Int → Int → PT) (ρ : Fr) (out_5 : OA) (out_5n out_5c : Nat) : comp Tryd.prog Z ref05_Tokens.c8 (ref05_Tokens.q11 Z Q) (puts ρ [(5, (Value.slice out_5 out_5n out_5c))]) = ref05_Tokens.s10 Z Q out_5 out_5n out_5c := by kernel_rfl
def ref05_Tokens.j12 (Z : ZT) (Q : OA → Nat → Nat → Int → Int → PT) : Fr → PT := (fun ρ => atL (ρ 5) fun out_5 out_5n out_5c => (ref05_Tokens.s10 Z Q out_5 out_5n out_5c))
theorem ref05_Tokens.s10_ok (Z : ZT) (Q : OA → Nat → Nat → Int → Int → PT) : Ok Tryd.prog Tryd.f45.ntmps Z ref05_Tokens.c8 (ref05_Tokens.q11 Z Q) (ref05_Tokens.j12 Z Q) := by
  intro E he ρ w a hr h
  obtain ⟨out_5, out_5n, out_5c, e5, h⟩ := atL_e h
  exact ok_at [(5, (Value.slice out_5 out_5n out_5c))] (okC ref05_Tokens.c8 (ref05_Tokens.q11 Z Q) (by kernel_rfl)) (puts_cons e5 (fun p hp => puts_nil hp)) (ref05_Tokens.s10_eq Z Q ρ out_5 out_5n out_5c) he hr h
noncomputable def ref05_Tokens.c13 : Code := blk ref05_Tokens.c7
theorem ref05_Tokens.q14 : ref05_Tokens.c7 = .block 0 ref05_Tokens.c13 := by kernel_rfl
noncomputable def ref05_Tokens.c15 : Code := lop ref05_Tokens.c13
theorem ref05_Tokens.q16 : ref05_Tokens.c13 = .loop ref05_Tokens.c15 := by kernel_rfl
def ref05_Tokens.q18 (Z : ZT) (Q : OA → Nat → Nat → Int → Int → PT) : QF := thenK (ref05_Tokens.j12 Z Q) (ref05_Tokens.q11 Z Q)
def ref05_Tokens.q19 (Z : ZT) (Q : OA → Nat → Nat → Int → Int → PT) : QF := inBl 0 (ref05_Tokens.q18 Z Q)
noncomputable def ref05_Tokens.c20 : Code := sq1 ref05_Tokens.c15
noncomputable def ref05_Tokens.c21 : Code := sq2 ref05_Tokens.c15
theorem ref05_Tokens.q22 : ref05_Tokens.c15 = .seq ref05_Tokens.c20 ref05_Tokens.c21 := by kernel_rfl
noncomputable def ref05_Tokens.c23 : Code := blk ref05_Tokens.c21
theorem ref05_Tokens.q24 : ref05_Tokens.c21 = .block 1 ref05_Tokens.c23 := by kernel_rfl
noncomputable def ref05_Tokens.c25 : Code := sq1 ref05_Tokens.c23
noncomputable def ref05_Tokens.c26 : Code := sq1 (sq2 ref05_Tokens.c23)
noncomputable def ref05_Tokens.c27 : Code := sq2 (sq2 ref05_Tokens.c23)
theorem ref05_Tokens.q28 : ref05_Tokens.c23 = .seq ref05_Tokens.c25 (.seq ref05_Tokens.c26 ref05_Tokens.c27) := by kernel_rfl
noncomputable def ref05_Tokens.c29 : Code := sq1 ref05_Tokens.c27
noncomputable def ref05_Tokens.c30 : Code := sq2 ref05_Tokens.c27
theorem ref05_Tokens.q31 : ref05_Tokens.c27 = .seq ref05_Tokens.c29 ref05_Tokens.c30 := by kernel_rfl
noncomputable def ref05_Tokens.c32 : Code := sq1 ref05_Tokens.c30
noncomputable def ref05_Tokens.c33 : Code := sq2 ref05_Tokens.c30
theorem ref05_Tokens.q34 : ref05_Tokens.c30 = .seq ref05_Tokens.c32 ref05_Tokens.c33 := by kernel_rfl
noncomputable def ref05_Tokens.c35 : Code := sq1 ref05_Tokens.c33
noncomputable def ref05_Tokens.c36 : Code := sq2 ref05_Tokens.c33
theorem ref05_Tokens.q37 : ref05_Tokens.c33 = .seq ref05_Tokens.c35 ref05_Tokens.c36 := by kernel_rfl
noncomputable def ref05_Tokens.c38 : Code := sq1 ref05_Tokens.c36
noncomputable def ref05_Tokens.c39 : Code := sq1 (sq2 ref05_Tokens.c36)
noncomputable def ref05_Tokens.c40 : Code := sq1 (sq2 (sq2 ref05_Tokens.c36))
noncomputable def ref05_Tokens.c41 : Code := sq2 (sq2 (sq2 ref05_Tokens.c36))
theorem ref05_Tokens.q42 : ref05_Tokens.c36 = .seq ref05_Tokens.c38 (.seq ref05_Tokens.c39 (.seq ref05_Tokens.c40 ref05_Tokens.c41)) := by kernel_rfl
noncomputable def ref05_Tokens.c43 : Code := sq1 ref05_Tokens.c41
noncomputable def ref05_Tokens.c44 : Code := sq2 ref05_Tokens.c41
theorem ref05_Tokens.q45 : ref05_Tokens.c41 = .seq ref05_Tokens.c43 ref05_Tokens.c44 := by kernel_rfl
def ref05_Tokens.s46 (Z : ZT) (Q : OA → Nat → Nat → Int → Int → PT) (X1 : ByteArray → OA → Nat → Nat → Int → PT) (s_0 : ByteArray) (out_5 : OA) (out_5n out_5c : Nat) (k_7 : Int) (end_8 : Int) (t_9 : Addr) : PT :=
  (pif (decide (k_7 > 0)) (pif (decide (k_7 < 9)) (ldN 4 t_9 fun v36 => (cnd (List.length v36 = 4) (newC 79 (v36 ++ ([])) fun v37 => (runL Tryd.prog (bi .append #[69, 69] 69 [false, false] [(Value.slice out_5 out_5n out_5c), (Value.slice (some v37) 1 1)]) fun v38 v38n v38c => (X1 s_0 v38 v38n v38c end_8))))) (X1 s_0 out_5 out_5n out_5c end_8)) (X1 s_0 out_5 out_5n out_5c end_8))
def ref05_Tokens.j47 (Z : ZT) (Q : OA → Nat → Nat → Int → Int → PT) (X1 : ByteArray → OA → Nat → Nat → Int → PT) : Fr → PT := (fun ρ => atS (ρ 0) fun s_0 => atL (ρ 5) fun out_5 out_5n out_5c => atI .i64 (ρ 6) fun at_6 => (X1 s_0 out_5 out_5n out_5c at_6))
def ref05_Tokens.q48 (Z : ZT) (Q : OA → Nat → Nat → Int → Int → PT) (X1 : ByteArray → OA → Nat → Nat → Int → PT) : QF := thenK (ref05_Tokens.j47 Z Q X1) (ref05_Tokens.q19 Z Q)
def ref05_Tokens.q49 (Z : ZT) (Q : OA → Nat → Nat → Int → Int → PT) (X1 : ByteArray → OA → Nat → Nat → Int → PT) : QF := inBl 1 (ref05_Tokens.q48 Z Q X1)
theorem ref05_Tokens.s46_eq (Z : ZT) (Q : OA → Nat → Nat → Int → Int → PT) (X1 : ByteArray → OA → Nat → Nat → Int → PT) (ρ : Fr) (s_0 : ByteArray) (out_5 : OA) (out_5n out_5c : Nat) (k_7 : Int) (end_8 : Int) (t_9 : Addr) : comp Tryd.prog Z ref05_Tokens.c44 (ref05_Tokens.q49 Z Q X1) (puts ρ [(0, (Value.string s_0)), (5, (Value.slice out_5 out_5n out_5c)), (7, (Value.int .i64 k_7)), (8, (Value.int .i64 end_8)), (9, (Value.pointer (some t_9)))]) = ref05_Tokens.s46 Z Q X1 s_0 out_5 out_5n out_5c k_7 end_8 t_9 := by kernel_rfl
def ref05_Tokens.j50 (Z : ZT) (Q : OA → Nat → Nat → Int → Int → PT) (X1 : ByteArray → OA → Nat → Nat → Int → PT) : Fr → PT := (fun ρ => atS (ρ 0) fun s_0 => atL (ρ 5) fun out_5 out_5n out_5c => atI .i64 (ρ 7) fun k_7 => atI .i64 (ρ 8) fun end_8 => atA (ρ 9) fun t_9 => (ref05_Tokens.s46 Z Q X1 s_0 out_5 out_5n out_5c k_7 end_8 t_9))
theorem ref05_Tokens.s46_ok (Z : ZT) (Q : OA → Nat → Nat → Int → Int → PT) (X1 : ByteArray → OA → Nat → Nat → Int → PT) : Ok Tryd.prog Tryd.f45.ntmps Z ref05_Tokens.c44 (ref05_Tokens.q49 Z Q X1) (ref05_Tokens.j50 Z Q X1) := by
  intro E he ρ w a hr h
  obtain ⟨s_0, e0, h⟩ := atS_e h
  obtain ⟨out_5, out_5n, out_5c, e5, h⟩ := atL_e h
  obtain ⟨k_7, e7, h⟩ := atI_e h
  obtain ⟨end_8, e8, h⟩ := atI_e h
  obtain ⟨t_9, e9, h⟩ := atA_e h
  exact ok_at [(0, (Value.string s_0)), (5, (Value.slice out_5 out_5n out_5c)), (7, (Value.int .i64 k_7)), (8, (Value.int .i64 end_8)), (9, (Value.pointer (some t_9)))] (okC ref05_Tokens.c44 (ref05_Tokens.q49 Z Q X1) (by kernel_rfl)) (puts_cons e0 (puts_cons e5 (puts_cons e7 (puts_cons e8 (puts_cons e9 (fun p hp => puts_nil hp)))))) (ref05_Tokens.s46_eq Z Q X1 ρ s_0 out_5 out_5n out_5c k_7 end_8 t_9) he hr h
def ref05_Tokens.s51 (Z : ZT) (Q : OA → Nat → Nat → Int → Int → PT) (X1 : ByteArray → OA → Nat → Nat → Int → PT) (s_0 : ByteArray) (out_5 : OA) (out_5n out_5c : Nat) (at_6 : Int) (k_7 : Int) (end_8 : Int) (t_9 : Addr) : PT :=
  (pif (k_7 == 2) (slT s_0 at_6 end_8 fun v39 => (cal Tryd.prog Z 70 [(Value.string v39)] (isI .i64 fun v40 => (st1 (t_9.add 3) (Value.int .i64 v40) (ldI .i64 (t_9.add 3) fun v41 => (pif (decide (v41 < 0)) (Q none 0 0 7 at_6) (ref05_Tokens.s46 Z Q X1 s_0 out_5 out_5n out_5c k_7 end_8 t_9))))))) (ref05_Tokens.s46 Z Q X1 s_0 out_5 out_5n out_5c k_7 end_8 t_9))
theorem ref05_Tokens.s51_eq (Z : ZT) (Q : OA → Nat → Nat → Int → Int → PT) (X1 : ByteArray → OA → Nat → Nat → Int → PT) (ρ : Fr) (s_0 : ByteArray) (out_5 : OA) (out_5n out_5c : Nat) (at_6 : Int) (k_7 : Int) (end_8 : Int) (t_9 : Addr) : (comp Tryd.prog Z ref05_Tokens.c43 (thenK (ref05_Tokens.j50 Z Q X1) (ref05_Tokens.q49 Z Q X1))) (puts ρ [(0, (Value.string s_0)), (5, (Value.slice out_5 out_5n out_5c)), (6, (Value.int .i64 at_6)), (7, (Value.int .i64 k_7)), (8, (Value.int .i64 end_8)), (9, (Value.pointer (some t_9)))]) = ref05_Tokens.s51 Z Q X1 s_0 out_5 out_5n out_5c at_6 k_7 end_8 t_9 := by kernel_rfl
def ref05_Tokens.j52 (Z : ZT) (Q : OA → Nat → Nat → Int → Int → PT) (X1 : ByteArray → OA → Nat → Nat → Int → PT) : Fr → PT := (fun ρ => atS (ρ 0) fun s_0 => atL (ρ 5) fun out_5 out_5n out_5c => atI .i64 (ρ 6) fun at_6 => atI .i64 (ρ 7) fun k_7 => atI .i64 (ρ 8) fun end_8 => atA (ρ 9) fun t_9 => (ref05_Tokens.s51 Z Q X1 s_0 out_5 out_5n out_5c at_6 k_7 end_8 t_9))
theorem ref05_Tokens.s51_ok (Z : ZT) (Q : OA → Nat → Nat → Int → Int → PT) (X1 : ByteArray → OA → Nat → Nat → Int → PT) : Ok Tryd.prog Tryd.f45.ntmps Z ref05_Tokens.c41 (ref05_Tokens.q49 Z Q X1) (ref05_Tokens.j52 Z Q X1) := by
  intro E he ρ w a hr h
  rw [ref05_Tokens.q45] at he ⊢
  obtain ⟨s_0, e0, h⟩ := atS_e h
  obtain ⟨out_5, out_5n, out_5c, e5, h⟩ := atL_e h
  obtain ⟨at_6, e6, h⟩ := atI_e h
  obtain ⟨k_7, e7, h⟩ := atI_e h
  obtain ⟨end_8, e8, h⟩ := atI_e h
  obtain ⟨t_9, e9, h⟩ := atA_e h
  exact ok_at [(0, (Value.string s_0)), (5, (Value.slice out_5 out_5n out_5c)), (6, (Value.int .i64 at_6)), (7, (Value.int .i64 k_7)), (8, (Value.int .i64 end_8)), (9, (Value.pointer (some t_9)))] (ok_seq (okC ref05_Tokens.c43 _ (by kernel_rfl)) (ref05_Tokens.s46_ok Z Q X1)) (puts_cons e0 (puts_cons e5 (puts_cons e6 (puts_cons e7 (puts_cons e8 (puts_cons e9 (fun p hp => puts_nil hp))))))) (ref05_Tokens.s51_eq Z Q X1 ρ s_0 out_5 out_5n out_5c at_6 k_7 end_8 t_9) he hr h
def ref05_Tokens.s53 (Z : ZT) (Q : OA → Nat → Nat → Int → Int → PT) (X1 : ByteArray → OA → Nat → Nat → Int → PT) (s_0 : ByteArray) (out_5 : OA) (out_5n out_5c : Nat) (at_6 : Int) (k_7 : Int) (end_8 : Int) : PT :=
  (pif (decide (k_7 < 0)) (Q none 0 0 6 at_6) (newC 79 [(Value.int .i64 0), (Value.int .i64 0), (Value.string ⟨#[]⟩), (Value.int .i64 0)] fun t42 => (stN 4 t42 [(Value.int .i64 k_7), (Value.int .i64 at_6), (Value.string ⟨#[]⟩), (Value.int .i64 0)] (pif (k_7 == 1) (slT s_0 at_6 end_8 fun v43 => (st1 (t42.add 2) (Value.string v43) (ref05_Tokens.s51 Z Q X1 s_0 out_5 out_5n out_5c at_6 k_7 end_8 t42))) (ref05_Tokens.s51 Z Q X1 s_0 out_5 out_5n out_5c at_6 k_7 end_8 t42)))))
theorem ref05_Tokens.s53_eq (Z : ZT) (Q : OA → Nat → Nat → Int → Int → PT) (X1 : ByteArray → OA → Nat → Nat → Int → PT) (ρ : Fr) (s_0 : ByteArray) (out_5 : OA) (out_5n out_5c : Nat) (at_6 : Int) (k_7 : Int) (end_8 : Int) : (comp Tryd.prog Z ref05_Tokens.c38 (thenK (comp Tryd.prog Z ref05_Tokens.c39 (thenK (comp Tryd.prog Z ref05_Tokens.c40 (thenK (ref05_Tokens.j52 Z Q X1) (ref05_Tokens.q49 Z Q X1))) (ref05_Tokens.q49 Z Q X1))) (ref05_Tokens.q49 Z Q X1))) (puts ρ [(0, (Value.string s_0)), (5, (Value.slice out_5 out_5n out_5c)), (6, (Value.int .i64 at_6)), (7, (Value.int .i64 k_7)), (8, (Value.int .i64 end_8))]) = ref05_Tokens.s53 Z Q X1 s_0 out_5 out_5n out_5c at_6 k_7 end_8 := by kernel_rfl
def ref05_Tokens.j54 (Z : ZT) (Q : OA → Nat → Nat → Int → Int → PT) (X1 : ByteArray → OA → Nat → Nat → Int → PT) : Fr → PT := (fun ρ => atS (ρ 0) fun s_0 => atL (ρ 5) fun out_5 out_5n out_5c => atI .i64 (ρ 6) fun at_6 => atI .i64 (ρ 7) fun k_7 => atI .i64 (ρ 8) fun end_8 => (ref05_Tokens.s53 Z Q X1 s_0 out_5 out_5n out_5c at_6 k_7 end_8))
theorem ref05_Tokens.s53_ok (Z : ZT) (Q : OA → Nat → Nat → Int → Int → PT) (X1 : ByteArray → OA → Nat → Nat → Int → PT) : Ok Tryd.prog Tryd.f45.ntmps Z ref05_Tokens.c36 (ref05_Tokens.q49 Z Q X1) (ref05_Tokens.j54 Z Q X1) := by
  intro E he ρ w a hr h
  rw [ref05_Tokens.q42] at he ⊢
  obtain ⟨s_0, e0, h⟩ := atS_e h
  obtain ⟨out_5, out_5n, out_5c, e5, h⟩ := atL_e h
  obtain ⟨at_6, e6, h⟩ := atI_e h
  obtain ⟨k_7, e7, h⟩ := atI_e h
  obtain ⟨end_8, e8, h⟩ := atI_e h
  exact ok_at [(0, (Value.string s_0)), (5, (Value.slice out_5 out_5n out_5c)), (6, (Value.int .i64 at_6)), (7, (Value.int .i64 k_7)), (8, (Value.int .i64 end_8))] (ok_seq (okC ref05_Tokens.c38 _ (by kernel_rfl)) (ok_seq (okC ref05_Tokens.c39 _ (by kernel_rfl)) (ok_seq (okC ref05_Tokens.c40 _ (by kernel_rfl)) (ref05_Tokens.s51_ok Z Q X1)))) (puts_cons e0 (puts_cons e5 (puts_cons e6 (puts_cons e7 (puts_cons e8 (fun p hp => puts_nil hp)))))) (ref05_Tokens.s53_eq Z Q X1 ρ s_0 out_5 out_5n out_5c at_6 k_7 end_8) he hr h
def ref05_Tokens.s55 (Z : ZT) (Q : OA → Nat → Nat → Int → Int → PT) (X1 : ByteArray → OA → Nat → Nat → Int → PT) (s_0 : ByteArray) (out_5 : OA) (out_5n out_5c : Nat) (at_6 : Int) (k_7 : Int) (end_8 : Int) : PT :=
  (pif (k_7 == 5) (pif (decide (end_8 < ((s_0.size : Nat) : Int))) (ixT s_0 end_8 fun v44 => (pif (((v44.toNat : Nat) : Int) == 62) (ref05_Tokens.s53 Z Q X1 s_0 out_5 out_5n out_5c at_6 6 (IntKind.wrap .i64 (end_8 + 1))) (ref05_Tokens.s53 Z Q X1 s_0 out_5 out_5n out_5c at_6 k_7 end_8))) (ref05_Tokens.s53 Z Q X1 s_0 out_5 out_5n out_5c at_6 k_7 end_8)) (ref05_Tokens.s53 Z Q X1 s_0 out_5 out_5n out_5c at_6 k_7 end_8))
theorem ref05_Tokens.s55_eq (Z : ZT) (Q : OA → Nat → Nat → Int → Int → PT) (X1 : ByteArray → OA → Nat → Nat → Int → PT) (ρ : Fr) (s_0 : ByteArray) (out_5 : OA) (out_5n out_5c : Nat) (at_6 : Int) (k_7 : Int) (end_8 : Int) : (comp Tryd.prog Z ref05_Tokens.c35 (thenK (ref05_Tokens.j54 Z Q X1) (ref05_Tokens.q49 Z Q X1))) (puts ρ [(0, (Value.string s_0)), (5, (Value.slice out_5 out_5n out_5c)), (6, (Value.int .i64 at_6)), (7, (Value.int .i64 k_7)), (8, (Value.int .i64 end_8))]) = ref05_Tokens.s55 Z Q X1 s_0 out_5 out_5n out_5c at_6 k_7 end_8 := by kernel_rfl
def ref05_Tokens.j56 (Z : ZT) (Q : OA → Nat → Nat → Int → Int → PT) (X1 : ByteArray → OA → Nat → Nat → Int → PT) : Fr → PT := (fun ρ => atS (ρ 0) fun s_0 => atL (ρ 5) fun out_5 out_5n out_5c => atI .i64 (ρ 6) fun at_6 => atI .i64 (ρ 7) fun k_7 => atI .i64 (ρ 8) fun end_8 => (ref05_Tokens.s55 Z Q X1 s_0 out_5 out_5n out_5c at_6 k_7 end_8))
theorem ref05_Tokens.s55_ok (Z : ZT) (Q : OA → Nat → Nat → Int → Int → PT) (X1 : ByteArray → OA → Nat → Nat → Int → PT) : Ok Tryd.prog Tryd.f45.ntmps Z ref05_Tokens.c33 (ref05_Tokens.q49 Z Q X1) (ref05_Tokens.j56 Z Q X1) := by
  intro E he ρ w a hr h
  rw [ref05_Tokens.q37] at he ⊢
  obtain ⟨s_0, e0, h⟩ := atS_e h
  obtain ⟨out_5, out_5n, out_5c, e5, h⟩ := atL_e h
  obtain ⟨at_6, e6, h⟩ := atI_e h
  obtain ⟨k_7, e7, h⟩ := atI_e h
  obtain ⟨end_8, e8, h⟩ := atI_e h
  exact ok_at [(0, (Value.string s_0)), (5, (Value.slice out_5 out_5n out_5c)), (6, (Value.int .i64 at_6)), (7, (Value.int .i64 k_7)), (8, (Value.int .i64 end_8))] (ok_seq (okC ref05_Tokens.c35 _ (by kernel_rfl)) (ref05_Tokens.s53_ok Z Q X1)) (puts_cons e0 (puts_cons e5 (puts_cons e6 (puts_cons e7 (puts_cons e8 (fun p hp => puts_nil hp)))))) (ref05_Tokens.s55_eq Z Q X1 ρ s_0 out_5 out_5n out_5c at_6 k_7 end_8) he hr h
noncomputable def ref05_Tokens.c57 : Code := blk ref05_Tokens.c32
theorem ref05_Tokens.q58 : ref05_Tokens.c32 = .block 4 ref05_Tokens.c57 := by kernel_rfl
noncomputable def ref05_Tokens.c59 : Code := lop ref05_Tokens.c57
theorem ref05_Tokens.q60 : ref05_Tokens.c57 = .loop ref05_Tokens.c59 := by kernel_rfl
def ref05_Tokens.q62 (Z : ZT) (Q : OA → Nat → Nat → Int → Int → PT) (X1 : ByteArray → OA → Nat → Nat → Int → PT) : QF := thenK (ref05_Tokens.j56 Z Q X1) (ref05_Tokens.q49 Z Q X1)
def ref05_Tokens.q63 (Z : ZT) (Q : OA → Nat → Nat → Int → Int → PT) (X1 : ByteArray → OA → Nat → Nat → Int → PT) : QF := inBl 4 (ref05_Tokens.q62 Z Q X1)
def ref05_Tokens.s64 (Z : ZT) (Q : OA → Nat → Nat → Int → Int → PT) (X1 : ByteArray → OA → Nat → Nat → Int → PT) (X2 : ByteArray → OA → Nat → Nat → Int → Int → Int → PT) (s_0 : ByteArray) (out_5 : OA) (out_5n out_5c : Nat) (at_6 : Int) (k_7 : Int) (end_8 : Int) : PT :=
  (pif (k_7 == 9) (pif (decide (end_8 < ((s_0.size : Nat) : Int))) (ixT s_0 end_8 fun v47 => (pif (((v47.toNat : Nat) : Int) != 10) (X2 s_0 out_5 out_5n out_5c at_6 k_7 (IntKind.wrap .i64 (end_8 + 1))) (ref05_Tokens.s55 Z Q X1 s_0 out_5 out_5n out_5c at_6 k_7 end_8))) (ref05_Tokens.s55 Z Q X1 s_0 out_5 out_5n out_5c at_6 k_7 end_8)) (ref05_Tokens.s55 Z Q X1 s_0 out_5 out_5n out_5c at_6 k_7 end_8))
def ref05_Tokens.j65 (Z : ZT) (Q : OA → Nat → Nat → Int → Int → PT) (X1 : ByteArray → OA → Nat → Nat → Int → PT) (X2 : ByteArray → OA → Nat → Nat → Int → Int → Int → PT) : Fr → PT := (fun ρ => atS (ρ 0) fun s_0 => atL (ρ 5) fun out_5 out_5n out_5c => atI .i64 (ρ 6) fun at_6 => atI .i64 (ρ 7) fun k_7 => atI .i64 (ρ 8) fun end_8 => (X2 s_0 out_5 out_5n out_5c at_6 k_7 end_8))
def ref05_Tokens.q66 (Z : ZT) (Q : OA → Nat → Nat → Int → Int → PT) (X1 : ByteArray → OA → Nat → Nat → Int → PT) (X2 : ByteArray → OA → Nat → Nat → Int → Int → Int → PT) : QF := thenK (ref05_Tokens.j65 Z Q X1 X2) (ref05_Tokens.q63 Z Q X1)
theorem ref05_Tokens.s64_eq (Z : ZT) (Q : OA → Nat → Nat → Int → Int → PT) (X1 : ByteArray → OA → Nat → Nat → Int → PT) (X2 : ByteArray → OA → Nat → Nat → Int → Int → Int → PT) (ρ : Fr) (s_0 : ByteArray) (out_5 : OA) (out_5n out_5c : Nat) (at_6 : Int) (k_7 : Int) (end_8 : Int) : comp Tryd.prog Z ref05_Tokens.c59 (ref05_Tokens.q66 Z Q X1 X2) (puts ρ [(0, (Value.string s_0)), (5, (Value.slice out_5 out_5n out_5c)), (6, (Value.int .i64 at_6)), (7, (Value.int .i64 k_7)), (8, (Value.int .i64 end_8))]) = ref05_Tokens.s64 Z Q X1 X2 s_0 out_5 out_5n out_5c at_6 k_7 end_8 := by kernel_rfl
def ref05_Tokens.j67 (Z : ZT) (Q : OA → Nat → Nat → Int → Int → PT) (X1 : ByteArray → OA → Nat → Nat → Int → PT) (X2 : ByteArray → OA → Nat → Nat → Int → Int → Int → PT) : Fr → PT := (fun ρ => atS (ρ 0) fun s_0 => atL (ρ 5) fun out_5 out_5n out_5c => atI .i64 (ρ 6) fun at_6 => atI .i64 (ρ 7) fun k_7 => atI .i64 (ρ 8) fun end_8 => (ref05_Tokens.s64 Z Q X1 X2 s_0 out_5 out_5n out_5c at_6 k_7 end_8))
theorem ref05_Tokens.s64_ok (Z : ZT) (Q : OA → Nat → Nat → Int → Int → PT) (X1 : ByteArray → OA → Nat → Nat → Int → PT) (X2 : ByteArray → OA → Nat → Nat → Int → Int → Int → PT) : Ok Tryd.prog Tryd.f45.ntmps Z ref05_Tokens.c59 (ref05_Tokens.q66 Z Q X1 X2) (ref05_Tokens.j67 Z Q X1 X2) := by
  intro E he ρ w a hr h
  obtain ⟨s_0, e0, h⟩ := atS_e h
  obtain ⟨out_5, out_5n, out_5c, e5, h⟩ := atL_e h
  obtain ⟨at_6, e6, h⟩ := atI_e h
  obtain ⟨k_7, e7, h⟩ := atI_e h
  obtain ⟨end_8, e8, h⟩ := atI_e h
  exact ok_at [(0, (Value.string s_0)), (5, (Value.slice out_5 out_5n out_5c)), (6, (Value.int .i64 at_6)), (7, (Value.int .i64 k_7)), (8, (Value.int .i64 end_8))] (okC ref05_Tokens.c59 (ref05_Tokens.q66 Z Q X1 X2) (by kernel_rfl)) (puts_cons e0 (puts_cons e5 (puts_cons e6 (puts_cons e7 (puts_cons e8 (fun p hp => puts_nil hp)))))) (ref05_Tokens.s64_eq Z Q X1 X2 ρ s_0 out_5 out_5n out_5c at_6 k_7 end_8) he hr h
def ref05_Tokens.l61 (Z : ZT) (Q : OA → Nat → Nat → Int → Int → PT) (X1 : ByteArray → OA → Nat → Nat → Int → PT) : Nat → ByteArray → OA → Nat → Nat → Int → Int → Int → PT
  | 0, _, _, _, _, _, _, _ => bad
  | k + 1, s_0, out_5, out_5n, out_5c, at_6, k_7, end_8 => (ref05_Tokens.s64 Z Q X1 (ref05_Tokens.l61 Z Q X1 k) s_0 out_5 out_5n out_5c at_6 k_7 end_8)
def ref05_Tokens.j68 (Z : ZT) (Q : OA → Nat → Nat → Int → Int → PT) (X1 : ByteArray → OA → Nat → Nat → Int → PT) (k : Nat) : Fr → PT := (fun ρ => atS (ρ 0) fun s_0 => atL (ρ 5) fun out_5 out_5n out_5c => atI .i64 (ρ 6) fun at_6 => atI .i64 (ρ 7) fun k_7 => atI .i64 (ρ 8) fun end_8 => (ref05_Tokens.l61 Z Q X1 k s_0 out_5 out_5n out_5c at_6 k_7 end_8))
def ref05_Tokens.j69 (Z : ZT) (Q : OA → Nat → Nat → Int → Int → PT) (X1 : ByteArray → OA → Nat → Nat → Int → PT) : Fr → PT := (fun ρ => atS (ρ 0) fun s_0 => atL (ρ 5) fun out_5 out_5n out_5c => atI .i64 (ρ 6) fun at_6 => atI .i64 (ρ 7) fun k_7 => atI .i64 (ρ 8) fun end_8 => (exK fun k => ref05_Tokens.l61 Z Q X1 k s_0 out_5 out_5n out_5c at_6 k_7 end_8))
theorem ref05_Tokens.o70 (Z : ZT) (Q : OA → Nat → Nat → Int → Int → PT) (X1 : ByteArray → OA → Nat → Nat → Int → PT) : Ok Tryd.prog Tryd.f45.ntmps Z ref05_Tokens.c57 (ref05_Tokens.q63 Z Q X1) (ref05_Tokens.j69 Z Q X1) := by
  rw [ref05_Tokens.q60]
  refine Ok.imp (ok_loop (J := ref05_Tokens.j68 Z Q X1) ?_ ?_) ?_
  · intro ρ w h
    obtain ⟨s_0, e0, h⟩ := atS_e h
    obtain ⟨out_5, out_5n, out_5c, e5, h⟩ := atL_e h
    obtain ⟨at_6, e6, h⟩ := atI_e h
    obtain ⟨k_7, e7, h⟩ := atI_e h
    obtain ⟨end_8, e8, h⟩ := atI_e h
    exact h
  · intro k
    refine Ok.imp (ref05_Tokens.s64_ok Z Q X1 (ref05_Tokens.l61 Z Q X1 k)) fun ρ w h => ?_
    obtain ⟨s_0, e0, h⟩ := atS_e h
    obtain ⟨out_5, out_5n, out_5c, e5, h⟩ := atL_e h
    obtain ⟨at_6, e6, h⟩ := atI_e h
    obtain ⟨k_7, e7, h⟩ := atI_e h
    obtain ⟨end_8, e8, h⟩ := atI_e h
    show (ref05_Tokens.j67 Z Q X1 (ref05_Tokens.l61 Z Q X1 k)) ρ w
    simp only [ref05_Tokens.j67]
    rw [e0]
    rw [e5]
    rw [e6]
    rw [e7]
    rw [e8]
    exact h
  · intro ρ w h
    obtain ⟨s_0, e0, h⟩ := atS_e h
    obtain ⟨out_5, out_5n, out_5c, e5, h⟩ := atL_e h
    obtain ⟨at_6, e6, h⟩ := atI_e h
    obtain ⟨k_7, e7, h⟩ := atI_e h
    obtain ⟨end_8, e8, h⟩ := atI_e h
    obtain ⟨k, h⟩ := h
    refine ⟨k, ?_⟩
    show (atS (ρ 0) fun s_0 => atL (ρ 5) fun out_5 out_5n out_5c => atI .i64 (ρ 6) fun at_6 => atI .i64 (ρ 7) fun k_7 => atI .i64 (ρ 8) fun end_8 => (ref05_Tokens.l61 Z Q X1 k s_0 out_5 out_5n out_5c at_6 k_7 end_8)) w
    rw [e0]
    rw [e5]
    rw [e6]
    rw [e7]
    rw [e8]
    exact h
theorem ref05_Tokens.o71 (Z : ZT) (Q : OA → Nat → Nat → Int → Int → PT) (X1 : ByteArray → OA → Nat → Nat → Int → PT) : Ok Tryd.prog Tryd.f45.ntmps Z ref05_Tokens.c32 (ref05_Tokens.q62 Z Q X1) (ref05_Tokens.j69 Z Q X1) := by
  rw [ref05_Tokens.q58]; exact ok_block (ref05_Tokens.o70 Z Q X1)
theorem ref05_Tokens.o72 (Z : ZT) (Q : OA → Nat → Nat → Int → Int → PT) (X1 : ByteArray → OA → Nat → Nat → Int → PT) : Ok Tryd.prog Tryd.f45.ntmps Z ref05_Tokens.c30 (ref05_Tokens.q49 Z Q X1) (ref05_Tokens.j69 Z Q X1) := by
  rw [ref05_Tokens.q34]; exact ok_seq (ref05_Tokens.o71 Z Q X1) (ref05_Tokens.s55_ok Z Q X1)
noncomputable def ref05_Tokens.c73 : Code := blk ref05_Tokens.c29
theorem ref05_Tokens.q74 : ref05_Tokens.c29 = .block 2 ref05_Tokens.c73 := by kernel_rfl
noncomputable def ref05_Tokens.c75 : Code := lop ref05_Tokens.c73
theorem ref05_Tokens.q76 : ref05_Tokens.c73 = .loop ref05_Tokens.c75 := by kernel_rfl
def ref05_Tokens.q78 (Z : ZT) (Q : OA → Nat → Nat → Int → Int → PT) (X1 : ByteArray → OA → Nat → Nat → Int → PT) : QF := thenK (ref05_Tokens.j69 Z Q X1) (ref05_Tokens.q49 Z Q X1)
def ref05_Tokens.q79 (Z : ZT) (Q : OA → Nat → Nat → Int → Int → PT) (X1 : ByteArray → OA → Nat → Nat → Int → PT) : QF := inBl 2 (ref05_Tokens.q78 Z Q X1)
def ref05_Tokens.s80 (Z : ZT) (Q : OA → Nat → Nat → Int → Int → PT) (X1 : ByteArray → OA → Nat → Nat → Int → PT) (X2 : ByteArray → OA → Nat → Nat → Int → Int → Int → PT) (s_0 : ByteArray) (out_5 : OA) (out_5n out_5c : Nat) (at_6 : Int) (k_7 : Int) (end_8 : Int) : PT :=
  (pif (k_7 == 1) (pif (decide (end_8 < ((s_0.size : Nat) : Int))) (ixT s_0 end_8 fun v56 => (cal Tryd.prog Z 69 [(Value.int .u8 ((v56.toNat : Nat) : Int))] (isI .i64 fun v57 => (pif (v57 == k_7) (X2 s_0 out_5 out_5n out_5c at_6 k_7 (IntKind.wrap .i64 (end_8 + 1))) (exK fun k => ref05_Tokens.l61 Z Q X1 k s_0 out_5 out_5n out_5c at_6 k_7 end_8))))) (exK fun k => ref05_Tokens.l61 Z Q X1 k s_0 out_5 out_5n out_5c at_6 k_7 end_8)) (pif (k_7 == 2) (pif (decide (end_8 < ((s_0.size : Nat) : Int))) (ixT s_0 end_8 fun v58 => (cal Tryd.prog Z 69 [(Value.int .u8 ((v58.toNat : Nat) : Int))] (isI .i64 fun v59 => (pif (v59 == k_7) (X2 s_0 out_5 out_5n out_5c at_6 k_7 (IntKind.wrap .i64 (end_8 + 1))) (exK fun k => ref05_Tokens.l61 Z Q X1 k s_0 out_5 out_5n out_5c at_6 k_7 end_8))))) (exK fun k => ref05_Tokens.l61 Z Q X1 k s_0 out_5 out_5n out_5c at_6 k_7 end_8)) (exK fun k => ref05_Tokens.l61 Z Q X1 k s_0 out_5 out_5n out_5c at_6 k_7 end_8)))
def ref05_Tokens.j81 (Z : ZT) (Q : OA → Nat → Nat → Int → Int → PT) (X1 : ByteArray → OA → Nat → Nat → Int → PT) (X2 : ByteArray → OA → Nat → Nat → Int → Int → Int → PT) : Fr → PT := (fun ρ => atS (ρ 0) fun s_0 => atL (ρ 5) fun out_5 out_5n out_5c => atI .i64 (ρ 6) fun at_6 => atI .i64 (ρ 7) fun k_7 => atI .i64 (ρ 8) fun end_8 => (X2 s_0 out_5 out_5n out_5c at_6 k_7 end_8))
def ref05_Tokens.q82 (Z : ZT) (Q : OA → Nat → Nat → Int → Int → PT) (X1 : ByteArray → OA → Nat → Nat → Int → PT) (X2 : ByteArray → OA → Nat → Nat → Int → Int → Int → PT) : QF := thenK (ref05_Tokens.j81 Z Q X1 X2) (ref05_Tokens.q79 Z Q X1)
theorem ref05_Tokens.s80_eq (Z : ZT) (Q : OA → Nat → Nat → Int → Int → PT) (X1 : ByteArray → OA → Nat → Nat → Int → PT) (X2 : ByteArray → OA → Nat → Nat → Int → Int → Int → PT) (ρ : Fr) (s_0 : ByteArray) (out_5 : OA) (out_5n out_5c : Nat) (at_6 : Int) (k_7 : Int) (end_8 : Int) : comp Tryd.prog Z ref05_Tokens.c75 (ref05_Tokens.q82 Z Q X1 X2) (puts ρ [(0, (Value.string s_0)), (5, (Value.slice out_5 out_5n out_5c)), (6, (Value.int .i64 at_6)), (7, (Value.int .i64 k_7)), (8, (Value.int .i64 end_8))]) = ref05_Tokens.s80 Z Q X1 X2 s_0 out_5 out_5n out_5c at_6 k_7 end_8 := by kernel_rfl
def ref05_Tokens.j83 (Z : ZT) (Q : OA → Nat → Nat → Int → Int → PT) (X1 : ByteArray → OA → Nat → Nat → Int → PT) (X2 : ByteArray → OA → Nat → Nat → Int → Int → Int → PT) : Fr → PT := (fun ρ => atS (ρ 0) fun s_0 => atL (ρ 5) fun out_5 out_5n out_5c => atI .i64 (ρ 6) fun at_6 => atI .i64 (ρ 7) fun k_7 => atI .i64 (ρ 8) fun end_8 => (ref05_Tokens.s80 Z Q X1 X2 s_0 out_5 out_5n out_5c at_6 k_7 end_8))
theorem ref05_Tokens.s80_ok (Z : ZT) (Q : OA → Nat → Nat → Int → Int → PT) (X1 : ByteArray → OA → Nat → Nat → Int → PT) (X2 : ByteArray → OA → Nat → Nat → Int → Int → Int → PT) : Ok Tryd.prog Tryd.f45.ntmps Z ref05_Tokens.c75 (ref05_Tokens.q82 Z Q X1 X2) (ref05_Tokens.j83 Z Q X1 X2) := by
  intro E he ρ w a hr h
  obtain ⟨s_0, e0, h⟩ := atS_e h
  obtain ⟨out_5, out_5n, out_5c, e5, h⟩ := atL_e h
  obtain ⟨at_6, e6, h⟩ := atI_e h
  obtain ⟨k_7, e7, h⟩ := atI_e h
  obtain ⟨end_8, e8, h⟩ := atI_e h
  exact ok_at [(0, (Value.string s_0)), (5, (Value.slice out_5 out_5n out_5c)), (6, (Value.int .i64 at_6)), (7, (Value.int .i64 k_7)), (8, (Value.int .i64 end_8))] (okC ref05_Tokens.c75 (ref05_Tokens.q82 Z Q X1 X2) (by kernel_rfl)) (puts_cons e0 (puts_cons e5 (puts_cons e6 (puts_cons e7 (puts_cons e8 (fun p hp => puts_nil hp)))))) (ref05_Tokens.s80_eq Z Q X1 X2 ρ s_0 out_5 out_5n out_5c at_6 k_7 end_8) he hr h
def ref05_Tokens.l77 (Z : ZT) (Q : OA → Nat → Nat → Int → Int → PT) (X1 : ByteArray → OA → Nat → Nat → Int → PT) : Nat → ByteArray → OA → Nat → Nat → Int → Int → Int → PT
  | 0, _, _, _, _, _, _, _ => bad
  | k + 1, s_0, out_5, out_5n, out_5c, at_6, k_7, end_8 => (ref05_Tokens.s80 Z Q X1 (ref05_Tokens.l77 Z Q X1 k) s_0 out_5 out_5n out_5c at_6 k_7 end_8)
def ref05_Tokens.j84 (Z : ZT) (Q : OA → Nat → Nat → Int → Int → PT) (X1 : ByteArray → OA → Nat → Nat → Int → PT) (k : Nat) : Fr → PT := (fun ρ => atS (ρ 0) fun s_0 => atL (ρ 5) fun out_5 out_5n out_5c => atI .i64 (ρ 6) fun at_6 => atI .i64 (ρ 7) fun k_7 => atI .i64 (ρ 8) fun end_8 => (ref05_Tokens.l77 Z Q X1 k s_0 out_5 out_5n out_5c at_6 k_7 end_8))
def ref05_Tokens.j85 (Z : ZT) (Q : OA → Nat → Nat → Int → Int → PT) (X1 : ByteArray → OA → Nat → Nat → Int → PT) : Fr → PT := (fun ρ => atS (ρ 0) fun s_0 => atL (ρ 5) fun out_5 out_5n out_5c => atI .i64 (ρ 6) fun at_6 => atI .i64 (ρ 7) fun k_7 => atI .i64 (ρ 8) fun end_8 => (exK fun k => ref05_Tokens.l77 Z Q X1 k s_0 out_5 out_5n out_5c at_6 k_7 end_8))
theorem ref05_Tokens.o86 (Z : ZT) (Q : OA → Nat → Nat → Int → Int → PT) (X1 : ByteArray → OA → Nat → Nat → Int → PT) : Ok Tryd.prog Tryd.f45.ntmps Z ref05_Tokens.c73 (ref05_Tokens.q79 Z Q X1) (ref05_Tokens.j85 Z Q X1) := by
  rw [ref05_Tokens.q76]
  refine Ok.imp (ok_loop (J := ref05_Tokens.j84 Z Q X1) ?_ ?_) ?_
  · intro ρ w h
    obtain ⟨s_0, e0, h⟩ := atS_e h
    obtain ⟨out_5, out_5n, out_5c, e5, h⟩ := atL_e h
    obtain ⟨at_6, e6, h⟩ := atI_e h
    obtain ⟨k_7, e7, h⟩ := atI_e h
    obtain ⟨end_8, e8, h⟩ := atI_e h
    exact h
  · intro k
    refine Ok.imp (ref05_Tokens.s80_ok Z Q X1 (ref05_Tokens.l77 Z Q X1 k)) fun ρ w h => ?_
    obtain ⟨s_0, e0, h⟩ := atS_e h
    obtain ⟨out_5, out_5n, out_5c, e5, h⟩ := atL_e h
    obtain ⟨at_6, e6, h⟩ := atI_e h
    obtain ⟨k_7, e7, h⟩ := atI_e h
    obtain ⟨end_8, e8, h⟩ := atI_e h
    show (ref05_Tokens.j83 Z Q X1 (ref05_Tokens.l77 Z Q X1 k)) ρ w
    simp only [ref05_Tokens.j83]
    rw [e0]
    rw [e5]
    rw [e6]
    rw [e7]
    rw [e8]
    exact h
  · intro ρ w h
    obtain ⟨s_0, e0, h⟩ := atS_e h
    obtain ⟨out_5, out_5n, out_5c, e5, h⟩ := atL_e h
    obtain ⟨at_6, e6, h⟩ := atI_e h
    obtain ⟨k_7, e7, h⟩ := atI_e h
    obtain ⟨end_8, e8, h⟩ := atI_e h
    obtain ⟨k, h⟩ := h
    refine ⟨k, ?_⟩
    show (atS (ρ 0) fun s_0 => atL (ρ 5) fun out_5 out_5n out_5c => atI .i64 (ρ 6) fun at_6 => atI .i64 (ρ 7) fun k_7 => atI .i64 (ρ 8) fun end_8 => (ref05_Tokens.l77 Z Q X1 k s_0 out_5 out_5n out_5c at_6 k_7 end_8)) w
    rw [e0]
    rw [e5]
    rw [e6]
    rw [e7]
    rw [e8]
    exact h
theorem ref05_Tokens.o87 (Z : ZT) (Q : OA → Nat → Nat → Int → Int → PT) (X1 : ByteArray → OA → Nat → Nat → Int → PT) : Ok Tryd.prog Tryd.f45.ntmps Z ref05_Tokens.c29 (ref05_Tokens.q78 Z Q X1) (ref05_Tokens.j85 Z Q X1) := by
  rw [ref05_Tokens.q74]; exact ok_block (ref05_Tokens.o86 Z Q X1)
theorem ref05_Tokens.o88 (Z : ZT) (Q : OA → Nat → Nat → Int → Int → PT) (X1 : ByteArray → OA → Nat → Nat → Int → PT) : Ok Tryd.prog Tryd.f45.ntmps Z ref05_Tokens.c27 (ref05_Tokens.q49 Z Q X1) (ref05_Tokens.j85 Z Q X1) := by
  rw [ref05_Tokens.q31]; exact ok_seq (ref05_Tokens.o87 Z Q X1) (ref05_Tokens.o72 Z Q X1)
def ref05_Tokens.s89 (Z : ZT) (Q : OA → Nat → Nat → Int → Int → PT) (X1 : ByteArray → OA → Nat → Nat → Int → PT) (s_0 : ByteArray) (out_5 : OA) (out_5n out_5c : Nat) (at_6 : Int) : PT :=
  (ixT s_0 at_6 fun v60 => (cal Tryd.prog Z 69 [(Value.int .u8 ((v60.toNat : Nat) : Int))] (isI .i64 fun v61 => (exK fun k => ref05_Tokens.l77 Z Q X1 k s_0 out_5 out_5n out_5c at_6 v61 (IntKind.wrap .i64 (at_6 + 1))))))
theorem ref05_Tokens.s89_eq (Z : ZT) (Q : OA → Nat → Nat → Int → Int → PT) (X1 : ByteArray → OA → Nat → Nat → Int → PT) (ρ : Fr) (s_0 : ByteArray) (out_5 : OA) (out_5n out_5c : Nat) (at_6 : Int) : (comp Tryd.prog Z ref05_Tokens.c25 (thenK (comp Tryd.prog Z ref05_Tokens.c26 (thenK (ref05_Tokens.j85 Z Q X1) (ref05_Tokens.q49 Z Q X1))) (ref05_Tokens.q49 Z Q X1))) (puts ρ [(0, (Value.string s_0)), (5, (Value.slice out_5 out_5n out_5c)), (6, (Value.int .i64 at_6))]) = ref05_Tokens.s89 Z Q X1 s_0 out_5 out_5n out_5c at_6 := by kernel_rfl
def ref05_Tokens.j90 (Z : ZT) (Q : OA → Nat → Nat → Int → Int → PT) (X1 : ByteArray → OA → Nat → Nat → Int → PT) : Fr → PT := (fun ρ => atS (ρ 0) fun s_0 => atL (ρ 5) fun out_5 out_5n out_5c => atI .i64 (ρ 6) fun at_6 => (ref05_Tokens.s89 Z Q X1 s_0 out_5 out_5n out_5c at_6))
theorem ref05_Tokens.s89_ok (Z : ZT) (Q : OA → Nat → Nat → Int → Int → PT) (X1 : ByteArray → OA → Nat → Nat → Int → PT) : Ok Tryd.prog Tryd.f45.ntmps Z ref05_Tokens.c23 (ref05_Tokens.q49 Z Q X1) (ref05_Tokens.j90 Z Q X1) := by
  intro E he ρ w a hr h
  rw [ref05_Tokens.q28] at he ⊢
  obtain ⟨s_0, e0, h⟩ := atS_e h
  obtain ⟨out_5, out_5n, out_5c, e5, h⟩ := atL_e h
  obtain ⟨at_6, e6, h⟩ := atI_e h
  exact ok_at [(0, (Value.string s_0)), (5, (Value.slice out_5 out_5n out_5c)), (6, (Value.int .i64 at_6))] (ok_seq (okC ref05_Tokens.c25 _ (by kernel_rfl)) (ok_seq (okC ref05_Tokens.c26 _ (by kernel_rfl)) (ref05_Tokens.o88 Z Q X1))) (puts_cons e0 (puts_cons e5 (puts_cons e6 (fun p hp => puts_nil hp)))) (ref05_Tokens.s89_eq Z Q X1 ρ s_0 out_5 out_5n out_5c at_6) he hr h
theorem ref05_Tokens.o91 (Z : ZT) (Q : OA → Nat → Nat → Int → Int → PT) (X1 : ByteArray → OA → Nat → Nat → Int → PT) : Ok Tryd.prog Tryd.f45.ntmps Z ref05_Tokens.c21 (ref05_Tokens.q48 Z Q X1) (ref05_Tokens.j90 Z Q X1) := by
  rw [ref05_Tokens.q24]; exact ok_block (ref05_Tokens.s89_ok Z Q X1)
def ref05_Tokens.s92 (Z : ZT) (Q : OA → Nat → Nat → Int → Int → PT) (X1 : ByteArray → OA → Nat → Nat → Int → PT) (s_0 : ByteArray) (out_5 : OA) (out_5n out_5c : Nat) (at_6 : Int) : PT :=
  (pif (decide (at_6 < ((s_0.size : Nat) : Int))) (ref05_Tokens.s89 Z Q X1 s_0 out_5 out_5n out_5c at_6) (ref05_Tokens.s10 Z Q out_5 out_5n out_5c))
theorem ref05_Tokens.s92_eq (Z : ZT) (Q : OA → Nat → Nat → Int → Int → PT) (X1 : ByteArray → OA → Nat → Nat → Int → PT) (ρ : Fr) (s_0 : ByteArray) (out_5 : OA) (out_5n out_5c : Nat) (at_6 : Int) : (comp Tryd.prog Z ref05_Tokens.c20 (thenK (ref05_Tokens.j90 Z Q X1) (ref05_Tokens.q48 Z Q X1))) (puts ρ [(0, (Value.string s_0)), (5, (Value.slice out_5 out_5n out_5c)), (6, (Value.int .i64 at_6))]) = ref05_Tokens.s92 Z Q X1 s_0 out_5 out_5n out_5c at_6 := by kernel_rfl
def ref05_Tokens.j93 (Z : ZT) (Q : OA → Nat → Nat → Int → Int → PT) (X1 : ByteArray → OA → Nat → Nat → Int → PT) : Fr → PT := (fun ρ => atS (ρ 0) fun s_0 => atL (ρ 5) fun out_5 out_5n out_5c => atI .i64 (ρ 6) fun at_6 => (ref05_Tokens.s92 Z Q X1 s_0 out_5 out_5n out_5c at_6))
theorem ref05_Tokens.s92_ok (Z : ZT) (Q : OA → Nat → Nat → Int → Int → PT) (X1 : ByteArray → OA → Nat → Nat → Int → PT) : Ok Tryd.prog Tryd.f45.ntmps Z ref05_Tokens.c15 (ref05_Tokens.q48 Z Q X1) (ref05_Tokens.j93 Z Q X1) := by
  intro E he ρ w a hr h
  rw [ref05_Tokens.q22] at he ⊢
  obtain ⟨s_0, e0, h⟩ := atS_e h
  obtain ⟨out_5, out_5n, out_5c, e5, h⟩ := atL_e h
  obtain ⟨at_6, e6, h⟩ := atI_e h
  exact ok_at [(0, (Value.string s_0)), (5, (Value.slice out_5 out_5n out_5c)), (6, (Value.int .i64 at_6))] (ok_seq (okC ref05_Tokens.c20 _ (by kernel_rfl)) (ref05_Tokens.o91 Z Q X1)) (puts_cons e0 (puts_cons e5 (puts_cons e6 (fun p hp => puts_nil hp)))) (ref05_Tokens.s92_eq Z Q X1 ρ s_0 out_5 out_5n out_5c at_6) he hr h
def ref05_Tokens.l17 (Z : ZT) (Q : OA → Nat → Nat → Int → Int → PT) : Nat → ByteArray → OA → Nat → Nat → Int → PT
  | 0, _, _, _, _, _ => bad
  | k + 1, s_0, out_5, out_5n, out_5c, at_6 => (ref05_Tokens.s92 Z Q (ref05_Tokens.l17 Z Q k) s_0 out_5 out_5n out_5c at_6)
def ref05_Tokens.j94 (Z : ZT) (Q : OA → Nat → Nat → Int → Int → PT) (k : Nat) : Fr → PT := (fun ρ => atS (ρ 0) fun s_0 => atL (ρ 5) fun out_5 out_5n out_5c => atI .i64 (ρ 6) fun at_6 => (ref05_Tokens.l17 Z Q k s_0 out_5 out_5n out_5c at_6))
def ref05_Tokens.j95 (Z : ZT) (Q : OA → Nat → Nat → Int → Int → PT) : Fr → PT := (fun ρ => atS (ρ 0) fun s_0 => atL (ρ 5) fun out_5 out_5n out_5c => atI .i64 (ρ 6) fun at_6 => (exK fun k => ref05_Tokens.l17 Z Q k s_0 out_5 out_5n out_5c at_6))
theorem ref05_Tokens.o96 (Z : ZT) (Q : OA → Nat → Nat → Int → Int → PT) : Ok Tryd.prog Tryd.f45.ntmps Z ref05_Tokens.c13 (ref05_Tokens.q19 Z Q) (ref05_Tokens.j95 Z Q) := by
  rw [ref05_Tokens.q16]
  refine Ok.imp (ok_loop (J := ref05_Tokens.j94 Z Q) ?_ ?_) ?_
  · intro ρ w h
    obtain ⟨s_0, e0, h⟩ := atS_e h
    obtain ⟨out_5, out_5n, out_5c, e5, h⟩ := atL_e h
    obtain ⟨at_6, e6, h⟩ := atI_e h
    exact h
  · intro k
    refine Ok.imp (ref05_Tokens.s92_ok Z Q (ref05_Tokens.l17 Z Q k)) fun ρ w h => ?_
    obtain ⟨s_0, e0, h⟩ := atS_e h
    obtain ⟨out_5, out_5n, out_5c, e5, h⟩ := atL_e h
    obtain ⟨at_6, e6, h⟩ := atI_e h
    show (ref05_Tokens.j93 Z Q (ref05_Tokens.l17 Z Q k)) ρ w
    simp only [ref05_Tokens.j93]
    rw [e0]
    rw [e5]
    rw [e6]
    exact h
  · intro ρ w h
    obtain ⟨s_0, e0, h⟩ := atS_e h
    obtain ⟨out_5, out_5n, out_5c, e5, h⟩ := atL_e h
    obtain ⟨at_6, e6, h⟩ := atI_e h
    obtain ⟨k, h⟩ := h
    refine ⟨k, ?_⟩
    show (atS (ρ 0) fun s_0 => atL (ρ 5) fun out_5 out_5n out_5c => atI .i64 (ρ 6) fun at_6 => (ref05_Tokens.l17 Z Q k s_0 out_5 out_5n out_5c at_6)) w
    rw [e0]
    rw [e5]
    rw [e6]
    exact h
theorem ref05_Tokens.o97 (Z : ZT) (Q : OA → Nat → Nat → Int → Int → PT) : Ok Tryd.prog Tryd.f45.ntmps Z ref05_Tokens.c7 (ref05_Tokens.q18 Z Q) (ref05_Tokens.j95 Z Q) := by
  rw [ref05_Tokens.q14]; exact ok_block (ref05_Tokens.o96 Z Q)
theorem ref05_Tokens.o98 (Z : ZT) (Q : OA → Nat → Nat → Int → Int → PT) : Ok Tryd.prog Tryd.f45.ntmps Z ref05_Tokens.c5 (ref05_Tokens.q11 Z Q) (ref05_Tokens.j95 Z Q) := by
  rw [ref05_Tokens.q9]; exact ok_seq (ref05_Tokens.o97 Z Q) (ref05_Tokens.s10_ok Z Q)
def ref05_Tokens.s99 (Z : ZT) (Q : OA → Nat → Nat → Int → Int → PT) (s_0 : ByteArray) : PT :=
  (pif (decide (((s_0.size : Nat) : Int) > 4096)) (Q none 0 0 5 4096) (newC 79 [] fun v62 => (exK fun k => ref05_Tokens.l17 Z Q k s_0 (some v62) 0 0 0)))
theorem ref05_Tokens.s99_eq (Z : ZT) (Q : OA → Nat → Nat → Int → Int → PT) (ρ : Fr) (s_0 : ByteArray) : (comp Tryd.prog Z ref05_Tokens.c1 (thenK (comp Tryd.prog Z ref05_Tokens.c2 (thenK (comp Tryd.prog Z ref05_Tokens.c3 (thenK (comp Tryd.prog Z ref05_Tokens.c4 (thenK (ref05_Tokens.j95 Z Q) (ref05_Tokens.q11 Z Q))) (ref05_Tokens.q11 Z Q))) (ref05_Tokens.q11 Z Q))) (ref05_Tokens.q11 Z Q))) (puts ρ [(0, (Value.string s_0))]) = ref05_Tokens.s99 Z Q s_0 := by kernel_rfl
def ref05_Tokens.j100 (Z : ZT) (Q : OA → Nat → Nat → Int → Int → PT) : Fr → PT := (fun ρ => atS (ρ 0) fun s_0 => (ref05_Tokens.s99 Z Q s_0))
theorem ref05_Tokens.s99_ok (Z : ZT) (Q : OA → Nat → Nat → Int → Int → PT) : Ok Tryd.prog Tryd.f45.ntmps Z ref05_Tokens.body (ref05_Tokens.q11 Z Q) (ref05_Tokens.j100 Z Q) := by
  intro E he ρ w a hr h
  rw [ref05_Tokens.q6] at he ⊢
  obtain ⟨s_0, e0, h⟩ := atS_e h
  exact ok_at [(0, (Value.string s_0))] (ok_seq (okC ref05_Tokens.c1 _ (by kernel_rfl)) (ok_seq (okC ref05_Tokens.c2 _ (by kernel_rfl)) (ok_seq (okC ref05_Tokens.c3 _ (by kernel_rfl)) (ok_seq (okC ref05_Tokens.c4 _ (by kernel_rfl)) (ref05_Tokens.o98 Z Q))))) (puts_cons e0 (fun p hp => puts_nil hp)) (ref05_Tokens.s99_eq Z Q ρ s_0) he hr h
def ref05_Tokens.F (Z : ZT) (Q : OA → Nat → Nat → Int → Int → PT) (s_0 : ByteArray) : PT :=
  (ref05_Tokens.s99 Z Q s_0)
theorem ref05_Tokens.vc (Z : ZT) (Q : OA → Nat → Nat → Int → Int → PT) (s_0 : ByteArray) (w : World) (h : ref05_Tokens.F Z Q s_0 w) : Calls Tryd.prog 45 ⟨[(Value.string s_0)]⟩ w fun e w' => (∃ (r0 : OA) (r0n r0c : Nat) (r1 : Int) (r2 : Int), e = .returned (.tuple #[.slice r0 r0n r0c, .int .i64 r1, .int .i64 r2]) ∧ Q r0 r0n r0c r1 r2 w') ∨ ∃ c, e = .panicked c ∧ Z c w' := by
  refine (calls_of_ok (args := [(Value.string s_0)]) (w := w) (rs := [.tmp 2, .tmp 3, .tmp 4]) (fn := Tryd.f45) (c := ref05_Tokens.body) Tryd.func45 (by kernel_rfl) (by kernel_rfl) (Nat.le_of_ble_eq_true (by kernel_rfl)) (ref05_Tokens.s99_ok Z Q) (h)).mono fun e w' hR => ?_
  cases e with
  | returned v =>
    obtain ⟨x, y, z, rfl, hR⟩ := at3_e hR
    obtain ⟨xa, xn, xc, rfl, hR⟩ := atL_e hR
    obtain ⟨ya, rfl, hR⟩ := atI_e hR
    obtain ⟨za, rfl, hR⟩ := atI_e hR
    exact .inl ⟨xa, xn, xc, ya, za, rfl, hR⟩
  | panicked c => exact .inr ⟨c, rfl, hR⟩
  | outgrown => exact hR.elim
theorem ref05_Tokens.vc0 (Q : OA → Nat → Nat → Int → Int → PT) (s_0 : ByteArray) (w : World) (h : ref05_Tokens.F Z0 Q s_0 w) : Calls Tryd.prog 45 ⟨[(Value.string s_0)]⟩ w fun e w' => (∃ (r0 : OA) (r0n r0c : Nat) (r1 : Int) (r2 : Int), e = .returned (.tuple #[.slice r0 r0n r0c, .int .i64 r1, .int .i64 r2]) ∧ Q r0 r0n r0c r1 r2 w') :=
  (ref05_Tokens.vc Z0 Q s_0 w h).mono fun _ _ hR => hR.elim id fun ⟨_, _, hz⟩ => hz.elim
theorem ref05_Tokens.cal {Z : ZT} {Q : OA → Nat → Nat → Int → Int → PT} {s_0 : ByteArray} {w : World} (h : ref05_Tokens.F Z Q s_0 w) : Go.Proofs.YtllgjjldnnmjkaaDoor.cal Tryd.prog Z 45 [(Value.string s_0)] (isT3 fun x y z => (isL fun r0 r0n r0c => (isI .i64 fun r1 => (isI .i64 fun r2 => Q r0 r0n r0c r1 r2) z) y) x) w := by
  refine (ref05_Tokens.vc Z Q s_0 w h).mono fun e w' hR => ?_
  rcases hR with ⟨r0, r0n, r0c, r1, r2, rfl, h⟩ | ⟨c, rfl, h⟩
  · show (isT3 fun x y z => (isL fun r0 r0n r0c => (isI .i64 fun r1 => (isI .i64 fun r2 => Q r0 r0n r0c r1 r2) z) y) x) (.tuple #[.slice r0 r0n r0c, .int .i64 r1, .int .i64 r2]) w'
    exact ⟨_, _, _, rfl, ⟨_, _, _, rfl, ⟨_, rfl, ⟨_, rfl, h⟩⟩⟩⟩
  · exact h

/-! ### milepost/milepostref05.Kind: function 69 -/
noncomputable def ref05_Kind.body : Code := bodyC Tryd.f69
noncomputable def ref05_Kind.c1 : Code := sq1 ref05_Kind.body
noncomputable def ref05_Kind.c2 : Code := sq1 (sq2 ref05_Kind.body)
noncomputable def ref05_Kind.c3 : Code := sq1 (sq2 (sq2 ref05_Kind.body))
noncomputable def ref05_Kind.c4 : Code := sq2 (sq2 (sq2 ref05_Kind.body))
theorem ref05_Kind.q5 : ref05_Kind.body = .seq ref05_Kind.c1 (.seq ref05_Kind.c2 (.seq ref05_Kind.c3 ref05_Kind.c4)) := by kernel_rfl
noncomputable def ref05_Kind.c6 : Code := sq1 ref05_Kind.c4
noncomputable def ref05_Kind.c7 : Code := sq2 ref05_Kind.c4
theorem ref05_Kind.q8 : ref05_Kind.c4 = .seq ref05_Kind.c6 ref05_Kind.c7 := by kernel_rfl
def ref05_Kind.s9 (Z : ZT) (Q : Int → PT) (c_0 : Int) : PT :=
  (pif (c_0 == 46) (Q 3) (pif (c_0 == 47) (Q 4) (pif (c_0 == 45) (Q 5) (pif (c_0 == 10) (Q 7) (pif (c_0 == 35) (Q 9) (Q (-1)))))))
def ref05_Kind.q10 (Z : ZT) (Q : Int → PT) : QF := bodyQ Tryd.prog [.tmp 2] (fun v => atI .i64 v fun va => Q va)
theorem ref05_Kind.s9_eq (Z : ZT) (Q : Int → PT) (ρ : Fr) (c_0 : Int) : comp Tryd.prog Z ref05_Kind.c7 (ref05_Kind.q10 Z Q) (puts ρ [(0, (Value.int .u8 c_0))]) = ref05_Kind.s9 Z Q c_0 := by kernel_rfl
def ref05_Kind.j11 (Z : ZT) (Q : Int → PT) : Fr → PT := (fun ρ => atI .u8 (ρ 0) fun c_0 => (ref05_Kind.s9 Z Q c_0))
theorem ref05_Kind.s9_ok (Z : ZT) (Q : Int → PT) : Ok Tryd.prog Tryd.f69.ntmps Z ref05_Kind.c7 (ref05_Kind.q10 Z Q) (ref05_Kind.j11 Z Q) := by
  intro E he ρ w a hr h
  obtain ⟨c_0, e0, h⟩ := atI_e h
  exact ok_at [(0, (Value.int .u8 c_0))] (okC ref05_Kind.c7 (ref05_Kind.q10 Z Q) (by kernel_rfl)) (puts_cons e0 (fun p hp => puts_nil hp)) (ref05_Kind.s9_eq Z Q ρ c_0) he hr h
def ref05_Kind.s12 (Z : ZT) (Q : Int → PT) (c_0 : Int) : PT :=
  (pif (decide (c_0 ≥ 48)) (pif (decide (c_0 ≤ 57)) (Q 2) (ref05_Kind.s9 Z Q c_0)) (ref05_Kind.s9 Z Q c_0))
theorem ref05_Kind.s12_eq (Z : ZT) (Q : Int → PT) (ρ : Fr) (c_0 : Int) : (comp Tryd.prog Z ref05_Kind.c6 (thenK (ref05_Kind.j11 Z Q) (ref05_Kind.q10 Z Q))) (puts ρ [(0, (Value.int .u8 c_0))]) = ref05_Kind.s12 Z Q c_0 := by kernel_rfl
def ref05_Kind.j13 (Z : ZT) (Q : Int → PT) : Fr → PT := (fun ρ => atI .u8 (ρ 0) fun c_0 => (ref05_Kind.s12 Z Q c_0))
theorem ref05_Kind.s12_ok (Z : ZT) (Q : Int → PT) : Ok Tryd.prog Tryd.f69.ntmps Z ref05_Kind.c4 (ref05_Kind.q10 Z Q) (ref05_Kind.j13 Z Q) := by
  intro E he ρ w a hr h
  rw [ref05_Kind.q8] at he ⊢
  obtain ⟨c_0, e0, h⟩ := atI_e h
  exact ok_at [(0, (Value.int .u8 c_0))] (ok_seq (okC ref05_Kind.c6 _ (by kernel_rfl)) (ref05_Kind.s9_ok Z Q)) (puts_cons e0 (fun p hp => puts_nil hp)) (ref05_Kind.s12_eq Z Q ρ c_0) he hr h
def ref05_Kind.s14 (Z : ZT) (Q : Int → PT) (c_0 : Int) : PT :=
  (pif (c_0 == 9) (Q 0) (pif (c_0 == 13) (Q 0) (pif (c_0 == 32) (Q 0) (pif (decide (c_0 ≥ 97)) (pif (decide (c_0 ≤ 122)) (Q 1) (ref05_Kind.s12 Z Q c_0)) (ref05_Kind.s12 Z Q c_0)))))
theorem ref05_Kind.s14_eq (Z : ZT) (Q : Int → PT) (ρ : Fr) (c_0 : Int) : (comp Tryd.prog Z ref05_Kind.c1 (thenK (comp Tryd.prog Z ref05_Kind.c2 (thenK (comp Tryd.prog Z ref05_Kind.c3 (thenK (ref05_Kind.j13 Z Q) (ref05_Kind.q10 Z Q))) (ref05_Kind.q10 Z Q))) (ref05_Kind.q10 Z Q))) (puts ρ [(0, (Value.int .u8 c_0))]) = ref05_Kind.s14 Z Q c_0 := by kernel_rfl
def ref05_Kind.j15 (Z : ZT) (Q : Int → PT) : Fr → PT := (fun ρ => atI .u8 (ρ 0) fun c_0 => (ref05_Kind.s14 Z Q c_0))
theorem ref05_Kind.s14_ok (Z : ZT) (Q : Int → PT) : Ok Tryd.prog Tryd.f69.ntmps Z ref05_Kind.body (ref05_Kind.q10 Z Q) (ref05_Kind.j15 Z Q) := by
  intro E he ρ w a hr h
  rw [ref05_Kind.q5] at he ⊢
  obtain ⟨c_0, e0, h⟩ := atI_e h
  exact ok_at [(0, (Value.int .u8 c_0))] (ok_seq (okC ref05_Kind.c1 _ (by kernel_rfl)) (ok_seq (okC ref05_Kind.c2 _ (by kernel_rfl)) (ok_seq (okC ref05_Kind.c3 _ (by kernel_rfl)) (ref05_Kind.s12_ok Z Q)))) (puts_cons e0 (fun p hp => puts_nil hp)) (ref05_Kind.s14_eq Z Q ρ c_0) he hr h
def ref05_Kind.F (Z : ZT) (Q : Int → PT) (c_0 : Int) : PT :=
  (ref05_Kind.s14 Z Q c_0)
theorem ref05_Kind.vc (Z : ZT) (Q : Int → PT) (c_0 : Int) (w : World) (h : ref05_Kind.F Z Q c_0 w) : Calls Tryd.prog 69 ⟨[(Value.int .u8 c_0)]⟩ w fun e w' => (∃ (r0 : Int), e = .returned (.int .i64 r0) ∧ Q r0 w') ∨ ∃ c, e = .panicked c ∧ Z c w' := by
  refine (calls_of_ok (args := [(Value.int .u8 c_0)]) (w := w) (rs := [.tmp 2]) (fn := Tryd.f69) (c := ref05_Kind.body) Tryd.func69 (by kernel_rfl) (by kernel_rfl) (Nat.le_of_ble_eq_true (by kernel_rfl)) (ref05_Kind.s14_ok Z Q) (h)).mono fun e w' hR => ?_
  cases e with
  | returned v =>
    obtain ⟨va, rfl, hR⟩ := atI_e hR
    exact .inl ⟨va, rfl, hR⟩
  | panicked c => exact .inr ⟨c, rfl, hR⟩
  | outgrown => exact hR.elim
theorem ref05_Kind.vc0 (Q : Int → PT) (c_0 : Int) (w : World) (h : ref05_Kind.F Z0 Q c_0 w) : Calls Tryd.prog 69 ⟨[(Value.int .u8 c_0)]⟩ w fun e w' => (∃ (r0 : Int), e = .returned (.int .i64 r0) ∧ Q r0 w') :=
  (ref05_Kind.vc Z0 Q c_0 w h).mono fun _ _ hR => hR.elim id fun ⟨_, _, hz⟩ => hz.elim
theorem ref05_Kind.cal {Z : ZT} {Q : Int → PT} {c_0 : Int} {w : World} (h : ref05_Kind.F Z Q c_0 w) : Go.Proofs.YtllgjjldnnmjkaaDoor.cal Tryd.prog Z 69 [(Value.int .u8 c_0)] (isI .i64 fun r0 => Q r0) w := by
  refine (ref05_Kind.vc Z Q c_0 w h).mono fun e w' hR => ?_
  rcases hR with ⟨r0, rfl, h⟩ | ⟨c, rfl, h⟩
  · show (isI .i64 fun r0 => Q r0) (.int .i64 r0) w'
    exact ⟨_, rfl, h⟩
  · exact h

/-! ### milepost/milepostref05.value: function 70 -/
noncomputable def ref05_value.body : Code := bodyC Tryd.f70
noncomputable def ref05_value.c1 : Code := sq1 ref05_value.body
noncomputable def ref05_value.c2 : Code := sq1 (sq2 ref05_value.body)
noncomputable def ref05_value.c3 : Code := sq2 (sq2 ref05_value.body)
theorem ref05_value.q4 : ref05_value.body = .seq ref05_value.c1 (.seq ref05_value.c2 ref05_value.c3) := by kernel_rfl
noncomputable def ref05_value.c5 : Code := sq1 ref05_value.c3
noncomputable def ref05_value.c6 : Code := sq2 ref05_value.c3
theorem ref05_value.q7 : ref05_value.c3 = .seq ref05_value.c5 ref05_value.c6 := by kernel_rfl
def ref05_value.s8 (Z : ZT) (Q : Int → PT) (s_0 : ByteArray) (n_3 : Int) : PT :=
  (pif (decide (((s_0.size : Nat) : Int) > 1)) (ixT s_0 0 fun v3 => (pif (((v3.toNat : Nat) : Int) == 48) (Q (-1)) (Q n_3))) (Q n_3))
def ref05_value.q9 (Z : ZT) (Q : Int → PT) : QF := bodyQ Tryd.prog [.tmp 2] (fun v => atI .i64 v fun va => Q va)
theorem ref05_value.s8_eq (Z : ZT) (Q : Int → PT) (ρ : Fr) (s_0 : ByteArray) (n_3 : Int) : comp Tryd.prog Z ref05_value.c6 (ref05_value.q9 Z Q) (puts ρ [(0, (Value.string s_0)), (3, (Value.int .i64 n_3))]) = ref05_value.s8 Z Q s_0 n_3 := by kernel_rfl
def ref05_value.j10 (Z : ZT) (Q : Int → PT) : Fr → PT := (fun ρ => atS (ρ 0) fun s_0 => atI .i64 (ρ 3) fun n_3 => (ref05_value.s8 Z Q s_0 n_3))
theorem ref05_value.s8_ok (Z : ZT) (Q : Int → PT) : Ok Tryd.prog Tryd.f70.ntmps Z ref05_value.c6 (ref05_value.q9 Z Q) (ref05_value.j10 Z Q) := by
  intro E he ρ w a hr h
  obtain ⟨s_0, e0, h⟩ := atS_e h
  obtain ⟨n_3, e3, h⟩ := atI_e h
  exact ok_at [(0, (Value.string s_0)), (3, (Value.int .i64 n_3))] (okC ref05_value.c6 (ref05_value.q9 Z Q) (by kernel_rfl)) (puts_cons e0 (puts_cons e3 (fun p hp => puts_nil hp))) (ref05_value.s8_eq Z Q ρ s_0 n_3) he hr h
noncomputable def ref05_value.c11 : Code := sq1 ref05_value.c5
noncomputable def ref05_value.c12 : Code := sq2 ref05_value.c5
theorem ref05_value.q13 : ref05_value.c5 = .seq ref05_value.c11 ref05_value.c12 := by kernel_rfl
noncomputable def ref05_value.c14 : Code := blk ref05_value.c12
theorem ref05_value.q15 : ref05_value.c12 = .block 0 ref05_value.c14 := by kernel_rfl
noncomputable def ref05_value.c16 : Code := lop ref05_value.c14
theorem ref05_value.q17 : ref05_value.c14 = .loop ref05_value.c16 := by kernel_rfl
def ref05_value.q19 (Z : ZT) (Q : Int → PT) : QF := thenK (ref05_value.j10 Z Q) (ref05_value.q9 Z Q)
def ref05_value.q20 (Z : ZT) (Q : Int → PT) : QF := inBl 0 (ref05_value.q19 Z Q)
def ref05_value.s21 (Z : ZT) (Q : Int → PT) (X1 : ByteArray → Int → Int → PT) (s_0 : ByteArray) (n_3 : Int) (i_4 : Int) : PT :=
  (pif (decide (i_4 < ((s_0.size : Nat) : Int))) (ixT s_0 i_4 fun v7 => (pif (decide ((IntKind.wrap .i64 ((IntKind.wrap .i64 ((IntKind.wrap .i64 (n_3 * 10)) + (IntKind.wrap .i64 ((v7.toNat : Nat) : Int)))) - 48)) > 4294967295)) (Q (-1)) (X1 s_0 (IntKind.wrap .i64 ((IntKind.wrap .i64 ((IntKind.wrap .i64 (n_3 * 10)) + (IntKind.wrap .i64 ((v7.toNat : Nat) : Int)))) - 48)) (IntKind.wrap .i64 (i_4 + 1))))) (ref05_value.s8 Z Q s_0 n_3))
def ref05_value.j22 (Z : ZT) (Q : Int → PT) (X1 : ByteArray → Int → Int → PT) : Fr → PT := (fun ρ => atS (ρ 0) fun s_0 => atI .i64 (ρ 3) fun n_3 => atI .i64 (ρ 4) fun i_4 => (X1 s_0 n_3 i_4))
def ref05_value.q23 (Z : ZT) (Q : Int → PT) (X1 : ByteArray → Int → Int → PT) : QF := thenK (ref05_value.j22 Z Q X1) (ref05_value.q20 Z Q)
theorem ref05_value.s21_eq (Z : ZT) (Q : Int → PT) (X1 : ByteArray → Int → Int → PT) (ρ : Fr) (s_0 : ByteArray) (n_3 : Int) (i_4 : Int) : comp Tryd.prog Z ref05_value.c16 (ref05_value.q23 Z Q X1) (puts ρ [(0, (Value.string s_0)), (3, (Value.int .i64 n_3)), (4, (Value.int .i64 i_4))]) = ref05_value.s21 Z Q X1 s_0 n_3 i_4 := by kernel_rfl
def ref05_value.j24 (Z : ZT) (Q : Int → PT) (X1 : ByteArray → Int → Int → PT) : Fr → PT := (fun ρ => atS (ρ 0) fun s_0 => atI .i64 (ρ 3) fun n_3 => atI .i64 (ρ 4) fun i_4 => (ref05_value.s21 Z Q X1 s_0 n_3 i_4))
theorem ref05_value.s21_ok (Z : ZT) (Q : Int → PT) (X1 : ByteArray → Int → Int → PT) : Ok Tryd.prog Tryd.f70.ntmps Z ref05_value.c16 (ref05_value.q23 Z Q X1) (ref05_value.j24 Z Q X1) := by
  intro E he ρ w a hr h
  obtain ⟨s_0, e0, h⟩ := atS_e h
  obtain ⟨n_3, e3, h⟩ := atI_e h
  obtain ⟨i_4, e4, h⟩ := atI_e h
  exact ok_at [(0, (Value.string s_0)), (3, (Value.int .i64 n_3)), (4, (Value.int .i64 i_4))] (okC ref05_value.c16 (ref05_value.q23 Z Q X1) (by kernel_rfl)) (puts_cons e0 (puts_cons e3 (puts_cons e4 (fun p hp => puts_nil hp)))) (ref05_value.s21_eq Z Q X1 ρ s_0 n_3 i_4) he hr h
def ref05_value.l18 (Z : ZT) (Q : Int → PT) : Nat → ByteArray → Int → Int → PT
  | 0, _, _, _ => bad
  | k + 1, s_0, n_3, i_4 => (ref05_value.s21 Z Q (ref05_value.l18 Z Q k) s_0 n_3 i_4)
def ref05_value.j25 (Z : ZT) (Q : Int → PT) (k : Nat) : Fr → PT := (fun ρ => atS (ρ 0) fun s_0 => atI .i64 (ρ 3) fun n_3 => atI .i64 (ρ 4) fun i_4 => (ref05_value.l18 Z Q k s_0 n_3 i_4))
def ref05_value.j26 (Z : ZT) (Q : Int → PT) : Fr → PT := (fun ρ => atS (ρ 0) fun s_0 => atI .i64 (ρ 3) fun n_3 => atI .i64 (ρ 4) fun i_4 => (exK fun k => ref05_value.l18 Z Q k s_0 n_3 i_4))
theorem ref05_value.o27 (Z : ZT) (Q : Int → PT) : Ok Tryd.prog Tryd.f70.ntmps Z ref05_value.c14 (ref05_value.q20 Z Q) (ref05_value.j26 Z Q) := by
  rw [ref05_value.q17]
  refine Ok.imp (ok_loop (J := ref05_value.j25 Z Q) ?_ ?_) ?_
  · intro ρ w h
    obtain ⟨s_0, e0, h⟩ := atS_e h
    obtain ⟨n_3, e3, h⟩ := atI_e h
    obtain ⟨i_4, e4, h⟩ := atI_e h
    exact h
  · intro k
    refine Ok.imp (ref05_value.s21_ok Z Q (ref05_value.l18 Z Q k)) fun ρ w h => ?_
    obtain ⟨s_0, e0, h⟩ := atS_e h
    obtain ⟨n_3, e3, h⟩ := atI_e h
    obtain ⟨i_4, e4, h⟩ := atI_e h
    show (ref05_value.j24 Z Q (ref05_value.l18 Z Q k)) ρ w
    simp only [ref05_value.j24]
    rw [e0]
    rw [e3]
    rw [e4]
    exact h
  · intro ρ w h
    obtain ⟨s_0, e0, h⟩ := atS_e h
    obtain ⟨n_3, e3, h⟩ := atI_e h
    obtain ⟨i_4, e4, h⟩ := atI_e h
    obtain ⟨k, h⟩ := h
    refine ⟨k, ?_⟩
    show (atS (ρ 0) fun s_0 => atI .i64 (ρ 3) fun n_3 => atI .i64 (ρ 4) fun i_4 => (ref05_value.l18 Z Q k s_0 n_3 i_4)) w
    rw [e0]
    rw [e3]
    rw [e4]
    exact h
theorem ref05_value.o28 (Z : ZT) (Q : Int → PT) : Ok Tryd.prog Tryd.f70.ntmps Z ref05_value.c12 (ref05_value.q19 Z Q) (ref05_value.j26 Z Q) := by
  rw [ref05_value.q15]; exact ok_block (ref05_value.o27 Z Q)
def ref05_value.s29 (Z : ZT) (Q : Int → PT) (s_0 : ByteArray) (n_3 : Int) : PT :=
  (exK fun k => ref05_value.l18 Z Q k s_0 n_3 0)
theorem ref05_value.s29_eq (Z : ZT) (Q : Int → PT) (ρ : Fr) (s_0 : ByteArray) (n_3 : Int) : (comp Tryd.prog Z ref05_value.c11 (thenK (ref05_value.j26 Z Q) (ref05_value.q19 Z Q))) (puts ρ [(0, (Value.string s_0)), (3, (Value.int .i64 n_3))]) = ref05_value.s29 Z Q s_0 n_3 := by kernel_rfl
def ref05_value.j30 (Z : ZT) (Q : Int → PT) : Fr → PT := (fun ρ => atS (ρ 0) fun s_0 => atI .i64 (ρ 3) fun n_3 => (ref05_value.s29 Z Q s_0 n_3))
theorem ref05_value.s29_ok (Z : ZT) (Q : Int → PT) : Ok Tryd.prog Tryd.f70.ntmps Z ref05_value.c5 (ref05_value.q19 Z Q) (ref05_value.j30 Z Q) := by
  intro E he ρ w a hr h
  rw [ref05_value.q13] at he ⊢
  obtain ⟨s_0, e0, h⟩ := atS_e h
  obtain ⟨n_3, e3, h⟩ := atI_e h
  exact ok_at [(0, (Value.string s_0)), (3, (Value.int .i64 n_3))] (ok_seq (okC ref05_value.c11 _ (by kernel_rfl)) (ref05_value.o28 Z Q)) (puts_cons e0 (puts_cons e3 (fun p hp => puts_nil hp))) (ref05_value.s29_eq Z Q ρ s_0 n_3) he hr h
theorem ref05_value.o31 (Z : ZT) (Q : Int → PT) : Ok Tryd.prog Tryd.f70.ntmps Z ref05_value.c3 (ref05_value.q9 Z Q) (ref05_value.j30 Z Q) := by
  rw [ref05_value.q7]; exact ok_seq (ref05_value.s29_ok Z Q) (ref05_value.s8_ok Z Q)
def ref05_value.s32 (Z : ZT) (Q : Int → PT) (s_0 : ByteArray) : PT :=
  (ref05_value.s29 Z Q s_0 0)
theorem ref05_value.s32_eq (Z : ZT) (Q : Int → PT) (ρ : Fr) (s_0 : ByteArray) : (comp Tryd.prog Z ref05_value.c1 (thenK (comp Tryd.prog Z ref05_value.c2 (thenK (ref05_value.j30 Z Q) (ref05_value.q9 Z Q))) (ref05_value.q9 Z Q))) (puts ρ [(0, (Value.string s_0))]) = ref05_value.s32 Z Q s_0 := by kernel_rfl
def ref05_value.j33 (Z : ZT) (Q : Int → PT) : Fr → PT := (fun ρ => atS (ρ 0) fun s_0 => (ref05_value.s32 Z Q s_0))
theorem ref05_value.s32_ok (Z : ZT) (Q : Int → PT) : Ok Tryd.prog Tryd.f70.ntmps Z ref05_value.body (ref05_value.q9 Z Q) (ref05_value.j33 Z Q) := by
  intro E he ρ w a hr h
  rw [ref05_value.q4] at he ⊢
  obtain ⟨s_0, e0, h⟩ := atS_e h
  exact ok_at [(0, (Value.string s_0))] (ok_seq (okC ref05_value.c1 _ (by kernel_rfl)) (ok_seq (okC ref05_value.c2 _ (by kernel_rfl)) (ref05_value.o31 Z Q))) (puts_cons e0 (fun p hp => puts_nil hp)) (ref05_value.s32_eq Z Q ρ s_0) he hr h
def ref05_value.F (Z : ZT) (Q : Int → PT) (s_0 : ByteArray) : PT :=
  (ref05_value.s32 Z Q s_0)
theorem ref05_value.vc (Z : ZT) (Q : Int → PT) (s_0 : ByteArray) (w : World) (h : ref05_value.F Z Q s_0 w) : Calls Tryd.prog 70 ⟨[(Value.string s_0)]⟩ w fun e w' => (∃ (r0 : Int), e = .returned (.int .i64 r0) ∧ Q r0 w') ∨ ∃ c, e = .panicked c ∧ Z c w' := by
  refine (calls_of_ok (args := [(Value.string s_0)]) (w := w) (rs := [.tmp 2]) (fn := Tryd.f70) (c := ref05_value.body) Tryd.func70 (by kernel_rfl) (by kernel_rfl) (Nat.le_of_ble_eq_true (by kernel_rfl)) (ref05_value.s32_ok Z Q) (h)).mono fun e w' hR => ?_
  cases e with
  | returned v =>
    obtain ⟨va, rfl, hR⟩ := atI_e hR
    exact .inl ⟨va, rfl, hR⟩
  | panicked c => exact .inr ⟨c, rfl, hR⟩
  | outgrown => exact hR.elim
theorem ref05_value.vc0 (Q : Int → PT) (s_0 : ByteArray) (w : World) (h : ref05_value.F Z0 Q s_0 w) : Calls Tryd.prog 70 ⟨[(Value.string s_0)]⟩ w fun e w' => (∃ (r0 : Int), e = .returned (.int .i64 r0) ∧ Q r0 w') :=
  (ref05_value.vc Z0 Q s_0 w h).mono fun _ _ hR => hR.elim id fun ⟨_, _, hz⟩ => hz.elim
theorem ref05_value.cal {Z : ZT} {Q : Int → PT} {s_0 : ByteArray} {w : World} (h : ref05_value.F Z Q s_0 w) : Go.Proofs.YtllgjjldnnmjkaaDoor.cal Tryd.prog Z 70 [(Value.string s_0)] (isI .i64 fun r0 => Q r0) w := by
  refine (ref05_value.vc Z Q s_0 w h).mono fun e w' hR => ?_
  rcases hR with ⟨r0, rfl, h⟩ | ⟨c, rfl, h⟩
  · show (isI .i64 fun r0 => Q r0) (.int .i64 r0) w'
    exact ⟨_, rfl, h⟩
  · exact h

end Go.Proofs.YtllgjjldnnmjkaaDoor
end
section
set_option maxRecDepth 100000
namespace Go.Proofs.YtllgjjldnnmjkaaDoor
open Go.RowKit

theorem wrap_u8 {n : Int} (h0 : 0 ≤ n) (h1 : n ≤ 255) : IntKind.wrap .u8 n = n := IntWalk.u8_in n ⟨h0, h1⟩
section
variable {Z : List PanicEntry → PT} {s : ByteArray} {w : World}
theorem run_loop {Q : Int → PT} {low high : Int} {i : Nat} (hs : s.size ≤ 1000000) :
    ∀ (m n : Nat), s.size ≤ i + n + m → i + n ≤ s.size → Q ((runEnd (fun c => decide (c ≥ low) && decide (c ≤ high)) s m (i + n) : Nat) - i : Int) w → lex_run.l15 Z Q (m + 1) s i low high n w
  | 0, n, h1, h2, hq => by
    unfold lex_run.l15 lex_run.s18 lex_run.s8
    rw [wrap_in (by omega) (by omega), pif_dec, if_neg (by omega)]
    unfold runEnd at hq
    rw [show (((i + n : Nat) : Int) - i) = n by omega] at hq
    exact hq
  | m + 1, n, h1, h2, hq => by
    unfold lex_run.l15 lex_run.s18 lex_run.s8
    rw [wrap_in (by omega) (by omega), pif_dec]
    unfold runEnd at hq
    have stop : ¬ (i + n < s.size ∧ (decide (by_ s (i + n) ≥ low) && decide (by_ s (i + n) ≤ high)) = true) → Q n w := fun h => by
      rw [if_neg h, show (((i + n : Nat) : Int) - i) = n by omega] at hq
      exact hq
    split
    · rename_i hlt
      rw [show (i : Int) + n = ((i + n : Nat) : Int) by omega]
      refine ixT_by (K := fun v => pif (decide (v ≥ low)) _ _) (by omega) ?_
      rw [pif_dec]
      split
      · rename_i hlo
        refine ixT_by (K := fun v => pif (decide (v ≤ high)) _ _) (by omega) ?_
        rw [pif_dec]
        split
        · rename_i hhi
          rw [if_pos ⟨by omega, by simp [hlo, hhi]⟩] at hq
          rw [wrap_nat1 (by omega)]
          exact run_loop hs m (n + 1) (by omega) (by omega) (by rw [show i + (n + 1) = i + n + 1 by omega]; exact hq)
        · exact stop (by rintro ⟨_, h⟩; simp at h; omega)
      · exact stop (by rintro ⟨_, h⟩; simp at h; omega)
    · exact stop (by omega)
theorem run_F {Q : Int → PT} {low high : Int} {i : Nat} (hs : s.size ≤ 1000000) (hi : i ≤ s.size) (hq : Q ((runEnd (fun c => decide (c ≥ low) && decide (c ≤ high)) s (s.size - i) i : Nat) - i : Int) w) : lex_run.F Z Q s i low high w := by
  unfold lex_run.F lex_run.s27
  exact exK_of (s.size - i + 1) (run_loop hs (s.size - i) 0 (by omega) (by omega) hq)

theorem number_loop {Q : Int → Bool → PT} (hd : ∀ i, i < s.size → 48 ≤ by_ s i ∧ by_ s i ≤ 57) (h10 : s.size ≤ 10) (hq : Q (valU s s.size : Nat) (decide (((valU s s.size : Nat) : Int) < 4294967296)) w) :
    ∀ (m j : Nat), j + m = s.size → lex_number.l21 Z Q (m + 1) s (valU s j : Nat) s.size j w
  | 0, j, h => by
    unfold lex_number.l21 lex_number.s24 lex_number.s11
    rw [pif_dec, if_neg (by omega)]
    obtain rfl : j = s.size := by omega
    exact hq
  | m + 1, j, h => by
    unfold lex_number.l21 lex_number.s24 lex_number.s11
    rw [pif_dec, if_pos (by omega)]
    have hlt := valU_lt hd j (by omega)
    have hp : 10 ^ j ≤ 10 ^ 10 := Nat.pow_le_pow_right (by decide) (by omega)
    have hb := hd j (by omega)
    refine ixT_by (K := fun v => lex_number.l21 Z Q (m + 1) s (IntKind.wrap .i64 ((IntKind.wrap .i64 ((valU s j : Nat) * 10)) + (IntKind.wrap .i64 (IntKind.wrap .u8 (v - 48))))) s.size (IntKind.wrap .i64 ((j : Int) + 1))) (by omega) ?_
    rw [wrap_u8 (by omega) (by omega), wrap_in (n := by_ s j - 48) (by omega) (by omega), wrap_in (n := ((valU s j : Nat) : Int) * 10) (by omega) (by omega), wrap_in (by omega) (by omega), wrap_nat1 (by omega)]
    have : ((valU s j : Nat) : Int) * 10 + (by_ s j - 48) = ((valU s (j + 1) : Nat) : Int) := by simp only [valU]; omega
    rw [this]
    exact number_loop hd h10 hq m (j + 1) (by omega)
theorem number_F {Q : Int → Bool → PT} (hd : ∀ i, i < s.size → 48 ≤ by_ s i ∧ by_ s i ≤ 57) (hq : ∀ v : Int, (0 ≤ numV s → v = numV s) → Q v (decide (0 ≤ numV s)) w) : lex_number.F Z Q s w := by
  unfold lex_number.F lex_number.s37
  rw [pif_dec]
  split
  · rename_i h
    have hn : numV s = -1 := by
      unfold numV
      split
      · rfl
      · rename_i h0
        rw [if_pos (valU_big hd (by omega) (fun e => h0 ⟨by omega, e⟩))]
    have := hq 0 (by rw [hn]; omega)
    rw [hn] at this
    exact this
  · rename_i h
    have go : ¬ (s.size > 1 ∧ by_ s 0 = 48) → lex_number.s35 Z Q s w := fun h0 => by
      unfold lex_number.s35 lex_number.s32
      refine exK_of (s.size + 1) (number_loop hd (by omega) ?_ s.size 0 (by omega))
      unfold numV at hq
      rw [if_neg h0] at hq
      by_cases hv : valU s s.size > 4294967295
      · rw [if_pos hv] at hq
        have := hq (valU s s.size : Nat) (by intro h; omega)
        rwa [show decide (((valU s s.size : Nat) : Int) < 4294967296) = decide (0 ≤ (-1 : Int)) by rw [decide_eq_false (by omega)]; rfl]
      · rw [if_neg hv] at hq
        have := hq (valU s s.size : Nat) (fun _ => rfl)
        rwa [show decide (((valU s s.size : Nat) : Int) < 4294967296) = decide (0 ≤ ((valU s s.size : Nat) : Int)) by rw [decide_eq_true (by omega), decide_eq_true (by omega)]]
    rw [pif_dec]
    split
    · rename_i h1
      refine ixT_by (i := 0) (K := fun v => pif (v == 48) _ _) (by omega) ?_
      rw [pif_beq]
      split
      · rename_i h0
        have hn : numV s = -1 := by unfold numV; rw [if_pos ⟨by omega, h0⟩]
        have := hq 0 (by rw [hn]; omega)
        rw [hn] at this
        exact this
      · exact go (by omega)
    · exact go (by omega)

/-- One token more. -/
theorem app_tok {w : World} {a : Option Addr} {n c b : Nat} {l : List Tk} {t : Tk} {K : Option Addr → Nat → Nat → PT} (hl : Lst w 79 4 Tk.enc a n c l) (ht : IsB w b t.enc) (hn : n ≤ 10000)
    (hk : ∀ a' c' w', Lst w' 79 4 Tk.enc a' (n + 1) c' (l ++ [t]) → Keep (inB a) w w' → (∀ k, inB a' k → inB a k ∨ w.heap.size ≤ k) → K a' (n + 1) c' w') :
    ldN 4 ⟨b, 0, none⟩ (fun v => cnd (List.length v = 4) (newC 79 (v ++ []) fun p => runL Tryd.prog (bi .append #[69, 69] 69 [false, false] [.slice a n c, .slice (some p) 1 1]) K)) w := by
  refine ldN_B ht (vs := t.enc) rfl rfl (cnd_of rfl ?_)
  refine newC_B fun w1 h1 k1 s1 => ?_
  rw [List.append_nil] at h1
  refine app_Lst (bytes := 40) (z := .agg #[.int .i64 0, .int .i64 0, .string noText, .int .i64 0]) Tryd.underlying69 (by kernel_rfl) rfl (by decide) Tk.enc_len t.enc_one (hl.ext k1) (fun j u hu => by rw [add_mk, Nat.zero_add, h1.cell]; exact hu) (by decide) (by omega) fun a' c' w' g1 g2 g3 => hk a' c' w' g1 (k1.ext.trans g2) fun k hk => ?_
  have := k1.size
  rcases g3 k hk with h | h
  · exact .inl h
  · exact .inr (by omega)

theorem mark_loop {Q : Option Addr → Nat → Nat → Int → Int → PT} {X1 : ByteArray → Option Addr → Nat → Nat → Int → PT} {a : Option Addr} {n c : Nat} (hs : s.size ≤ 1000000) :
    ∀ (m i : Nat), s.size ≤ i + m → X1 s a n c ((runEnd markB s m i : Nat) : Int) w → lex_Tokens.l75 Z Q X1 (m + 1) s a n c i w
  | 0, i, h1, hq => by
    unfold lex_Tokens.l75 lex_Tokens.s78 lex_Tokens.s69
    rw [pif_dec, if_neg (by omega)]
    exact hq
  | m + 1, i, h1, hq => by
    unfold lex_Tokens.l75 lex_Tokens.s78 lex_Tokens.s69
    unfold runEnd at hq
    rw [pif_dec]
    split
    · rename_i hlt
      refine ixT_by (K := fun v => pif (v != 10) _ _) (by omega) ?_
      rw [pif_bne]
      split
      · rename_i h0
        rw [if_neg (by simp [markB, h0])] at hq
        exact hq
      · rename_i h0
        rw [if_pos ⟨by omega, by simpa [markB] using h0⟩] at hq
        rw [wrap_nat1 (by omega)]
        exact mark_loop hs m (i + 1) (by omega) hq
    · rw [if_neg (by omega)] at hq
      exact hq

theorem tokens_loop {Q : Option Addr → Nat → Nat → Int → Int → PT} {w0 : World} (hs : s.size ≤ 4096) :
    ∀ (m i : Nat) (l : List Tk) (a : Option Addr) (n c : Nat) (w : World), s.size ≤ i + m → i ≤ s.size → n ≤ i → Lst w 79 4 Tk.enc a n c l → Ext w0 w → (∀ k, inB a k → w0.heap.size ≤ k) →
      (∀ a c w', Lst w' 79 4 Tk.enc a (lexAll s m i l).1.length c (lexAll s m i l).1 → Ext w0 w' → (∀ k, inB a k → w0.heap.size ≤ k) → Q a (lexAll s m i l).1.length c (lexAll s m i l).2.1 (lexAll s m i l).2.2 w') → lex_Tokens.l25 Z Q (m + 1) s a n c i w
  | 0, i, l, a, n, c, w, h1, h2, hn, hl, ke, ha, hq => by
    unfold lex_Tokens.l25 lex_Tokens.s151
    rw [pif_dec, if_neg (by omega)]
    unfold lex_Tokens.s14
    have := hq a c w (by unfold lexAll; rw [← hl.1]; exact hl) ke ha
    unfold lexAll at this
    rw [hl.1]
    exact this
  | m + 1, i, l, a, n, c, w, h1, h2, hn, hl, ke, ha, hq => by
    unfold lex_Tokens.l25 lex_Tokens.s151
    rw [pif_dec]
    by_cases hi : i < s.size
    · rw [if_pos (by omega)]
      unfold lex_Tokens.s148
      refine newC_B fun w1 b1 k1 s1 => ?_
      refine stN_B b1 (by simp) rfl (by simp [Value.oneCell']) fun w2 b2 k2 => ?_
      replace b2 : IsB w2 w.heap.size (Tk.enc ⟨0, i, noText, 0⟩) := by simpa [lay, Tk.enc, noText] using b2
      have ke2 : Ext w0 w2 := (ke.trans k1).own ke.size k2
      have hl2 : Lst w2 79 4 Tk.enc a n c l := (hl.ext k1).keep k2 fun k hk e => by have := hl.lt hk; omega
      have hlt : w.heap.size < w2.heap.size := b2.lt
      have hx : ∀ k, inB a k → k ≠ w.heap.size := fun k hk e => by have := hl.lt hk; omega
      have hge : w0.heap.size ≤ w.heap.size := ke.size
      clear b1 k1 k2 s1 hl w1
      generalize w.heap.size = b at *
      unfold lex_Tokens.s145
      refine ixT_by (K := fun v => lex_Tokens.s142 Z Q (lex_Tokens.l25 Z Q (m + 1)) s a n c i ⟨b, 0, none⟩ 1 v) hi ?_
      have hstep := fun he => lexStep_next hi (s := s) (i := i) he
      unfold lexAll at hq
      rw [if_pos hi] at hq
      -- where no token is put
      have skip : ∀ (j : Nat) (w' : World), lexStep s i = (none, j, 0) → Lst w' 79 4 Tk.enc a n c l → Ext w0 w' → lex_Tokens.l25 Z Q (m + 1) s a n c j w' := fun j w' he h' k' => by
        rw [he] at hq hstep
        obtain ⟨g1, g2⟩ := hstep rfl
        simp only at g1 g2
        exact tokens_loop hs m j l a n c w' (by omega) g2 (by omega) h' k' ha hq
      -- where one is
      have take : ∀ (t : Tk) (d : Int) (j : Nat) (w' : World), lexStep s i = (some t, j, 0) → IsB w' b t.enc → (i : Int) + d = j → Keep (· = b) w2 w' → lex_Tokens.s40 Z Q (lex_Tokens.l25 Z Q (m + 1)) s a n c i ⟨b, 0, none⟩ d w' := fun t d j w' he bt hd k' => by
        rw [he] at hq hstep
        obtain ⟨g1, g2⟩ := hstep rfl
        simp only at g1 g2
        unfold lex_Tokens.s40
        have ke' := ke2.own hge k'
        refine app_tok (hl2.keep k' hx) bt (by omega) fun a3 c3 w3 l3 k3 i3 => ?_
        rw [hd, wrap_nat (by omega)]
        refine tokens_loop hs m j (l ++ [t]) a3 (n + 1) c3 w3 (by omega) g2 (by omega) l3 (ke'.trans_new k3 fun k hk hin => by have := ha k hin; omega) (fun k hk => ?_) hq
        rcases i3 k hk with h | h
        · exact ha k h
        · have := ke'.size; omega
      have fault : ∀ (e : Int) (w' : World), lexStep s i = (none, i, e) → e ≠ 0 → Ext w0 w' → Q none 0 0 e i w' := fun e w' he h0 k' => by
        rw [he, if_pos h0] at hq
        exact hq none 0 w' Lst.nil k' fun k ⟨p, hp, _⟩ => by cases hp
      -- a token of one byte
      have one : ∀ (k : Int) (w' : World), lexStep s i = (some ⟨k, i, noText, 0⟩, i + 1, 0) → st1 (Addr.add ⟨b, 0, none⟩ 0) (.int .i64 k) (lex_Tokens.s40 Z Q (lex_Tokens.l25 Z Q (m + 1)) s a n c i ⟨b, 0, none⟩ 1) w2 := fun k w' he => by
        rw [add_mk]
        refine st1_B b2 (by simp [Tk.enc]) rfl fun w3 b3 k3 => ?_
        exact take _ 1 (i + 1) w3 he b3 (by omega) k3
      have hc := by_lt s i
      generalize hcc : by_ s i = cc at hc
      have hk : ∀ {k : Int}, kindOf cc = k → kindOf (by_ s i) = k := fun h => by rw [hcc]; exact h
      unfold lex_Tokens.s142
      have blank : kindOf cc = 0 → lex_Tokens.s56 Z Q (lex_Tokens.l25 Z Q (m + 1)) s a n c i w2 := fun h => by
        unfold lex_Tokens.s56
        rw [wrap_nat1 (by omega)]
        exact skip (i + 1) w2 (by unfold lexStep; simp only [hk h, if_true]) hl2 ke2
      rw [pif_beq]; split
      · exact blank (by unfold kindOf; grind)
      rename_i n1
      rw [pif_beq]; split
      · exact blank (by unfold kindOf; grind)
      rename_i n2
      rw [pif_beq]; split
      · exact blank (by unfold kindOf; grind)
      rename_i n3
      unfold lex_Tokens.s139
      rw [pif_beq]; split
      · rename_i h35
        have h9 := hk (show kindOf cc = 9 by unfold kindOf; grind)
        refine exK_of (s.size - i + 1) (mark_loop (by omega) (s.size - i) i (by omega) ?_)
        rw [runEnd_first hi (by rw [hcc, h35]; rfl)]
        exact skip _ w2 (by unfold lexStep; simp only [h9]; rfl) hl2 ke2
      rename_i n4
      -- the rest
      have rest : ¬ (cc ≥ 97 ∧ cc ≤ 122) → lex_Tokens.s133 Z Q (lex_Tokens.l25 Z Q (m + 1)) s a n c i ⟨b, 0, none⟩ 1 cc w2 := fun nw => by
        have tail : ¬ (cc ≥ 48 ∧ cc ≤ 57) → lex_Tokens.s130 Z Q (lex_Tokens.l25 Z Q (m + 1)) s a n c i ⟨b, 0, none⟩ 1 cc w2 := fun nd => by
          unfold lex_Tokens.s130
          rw [pif_beq]; split
          · have h3 := hk (show kindOf cc = 3 by unfold kindOf; grind)
            unfold lex_Tokens.s109
            exact one 3 w2 (by unfold lexStep; simp only [h3]; rfl)
          rename_i n5
          unfold lex_Tokens.s127
          rw [pif_beq]; split
          · have h3 := hk (show kindOf cc = 4 by unfold kindOf; grind)
            unfold lex_Tokens.s117
            exact one 4 w2 (by unfold lexStep; simp only [h3]; rfl)
          rename_i n6
          unfold lex_Tokens.s124
          rw [pif_beq]; split
          · rename_i h45
            have h5 := hk (show kindOf cc = 5 by unfold kindOf; grind)
            have dash : ¬ (i + 1 < s.size ∧ by_ s (i + 1) = 62) → lex_Tokens.s122 Z Q (lex_Tokens.l25 Z Q (m + 1)) s a n c i ⟨b, 0, none⟩ 1 cc false w2 := fun hn => by
              unfold lex_Tokens.s122
              rw [pif_false, pif_beq, if_pos h45]
              exact one 5 w2 (by unfold lexStep; simp only [h5]; rw [if_neg (by decide), if_neg (by decide), if_neg (by decide), if_neg (by decide), if_pos trivial, if_neg hn])
            rw [wrap_nat1 (by omega), pif_dec]
            split
            · rename_i h6
              refine ixT_by (K := fun v => lex_Tokens.s122 Z Q (lex_Tokens.l25 Z Q (m + 1)) s a n c i ⟨b, 0, none⟩ 1 cc (v == 62)) (by omega) ?_
              by_cases h7 : by_ s (i + 1) = 62
              · rw [h7]
                unfold lex_Tokens.s122
                show st1 _ _ _ w2
                rw [add_mk]
                refine st1_B b2 (by simp [Tk.enc]) rfl fun w3 b3 k3 => ?_
                exact take ⟨6, i, noText, 0⟩ 2 (i + 2) w3 (by unfold lexStep; simp only [h5]; rw [if_neg (by decide), if_neg (by decide), if_neg (by decide), if_neg (by decide), if_pos trivial, if_pos ⟨by omega, h7⟩]) b3 (by omega) k3
              · rw [show (by_ s (i + 1) == 62) = false by simpa using h7]
                exact dash (fun h => h7 h.2)
            · exact dash (by omega)
          rename_i n7
          unfold lex_Tokens.s122
          rw [pif_false, pif_beq, if_neg n7, pif_beq]
          split
          · have h3 := hk (show kindOf cc = 7 by unfold kindOf; grind)
            exact one 7 w2 (by unfold lexStep; simp only [h3]; rfl)
          · have h3 := hk (show kindOf cc = -1 by unfold kindOf; grind)
            exact fault 6 w2 (by unfold lexStep; simp only [h3]; rfl) (by decide) ke2
        unfold lex_Tokens.s133
        rw [pif_dec]; split
        · rename_i h48
          rw [pif_dec]; split
          · rename_i h57
            have h2' := hk (show kindOf cc = 2 from kindOf_digit.2 (by simp [digitB, h48, h57]))
            have hdb : digitB (by_ s i) = true := kindOf_digit.1 h2'
            unfold lex_Tokens.s101
            refine lex_run.cal (run_F (by omega) h2 ?_)
            rw [show (fun c : Int => decide (c ≥ 48) && decide (c ≤ 57)) = digitB from rfl, runEnd_first hi hdb]
            have hst : lexStep s i = if numV (s.extract i (runEnd digitB s (s.size - (i + 1)) (i + 1))) < 0 then (none, i, 7) else (some ⟨2, i, noText, numV (s.extract i (runEnd digitB s (s.size - (i + 1)) (i + 1)))⟩, runEnd digitB s (s.size - (i + 1)) (i + 1), 0) := by
              unfold lexStep; simp only [h2']; rfl
            have g1 := runEnd_ge (p := digitB) (s := s) (s.size - (i + 1)) (i + 1)
            have g2 := runEnd_le (p := digitB) (s := s) (s.size - (i + 1)) (i + 1) (by omega)
            have g3 := runEnd_in (p := digitB) (s := s) (s.size - (i + 1)) (i + 1)
            generalize runEnd digitB s (s.size - (i + 1)) (i + 1) = j at hst g1 g2 g3 ⊢
            rw [show (i : Int) + ((j : Int) - i) = j by omega, wrap_nat (by omega)]
            refine cnd_of ⟨by omega, by omega, by omega⟩ ?_
            rw [Int.toNat_natCast, Int.toNat_natCast]
            have hsz : (s.extract i j).size = j - i := by rw [ByteArray.size_extract]; omega
            refine lex_number.cal (number_F (fun q hq => ?_) fun v hv => ?_)
            · rw [hsz] at hq
              rw [by_extract g2 hq]
              have : digitB (by_ s (i + q)) = true := by
                rcases Nat.eq_zero_or_pos q with rfl | h
                · exact hdb
                · exact g3 _ (by omega) (by omega)
              simp [digitB] at this
              omega
            · by_cases hneg : numV (s.extract i j) < 0
              · rw [decide_eq_false (by omega)]
                show Q none 0 0 7 i w2
                rw [if_pos hneg] at hst
                exact fault 7 w2 hst (by decide) ke2
              · rw [if_neg hneg] at hst
                have hv := hv (by omega)
                subst hv
                rw [decide_eq_true (by omega)]
                show st1 _ _ _ w2
                rw [add_mk, add_mk]
                refine st1_B b2 (by simp [Tk.enc]) rfl fun w3 b3 k3 => ?_
                refine st1_B b3 (by simp [Tk.enc]) rfl fun w4 b4 k4 => ?_
                exact take ⟨2, i, noText, numV (s.extract i j)⟩ _ j w4 hst b4 (by omega) (k3.trans k4)
          · exact tail (by omega)
        · exact tail (by omega)
      unfold lex_Tokens.s136
      rw [pif_dec]; split
      · rename_i h97
        rw [pif_dec]; split
        · rename_i h122
          have h1' := hk (show kindOf cc = 1 from kindOf_word.2 (by simp [wordB, h97, h122]))
          have hdb : wordB (by_ s i) = true := kindOf_word.1 h1'
          unfold lex_Tokens.s93
          refine lex_run.cal (run_F (by omega) h2 ?_)
          rw [show (fun c : Int => decide (c ≥ 97) && decide (c ≤ 122)) = wordB from rfl, runEnd_first hi hdb]
          have hst : lexStep s i = (some ⟨1, i, s.extract i (runEnd wordB s (s.size - (i + 1)) (i + 1)), 0⟩, runEnd wordB s (s.size - (i + 1)) (i + 1), 0) := by
            unfold lexStep; simp only [h1']; rfl
          have g1 := runEnd_ge (p := wordB) (s := s) (s.size - (i + 1)) (i + 1)
          have g2 := runEnd_le (p := wordB) (s := s) (s.size - (i + 1)) (i + 1) (by omega)
          generalize runEnd wordB s (s.size - (i + 1)) (i + 1) = j at hst g1 g2 ⊢
          rw [add_mk, add_mk]
          refine st1_B b2 (by simp [Tk.enc]) rfl fun w3 b3 k3 => ?_
          rw [show (i : Int) + ((j : Int) - i) = j by omega, wrap_nat (by omega)]
          refine cnd_of ⟨by omega, by omega, by omega⟩ ?_
          rw [Int.toNat_natCast, Int.toNat_natCast]
          refine st1_B b3 (by simp [Tk.enc]) rfl fun w4 b4 k4 => ?_
          exact take ⟨1, i, s.extract i j, 0⟩ _ j w4 hst b4 (by omega) (k3.trans k4)
        · exact rest (by omega)
      · exact rest (by omega)
    · rw [if_neg (by omega)]
      unfold lexAll at hq
      rw [if_neg hi] at hq
      unfold lex_Tokens.s14
      have := hq a c w (by rw [← hl.1]; exact hl) ke ha
      rw [hl.1]
      exact this
theorem tokens_F {Q : Option Addr → Nat → Nat → Int → Int → PT} (hq : ∀ a c w', Lst w' 79 4 Tk.enc a (lexS s).1.length c (lexS s).1 → Ext w w' → (∀ k, inB a k → w.heap.size ≤ k) → Q a (lexS s).1.length c (lexS s).2.1 (lexS s).2.2 w') : lex_Tokens.F Z Q s w := by
  unfold lex_Tokens.F lex_Tokens.s163 lex_Tokens.s160
  unfold lexS at hq
  rw [pif_dec]
  split
  · rw [if_pos (by omega)] at hq
    exact hq none 0 w Lst.nil Keep.refl fun k ⟨p, hp, _⟩ => by cases hp
  · rw [if_neg (by omega)] at hq
    unfold lex_Tokens.s157
    exact exK_of (s.size + 1) (tokens_loop (by omega) s.size 0 [] none 0 0 w (by omega) (by omega) (by omega) Lst.nil Keep.refl (fun k ⟨p, hp, _⟩ => by cases hp) hq)
end
end Go.Proofs.YtllgjjldnnmjkaaDoor
end
section
set_option maxRecDepth 100000
namespace Go.Proofs.YtllgjjldnnmjkaaDoor
open Go.RowKit

/-- An operation of a region. -/
def opAt (c : Code) (i : Nat) : Oper := match c with | .region _ ops _ => ops.getD i default | _ => default
def seqs : List Code → Code → Code
  | [], X => X
  | a :: l, X => .seq a (seqs l X)
def compL (P : Program) (Z : List PanicEntry → PT) : List Code → QF → (Fr → PT) → Fr → PT
  | [], _, K, ρ => K ρ
  | a :: l, Q, K, ρ => comp P Z a (thenK (compL P Z l Q K) Q) ρ
/-- Behind the defer nothing but the end is told. -/
def endQ (X : PT) : QF := fun e _ => match e with | .normal => X | .ret => X | _ => bad
section
variable {P : Program}
theorem wp_seqs (hN : NamesOk P) (hT : ElsOk P) (hmix : P.follows .mixedOrders = true) {E : Env} {n : Nat} {Z : List PanicEntry → PT} {Q : QF} {K : Fr → PT} {X : Code} {R : Exit → Act → World → Prop}
    (hR : ∀ e a w, e ≠ .normal → conv E n Z Q e a w → R e a w) (hX : ∀ ρ a w, Rel E n a ρ → K ρ w → X.wp P R a w) :
    ∀ (l : List Code), (l.all fun c => codeOk n c && codeAb E.k c) = true → ∀ ρ a w, Rel E n a ρ → compL P Z l Q K ρ w → (seqs l X).wp P R a w
  | [], _, ρ, a, w, hr, h => hX ρ a w hr h
  | c :: l, hl, ρ, a, w, hr, h => by
    simp only [List.all_cons, Bool.and_eq_true] at hl
    refine wp_seq (wp_mono (ok_comp hN hT hmix c _ hl.1.1 E hl.1.2 ρ w a hr h) fun e a' w' hq => ?_)
    cases e with
    | normal => obtain ⟨ρ', hr', h'⟩ := hq; exact wp_seqs hN hT hmix hR hX l hl.2 ρ' a' w' hr' h'
    | exit i => exact hR _ _ _ (by simp) hq
    | goto i => exact hR _ _ _ (by simp) hq
    | ret => exact hR _ _ _ (by simp) hq
    | panic c => exact hR _ _ _ (by simp) hq
    | outgrown => exact hq.elim
/-- The closure is made, and deferred. -/
theorem wp_deferred {id t : Nat} {g : FuncId} {caps : Array Operand} {mk df : Oper} {a : Act} {w : World} {R : Exit → Act → World → Prop}
    (h1 : mk.op = .makeFunc (.func g) #[] caps) (h2 : mk.dst = some t) (h3 : mk.guard = none) (h4 : df.op = .defer { callee := .value (.tmp t), args := #[], argTypes := #[] }) (h5 : df.dst = none) (h6 : df.guard = none) (ht : t < a.tmps.size)
    (h : R .normal { a.put (some t) (.func (.func g) #[] (caps.map a.eval)) with defers := { target := .fn (.func g) (caps.map a.eval), args := #[] } :: a.defers } w) : (Code.region id #[mk, df] false).wp P R a w := by
  refine wp_region_list ?_
  refine wpList_step fun K' hK' => ?_
  rw [if_pos (by simp [Region.wanted, h3])]
  refine up_value (w' := w) (v := .func (.func g) #[] (caps.map a.eval)) ?_ (hK' _ _ ?_)
  · unfold execOp; simp only [h1]; simp [Instr.makeFunc]
  rw [h2]
  refine wpList_step fun K' hK' => ?_
  rw [if_pos (by simp [Region.wanted, h6])]
  have he : (a.put (some t) (.func (.func g) #[] (caps.map a.eval))).eval (.tmp t) = .func (.func g) #[] (caps.map a.eval) := by
    simp [Act.eval, Act.put, Array.getD, ht]
  unfold Oper.wp
  have hx : (execOp (a.put (some t) (.func (.func g) #[] (caps.map a.eval))).eval df).run P w = .ok (.defer { target := .fn (.func g) (caps.map a.eval), args := #[] }) w := by
    unfold execOp
    simp only [h4]
    simp [resolve, he, Deferred.ofValue]
  rw [hx]
  simp only [Oper.upon, h5]
  exact hK' _ _ (wpList_nil h)
/-- The deferred closure is called while the function ends so; then its results are read. -/
def endD (P : Program) (g : FuncId) (caps : List Value) (rs : List ResultVar) (ρ : Fr) (Z : List PanicEntry → PT) (R : Value → PT) (u : FrameMode) : PT := fun w => CallsD P g ⟨caps⟩ u w fun e u' w' => match e with
  | .returned _ => (match settle u' with | .returning => retV P rs ρ R w' | .panicking c => Z c w' | .run => False)
  | _ => False
def resBelow (k : Nat) (rs : List ResultVar) : Bool := rs.all fun r => match r with | .tmp t => Nat.blt t k | .cell t _ => Nat.blt t k
theorem res1_same {r : ResultVar} {k : Nat} {ρ ρ' : Fr} {R : Value → PT} (h : (match r with | .tmp t => Nat.blt t k | .cell t _ => Nat.blt t k) = true) (he : ∀ t, t < k → ρ' t = ρ t) : res1 P r ρ R = res1 P r ρ' R := by
  cases r with
  | tmp t => unfold res1; simp only; rw [he t (Nat.le_of_ble_eq_true h)]
  | cell t ty => unfold res1; simp only; rw [he t (Nat.le_of_ble_eq_true h)]
theorem resL_same {k : Nat} {ρ ρ' : Fr} (he : ∀ t, t < k → ρ' t = ρ t) : ∀ {rs : List ResultVar} {R : List Value → PT}, resBelow k rs = true → resL P rs ρ R = resL P rs ρ' R
  | [], R, _ => rfl
  | r :: l, R, h => by
    simp only [resBelow, List.all_cons, Bool.and_eq_true] at h
    unfold resL
    rw [res1_same h.1 he]
    congr 1
    funext v
    exact resL_same he h.2
theorem retV_same {rs : List ResultVar} {k : Nat} {ρ ρ' : Fr} {R : Value → PT} (h : resBelow k rs = true) (he : ∀ t, t < k → ρ' t = ρ t) : retV P rs ρ R = retV P rs ρ' R := by
  match rs, h with
  | [], _ => rfl
  | [r], h => simp only [resBelow, List.all_cons, Bool.and_eq_true] at h; exact res1_same h.1 he
  | r :: r2 :: l, h => exact resL_same he h
theorem calls_of_defer (hN : NamesOk P) (hT : ElsOk P) (hmix : P.follows .mixedOrders = true) {f : FuncId} {fn : Func} {l : List Code} {B : Code} {id t k : Nat} {g : FuncId} {caps : Array Operand} {mk df : Oper} {Z : List PanicEntry → PT} {args : List Value} {R : Value → PT} {K : Fr → PT} {w : World} {rs : List ResultVar}
    (hf : P.funcs[f]? = some fn) (hb : fn.body = some (seqs l (.seq (.region id #[mk, df] false) B))) (hrs : fn.results = ⟨rs⟩) (hlen : args.length ≤ fn.ntmps)
    (h1 : mk.op = .makeFunc (.func g) #[] caps) (h2 : mk.dst = some t) (h3 : mk.guard = none) (h4 : df.op = .defer { callee := .value (.tmp t), args := #[], argTypes := #[] }) (h5 : df.dst = none) (h6 : df.guard = none) (ht : t < fn.ntmps) (hkt : k ≤ t)
    (hl : (l.all fun c => codeOk fn.ntmps c && codeAb 0 c) = true) (hB : codeAb k B = true) (hres : resBelow k rs = true) (hbod : bodied P g = true)
    (hK : ∀ ρ w, K ρ w → ∃ ZB X JB, Ok P fn.ntmps ZB B (endQ X) JB ∧ JB (put ρ t (.func (.func g) #[] ⟨caps.toList.map (ev ρ)⟩)) w ∧ (∀ w', X w' → endD P g (caps.toList.map (ev ρ)) rs ρ Z R .returning w') ∧ ∀ c w', ZB c w' → endD P g (caps.toList.map (ev ρ)) rs ρ Z R (.panicking c) w')
    (hA : compL P Z l (bodyQ P rs R) K (fr0 args) w) : Calls P f ⟨args⟩ w fun e w' => match e with | .returned v => R v w' | .panicked c => Z c w' | _ => False := by
  have h0 : Rel Env.none fn.ntmps { tmps := (⟨args⟩ : Array Value) ++ Array.replicate (fn.ntmps - (⟨args⟩ : Array Value).size) undef, defers := [] } (fr0 args) := by
    refine ⟨by simp; omega, ⟨rfl, fun t ht => absurd ht (Nat.not_lt_zero t)⟩, fun t => ?_⟩
    simp only [fr0, Array.getD_eq_getD_getElem?, List.getD_eq_getElem?_getD]
    by_cases ht : t < args.length
    · simp [Array.getElem?_append, ht]
    · rw [Array.getElem?_append_right (by simp; omega)]
      simp only [Array.getElem?_replicate]
      rw [List.getElem?_eq_none (by omega)]
      split <;> rfl
  refine calls_of_wp_defers hf hb (wp_seqs hN hT hmix (E := Env.none) (n := fn.ntmps) (Z := Z) (Q := bodyQ P rs R) (K := K) ?_ ?_ l hl _ _ w h0 hA)
  · -- the ends ahead of the defer
    intro e a' w' hne hq
    cases e with
    | normal => exact absurd rfl hne
    | ret =>
      obtain ⟨ρ, hr, h'⟩ := hq
      obtain ⟨v, hv, hR⟩ := results_ok hrs hr h'
      show Leaves P fn a'.tmps _ a'.defers .returning w'
      rw [hr.2.1.1]
      exact ⟨v, hv, hR⟩
    | exit i => obtain ⟨ρ, hr, h'⟩ := hq; exact h'.elim
    | goto i => obtain ⟨ρ, hr, h'⟩ := hq; exact h'.elim
    | panic c =>
      show Leaves P fn a'.tmps _ a'.defers (.panicking c) w'
      rw [hq.1.1]
      exact hq.2
    | outgrown => exact hq.elim
  · intro ρ a' w' hr hk
    obtain ⟨ZB, X, JB, hOk, hJ, hX, hZB⟩ := hK ρ w' hk
    have hev := hr.eval
    have hcaps : caps.map a'.eval = ⟨caps.toList.map (ev ρ)⟩ := by rw [hev]; exact map_mk _ _
    refine wp_seq (wp_deferred h1 h2 h3 h4 h5 h6 (by rw [hr.1]; exact ht) ?_)
    rw [hcaps]
    -- the frame behind the defer
    have hfix : ∀ s, s < k → s ≠ t := fun s hs e => by omega
    have hr2 : Rel ⟨[{ target := .fn (.func g) ⟨caps.toList.map (ev ρ)⟩, args := #[] }], k, ρ⟩ fn.ntmps { a'.put (some t) (.func (.func g) #[] ⟨caps.toList.map (ev ρ)⟩) with defers := { target := .fn (.func g) ⟨caps.toList.map (ev ρ)⟩, args := #[] } :: a'.defers } (put ρ t (.func (.func g) #[] ⟨caps.toList.map (ev ρ)⟩)) := by
      have hp := hr.put (d := t) ⟨ht, Nat.zero_le t⟩ (.func (.func g) #[] ⟨caps.toList.map (ev ρ)⟩)
      refine ⟨hp.1, ⟨by rw [hr.2.1.1]; rfl, fun s hs => ?_⟩, hp.2.2⟩
      have := hp.2.2 s
      rw [put_ne _ _ _ _ (hfix s hs)] at this
      exact this
    refine wp_mono (hOk _ hB _ w' _ hr2 hJ) fun e a2 w2 hq => ?_
    obtain ⟨fng, cg, hg1, hg2⟩ := bodied_ok hbod
    have leave : ∀ {u : FrameMode}, u ≠ .run → PanOk ⟨[{ target := .fn (.func g) ⟨caps.toList.map (ev ρ)⟩, args := #[] }], k, ρ⟩ a2 → endD P g (caps.toList.map (ev ρ)) rs ρ Z R u w2 → Leaves P fn a2.tmps (fun e w' => match e with | .returned v => R v w' | .panicked c => Z c w' | _ => False) a2.defers u w2 := fun {u} hu hpan hend => by
      rw [hpan.1]
      refine leaves_cons hu (f := g) (args := ⟨caps.toList.map (ev ρ)⟩) ?_ ?_
      · simp only [invoke, callFunc, Sem.run_bind, Sem.run_pure, run_program, Result.andThen_ok, hg1, hN g fng hg1, hg2, Bool.false_eq_true, if_false, Option.isNone_some]
        simp
      · refine CallsD.mono hend fun e u' w3 he => ?_
        cases e with
        | returned v =>
          simp only at he ⊢
          split at he
          · rename_i hs
            rw [hs]
            -- the results lie in slots that nothing has written
            have hsame : retV P rs ρ R = retV P rs (fun s => a2.tmps.getD s undef) R := retV_same hres fun s hs => hpan.2 s hs
            rw [hsame] at he
            have hrel : Rel ⟨a2.defers, 0, fun _ => undef⟩ a2.tmps.size a2 (fun s => a2.tmps.getD s undef) := ⟨rfl, ⟨rfl, fun s hs => absurd hs (Nat.not_lt_zero s)⟩, fun s => rfl⟩
            obtain ⟨v, hv, hR⟩ := results_ok hrs hrel he
            exact ⟨v, hv, hR⟩
          · rename_i c hs
            rw [hs]
            exact he
          · exact he.elim
        | panicked c => exact he.elim
        | outgrown => exact he.elim
    cases e with
    | normal => obtain ⟨ρ', hr', h'⟩ := hq; exact leave (by simp) hr'.2.1 (hX w2 h')
    | ret => obtain ⟨ρ', hr', h'⟩ := hq; exact leave (by simp) hr'.2.1 (hX w2 h')
    | exit i => obtain ⟨ρ', hr', h'⟩ := hq; exact h'.elim
    | goto i => obtain ⟨ρ', hr', h'⟩ := hq; exact h'.elim
    | panic c => exact leave (by simp) hq.1 (hZB c w2 hq.2)
    | outgrown => exact hq.elim

/-! ### A closure that recovers first -/
/-- What 'recover' hands back, and how the frame below then ends. -/
def recV (u : FrameMode) : Value := match u with
  | .panicking ({ v, recovered := false, goexit := false } :: _) => v
  | _ => .nilIface
def recU (u : FrameMode) : FrameMode := match u with
  | .panicking ({ v, recovered := false, goexit := false } :: older) => .panicking ({ v, recovered := true } :: older)
  | u => u
def recP (u : FrameMode) : Option (Value × FrameMode) := match u with
  | .panicking ({ v, recovered := false, goexit := false } :: older) => some (v, .panicking ({ v, recovered := true } :: older))
  | _ => none
theorem recoverD_cons {c₀ : Frame} {cs : List Frame} {u : FrameMode} (hu : c₀.mode = u) : recoverD (c₀ :: cs) = (recP u).map fun p => (p.1, { c₀ with mode := p.2 } :: cs) := by
  subst hu
  unfold recoverD recP
  simp only
  cases c₀.mode with
  | run => rfl
  | returning => rfl
  | panicking l =>
    cases l with
    | nil => rfl
    | cons p older =>
      obtain ⟨v, r, g⟩ := p
      cases r <;> cases g <;> rfl
theorem wpOpsS_step {ops : Array Oper} {Q : Exit → Act → List Frame → World → Prop} {i : Nat} {rest : List Nat} {o : Oper} {a : Act} {cs : List Frame} {w : World} (hi : ops[i]? = some o) (hw : Region.wanted o (yielded ops a.tmps) = true)
    (h : o.wp P a w (fun a' w' => wpOpsS P ops Q rest a' cs w') (fun e a' w' => Q e a' cs w')) : wpOpsS P ops Q (i :: rest) a cs w := by
  unfold wpOpsS
  simp only [hi, hw, if_true]
  unfold Oper.wp at h
  split
  · rename_i w' hr
    rw [hr] at h
    exact h.elim
  · exact h
theorem wpOpsS_skip {ops : Array Oper} {Q : Exit → Act → List Frame → World → Prop} {i : Nat} {rest : List Nat} {o : Oper} {a : Act} {cs : List Frame} {w : World} (hi : ops[i]? = some o) (hw : Region.wanted o (yielded ops a.tmps) = false)
    (h : wpOpsS P ops Q rest (a.put o.dst undef) cs w) : wpOpsS P ops Q (i :: rest) a cs w := by
  unfold wpOpsS
  simp only [hi, hw, Bool.false_eq_true, if_false]
  exact h
theorem copsS_ok {E : Env} {n : Nat} {Z : List PanicEntry → PT} {ops : Array Oper} {K : Fr → PT} {Q : Exit → Act → List Frame → World → Prop} {cs : List Frame} (hN : NamesOk P) (hT : ElsOk P) (hQ : QOk E Z (fun e a w => Q e a cs w)) (hd : opsOk n ops.toList = true ∧ opsAb E.k ops.toList = true)
    (hK : ∀ ρ a w, Rel E n a ρ → K ρ w → Q .normal a cs w) : ∀ (l : List Oper) (k : Nat), (∀ j, l[j]? = ops[k + j]?) → ∀ (ρ : Fr) (a : Act) (w : World), Rel E n a ρ → cops P Z ops.toList l K ρ w → wpOpsS P ops Q (List.range' k l.length) a cs w
  | [], k, hl, ρ, a, w, hr, h => by
    show Q .normal a cs w
    exact hK ρ a w hr h
  | o :: r, k, hl, ρ, a, w, hr, h => by
    have ho : ops[k]? = some o := by have := hl 0; simpa using this.symm
    have hdo := opsOk_at hd (o := o) (List.mem_of_getElem? (by simpa using ho))
    have ih := copsS_ok hN hT hQ hd hK r (k + 1) (fun j => by have := hl (j + 1); simp only [List.getElem?_cons_succ] at this; rw [this]; congr 1; omega)
    rw [cops_cons] at h
    rw [List.length_cons, List.range'_succ]
    rcases guarded_ok hr hd h with ⟨hw, hx⟩ | ⟨hw, hx⟩
    · exact wpOpsS_step ho hw (cop_ok hN hT hr hQ (fun v w' hv => ih _ _ _ (hr.putO _ hdo v) hv) hx)
    · exact wpOpsS_skip ho hw (ih _ _ _ (hr.putO _ hdo undef) hx)
theorem callsD_closure (hN : NamesOk P) (hT : ElsOk P) (hmix : P.follows .mixedOrders = true) {g : FuncId} {fn : Func} {id d0 : Nat} {o0 : Oper} {ops : List Oper} {c : Code} {Z : List PanicEntry → PT} {X : PT} {args : List Value} {u : FrameMode} {w : World}
    (hf : P.funcs[g]? = some fn) (hb : fn.body = some (.seq (.region id ⟨o0 :: ops⟩ false) c)) (h1 : o0.op = .call { callee := .builtin .recover, args := #[], argTypes := #[] }) (h2 : o0.guard = none) (h3 : o0.dst = some d0) (hrs : fn.results = #[]) (hlen : args.length ≤ fn.ntmps)
    (ho : opsOk fn.ntmps (o0 :: ops) = true) (hc : codeOk fn.ntmps c = true)
    (h : cops P Z0 (o0 :: ops) ops (comp P Z0 c (endQ X)) (put (fr0 args) d0 (recV u)) w) : CallsD P g ⟨args⟩ u w fun e u' w' => e = .returned (.tuple #[]) ∧ u' = recU u ∧ X w' := by
  have h0 : Rel Env.none fn.ntmps { tmps := (⟨args⟩ : Array Value) ++ Array.replicate (fn.ntmps - (⟨args⟩ : Array Value).size) undef, defers := [] } (fr0 args) := by
    refine ⟨by simp; omega, ⟨rfl, fun t ht => absurd ht (Nat.not_lt_zero t)⟩, fun t => ?_⟩
    simp only [fr0, Array.getD_eq_getD_getElem?, List.getD_eq_getElem?_getD]
    by_cases ht : t < args.length
    · simp [Array.getElem?_append, ht]
    · rw [Array.getElem?_append_right (by simp; omega)]
      simp only [Array.getElem?_replicate]
      rw [List.getElem?_eq_none (by omega)]
      split <;> rfl
  refine callsD_of_wpS hf hb fun c₀ cs hu => wpS_seq (wpS_region ?_)
  have hds : d0 < fn.ntmps := (opsOk_at (E := Env.none) ⟨ho, opsAb_zero _⟩ (o := o0) (by simp) d0 h3).1
  have hr1 := h0.put (d := d0) ⟨hds, Nat.zero_le _⟩ (recV u)
  have hx : ∀ (a : Act), (execOp a.eval o0).run P w = .ok .recover w := fun a => by
    unfold execOp
    simp only [h1]
    simp [resolve, invoke, builtin]
  -- the rest, from the frames behind 'recover' on
  have rest : wpOpsS P ⟨o0 :: ops⟩ (Exit.thenS (c.wpS P (bodyPostS P fn c₀ cs fun e u' w' => e = .returned (.tuple #[]) ∧ u' = recU u ∧ X w')) (bodyPostS P fn c₀ cs fun e u' w' => e = .returned (.tuple #[]) ∧ u' = recU u ∧ X w')) (List.range' 1 ops.length) (Act.put { tmps := (⟨args⟩ : Array Value) ++ Array.replicate (fn.ntmps - (⟨args⟩ : Array Value).size) undef, defers := [] } (some d0) (recV u)) ({ c₀ with mode := recU u } :: cs) w := by
    refine copsS_ok (E := Env.none) (Z := Z0) (ops := ⟨o0 :: ops⟩) (K := comp P Z0 c (endQ X)) hN hT (fun ch a w _ hz => hz.elim) ⟨ho, opsAb_zero _⟩ (fun ρ a w hr hk => ?_) ops 1 (fun j => by simp [Nat.add_comm 1 j]) _ _ w hr1 h
    refine wpS_of_wp (wp_mono (ok_comp hN hT hmix c (endQ X) hc Env.none (codeAb_zero _) ρ w a hr hk) fun e a' w' hq => ?_)
    have fin : ∀ {ρ' : Fr}, Rel Env.none fn.ntmps a' ρ' → X w' → a'.defers = [] ∧ ∃ u', ({ c₀ with mode := recU u } :: cs : List Frame) = { c₀ with mode := u' } :: cs ∧ ∃ v, (results fn a'.tmps).run P w' = .ok v w' ∧ (Ending.returned v = .returned (.tuple #[]) ∧ u' = recU u ∧ X w') := fun hr' hx' => ⟨hr'.2.1.1, recU u, rfl, .tuple #[], results_none hrs _ _ _, rfl, rfl, hx'⟩
    cases e with
    | normal => obtain ⟨ρ', hr', h'⟩ := hq; exact fin hr' h'
    | ret => obtain ⟨ρ', hr', h'⟩ := hq; exact fin hr' h'
    | exit i => obtain ⟨ρ', hr', h'⟩ := hq; exact h'.elim
    | goto i => obtain ⟨ρ', hr', h'⟩ := hq; exact h'.elim
    | panic ch => exact hq.2.elim
    | outgrown => exact hq.elim
  show wpOpsS P ⟨o0 :: ops⟩ _ (List.range (ops.length + 1)) _ _ _
  rw [List.range_eq_range', List.range'_succ]
  unfold wpOpsS
  have hg : (⟨o0 :: ops⟩ : Array Oper)[0]? = some o0 := rfl
  have hwt : ∀ y, Region.wanted o0 y = true := fun y => by simp [Region.wanted, h2]
  simp only [hg, hwt, if_true, hx, h3]
  have none' : recoverD (c₀ :: cs) = none → recV u = .nilIface → recU u = u → (match recoverD (c₀ :: cs) with
      | some (v, cs') => wpOpsS P ⟨o0 :: ops⟩ (Exit.thenS (c.wpS P (bodyPostS P fn c₀ cs fun e u' w' => e = .returned (.tuple #[]) ∧ u' = recU u ∧ X w')) (bodyPostS P fn c₀ cs fun e u' w' => e = .returned (.tuple #[]) ∧ u' = recU u ∧ X w')) (List.range' 1 ops.length) (Act.put { tmps := (⟨args⟩ : Array Value) ++ Array.replicate (fn.ntmps - (⟨args⟩ : Array Value).size) undef, defers := [] } (some d0) v) cs' w
      | none => wpOpsS P ⟨o0 :: ops⟩ (Exit.thenS (c.wpS P (bodyPostS P fn c₀ cs fun e u' w' => e = .returned (.tuple #[]) ∧ u' = recU u ∧ X w')) (bodyPostS P fn c₀ cs fun e u' w' => e = .returned (.tuple #[]) ∧ u' = recU u ∧ X w')) (List.range' 1 ops.length) (Act.put { tmps := (⟨args⟩ : Array Value) ++ Array.replicate (fn.ntmps - (⟨args⟩ : Array Value).size) undef, defers := [] } (some d0) .nilIface) (c₀ :: cs) w) := fun e1 e2 e3 => by
    rw [e1]
    have hcs : ({ c₀ with mode := recU u } : Frame) = c₀ := by rw [e3, ← hu]
    rw [e2, hcs] at rest
    exact rest
  have hrd := recoverD_cons (cs := cs) hu
  cases u with
  | run => exact none' hrd rfl rfl
  | returning => exact none' hrd rfl rfl
  | panicking l =>
    cases l with
    | nil => exact none' hrd rfl rfl
    | cons p older =>
      obtain ⟨v, r, g⟩ := p
      cases r <;> cases g <;> first | (rw [hrd]; exact rest) | exact none' hrd rfl rfl
end
end Go.Proofs.YtllgjjldnnmjkaaDoor
end
section
namespace Go.Proofs.YtllgjjldnnmjkaaDoor
open Go.RowKit
set_option maxRecDepth 100000

/-! ### milepost/parse.Parse: function 24 -/
noncomputable def parse_Parse.body : Code := bodyC Tryd.f24
noncomputable def parse_Parse.a0 : Code := sq1 (parse_Parse.body)
noncomputable def parse_Parse.a1 : Code := sq1 (sq2 (parse_Parse.body))
noncomputable def parse_Parse.a2 : Code := sq1 (sq2 (sq2 (parse_Parse.body)))
noncomputable def parse_Parse.dr : Code := sq1 (sq2 (sq2 (sq2 (parse_Parse.body))))
noncomputable def parse_Parse.B : Code := sq2 (sq2 (sq2 (sq2 (parse_Parse.body))))
noncomputable def parse_Parse.mk : Oper := opAt parse_Parse.dr 0
noncomputable def parse_Parse.df : Oper := opAt parse_Parse.dr 1
theorem parse_Parse.shape : parse_Parse.body = seqs [parse_Parse.a0, parse_Parse.a1, parse_Parse.a2] (.seq (.region 4 #[parse_Parse.mk, parse_Parse.df] false) parse_Parse.B) := by kernel_rfl
def parse_Parse.A (Z : ZT) (Q : OA → Nat → Nat → Int → Int → PT) (X0 : ByteArray → Addr → Addr → Addr → OA → Nat → Nat → PT) (s_0 : ByteArray) : PT :=
  (newC 29 [(Value.slice none 0 0)] fun out1 => (newC 24 [(Value.int .i64 0)] fun e2 => (newC 3 [(Value.int .i64 0)] fun pos3 => (cal Tryd.prog Z 36 [(Value.string s_0)] (isT3 fun t4 t5 t6 => (isL fun v7 v7n v7c => ((isI .i64 fun v8 => ((isI .i64 fun v9 => (st1 e2 (Value.int .i64 v8) (st1 pos3 (Value.int .i64 v9) (ldI .i64 e2 fun v10 => (pif (v10 != 0) (drawn fun S11 => (hI S11 .i64 e2 fun v12 => (hI S11 .i64 pos3 fun v13 => (st1 out1 (Value.slice none 0 0) (sAnd S11 (st1 e2 (Value.int .i64 v12) (sAnd S11 (st1 pos3 (Value.int .i64 v13) (ldL out1 fun out14 out14n out14c => (ldI .i64 e2 fun e15 => (ldI .i64 pos3 fun pos16 => (Q out14 out14n out14c e15 pos16)))))))))))) (X0 s_0 out1 e2 pos3 v7 v7n v7c)))))) t6)) t5)) t4)))))
def parse_Parse.KA (X0 : ByteArray → Addr → Addr → Addr → OA → Nat → Nat → PT) : Fr → PT := (fun ρ => atS (ρ 0) fun s_0 => atA (ρ 2) fun out_2 => atA (ρ 3) fun e_3 => atA (ρ 4) fun pos_4 => atL (ρ 5) fun l_5 l_5n l_5c => (X0 s_0 out_2 e_3 pos_4 l_5 l_5n l_5c))
def parse_Parse.q1 (Z : ZT) (Q : OA → Nat → Nat → Int → Int → PT) : QF := bodyQ Tryd.prog [.cell 2 29, .cell 3 24, .cell 4 3] (fun v => at3 v fun x y z => atL x fun xa xn xc => atI .i64 y fun ya => atI .i64 z fun za => Q xa xn xc ya za)
theorem parse_Parse.A_eq (Z : ZT) (Q : OA → Nat → Nat → Int → Int → PT) (X0 : ByteArray → Addr → Addr → Addr → OA → Nat → Nat → PT) (s_0 : ByteArray) : compL Tryd.prog Z [parse_Parse.a0, parse_Parse.a1, parse_Parse.a2] (parse_Parse.q1 Z Q) (parse_Parse.KA X0) (fr0 [(Value.string s_0)]) = parse_Parse.A Z Q X0 s_0 := by kernel_rfl
/-! slots behind the defer: s_0 out_2 e_3 pos_4 l_5 l_5n l_5c -/
noncomputable def parse_Parse.c2 : Code := sq1 parse_Parse.B
noncomputable def parse_Parse.c3 : Code := sq2 parse_Parse.B
theorem parse_Parse.q4 : parse_Parse.B = .seq parse_Parse.c2 parse_Parse.c3 := by kernel_rfl
noncomputable def parse_Parse.c5 : Code := sq1 parse_Parse.c3
noncomputable def parse_Parse.c6 : Code := sq2 parse_Parse.c3
theorem parse_Parse.q7 : parse_Parse.c3 = .seq parse_Parse.c5 parse_Parse.c6 := by kernel_rfl
def parse_Parse.s8 (Z : ZT) (Q : PT) (out_2 : Addr) (e_3 : Addr) (pos_4 : Addr) : PT :=
  (ldL out_2 fun v18 v18n v18c => (st1 out_2 (Value.slice v18 v18n v18c) (st1 e_3 (Value.int .i64 0) (st1 pos_4 (Value.int .i64 0) Q))))
theorem parse_Parse.s8_eq (Z : ZT) (Q : PT) (ρ : Fr) (out_2 : Addr) (e_3 : Addr) (pos_4 : Addr) : comp Tryd.prog Z parse_Parse.c6 (endQ Q) (puts ρ [(2, (Value.pointer (some out_2))), (3, (Value.pointer (some e_3))), (4, (Value.pointer (some pos_4)))]) = parse_Parse.s8 Z Q out_2 e_3 pos_4 := by kernel_rfl
def parse_Parse.j9 (Z : ZT) (Q : PT) : Fr → PT := (fun ρ => atA (ρ 2) fun out_2 => atA (ρ 3) fun e_3 => atA (ρ 4) fun pos_4 => (parse_Parse.s8 Z Q out_2 e_3 pos_4))
theorem parse_Parse.s8_ok (Z : ZT) (Q : PT) : Ok Tryd.prog Tryd.f24.ntmps Z parse_Parse.c6 (endQ Q) (parse_Parse.j9 Z Q) := by
  intro E he ρ w a hr h
  obtain ⟨out_2, e2, h⟩ := atA_e h
  obtain ⟨e_3, e3, h⟩ := atA_e h
  obtain ⟨pos_4, e4, h⟩ := atA_e h
  exact ok_at [(2, (Value.pointer (some out_2))), (3, (Value.pointer (some e_3))), (4, (Value.pointer (some pos_4)))] (okC parse_Parse.c6 (endQ Q) (by kernel_rfl)) (puts_cons e2 (puts_cons e3 (puts_cons e4 (fun p hp => puts_nil hp)))) (parse_Parse.s8_eq Z Q ρ out_2 e_3 pos_4) he hr h
noncomputable def parse_Parse.c10 : Code := blk parse_Parse.c5
theorem parse_Parse.q11 : parse_Parse.c5 = .block 0 parse_Parse.c10 := by kernel_rfl
noncomputable def parse_Parse.c12 : Code := lop parse_Parse.c10
theorem parse_Parse.q13 : parse_Parse.c10 = .loop parse_Parse.c12 := by kernel_rfl
def parse_Parse.q15 (Z : ZT) (Q : PT) : QF := thenK (parse_Parse.j9 Z Q) (endQ Q)
def parse_Parse.q16 (Z : ZT) (Q : PT) : QF := inBl 0 (parse_Parse.q15 Z Q)
def parse_Parse.s17 (Z : ZT) (Q : PT) (X1 : Addr → Addr → Addr → OA → Nat → Nat → OA → PT) (out_2 : Addr) (e_3 : Addr) (pos_4 : Addr) (l_5 : OA) (l_5n l_5c : Nat) (r_6 : OA) : PT :=
  (nn r_6 fun v43 => (ldI .i64 (v43.add 1) fun v44 => (pif (decide (v44 < ((l_5n : Nat) : Int))) (nn r_6 fun v45 => (ldI .i64 (v45.add 1) fun v46 => (ixS l_5 l_5n v46 4 fun v47 => (ldI .i64 (v47.add 0) fun v48 => (pif (v48 == 7) (nn r_6 fun v49 => (ldI .i64 (v49.add 1) fun v50 => (nn r_6 fun v51 => (st1 (v51.add 1) (Value.int .i64 (IntKind.wrap .i64 (v50 + 1))) (X1 out_2 e_3 pos_4 l_5 l_5n l_5c r_6))))) (ldL out_2 fun v52 v52n v52c => (pif (((v52n : Nat) : Int) == 64) (cal Tryd.prog Z 38 [(Value.pointer r_6), (Value.int .i64 4)] (isU (drawn fun S53 => (hL S53 out_2 fun v54 v54n v54c => (cal Tryd.prog Z 39 [(Value.pointer r_6)] (isN fun v55 => (sAnd S53 (cnd (List.length v55 = 8) (newC 52 (v55 ++ ([])) fun v56 => (sAnd S53 (runL Tryd.prog (bi .append #[29, 29] 29 [false, false] [(Value.slice v54 v54n v54c), (Value.slice (some v56) 1 1)]) fun v57 v57n v57c => (sAnd S53 (st1 out_2 (Value.slice v57 v57n v57c) (X1 out_2 e_3 pos_4 l_5 l_5n l_5c r_6)))))))))))))) (drawn fun S58 => (hL S58 out_2 fun v59 v59n v59c => (cal Tryd.prog Z 39 [(Value.pointer r_6)] (isN fun v60 => (sAnd S58 (cnd (List.length v60 = 8) (newC 52 (v60 ++ ([])) fun v61 => (sAnd S58 (runL Tryd.prog (bi .append #[29, 29] 29 [false, false] [(Value.slice v59 v59n v59c), (Value.slice (some v61) 1 1)]) fun v62 v62n v62c => (sAnd S58 (st1 out_2 (Value.slice v62 v62n v62c) (X1 out_2 e_3 pos_4 l_5 l_5n l_5c r_6))))))))))))))))))) (parse_Parse.s8 Z Q out_2 e_3 pos_4))))
def parse_Parse.j18 (Z : ZT) (Q : PT) (X1 : Addr → Addr → Addr → OA → Nat → Nat → OA → PT) : Fr → PT := (fun ρ => atA (ρ 2) fun out_2 => atA (ρ 3) fun e_3 => atA (ρ 4) fun pos_4 => atL (ρ 5) fun l_5 l_5n l_5c => atP (ρ 6) fun r_6 => (X1 out_2 e_3 pos_4 l_5 l_5n l_5c r_6))
def parse_Parse.q19 (Z : ZT) (Q : PT) (X1 : Addr → Addr → Addr → OA → Nat → Nat → OA → PT) : QF := thenK (parse_Parse.j18 Z Q X1) (parse_Parse.q16 Z Q)
theorem parse_Parse.s17_eq (Z : ZT) (Q : PT) (X1 : Addr → Addr → Addr → OA → Nat → Nat → OA → PT) (ρ : Fr) (out_2 : Addr) (e_3 : Addr) (pos_4 : Addr) (l_5 : OA) (l_5n l_5c : Nat) (r_6 : OA) : comp Tryd.prog Z parse_Parse.c12 (parse_Parse.q19 Z Q X1) (puts ρ [(2, (Value.pointer (some out_2))), (3, (Value.pointer (some e_3))), (4, (Value.pointer (some pos_4))), (5, (Value.slice l_5 l_5n l_5c)), (6, (Value.pointer r_6))]) = parse_Parse.s17 Z Q X1 out_2 e_3 pos_4 l_5 l_5n l_5c r_6 := by kernel_rfl
def parse_Parse.j20 (Z : ZT) (Q : PT) (X1 : Addr → Addr → Addr → OA → Nat → Nat → OA → PT) : Fr → PT := (fun ρ => atA (ρ 2) fun out_2 => atA (ρ 3) fun e_3 => atA (ρ 4) fun pos_4 => atL (ρ 5) fun l_5 l_5n l_5c => atP (ρ 6) fun r_6 => (parse_Parse.s17 Z Q X1 out_2 e_3 pos_4 l_5 l_5n l_5c r_6))
theorem parse_Parse.s17_ok (Z : ZT) (Q : PT) (X1 : Addr → Addr → Addr → OA → Nat → Nat → OA → PT) : Ok Tryd.prog Tryd.f24.ntmps Z parse_Parse.c12 (parse_Parse.q19 Z Q X1) (parse_Parse.j20 Z Q X1) := by
  intro E he ρ w a hr h
  obtain ⟨out_2, e2, h⟩ := atA_e h
  obtain ⟨e_3, e3, h⟩ := atA_e h
  obtain ⟨pos_4, e4, h⟩ := atA_e h
  obtain ⟨l_5, l_5n, l_5c, e5, h⟩ := atL_e h
  obtain ⟨r_6, e6, h⟩ := atP_e h
  exact ok_at [(2, (Value.pointer (some out_2))), (3, (Value.pointer (some e_3))), (4, (Value.pointer (some pos_4))), (5, (Value.slice l_5 l_5n l_5c)), (6, (Value.pointer r_6))] (okC parse_Parse.c12 (parse_Parse.q19 Z Q X1) (by kernel_rfl)) (puts_cons e2 (puts_cons e3 (puts_cons e4 (puts_cons e5 (puts_cons e6 (fun p hp => puts_nil hp)))))) (parse_Parse.s17_eq Z Q X1 ρ out_2 e_3 pos_4 l_5 l_5n l_5c r_6) he hr h
def parse_Parse.l14 (Z : ZT) (Q : PT) : Nat → Addr → Addr → Addr → OA → Nat → Nat → OA → PT
  | 0, _, _, _, _, _, _, _ => bad
  | k + 1, out_2, e_3, pos_4, l_5, l_5n, l_5c, r_6 => (parse_Parse.s17 Z Q (parse_Parse.l14 Z Q k) out_2 e_3 pos_4 l_5 l_5n l_5c r_6)
def parse_Parse.j21 (Z : ZT) (Q : PT) (k : Nat) : Fr → PT := (fun ρ => atA (ρ 2) fun out_2 => atA (ρ 3) fun e_3 => atA (ρ 4) fun pos_4 => atL (ρ 5) fun l_5 l_5n l_5c => atP (ρ 6) fun r_6 => (parse_Parse.l14 Z Q k out_2 e_3 pos_4 l_5 l_5n l_5c r_6))
def parse_Parse.j22 (Z : ZT) (Q : PT) : Fr → PT := (fun ρ => atA (ρ 2) fun out_2 => atA (ρ 3) fun e_3 => atA (ρ 4) fun pos_4 => atL (ρ 5) fun l_5 l_5n l_5c => atP (ρ 6) fun r_6 => (exK fun k => parse_Parse.l14 Z Q k out_2 e_3 pos_4 l_5 l_5n l_5c r_6))
theorem parse_Parse.o23 (Z : ZT) (Q : PT) : Ok Tryd.prog Tryd.f24.ntmps Z parse_Parse.c10 (parse_Parse.q16 Z Q) (parse_Parse.j22 Z Q) := by
  rw [parse_Parse.q13]
  refine Ok.imp (ok_loop (J := parse_Parse.j21 Z Q) ?_ ?_) ?_
  · intro ρ w h
    obtain ⟨out_2, e2, h⟩ := atA_e h
    obtain ⟨e_3, e3, h⟩ := atA_e h
    obtain ⟨pos_4, e4, h⟩ := atA_e h
    obtain ⟨l_5, l_5n, l_5c, e5, h⟩ := atL_e h
    obtain ⟨r_6, e6, h⟩ := atP_e h
    exact h
  · intro k
    refine Ok.imp (parse_Parse.s17_ok Z Q (parse_Parse.l14 Z Q k)) fun ρ w h => ?_
    obtain ⟨out_2, e2, h⟩ := atA_e h
    obtain ⟨e_3, e3, h⟩ := atA_e h
    obtain ⟨pos_4, e4, h⟩ := atA_e h
    obtain ⟨l_5, l_5n, l_5c, e5, h⟩ := atL_e h
    obtain ⟨r_6, e6, h⟩ := atP_e h
    show (parse_Parse.j20 Z Q (parse_Parse.l14 Z Q k)) ρ w
    simp only [parse_Parse.j20]
    rw [e2]
    rw [e3]
    rw [e4]
    rw [e5]
    rw [e6]
    exact h
  · intro ρ w h
    obtain ⟨out_2, e2, h⟩ := atA_e h
    obtain ⟨e_3, e3, h⟩ := atA_e h
    obtain ⟨pos_4, e4, h⟩ := atA_e h
    obtain ⟨l_5, l_5n, l_5c, e5, h⟩ := atL_e h
    obtain ⟨r_6, e6, h⟩ := atP_e h
    obtain ⟨k, h⟩ := h
    refine ⟨k, ?_⟩
    show (atA (ρ 2) fun out_2 => atA (ρ 3) fun e_3 => atA (ρ 4) fun pos_4 => atL (ρ 5) fun l_5 l_5n l_5c => atP (ρ 6) fun r_6 => (parse_Parse.l14 Z Q k out_2 e_3 pos_4 l_5 l_5n l_5c r_6)) w
    rw [e2]
    rw [e3]
    rw [e4]
    rw [e5]
    rw [e6]
    exact h
theorem parse_Parse.o24 (Z : ZT) (Q : PT) : Ok Tryd.prog Tryd.f24.ntmps Z parse_Parse.c5 (parse_Parse.q15 Z Q) (parse_Parse.j22 Z Q) := by
  rw [parse_Parse.q11]; exact ok_block (parse_Parse.o23 Z Q)
theorem parse_Parse.o25 (Z : ZT) (Q : PT) : Ok Tryd.prog Tryd.f24.ntmps Z parse_Parse.c3 (endQ Q) (parse_Parse.j22 Z Q) := by
  rw [parse_Parse.q7]; exact ok_seq (parse_Parse.o24 Z Q) (parse_Parse.s8_ok Z Q)
def parse_Parse.s26 (Z : ZT) (Q : PT) (s_0 : ByteArray) (out_2 : Addr) (e_3 : Addr) (pos_4 : Addr) (l_5 : OA) (l_5n l_5c : Nat) : PT :=
  (newC 77 [(Value.slice l_5 l_5n l_5c), (Value.int .i64 0), (Value.int .i64 ((s_0.size : Nat) : Int))] fun v63 => (exK fun k => parse_Parse.l14 Z Q k out_2 e_3 pos_4 l_5 l_5n l_5c (some v63)))
theorem parse_Parse.s26_eq (Z : ZT) (Q : PT) (ρ : Fr) (s_0 : ByteArray) (out_2 : Addr) (e_3 : Addr) (pos_4 : Addr) (l_5 : OA) (l_5n l_5c : Nat) : (comp Tryd.prog Z parse_Parse.c2 (thenK (parse_Parse.j22 Z Q) (endQ Q))) (puts ρ [(0, (Value.string s_0)), (2, (Value.pointer (some out_2))), (3, (Value.pointer (some e_3))), (4, (Value.pointer (some pos_4))), (5, (Value.slice l_5 l_5n l_5c))]) = parse_Parse.s26 Z Q s_0 out_2 e_3 pos_4 l_5 l_5n l_5c := by kernel_rfl
def parse_Parse.j27 (Z : ZT) (Q : PT) : Fr → PT := (fun ρ => atS (ρ 0) fun s_0 => atA (ρ 2) fun out_2 => atA (ρ 3) fun e_3 => atA (ρ 4) fun pos_4 => atL (ρ 5) fun l_5 l_5n l_5c => (parse_Parse.s26 Z Q s_0 out_2 e_3 pos_4 l_5 l_5n l_5c))
theorem parse_Parse.s26_ok (Z : ZT) (Q : PT) : Ok Tryd.prog Tryd.f24.ntmps Z parse_Parse.B (endQ Q) (parse_Parse.j27 Z Q) := by
  intro E he ρ w a hr h
  rw [parse_Parse.q4] at he ⊢
  obtain ⟨s_0, e0, h⟩ := atS_e h
  obtain ⟨out_2, e2, h⟩ := atA_e h
  obtain ⟨e_3, e3, h⟩ := atA_e h
  obtain ⟨pos_4, e4, h⟩ := atA_e h
  obtain ⟨l_5, l_5n, l_5c, e5, h⟩ := atL_e h
  exact ok_at [(0, (Value.string s_0)), (2, (Value.pointer (some out_2))), (3, (Value.pointer (some e_3))), (4, (Value.pointer (some pos_4))), (5, (Value.slice l_5 l_5n l_5c))] (ok_seq (okC parse_Parse.c2 _ (by kernel_rfl)) (parse_Parse.o25 Z Q)) (puts_cons e0 (puts_cons e2 (puts_cons e3 (puts_cons e4 (puts_cons e5 (fun p hp => puts_nil hp)))))) (parse_Parse.s26_eq Z Q ρ s_0 out_2 e_3 pos_4 l_5 l_5n l_5c) he hr h
def parse_Parse.JB (Z : ZT) (Q : PT) : Fr → PT := (parse_Parse.j27 Z Q)
theorem parse_Parse.okB (Z : ZT) (Q : PT) : Ok Tryd.prog Tryd.f24.ntmps Z parse_Parse.B (endQ Q) (parse_Parse.JB Z Q) := parse_Parse.s26_ok Z Q

/-! ### milepost/parse.Parse$1: function 37 -/
noncomputable def parse_Parse_c1.body : Code := bodyC Tryd.f37
def parse_Parse_c1.F (Z : ZT) (Q : PT) (t_0 : Addr) (t_1 : Addr) (t_2 : Addr) : PT :=
  (runR Tryd.prog (bi .recover #[] 20 [] []) fun v14 => (runT2 Tryd.prog (Instr.typeAssert v14 20 73 true) fun t15 t16 => (isN fun v17 => ((isB fun v18 => (newC 73 [(Value.int .i64 0), (Value.int .i64 0)] fun f19 => (stN 2 f19 v17 (pif v18 (st1 t_0 (Value.slice none 0 0) (ldI .i64 (f19.add 0) fun v20 => (st1 t_1 (Value.int .i64 v20) (ldI .i64 (f19.add 1) fun v21 => (st1 t_2 (Value.int .i64 v21) Q))))) Q)))) t16)) t15))
def parse_Parse_c1.q1 (Z : ZT) (Q : PT) : QF := bodyQ Tryd.prog [] (fun v => atU v Q)
theorem parse_Parse_c1.eq (Z : ZT) (Q : PT) (t_0 : Addr) (t_1 : Addr) (t_2 : Addr) : comp Tryd.prog Z parse_Parse_c1.body (parse_Parse_c1.q1 Z Q) (fr0 [(Value.pointer (some t_0)), (Value.pointer (some t_1)), (Value.pointer (some t_2))]) = parse_Parse_c1.F Z Q t_0 t_1 t_2 := by kernel_rfl
theorem parse_Parse_c1.vc (Z : ZT) (Q : PT) (t_0 : Addr) (t_1 : Addr) (t_2 : Addr) (w : World) (h : parse_Parse_c1.F Z Q t_0 t_1 t_2 w) : Calls Tryd.prog 37 ⟨[(Value.pointer (some t_0)), (Value.pointer (some t_1)), (Value.pointer (some t_2))]⟩ w fun e w' => (e = .returned (.tuple #[]) ∧ Q w') ∨ ∃ c, e = .panicked c ∧ Z c w' := by
  refine (calls_of_ok (args := [(Value.pointer (some t_0)), (Value.pointer (some t_1)), (Value.pointer (some t_2))]) (w := w) (rs := []) (fn := Tryd.f37) (c := parse_Parse_c1.body) Tryd.func37 (by kernel_rfl) (by kernel_rfl) (Nat.le_of_ble_eq_true (by kernel_rfl)) (okC parse_Parse_c1.body (parse_Parse_c1.q1 Z Q) (by kernel_rfl)) (by rw [parse_Parse_c1.eq]; exact h)).mono fun e w' hR => ?_
  cases e with
  | returned v =>
    obtain ⟨rfl, h⟩ := atU_e hR
    exact .inl ⟨rfl, h⟩
  | panicked c => exact .inr ⟨c, rfl, hR⟩
  | outgrown => exact hR.elim
theorem parse_Parse_c1.vc0 (Q : PT) (t_0 : Addr) (t_1 : Addr) (t_2 : Addr) (w : World) (h : parse_Parse_c1.F Z0 Q t_0 t_1 t_2 w) : Calls Tryd.prog 37 ⟨[(Value.pointer (some t_0)), (Value.pointer (some t_1)), (Value.pointer (some t_2))]⟩ w fun e w' => (e = .returned (.tuple #[]) ∧ Q w') :=
  (parse_Parse_c1.vc Z0 Q t_0 t_1 t_2 w h).mono fun _ _ hR => hR.elim id fun ⟨_, _, hz⟩ => hz.elim
theorem parse_Parse_c1.cal {Z : ZT} {Q : PT} {t_0 : Addr} {t_1 : Addr} {t_2 : Addr} {w : World} (h : parse_Parse_c1.F Z Q t_0 t_1 t_2 w) : Go.Proofs.YtllgjjldnnmjkaaDoor.cal Tryd.prog Z 37 [(Value.pointer (some t_0)), (Value.pointer (some t_1)), (Value.pointer (some t_2))] (isU Q) w := by
  refine (parse_Parse_c1.vc Z Q t_0 t_1 t_2 w h).mono fun e w' hR => ?_
  rcases hR with ⟨rfl, h⟩ | ⟨c, rfl, h⟩
  · show (isU Q) (.tuple #[]) w'
    exact ⟨rfl, h⟩
  · exact h

end Go.Proofs.YtllgjjldnnmjkaaDoor
end
section
set_option maxRecDepth 100000
namespace Go.Proofs.YtllgjjldnnmjkaaDoor
open Go.RowKit

/-! ### The closure -/
theorem clo_body : Tryd.f37.body = some parse_Parse_c1.body := by kernel_rfl
noncomputable def cloR : Code := sq1 parse_Parse_c1.body
noncomputable def cloC : Code := sq2 parse_Parse_c1.body
noncomputable def cloO : List Oper := match cloR with | .region _ ops _ => ops.toList.drop 1 | _ => []
noncomputable def clo0 : Oper := opAt cloR 0
theorem clo_shape : parse_Parse_c1.body = .seq (.region 0 ⟨clo0 :: cloO⟩ false) cloC := by kernel_rfl
theorem clo_eq (X : PT) (a b c : Addr) (rv : Value) : cops Tryd.prog Z0 (clo0 :: cloO) cloO (comp Tryd.prog Z0 cloC (endQ X)) (put (fr0 [.pointer (some a), .pointer (some b), .pointer (some c)]) 6 rv) =
    runT2 Tryd.prog (Instr.typeAssert rv 20 73 true) fun x y => (isN fun v => (isB fun ok => newC 73 [.int .i64 0, .int .i64 0] fun f => stN 2 f v (pif ok (st1 a (.slice none 0 0) (ldI .i64 (f.add 0) fun e => st1 b (.int .i64 e) (ldI .i64 (f.add 1) fun p => st1 c (.int .i64 p) X))) X)) y) x := by kernel_rfl
theorem clo_D {X : PT} {a b c : Addr} {u : FrameMode} {w : World} (h : runT2 Tryd.prog (Instr.typeAssert (recV u) 20 73 true) (fun x y => (isN fun v => (isB fun ok => newC 73 [.int .i64 0, .int .i64 0] fun f => stN 2 f v (pif ok (st1 a (.slice none 0 0) (ldI .i64 (f.add 0) fun e => st1 b (.int .i64 e) (ldI .i64 (f.add 1) fun p => st1 c (.int .i64 p) X))) X)) y) x) w) :
    CallsD Tryd.prog 37 ⟨[.pointer (some a), .pointer (some b), .pointer (some c)]⟩ u w fun e u' w' => e = .returned (.tuple #[]) ∧ u' = recU u ∧ X w' :=
  callsD_closure (Z := Z0) hNames hEls hMix (d0 := 6) Tryd.func37 (clo_body.trans (congrArg some clo_shape)) (by kernel_rfl) (by kernel_rfl) (by kernel_rfl) (by kernel_rfl) (Nat.le_of_ble_eq_true (by kernel_rfl)) (by kernel_rfl) (by kernel_rfl) (by rw [clo_eq]; exact h)
theorem assert_nil (w : World) : (Instr.typeAssert .nilIface 20 73 true).run Tryd.prog w = .ok (.tuple #[.agg ⟨[.int .i64 0, .int .i64 0]⟩, .bool false]) w := by
  kernel_rfl
theorem assert_fault (e p : Int) (w : World) : (Instr.typeAssert (.iface 73 (.agg ⟨[.int .i64 e, .int .i64 p]⟩)) 20 73 true).run Tryd.prog w = .ok (.tuple #[.agg ⟨[.int .i64 e, .int .i64 p]⟩, .bool true]) w := by
  kernel_rfl

/-! ### The end -/
def parseRs : List ResultVar := [.cell 2 29, .cell 3 24, .cell 4 3]
theorem ret_eq (ρ : Fr) (a b c : Addr) (R : Value → PT) : retV Tryd.prog parseRs (puts ρ [(2, .pointer (some a)), (3, .pointer (some b)), (4, .pointer (some c))]) R = ldL a fun x n m => ldI .i64 b fun e => ldI .i64 c fun p => R (.tuple #[.slice x n m, .int .i64 e, .int .i64 p]) := by kernel_rfl
/-- What is asked of the call's result. -/
def ParseR (Q : Option Addr → Nat → Nat → Int → Int → PT) : Value → PT := isT3 fun x y z => (isL fun r0 r0n r0c => (isI .i64 fun r1 => (isI .i64 fun r2 => Q r0 r0n r0c r1 r2) z) y) x
section
variable {Q : Option Addr → Nat → Nat → Int → Int → PT} {Z : List PanicEntry → PT} {w : World} {ρ : Fr} {ab bb cb : Nat} {s3 : Sl3} {e0 p0 : Int} {v0 : Value}
abbrev clo (ab bb cb : Nat) : List Value := [.pointer (some ⟨ab, 0, none⟩), .pointer (some ⟨bb, 0, none⟩), .pointer (some ⟨cb, 0, none⟩)]
theorem fix3 (e2 : ρ 2 = .pointer (some ⟨ab, 0, none⟩)) (e3 : ρ 3 = .pointer (some ⟨bb, 0, none⟩)) (e4 : ρ 4 = .pointer (some ⟨cb, 0, none⟩)) : puts ρ [(2, .pointer (some ⟨ab, 0, none⟩)), (3, .pointer (some ⟨bb, 0, none⟩)), (4, .pointer (some ⟨cb, 0, none⟩))] = ρ :=
  puts_same (puts_cons e2 (puts_cons e3 (puts_cons e4 fun p hp => puts_nil hp)))
theorem end_ok (e2 : ρ 2 = .pointer (some ⟨ab, 0, none⟩)) (e3 : ρ 3 = .pointer (some ⟨bb, 0, none⟩)) (e4 : ρ 4 = .pointer (some ⟨cb, 0, none⟩))
    (h1 : IsB w ab [.slice s3.a s3.n s3.c]) (h2 : IsB w bb [.int .i64 e0]) (h3 : IsB w cb [.int .i64 p0]) (hq : ∀ w', Ext w w' → Q s3.a s3.n s3.c e0 p0 w') : endD Tryd.prog 37 (clo ab bb cb) parseRs ρ Z (ParseR Q) .returning w := by
  refine (clo_D (X := fun w' => Ext w w') (u := .returning) (w := w) ?_).mono fun e u' w' ⟨he, hu, hx⟩ => ?_
  · refine ⟨_, _, w, assert_nil w, _, rfl, _, rfl, ?_⟩
    refine newC_B fun w1 b1 k1 s1 => ?_
    refine stN_B b1 (by simp) rfl (by simp [Value.oneCell']) fun w2 b2 k2 => ?_
    exact k1.trans_new k2 fun q hq' g => by omega
  · subst he hu
    show retV _ _ _ _ w'
    rw [← fix3 e2 e3 e4, ret_eq]
    refine ldL_of ((h1.ext hx).cell 0) (ldI_of ((h2.ext hx).cell 0) (ldI_of ((h3.ext hx).cell 0) ?_))
    exact ⟨_, _, _, rfl, _, _, _, rfl, _, rfl, _, rfl, hq w' hx⟩
theorem end_no (e2 : ρ 2 = .pointer (some ⟨ab, 0, none⟩)) (e3 : ρ 3 = .pointer (some ⟨bb, 0, none⟩)) (e4 : ρ 4 = .pointer (some ⟨cb, 0, none⟩)) {x y z : Value} {e p : Int}
    (h1 : IsB w ab [x]) (h2 : IsB w bb [y]) (h3 : IsB w cb [z]) (hn : ab ≠ bb ∧ ab ≠ cb ∧ bb ≠ cb) (hq : ∀ w', Keep (fun k => k = ab ∨ k = bb ∨ k = cb) w w' → Q none 0 0 e p w') : endD Tryd.prog 37 (clo ab bb cb) parseRs ρ Z (ParseR Q) (.panicking (faultV e p)) w := by
  refine (clo_D (X := fun w' => IsB w' ab [.slice none 0 0] ∧ IsB w' bb [.int .i64 e] ∧ IsB w' cb [.int .i64 p] ∧ Keep (fun k => k = ab ∨ k = bb ∨ k = cb) w w') (u := .panicking (faultV e p)) (w := w) ?_).mono fun e' u' w' ⟨he, hu, hx⟩ => ?_
  · refine ⟨_, _, w, assert_fault e p w, _, rfl, _, rfl, ?_⟩
    refine newC_B fun w1 b1 k1 s1 => ?_
    refine stN_B b1 (by simp) rfl (by simp [Value.oneCell']) fun w2 b2 k2 => ?_
    have l1 := h1.lt; have l2 := h2.lt; have l3 := h3.lt
    replace b2 : IsB w2 w.heap.size [.int .i64 e, .int .i64 p] := by simpa [lay] using b2
    have k02 : Ext w w2 := k1.trans_new k2 fun q hq' g => by omega
    rw [pif_true]
    refine st1_B (h1.ext k02) (by simp) rfl fun w3 b3 k3 => ?_
    rw [add_mk]
    refine ldI_B (b2.keep k3 (by omega)) rfl ?_
    refine st1_B ((h2.ext k02).keep k3 (by omega)) (by simp) rfl fun w4 b4 k4 => ?_
    rw [add_mk]
    refine ldI_B ((b2.keep k3 (by omega)).keep k4 (by omega)) rfl ?_
    refine st1_B (((h3.ext k02).keep k3 (by omega)).keep k4 (by omega)) (by simp) rfl fun w5 b5 k5 => ?_
    exact ⟨(b3.keep k4 (by omega)).keep k5 (by omega), b4.keep k5 (by omega), b5, k02.ext.trans ((k3.mono fun q _ g => .inl g).trans ((k4.mono fun q _ g => .inr (.inl g)).trans (k5.mono fun q _ g => .inr (.inr g))))⟩
  · subst he hu
    obtain ⟨g1, g2, g3, g4⟩ := hx
    show retV _ _ _ _ w'
    rw [← fix3 e2 e3 e4, ret_eq]
    refine ldL_of (g1.cell 0) (ldI_of (g2.cell 0) (ldI_of (g3.cell 0) ?_))
    exact ⟨_, _, _, rfl, _, _, _, rfl, _, rfl, _, rfl, hq w' g4⟩
end
end Go.Proofs.YtllgjjldnnmjkaaDoor
end
section
set_option maxRecDepth 100000
namespace Go.Proofs.YtllgjjldnnmjkaaDoor
open Go.RowKit

section
variable {l : List Tk} {en : Int}
theorem tailS_at {x y : Rw} {i j : Nat} (h : tailS l en x i = .ok y j) : j = i := by
  unfold tailS at h
  split at h
  · cases h
  · cases h; rfl
theorem actS_at {x y : Rw} {i j : Nat} (h : actS l en x i = .ok y j) : i < j := by
  unfold actS at h
  cases hw : wantS l en 6 i with
  | no e p => rw [hw] at h; cases h
  | ok t a =>
    rw [hw] at h
    simp only at h
    have ha := (wantS_at hw).1
    split at h
    · have := tailS_at h; omega
    · split at h
      · cases hf : figS l en (a + 1) with
        | no e p => rw [hf] at h; cases h
        | ok f b =>
          rw [hf] at h
          simp only at h
          have := (figS_at hf).1
          have := tailS_at h
          omega
      · cases h
theorem clausesS_at : ∀ {m i j : Nat} {cs r : List Cl}, clausesS l en m i cs = .ok r j → i ≤ j
  | 0, i, j, cs, r, h => by unfold clausesS at h; cases h; exact Nat.le_refl _
  | m + 1, i, j, cs, r, h => by
    unfold clausesS at h
    split at h
    · cases hc : clauseS l en (cs.map Cl.word) i with
      | no e p => rw [hc] at h; cases h
      | ok c k =>
        rw [hc] at h
        simp only at h
        have := (clauseS_at hc).1
        have := clausesS_at h
        omega
    · cases h; exact Nat.le_refl _
theorem lineS_at {x : Rw} {i j : Nat} (h : lineS l en i = .ok x j) : i < j := by
  unfold lineS at h
  simp only at h
  split at h
  · have := actS_at h; omega
  · cases hf : figS l en i with
    | no e p => rw [hf] at h; cases h
    | ok f a =>
      rw [hf] at h
      simp only at h
      have := (figS_at hf).1
      cases hc : clausesS l en (l.length - a) a [] with
      | no e p => rw [hc] at h; cases h
      | ok cs b =>
        rw [hc] at h
        simp only at h
        have := clausesS_at hc
        have := actS_at h
        omega
end

section
variable {Z : List PanicEntry → PT} {X : PT} {w0 : World} {lo bt rb ab bb cb : Nat} {ta : Option Addr} {tc : Nat} {l : List Tk} {en : Int} {e0 p0 : Int}
theorem p_loop (hab : w0.heap.size ≤ ab ∧ w0.heap.size ≤ bb ∧ w0.heap.size ≤ cb ∧ w0.heap.size ≤ rb) (hlo : ab < lo ∧ bb < lo ∧ cb < lo) (hbt : ab < bt) (hne : ab ≠ bb ∧ ab ≠ cb ∧ bb ≠ cb ∧ ab ≠ rb ∧ bb ≠ rb ∧ cb ≠ rb) :
    ∀ (m i : Nat) (out : List Rw) (s3 : Sl3) (w : World), l.length ≤ i + m → RdAt w lo bt rb l en i → Lst w 79 4 Tk.enc ta l.length tc l → (∀ k, inB ta k → k < lo ∧ k ≠ rb ∧ bt ≤ k) →
      IsB w ab [.slice s3.a s3.n s3.c] → IsB w bb [.int .i64 e0] → IsB w cb [.int .i64 p0] → RwsAt w (fun k => lo ≤ k) s3 out → out.length ≤ 64 → Ext w0 w →
      (∀ e p w' x, linesS l en m i out = .no e p → IsB w' ab [x] → IsB w' bb [.int .i64 e0] → IsB w' cb [.int .i64 p0] → Ext w0 w' → Z (faultV e p) w') →
      (∀ out' j s' w', linesS l en m i out = .ok out' j → IsB w' ab [.slice s'.a s'.n s'.c] → IsB w' bb [.int .i64 0] → IsB w' cb [.int .i64 0] → RwsAt w' (fun k => lo ≤ k) s' out' → Ext w0 w' → X w') →
      parse_Parse.l14 Z X (m + 1) ⟨ab, 0, none⟩ ⟨bb, 0, none⟩ ⟨cb, 0, none⟩ ta l.length tc (some ⟨rb, 0, none⟩) w
  | m, i, out, s3, w, hm, hr, hl, hta, h1, h2, h3, hrw, hout, ke, hz, hq => by
    have hshort := hr.short
    unfold parse_Parse.l14 parse_Parse.s17
    simp only [nn_some, add_mk, Nat.zero_add]
    refine ldRd hr ?_
    rw [pif_dec]
    split
    · rename_i hi
      have hi : i < l.length := by omega
      cases m with
      | zero => omega
      | succ m =>
        refine ldRd hr ?_
        have hx := List.getElem?_eq_getElem hi
        refine ixS_Lst Tk.enc_len hl hx fun b hb hc => ?_
        refine ldI_of (by rw [add_mk]; exact hc 0 _ rfl) ?_
        have hpk : peekS l en i = l[i] := by unfold peekS; rw [if_pos hi, hx]; rfl
        unfold linesS at hz hq
        rw [if_pos hi] at hz hq
        rw [pif_beq]
        split
        · rename_i h7
          rw [if_pos (by rw [hpk]; exact h7)] at hz hq
          refine ldRd hr ?_
          refine stRd (n := i + 1) hr (wrap_nat1 (by omega)) (by omega) fun w1 r1 k1 => ?_
          refine p_loop hab hlo hbt hne m (i + 1) out s3 w1 (by omega) r1 (hl.keep k1 fun q hq' g => (hta q hq').2.1 g) hta (h1.keep k1 (by omega)) (h2.keep k1 (by omega)) (h3.keep k1 (by omega)) (hrw.keep k1 fun q g g' => by have := hr.lt; omega) hout (ke.own hab.2.2.2 k1) hz hq
        · rename_i h7
          rw [if_neg (by rw [hpk]; exact h7)] at hz hq
          refine ldL_of (h1.cell 0) ?_
          rw [pif_beq]
          have hn3 := hrw.len
          split
          · rename_i h64
            rw [if_pos (by omega)] at hz
            refine parse_reader_fail.cal (fail_F hr fun w1 k1 => ?_)
            exact hz _ _ w1 _ rfl (h1.ext k1) (h2.ext k1) (h3.ext k1) (ke.trans k1)
          · rename_i h64
            rw [if_neg (by omega)] at hz hq
            refine drawn_of (fun w' => IsB w' ab [.slice s3.a s3.n s3.c]) h1.drew ?_
            have hr := hr.ext (Keep.refl.drew : Ext w w.drew)
            have hl := hl.ext (Keep.refl.drew : Ext w w.drew)
            have h1 := h1.drew
            have h2 := h2.drew
            have h3 := h3.drew
            have hrw := hrw.keep (Keep.refl.drew : Ext w w.drew) fun _ _ g => g
            have ke := ke.drew
            generalize w.drew = w at *
            refine hL_of (fun w' hw' => hw'.cell 0) ?_
            refine parse_reader_line.cal (line_F hr (by omega) (fun e p w1 hh k1 => ?_) fun x j hh => ?_)
            · rw [hh] at hz
              exact hz _ _ w1 _ rfl (h1.keep k1 (by omega)) (h2.keep k1 (by omega)) (h3.keep k1 (by omega)) (ke.own hab.2.2.2 k1)
            · rw [hh] at hz hq
              simp only at hz hq
              have hadv := lineS_at hh
              intro sc w1 k1 r1 c1
              have g1 := h1.keep k1 (by omega)
              refine sAnd_of g1 (cnd_of (rwEnc_len _) ?_)
              refine newC_B fun w2 b2 k2 s2 => ?_
              rw [List.append_nil] at b2
              have g2 := g1.ext k2
              refine sAnd_of g2 ?_
              have hrw2 : RwsAt w2 (fun k => lo ≤ k) s3 out := (hrw.keep k1 fun q g g' => by have := hr.lt; omega).keep k2 fun _ _ g => g
              have hc2 : ClsAt w2 (fun k => lo ≤ k ∧ ¬ inB s3.a k) sc x.clauses := (c1.mono (G := fun k => lo ≤ k ∧ ¬ inB s3.a k) fun k hk hf => ⟨Nat.le_trans hr.lo_le hf, fun g => by
                obtain ⟨ps, p1, p2, p3, p4⟩ := hrw
                have := p2.lt g
                omega⟩).keep k2 fun _ _ g => g
              have z1 := k1.size
              have z2 := k2.size
              have hlw := hr.lo_le
              refine app_rws hrw2 hc2 (fun k hk => by omega) (by omega) (fun q u hu => by rw [add_mk, Nat.zero_add, b2.cell]; exact hu) fun s' w3 l3 k3 i3 => ?_
              obtain ⟨ps, p1, p2, p3, p4⟩ := hrw2
              have nF : ∀ q, inB s3.a q → lo ≤ q := p3
              have g3 := g2.keep k3 fun g => by have := nF _ g; omega
              refine sAnd_of g3 ?_
              refine st1_B g3 (by simp) rfl fun w4 b4 k4 => ?_
              have kk : Ext w0 w4 := (((ke.own hab.2.2.2 k1).trans k2).trans_new k3 fun q hq' g => by have := nF q g; have := hab.1; omega).own hab.1 k4
              refine p_loop hab hlo hbt hne m j (out ++ [x]) s' w4 (by omega) (((r1.ext k2).keep k3 fun q g => nF q g).low k4 hbt hne.2.2.2.1) ?_ hta b4 ?_ ?_ ?_ ?_ kk hz hq
              · exact (((((hl.keep k1 fun q hq' g => (hta q hq').2.1 g).ext k2)).keep k3 fun q hq' g => by have := nF q g; have := (hta q hq').1; omega)).keep k4 fun q hq' g => by have := (hta q hq').2.2; omega
              · exact ((((h2.keep k1 (by omega)).ext k2).keep k3 fun g => by have := nF _ g; omega)).keep k4 (by omega)
              · exact ((((h3.keep k1 (by omega)).ext k2).keep k3 fun g => by have := nF _ g; omega)).keep k4 (by omega)
              · exact l3.keep k4 fun q g g' => by omega
              · simp only [List.length_append, List.length_cons, List.length_nil]; omega
    · rename_i hi
      have hls : linesS l en m i out = .ok out i := by
        cases m with
        | zero => rfl
        | succ m => unfold linesS; rw [if_neg (by omega)]
      unfold parse_Parse.s8
      refine ldL_of (h1.cell 0) ?_
      refine st1_B h1 (by simp) rfl fun w1 b1 k1 => ?_
      refine st1_B (h2.keep k1 (by omega)) (by simp) rfl fun w2 b2 k2 => ?_
      refine st1_B ((h3.keep k1 (by omega)).keep k2 (by omega)) (by simp) rfl fun w3 b3 k3 => ?_
      exact hq out i s3 w3 hls ((b1.keep k2 (by omega)).keep k3 (by omega)) (b2.keep k3 (by omega)) b3 (((hrw.keep k1 fun q g g' => by omega).keep k2 fun q g g' => by omega).keep k3 fun q g g' => by omega) (((ke.own hab.1 k1).own hab.2.1 k2).own hab.2.2.1 k3)
end
end Go.Proofs.YtllgjjldnnmjkaaDoor
end
section
set_option maxRecDepth 100000
namespace Go.Proofs.YtllgjjldnnmjkaaDoor
open Go.RowKit

theorem at3_eq (Q : Option Addr → Nat → Nat → Int → Int → PT) : (fun v => at3 v fun x y z => atL x fun xa xn xc => atI .i64 y fun ya => atI .i64 z fun za => Q xa xn xc ya za) = ParseR Q := by
  funext v w
  refine propext ⟨fun h => ?_, fun h => ?_⟩
  · obtain ⟨x, y, z, rfl, h⟩ := at3_e h
    obtain ⟨a, n, c, rfl, h⟩ := atL_e h
    obtain ⟨e, rfl, h⟩ := atI_e h
    obtain ⟨p, rfl, h⟩ := atI_e h
    exact ⟨_, _, _, rfl, _, _, _, rfl, _, rfl, _, rfl, h⟩
  · obtain ⟨_, _, _, rfl, _, _, _, rfl, _, rfl, _, rfl, h⟩ := h
    exact h
theorem lexAll_len (s : ByteArray) : ∀ (m i : Nat) (out : List Tk), (lexAll s m i out).1.length ≤ out.length + (s.size - i) := by
  intro m
  induction m with
  | zero => intro i out; unfold lexAll; simp
  | succ m ih =>
    intro i out
    unfold lexAll
    split
    · rename_i h
      split
      · simp
      · rename_i he
        have hn := lexStep_next h (by simpa using he)
        have := ih (lexStep s i).2.1 (push out (lexStep s i).1)
        have hp : (push out (lexStep s i).1).length ≤ out.length + 1 := by
          unfold push; split <;> simp
        omega
    · simp
theorem lexAll_pos (s : ByteArray) : ∀ (m i : Nat) (out : List Tk), (lexAll s m i out).2.1 = 0 → (lexAll s m i out).2.2 = 0 := by
  intro m
  induction m with
  | zero => intro i out h; unfold lexAll; rfl
  | succ m ih =>
    intro i out h
    unfold lexAll at h ⊢
    split
    · rename_i h1
      rw [if_pos h1] at h
      split
      · rename_i he
        rw [if_pos he] at h
        exact absurd h he
      · rename_i he
        rw [if_neg he] at h
        exact ih _ _ h
    · rfl
theorem lexS_pos {s : ByteArray} (h : (lexS s).2.1 = 0) : (lexS s).2.2 = 0 := by
  unfold lexS at h ⊢
  split
  · rename_i hb; rw [if_pos hb] at h; exact absurd h (by decide)
  · rename_i hb; rw [if_neg hb] at h; exact lexAll_pos _ _ _ _ h
section
variable {Z : List PanicEntry → PT} {Q : Option Addr → Nat → Nat → Int → Int → PT} {s : ByteArray} {w : World}
def X0 (s : ByteArray) (w0 : World) (s' : ByteArray) (o e p : Addr) (l : Option Addr) (n c : Nat) : PT := fun w => s' = s ∧ n = (lexS s).1.length ∧ (lexS s).2.1 = 0 ∧ ∃ ab bb cb, o = ⟨ab, 0, none⟩ ∧ e = ⟨bb, 0, none⟩ ∧ p = ⟨cb, 0, none⟩ ∧ w0.heap.size ≤ ab ∧ ab < bb ∧ bb < cb ∧ cb < w.heap.size ∧
  IsB w ab [.slice none 0 0] ∧ IsB w bb [.int .i64 0] ∧ IsB w cb [.int .i64 0] ∧ Lst w 79 4 Tk.enc l n c (lexS s).1 ∧ (∀ k, inB l k → cb < k) ∧ Ext w0 w
theorem parse_cal (hq : ∀ (s3 : Sl3) w', RwsAt w' (fun k => w.heap.size ≤ k) s3 (parseS s).1 → Ext w w' → Q s3.a s3.n s3.c (parseS s).2.1 (parseS s).2.2 w') : cal Tryd.prog Z 24 [.string s] (ParseR Q) w := by
  refine calls_of_defer hNames hEls hMix (f := 24) (l := [parse_Parse.a0, parse_Parse.a1, parse_Parse.a2]) (B := parse_Parse.B) (id := 4) (t := 17) (k := 5) (g := 37) (caps := #[.tmp 2, .tmp 3, .tmp 4]) (mk := parse_Parse.mk) (df := parse_Parse.df) (rs := parseRs) (R := ParseR Q) (K := parse_Parse.KA (X0 s w)) Tryd.func24 ((by kernel_rfl : Tryd.f24.body = some parse_Parse.body).trans (congrArg some parse_Parse.shape)) (by kernel_rfl) (Nat.le_of_ble_eq_true (by kernel_rfl)) (by kernel_rfl) (by kernel_rfl) (by kernel_rfl) (by kernel_rfl) (by kernel_rfl) (by kernel_rfl) (Nat.le_of_ble_eq_true (by kernel_rfl)) (by decide) (by kernel_rfl) (by kernel_rfl) (by kernel_rfl) (by kernel_rfl) ?_ ?_
  · intro ρ w1 h
    obtain ⟨s', e0, h⟩ := atS_e h
    obtain ⟨o, e2, h⟩ := atA_e h
    obtain ⟨e, e3, h⟩ := atA_e h
    obtain ⟨p, e4, h⟩ := atA_e h
    obtain ⟨l, n, c, e5, h⟩ := atL_e h
    obtain ⟨rfl, rfl, hz0, ab, bb, cb, rfl, rfl, rfl, z1, z2, z3, z4, h1, h2, h3, hl, hta, ke⟩ := h
    refine ⟨fun c => endD Tryd.prog 37 (clo ab bb cb) parseRs ρ Z (ParseR Q) (.panicking c), endD Tryd.prog 37 (clo ab bb cb) parseRs ρ Z (ParseR Q) .returning, _, parse_Parse.okB _ _, ?_, ?_, ?_⟩
    · show (atS (ρ 0) fun s_0 => atA (ρ 2) fun out_2 => atA (ρ 3) fun e_3 => atA (ρ 4) fun pos_4 => atL (ρ 5) fun l_5 l_5n l_5c => (parse_Parse.s26 _ _ s_0 out_2 e_3 pos_4 l_5 l_5n l_5c)) w1
      rw [e0, e2, e3, e4, e5]
      show parse_Parse.s26 _ _ s' _ _ _ l _ c w1
      unfold parse_Parse.s26
      have hlen := lexAll_len s' s'.size 0 []
      have hsz : (lexS s').1.length ≤ 10000 ∧ s'.size ≤ 4096 := by
        unfold lexS at hz0 ⊢
        split
        · rename_i hb; rw [if_pos hb] at hz0; exact absurd hz0 (by decide)
        · simp at hlen; exact ⟨by omega, by omega⟩
      refine newC_B fun w2 b2 k2 s2 => ?_
      refine exK_of ((lexS s').1.length + 1) ?_
      refine p_loop (w0 := w) (lo := w2.heap.size) (bt := cb + 1) (rb := w1.heap.size) (l := (lexS s').1) (en := s'.size) (e0 := 0) (p0 := 0) ⟨z1, by omega, by omega, by have := ke.size; omega⟩ ⟨by omega, by omega, by omega⟩ (by omega) ⟨by omega, by omega, by omega, by omega, by omega, by omega⟩ (lexS s').1.length 0 [] ⟨none, 0, 0⟩ w2 (by omega) ⟨⟨l, c, b2, hl.ext k2, fun k hk => ⟨by have := hl.lt hk; omega, by have := hl.lt hk; omega, hta k hk⟩⟩, by omega, Nat.le_refl _, hsz.1, by omega⟩ (hl.ext k2) (fun k hk => ⟨by have := hl.lt hk; omega, by have := hl.lt hk; omega, hta k hk⟩) (h1.ext k2) (h2.ext k2) (h3.ext k2) RwsAt.nil (by simp) (ke.trans k2) ?_ ?_
      · intro e p w' x hh g1 g2 g3 kk
        have hps : parseS s' = ([], e, p) := by unfold parseS; rw [if_neg (by simp [hz0]), hh]
        refine end_no e2 e3 e4 g1 g2 g3 ⟨by omega, by omega, by omega⟩ fun w'' k'' => ?_
        have := hq ⟨none, 0, 0⟩ w'' (by rw [hps]; exact RwsAt.nil) (kk.trans_new k'' fun q hq' g => by omega)
        rw [hps] at this
        exact this
      · intro out j s3 w' hh g1 g2 g3 gr kk
        have hps : parseS s' = (out, 0, 0) := by unfold parseS; rw [if_neg (by simp [hz0]), hh]
        refine end_ok e2 e3 e4 g1 g2 g3 fun w'' k'' => ?_
        have := hq s3 w'' (by rw [hps]; exact (gr.mono fun k _ hk => by have := ke.size; have := k2.size; omega).keep k'' fun _ _ g => g) (kk.trans k'')
        rw [hps] at this
        exact this
    · intro w' hw
      show endD Tryd.prog _ [ρ 2, ρ 3, ρ 4] _ _ _ _ _ _
      rw [e2, e3, e4]; exact hw
    · intro c w' hw
      show endD Tryd.prog _ [ρ 2, ρ 3, ρ 4] _ _ _ _ _ _
      rw [e2, e3, e4]; exact hw
  · rw [show bodyQ Tryd.prog parseRs (ParseR Q) = parse_Parse.q1 Z Q by rw [← at3_eq]; rfl, parse_Parse.A_eq]
    unfold parse_Parse.A
    refine newC_B fun w1 b1 k1 s1 => ?_
    refine newC_B fun w2 b2 k2 s2 => ?_
    refine newC_B fun w3 b3 k3 s3 => ?_
    refine lex_Tokens.cal (tokens_F fun a c w4 l4 k4 h4 => ?_)
    have n1 := b1.lt
    have n2 := b2.lt
    have n3 := b3.lt
    have y1 := k1.size
    have y2 := k2.size
    have y3 := k3.size
    refine st1_B (b2.ext (k3.trans k4)) (by simp) rfl fun w5 b5 k5 => ?_
    refine st1_B ((b3.ext k4).keep k5 (by omega)) (by simp) rfl fun w6 b6 k6 => ?_
    have g1 := (((b1.ext k2).ext k3).ext k4 |>.keep k5 (by omega)).keep k6 (by omega)
    have g2 := b5.keep k6 (by omega)
    have k06 : Ext w w6 := (((k1.trans k2).trans (k3.trans k4)).trans_new k5 fun q hq' g => by omega).trans_new k6 fun q hq' g => by omega
    have l6 := (l4.keep k5 fun q hq' g => by have := h4 q hq'; omega).keep k6 fun q hq' g => by have := h4 q hq'; omega
    refine ldI_of (g2.cell 0) ?_
    cases hb : (lexS s).2.1 != 0 with
    | true =>
      rw [pif_true]
      have hne : (lexS s).2.1 ≠ 0 := by simpa using hb
      have hps : parseS s = ([], (lexS s).2.1, (lexS s).2.2) := by unfold parseS; rw [if_pos hne]
      refine drawn_of (fun w' => IsB w' w1.heap.size [.int .i64 (lexS s).2.1] ∧ IsB w' w2.heap.size [.int .i64 (lexS s).2.2]) ⟨g2.drew, b6.drew⟩ ?_
      replace g1 := g1.drew
      replace g2 := g2.drew
      replace b6 := b6.drew
      replace k06 := k06.drew
      clear l6 k6
      generalize w6.drew = w6 at *
      refine hI_of (fun w' hw' => hw'.1.cell 0) ?_
      refine hI_of (fun w' hw' => hw'.2.cell 0) ?_
      refine st1_B g1 (by simp) rfl fun w7 b7 k7 => ?_
      refine sAnd_of ⟨g2.keep k7 (by omega), b6.keep k7 (by omega)⟩ ?_
      refine st1_B (g2.keep k7 (by omega)) (by simp) rfl fun w8 b8 k8 => ?_
      refine sAnd_of ⟨b8, (b6.keep k7 (by omega)).keep k8 (by omega)⟩ ?_
      refine st1_B ((b6.keep k7 (by omega)).keep k8 (by omega)) (by simp) rfl fun w9 b9 k9 => ?_
      refine ldL_of (((b7.keep k8 (by omega)).keep k9 (by omega)).cell 0) (ldI_of ((b8.keep k9 (by omega)).cell 0) (ldI_of (b9.cell 0) ?_))
      have := hq ⟨none, 0, 0⟩ w9 (by rw [hps]; exact RwsAt.nil) (((k06.trans_new k7 fun q hq' g => by omega).trans_new k8 fun q hq' g => by omega).trans_new k9 fun q hq' g => by omega)
      rw [hps] at this
      first
        | exact this
        | exact ⟨_, _, _, rfl, _, _, _, rfl, _, rfl, _, rfl, this⟩
    | false =>
      rw [pif_false]
      have hz : (lexS s).2.1 = 0 := by simpa using hb
      have hz2 : (lexS s).2.2 = 0 := lexS_pos hz
      refine ⟨rfl, rfl, hz, _, _, _, rfl, rfl, rfl, by omega, by omega, by omega, by have := k4.size; have := k5.size; have := k6.size; omega, g1, ?_, ?_, l6, fun k hk => by have := h4 k hk; omega, k06⟩
      · rw [hz] at g2; exact g2
      · rw [hz2] at b6; exact b6
end
end Go.Proofs.YtllgjjldnnmjkaaDoor
end
section
set_option maxRecDepth 100000
namespace Go.Proofs.YtllgjjldnnmjkaaDoor
open Go.RowKit
/-- Entries in a slice. -/
abbrev fE (o : Sl3) (l : List En) : Fct := fL 35 12 En.enc o.a o.n o.c l
section
variable {Z : List PanicEntry → PT} {Q : Option Addr → Nat → Nat → Int → Int → PT} {W w : World} {s : Sl3} {R : List En × Int × Int} {size : Int}
theorem Sep.eNil {M : List Fct} (h : Sep (fun _ => False) W w M) : Sep (fun _ => False) W w [fE ⟨none, 0, 0⟩ []] :=
  ⟨h.kept, fun f hf => by rw [List.mem_singleton.1 hf]; exact Lst.nil, fun f hf k hk => by
    rw [List.mem_singleton.1 hf] at hk
    obtain ⟨p, hp, _⟩ := hk
    exact absurd hp (by simp), by simp⟩
theorem snRows_loop {ps : List (Rw × Sl3)} (hr : Ro W 8 rwEnc s.a s.n s.c ps) (hp : ∀ p ∈ ps, ClsO W p.2 p.1.clauses) (hq : ∀ w' o, Sep (fun _ => False) W w' [fE o R.1] → Q o.a o.n o.c R.2.1 R.2.2 w') :
    ∀ (m j : Nat) (had : Bool) (out : List En) (o : Sl3) (w : World), ps.length = j + m → j ≤ 64 → out.length = j → snRows ((ps.drop j).map Prod.fst) j had out size = R → Sep (fun _ => False) W w [fE o out] →
    sense_Check.l19 Z Q (m + 1) size o.a o.n o.c had s.a s.n s.c ((s.n : Nat) : Int) j w := by
  have hmax := hr.max
  have hn := hr.1
  intro m
  induction m with
  | zero =>
    intro j had out o w hm hj ho he h
    unfold sense_Check.l19 sense_Check.s80
    rw [pif_dec, if_neg (by omega)]
    unfold sense_Check.s9
    rw [List.drop_eq_nil_of_le (by omega)] at he
    simp only [List.map_nil] at he
    unfold snRows at he
    cases had with
    | true => rw [if_pos rfl] at he; subst he; exact hq w o h
    | false => rw [if_neg (by decide)] at he; subst he; exact hq w ⟨none, 0, 0⟩ h.eNil
  | succ m ih =>
    intro j had out o w hm hj ho he h
    have hx := List.getElem?_eq_getElem (show j < ps.length by omega)
    have hmem := List.getElem_mem (show j < ps.length by omega)
    have hd := List.drop_eq_getElem_cons (show j < ps.length by omega)
    unfold sense_Check.l19 sense_Check.s80
    rw [pif_dec, if_pos (by omega)]
    unfold sense_Check.s76
    refine ixS_Ro (hr.ext h.kept) hx fun ad hcell => ?_
    refine ldN_at hcell rfl ?_
    rw [hd] at he
    have hcls := hp _ hmem
    generalize ps[j] = q at hx hd he hcls
    obtain ⟨r, sr⟩ := q
    simp only [List.map_cons] at he
    unfold snRows at he
    simp only at he hcls
    refine h.new fun w1 rb h1 k1 => ?_
    refine h1.stN 0 rfl (by simp) rfl (rwEnc_one _) (lay_full rfl rfl) fun w2 h2 k2 => ?_
    refine h2.new fun w3 xb h3 k3 => ?_
    refine h3.new fun w4 fb h4 k4 => ?_
    have h4 : Sep (fun _ => False) W w4 [fB fb ft0.enc, fB xb en0.enc, fB rb (rwEnc (r, sr)), fE o out] := h4
    -- the row's end
    have fin : ∀ (x : En) (f : Ft) (hd' : Bool) (w : World), (if f.e ≠ 0 then ([], f.e, f.p) else snRows ((ps.drop (j + 1)).map Prod.fst) (j + 1) hd' (out ++ [x]) size) = R → (f.e = 0 → j < 64) →
        Sep (fun _ => False) W w [fB fb f.enc, fB xb x.enc, fB rb (rwEnc (r, sr)), fE o out] → sense_Check.s46 Z Q (sense_Check.l19 Z Q (m + 1)) size o.a o.n o.c hd' ⟨xb, 0, none⟩ ⟨fb, 0, none⟩ s.a s.n s.c ((s.n : Nat) : Int) j w := fun x f hd' w he hlt h => by
      unfold sense_Check.s46
      simp only [add_mk, Nat.zero_add]
      refine h.ldI 0 (x := f.e) rfl rfl ?_
      rw [pif_bne]
      split
      · rename_i e0
        rw [if_neg (by simpa using e0)] at he
        refine h.ldN 1 (vs := x.enc) rfl rfl rfl (cnd_of rfl ?_)
        simp only [List.append_nil]
        refine h.new fun w1 nb h1 k1 => ?_
        refine h1.app 4 rfl (bytes := 96) (z := .agg #[.bool false, .int .i64 0, .int .u32 0, .int .i64 0, .int .u32 0, .int .i64 0, .int .i64 0, .int .i64 0, .int .i64 0, .int .i64 0, .int .i64 0, .int .i64 0]) Tryd.underlying23 (by kernel_rfl) rfl (by decide) En.enc_len (En.enc_one x) (fun i u hu => by rw [add_mk, Nat.zero_add, (h1.at (n := 0) rfl : IsB w1 nb x.enc).cell]; exact hu) (by decide) (by omega) fun a' c' w2 h2 k2 => ?_
        unfold sense_Check.s29
        rw [wrap_nat1 (by omega)]
        have hlt := hlt e0
        exact ih (j + 1) hd' (out ++ [x]) ⟨a', o.n + 1, c'⟩ w2 (by omega) (by omega) (by simp [ho]) he ((((h2.drop 0).drop 0).drop 0).drop 0)
      · rename_i e0
        rw [if_pos e0] at he
        subst he
        refine h.drew.ldI 0 (x := f.e) rfl rfl (h.drew.ldI 0 (x := f.p) rfl rfl ?_)
        exact hq w.drew ⟨none, 0, 0⟩ h.drew.eNil
    have act : ∀ (x : En) (f : Ft) (hd' : Bool) (w : World), (if (snAct r x f).2.e ≠ 0 then ([], (snAct r x f).2.e, (snAct r x f).2.p) else snRows ((ps.drop (j + 1)).map Prod.fst) (j + 1) hd' (out ++ [(snAct r x f).1]) size) = R → (f.e = 0 → j < 64) →
        Sep (fun _ => False) W w [fB fb f.enc, fB xb x.enc, fB rb (rwEnc (r, sr)), fE o out] → sense_Check.s50 Z Q (sense_Check.l19 Z Q (m + 1)) size o.a o.n o.c hd' ⟨rb, 0, none⟩ ⟨xb, 0, none⟩ ⟨fb, 0, none⟩ s.a s.n s.c ((s.n : Nat) : Int) j w := fun x f hd' w he hlt h => by
      unfold sense_Check.s50
      simp only [add_mk, Nat.zero_add]
      refine h.ldI 0 (x := f.e) rfl rfl ?_
      unfold snAct at he
      rw [pif_beq]
      split
      · rename_i e0
        refine h.ldB 2 (x := r.drop) rfl rfl ?_
        cases ed : r.drop with
        | true =>
          rw [if_neg (show ¬ (f.e = 0 ∧ r.drop = false) from by simp [ed])] at he
          exact fin x f hd' w he hlt h
        | false =>
          rw [if_pos (show f.e = 0 ∧ r.drop = false from ⟨e0, ed⟩)] at he
          rw [pif_not, pif_false]
          refine h.ldN 2 (vs := r.port.enc) rfl rfl rfl ?_
          refine within_cal fun w1 k1 => ?_
          have h1 := h.ext k1
          refine h1.stN 0 rfl (by simp [Ft.enc]) rfl (Ft.enc_one _) (lay_full rfl rfl) fun w2 h2 k2 => ?_
          refine h2.ldI 2 (x := r.port.n) rfl rfl ?_
          refine h2.st1 1 rfl (by simp [En.enc]) rfl fun w3 h3 k3 => ?_
          exact fin { x with action := r.port.n } _ hd' w3 he (fun _ => hlt e0) h3
      · rename_i e0
        rw [if_neg (show ¬ (f.e = 0 ∧ r.drop = false) from fun g => e0 g.1)] at he
        exact fin x f hd' w he hlt h
    unfold sense_Check.s72
    unfold snRow at he
    rw [pif_beq]
    split
    · rename_i e0
      rw [if_pos (show j = 64 by omega)] at he
      unfold sense_Check.s60
      simp only [add_mk, Nat.zero_add]
      refine h4.ldI 2 (x := r.pos) rfl rfl ?_
      refine h4.stN 0 rfl (by simp [Ft.enc, ft0]) rfl (Ft.enc_one ⟨4, r.pos⟩) (lay_full rfl rfl) fun w5 h5 k5 => ?_
      exact act en0 ⟨4, r.pos⟩ _ w5 he (fun e => absurd e (by simp)) h5
    · rename_i e0
      rw [if_neg (show ¬ j = 64 by omega)] at he
      have hlt : j < 64 := by omega
      unfold sense_Check.s69
      simp only [add_mk, Nat.zero_add]
      refine h4.ldB 2 (x := r.default) rfl rfl ?_
      cases ed : r.default with
      | true =>
        rw [pif_true]
        unfold sense_Check.s67
        simp only [add_mk, Nat.zero_add]
        cases hh : had with
        | true => 
          rw [if_pos (show r.default = true ∧ had = true from ⟨ed, hh⟩)] at he
          rw [pif_true]
          refine h4.ldI 2 (x := r.pos) rfl rfl ?_
          refine h4.stN 0 rfl (by simp [Ft.enc, ft0]) rfl (Ft.enc_one ⟨9, r.pos⟩) (lay_full rfl rfl) fun w5 h5 k5 => ?_
          rw [hh] at he
          exact act en0 ⟨9, r.pos⟩ _ w5 he (fun e => absurd e (by simp)) h5
        | false =>
          rw [if_neg (show ¬ (r.default = true ∧ had = true) from by simp [hh]), if_pos ed] at he
          rw [pif_false]
          refine h4.ldB 2 (x := r.default) rfl rfl ?_
          rw [ed, pif_true]
          refine h4.st1 1 rfl (by simp [En.enc, en0]) rfl fun w5 h5 k5 => ?_
          exact act { en0 with default := true } ft0 true w5 he (fun _ => hlt) h5
      | false =>
        rw [pif_false]
        unfold sense_Check.s67
        simp only [add_mk, Nat.zero_add]
        rw [if_neg (show ¬ (r.default = true ∧ had = true) from by simp [ed]), if_neg (show ¬ r.default = true from by simp [ed])] at he
        rw [pif_false]
        refine h4.ldB 2 (x := r.default) rfl rfl ?_
        rw [ed, pif_false]
        refine h4.ldN 2 (vs := rwEnc (r, sr)) rfl rfl rfl ?_
        refine line_cal (hcls.ext h4.kept) fun w5 k5 => ?_
        have h5 := h4.ext k5
        refine h5.stN 1 rfl (by simp [En.enc, en0]) rfl (En.enc_one _) (lay_full rfl rfl) fun w6 h6 k6 => ?_
        refine h6.stN 0 rfl (by simp [Ft.enc, ft0]) rfl (Ft.enc_one _) (lay_full rfl rfl) fun w7 h7 k7 => ?_
        exact act _ _ _ w7 he (fun _ => hlt) h7
theorem check_cal {K : Option Addr → Nat → Nat → Int → Int → PT} {l : List Rw} (hc : RwsO w s l) (hk : ∀ w' o, Sep (fun _ => False) w w' [fE o (snCheck l size).1] → K o.a o.n o.c (snCheck l size).2.1 (snCheck l size).2.2 w') :
    cal Tryd.prog Z 16 [.slice s.a s.n s.c, .int .i64 size] (isT3 fun x y z => (isL fun r0 r0n r0c => (isI .i64 fun r1 => (isI .i64 fun r2 => K r0 r0n r0c r1 r2) z) y) x) w := by
  refine sense_Check.cal ?_
  unfold sense_Check.F sense_Check.s89 sense_Check.s86
  obtain ⟨ps, p1, p2, p3⟩ := hc
  subst p1
  exact exK_of (ps.length + 1) (snRows_loop p2 p3 hk ps.length 0 false [] ⟨none, 0, 0⟩ w (by omega) (by omega) rfl rfl (Sep.start (fun _ => False) w).eNil)
theorem read_cal {K : Option Addr → Nat → Nat → Int → Int → PT} {t : ByteArray} (hk : ∀ w' o, Sep (fun _ => False) w w' [fE o (snRead t).1] → K o.a o.n o.c (snRead t).2.1 (snRead t).2.2 w') :
    cal Tryd.prog Z 12 [.string t] (isT3 fun x y z => (isL fun r0 r0n r0c => (isI .i64 fun r1 => (isI .i64 fun r2 => K r0 r0n r0c r1 r2) z) y) x) w := by
  refine sense_Read.cal ?_
  unfold sense_Read.F
  unfold snRead at hk
  refine parse_cal fun s3 w1 r1 k1 => ?_
  show pif _ _ _ w1
  rw [pif_bne]
  split
  · rename_i e0
    rw [if_neg (by simpa using e0)] at hk
    refine check_cal (RwsO.of_at r1) fun w2 o h2 => ?_
    exact hk w2 o ⟨k1.trans h2.kept, h2.all, fun f hf k hk => (h2.own f hf k hk).imp (fun g => Nat.le_trans k1.size g) id, h2.dis⟩
  · rename_i e0
    rw [if_pos e0] at hk
    exact hk w1 ⟨none, 0, 0⟩ ((Sep.start (fun _ => False) w).ext k1).eNil
end
end Go.Proofs.YtllgjjldnnmjkaaDoor
end
section
set_option maxRecDepth 100000
namespace Go.Proofs.YtllgjjldnnmjkaaDoor
open Go.RowKit
theorem clamp_in (n : Int) : 0 ≤ (if (if 32 < n then 32 else n) > 0 then (if 32 < n then 32 else n) else 0) ∧ (if (if 32 < n then 32 else n) > 0 then (if 32 < n then 32 else n) else 0) ≤ 32 := by
  split <;> split <;> omega
section
variable {Z : List PanicEntry → PT} {W w : World} {h : List UInt8} {x : En}
theorem begins_cal {K : Bool → PT} {a b : Nat} {n : Int} (ha : a < 4294967296) (hb : b < 4294967296) (hk : K (begN a b (clI n)) w) : cal Tryd.prog Z 33 [.int .u32 (a : Int), .int .u32 (b : Int), .int .i64 n] (isB fun v => K v) w := by
  refine sense_begins.cal ?_
  unfold sense_begins.F
  have hc := clamp_in n
  unfold begN clI at hk
  generalize (if (if 32 < n then 32 else n) > 0 then (if 32 < n then 32 else n) else 0) = c at hc hk ⊢
  rw [wrap_in (by omega) (by omega)]
  refine cnd_of (by omega) ?_
  rw [BitVec.toNat_xor, ofN32 ha, ofN32 hb, wrapU32, wrapU64]
  have hx : a ^^^ b < 4294967296 := Nat.xor_lt_two_pow (n := 32) ha hb
  rw [Nat.mod_eq_of_lt hx, Nat.mod_eq_of_lt (Nat.lt_trans hx (by decide))]
  rw [show min ((32 : Int) - c).toNat (IntKind.bits .u64) = 32 - c.toNat by show min _ 64 = _; omega, powN, fdivN]
  have e : ((((a ^^^ b) / 2 ^ (32 - c.toNat) : Nat) : Int) == 0) = ((a ^^^ b) / 2 ^ (32 - c.toNat) == 0) := by
    rw [Bool.eq_iff_iff, beq_iff_eq, beq_iff_eq]; omega
  rw [e]
  exact hk
def valsH (h : List UInt8) (j : Nat) : List Value := (List.range 5).map fun i => .int .i64 (if i < j then (hf h i : Int) else 0)
theorem valsH_len (h : List UInt8) (j : Nat) : (valsH h j).length = 5 := by simp [valsH]
theorem valsH_set {j : Nat} (hj : j < 5) : (valsH h j).set j (.int .i64 (hf h j : Int)) = valsH h (j + 1) := by
  match j, hj with
  | 0, _ => rfl
  | 1, _ => rfl
  | 2, _ => rfl
  | 3, _ => rfl
  | 4, _ => rfl
theorem app_loop {Q : Bool → PT} {xb hb vb : Nat} (hv : Places W) (hl : h.length = 13)
    (hk : ∀ w', Sep (fun _ => False) W w' [fB vb (valsH h 5), fB hb (encH h), fB xb x.enc] → sense_Applies.s9 Z Q ⟨xb, 0, none⟩ ⟨vb, 0, none⟩ w') :
    ∀ (m j : Nat) (w : World), 5 = j + m → Sep (fun _ => False) W w [fB vb (valsH h j), fB hb (encH h), fB xb x.enc] → sense_Applies.l19 Z Q (m + 1) ⟨xb, 0, none⟩ ⟨hb, 0, none⟩ ⟨vb, 0, none⟩ j w := by
  intro m
  induction m with
  | zero =>
    intro j w hm g
    unfold sense_Applies.l19 sense_Applies.s22
    rw [pif_dec, if_neg (by omega)]
    rw [show j = 5 by omega] at g
    exact hk w g
  | succ m ih =>
    intro j w hm g
    unfold sense_Applies.l19 sense_Applies.s22
    rw [pif_dec, if_pos (by omega)]
    refine g.ldN 1 rfl (sub13 hl) (len13 hl) ?_
    refine field_cal (hv.ext g.kept) hl fun w1 k1 => ?_
    have g1 := g.ext k1
    refine cnd_of ⟨by omega, by omega⟩ ?_
    have hlt := hf_lt h (show j < 5 by omega)
    simp only [add_mk, Nat.zero_add, Nat.mul_one, Int.toNat_natCast]
    rw [show ((fieldI h (j : Int)).1 : Int) = (hf h j : Int) from rfl, wrap_in (by omega) (by omega), wrap_nat1 (by omega)]
    refine g1.st1 0 rfl (by rw [valsH_len]; omega) rfl fun w2 g2 k2 => ?_
    rw [valsH_set (show j < 5 by omega)] at g2
    exact ih (j + 1) w2 (by omega) g2
theorem applies_cal {K : Bool → PT} (hv : Places w) (hl : h.length = 13) (hx : x.Ok) (hk : ∀ w', Ext w w' → K (snApp x h) w') : cal Tryd.prog Z 18 [.agg ⟨x.enc⟩, .agg ⟨encH h⟩] (isB fun v => K v) w := by
  refine sense_Applies.cal ?_
  unfold sense_Applies.F sense_Applies.s33
  refine (Sep.start (fun _ => False) w).new fun w1 xb h1 k1 => ?_
  refine h1.new fun w2 hb h2 k2 => ?_
  simp only [add_mk, Nat.zero_add]
  refine h2.ldB 1 (x := x.default) rfl rfl ?_
  unfold snApp at hk
  rw [pif_bool]
  split
  · rename_i e0
    rw [if_pos e0] at hk
    exact hk w2 h2.kept
  rename_i e0
  rw [if_neg e0] at hk
  refine h2.new fun w3 vb h3 k3 => ?_
  unfold sense_Applies.s30
  have h3 : Sep (fun _ => False) w w3 [fB vb (valsH h 0), fB hb (encH h), fB xb x.enc] := h3
  refine exK_of 6 (app_loop hv hl (fun w4 h4 => ?_) 5 0 w3 (by omega) h3)
  unfold sense_Applies.s9
  simp only [add_mk, Nat.zero_add]
  have f0 := hf_lt h (show 0 < 5 by omega)
  have f1 := hf_lt h (show 1 < 5 by omega)
  have es : x.src = (x.src.toNat : Int) := by have := hx.s0; omega
  have ed : x.dst = (x.dst.toNat : Int) := by have := hx.d0; omega
  have s1 := hx.s1
  have d1 := hx.d1
  refine cnd_of ⟨by omega, by omega⟩ ?_
  refine h4.ldI 0 (x := (hf h 0 : Int)) rfl rfl (h4.ldI 2 (x := x.src) rfl rfl (h4.ldI 2 (x := x.srcBits) rfl rfl ?_))
  rw [wrapU32, Nat.mod_eq_of_lt f0, es]
  refine begins_cal f0 (by omega) ?_
  cases e1 : begN (hf h 0) x.src.toNat (clI x.srcBits) with
  | false =>
    rw [pif_false]
    rw [if_pos e1] at hk
    exact hk w4 h4.kept
  | true =>
  rw [pif_true]
  rw [if_neg (by simp [e1])] at hk
  refine cnd_of ⟨by omega, by omega⟩ ?_
  refine h4.ldI 0 (x := (hf h 1 : Int)) rfl rfl (h4.ldI 2 (x := x.dst) rfl rfl (h4.ldI 2 (x := x.dstBits) rfl rfl ?_))
  rw [wrapU32, Nat.mod_eq_of_lt f1, ed]
  refine begins_cal f1 (by omega) ?_
  cases e2 : begN (hf h 1) x.dst.toNat (clI x.dstBits) with
  | false =>
    rw [pif_false]
    rw [if_pos e2] at hk
    exact hk w4 h4.kept
  | true =>
  rw [pif_true]
  rw [if_neg (by simp [e2])] at hk
  refine cnd_of ⟨by omega, by omega⟩ (h4.ldI 0 (x := (hf h 2 : Int)) rfl rfl (h4.ldI 2 (x := x.sLow) rfl rfl ?_))
  rw [pif_dec]
  split
  case isFalse e3 => rw [if_pos e3] at hk; exact hk w4 h4.kept
  rename_i e3
  rw [if_neg (not_not_intro e3)] at hk
  refine cnd_of ⟨by omega, by omega⟩ (h4.ldI 0 (x := (hf h 2 : Int)) rfl rfl (h4.ldI 2 (x := x.sHigh) rfl rfl ?_))
  rw [pif_dec]
  split
  case isFalse e3 => rw [if_pos e3] at hk; exact hk w4 h4.kept
  rename_i e4
  rw [if_neg (not_not_intro e4)] at hk
  refine cnd_of ⟨by omega, by omega⟩ (h4.ldI 0 (x := (hf h 3 : Int)) rfl rfl (h4.ldI 2 (x := x.dLow) rfl rfl ?_))
  rw [pif_dec]
  split
  case isFalse e3 => rw [if_pos e3] at hk; exact hk w4 h4.kept
  rename_i e5
  rw [if_neg (not_not_intro e5)] at hk
  refine cnd_of ⟨by omega, by omega⟩ (h4.ldI 0 (x := (hf h 3 : Int)) rfl rfl (h4.ldI 2 (x := x.dHigh) rfl rfl ?_))
  rw [pif_dec]
  split
  case isFalse e3 => rw [if_pos e3] at hk; exact hk w4 h4.kept
  rename_i e6
  rw [if_neg (not_not_intro e6)] at hk
  refine h4.ldI 2 (x := x.proto) rfl rfl ?_
  rw [pif_beq]
  split
  · rename_i e7
    rw [if_pos e7] at hk
    exact hk w4 h4.kept
  · rename_i e7
    rw [if_neg e7] at hk
    refine h4.ldI 2 (x := x.proto) rfl rfl (cnd_of ⟨by omega, by omega⟩ (h4.ldI 0 (x := (hf h 4 : Int)) rfl rfl ?_))
    exact hk w4 h4.kept
/-- Entries that are only read. -/
abbrev EnO (w : World) (o : Sl3) (l : List En) : Prop := Ro w 12 En.enc o.a o.n o.c l
theorem enAt_some {l : List En} {b : Int} (h0 : 0 ≤ b) (h1 : b < l.length) : l[b.toNat]? = some (enAt l b) := by
  unfold enAt
  rw [List.getElem?_eq_getElem (show b.toNat < l.length by omega)]; rfl
theorem ixS_en {l : List En} {o : Sl3} {b : Int} {K : Addr → PT} (hr : EnO w o l) (h0 : 0 ≤ b) (h1 : b < l.length) (hk : ∀ ad, cellsAt w ad (enAt l b).enc → K ad w) : ixS o.a o.n b 12 K w := by
  have := ixS_Ro (i := b.toNat) hr (enAt_some h0 h1) hk
  rwa [Int.toNat_of_nonneg h0] at this
theorem which_loop {Q : Int → PT} {hb : Nat} {o : Sl3} {l : List En} {R : Int} (hv : Places W) (hl : h.length = 13) (hr : EnO W o l) (hok : ∀ x ∈ l, x.Ok) (hq : ∀ w', Ext W w' → Q R w') :
    ∀ (m j : Nat) (b : Int) (w : World), l.length = j + m → b < j → whS l h (l.drop j) j b = R → Sep (fun _ => False) W w [fB hb (encH h)] →
    sense_Which.l18 Z Q (m + 1) o.a o.n o.c ⟨hb, 0, none⟩ b o.a o.n o.c ((o.n : Nat) : Int) j w := by
  have hmax := hr.max
  have hn := hr.1
  intro m
  induction m with
  | zero =>
    intro j b w hm hb' he g
    unfold sense_Which.l18 sense_Which.s65
    rw [pif_dec, if_neg (by omega)]
    rw [List.drop_eq_nil_of_le (by omega)] at he
    subst he
    exact hq w g.kept
  | succ m ih =>
    intro j b w hm hb' he g
    have hx := List.getElem?_eq_getElem (show j < l.length by omega)
    have hmem := List.getElem_mem (show j < l.length by omega)
    have hd := List.drop_eq_getElem_cons (show j < l.length by omega)
    unfold sense_Which.l18 sense_Which.s65
    rw [pif_dec, if_pos (by omega)]
    unfold sense_Which.s61
    refine ixS_Ro (hr.ext g.kept) hx fun ad hcell => ?_
    refine ldN_at hcell rfl ?_
    rw [hd] at he
    have xok := hok _ hmem
    generalize l[j] = x at hx he xok
    refine g.new fun w1 xb g1 k1 => ?_
    refine g1.stN 0 rfl (by simp) rfl (En.enc_one _) (lay_full rfl rfl) fun w2 g2 k2 => ?_
    unfold sense_Which.s58
    refine g2.ldN 0 (vs := x.enc) rfl rfl rfl (g2.ldN 1 rfl (sub13 hl) (len13 hl) ?_)
    refine applies_cal (hv.ext g2.kept) hl xok fun w3 k3 => ?_
    have g3 := g2.ext k3
    unfold whS at he
    have next : ∀ (b : Int) (w : World), b < (j + 1 : Nat) → whS l h (l.drop (j + 1)) (j + 1) b = R → Sep (fun _ => False) W w [fB xb x.enc, fB hb (encH h)] → sense_Which.s28 Z Q (sense_Which.l18 Z Q (m + 1)) o.a o.n o.c ⟨hb, 0, none⟩ b o.a o.n o.c ((o.n : Nat) : Int) j w := fun b w hb1 he g => by
      unfold sense_Which.s28
      rw [wrap_nat1 (by omega)]
      exact ih (j + 1) b w (by omega) hb1 he (g.drop 0)
    rw [pif_not, pif_bool]
    split
    case isFalse ea =>
      rw [if_pos (show snApp x h = false by simpa using ea)] at he
      unfold sense_Which.s45
      exact next b w3 (by omega) he g3
    rename_i ea
    rw [if_neg (show ¬ snApp x h = false by simp [ea])] at he
    unfold sense_Which.s55
    simp only [add_mk, Nat.zero_add]
    rw [pif_dec]
    split
    · rename_i eb
      rw [if_pos eb] at he
      rw [decide_eq_true eb]
      unfold sense_Which.s53
      rw [pif_true]
      exact next j w3 (by omega) he g3
    rename_i eb
    rw [if_neg eb] at he
    have s53 : ∀ w, Sep (fun _ => False) W w [fB xb x.enc, fB hb (encH h)] → ¬ ((enAt l b).default = true ∧ x.default = false) → sense_Which.s53 Z Q (sense_Which.l18 Z Q (m + 1)) o.a o.n o.c ⟨hb, 0, none⟩ b j ⟨xb, 0, none⟩ o.a o.n o.c ((o.n : Nat) : Int) j false w := fun w g en => by
      rw [if_neg en] at he
      unfold sense_Which.s53
      rw [pif_false]
      have g := g.drew
      show ldB _ _ w.drew
      simp only [add_mk, Nat.zero_add]
      refine g.ldB 0 (x := x.default) rfl rfl ?_
      cases xd : x.default with
      | true =>
        rw [if_neg (show ¬ (x.default = false ∧ x.prio > (enAt l b).prio) by simp [xd])] at he
        exact next b _ (by omega) he g
      | false =>
        refine g.ldI 0 (x := x.prio) rfl rfl ?_
        refine ixS_en (hr.ext g.kept) (by omega) (by omega) fun ad hcell => ?_
        refine ldI_at hcell (n := (enAt l b).prio) rfl ?_
        rw [pif_dec]
        split
        · rename_i e1
          rw [if_pos (show x.default = false ∧ x.prio > (enAt l b).prio from ⟨xd, e1⟩)] at he
          exact next j _ (by omega) he g
        · rename_i e1
          rw [if_neg (show ¬ (x.default = false ∧ x.prio > (enAt l b).prio) from fun g => e1 g.2)] at he
          exact next b _ (by omega) he g
    refine ixS_en (hr.ext g3.kept) (by omega) (by omega) fun ad hcell => ?_
    refine ldB_at hcell (n := (enAt l b).default) rfl ?_
    rw [pif_bool]
    split
    · rename_i e1
      refine g3.ldB 0 (x := x.default) rfl rfl ?_
      cases xd : x.default with
      | true => exact s53 w3 g3 (by simp [xd])
      | false =>
        rw [if_pos (show (enAt l b).default = true ∧ x.default = false from ⟨e1, xd⟩)] at he
        unfold sense_Which.s53
        exact next j w3 (by omega) he g3
    · rename_i e1
      exact s53 w3 g3 (fun g => e1 g.1)
theorem which_cal {K : Int → PT} {o : Sl3} {l : List En} (hv : Places w) (hl : h.length = 13) (hr : EnO w o l) (hok : ∀ x ∈ l, x.Ok) (hk : ∀ w', Ext w w' → K (snWhich l h) w') :
    cal Tryd.prog Z 20 [.slice o.a o.n o.c, .agg ⟨encH h⟩] (isI .i64 fun v => K v) w := by
  refine sense_Which.cal ?_
  unfold sense_Which.F sense_Which.s74
  refine (Sep.start (fun _ => False) w).new fun w1 hb h1 k1 => ?_
  unfold sense_Which.s71
  exact exK_of (l.length + 1) (which_loop hv hl hr hok hk l.length 0 (-1) w1 (by omega) (by omega) rfl h1)
theorem says_cal {K : Int → Bool → PT} {o : Sl3} {l : List En} (hv : Places w) (hl : h.length = 13) (hr : EnO w o l) (hok : ∀ x ∈ l, x.Ok) (hk : ∀ w', Ext w w' → K (snSays l h).1 (snSays l h).2 w') :
    cal Tryd.prog Z 21 [.slice o.a o.n o.c, .agg ⟨encH h⟩] (isT2 fun x y => (isI .i64 fun r0 => (isB fun r1 => K r0 r1) y) x) w := by
  refine sense_Says.cal ?_
  unfold sense_Says.F
  refine (Sep.start (fun _ => False) w).new fun w1 hb' h1 k1 => ?_
  refine h1.ldN 0 rfl (sub13 hl) (len13 hl) ?_
  refine which_cal (hv.ext h1.kept) hl (hr.ext h1.kept) hok fun w2 k2 => ?_
  have h2 := h1.ext k2
  unfold snSays at hk
  rw [pif_dec]
  split
  · rename_i e
    rw [if_pos e] at hk
    exact hk w2 h2.kept
  · rename_i e
    rw [if_neg e] at hk
    refine ixS_en (hr.ext h2.kept) (by omega) snWhich_lt fun ad hcell => ?_
    exact ldI_at hcell (n := (enAt l (snWhich l h)).action) rfl (hk w2 h2.kept)
end
end Go.Proofs.YtllgjjldnnmjkaaDoor
end
