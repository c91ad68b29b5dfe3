/-
  The reading of the code of 6 functions, printed by gen.py off the translation; no condition.
-/
import Derived.Test.YtllgjjldnnmjkaaDoorWlFacts
namespace Go.Proofs.YtllgjjldnnmjkaaDoor
open Go.RowKit
set_option linter.unusedVariables false
set_option maxRecDepth 100000

/-! ### milepost/lex.Tokens: function 36 -/
noncomputable def lex_Tokens.body : Code := bodyC Tryd.f36
noncomputable def lex_Tokens.c1 : Code := sq1 lex_Tokens.body
noncomputable def lex_Tokens.c2 : Code := sq2 lex_Tokens.body
theorem lex_Tokens.q3 : lex_Tokens.body = .seq lex_Tokens.c1 lex_Tokens.c2 := by kernel_rfl
noncomputable def lex_Tokens.c4 : Code := scp lex_Tokens.c2
theorem lex_Tokens.q5 : lex_Tokens.c2 = .scope lex_Tokens.c4 := by kernel_rfl
noncomputable def lex_Tokens.c6 : Code := sq1 lex_Tokens.c4
noncomputable def lex_Tokens.c7 : Code := sq1 (sq2 lex_Tokens.c4)
noncomputable def lex_Tokens.c8 : Code := sq1 (sq2 (sq2 lex_Tokens.c4))
noncomputable def lex_Tokens.c9 : Code := sq2 (sq2 (sq2 lex_Tokens.c4))
theorem lex_Tokens.q10 : lex_Tokens.c4 = .seq lex_Tokens.c6 (.seq lex_Tokens.c7 (.seq lex_Tokens.c8 lex_Tokens.c9)) := by kernel_rfl
noncomputable def lex_Tokens.c11 : Code := sq1 lex_Tokens.c9
noncomputable def lex_Tokens.c12 : Code := sq2 lex_Tokens.c9
theorem lex_Tokens.q13 : lex_Tokens.c9 = .seq lex_Tokens.c11 lex_Tokens.c12 := by kernel_rfl
def lex_Tokens.s14 (Z : List PanicEntry → PT) (Q : Option Addr → Nat → Nat → Int → Int → PT) (out_5 : Option Addr) (out_5n out_5c : Nat) : PT :=
  (Q out_5 out_5n out_5c 0 0)
def lex_Tokens.q15 (Z : List PanicEntry → PT) (Q : Option Addr → Nat → Nat → Int → Int → PT) : QF := bodyQ Tryd.prog [.tmp 2, .tmp 3, .tmp 4] (fun v => at3 v fun x y z => atL x fun xa xn xc => atI .i64 y fun ya => atI .i64 z fun za => Q xa xn xc ya za)
def lex_Tokens.q16 (Z : List PanicEntry → PT) (Q : Option Addr → Nat → Nat → Int → Int → PT) : QF := noG (lex_Tokens.q15 Z Q)
theorem lex_Tokens.s14_eq (Z : List PanicEntry → PT) (Q : Option Addr → Nat → Nat → Int → Int → PT) (ρ : Fr) (out_5 : Option Addr) (out_5n out_5c : Nat) : comp Tryd.prog Z lex_Tokens.c12 (lex_Tokens.q16 Z Q) (puts ρ [(5, (Value.slice out_5 out_5n out_5c))]) = lex_Tokens.s14 Z Q out_5 out_5n out_5c := by kernel_rfl
def lex_Tokens.j17 (Z : List PanicEntry → PT) (Q : Option Addr → Nat → Nat → Int → Int → PT) : Fr → PT := (fun ρ => atL (ρ 5) fun out_5 out_5n out_5c => (lex_Tokens.s14 Z Q out_5 out_5n out_5c))
theorem lex_Tokens.s14_ok (Z : List PanicEntry → PT) (Q : Option Addr → Nat → Nat → Int → Int → PT) : Ok Tryd.prog Tryd.f36.ntmps Z lex_Tokens.c12 (lex_Tokens.q16 Z Q) (lex_Tokens.j17 Z Q) := by
  intro E he ρ w a hr h
  obtain ⟨out_5, out_5n, out_5c, e5, h⟩ := atL_e h
  exact ok_at [(5, (Value.slice out_5 out_5n out_5c))] (okC lex_Tokens.c12 (lex_Tokens.q16 Z Q) (by kernel_rfl)) (puts_cons e5 (fun p hp => puts_nil hp)) (lex_Tokens.s14_eq Z Q ρ out_5 out_5n out_5c) he hr h
noncomputable def lex_Tokens.c18 : Code := sq1 lex_Tokens.c11
noncomputable def lex_Tokens.c19 : Code := sq2 lex_Tokens.c11
theorem lex_Tokens.q20 : lex_Tokens.c11 = .seq lex_Tokens.c18 lex_Tokens.c19 := by kernel_rfl
noncomputable def lex_Tokens.c21 : Code := blk lex_Tokens.c19
theorem lex_Tokens.q22 : lex_Tokens.c19 = .block 0 lex_Tokens.c21 := by kernel_rfl
noncomputable def lex_Tokens.c23 : Code := lop lex_Tokens.c21
theorem lex_Tokens.q24 : lex_Tokens.c21 = .loop lex_Tokens.c23 := by kernel_rfl
def lex_Tokens.q26 (Z : List PanicEntry → PT) (Q : Option Addr → Nat → Nat → Int → Int → PT) : QF := thenK (lex_Tokens.j17 Z Q) (lex_Tokens.q16 Z Q)
def lex_Tokens.q27 (Z : List PanicEntry → PT) (Q : Option Addr → Nat → Nat → Int → Int → PT) : QF := inBl 0 (lex_Tokens.q26 Z Q)
noncomputable def lex_Tokens.c28 : Code := sq1 lex_Tokens.c23
noncomputable def lex_Tokens.c29 : Code := sq2 lex_Tokens.c23
theorem lex_Tokens.q30 : lex_Tokens.c23 = .seq lex_Tokens.c28 lex_Tokens.c29 := by kernel_rfl
noncomputable def lex_Tokens.c31 : Code := blk lex_Tokens.c29
theorem lex_Tokens.q32 : lex_Tokens.c29 = .block 1 lex_Tokens.c31 := by kernel_rfl
noncomputable def lex_Tokens.c33 : Code := sq1 lex_Tokens.c31
noncomputable def lex_Tokens.c34 : Code := sq1 (sq2 lex_Tokens.c31)
noncomputable def lex_Tokens.c35 : Code := sq2 (sq2 lex_Tokens.c31)
theorem lex_Tokens.q36 : lex_Tokens.c31 = .seq lex_Tokens.c33 (.seq lex_Tokens.c34 lex_Tokens.c35) := by kernel_rfl
noncomputable def lex_Tokens.c37 : Code := sq1 lex_Tokens.c35
noncomputable def lex_Tokens.c38 : Code := sq2 lex_Tokens.c35
theorem lex_Tokens.q39 : lex_Tokens.c35 = .seq lex_Tokens.c37 lex_Tokens.c38 := by kernel_rfl
def lex_Tokens.s40 (Z : List PanicEntry → PT) (Q : Option Addr → Nat → Nat → Int → Int → PT) (X1 : ByteArray → Option Addr → Nat → Nat → Int → PT) (s_0 : ByteArray) (out_5 : Option Addr) (out_5n out_5c : Nat) (at_6 : Int) (t_7 : Addr) (n_8 : Int) : PT :=
  (ldN 4 t_7 fun v6 => (cnd (List.length v6 = 4) (newC 79 (v6 ++ ([])) fun v7 => (runL Tryd.prog (bi .append #[69, 69] 69 [false, false] [(Value.slice out_5 out_5n out_5c), (Value.slice (some v7) 1 1)]) fun v8 v8n v8c => (X1 s_0 v8 v8n v8c (IntKind.wrap .i64 (at_6 + n_8)))))))
def lex_Tokens.j41 (Z : List PanicEntry → PT) (Q : Option Addr → Nat → Nat → Int → Int → PT) (X1 : ByteArray → Option Addr → Nat → Nat → Int → PT) : Fr → PT := (fun ρ => atS (ρ 0) fun s_0 => atL (ρ 5) fun out_5 out_5n out_5c => atI .i64 (ρ 6) fun at_6 => (X1 s_0 out_5 out_5n out_5c at_6))
def lex_Tokens.q42 (Z : List PanicEntry → PT) (Q : Option Addr → Nat → Nat → Int → Int → PT) (X1 : ByteArray → Option Addr → Nat → Nat → Int → PT) : QF := thenK (lex_Tokens.j41 Z Q X1) (lex_Tokens.q27 Z Q)
def lex_Tokens.q43 (Z : List PanicEntry → PT) (Q : Option Addr → Nat → Nat → Int → Int → PT) (X1 : ByteArray → Option Addr → Nat → Nat → Int → PT) : QF := inBl 1 (lex_Tokens.q42 Z Q X1)
theorem lex_Tokens.s40_eq (Z : List PanicEntry → PT) (Q : Option Addr → Nat → Nat → Int → Int → PT) (X1 : ByteArray → Option Addr → Nat → Nat → Int → PT) (ρ : Fr) (s_0 : ByteArray) (out_5 : Option Addr) (out_5n out_5c : Nat) (at_6 : Int) (t_7 : Addr) (n_8 : Int) : comp Tryd.prog Z lex_Tokens.c38 (lex_Tokens.q43 Z Q X1) (puts ρ [(0, (Value.string s_0)), (5, (Value.slice out_5 out_5n out_5c)), (6, (Value.int .i64 at_6)), (7, (Value.pointer (some t_7))), (8, (Value.int .i64 n_8))]) = lex_Tokens.s40 Z Q X1 s_0 out_5 out_5n out_5c at_6 t_7 n_8 := by kernel_rfl
def lex_Tokens.j44 (Z : List PanicEntry → PT) (Q : Option Addr → Nat → Nat → Int → Int → PT) (X1 : ByteArray → Option Addr → Nat → Nat → Int → PT) : Fr → PT := (fun ρ => atS (ρ 0) fun s_0 => atL (ρ 5) fun out_5 out_5n out_5c => atI .i64 (ρ 6) fun at_6 => atA (ρ 7) fun t_7 => atI .i64 (ρ 8) fun n_8 => (lex_Tokens.s40 Z Q X1 s_0 out_5 out_5n out_5c at_6 t_7 n_8))
theorem lex_Tokens.s40_ok (Z : List PanicEntry → PT) (Q : Option Addr → Nat → Nat → Int → Int → PT) (X1 : ByteArray → Option Addr → Nat → Nat → Int → PT) : Ok Tryd.prog Tryd.f36.ntmps Z lex_Tokens.c38 (lex_Tokens.q43 Z Q X1) (lex_Tokens.j44 Z Q X1) := by
  intro E he ρ w a hr h
  obtain ⟨s_0, e0, h⟩ := atS_e h
  obtain ⟨out_5, out_5n, out_5c, e5, h⟩ := atL_e h
  obtain ⟨at_6, e6, h⟩ := atI_e h
  obtain ⟨t_7, e7, h⟩ := atA_e h
  obtain ⟨n_8, e8, h⟩ := atI_e h
  exact ok_at [(0, (Value.string s_0)), (5, (Value.slice out_5 out_5n out_5c)), (6, (Value.int .i64 at_6)), (7, (Value.pointer (some t_7))), (8, (Value.int .i64 n_8))] (okC lex_Tokens.c38 (lex_Tokens.q43 Z Q X1) (by kernel_rfl)) (puts_cons e0 (puts_cons e5 (puts_cons e6 (puts_cons e7 (puts_cons e8 (fun p hp => puts_nil hp)))))) (lex_Tokens.s40_eq Z Q X1 ρ s_0 out_5 out_5n out_5c at_6 t_7 n_8) he hr h
noncomputable def lex_Tokens.c45 : Code := sq1 lex_Tokens.c37
noncomputable def lex_Tokens.c46 : Code := sq2 lex_Tokens.c37
theorem lex_Tokens.q47 : lex_Tokens.c37 = .seq lex_Tokens.c45 lex_Tokens.c46 := by kernel_rfl
noncomputable def lex_Tokens.c48 : Code := blk lex_Tokens.c46
theorem lex_Tokens.q49 : lex_Tokens.c46 = .block 2 lex_Tokens.c48 := by kernel_rfl
noncomputable def lex_Tokens.c50 : Code := sq1 lex_Tokens.c48
noncomputable def lex_Tokens.c51 : Code := sq2 lex_Tokens.c48
theorem lex_Tokens.q52 : lex_Tokens.c48 = .seq lex_Tokens.c50 lex_Tokens.c51 := by kernel_rfl
noncomputable def lex_Tokens.c53 : Code := cn1 lex_Tokens.c51
noncomputable def lex_Tokens.c54 : Code := cn2 lex_Tokens.c51
theorem lex_Tokens.q55 : lex_Tokens.c51 = .cond (.tmp 25) lex_Tokens.c53 lex_Tokens.c54 := by kernel_rfl
def lex_Tokens.s56 (Z : List PanicEntry → PT) (Q : Option Addr → Nat → Nat → Int → Int → PT) (X1 : ByteArray → Option Addr → Nat → Nat → Int → PT) (s_0 : ByteArray) (out_5 : Option Addr) (out_5n out_5c : Nat) (at_6 : Int) : PT :=
  (X1 s_0 out_5 out_5n out_5c (IntKind.wrap .i64 (at_6 + 1)))
def lex_Tokens.q57 (Z : List PanicEntry → PT) (Q : Option Addr → Nat → Nat → Int → Int → PT) (X1 : ByteArray → Option Addr → Nat → Nat → Int → PT) : QF := thenK (lex_Tokens.j44 Z Q X1) (lex_Tokens.q43 Z Q X1)
def lex_Tokens.q58 (Z : List PanicEntry → PT) (Q : Option Addr → Nat → Nat → Int → Int → PT) (X1 : ByteArray → Option Addr → Nat → Nat → Int → PT) : QF := inBl 2 (lex_Tokens.q57 Z Q X1)
theorem lex_Tokens.s56_eq (Z : List PanicEntry → PT) (Q : Option Addr → Nat → Nat → Int → Int → PT) (X1 : ByteArray → Option Addr → Nat → Nat → Int → PT) (ρ : Fr) (s_0 : ByteArray) (out_5 : Option Addr) (out_5n out_5c : Nat) (at_6 : Int) : comp Tryd.prog Z lex_Tokens.c53 (lex_Tokens.q58 Z Q X1) (puts ρ [(0, (Value.string s_0)), (5, (Value.slice out_5 out_5n out_5c)), (6, (Value.int .i64 at_6))]) = lex_Tokens.s56 Z Q X1 s_0 out_5 out_5n out_5c at_6 := by kernel_rfl
def lex_Tokens.j59 (Z : List PanicEntry → PT) (Q : Option Addr → Nat → Nat → Int → Int → PT) (X1 : ByteArray → Option Addr → Nat → Nat → Int → PT) : Fr → PT := (fun ρ => atS (ρ 0) fun s_0 => atL (ρ 5) fun out_5 out_5n out_5c => atI .i64 (ρ 6) fun at_6 => (lex_Tokens.s56 Z Q X1 s_0 out_5 out_5n out_5c at_6))
theorem lex_Tokens.s56_ok (Z : List PanicEntry → PT) (Q : Option Addr → Nat → Nat → Int → Int → PT) (X1 : ByteArray → Option Addr → Nat → Nat → Int → PT) : Ok Tryd.prog Tryd.f36.ntmps Z lex_Tokens.c53 (lex_Tokens.q58 Z Q X1) (lex_Tokens.j59 Z Q X1) := by
  intro E he ρ w a hr h
  obtain ⟨s_0, e0, h⟩ := atS_e h
  obtain ⟨out_5, out_5n, out_5c, e5, h⟩ := atL_e h
  obtain ⟨at_6, e6, h⟩ := atI_e h
  exact ok_at [(0, (Value.string s_0)), (5, (Value.slice out_5 out_5n out_5c)), (6, (Value.int .i64 at_6))] (okC lex_Tokens.c53 (lex_Tokens.q58 Z Q X1) (by kernel_rfl)) (puts_cons e0 (puts_cons e5 (puts_cons e6 (fun p hp => puts_nil hp)))) (lex_Tokens.s56_eq Z Q X1 ρ s_0 out_5 out_5n out_5c at_6) he hr h
noncomputable def lex_Tokens.c60 : Code := sq1 lex_Tokens.c54
noncomputable def lex_Tokens.c61 : Code := sq2 lex_Tokens.c54
theorem lex_Tokens.q62 : lex_Tokens.c54 = .seq lex_Tokens.c60 lex_Tokens.c61 := by kernel_rfl
noncomputable def lex_Tokens.c63 : Code := cn1 lex_Tokens.c61
noncomputable def lex_Tokens.c64 : Code := cn2 lex_Tokens.c61
theorem lex_Tokens.q65 : lex_Tokens.c61 = .cond (.tmp 38) lex_Tokens.c63 lex_Tokens.c64 := by kernel_rfl
noncomputable def lex_Tokens.c66 : Code := sq1 lex_Tokens.c63
noncomputable def lex_Tokens.c67 : Code := sq2 lex_Tokens.c63
theorem lex_Tokens.q68 : lex_Tokens.c63 = .seq lex_Tokens.c66 lex_Tokens.c67 := by kernel_rfl
def lex_Tokens.s69 (Z : List PanicEntry → PT) (Q : Option Addr → Nat → Nat → Int → Int → PT) (X1 : ByteArray → Option Addr → Nat → Nat → Int → PT) (s_0 : ByteArray) (out_5 : Option Addr) (out_5n out_5c : Nat) (at_6 : Int) : PT :=
  (X1 s_0 out_5 out_5n out_5c at_6)
theorem lex_Tokens.s69_eq (Z : List PanicEntry → PT) (Q : Option Addr → Nat → Nat → Int → Int → PT) (X1 : ByteArray → Option Addr → Nat → Nat → Int → PT) (ρ : Fr) (s_0 : ByteArray) (out_5 : Option Addr) (out_5n out_5c : Nat) (at_6 : Int) : comp Tryd.prog Z lex_Tokens.c67 (lex_Tokens.q58 Z Q X1) (puts ρ [(0, (Value.string s_0)), (5, (Value.slice out_5 out_5n out_5c)), (6, (Value.int .i64 at_6))]) = lex_Tokens.s69 Z Q X1 s_0 out_5 out_5n out_5c at_6 := by kernel_rfl
def lex_Tokens.j70 (Z : List PanicEntry → PT) (Q : Option Addr → Nat → Nat → Int → Int → PT) (X1 : ByteArray → Option Addr → Nat → Nat → Int → PT) : Fr → PT := (fun ρ => atS (ρ 0) fun s_0 => atL (ρ 5) fun out_5 out_5n out_5c => atI .i64 (ρ 6) fun at_6 => (lex_Tokens.s69 Z Q X1 s_0 out_5 out_5n out_5c at_6))
theorem lex_Tokens.s69_ok (Z : List PanicEntry → PT) (Q : Option Addr → Nat → Nat → Int → Int → PT) (X1 : ByteArray → Option Addr → Nat → Nat → Int → PT) : Ok Tryd.prog Tryd.f36.ntmps Z lex_Tokens.c67 (lex_Tokens.q58 Z Q X1) (lex_Tokens.j70 Z Q X1) := by
  intro E he ρ w a hr h
  obtain ⟨s_0, e0, h⟩ := atS_e h
  obtain ⟨out_5, out_5n, out_5c, e5, h⟩ := atL_e h
  obtain ⟨at_6, e6, h⟩ := atI_e h
  exact ok_at [(0, (Value.string s_0)), (5, (Value.slice out_5 out_5n out_5c)), (6, (Value.int .i64 at_6))] (okC lex_Tokens.c67 (lex_Tokens.q58 Z Q X1) (by kernel_rfl)) (puts_cons e0 (puts_cons e5 (puts_cons e6 (fun p hp => puts_nil hp)))) (lex_Tokens.s69_eq Z Q X1 ρ s_0 out_5 out_5n out_5c at_6) he hr h
noncomputable def lex_Tokens.c71 : Code := blk lex_Tokens.c66
theorem lex_Tokens.q72 : lex_Tokens.c66 = .block 3 lex_Tokens.c71 := by kernel_rfl
noncomputable def lex_Tokens.c73 : Code := lop lex_Tokens.c71
theorem lex_Tokens.q74 : lex_Tokens.c71 = .loop lex_Tokens.c73 := by kernel_rfl
def lex_Tokens.q76 (Z : List PanicEntry → PT) (Q : Option Addr → Nat → Nat → Int → Int → PT) (X1 : ByteArray → Option Addr → Nat → Nat → Int → PT) : QF := thenK (lex_Tokens.j70 Z Q X1) (lex_Tokens.q58 Z Q X1)
def lex_Tokens.q77 (Z : List PanicEntry → PT) (Q : Option Addr → Nat → Nat → Int → Int → PT) (X1 : ByteArray → Option Addr → Nat → Nat → Int → PT) : QF := inBl 3 (lex_Tokens.q76 Z Q X1)
def lex_Tokens.s78 (Z : List PanicEntry → PT) (Q : Option Addr → Nat → Nat → Int → Int → PT) (X1 : ByteArray → Option Addr → Nat → Nat → Int → PT) (X2 : ByteArray → Option Addr → Nat → Nat → Int → PT) (s_0 : ByteArray) (out_5 : Option Addr) (out_5n out_5c : Nat) (at_6 : Int) : PT :=
  (pif (decide (at_6 < ((s_0.size : Nat) : Int))) (ixT s_0 at_6 fun v12 => (pif (((v12.toNat : Nat) : Int) != 10) (X2 s_0 out_5 out_5n out_5c (IntKind.wrap .i64 (at_6 + 1))) (lex_Tokens.s69 Z Q X1 s_0 out_5 out_5n out_5c at_6))) (lex_Tokens.s69 Z Q X1 s_0 out_5 out_5n out_5c at_6))
def lex_Tokens.j79 (Z : List PanicEntry → PT) (Q : Option Addr → Nat → Nat → Int → Int → PT) (X1 : ByteArray → Option Addr → Nat → Nat → Int → PT) (X2 : ByteArray → Option Addr → Nat → Nat → Int → PT) : Fr → PT := (fun ρ => atS (ρ 0) fun s_0 => atL (ρ 5) fun out_5 out_5n out_5c => atI .i64 (ρ 6) fun at_6 => (X2 s_0 out_5 out_5n out_5c at_6))
def lex_Tokens.q80 (Z : List PanicEntry → PT) (Q : Option Addr → Nat → Nat → Int → Int → PT) (X1 : ByteArray → Option Addr → Nat → Nat → Int → PT) (X2 : ByteArray → Option Addr → Nat → Nat → Int → PT) : QF := thenK (lex_Tokens.j79 Z Q X1 X2) (lex_Tokens.q77 Z Q X1)
theorem lex_Tokens.s78_eq (Z : List PanicEntry → PT) (Q : Option Addr → Nat → Nat → Int → Int → PT) (X1 : ByteArray → Option Addr → Nat → Nat → Int → PT) (X2 : ByteArray → Option Addr → Nat → Nat → Int → PT) (ρ : Fr) (s_0 : ByteArray) (out_5 : Option Addr) (out_5n out_5c : Nat) (at_6 : Int) : comp Tryd.prog Z lex_Tokens.c73 (lex_Tokens.q80 Z Q X1 X2) (puts ρ [(0, (Value.string s_0)), (5, (Value.slice out_5 out_5n out_5c)), (6, (Value.int .i64 at_6))]) = lex_Tokens.s78 Z Q X1 X2 s_0 out_5 out_5n out_5c at_6 := by kernel_rfl
def lex_Tokens.j81 (Z : List PanicEntry → PT) (Q : Option Addr → Nat → Nat → Int → Int → PT) (X1 : ByteArray → Option Addr → Nat → Nat → Int → PT) (X2 : ByteArray → Option Addr → Nat → Nat → Int → PT) : Fr → PT := (fun ρ => atS (ρ 0) fun s_0 => atL (ρ 5) fun out_5 out_5n out_5c => atI .i64 (ρ 6) fun at_6 => (lex_Tokens.s78 Z Q X1 X2 s_0 out_5 out_5n out_5c at_6))
theorem lex_Tokens.s78_ok (Z : List PanicEntry → PT) (Q : Option Addr → Nat → Nat → Int → Int → PT) (X1 : ByteArray → Option Addr → Nat → Nat → Int → PT) (X2 : ByteArray → Option Addr → Nat → Nat → Int → PT) : Ok Tryd.prog Tryd.f36.ntmps Z lex_Tokens.c73 (lex_Tokens.q80 Z Q X1 X2) (lex_Tokens.j81 Z Q X1 X2) := by
  intro E he ρ w a hr h
  obtain ⟨s_0, e0, h⟩ := atS_e h
  obtain ⟨out_5, out_5n, out_5c, e5, h⟩ := atL_e h
  obtain ⟨at_6, e6, h⟩ := atI_e h
  exact ok_at [(0, (Value.string s_0)), (5, (Value.slice out_5 out_5n out_5c)), (6, (Value.int .i64 at_6))] (okC lex_Tokens.c73 (lex_Tokens.q80 Z Q X1 X2) (by kernel_rfl)) (puts_cons e0 (puts_cons e5 (puts_cons e6 (fun p hp => puts_nil hp)))) (lex_Tokens.s78_eq Z Q X1 X2 ρ s_0 out_5 out_5n out_5c at_6) he hr h
def lex_Tokens.l75 (Z : List PanicEntry → PT) (Q : Option Addr → Nat → Nat → Int → Int → PT) (X1 : ByteArray → Option Addr → Nat → Nat → Int → PT) : Nat → ByteArray → Option Addr → Nat → Nat → Int → PT
  | 0, _, _, _, _, _ => bad
  | k + 1, s_0, out_5, out_5n, out_5c, at_6 => (lex_Tokens.s78 Z Q X1 (lex_Tokens.l75 Z Q X1 k) s_0 out_5 out_5n out_5c at_6)
def lex_Tokens.j82 (Z : List PanicEntry → PT) (Q : Option Addr → Nat → Nat → Int → Int → PT) (X1 : ByteArray → Option Addr → Nat → Nat → Int → PT) (k : Nat) : Fr → PT := (fun ρ => atS (ρ 0) fun s_0 => atL (ρ 5) fun out_5 out_5n out_5c => atI .i64 (ρ 6) fun at_6 => (lex_Tokens.l75 Z Q X1 k s_0 out_5 out_5n out_5c at_6))
def lex_Tokens.j83 (Z : List PanicEntry → PT) (Q : Option Addr → Nat → Nat → Int → Int → PT) (X1 : ByteArray → Option Addr → Nat → Nat → Int → PT) : Fr → PT := (fun ρ => atS (ρ 0) fun s_0 => atL (ρ 5) fun out_5 out_5n out_5c => atI .i64 (ρ 6) fun at_6 => (exK fun k => lex_Tokens.l75 Z Q X1 k s_0 out_5 out_5n out_5c at_6))
theorem lex_Tokens.o84 (Z : List PanicEntry → PT) (Q : Option Addr → Nat → Nat → Int → Int → PT) (X1 : ByteArray → Option Addr → Nat → Nat → Int → PT) : Ok Tryd.prog Tryd.f36.ntmps Z lex_Tokens.c71 (lex_Tokens.q77 Z Q X1) (lex_Tokens.j83 Z Q X1) := by
  rw [lex_Tokens.q74]
  refine Ok.imp (ok_loop (J := lex_Tokens.j82 Z Q X1) ?_ ?_) ?_
  · intro ρ w h
    obtain ⟨s_0, e0, h⟩ := atS_e h
    obtain ⟨out_5, out_5n, out_5c, e5, h⟩ := atL_e h
    obtain ⟨at_6, e6, h⟩ := atI_e h
    exact h
  · intro k
    refine Ok.imp (lex_Tokens.s78_ok Z Q X1 (lex_Tokens.l75 Z Q X1 k)) fun ρ w h => ?_
    obtain ⟨s_0, e0, h⟩ := atS_e h
    obtain ⟨out_5, out_5n, out_5c, e5, h⟩ := atL_e h
    obtain ⟨at_6, e6, h⟩ := atI_e h
    show (lex_Tokens.j81 Z Q X1 (lex_Tokens.l75 Z Q X1 k)) ρ w
    simp only [lex_Tokens.j81]
    rw [e0]
    rw [e5]
    rw [e6]
    exact h
  · intro ρ w h
    obtain ⟨s_0, e0, h⟩ := atS_e h
    obtain ⟨out_5, out_5n, out_5c, e5, h⟩ := atL_e h
    obtain ⟨at_6, e6, h⟩ := atI_e h
    obtain ⟨k, h⟩ := h
    refine ⟨k, ?_⟩
    show (atS (ρ 0) fun s_0 => atL (ρ 5) fun out_5 out_5n out_5c => atI .i64 (ρ 6) fun at_6 => (lex_Tokens.l75 Z Q X1 k s_0 out_5 out_5n out_5c at_6)) w
    rw [e0]
    rw [e5]
    rw [e6]
    exact h
theorem lex_Tokens.o85 (Z : List PanicEntry → PT) (Q : Option Addr → Nat → Nat → Int → Int → PT) (X1 : ByteArray → Option Addr → Nat → Nat → Int → PT) : Ok Tryd.prog Tryd.f36.ntmps Z lex_Tokens.c66 (lex_Tokens.q76 Z Q X1) (lex_Tokens.j83 Z Q X1) := by
  rw [lex_Tokens.q72]; exact ok_block (lex_Tokens.o84 Z Q X1)
theorem lex_Tokens.o86 (Z : List PanicEntry → PT) (Q : Option Addr → Nat → Nat → Int → Int → PT) (X1 : ByteArray → Option Addr → Nat → Nat → Int → PT) : Ok Tryd.prog Tryd.f36.ntmps Z lex_Tokens.c63 (lex_Tokens.q58 Z Q X1) (lex_Tokens.j83 Z Q X1) := by
  rw [lex_Tokens.q68]; exact ok_seq (lex_Tokens.o85 Z Q X1) (lex_Tokens.s69_ok Z Q X1)
noncomputable def lex_Tokens.c87 : Code := sq1 lex_Tokens.c64
noncomputable def lex_Tokens.c88 : Code := sq2 lex_Tokens.c64
theorem lex_Tokens.q89 : lex_Tokens.c64 = .seq lex_Tokens.c87 lex_Tokens.c88 := by kernel_rfl
noncomputable def lex_Tokens.c90 : Code := cn1 lex_Tokens.c88
noncomputable def lex_Tokens.c91 : Code := cn2 lex_Tokens.c88
theorem lex_Tokens.q92 : lex_Tokens.c88 = .cond (.tmp 53) lex_Tokens.c90 lex_Tokens.c91 := by kernel_rfl
def lex_Tokens.s93 (Z : List PanicEntry → PT) (Q : Option Addr → Nat → Nat → Int → Int → PT) (X1 : ByteArray → Option Addr → Nat → Nat → Int → PT) (s_0 : ByteArray) (out_5 : Option Addr) (out_5n out_5c : Nat) (at_6 : Int) (t_7 : Addr) : PT :=
  (cal Tryd.prog Z 57 [(Value.string s_0), (Value.int .i64 at_6), (Value.int .u8 97), (Value.int .u8 122)] (isI .i64 fun v17 => (st1 (t_7.add 0) (Value.int .i64 1) (slT s_0 at_6 (IntKind.wrap .i64 (at_6 + v17)) fun v18 => (st1 (t_7.add 2) (Value.string v18) (lex_Tokens.s40 Z Q X1 s_0 out_5 out_5n out_5c at_6 t_7 v17))))))
theorem lex_Tokens.s93_eq (Z : List PanicEntry → PT) (Q : Option Addr → Nat → Nat → Int → Int → PT) (X1 : ByteArray → Option Addr → Nat → Nat → Int → PT) (ρ : Fr) (s_0 : ByteArray) (out_5 : Option Addr) (out_5n out_5c : Nat) (at_6 : Int) (t_7 : Addr) : comp Tryd.prog Z lex_Tokens.c90 (lex_Tokens.q58 Z Q X1) (puts ρ [(0, (Value.string s_0)), (5, (Value.slice out_5 out_5n out_5c)), (6, (Value.int .i64 at_6)), (7, (Value.pointer (some t_7)))]) = lex_Tokens.s93 Z Q X1 s_0 out_5 out_5n out_5c at_6 t_7 := by kernel_rfl
def lex_Tokens.j94 (Z : List PanicEntry → PT) (Q : Option Addr → Nat → Nat → Int → Int → PT) (X1 : ByteArray → Option Addr → Nat → Nat → Int → PT) : Fr → PT := (fun ρ => atS (ρ 0) fun s_0 => atL (ρ 5) fun out_5 out_5n out_5c => atI .i64 (ρ 6) fun at_6 => atA (ρ 7) fun t_7 => (lex_Tokens.s93 Z Q X1 s_0 out_5 out_5n out_5c at_6 t_7))
theorem lex_Tokens.s93_ok (Z : List PanicEntry → PT) (Q : Option Addr → Nat → Nat → Int → Int → PT) (X1 : ByteArray → Option Addr → Nat → Nat → Int → PT) : Ok Tryd.prog Tryd.f36.ntmps Z lex_Tokens.c90 (lex_Tokens.q58 Z Q X1) (lex_Tokens.j94 Z Q X1) := by
  intro E he ρ w a hr h
  obtain ⟨s_0, e0, h⟩ := atS_e h
  obtain ⟨out_5, out_5n, out_5c, e5, h⟩ := atL_e h
  obtain ⟨at_6, e6, h⟩ := atI_e h
  obtain ⟨t_7, e7, h⟩ := atA_e h
  exact ok_at [(0, (Value.string s_0)), (5, (Value.slice out_5 out_5n out_5c)), (6, (Value.int .i64 at_6)), (7, (Value.pointer (some t_7)))] (okC lex_Tokens.c90 (lex_Tokens.q58 Z Q X1) (by kernel_rfl)) (puts_cons e0 (puts_cons e5 (puts_cons e6 (puts_cons e7 (fun p hp => puts_nil hp))))) (lex_Tokens.s93_eq Z Q X1 ρ s_0 out_5 out_5n out_5c at_6 t_7) he hr h
noncomputable def lex_Tokens.c95 : Code := sq1 lex_Tokens.c91
noncomputable def lex_Tokens.c96 : Code := sq2 lex_Tokens.c91
theorem lex_Tokens.q97 : lex_Tokens.c91 = .seq lex_Tokens.c95 lex_Tokens.c96 := by kernel_rfl
noncomputable def lex_Tokens.c98 : Code := cn1 lex_Tokens.c96
noncomputable def lex_Tokens.c99 : Code := cn2 lex_Tokens.c96
theorem lex_Tokens.q100 : lex_Tokens.c96 = .cond (.tmp 71) lex_Tokens.c98 lex_Tokens.c99 := by kernel_rfl
def lex_Tokens.s101 (Z : List PanicEntry → PT) (Q : Option Addr → Nat → Nat → Int → Int → PT) (X1 : ByteArray → Option Addr → Nat → Nat → Int → PT) (s_0 : ByteArray) (out_5 : Option Addr) (out_5n out_5c : Nat) (at_6 : Int) (t_7 : Addr) : PT :=
  (cal Tryd.prog Z 57 [(Value.string s_0), (Value.int .i64 at_6), (Value.int .u8 48), (Value.int .u8 57)] (isI .i64 fun v58 => (slT s_0 at_6 (IntKind.wrap .i64 (at_6 + v58)) fun v59 => (cal Tryd.prog Z 58 [(Value.string v59)] (isT2 fun t60 t61 => (isI .i64 fun v62 => ((isB fun v63 => (pif (!v63) (Q none 0 0 7 at_6) (st1 (t_7.add 0) (Value.int .i64 2) (st1 (t_7.add 3) (Value.int .i64 v62) (lex_Tokens.s40 Z Q X1 s_0 out_5 out_5n out_5c at_6 t_7 v58))))) t61)) t60)))))
theorem lex_Tokens.s101_eq (Z : List PanicEntry → PT) (Q : Option Addr → Nat → Nat → Int → Int → PT) (X1 : ByteArray → Option Addr → Nat → Nat → Int → PT) (ρ : Fr) (s_0 : ByteArray) (out_5 : Option Addr) (out_5n out_5c : Nat) (at_6 : Int) (t_7 : Addr) : comp Tryd.prog Z lex_Tokens.c98 (lex_Tokens.q58 Z Q X1) (puts ρ [(0, (Value.string s_0)), (5, (Value.slice out_5 out_5n out_5c)), (6, (Value.int .i64 at_6)), (7, (Value.pointer (some t_7)))]) = lex_Tokens.s101 Z Q X1 s_0 out_5 out_5n out_5c at_6 t_7 := by kernel_rfl
def lex_Tokens.j102 (Z : List PanicEntry → PT) (Q : Option Addr → Nat → Nat → Int → Int → PT) (X1 : ByteArray → Option Addr → Nat → Nat → Int → PT) : Fr → PT := (fun ρ => atS (ρ 0) fun s_0 => atL (ρ 5) fun out_5 out_5n out_5c => atI .i64 (ρ 6) fun at_6 => atA (ρ 7) fun t_7 => (lex_Tokens.s101 Z Q X1 s_0 out_5 out_5n out_5c at_6 t_7))
theorem lex_Tokens.s101_ok (Z : List PanicEntry → PT) (Q : Option Addr → Nat → Nat → Int → Int → PT) (X1 : ByteArray → Option Addr → Nat → Nat → Int → PT) : Ok Tryd.prog Tryd.f36.ntmps Z lex_Tokens.c98 (lex_Tokens.q58 Z Q X1) (lex_Tokens.j102 Z Q X1) := by
  intro E he ρ w a hr h
  obtain ⟨s_0, e0, h⟩ := atS_e h
  obtain ⟨out_5, out_5n, out_5c, e5, h⟩ := atL_e h
  obtain ⟨at_6, e6, h⟩ := atI_e h
  obtain ⟨t_7, e7, h⟩ := atA_e h
  exact ok_at [(0, (Value.string s_0)), (5, (Value.slice out_5 out_5n out_5c)), (6, (Value.int .i64 at_6)), (7, (Value.pointer (some t_7)))] (okC lex_Tokens.c98 (lex_Tokens.q58 Z Q X1) (by kernel_rfl)) (puts_cons e0 (puts_cons e5 (puts_cons e6 (puts_cons e7 (fun p hp => puts_nil hp))))) (lex_Tokens.s101_eq Z Q X1 ρ s_0 out_5 out_5n out_5c at_6 t_7) he hr h
noncomputable def lex_Tokens.c103 : Code := sq1 lex_Tokens.c99
noncomputable def lex_Tokens.c104 : Code := sq2 lex_Tokens.c99
theorem lex_Tokens.q105 : lex_Tokens.c99 = .seq lex_Tokens.c103 lex_Tokens.c104 := by kernel_rfl
noncomputable def lex_Tokens.c106 : Code := cn1 lex_Tokens.c104
noncomputable def lex_Tokens.c107 : Code := cn2 lex_Tokens.c104
theorem lex_Tokens.q108 : lex_Tokens.c104 = .cond (.tmp 97) lex_Tokens.c106 lex_Tokens.c107 := by kernel_rfl
def lex_Tokens.s109 (Z : List PanicEntry → PT) (Q : Option Addr → Nat → Nat → Int → Int → PT) (X1 : ByteArray → Option Addr → Nat → Nat → Int → PT) (s_0 : ByteArray) (out_5 : Option Addr) (out_5n out_5c : Nat) (at_6 : Int) (t_7 : Addr) (n_8 : Int) : PT :=
  (st1 (t_7.add 0) (Value.int .i64 3) (lex_Tokens.s40 Z Q X1 s_0 out_5 out_5n out_5c at_6 t_7 n_8))
theorem lex_Tokens.s109_eq (Z : List PanicEntry → PT) (Q : Option Addr → Nat → Nat → Int → Int → PT) (X1 : ByteArray → Option Addr → Nat → Nat → Int → PT) (ρ : Fr) (s_0 : ByteArray) (out_5 : Option Addr) (out_5n out_5c : Nat) (at_6 : Int) (t_7 : Addr) (n_8 : Int) : comp Tryd.prog Z lex_Tokens.c106 (lex_Tokens.q58 Z Q X1) (puts ρ [(0, (Value.string s_0)), (5, (Value.slice out_5 out_5n out_5c)), (6, (Value.int .i64 at_6)), (7, (Value.pointer (some t_7))), (8, (Value.int .i64 n_8))]) = lex_Tokens.s109 Z Q X1 s_0 out_5 out_5n out_5c at_6 t_7 n_8 := by kernel_rfl
def lex_Tokens.j110 (Z : List PanicEntry → PT) (Q : Option Addr → Nat → Nat → Int → Int → PT) (X1 : ByteArray → Option Addr → Nat → Nat → Int → PT) : Fr → PT := (fun ρ => atS (ρ 0) fun s_0 => atL (ρ 5) fun out_5 out_5n out_5c => atI .i64 (ρ 6) fun at_6 => atA (ρ 7) fun t_7 => atI .i64 (ρ 8) fun n_8 => (lex_Tokens.s109 Z Q X1 s_0 out_5 out_5n out_5c at_6 t_7 n_8))
theorem lex_Tokens.s109_ok (Z : List PanicEntry → PT) (Q : Option Addr → Nat → Nat → Int → Int → PT) (X1 : ByteArray → Option Addr → Nat → Nat → Int → PT) : Ok Tryd.prog Tryd.f36.ntmps Z lex_Tokens.c106 (lex_Tokens.q58 Z Q X1) (lex_Tokens.j110 Z Q X1) := by
  intro E he ρ w a hr h
  obtain ⟨s_0, e0, h⟩ := atS_e h
  obtain ⟨out_5, out_5n, out_5c, e5, h⟩ := atL_e h
  obtain ⟨at_6, e6, h⟩ := atI_e h
  obtain ⟨t_7, e7, h⟩ := atA_e h
  obtain ⟨n_8, e8, h⟩ := atI_e h
  exact ok_at [(0, (Value.string s_0)), (5, (Value.slice out_5 out_5n out_5c)), (6, (Value.int .i64 at_6)), (7, (Value.pointer (some t_7))), (8, (Value.int .i64 n_8))] (okC lex_Tokens.c106 (lex_Tokens.q58 Z Q X1) (by kernel_rfl)) (puts_cons e0 (puts_cons e5 (puts_cons e6 (puts_cons e7 (puts_cons e8 (fun p hp => puts_nil hp)))))) (lex_Tokens.s109_eq Z Q X1 ρ s_0 out_5 out_5n out_5c at_6 t_7 n_8) he hr h
noncomputable def lex_Tokens.c111 : Code := sq1 lex_Tokens.c107
noncomputable def lex_Tokens.c112 : Code := sq2 lex_Tokens.c107
theorem lex_Tokens.q113 : lex_Tokens.c107 = .seq lex_Tokens.c111 lex_Tokens.c112 := by kernel_rfl
noncomputable def lex_Tokens.c114 : Code := cn1 lex_Tokens.c112
noncomputable def lex_Tokens.c115 : Code := cn2 lex_Tokens.c112
theorem lex_Tokens.q116 : lex_Tokens.c112 = .cond (.tmp 101) lex_Tokens.c114 lex_Tokens.c115 := by kernel_rfl
def lex_Tokens.s117 (Z : List PanicEntry → PT) (Q : Option Addr → Nat → Nat → Int → Int → PT) (X1 : ByteArray → Option Addr → Nat → Nat → Int → PT) (s_0 : ByteArray) (out_5 : Option Addr) (out_5n out_5c : Nat) (at_6 : Int) (t_7 : Addr) (n_8 : Int) : PT :=
  (st1 (t_7.add 0) (Value.int .i64 4) (lex_Tokens.s40 Z Q X1 s_0 out_5 out_5n out_5c at_6 t_7 n_8))
theorem lex_Tokens.s117_eq (Z : List PanicEntry → PT) (Q : Option Addr → Nat → Nat → Int → Int → PT) (X1 : ByteArray → Option Addr → Nat → Nat → Int → PT) (ρ : Fr) (s_0 : ByteArray) (out_5 : Option Addr) (out_5n out_5c : Nat) (at_6 : Int) (t_7 : Addr) (n_8 : Int) : comp Tryd.prog Z lex_Tokens.c114 (lex_Tokens.q58 Z Q X1) (puts ρ [(0, (Value.string s_0)), (5, (Value.slice out_5 out_5n out_5c)), (6, (Value.int .i64 at_6)), (7, (Value.pointer (some t_7))), (8, (Value.int .i64 n_8))]) = lex_Tokens.s117 Z Q X1 s_0 out_5 out_5n out_5c at_6 t_7 n_8 := by kernel_rfl
def lex_Tokens.j118 (Z : List PanicEntry → PT) (Q : Option Addr → Nat → Nat → Int → Int → PT) (X1 : ByteArray → Option Addr → Nat → Nat → Int → PT) : Fr → PT := (fun ρ => atS (ρ 0) fun s_0 => atL (ρ 5) fun out_5 out_5n out_5c => atI .i64 (ρ 6) fun at_6 => atA (ρ 7) fun t_7 => atI .i64 (ρ 8) fun n_8 => (lex_Tokens.s117 Z Q X1 s_0 out_5 out_5n out_5c at_6 t_7 n_8))
theorem lex_Tokens.s117_ok (Z : List PanicEntry → PT) (Q : Option Addr → Nat → Nat → Int → Int → PT) (X1 : ByteArray → Option Addr → Nat → Nat → Int → PT) : Ok Tryd.prog Tryd.f36.ntmps Z lex_Tokens.c114 (lex_Tokens.q58 Z Q X1) (lex_Tokens.j118 Z Q X1) := by
  intro E he ρ w a hr h
  obtain ⟨s_0, e0, h⟩ := atS_e h
  obtain ⟨out_5, out_5n, out_5c, e5, h⟩ := atL_e h
  obtain ⟨at_6, e6, h⟩ := atI_e h
  obtain ⟨t_7, e7, h⟩ := atA_e h
  obtain ⟨n_8, e8, h⟩ := atI_e h
  exact ok_at [(0, (Value.string s_0)), (5, (Value.slice out_5 out_5n out_5c)), (6, (Value.int .i64 at_6)), (7, (Value.pointer (some t_7))), (8, (Value.int .i64 n_8))] (okC lex_Tokens.c114 (lex_Tokens.q58 Z Q X1) (by kernel_rfl)) (puts_cons e0 (puts_cons e5 (puts_cons e6 (puts_cons e7 (puts_cons e8 (fun p hp => puts_nil hp)))))) (lex_Tokens.s117_eq Z Q X1 ρ s_0 out_5 out_5n out_5c at_6 t_7 n_8) he hr h
noncomputable def lex_Tokens.c119 : Code := sq1 lex_Tokens.c115
noncomputable def lex_Tokens.c120 : Code := sq2 lex_Tokens.c115
theorem lex_Tokens.q121 : lex_Tokens.c115 = .seq lex_Tokens.c119 lex_Tokens.c120 := by kernel_rfl
def lex_Tokens.s122 (Z : List PanicEntry → PT) (Q : Option Addr → Nat → Nat → Int → Int → PT) (X1 : ByteArray → Option Addr → Nat → Nat → Int → PT) (s_0 : ByteArray) (out_5 : Option Addr) (out_5n out_5c : Nat) (at_6 : Int) (t_7 : Addr) (n_8 : Int) (c_9 : Int) (t_105 : Bool) : PT :=
  (pif t_105 (st1 (t_7.add 0) (Value.int .i64 6) (lex_Tokens.s40 Z Q X1 s_0 out_5 out_5n out_5c at_6 t_7 2)) (pif (c_9 == 45) (st1 (t_7.add 0) (Value.int .i64 5) (lex_Tokens.s40 Z Q X1 s_0 out_5 out_5n out_5c at_6 t_7 n_8)) (pif (c_9 == 10) (st1 (t_7.add 0) (Value.int .i64 7) (lex_Tokens.s40 Z Q X1 s_0 out_5 out_5n out_5c at_6 t_7 n_8)) (Q none 0 0 6 at_6))))
theorem lex_Tokens.s122_eq (Z : List PanicEntry → PT) (Q : Option Addr → Nat → Nat → Int → Int → PT) (X1 : ByteArray → Option Addr → Nat → Nat → Int → PT) (ρ : Fr) (s_0 : ByteArray) (out_5 : Option Addr) (out_5n out_5c : Nat) (at_6 : Int) (t_7 : Addr) (n_8 : Int) (c_9 : Int) (t_105 : Bool) : comp Tryd.prog Z lex_Tokens.c120 (lex_Tokens.q58 Z Q X1) (puts ρ [(0, (Value.string s_0)), (5, (Value.slice out_5 out_5n out_5c)), (6, (Value.int .i64 at_6)), (7, (Value.pointer (some t_7))), (8, (Value.int .i64 n_8)), (9, (Value.int .u8 c_9)), (105, (Value.bool t_105))]) = lex_Tokens.s122 Z Q X1 s_0 out_5 out_5n out_5c at_6 t_7 n_8 c_9 t_105 := by kernel_rfl
def lex_Tokens.j123 (Z : List PanicEntry → PT) (Q : Option Addr → Nat → Nat → Int → Int → PT) (X1 : ByteArray → Option Addr → Nat → Nat → Int → PT) : Fr → PT := (fun ρ => atS (ρ 0) fun s_0 => atL (ρ 5) fun out_5 out_5n out_5c => atI .i64 (ρ 6) fun at_6 => atA (ρ 7) fun t_7 => atI .i64 (ρ 8) fun n_8 => atI .u8 (ρ 9) fun c_9 => atB (ρ 105) fun t_105 => (lex_Tokens.s122 Z Q X1 s_0 out_5 out_5n out_5c at_6 t_7 n_8 c_9 t_105))
theorem lex_Tokens.s122_ok (Z : List PanicEntry → PT) (Q : Option Addr → Nat → Nat → Int → Int → PT) (X1 : ByteArray → Option Addr → Nat → Nat → Int → PT) : Ok Tryd.prog Tryd.f36.ntmps Z lex_Tokens.c120 (lex_Tokens.q58 Z Q X1) (lex_Tokens.j123 Z Q X1) := by
  intro E he ρ w a hr h
  obtain ⟨s_0, e0, h⟩ := atS_e h
  obtain ⟨out_5, out_5n, out_5c, e5, h⟩ := atL_e h
  obtain ⟨at_6, e6, h⟩ := atI_e h
  obtain ⟨t_7, e7, h⟩ := atA_e h
  obtain ⟨n_8, e8, h⟩ := atI_e h
  obtain ⟨c_9, e9, h⟩ := atI_e h
  obtain ⟨t_105, e105, h⟩ := atB_e h
  exact ok_at [(0, (Value.string s_0)), (5, (Value.slice out_5 out_5n out_5c)), (6, (Value.int .i64 at_6)), (7, (Value.pointer (some t_7))), (8, (Value.int .i64 n_8)), (9, (Value.int .u8 c_9)), (105, (Value.bool t_105))] (okC lex_Tokens.c120 (lex_Tokens.q58 Z Q X1) (by kernel_rfl)) (puts_cons e0 (puts_cons e5 (puts_cons e6 (puts_cons e7 (puts_cons e8 (puts_cons e9 (puts_cons e105 (fun p hp => puts_nil hp)))))))) (lex_Tokens.s122_eq Z Q X1 ρ s_0 out_5 out_5n out_5c at_6 t_7 n_8 c_9 t_105) he hr h
def lex_Tokens.s124 (Z : List PanicEntry → PT) (Q : Option Addr → Nat → Nat → Int → Int → PT) (X1 : ByteArray → Option Addr → Nat → Nat → Int → PT) (s_0 : ByteArray) (out_5 : Option Addr) (out_5n out_5c : Nat) (at_6 : Int) (t_7 : Addr) (n_8 : Int) (c_9 : Int) : PT :=
  (pif (c_9 == 45) (pif (decide ((IntKind.wrap .i64 (at_6 + 1)) < ((s_0.size : Nat) : Int))) (ixT s_0 (IntKind.wrap .i64 (at_6 + 1)) fun v70 => (lex_Tokens.s122 Z Q X1 s_0 out_5 out_5n out_5c at_6 t_7 n_8 c_9 (((v70.toNat : Nat) : Int) == 62))) (lex_Tokens.s122 Z Q X1 s_0 out_5 out_5n out_5c at_6 t_7 n_8 c_9 false)) (lex_Tokens.s122 Z Q X1 s_0 out_5 out_5n out_5c at_6 t_7 n_8 c_9 false))
theorem lex_Tokens.s124_eq (Z : List PanicEntry → PT) (Q : Option Addr → Nat → Nat → Int → Int → PT) (X1 : ByteArray → Option Addr → Nat → Nat → Int → PT) (ρ : Fr) (s_0 : ByteArray) (out_5 : Option Addr) (out_5n out_5c : Nat) (at_6 : Int) (t_7 : Addr) (n_8 : Int) (c_9 : Int) : (comp Tryd.prog Z lex_Tokens.c119 (thenK (lex_Tokens.j123 Z Q X1) (lex_Tokens.q58 Z Q X1))) (puts ρ [(0, (Value.string s_0)), (5, (Value.slice out_5 out_5n out_5c)), (6, (Value.int .i64 at_6)), (7, (Value.pointer (some t_7))), (8, (Value.int .i64 n_8)), (9, (Value.int .u8 c_9))]) = lex_Tokens.s124 Z Q X1 s_0 out_5 out_5n out_5c at_6 t_7 n_8 c_9 := by kernel_rfl
def lex_Tokens.j125 (Z : List PanicEntry → PT) (Q : Option Addr → Nat → Nat → Int → Int → PT) (X1 : ByteArray → Option Addr → Nat → Nat → Int → PT) : Fr → PT := (fun ρ => atS (ρ 0) fun s_0 => atL (ρ 5) fun out_5 out_5n out_5c => atI .i64 (ρ 6) fun at_6 => atA (ρ 7) fun t_7 => atI .i64 (ρ 8) fun n_8 => atI .u8 (ρ 9) fun c_9 => (lex_Tokens.s124 Z Q X1 s_0 out_5 out_5n out_5c at_6 t_7 n_8 c_9))
theorem lex_Tokens.s124_ok (Z : List PanicEntry → PT) (Q : Option Addr → Nat → Nat → Int → Int → PT) (X1 : ByteArray → Option Addr → Nat → Nat → Int → PT) : Ok Tryd.prog Tryd.f36.ntmps Z lex_Tokens.c115 (lex_Tokens.q58 Z Q X1) (lex_Tokens.j125 Z Q X1) := by
  intro E he ρ w a hr h
  rw [lex_Tokens.q121] at he ⊢
  obtain ⟨s_0, e0, h⟩ := atS_e h
  obtain ⟨out_5, out_5n, out_5c, e5, h⟩ := atL_e h
  obtain ⟨at_6, e6, h⟩ := atI_e h
  obtain ⟨t_7, e7, h⟩ := atA_e h
  obtain ⟨n_8, e8, h⟩ := atI_e h
  obtain ⟨c_9, e9, h⟩ := atI_e h
  exact ok_at [(0, (Value.string s_0)), (5, (Value.slice out_5 out_5n out_5c)), (6, (Value.int .i64 at_6)), (7, (Value.pointer (some t_7))), (8, (Value.int .i64 n_8)), (9, (Value.int .u8 c_9))] (ok_seq (okC lex_Tokens.c119 _ (by kernel_rfl)) (lex_Tokens.s122_ok Z Q X1)) (puts_cons e0 (puts_cons e5 (puts_cons e6 (puts_cons e7 (puts_cons e8 (puts_cons e9 (fun p hp => puts_nil hp))))))) (lex_Tokens.s124_eq Z Q X1 ρ s_0 out_5 out_5n out_5c at_6 t_7 n_8 c_9) he hr h
theorem lex_Tokens.o126 (Z : List PanicEntry → PT) (Q : Option Addr → Nat → Nat → Int → Int → PT) (X1 : ByteArray → Option Addr → Nat → Nat → Int → PT) : Ok Tryd.prog Tryd.f36.ntmps Z lex_Tokens.c112 (lex_Tokens.q58 Z Q X1) (condJ (.tmp 101) (lex_Tokens.j118 Z Q X1) (lex_Tokens.j125 Z Q X1)) := by
  rw [lex_Tokens.q116]; exact ok_cond (lex_Tokens.s117_ok Z Q X1) (lex_Tokens.s124_ok Z Q X1)
def lex_Tokens.s127 (Z : List PanicEntry → PT) (Q : Option Addr → Nat → Nat → Int → Int → PT) (X1 : ByteArray → Option Addr → Nat → Nat → Int → PT) (s_0 : ByteArray) (out_5 : Option Addr) (out_5n out_5c : Nat) (at_6 : Int) (t_7 : Addr) (n_8 : Int) (c_9 : Int) : PT :=
  (pif (c_9 == 47) (lex_Tokens.s117 Z Q X1 s_0 out_5 out_5n out_5c at_6 t_7 n_8) (lex_Tokens.s124 Z Q X1 s_0 out_5 out_5n out_5c at_6 t_7 n_8 c_9))
theorem lex_Tokens.s127_eq (Z : List PanicEntry → PT) (Q : Option Addr → Nat → Nat → Int → Int → PT) (X1 : ByteArray → Option Addr → Nat → Nat → Int → PT) (ρ : Fr) (s_0 : ByteArray) (out_5 : Option Addr) (out_5n out_5c : Nat) (at_6 : Int) (t_7 : Addr) (n_8 : Int) (c_9 : Int) : (comp Tryd.prog Z lex_Tokens.c111 (thenK (condJ (.tmp 101) (lex_Tokens.j118 Z Q X1) (lex_Tokens.j125 Z Q X1)) (lex_Tokens.q58 Z Q X1))) (puts ρ [(0, (Value.string s_0)), (5, (Value.slice out_5 out_5n out_5c)), (6, (Value.int .i64 at_6)), (7, (Value.pointer (some t_7))), (8, (Value.int .i64 n_8)), (9, (Value.int .u8 c_9))]) = lex_Tokens.s127 Z Q X1 s_0 out_5 out_5n out_5c at_6 t_7 n_8 c_9 := by kernel_rfl
def lex_Tokens.j128 (Z : List PanicEntry → PT) (Q : Option Addr → Nat → Nat → Int → Int → PT) (X1 : ByteArray → Option Addr → Nat → Nat → Int → PT) : Fr → PT := (fun ρ => atS (ρ 0) fun s_0 => atL (ρ 5) fun out_5 out_5n out_5c => atI .i64 (ρ 6) fun at_6 => atA (ρ 7) fun t_7 => atI .i64 (ρ 8) fun n_8 => atI .u8 (ρ 9) fun c_9 => (lex_Tokens.s127 Z Q X1 s_0 out_5 out_5n out_5c at_6 t_7 n_8 c_9))
theorem lex_Tokens.s127_ok (Z : List PanicEntry → PT) (Q : Option Addr → Nat → Nat → Int → Int → PT) (X1 : ByteArray → Option Addr → Nat → Nat → Int → PT) : Ok Tryd.prog Tryd.f36.ntmps Z lex_Tokens.c107 (lex_Tokens.q58 Z Q X1) (lex_Tokens.j128 Z Q X1) := by
  intro E he ρ w a hr h
  rw [lex_Tokens.q113] at he ⊢
  obtain ⟨s_0, e0, h⟩ := atS_e h
  obtain ⟨out_5, out_5n, out_5c, e5, h⟩ := atL_e h
  obtain ⟨at_6, e6, h⟩ := atI_e h
  obtain ⟨t_7, e7, h⟩ := atA_e h
  obtain ⟨n_8, e8, h⟩ := atI_e h
  obtain ⟨c_9, e9, h⟩ := atI_e h
  exact ok_at [(0, (Value.string s_0)), (5, (Value.slice out_5 out_5n out_5c)), (6, (Value.int .i64 at_6)), (7, (Value.pointer (some t_7))), (8, (Value.int .i64 n_8)), (9, (Value.int .u8 c_9))] (ok_seq (okC lex_Tokens.c111 _ (by kernel_rfl)) (lex_Tokens.o126 Z Q X1)) (puts_cons e0 (puts_cons e5 (puts_cons e6 (puts_cons e7 (puts_cons e8 (puts_cons e9 (fun p hp => puts_nil hp))))))) (lex_Tokens.s127_eq Z Q X1 ρ s_0 out_5 out_5n out_5c at_6 t_7 n_8 c_9) he hr h
theorem lex_Tokens.o129 (Z : List PanicEntry → PT) (Q : Option Addr → Nat → Nat → Int → Int → PT) (X1 : ByteArray → Option Addr → Nat → Nat → Int → PT) : Ok Tryd.prog Tryd.f36.ntmps Z lex_Tokens.c104 (lex_Tokens.q58 Z Q X1) (condJ (.tmp 97) (lex_Tokens.j110 Z Q X1) (lex_Tokens.j128 Z Q X1)) := by
  rw [lex_Tokens.q108]; exact ok_cond (lex_Tokens.s109_ok Z Q X1) (lex_Tokens.s127_ok Z Q X1)
def lex_Tokens.s130 (Z : List PanicEntry → PT) (Q : Option Addr → Nat → Nat → Int → Int → PT) (X1 : ByteArray → Option Addr → Nat → Nat → Int → PT) (s_0 : ByteArray) (out_5 : Option Addr) (out_5n out_5c : Nat) (at_6 : Int) (t_7 : Addr) (n_8 : Int) (c_9 : Int) : PT :=
  (pif (c_9 == 46) (lex_Tokens.s109 Z Q X1 s_0 out_5 out_5n out_5c at_6 t_7 n_8) (lex_Tokens.s127 Z Q X1 s_0 out_5 out_5n out_5c at_6 t_7 n_8 c_9))
theorem lex_Tokens.s130_eq (Z : List PanicEntry → PT) (Q : Option Addr → Nat → Nat → Int → Int → PT) (X1 : ByteArray → Option Addr → Nat → Nat → Int → PT) (ρ : Fr) (s_0 : ByteArray) (out_5 : Option Addr) (out_5n out_5c : Nat) (at_6 : Int) (t_7 : Addr) (n_8 : Int) (c_9 : Int) : (comp Tryd.prog Z lex_Tokens.c103 (thenK (condJ (.tmp 97) (lex_Tokens.j110 Z Q X1) (lex_Tokens.j128 Z Q X1)) (lex_Tokens.q58 Z Q X1))) (puts ρ [(0, (Value.string s_0)), (5, (Value.slice out_5 out_5n out_5c)), (6, (Value.int .i64 at_6)), (7, (Value.pointer (some t_7))), (8, (Value.int .i64 n_8)), (9, (Value.int .u8 c_9))]) = lex_Tokens.s130 Z Q X1 s_0 out_5 out_5n out_5c at_6 t_7 n_8 c_9 := by kernel_rfl
def lex_Tokens.j131 (Z : List PanicEntry → PT) (Q : Option Addr → Nat → Nat → Int → Int → PT) (X1 : ByteArray → Option Addr → Nat → Nat → Int → PT) : Fr → PT := (fun ρ => atS (ρ 0) fun s_0 => atL (ρ 5) fun out_5 out_5n out_5c => atI .i64 (ρ 6) fun at_6 => atA (ρ 7) fun t_7 => atI .i64 (ρ 8) fun n_8 => atI .u8 (ρ 9) fun c_9 => (lex_Tokens.s130 Z Q X1 s_0 out_5 out_5n out_5c at_6 t_7 n_8 c_9))
theorem lex_Tokens.s130_ok (Z : List PanicEntry → PT) (Q : Option Addr → Nat → Nat → Int → Int → PT) (X1 : ByteArray → Option Addr → Nat → Nat → Int → PT) : Ok Tryd.prog Tryd.f36.ntmps Z lex_Tokens.c99 (lex_Tokens.q58 Z Q X1) (lex_Tokens.j131 Z Q X1) := by
  intro E he ρ w a hr h
  rw [lex_Tokens.q105] at he ⊢
  obtain ⟨s_0, e0, h⟩ := atS_e h
  obtain ⟨out_5, out_5n, out_5c, e5, h⟩ := atL_e h
  obtain ⟨at_6, e6, h⟩ := atI_e h
  obtain ⟨t_7, e7, h⟩ := atA_e h
  obtain ⟨n_8, e8, h⟩ := atI_e h
  obtain ⟨c_9, e9, h⟩ := atI_e h
  exact ok_at [(0, (Value.string s_0)), (5, (Value.slice out_5 out_5n out_5c)), (6, (Value.int .i64 at_6)), (7, (Value.pointer (some t_7))), (8, (Value.int .i64 n_8)), (9, (Value.int .u8 c_9))] (ok_seq (okC lex_Tokens.c103 _ (by kernel_rfl)) (lex_Tokens.o129 Z Q X1)) (puts_cons e0 (puts_cons e5 (puts_cons e6 (puts_cons e7 (puts_cons e8 (puts_cons e9 (fun p hp => puts_nil hp))))))) (lex_Tokens.s130_eq Z Q X1 ρ s_0 out_5 out_5n out_5c at_6 t_7 n_8 c_9) he hr h
theorem lex_Tokens.o132 (Z : List PanicEntry → PT) (Q : Option Addr → Nat → Nat → Int → Int → PT) (X1 : ByteArray → Option Addr → Nat → Nat → Int → PT) : Ok Tryd.prog Tryd.f36.ntmps Z lex_Tokens.c96 (lex_Tokens.q58 Z Q X1) (condJ (.tmp 71) (lex_Tokens.j102 Z Q X1) (lex_Tokens.j131 Z Q X1)) := by
  rw [lex_Tokens.q100]; exact ok_cond (lex_Tokens.s101_ok Z Q X1) (lex_Tokens.s130_ok Z Q X1)
def lex_Tokens.s133 (Z : List PanicEntry → PT) (Q : Option Addr → Nat → Nat → Int → Int → PT) (X1 : ByteArray → Option Addr → Nat → Nat → Int → PT) (s_0 : ByteArray) (out_5 : Option Addr) (out_5n out_5c : Nat) (at_6 : Int) (t_7 : Addr) (n_8 : Int) (c_9 : Int) : PT :=
  (pif (decide (c_9 ≥ 48)) (pif (decide (c_9 ≤ 57)) (lex_Tokens.s101 Z Q X1 s_0 out_5 out_5n out_5c at_6 t_7) (lex_Tokens.s130 Z Q X1 s_0 out_5 out_5n out_5c at_6 t_7 n_8 c_9)) (lex_Tokens.s130 Z Q X1 s_0 out_5 out_5n out_5c at_6 t_7 n_8 c_9))
theorem lex_Tokens.s133_eq (Z : List PanicEntry → PT) (Q : Option Addr → Nat → Nat → Int → Int → PT) (X1 : ByteArray → Option Addr → Nat → Nat → Int → PT) (ρ : Fr) (s_0 : ByteArray) (out_5 : Option Addr) (out_5n out_5c : Nat) (at_6 : Int) (t_7 : Addr) (n_8 : Int) (c_9 : Int) : (comp Tryd.prog Z lex_Tokens.c95 (thenK (condJ (.tmp 71) (lex_Tokens.j102 Z Q X1) (lex_Tokens.j131 Z Q X1)) (lex_Tokens.q58 Z Q X1))) (puts ρ [(0, (Value.string s_0)), (5, (Value.slice out_5 out_5n out_5c)), (6, (Value.int .i64 at_6)), (7, (Value.pointer (some t_7))), (8, (Value.int .i64 n_8)), (9, (Value.int .u8 c_9))]) = lex_Tokens.s133 Z Q X1 s_0 out_5 out_5n out_5c at_6 t_7 n_8 c_9 := by kernel_rfl
def lex_Tokens.j134 (Z : List PanicEntry → PT) (Q : Option Addr → Nat → Nat → Int → Int → PT) (X1 : ByteArray → Option Addr → Nat → Nat → Int → PT) : Fr → PT := (fun ρ => atS (ρ 0) fun s_0 => atL (ρ 5) fun out_5 out_5n out_5c => atI .i64 (ρ 6) fun at_6 => atA (ρ 7) fun t_7 => atI .i64 (ρ 8) fun n_8 => atI .u8 (ρ 9) fun c_9 => (lex_Tokens.s133 Z Q X1 s_0 out_5 out_5n out_5c at_6 t_7 n_8 c_9))
theorem lex_Tokens.s133_ok (Z : List PanicEntry → PT) (Q : Option Addr → Nat → Nat → Int → Int → PT) (X1 : ByteArray → Option Addr → Nat → Nat → Int → PT) : Ok Tryd.prog Tryd.f36.ntmps Z lex_Tokens.c91 (lex_Tokens.q58 Z Q X1) (lex_Tokens.j134 Z Q X1) := by
  intro E he ρ w a hr h
  rw [lex_Tokens.q97] at he ⊢
  obtain ⟨s_0, e0, h⟩ := atS_e h
  obtain ⟨out_5, out_5n, out_5c, e5, h⟩ := atL_e h
  obtain ⟨at_6, e6, h⟩ := atI_e h
  obtain ⟨t_7, e7, h⟩ := atA_e h
  obtain ⟨n_8, e8, h⟩ := atI_e h
  obtain ⟨c_9, e9, h⟩ := atI_e h
  exact ok_at [(0, (Value.string s_0)), (5, (Value.slice out_5 out_5n out_5c)), (6, (Value.int .i64 at_6)), (7, (Value.pointer (some t_7))), (8, (Value.int .i64 n_8)), (9, (Value.int .u8 c_9))] (ok_seq (okC lex_Tokens.c95 _ (by kernel_rfl)) (lex_Tokens.o132 Z Q X1)) (puts_cons e0 (puts_cons e5 (puts_cons e6 (puts_cons e7 (puts_cons e8 (puts_cons e9 (fun p hp => puts_nil hp))))))) (lex_Tokens.s133_eq Z Q X1 ρ s_0 out_5 out_5n out_5c at_6 t_7 n_8 c_9) he hr h
theorem lex_Tokens.o135 (Z : List PanicEntry → PT) (Q : Option Addr → Nat → Nat → Int → Int → PT) (X1 : ByteArray → Option Addr → Nat → Nat → Int → PT) : Ok Tryd.prog Tryd.f36.ntmps Z lex_Tokens.c88 (lex_Tokens.q58 Z Q X1) (condJ (.tmp 53) (lex_Tokens.j94 Z Q X1) (lex_Tokens.j134 Z Q X1)) := by
  rw [lex_Tokens.q92]; exact ok_cond (lex_Tokens.s93_ok Z Q X1) (lex_Tokens.s133_ok Z Q X1)
def lex_Tokens.s136 (Z : List PanicEntry → PT) (Q : Option Addr → Nat → Nat → Int → Int → PT) (X1 : ByteArray → Option Addr → Nat → Nat → Int → PT) (s_0 : ByteArray) (out_5 : Option Addr) (out_5n out_5c : Nat) (at_6 : Int) (t_7 : Addr) (n_8 : Int) (c_9 : Int) : PT :=
  (pif (decide (c_9 ≥ 97)) (pif (decide (c_9 ≤ 122)) (lex_Tokens.s93 Z Q X1 s_0 out_5 out_5n out_5c at_6 t_7) (lex_Tokens.s133 Z Q X1 s_0 out_5 out_5n out_5c at_6 t_7 n_8 c_9)) (lex_Tokens.s133 Z Q X1 s_0 out_5 out_5n out_5c at_6 t_7 n_8 c_9))
theorem lex_Tokens.s136_eq (Z : List PanicEntry → PT) (Q : Option Addr → Nat → Nat → Int → Int → PT) (X1 : ByteArray → Option Addr → Nat → Nat → Int → PT) (ρ : Fr) (s_0 : ByteArray) (out_5 : Option Addr) (out_5n out_5c : Nat) (at_6 : Int) (t_7 : Addr) (n_8 : Int) (c_9 : Int) : (comp Tryd.prog Z lex_Tokens.c87 (thenK (condJ (.tmp 53) (lex_Tokens.j94 Z Q X1) (lex_Tokens.j134 Z Q X1)) (lex_Tokens.q58 Z Q X1))) (puts ρ [(0, (Value.string s_0)), (5, (Value.slice out_5 out_5n out_5c)), (6, (Value.int .i64 at_6)), (7, (Value.pointer (some t_7))), (8, (Value.int .i64 n_8)), (9, (Value.int .u8 c_9))]) = lex_Tokens.s136 Z Q X1 s_0 out_5 out_5n out_5c at_6 t_7 n_8 c_9 := by kernel_rfl
def lex_Tokens.j137 (Z : List PanicEntry → PT) (Q : Option Addr → Nat → Nat → Int → Int → PT) (X1 : ByteArray → Option Addr → Nat → Nat → Int → PT) : Fr → PT := (fun ρ => atS (ρ 0) fun s_0 => atL (ρ 5) fun out_5 out_5n out_5c => atI .i64 (ρ 6) fun at_6 => atA (ρ 7) fun t_7 => atI .i64 (ρ 8) fun n_8 => atI .u8 (ρ 9) fun c_9 => (lex_Tokens.s136 Z Q X1 s_0 out_5 out_5n out_5c at_6 t_7 n_8 c_9))
theorem lex_Tokens.s136_ok (Z : List PanicEntry → PT) (Q : Option Addr → Nat → Nat → Int → Int → PT) (X1 : ByteArray → Option Addr → Nat → Nat → Int → PT) : Ok Tryd.prog Tryd.f36.ntmps Z lex_Tokens.c64 (lex_Tokens.q58 Z Q X1) (lex_Tokens.j137 Z Q X1) := by
  intro E he ρ w a hr h
  rw [lex_Tokens.q89] at he ⊢
  obtain ⟨s_0, e0, h⟩ := atS_e h
  obtain ⟨out_5, out_5n, out_5c, e5, h⟩ := atL_e h
  obtain ⟨at_6, e6, h⟩ := atI_e h
  obtain ⟨t_7, e7, h⟩ := atA_e h
  obtain ⟨n_8, e8, h⟩ := atI_e h
  obtain ⟨c_9, e9, h⟩ := atI_e h
  exact ok_at [(0, (Value.string s_0)), (5, (Value.slice out_5 out_5n out_5c)), (6, (Value.int .i64 at_6)), (7, (Value.pointer (some t_7))), (8, (Value.int .i64 n_8)), (9, (Value.int .u8 c_9))] (ok_seq (okC lex_Tokens.c87 _ (by kernel_rfl)) (lex_Tokens.o135 Z Q X1)) (puts_cons e0 (puts_cons e5 (puts_cons e6 (puts_cons e7 (puts_cons e8 (puts_cons e9 (fun p hp => puts_nil hp))))))) (lex_Tokens.s136_eq Z Q X1 ρ s_0 out_5 out_5n out_5c at_6 t_7 n_8 c_9) he hr h
theorem lex_Tokens.o138 (Z : List PanicEntry → PT) (Q : Option Addr → Nat → Nat → Int → Int → PT) (X1 : ByteArray → Option Addr → Nat → Nat → Int → PT) : Ok Tryd.prog Tryd.f36.ntmps Z lex_Tokens.c61 (lex_Tokens.q58 Z Q X1) (condJ (.tmp 38) (lex_Tokens.j83 Z Q X1) (lex_Tokens.j137 Z Q X1)) := by
  rw [lex_Tokens.q65]; exact ok_cond (lex_Tokens.o86 Z Q X1) (lex_Tokens.s136_ok Z Q X1)
def lex_Tokens.s139 (Z : List PanicEntry → PT) (Q : Option Addr → Nat → Nat → Int → Int → PT) (X1 : ByteArray → Option Addr → Nat → Nat → Int → PT) (s_0 : ByteArray) (out_5 : Option Addr) (out_5n out_5c : Nat) (at_6 : Int) (t_7 : Addr) (n_8 : Int) (c_9 : Int) : PT :=
  (pif (c_9 == 35) (exK fun k => lex_Tokens.l75 Z Q X1 k s_0 out_5 out_5n out_5c at_6) (lex_Tokens.s136 Z Q X1 s_0 out_5 out_5n out_5c at_6 t_7 n_8 c_9))
theorem lex_Tokens.s139_eq (Z : List PanicEntry → PT) (Q : Option Addr → Nat → Nat → Int → Int → PT) (X1 : ByteArray → Option Addr → Nat → Nat → Int → PT) (ρ : Fr) (s_0 : ByteArray) (out_5 : Option Addr) (out_5n out_5c : Nat) (at_6 : Int) (t_7 : Addr) (n_8 : Int) (c_9 : Int) : (comp Tryd.prog Z lex_Tokens.c60 (thenK (condJ (.tmp 38) (lex_Tokens.j83 Z Q X1) (lex_Tokens.j137 Z Q X1)) (lex_Tokens.q58 Z Q X1))) (puts ρ [(0, (Value.string s_0)), (5, (Value.slice out_5 out_5n out_5c)), (6, (Value.int .i64 at_6)), (7, (Value.pointer (some t_7))), (8, (Value.int .i64 n_8)), (9, (Value.int .u8 c_9))]) = lex_Tokens.s139 Z Q X1 s_0 out_5 out_5n out_5c at_6 t_7 n_8 c_9 := by kernel_rfl
def lex_Tokens.j140 (Z : List PanicEntry → PT) (Q : Option Addr → Nat → Nat → Int → Int → PT) (X1 : ByteArray → Option Addr → Nat → Nat → Int → PT) : Fr → PT := (fun ρ => atS (ρ 0) fun s_0 => atL (ρ 5) fun out_5 out_5n out_5c => atI .i64 (ρ 6) fun at_6 => atA (ρ 7) fun t_7 => atI .i64 (ρ 8) fun n_8 => atI .u8 (ρ 9) fun c_9 => (lex_Tokens.s139 Z Q X1 s_0 out_5 out_5n out_5c at_6 t_7 n_8 c_9))
theorem lex_Tokens.s139_ok (Z : List PanicEntry → PT) (Q : Option Addr → Nat → Nat → Int → Int → PT) (X1 : ByteArray → Option Addr → Nat → Nat → Int → PT) : Ok Tryd.prog Tryd.f36.ntmps Z lex_Tokens.c54 (lex_Tokens.q58 Z Q X1) (lex_Tokens.j140 Z Q X1) := by
  intro E he ρ w a hr h
  rw [lex_Tokens.q62] at he ⊢
  obtain ⟨s_0, e0, h⟩ := atS_e h
  obtain ⟨out_5, out_5n, out_5c, e5, h⟩ := atL_e h
  obtain ⟨at_6, e6, h⟩ := atI_e h
  obtain ⟨t_7, e7, h⟩ := atA_e h
  obtain ⟨n_8, e8, h⟩ := atI_e h
  obtain ⟨c_9, e9, h⟩ := atI_e h
  exact ok_at [(0, (Value.string s_0)), (5, (Value.slice out_5 out_5n out_5c)), (6, (Value.int .i64 at_6)), (7, (Value.pointer (some t_7))), (8, (Value.int .i64 n_8)), (9, (Value.int .u8 c_9))] (ok_seq (okC lex_Tokens.c60 _ (by kernel_rfl)) (lex_Tokens.o138 Z Q X1)) (puts_cons e0 (puts_cons e5 (puts_cons e6 (puts_cons e7 (puts_cons e8 (puts_cons e9 (fun p hp => puts_nil hp))))))) (lex_Tokens.s139_eq Z Q X1 ρ s_0 out_5 out_5n out_5c at_6 t_7 n_8 c_9) he hr h
theorem lex_Tokens.o141 (Z : List PanicEntry → PT) (Q : Option Addr → Nat → Nat → Int → Int → PT) (X1 : ByteArray → Option Addr → Nat → Nat → Int → PT) : Ok Tryd.prog Tryd.f36.ntmps Z lex_Tokens.c51 (lex_Tokens.q58 Z Q X1) (condJ (.tmp 25) (lex_Tokens.j59 Z Q X1) (lex_Tokens.j140 Z Q X1)) := by
  rw [lex_Tokens.q55]; exact ok_cond (lex_Tokens.s56_ok Z Q X1) (lex_Tokens.s139_ok Z Q X1)
def lex_Tokens.s142 (Z : List PanicEntry → PT) (Q : Option Addr → Nat → Nat → Int → Int → PT) (X1 : ByteArray → Option Addr → Nat → Nat → Int → PT) (s_0 : ByteArray) (out_5 : Option Addr) (out_5n out_5c : Nat) (at_6 : Int) (t_7 : Addr) (n_8 : Int) (c_9 : Int) : PT :=
  (pif (c_9 == 32) (lex_Tokens.s56 Z Q X1 s_0 out_5 out_5n out_5c at_6) (pif (c_9 == 9) (lex_Tokens.s56 Z Q X1 s_0 out_5 out_5n out_5c at_6) (pif (c_9 == 13) (lex_Tokens.s56 Z Q X1 s_0 out_5 out_5n out_5c at_6) (lex_Tokens.s139 Z Q X1 s_0 out_5 out_5n out_5c at_6 t_7 n_8 c_9))))
theorem lex_Tokens.s142_eq (Z : List PanicEntry → PT) (Q : Option Addr → Nat → Nat → Int → Int → PT) (X1 : ByteArray → Option Addr → Nat → Nat → Int → PT) (ρ : Fr) (s_0 : ByteArray) (out_5 : Option Addr) (out_5n out_5c : Nat) (at_6 : Int) (t_7 : Addr) (n_8 : Int) (c_9 : Int) : (comp Tryd.prog Z lex_Tokens.c50 (thenK (condJ (.tmp 25) (lex_Tokens.j59 Z Q X1) (lex_Tokens.j140 Z Q X1)) (lex_Tokens.q58 Z Q X1))) (puts ρ [(0, (Value.string s_0)), (5, (Value.slice out_5 out_5n out_5c)), (6, (Value.int .i64 at_6)), (7, (Value.pointer (some t_7))), (8, (Value.int .i64 n_8)), (9, (Value.int .u8 c_9))]) = lex_Tokens.s142 Z Q X1 s_0 out_5 out_5n out_5c at_6 t_7 n_8 c_9 := by kernel_rfl
def lex_Tokens.j143 (Z : List PanicEntry → PT) (Q : Option Addr → Nat → Nat → Int → Int → PT) (X1 : ByteArray → Option Addr → Nat → Nat → Int → PT) : Fr → PT := (fun ρ => atS (ρ 0) fun s_0 => atL (ρ 5) fun out_5 out_5n out_5c => atI .i64 (ρ 6) fun at_6 => atA (ρ 7) fun t_7 => atI .i64 (ρ 8) fun n_8 => atI .u8 (ρ 9) fun c_9 => (lex_Tokens.s142 Z Q X1 s_0 out_5 out_5n out_5c at_6 t_7 n_8 c_9))
theorem lex_Tokens.s142_ok (Z : List PanicEntry → PT) (Q : Option Addr → Nat → Nat → Int → Int → PT) (X1 : ByteArray → Option Addr → Nat → Nat → Int → PT) : Ok Tryd.prog Tryd.f36.ntmps Z lex_Tokens.c48 (lex_Tokens.q58 Z Q X1) (lex_Tokens.j143 Z Q X1) := by
  intro E he ρ w a hr h
  rw [lex_Tokens.q52] at he ⊢
  obtain ⟨s_0, e0, h⟩ := atS_e h
  obtain ⟨out_5, out_5n, out_5c, e5, h⟩ := atL_e h
  obtain ⟨at_6, e6, h⟩ := atI_e h
  obtain ⟨t_7, e7, h⟩ := atA_e h
  obtain ⟨n_8, e8, h⟩ := atI_e h
  obtain ⟨c_9, e9, h⟩ := atI_e h
  exact ok_at [(0, (Value.string s_0)), (5, (Value.slice out_5 out_5n out_5c)), (6, (Value.int .i64 at_6)), (7, (Value.pointer (some t_7))), (8, (Value.int .i64 n_8)), (9, (Value.int .u8 c_9))] (ok_seq (okC lex_Tokens.c50 _ (by kernel_rfl)) (lex_Tokens.o141 Z Q X1)) (puts_cons e0 (puts_cons e5 (puts_cons e6 (puts_cons e7 (puts_cons e8 (puts_cons e9 (fun p hp => puts_nil hp))))))) (lex_Tokens.s142_eq Z Q X1 ρ s_0 out_5 out_5n out_5c at_6 t_7 n_8 c_9) he hr h
theorem lex_Tokens.o144 (Z : List PanicEntry → PT) (Q : Option Addr → Nat → Nat → Int → Int → PT) (X1 : ByteArray → Option Addr → Nat → Nat → Int → PT) : Ok Tryd.prog Tryd.f36.ntmps Z lex_Tokens.c46 (lex_Tokens.q57 Z Q X1) (lex_Tokens.j143 Z Q X1) := by
  rw [lex_Tokens.q49]; exact ok_block (lex_Tokens.s142_ok Z Q X1)
def lex_Tokens.s145 (Z : List PanicEntry → PT) (Q : Option Addr → Nat → Nat → Int → Int → PT) (X1 : ByteArray → Option Addr → Nat → Nat → Int → PT) (s_0 : ByteArray) (out_5 : Option Addr) (out_5n out_5c : Nat) (at_6 : Int) (t_7 : Addr) (n_8 : Int) : PT :=
  (ixT s_0 at_6 fun v71 => (lex_Tokens.s142 Z Q X1 s_0 out_5 out_5n out_5c at_6 t_7 n_8 ((v71.toNat : Nat) : Int)))
theorem lex_Tokens.s145_eq (Z : List PanicEntry → PT) (Q : Option Addr → Nat → Nat → Int → Int → PT) (X1 : ByteArray → Option Addr → Nat → Nat → Int → PT) (ρ : Fr) (s_0 : ByteArray) (out_5 : Option Addr) (out_5n out_5c : Nat) (at_6 : Int) (t_7 : Addr) (n_8 : Int) : (comp Tryd.prog Z lex_Tokens.c45 (thenK (lex_Tokens.j143 Z Q X1) (lex_Tokens.q57 Z Q X1))) (puts ρ [(0, (Value.string s_0)), (5, (Value.slice out_5 out_5n out_5c)), (6, (Value.int .i64 at_6)), (7, (Value.pointer (some t_7))), (8, (Value.int .i64 n_8))]) = lex_Tokens.s145 Z Q X1 s_0 out_5 out_5n out_5c at_6 t_7 n_8 := by kernel_rfl
def lex_Tokens.j146 (Z : List PanicEntry → PT) (Q : Option Addr → Nat → Nat → Int → Int → PT) (X1 : ByteArray → Option Addr → Nat → Nat → Int → PT) : Fr → PT := (fun ρ => atS (ρ 0) fun s_0 => atL (ρ 5) fun out_5 out_5n out_5c => atI .i64 (ρ 6) fun at_6 => atA (ρ 7) fun t_7 => atI .i64 (ρ 8) fun n_8 => (lex_Tokens.s145 Z Q X1 s_0 out_5 out_5n out_5c at_6 t_7 n_8))
theorem lex_Tokens.s145_ok (Z : List PanicEntry → PT) (Q : Option Addr → Nat → Nat → Int → Int → PT) (X1 : ByteArray → Option Addr → Nat → Nat → Int → PT) : Ok Tryd.prog Tryd.f36.ntmps Z lex_Tokens.c37 (lex_Tokens.q57 Z Q X1) (lex_Tokens.j146 Z Q X1) := by
  intro E he ρ w a hr h
  rw [lex_Tokens.q47] at he ⊢
  obtain ⟨s_0, e0, h⟩ := atS_e h
  obtain ⟨out_5, out_5n, out_5c, e5, h⟩ := atL_e h
  obtain ⟨at_6, e6, h⟩ := atI_e h
  obtain ⟨t_7, e7, h⟩ := atA_e h
  obtain ⟨n_8, e8, h⟩ := atI_e h
  exact ok_at [(0, (Value.string s_0)), (5, (Value.slice out_5 out_5n out_5c)), (6, (Value.int .i64 at_6)), (7, (Value.pointer (some t_7))), (8, (Value.int .i64 n_8))] (ok_seq (okC lex_Tokens.c45 _ (by kernel_rfl)) (lex_Tokens.o144 Z Q X1)) (puts_cons e0 (puts_cons e5 (puts_cons e6 (puts_cons e7 (puts_cons e8 (fun p hp => puts_nil hp)))))) (lex_Tokens.s145_eq Z Q X1 ρ s_0 out_5 out_5n out_5c at_6 t_7 n_8) he hr h
theorem lex_Tokens.o147 (Z : List PanicEntry → PT) (Q : Option Addr → Nat → Nat → Int → Int → PT) (X1 : ByteArray → Option Addr → Nat → Nat → Int → PT) : Ok Tryd.prog Tryd.f36.ntmps Z lex_Tokens.c35 (lex_Tokens.q43 Z Q X1) (lex_Tokens.j146 Z Q X1) := by
  rw [lex_Tokens.q39]; exact ok_seq (lex_Tokens.s145_ok Z Q X1) (lex_Tokens.s40_ok Z Q X1)
def lex_Tokens.s148 (Z : List PanicEntry → PT) (Q : Option Addr → Nat → Nat → Int → Int → PT) (X1 : ByteArray → Option Addr → Nat → Nat → Int → PT) (s_0 : ByteArray) (out_5 : Option Addr) (out_5n out_5c : Nat) (at_6 : Int) : PT :=
  (newC 79 [(Value.int .i64 0), (Value.int .i64 0), (Value.string ⟨#[]⟩), (Value.int .i64 0)] fun t72 => (stN 4 t72 [(Value.int .i64 0), (Value.int .i64 at_6), (Value.string ⟨#[]⟩), (Value.int .i64 0)] (lex_Tokens.s145 Z Q X1 s_0 out_5 out_5n out_5c at_6 t72 1)))
theorem lex_Tokens.s148_eq (Z : List PanicEntry → PT) (Q : Option Addr → Nat → Nat → Int → Int → PT) (X1 : ByteArray → Option Addr → Nat → Nat → Int → PT) (ρ : Fr) (s_0 : ByteArray) (out_5 : Option Addr) (out_5n out_5c : Nat) (at_6 : Int) : (comp Tryd.prog Z lex_Tokens.c33 (thenK (comp Tryd.prog Z lex_Tokens.c34 (thenK (lex_Tokens.j146 Z Q X1) (lex_Tokens.q43 Z Q X1))) (lex_Tokens.q43 Z Q X1))) (puts ρ [(0, (Value.string s_0)), (5, (Value.slice out_5 out_5n out_5c)), (6, (Value.int .i64 at_6))]) = lex_Tokens.s148 Z Q X1 s_0 out_5 out_5n out_5c at_6 := by kernel_rfl
def lex_Tokens.j149 (Z : List PanicEntry → PT) (Q : Option Addr → Nat → Nat → Int → Int → PT) (X1 : ByteArray → Option Addr → Nat → Nat → Int → PT) : Fr → PT := (fun ρ => atS (ρ 0) fun s_0 => atL (ρ 5) fun out_5 out_5n out_5c => atI .i64 (ρ 6) fun at_6 => (lex_Tokens.s148 Z Q X1 s_0 out_5 out_5n out_5c at_6))
theorem lex_Tokens.s148_ok (Z : List PanicEntry → PT) (Q : Option Addr → Nat → Nat → Int → Int → PT) (X1 : ByteArray → Option Addr → Nat → Nat → Int → PT) : Ok Tryd.prog Tryd.f36.ntmps Z lex_Tokens.c31 (lex_Tokens.q43 Z Q X1) (lex_Tokens.j149 Z Q X1) := by
  intro E he ρ w a hr h
  rw [lex_Tokens.q36] at he ⊢
  obtain ⟨s_0, e0, h⟩ := atS_e h
  obtain ⟨out_5, out_5n, out_5c, e5, h⟩ := atL_e h
  obtain ⟨at_6, e6, h⟩ := atI_e h
  exact ok_at [(0, (Value.string s_0)), (5, (Value.slice out_5 out_5n out_5c)), (6, (Value.int .i64 at_6))] (ok_seq (okC lex_Tokens.c33 _ (by kernel_rfl)) (ok_seq (okC lex_Tokens.c34 _ (by kernel_rfl)) (lex_Tokens.o147 Z Q X1))) (puts_cons e0 (puts_cons e5 (puts_cons e6 (fun p hp => puts_nil hp)))) (lex_Tokens.s148_eq Z Q X1 ρ s_0 out_5 out_5n out_5c at_6) he hr h
theorem lex_Tokens.o150 (Z : List PanicEntry → PT) (Q : Option Addr → Nat → Nat → Int → Int → PT) (X1 : ByteArray → Option Addr → Nat → Nat → Int → PT) : Ok Tryd.prog Tryd.f36.ntmps Z lex_Tokens.c29 (lex_Tokens.q42 Z Q X1) (lex_Tokens.j149 Z Q X1) := by
  rw [lex_Tokens.q32]; exact ok_block (lex_Tokens.s148_ok Z Q X1)
def lex_Tokens.s151 (Z : List PanicEntry → PT) (Q : Option Addr → Nat → Nat → Int → Int → PT) (X1 : ByteArray → Option Addr → Nat → Nat → Int → PT) (s_0 : ByteArray) (out_5 : Option Addr) (out_5n out_5c : Nat) (at_6 : Int) : PT :=
  (pif (decide (at_6 < ((s_0.size : Nat) : Int))) (lex_Tokens.s148 Z Q X1 s_0 out_5 out_5n out_5c at_6) (lex_Tokens.s14 Z Q out_5 out_5n out_5c))
theorem lex_Tokens.s151_eq (Z : List PanicEntry → PT) (Q : Option Addr → Nat → Nat → Int → Int → PT) (X1 : ByteArray → Option Addr → Nat → Nat → Int → PT) (ρ : Fr) (s_0 : ByteArray) (out_5 : Option Addr) (out_5n out_5c : Nat) (at_6 : Int) : (comp Tryd.prog Z lex_Tokens.c28 (thenK (lex_Tokens.j149 Z Q X1) (lex_Tokens.q42 Z Q X1))) (puts ρ [(0, (Value.string s_0)), (5, (Value.slice out_5 out_5n out_5c)), (6, (Value.int .i64 at_6))]) = lex_Tokens.s151 Z Q X1 s_0 out_5 out_5n out_5c at_6 := by kernel_rfl
def lex_Tokens.j152 (Z : List PanicEntry → PT) (Q : Option Addr → Nat → Nat → Int → Int → PT) (X1 : ByteArray → Option Addr → Nat → Nat → Int → PT) : Fr → PT := (fun ρ => atS (ρ 0) fun s_0 => atL (ρ 5) fun out_5 out_5n out_5c => atI .i64 (ρ 6) fun at_6 => (lex_Tokens.s151 Z Q X1 s_0 out_5 out_5n out_5c at_6))
theorem lex_Tokens.s151_ok (Z : List PanicEntry → PT) (Q : Option Addr → Nat → Nat → Int → Int → PT) (X1 : ByteArray → Option Addr → Nat → Nat → Int → PT) : Ok Tryd.prog Tryd.f36.ntmps Z lex_Tokens.c23 (lex_Tokens.q42 Z Q X1) (lex_Tokens.j152 Z Q X1) := by
  intro E he ρ w a hr h
  rw [lex_Tokens.q30] at he ⊢
  obtain ⟨s_0, e0, h⟩ := atS_e h
  obtain ⟨out_5, out_5n, out_5c, e5, h⟩ := atL_e h
  obtain ⟨at_6, e6, h⟩ := atI_e h
  exact ok_at [(0, (Value.string s_0)), (5, (Value.slice out_5 out_5n out_5c)), (6, (Value.int .i64 at_6))] (ok_seq (okC lex_Tokens.c28 _ (by kernel_rfl)) (lex_Tokens.o150 Z Q X1)) (puts_cons e0 (puts_cons e5 (puts_cons e6 (fun p hp => puts_nil hp)))) (lex_Tokens.s151_eq Z Q X1 ρ s_0 out_5 out_5n out_5c at_6) he hr h
def lex_Tokens.l25 (Z : List PanicEntry → PT) (Q : Option Addr → Nat → Nat → Int → Int → PT) : Nat → ByteArray → Option Addr → Nat → Nat → Int → PT
  | 0, _, _, _, _, _ => bad
  | k + 1, s_0, out_5, out_5n, out_5c, at_6 => (lex_Tokens.s151 Z Q (lex_Tokens.l25 Z Q k) s_0 out_5 out_5n out_5c at_6)
def lex_Tokens.j153 (Z : List PanicEntry → PT) (Q : Option Addr → Nat → Nat → Int → Int → PT) (k : Nat) : Fr → PT := (fun ρ => atS (ρ 0) fun s_0 => atL (ρ 5) fun out_5 out_5n out_5c => atI .i64 (ρ 6) fun at_6 => (lex_Tokens.l25 Z Q k s_0 out_5 out_5n out_5c at_6))
def lex_Tokens.j154 (Z : List PanicEntry → PT) (Q : Option Addr → Nat → Nat → Int → Int → PT) : Fr → PT := (fun ρ => atS (ρ 0) fun s_0 => atL (ρ 5) fun out_5 out_5n out_5c => atI .i64 (ρ 6) fun at_6 => (exK fun k => lex_Tokens.l25 Z Q k s_0 out_5 out_5n out_5c at_6))
theorem lex_Tokens.o155 (Z : List PanicEntry → PT) (Q : Option Addr → Nat → Nat → Int → Int → PT) : Ok Tryd.prog Tryd.f36.ntmps Z lex_Tokens.c21 (lex_Tokens.q27 Z Q) (lex_Tokens.j154 Z Q) := by
  rw [lex_Tokens.q24]
  refine Ok.imp (ok_loop (J := lex_Tokens.j153 Z Q) ?_ ?_) ?_
  · intro ρ w h
    obtain ⟨s_0, e0, h⟩ := atS_e h
    obtain ⟨out_5, out_5n, out_5c, e5, h⟩ := atL_e h
    obtain ⟨at_6, e6, h⟩ := atI_e h
    exact h
  · intro k
    refine Ok.imp (lex_Tokens.s151_ok Z Q (lex_Tokens.l25 Z Q k)) fun ρ w h => ?_
    obtain ⟨s_0, e0, h⟩ := atS_e h
    obtain ⟨out_5, out_5n, out_5c, e5, h⟩ := atL_e h
    obtain ⟨at_6, e6, h⟩ := atI_e h
    show (lex_Tokens.j152 Z Q (lex_Tokens.l25 Z Q k)) ρ w
    simp only [lex_Tokens.j152]
    rw [e0]
    rw [e5]
    rw [e6]
    exact h
  · intro ρ w h
    obtain ⟨s_0, e0, h⟩ := atS_e h
    obtain ⟨out_5, out_5n, out_5c, e5, h⟩ := atL_e h
    obtain ⟨at_6, e6, h⟩ := atI_e h
    obtain ⟨k, h⟩ := h
    refine ⟨k, ?_⟩
    show (atS (ρ 0) fun s_0 => atL (ρ 5) fun out_5 out_5n out_5c => atI .i64 (ρ 6) fun at_6 => (lex_Tokens.l25 Z Q k s_0 out_5 out_5n out_5c at_6)) w
    rw [e0]
    rw [e5]
    rw [e6]
    exact h
theorem lex_Tokens.o156 (Z : List PanicEntry → PT) (Q : Option Addr → Nat → Nat → Int → Int → PT) : Ok Tryd.prog Tryd.f36.ntmps Z lex_Tokens.c19 (lex_Tokens.q26 Z Q) (lex_Tokens.j154 Z Q) := by
  rw [lex_Tokens.q22]; exact ok_block (lex_Tokens.o155 Z Q)
def lex_Tokens.s157 (Z : List PanicEntry → PT) (Q : Option Addr → Nat → Nat → Int → Int → PT) (s_0 : ByteArray) (out_5 : Option Addr) (out_5n out_5c : Nat) : PT :=
  (exK fun k => lex_Tokens.l25 Z Q k s_0 out_5 out_5n out_5c 0)
theorem lex_Tokens.s157_eq (Z : List PanicEntry → PT) (Q : Option Addr → Nat → Nat → Int → Int → PT) (ρ : Fr) (s_0 : ByteArray) (out_5 : Option Addr) (out_5n out_5c : Nat) : (comp Tryd.prog Z lex_Tokens.c18 (thenK (lex_Tokens.j154 Z Q) (lex_Tokens.q26 Z Q))) (puts ρ [(0, (Value.string s_0)), (5, (Value.slice out_5 out_5n out_5c))]) = lex_Tokens.s157 Z Q s_0 out_5 out_5n out_5c := by kernel_rfl
def lex_Tokens.j158 (Z : List PanicEntry → PT) (Q : Option Addr → Nat → Nat → Int → Int → PT) : Fr → PT := (fun ρ => atS (ρ 0) fun s_0 => atL (ρ 5) fun out_5 out_5n out_5c => (lex_Tokens.s157 Z Q s_0 out_5 out_5n out_5c))
theorem lex_Tokens.s157_ok (Z : List PanicEntry → PT) (Q : Option Addr → Nat → Nat → Int → Int → PT) : Ok Tryd.prog Tryd.f36.ntmps Z lex_Tokens.c11 (lex_Tokens.q26 Z Q) (lex_Tokens.j158 Z Q) := by
  intro E he ρ w a hr h
  rw [lex_Tokens.q20] at he ⊢
  obtain ⟨s_0, e0, h⟩ := atS_e h
  obtain ⟨out_5, out_5n, out_5c, e5, h⟩ := atL_e h
  exact ok_at [(0, (Value.string s_0)), (5, (Value.slice out_5 out_5n out_5c))] (ok_seq (okC lex_Tokens.c18 _ (by kernel_rfl)) (lex_Tokens.o156 Z Q)) (puts_cons e0 (puts_cons e5 (fun p hp => puts_nil hp))) (lex_Tokens.s157_eq Z Q ρ s_0 out_5 out_5n out_5c) he hr h
theorem lex_Tokens.o159 (Z : List PanicEntry → PT) (Q : Option Addr → Nat → Nat → Int → Int → PT) : Ok Tryd.prog Tryd.f36.ntmps Z lex_Tokens.c9 (lex_Tokens.q16 Z Q) (lex_Tokens.j158 Z Q) := by
  rw [lex_Tokens.q13]; exact ok_seq (lex_Tokens.s157_ok Z Q) (lex_Tokens.s14_ok Z Q)
def lex_Tokens.s160 (Z : List PanicEntry → PT) (Q : Option Addr → Nat → Nat → Int → Int → PT) (s_0 : ByteArray) : PT :=
  (pif (decide (((s_0.size : Nat) : Int) > 4096)) (Q none 0 0 5 4096) (lex_Tokens.s157 Z Q s_0 none 0 0))
theorem lex_Tokens.s160_eq (Z : List PanicEntry → PT) (Q : Option Addr → Nat → Nat → Int → Int → PT) (ρ : Fr) (s_0 : ByteArray) : (comp Tryd.prog Z lex_Tokens.c6 (thenK (comp Tryd.prog Z lex_Tokens.c7 (thenK (comp Tryd.prog Z lex_Tokens.c8 (thenK (lex_Tokens.j158 Z Q) (lex_Tokens.q16 Z Q))) (lex_Tokens.q16 Z Q))) (lex_Tokens.q16 Z Q))) (puts ρ [(0, (Value.string s_0))]) = lex_Tokens.s160 Z Q s_0 := by kernel_rfl
def lex_Tokens.j161 (Z : List PanicEntry → PT) (Q : Option Addr → Nat → Nat → Int → Int → PT) : Fr → PT := (fun ρ => atS (ρ 0) fun s_0 => (lex_Tokens.s160 Z Q s_0))
theorem lex_Tokens.s160_ok (Z : List PanicEntry → PT) (Q : Option Addr → Nat → Nat → Int → Int → PT) : Ok Tryd.prog Tryd.f36.ntmps Z lex_Tokens.c4 (lex_Tokens.q16 Z Q) (lex_Tokens.j161 Z Q) := by
  intro E he ρ w a hr h
  rw [lex_Tokens.q10] at he ⊢
  obtain ⟨s_0, e0, h⟩ := atS_e h
  exact ok_at [(0, (Value.string s_0))] (ok_seq (okC lex_Tokens.c6 _ (by kernel_rfl)) (ok_seq (okC lex_Tokens.c7 _ (by kernel_rfl)) (ok_seq (okC lex_Tokens.c8 _ (by kernel_rfl)) (lex_Tokens.o159 Z Q)))) (puts_cons e0 (fun p hp => puts_nil hp)) (lex_Tokens.s160_eq Z Q ρ s_0) he hr h
theorem lex_Tokens.o162 (Z : List PanicEntry → PT) (Q : Option Addr → Nat → Nat → Int → Int → PT) : Ok Tryd.prog Tryd.f36.ntmps Z lex_Tokens.c2 (lex_Tokens.q15 Z Q) (lex_Tokens.j161 Z Q) := by
  rw [lex_Tokens.q5]; exact ok_scope (lex_Tokens.s160_ok Z Q)
def lex_Tokens.s163 (Z : List PanicEntry → PT) (Q : Option Addr → Nat → Nat → Int → Int → PT) (s_0 : ByteArray) : PT :=
  (lex_Tokens.s160 Z Q s_0)
theorem lex_Tokens.s163_eq (Z : List PanicEntry → PT) (Q : Option Addr → Nat → Nat → Int → Int → PT) (ρ : Fr) (s_0 : ByteArray) : (comp Tryd.prog Z lex_Tokens.c1 (thenK (lex_Tokens.j161 Z Q) (lex_Tokens.q15 Z Q))) (puts ρ [(0, (Value.string s_0))]) = lex_Tokens.s163 Z Q s_0 := by kernel_rfl
def lex_Tokens.j164 (Z : List PanicEntry → PT) (Q : Option Addr → Nat → Nat → Int → Int → PT) : Fr → PT := (fun ρ => atS (ρ 0) fun s_0 => (lex_Tokens.s163 Z Q s_0))
theorem lex_Tokens.s163_ok (Z : List PanicEntry → PT) (Q : Option Addr → Nat → Nat → Int → Int → PT) : Ok Tryd.prog Tryd.f36.ntmps Z lex_Tokens.body (lex_Tokens.q15 Z Q) (lex_Tokens.j164 Z Q) := by
  intro E he ρ w a hr h
  rw [lex_Tokens.q3] at he ⊢
  obtain ⟨s_0, e0, h⟩ := atS_e h
  exact ok_at [(0, (Value.string s_0))] (ok_seq (okC lex_Tokens.c1 _ (by kernel_rfl)) (lex_Tokens.o162 Z Q)) (puts_cons e0 (fun p hp => puts_nil hp)) (lex_Tokens.s163_eq Z Q ρ s_0) he hr h
def lex_Tokens.F (Z : List PanicEntry → PT) (Q : Option Addr → Nat → Nat → Int → Int → PT) (s_0 : ByteArray) : PT :=
  (lex_Tokens.s163 Z Q s_0)
theorem lex_Tokens.vc (Z : List PanicEntry → PT) (Q : Option Addr → Nat → Nat → Int → Int → PT) (s_0 : ByteArray) (w : World) (h : lex_Tokens.F Z Q s_0 w) : Calls Tryd.prog 36 ⟨[(Value.string s_0)]⟩ w fun e w' => (∃ (r0 : Option Addr) (r0n r0c : Nat) (r1 : Int) (r2 : Int), e = .returned (.tuple #[.slice r0 r0n r0c, .int .i64 r1, .int .i64 r2]) ∧ Q r0 r0n r0c r1 r2 w') ∨ ∃ c, e = .panicked c ∧ Z c w' := by
  refine (calls_of_ok (args := [(Value.string s_0)]) (w := w) (rs := [.tmp 2, .tmp 3, .tmp 4]) (fn := Tryd.f36) (c := lex_Tokens.body) Tryd.func36 (by kernel_rfl) (by kernel_rfl) (Nat.le_of_ble_eq_true (by kernel_rfl)) (lex_Tokens.s163_ok Z Q) (h)).mono fun e w' hR => ?_
  cases e with
  | returned v =>
    obtain ⟨x, y, z, rfl, hR⟩ := at3_e hR
    obtain ⟨xa, xn, xc, rfl, hR⟩ := atL_e hR
    obtain ⟨ya, rfl, hR⟩ := atI_e hR
    obtain ⟨za, rfl, hR⟩ := atI_e hR
    exact .inl ⟨xa, xn, xc, ya, za, rfl, hR⟩
  | panicked c => exact .inr ⟨c, rfl, hR⟩
  | outgrown => exact hR.elim
theorem lex_Tokens.vc0 (Q : Option Addr → Nat → Nat → Int → Int → PT) (s_0 : ByteArray) (w : World) (h : lex_Tokens.F Z0 Q s_0 w) : Calls Tryd.prog 36 ⟨[(Value.string s_0)]⟩ w fun e w' => (∃ (r0 : Option Addr) (r0n r0c : Nat) (r1 : Int) (r2 : Int), e = .returned (.tuple #[.slice r0 r0n r0c, .int .i64 r1, .int .i64 r2]) ∧ Q r0 r0n r0c r1 r2 w') :=
  (lex_Tokens.vc Z0 Q s_0 w h).mono fun _ _ hR => hR.elim id fun ⟨_, _, hz⟩ => hz.elim
theorem lex_Tokens.cal {Z : List PanicEntry → PT} {Q : Option Addr → Nat → Nat → Int → Int → PT} {s_0 : ByteArray} {w : World} (h : lex_Tokens.F Z Q s_0 w) : Go.Proofs.YtllgjjldnnmjkaaDoor.cal Tryd.prog Z 36 [(Value.string s_0)] (isT3 fun x y z => (isL fun r0 r0n r0c => (isI .i64 fun r1 => (isI .i64 fun r2 => Q r0 r0n r0c r1 r2) z) y) x) w := by
  refine (lex_Tokens.vc Z Q s_0 w h).mono fun e w' hR => ?_
  rcases hR with ⟨r0, r0n, r0c, r1, r2, rfl, h⟩ | ⟨c, rfl, h⟩
  · show (isT3 fun x y z => (isL fun r0 r0n r0c => (isI .i64 fun r1 => (isI .i64 fun r2 => Q r0 r0n r0c r1 r2) z) y) x) (.tuple #[.slice r0 r0n r0c, .int .i64 r1, .int .i64 r2]) w'
    exact ⟨_, _, _, rfl, ⟨_, _, _, rfl, ⟨_, rfl, ⟨_, rfl, h⟩⟩⟩⟩
  · exact h

/-! ### milepost/lex.run: function 57 -/
noncomputable def lex_run.body : Code := bodyC Tryd.f57
noncomputable def lex_run.c1 : Code := sq1 lex_run.body
noncomputable def lex_run.c2 : Code := sq1 (sq2 lex_run.body)
noncomputable def lex_run.c3 : Code := sq2 (sq2 lex_run.body)
theorem lex_run.q4 : lex_run.body = .seq lex_run.c1 (.seq lex_run.c2 lex_run.c3) := by kernel_rfl
noncomputable def lex_run.c5 : Code := sq1 lex_run.c3
noncomputable def lex_run.c6 : Code := sq2 lex_run.c3
theorem lex_run.q7 : lex_run.c3 = .seq lex_run.c5 lex_run.c6 := by kernel_rfl
def lex_run.s8 (Z : List PanicEntry → PT) (Q : Int → PT) (n_9 : Int) : PT :=
  (Q n_9)
def lex_run.q9 (Z : List PanicEntry → PT) (Q : Int → PT) : QF := bodyQ Tryd.prog [.tmp 8] (fun v => atI .i64 v fun va => Q va)
theorem lex_run.s8_eq (Z : List PanicEntry → PT) (Q : Int → PT) (ρ : Fr) (n_9 : Int) : comp Tryd.prog Z lex_run.c6 (lex_run.q9 Z Q) (puts ρ [(9, (Value.int .i64 n_9))]) = lex_run.s8 Z Q n_9 := by kernel_rfl
def lex_run.j10 (Z : List PanicEntry → PT) (Q : Int → PT) : Fr → PT := (fun ρ => atI .i64 (ρ 9) fun n_9 => (lex_run.s8 Z Q n_9))
theorem lex_run.s8_ok (Z : List PanicEntry → PT) (Q : Int → PT) : Ok Tryd.prog Tryd.f57.ntmps Z lex_run.c6 (lex_run.q9 Z Q) (lex_run.j10 Z Q) := by
  intro E he ρ w a hr h
  obtain ⟨n_9, e9, h⟩ := atI_e h
  exact ok_at [(9, (Value.int .i64 n_9))] (okC lex_run.c6 (lex_run.q9 Z Q) (by kernel_rfl)) (puts_cons e9 (fun p hp => puts_nil hp)) (lex_run.s8_eq Z Q ρ n_9) he hr h
noncomputable def lex_run.c11 : Code := blk lex_run.c5
theorem lex_run.q12 : lex_run.c5 = .block 0 lex_run.c11 := by kernel_rfl
noncomputable def lex_run.c13 : Code := lop lex_run.c11
theorem lex_run.q14 : lex_run.c11 = .loop lex_run.c13 := by kernel_rfl
def lex_run.q16 (Z : List PanicEntry → PT) (Q : Int → PT) : QF := thenK (lex_run.j10 Z Q) (lex_run.q9 Z Q)
def lex_run.q17 (Z : List PanicEntry → PT) (Q : Int → PT) : QF := inBl 0 (lex_run.q16 Z Q)
def lex_run.s18 (Z : List PanicEntry → PT) (Q : Int → PT) (X1 : ByteArray → Int → Int → Int → Int → PT) (s_0 : ByteArray) (at_1 : Int) (low_2 : Int) (high_3 : Int) (n_9 : Int) : PT :=
  (pif (decide ((IntKind.wrap .i64 (at_1 + n_9)) < ((s_0.size : Nat) : Int))) (ixT s_0 (IntKind.wrap .i64 (at_1 + n_9)) fun v5 => (pif (decide (((v5.toNat : Nat) : Int) ≥ low_2)) (ixT s_0 (IntKind.wrap .i64 (at_1 + n_9)) fun v6 => (pif (decide (((v6.toNat : Nat) : Int) ≤ high_3)) (X1 s_0 at_1 low_2 high_3 (IntKind.wrap .i64 (n_9 + 1))) (lex_run.s8 Z Q n_9))) (lex_run.s8 Z Q n_9))) (lex_run.s8 Z Q n_9))
def lex_run.j19 (Z : List PanicEntry → PT) (Q : Int → PT) (X1 : ByteArray → Int → Int → Int → Int → PT) : Fr → PT := (fun ρ => atS (ρ 0) fun s_0 => atI .i64 (ρ 1) fun at_1 => atI .u8 (ρ 2) fun low_2 => atI .u8 (ρ 3) fun high_3 => atI .i64 (ρ 9) fun n_9 => (X1 s_0 at_1 low_2 high_3 n_9))
def lex_run.q20 (Z : List PanicEntry → PT) (Q : Int → PT) (X1 : ByteArray → Int → Int → Int → Int → PT) : QF := thenK (lex_run.j19 Z Q X1) (lex_run.q17 Z Q)
theorem lex_run.s18_eq (Z : List PanicEntry → PT) (Q : Int → PT) (X1 : ByteArray → Int → Int → Int → Int → PT) (ρ : Fr) (s_0 : ByteArray) (at_1 : Int) (low_2 : Int) (high_3 : Int) (n_9 : Int) : comp Tryd.prog Z lex_run.c13 (lex_run.q20 Z Q X1) (puts ρ [(0, (Value.string s_0)), (1, (Value.int .i64 at_1)), (2, (Value.int .u8 low_2)), (3, (Value.int .u8 high_3)), (9, (Value.int .i64 n_9))]) = lex_run.s18 Z Q X1 s_0 at_1 low_2 high_3 n_9 := by kernel_rfl
def lex_run.j21 (Z : List PanicEntry → PT) (Q : Int → PT) (X1 : ByteArray → Int → Int → Int → Int → PT) : Fr → PT := (fun ρ => atS (ρ 0) fun s_0 => atI .i64 (ρ 1) fun at_1 => atI .u8 (ρ 2) fun low_2 => atI .u8 (ρ 3) fun high_3 => atI .i64 (ρ 9) fun n_9 => (lex_run.s18 Z Q X1 s_0 at_1 low_2 high_3 n_9))
theorem lex_run.s18_ok (Z : List PanicEntry → PT) (Q : Int → PT) (X1 : ByteArray → Int → Int → Int → Int → PT) : Ok Tryd.prog Tryd.f57.ntmps Z lex_run.c13 (lex_run.q20 Z Q X1) (lex_run.j21 Z Q X1) := by
  intro E he ρ w a hr h
  obtain ⟨s_0, e0, h⟩ := atS_e h
  obtain ⟨at_1, e1, h⟩ := atI_e h
  obtain ⟨low_2, e2, h⟩ := atI_e h
  obtain ⟨high_3, e3, h⟩ := atI_e h
  obtain ⟨n_9, e9, h⟩ := atI_e h
  exact ok_at [(0, (Value.string s_0)), (1, (Value.int .i64 at_1)), (2, (Value.int .u8 low_2)), (3, (Value.int .u8 high_3)), (9, (Value.int .i64 n_9))] (okC lex_run.c13 (lex_run.q20 Z Q X1) (by kernel_rfl)) (puts_cons e0 (puts_cons e1 (puts_cons e2 (puts_cons e3 (puts_cons e9 (fun p hp => puts_nil hp)))))) (lex_run.s18_eq Z Q X1 ρ s_0 at_1 low_2 high_3 n_9) he hr h
def lex_run.l15 (Z : List PanicEntry → PT) (Q : Int → PT) : Nat → ByteArray → Int → Int → Int → Int → PT
  | 0, _, _, _, _, _ => bad
  | k + 1, s_0, at_1, low_2, high_3, n_9 => (lex_run.s18 Z Q (lex_run.l15 Z Q k) s_0 at_1 low_2 high_3 n_9)
def lex_run.j22 (Z : List PanicEntry → PT) (Q : Int → PT) (k : Nat) : Fr → PT := (fun ρ => atS (ρ 0) fun s_0 => atI .i64 (ρ 1) fun at_1 => atI .u8 (ρ 2) fun low_2 => atI .u8 (ρ 3) fun high_3 => atI .i64 (ρ 9) fun n_9 => (lex_run.l15 Z Q k s_0 at_1 low_2 high_3 n_9))
def lex_run.j23 (Z : List PanicEntry → PT) (Q : Int → PT) : Fr → PT := (fun ρ => atS (ρ 0) fun s_0 => atI .i64 (ρ 1) fun at_1 => atI .u8 (ρ 2) fun low_2 => atI .u8 (ρ 3) fun high_3 => atI .i64 (ρ 9) fun n_9 => (exK fun k => lex_run.l15 Z Q k s_0 at_1 low_2 high_3 n_9))
theorem lex_run.o24 (Z : List PanicEntry → PT) (Q : Int → PT) : Ok Tryd.prog Tryd.f57.ntmps Z lex_run.c11 (lex_run.q17 Z Q) (lex_run.j23 Z Q) := by
  rw [lex_run.q14]
  refine Ok.imp (ok_loop (J := lex_run.j22 Z Q) ?_ ?_) ?_
  · intro ρ w h
    obtain ⟨s_0, e0, h⟩ := atS_e h
    obtain ⟨at_1, e1, h⟩ := atI_e h
    obtain ⟨low_2, e2, h⟩ := atI_e h
    obtain ⟨high_3, e3, h⟩ := atI_e h
    obtain ⟨n_9, e9, h⟩ := atI_e h
    exact h
  · intro k
    refine Ok.imp (lex_run.s18_ok Z Q (lex_run.l15 Z Q k)) fun ρ w h => ?_
    obtain ⟨s_0, e0, h⟩ := atS_e h
    obtain ⟨at_1, e1, h⟩ := atI_e h
    obtain ⟨low_2, e2, h⟩ := atI_e h
    obtain ⟨high_3, e3, h⟩ := atI_e h
    obtain ⟨n_9, e9, h⟩ := atI_e h
    show (lex_run.j21 Z Q (lex_run.l15 Z Q k)) ρ w
    simp only [lex_run.j21]
    rw [e0]
    rw [e1]
    rw [e2]
    rw [e3]
    rw [e9]
    exact h
  · intro ρ w h
    obtain ⟨s_0, e0, h⟩ := atS_e h
    obtain ⟨at_1, e1, h⟩ := atI_e h
    obtain ⟨low_2, e2, h⟩ := atI_e h
    obtain ⟨high_3, e3, h⟩ := atI_e h
    obtain ⟨n_9, e9, h⟩ := atI_e h
    obtain ⟨k, h⟩ := h
    refine ⟨k, ?_⟩
    show (atS (ρ 0) fun s_0 => atI .i64 (ρ 1) fun at_1 => atI .u8 (ρ 2) fun low_2 => atI .u8 (ρ 3) fun high_3 => atI .i64 (ρ 9) fun n_9 => (lex_run.l15 Z Q k s_0 at_1 low_2 high_3 n_9)) w
    rw [e0]
    rw [e1]
    rw [e2]
    rw [e3]
    rw [e9]
    exact h
theorem lex_run.o25 (Z : List PanicEntry → PT) (Q : Int → PT) : Ok Tryd.prog Tryd.f57.ntmps Z lex_run.c5 (lex_run.q16 Z Q) (lex_run.j23 Z Q) := by
  rw [lex_run.q12]; exact ok_block (lex_run.o24 Z Q)
theorem lex_run.o26 (Z : List PanicEntry → PT) (Q : Int → PT) : Ok Tryd.prog Tryd.f57.ntmps Z lex_run.c3 (lex_run.q9 Z Q) (lex_run.j23 Z Q) := by
  rw [lex_run.q7]; exact ok_seq (lex_run.o25 Z Q) (lex_run.s8_ok Z Q)
def lex_run.s27 (Z : List PanicEntry → PT) (Q : Int → PT) (s_0 : ByteArray) (at_1 : Int) (low_2 : Int) (high_3 : Int) : PT :=
  (exK fun k => lex_run.l15 Z Q k s_0 at_1 low_2 high_3 0)
theorem lex_run.s27_eq (Z : List PanicEntry → PT) (Q : Int → PT) (ρ : Fr) (s_0 : ByteArray) (at_1 : Int) (low_2 : Int) (high_3 : Int) : (comp Tryd.prog Z lex_run.c1 (thenK (comp Tryd.prog Z lex_run.c2 (thenK (lex_run.j23 Z Q) (lex_run.q9 Z Q))) (lex_run.q9 Z Q))) (puts ρ [(0, (Value.string s_0)), (1, (Value.int .i64 at_1)), (2, (Value.int .u8 low_2)), (3, (Value.int .u8 high_3))]) = lex_run.s27 Z Q s_0 at_1 low_2 high_3 := by kernel_rfl
def lex_run.j28 (Z : List PanicEntry → PT) (Q : Int → PT) : Fr → PT := (fun ρ => atS (ρ 0) fun s_0 => atI .i64 (ρ 1) fun at_1 => atI .u8 (ρ 2) fun low_2 => atI .u8 (ρ 3) fun high_3 => (lex_run.s27 Z Q s_0 at_1 low_2 high_3))
theorem lex_run.s27_ok (Z : List PanicEntry → PT) (Q : Int → PT) : Ok Tryd.prog Tryd.f57.ntmps Z lex_run.body (lex_run.q9 Z Q) (lex_run.j28 Z Q) := by
  intro E he ρ w a hr h
  rw [lex_run.q4] at he ⊢
  obtain ⟨s_0, e0, h⟩ := atS_e h
  obtain ⟨at_1, e1, h⟩ := atI_e h
  obtain ⟨low_2, e2, h⟩ := atI_e h
  obtain ⟨high_3, e3, h⟩ := atI_e h
  exact ok_at [(0, (Value.string s_0)), (1, (Value.int .i64 at_1)), (2, (Value.int .u8 low_2)), (3, (Value.int .u8 high_3))] (ok_seq (okC lex_run.c1 _ (by kernel_rfl)) (ok_seq (okC lex_run.c2 _ (by kernel_rfl)) (lex_run.o26 Z Q))) (puts_cons e0 (puts_cons e1 (puts_cons e2 (puts_cons e3 (fun p hp => puts_nil hp))))) (lex_run.s27_eq Z Q ρ s_0 at_1 low_2 high_3) he hr h
def lex_run.F (Z : List PanicEntry → PT) (Q : Int → PT) (s_0 : ByteArray) (at_1 : Int) (low_2 : Int) (high_3 : Int) : PT :=
  (lex_run.s27 Z Q s_0 at_1 low_2 high_3)
theorem lex_run.vc (Z : List PanicEntry → PT) (Q : Int → PT) (s_0 : ByteArray) (at_1 : Int) (low_2 : Int) (high_3 : Int) (w : World) (h : lex_run.F Z Q s_0 at_1 low_2 high_3 w) : Calls Tryd.prog 57 ⟨[(Value.string s_0), (Value.int .i64 at_1), (Value.int .u8 low_2), (Value.int .u8 high_3)]⟩ w fun e w' => (∃ (r0 : Int), e = .returned (.int .i64 r0) ∧ Q r0 w') ∨ ∃ c, e = .panicked c ∧ Z c w' := by
  refine (calls_of_ok (args := [(Value.string s_0), (Value.int .i64 at_1), (Value.int .u8 low_2), (Value.int .u8 high_3)]) (w := w) (rs := [.tmp 8]) (fn := Tryd.f57) (c := lex_run.body) Tryd.func57 (by kernel_rfl) (by kernel_rfl) (Nat.le_of_ble_eq_true (by kernel_rfl)) (lex_run.s27_ok Z Q) (h)).mono fun e w' hR => ?_
  cases e with
  | returned v =>
    obtain ⟨va, rfl, hR⟩ := atI_e hR
    exact .inl ⟨va, rfl, hR⟩
  | panicked c => exact .inr ⟨c, rfl, hR⟩
  | outgrown => exact hR.elim
theorem lex_run.vc0 (Q : Int → PT) (s_0 : ByteArray) (at_1 : Int) (low_2 : Int) (high_3 : Int) (w : World) (h : lex_run.F Z0 Q s_0 at_1 low_2 high_3 w) : Calls Tryd.prog 57 ⟨[(Value.string s_0), (Value.int .i64 at_1), (Value.int .u8 low_2), (Value.int .u8 high_3)]⟩ w fun e w' => (∃ (r0 : Int), e = .returned (.int .i64 r0) ∧ Q r0 w') :=
  (lex_run.vc Z0 Q s_0 at_1 low_2 high_3 w h).mono fun _ _ hR => hR.elim id fun ⟨_, _, hz⟩ => hz.elim
theorem lex_run.cal {Z : List PanicEntry → PT} {Q : Int → PT} {s_0 : ByteArray} {at_1 : Int} {low_2 : Int} {high_3 : Int} {w : World} (h : lex_run.F Z Q s_0 at_1 low_2 high_3 w) : Go.Proofs.YtllgjjldnnmjkaaDoor.cal Tryd.prog Z 57 [(Value.string s_0), (Value.int .i64 at_1), (Value.int .u8 low_2), (Value.int .u8 high_3)] (isI .i64 fun r0 => Q r0) w := by
  refine (lex_run.vc Z Q s_0 at_1 low_2 high_3 w h).mono fun e w' hR => ?_
  rcases hR with ⟨r0, rfl, h⟩ | ⟨c, rfl, h⟩
  · show (isI .i64 fun r0 => Q r0) (.int .i64 r0) w'
    exact ⟨_, rfl, h⟩
  · exact h

/-! ### milepost/lex.number: function 58 -/
noncomputable def lex_number.body : Code := bodyC Tryd.f58
noncomputable def lex_number.c1 : Code := sq1 lex_number.body
noncomputable def lex_number.c2 : Code := sq1 (sq2 lex_number.body)
noncomputable def lex_number.c3 : Code := sq2 (sq2 lex_number.body)
theorem lex_number.q4 : lex_number.body = .seq lex_number.c1 (.seq lex_number.c2 lex_number.c3) := by kernel_rfl
noncomputable def lex_number.c5 : Code := sq1 lex_number.c3
noncomputable def lex_number.c6 : Code := sq2 lex_number.c3
theorem lex_number.q7 : lex_number.c3 = .seq lex_number.c5 lex_number.c6 := by kernel_rfl
noncomputable def lex_number.c8 : Code := sq1 lex_number.c6
noncomputable def lex_number.c9 : Code := sq2 lex_number.c6
theorem lex_number.q10 : lex_number.c6 = .seq lex_number.c8 lex_number.c9 := by kernel_rfl
def lex_number.s11 (Z : List PanicEntry → PT) (Q : Int → Bool → PT) (n_4 : Int) : PT :=
  (Q n_4 (decide (n_4 < 4294967296)))
def lex_number.q12 (Z : List PanicEntry → PT) (Q : Int → Bool → PT) : QF := bodyQ Tryd.prog [.tmp 2, .tmp 3] (fun v => at2 v fun x y => atI .i64 x fun xa => atB y fun ya => Q xa ya)
theorem lex_number.s11_eq (Z : List PanicEntry → PT) (Q : Int → Bool → PT) (ρ : Fr) (n_4 : Int) : comp Tryd.prog Z lex_number.c9 (lex_number.q12 Z Q) (puts ρ [(4, (Value.int .i64 n_4))]) = lex_number.s11 Z Q n_4 := by kernel_rfl
def lex_number.j13 (Z : List PanicEntry → PT) (Q : Int → Bool → PT) : Fr → PT := (fun ρ => atI .i64 (ρ 4) fun n_4 => (lex_number.s11 Z Q n_4))
theorem lex_number.s11_ok (Z : List PanicEntry → PT) (Q : Int → Bool → PT) : Ok Tryd.prog Tryd.f58.ntmps Z lex_number.c9 (lex_number.q12 Z Q) (lex_number.j13 Z Q) := by
  intro E he ρ w a hr h
  obtain ⟨n_4, e4, h⟩ := atI_e h
  exact ok_at [(4, (Value.int .i64 n_4))] (okC lex_number.c9 (lex_number.q12 Z Q) (by kernel_rfl)) (puts_cons e4 (fun p hp => puts_nil hp)) (lex_number.s11_eq Z Q ρ n_4) he hr h
noncomputable def lex_number.c14 : Code := sq1 lex_number.c8
noncomputable def lex_number.c15 : Code := sq2 lex_number.c8
theorem lex_number.q16 : lex_number.c8 = .seq lex_number.c14 lex_number.c15 := by kernel_rfl
noncomputable def lex_number.c17 : Code := blk lex_number.c15
theorem lex_number.q18 : lex_number.c15 = .block 0 lex_number.c17 := by kernel_rfl
noncomputable def lex_number.c19 : Code := lop lex_number.c17
theorem lex_number.q20 : lex_number.c17 = .loop lex_number.c19 := by kernel_rfl
def lex_number.q22 (Z : List PanicEntry → PT) (Q : Int → Bool → PT) : QF := thenK (lex_number.j13 Z Q) (lex_number.q12 Z Q)
def lex_number.q23 (Z : List PanicEntry → PT) (Q : Int → Bool → PT) : QF := inBl 0 (lex_number.q22 Z Q)
def lex_number.s24 (Z : List PanicEntry → PT) (Q : Int → Bool → PT) (X1 : ByteArray → Int → Int → Int → PT) (s_0 : ByteArray) (n_4 : Int) (t_20 : Int) (t_21 : Int) : PT :=
  (pif (decide (t_21 < t_20)) (ixT s_0 t_21 fun v4 => (X1 s_0 (IntKind.wrap .i64 ((IntKind.wrap .i64 (n_4 * 10)) + (IntKind.wrap .i64 (IntKind.wrap .u8 (((v4.toNat : Nat) : Int) - 48))))) t_20 (IntKind.wrap .i64 (t_21 + 1)))) (lex_number.s11 Z Q n_4))
def lex_number.j25 (Z : List PanicEntry → PT) (Q : Int → Bool → PT) (X1 : ByteArray → Int → Int → Int → PT) : Fr → PT := (fun ρ => atS (ρ 0) fun s_0 => atI .i64 (ρ 4) fun n_4 => atI .i64 (ρ 20) fun t_20 => atI .i64 (ρ 21) fun t_21 => (X1 s_0 n_4 t_20 t_21))
def lex_number.q26 (Z : List PanicEntry → PT) (Q : Int → Bool → PT) (X1 : ByteArray → Int → Int → Int → PT) : QF := thenK (lex_number.j25 Z Q X1) (lex_number.q23 Z Q)
theorem lex_number.s24_eq (Z : List PanicEntry → PT) (Q : Int → Bool → PT) (X1 : ByteArray → Int → Int → Int → PT) (ρ : Fr) (s_0 : ByteArray) (n_4 : Int) (t_20 : Int) (t_21 : Int) : comp Tryd.prog Z lex_number.c19 (lex_number.q26 Z Q X1) (puts ρ [(0, (Value.string s_0)), (4, (Value.int .i64 n_4)), (20, (Value.int .i64 t_20)), (21, (Value.int .i64 t_21))]) = lex_number.s24 Z Q X1 s_0 n_4 t_20 t_21 := by kernel_rfl
def lex_number.j27 (Z : List PanicEntry → PT) (Q : Int → Bool → PT) (X1 : ByteArray → Int → Int → Int → PT) : Fr → PT := (fun ρ => atS (ρ 0) fun s_0 => atI .i64 (ρ 4) fun n_4 => atI .i64 (ρ 20) fun t_20 => atI .i64 (ρ 21) fun t_21 => (lex_number.s24 Z Q X1 s_0 n_4 t_20 t_21))
theorem lex_number.s24_ok (Z : List PanicEntry → PT) (Q : Int → Bool → PT) (X1 : ByteArray → Int → Int → Int → PT) : Ok Tryd.prog Tryd.f58.ntmps Z lex_number.c19 (lex_number.q26 Z Q X1) (lex_number.j27 Z Q X1) := by
  intro E he ρ w a hr h
  obtain ⟨s_0, e0, h⟩ := atS_e h
  obtain ⟨n_4, e4, h⟩ := atI_e h
  obtain ⟨t_20, e20, h⟩ := atI_e h
  obtain ⟨t_21, e21, h⟩ := atI_e h
  exact ok_at [(0, (Value.string s_0)), (4, (Value.int .i64 n_4)), (20, (Value.int .i64 t_20)), (21, (Value.int .i64 t_21))] (okC lex_number.c19 (lex_number.q26 Z Q X1) (by kernel_rfl)) (puts_cons e0 (puts_cons e4 (puts_cons e20 (puts_cons e21 (fun p hp => puts_nil hp))))) (lex_number.s24_eq Z Q X1 ρ s_0 n_4 t_20 t_21) he hr h
def lex_number.l21 (Z : List PanicEntry → PT) (Q : Int → Bool → PT) : Nat → ByteArray → Int → Int → Int → PT
  | 0, _, _, _, _ => bad
  | k + 1, s_0, n_4, t_20, t_21 => (lex_number.s24 Z Q (lex_number.l21 Z Q k) s_0 n_4 t_20 t_21)
def lex_number.j28 (Z : List PanicEntry → PT) (Q : Int → Bool → PT) (k : Nat) : Fr → PT := (fun ρ => atS (ρ 0) fun s_0 => atI .i64 (ρ 4) fun n_4 => atI .i64 (ρ 20) fun t_20 => atI .i64 (ρ 21) fun t_21 => (lex_number.l21 Z Q k s_0 n_4 t_20 t_21))
def lex_number.j29 (Z : List PanicEntry → PT) (Q : Int → Bool → PT) : Fr → PT := (fun ρ => atS (ρ 0) fun s_0 => atI .i64 (ρ 4) fun n_4 => atI .i64 (ρ 20) fun t_20 => atI .i64 (ρ 21) fun t_21 => (exK fun k => lex_number.l21 Z Q k s_0 n_4 t_20 t_21))
theorem lex_number.o30 (Z : List PanicEntry → PT) (Q : Int → Bool → PT) : Ok Tryd.prog Tryd.f58.ntmps Z lex_number.c17 (lex_number.q23 Z Q) (lex_number.j29 Z Q) := by
  rw [lex_number.q20]
  refine Ok.imp (ok_loop (J := lex_number.j28 Z Q) ?_ ?_) ?_
  · intro ρ w h
    obtain ⟨s_0, e0, h⟩ := atS_e h
    obtain ⟨n_4, e4, h⟩ := atI_e h
    obtain ⟨t_20, e20, h⟩ := atI_e h
    obtain ⟨t_21, e21, h⟩ := atI_e h
    exact h
  · intro k
    refine Ok.imp (lex_number.s24_ok Z Q (lex_number.l21 Z Q k)) fun ρ w h => ?_
    obtain ⟨s_0, e0, h⟩ := atS_e h
    obtain ⟨n_4, e4, h⟩ := atI_e h
    obtain ⟨t_20, e20, h⟩ := atI_e h
    obtain ⟨t_21, e21, h⟩ := atI_e h
    show (lex_number.j27 Z Q (lex_number.l21 Z Q k)) ρ w
    simp only [lex_number.j27]
    rw [e0]
    rw [e4]
    rw [e20]
    rw [e21]
    exact h
  · intro ρ w h
    obtain ⟨s_0, e0, h⟩ := atS_e h
    obtain ⟨n_4, e4, h⟩ := atI_e h
    obtain ⟨t_20, e20, h⟩ := atI_e h
    obtain ⟨t_21, e21, h⟩ := atI_e h
    obtain ⟨k, h⟩ := h
    refine ⟨k, ?_⟩
    show (atS (ρ 0) fun s_0 => atI .i64 (ρ 4) fun n_4 => atI .i64 (ρ 20) fun t_20 => atI .i64 (ρ 21) fun t_21 => (lex_number.l21 Z Q k s_0 n_4 t_20 t_21)) w
    rw [e0]
    rw [e4]
    rw [e20]
    rw [e21]
    exact h
theorem lex_number.o31 (Z : List PanicEntry → PT) (Q : Int → Bool → PT) : Ok Tryd.prog Tryd.f58.ntmps Z lex_number.c15 (lex_number.q22 Z Q) (lex_number.j29 Z Q) := by
  rw [lex_number.q18]; exact ok_block (lex_number.o30 Z Q)
def lex_number.s32 (Z : List PanicEntry → PT) (Q : Int → Bool → PT) (s_0 : ByteArray) (n_4 : Int) : PT :=
  (exK fun k => lex_number.l21 Z Q k s_0 n_4 ((s_0.size : Nat) : Int) 0)
theorem lex_number.s32_eq (Z : List PanicEntry → PT) (Q : Int → Bool → PT) (ρ : Fr) (s_0 : ByteArray) (n_4 : Int) : (comp Tryd.prog Z lex_number.c14 (thenK (lex_number.j29 Z Q) (lex_number.q22 Z Q))) (puts ρ [(0, (Value.string s_0)), (4, (Value.int .i64 n_4))]) = lex_number.s32 Z Q s_0 n_4 := by kernel_rfl
def lex_number.j33 (Z : List PanicEntry → PT) (Q : Int → Bool → PT) : Fr → PT := (fun ρ => atS (ρ 0) fun s_0 => atI .i64 (ρ 4) fun n_4 => (lex_number.s32 Z Q s_0 n_4))
theorem lex_number.s32_ok (Z : List PanicEntry → PT) (Q : Int → Bool → PT) : Ok Tryd.prog Tryd.f58.ntmps Z lex_number.c8 (lex_number.q22 Z Q) (lex_number.j33 Z Q) := by
  intro E he ρ w a hr h
  rw [lex_number.q16] at he ⊢
  obtain ⟨s_0, e0, h⟩ := atS_e h
  obtain ⟨n_4, e4, h⟩ := atI_e h
  exact ok_at [(0, (Value.string s_0)), (4, (Value.int .i64 n_4))] (ok_seq (okC lex_number.c14 _ (by kernel_rfl)) (lex_number.o31 Z Q)) (puts_cons e0 (puts_cons e4 (fun p hp => puts_nil hp))) (lex_number.s32_eq Z Q ρ s_0 n_4) he hr h
theorem lex_number.o34 (Z : List PanicEntry → PT) (Q : Int → Bool → PT) : Ok Tryd.prog Tryd.f58.ntmps Z lex_number.c6 (lex_number.q12 Z Q) (lex_number.j33 Z Q) := by
  rw [lex_number.q10]; exact ok_seq (lex_number.s32_ok Z Q) (lex_number.s11_ok Z Q)
def lex_number.s35 (Z : List PanicEntry → PT) (Q : Int → Bool → PT) (s_0 : ByteArray) : PT :=
  (lex_number.s32 Z Q s_0 0)
theorem lex_number.s35_eq (Z : List PanicEntry → PT) (Q : Int → Bool → PT) (ρ : Fr) (s_0 : ByteArray) : (comp Tryd.prog Z lex_number.c5 (thenK (lex_number.j33 Z Q) (lex_number.q12 Z Q))) (puts ρ [(0, (Value.string s_0))]) = lex_number.s35 Z Q s_0 := by kernel_rfl
def lex_number.j36 (Z : List PanicEntry → PT) (Q : Int → Bool → PT) : Fr → PT := (fun ρ => atS (ρ 0) fun s_0 => (lex_number.s35 Z Q s_0))
theorem lex_number.s35_ok (Z : List PanicEntry → PT) (Q : Int → Bool → PT) : Ok Tryd.prog Tryd.f58.ntmps Z lex_number.c3 (lex_number.q12 Z Q) (lex_number.j36 Z Q) := by
  intro E he ρ w a hr h
  rw [lex_number.q7] at he ⊢
  obtain ⟨s_0, e0, h⟩ := atS_e h
  exact ok_at [(0, (Value.string s_0))] (ok_seq (okC lex_number.c5 _ (by kernel_rfl)) (lex_number.o34 Z Q)) (puts_cons e0 (fun p hp => puts_nil hp)) (lex_number.s35_eq Z Q ρ s_0) he hr h
def lex_number.s37 (Z : List PanicEntry → PT) (Q : Int → Bool → PT) (s_0 : ByteArray) : PT :=
  (pif (decide (((s_0.size : Nat) : Int) > 10)) (Q 0 false) (pif (decide (((s_0.size : Nat) : Int) > 1)) (ixT s_0 0 fun v5 => (pif (((v5.toNat : Nat) : Int) == 48) (Q 0 false) (lex_number.s35 Z Q s_0))) (lex_number.s35 Z Q s_0)))
theorem lex_number.s37_eq (Z : List PanicEntry → PT) (Q : Int → Bool → PT) (ρ : Fr) (s_0 : ByteArray) : (comp Tryd.prog Z lex_number.c1 (thenK (comp Tryd.prog Z lex_number.c2 (thenK (lex_number.j36 Z Q) (lex_number.q12 Z Q))) (lex_number.q12 Z Q))) (puts ρ [(0, (Value.string s_0))]) = lex_number.s37 Z Q s_0 := by kernel_rfl
def lex_number.j38 (Z : List PanicEntry → PT) (Q : Int → Bool → PT) : Fr → PT := (fun ρ => atS (ρ 0) fun s_0 => (lex_number.s37 Z Q s_0))
theorem lex_number.s37_ok (Z : List PanicEntry → PT) (Q : Int → Bool → PT) : Ok Tryd.prog Tryd.f58.ntmps Z lex_number.body (lex_number.q12 Z Q) (lex_number.j38 Z Q) := by
  intro E he ρ w a hr h
  rw [lex_number.q4] at he ⊢
  obtain ⟨s_0, e0, h⟩ := atS_e h
  exact ok_at [(0, (Value.string s_0))] (ok_seq (okC lex_number.c1 _ (by kernel_rfl)) (ok_seq (okC lex_number.c2 _ (by kernel_rfl)) (lex_number.s35_ok Z Q))) (puts_cons e0 (fun p hp => puts_nil hp)) (lex_number.s37_eq Z Q ρ s_0) he hr h
def lex_number.F (Z : List PanicEntry → PT) (Q : Int → Bool → PT) (s_0 : ByteArray) : PT :=
  (lex_number.s37 Z Q s_0)
theorem lex_number.vc (Z : List PanicEntry → PT) (Q : Int → Bool → PT) (s_0 : ByteArray) (w : World) (h : lex_number.F Z Q s_0 w) : Calls Tryd.prog 58 ⟨[(Value.string s_0)]⟩ w fun e w' => (∃ (r0 : Int) (r1 : Bool), e = .returned (.tuple #[.int .i64 r0, .bool r1]) ∧ Q r0 r1 w') ∨ ∃ c, e = .panicked c ∧ Z c w' := by
  refine (calls_of_ok (args := [(Value.string s_0)]) (w := w) (rs := [.tmp 2, .tmp 3]) (fn := Tryd.f58) (c := lex_number.body) Tryd.func58 (by kernel_rfl) (by kernel_rfl) (Nat.le_of_ble_eq_true (by kernel_rfl)) (lex_number.s37_ok Z Q) (h)).mono fun e w' hR => ?_
  cases e with
  | returned v =>
    obtain ⟨x, y, rfl, hR⟩ := at2_e hR
    obtain ⟨xa, rfl, hR⟩ := atI_e hR
    obtain ⟨ya, rfl, hR⟩ := atB_e hR
    exact .inl ⟨xa, ya, rfl, hR⟩
  | panicked c => exact .inr ⟨c, rfl, hR⟩
  | outgrown => exact hR.elim
theorem lex_number.vc0 (Q : Int → Bool → PT) (s_0 : ByteArray) (w : World) (h : lex_number.F Z0 Q s_0 w) : Calls Tryd.prog 58 ⟨[(Value.string s_0)]⟩ w fun e w' => (∃ (r0 : Int) (r1 : Bool), e = .returned (.tuple #[.int .i64 r0, .bool r1]) ∧ Q r0 r1 w') :=
  (lex_number.vc Z0 Q s_0 w h).mono fun _ _ hR => hR.elim id fun ⟨_, _, hz⟩ => hz.elim
theorem lex_number.cal {Z : List PanicEntry → PT} {Q : Int → Bool → PT} {s_0 : ByteArray} {w : World} (h : lex_number.F Z Q s_0 w) : Go.Proofs.YtllgjjldnnmjkaaDoor.cal Tryd.prog Z 58 [(Value.string s_0)] (isT2 fun x y => (isI .i64 fun r0 => (isB fun r1 => Q r0 r1) y) x) w := by
  refine (lex_number.vc Z Q s_0 w h).mono fun e w' hR => ?_
  rcases hR with ⟨r0, r1, rfl, h⟩ | ⟨c, rfl, h⟩
  · show (isT2 fun x y => (isI .i64 fun r0 => (isB fun r1 => Q r0 r1) y) x) (.tuple #[.int .i64 r0, .bool r1]) w'
    exact ⟨_, _, rfl, ⟨_, rfl, ⟨_, rfl, h⟩⟩⟩
  · exact h

/-! ### milepost/milepostref05.Tokens: function 45 -/
noncomputable def ref05_Tokens.body : Code := bodyC Tryd.f45
noncomputable def ref05_Tokens.c1 : Code := sq1 ref05_Tokens.body
noncomputable def ref05_Tokens.c2 : Code := sq1 (sq2 ref05_Tokens.body)
noncomputable def ref05_Tokens.c3 : Code := sq1 (sq2 (sq2 ref05_Tokens.body))
noncomputable def ref05_Tokens.c4 : Code := sq1 (sq2 (sq2 (sq2 ref05_Tokens.body)))
noncomputable def ref05_Tokens.c5 : Code := sq2 (sq2 (sq2 (sq2 ref05_Tokens.body)))
theorem ref05_Tokens.q6 : ref05_Tokens.body = .seq ref05_Tokens.c1 (.seq ref05_Tokens.c2 (.seq ref05_Tokens.c3 (.seq ref05_Tokens.c4 ref05_Tokens.c5))) := by kernel_rfl
noncomputable def ref05_Tokens.c7 : Code := sq1 ref05_Tokens.c5
noncomputable def ref05_Tokens.c8 : Code := sq2 ref05_Tokens.c5
theorem ref05_Tokens.q9 : ref05_Tokens.c5 = .seq ref05_Tokens.c7 ref05_Tokens.c8 := by kernel_rfl
def ref05_Tokens.s10 (Z : List PanicEntry → PT) (Q : Option Addr → Nat → Nat → Int → Int → PT) (out_5 : Option Addr) (out_5n out_5c : Nat) : PT :=
  (Q out_5 out_5n out_5c 0 0)
def ref05_Tokens.q11 (Z : List PanicEntry → PT) (Q : Option Addr → Nat → Nat → Int → Int → PT) : QF := bodyQ Tryd.prog [.tmp 2, .tmp 3, .tmp 4] (fun v => at3 v fun x y z => atL x fun xa xn xc => atI .i64 y fun ya => atI .i64 z fun za => Q xa xn xc ya za)
theorem ref05_Tokens.s10_eq (Z : List PanicEntry → PT) (Q : Option Addr → Nat → Nat → Int → Int → PT) (ρ : Fr) (out_5 : Option Addr) (out_5n out_5c : Nat) : comp Tryd.prog Z ref05_Tokens.c8 (ref05_Tokens.q11 Z Q) (puts ρ [(5, (Value.slice out_5 out_5n out_5c))]) = ref05_Tokens.s10 Z Q out_5 out_5n out_5c := by kernel_rfl
def ref05_Tokens.j12 (Z : List PanicEntry → PT) (Q : Option Addr → Nat → Nat → Int → Int → PT) : Fr → PT := (fun ρ => atL (ρ 5) fun out_5 out_5n out_5c => (ref05_Tokens.s10 Z Q out_5 out_5n out_5c))
theorem ref05_Tokens.s10_ok (Z : List PanicEntry → PT) (Q : Option Addr → Nat → Nat → Int → Int → PT) : Ok Tryd.prog Tryd.f45.ntmps Z ref05_Tokens.c8 (ref05_Tokens.q11 Z Q) (ref05_Tokens.j12 Z Q) := by
  intro E he ρ w a hr h
  obtain ⟨out_5, out_5n, out_5c, e5, h⟩ := atL_e h
  exact ok_at [(5, (Value.slice out_5 out_5n out_5c))] (okC ref05_Tokens.c8 (ref05_Tokens.q11 Z Q) (by kernel_rfl)) (puts_cons e5 (fun p hp => puts_nil hp)) (ref05_Tokens.s10_eq Z Q ρ out_5 out_5n out_5c) he hr h
noncomputable def ref05_Tokens.c13 : Code := blk ref05_Tokens.c7
theorem ref05_Tokens.q14 : ref05_Tokens.c7 = .block 0 ref05_Tokens.c13 := by kernel_rfl
noncomputable def ref05_Tokens.c15 : Code := lop ref05_Tokens.c13
theorem ref05_Tokens.q16 : ref05_Tokens.c13 = .loop ref05_Tokens.c15 := by kernel_rfl
def ref05_Tokens.q18 (Z : List PanicEntry → PT) (Q : Option Addr → Nat → Nat → Int → Int → PT) : QF := thenK (ref05_Tokens.j12 Z Q) (ref05_Tokens.q11 Z Q)
def ref05_Tokens.q19 (Z : List PanicEntry → PT) (Q : Option Addr → Nat → Nat → Int → Int → PT) : QF := inBl 0 (ref05_Tokens.q18 Z Q)
noncomputable def ref05_Tokens.c20 : Code := sq1 ref05_Tokens.c15
noncomputable def ref05_Tokens.c21 : Code := sq2 ref05_Tokens.c15
theorem ref05_Tokens.q22 : ref05_Tokens.c15 = .seq ref05_Tokens.c20 ref05_Tokens.c21 := by kernel_rfl
noncomputable def ref05_Tokens.c23 : Code := blk ref05_Tokens.c21
theorem ref05_Tokens.q24 : ref05_Tokens.c21 = .block 1 ref05_Tokens.c23 := by kernel_rfl
noncomputable def ref05_Tokens.c25 : Code := sq1 ref05_Tokens.c23
noncomputable def ref05_Tokens.c26 : Code := sq1 (sq2 ref05_Tokens.c23)
noncomputable def ref05_Tokens.c27 : Code := sq2 (sq2 ref05_Tokens.c23)
theorem ref05_Tokens.q28 : ref05_Tokens.c23 = .seq ref05_Tokens.c25 (.seq ref05_Tokens.c26 ref05_Tokens.c27) := by kernel_rfl
noncomputable def ref05_Tokens.c29 : Code := sq1 ref05_Tokens.c27
noncomputable def ref05_Tokens.c30 : Code := sq2 ref05_Tokens.c27
theorem ref05_Tokens.q31 : ref05_Tokens.c27 = .seq ref05_Tokens.c29 ref05_Tokens.c30 := by kernel_rfl
noncomputable def ref05_Tokens.c32 : Code := sq1 ref05_Tokens.c30
noncomputable def ref05_Tokens.c33 : Code := sq2 ref05_Tokens.c30
theorem ref05_Tokens.q34 : ref05_Tokens.c30 = .seq ref05_Tokens.c32 ref05_Tokens.c33 := by kernel_rfl
noncomputable def ref05_Tokens.c35 : Code := sq1 ref05_Tokens.c33
noncomputable def ref05_Tokens.c36 : Code := sq2 ref05_Tokens.c33
theorem ref05_Tokens.q37 : ref05_Tokens.c33 = .seq ref05_Tokens.c35 ref05_Tokens.c36 := by kernel_rfl
noncomputable def ref05_Tokens.c38 : Code := sq1 ref05_Tokens.c36
noncomputable def ref05_Tokens.c39 : Code := sq1 (sq2 ref05_Tokens.c36)
noncomputable def ref05_Tokens.c40 : Code := sq1 (sq2 (sq2 ref05_Tokens.c36))
noncomputable def ref05_Tokens.c41 : Code := sq2 (sq2 (sq2 ref05_Tokens.c36))
theorem ref05_Tokens.q42 : ref05_Tokens.c36 = .seq ref05_Tokens.c38 (.seq ref05_Tokens.c39 (.seq ref05_Tokens.c40 ref05_Tokens.c41)) := by kernel_rfl
noncomputable def ref05_Tokens.c43 : Code := sq1 ref05_Tokens.c41
noncomputable def ref05_Tokens.c44 : Code := sq2 ref05_Tokens.c41
theorem ref05_Tokens.q45 : ref05_Tokens.c41 = .seq ref05_Tokens.c43 ref05_Tokens.c44 := by kernel_rfl
def ref05_Tokens.s46 (Z : List PanicEntry → PT) (Q : Option Addr → Nat → Nat → Int → Int → PT) (X1 : ByteArray → Option Addr → Nat → Nat → Int → PT) (s_0 : ByteArray) (out_5 : Option Addr) (out_5n out_5c : Nat) (k_7 : Int) (end_8 : Int) (t_9 : Addr) : PT :=
  (pif (decide (k_7 > 0)) (pif (decide (k_7 < 9)) (ldN 4 t_9 fun v36 => (cnd (List.length v36 = 4) (newC 79 (v36 ++ ([])) fun v37 => (runL Tryd.prog (bi .append #[69, 69] 69 [false, false] [(Value.slice out_5 out_5n out_5c), (Value.slice (some v37) 1 1)]) fun v38 v38n v38c => (X1 s_0 v38 v38n v38c end_8))))) (X1 s_0 out_5 out_5n out_5c end_8)) (X1 s_0 out_5 out_5n out_5c end_8))
def ref05_Tokens.j47 (Z : List PanicEntry → PT) (Q : Option Addr → Nat → Nat → Int → Int → PT) (X1 : ByteArray → Option Addr → Nat → Nat → Int → PT) : Fr → PT := (fun ρ => atS (ρ 0) fun s_0 => atL (ρ 5) fun out_5 out_5n out_5c => atI .i64 (ρ 6) fun at_6 => (X1 s_0 out_5 out_5n out_5c at_6))
def ref05_Tokens.q48 (Z : List PanicEntry → PT) (Q : Option Addr → Nat → Nat → Int → Int → PT) (X1 : ByteArray → Option Addr → Nat → Nat → Int → PT) : QF := thenK (ref05_Tokens.j47 Z Q X1) (ref05_Tokens.q19 Z Q)
def ref05_Tokens.q49 (Z : List PanicEntry → PT) (Q : Option Addr → Nat → Nat → Int → Int → PT) (X1 : ByteArray → Option Addr → Nat → Nat → Int → PT) : QF := inBl 1 (ref05_Tokens.q48 Z Q X1)
theorem ref05_Tokens.s46_eq (Z : List PanicEntry → PT) (Q : Option Addr → Nat → Nat → Int → Int → PT) (X1 : ByteArray → Option Addr → Nat → Nat → Int → PT) (ρ : Fr) (s_0 : ByteArray) (out_5 : Option Addr) (out_5n out_5c : Nat) (k_7 : Int) (end_8 : Int) (t_9 : Addr) : comp Tryd.prog Z ref05_Tokens.c44 (ref05_Tokens.q49 Z Q X1) (puts ρ [(0, (Value.string s_0)), (5, (Value.slice out_5 out_5n out_5c)), (7, (Value.int .i64 k_7)), (8, (Value.int .i64 end_8)), (9, (Value.pointer (some t_9)))]) = ref05_Tokens.s46 Z Q X1 s_0 out_5 out_5n out_5c k_7 end_8 t_9 := by kernel_rfl
def ref05_Tokens.j50 (Z : List PanicEntry → PT) (Q : Option Addr → Nat → Nat → Int → Int → PT) (X1 : ByteArray → Option Addr → Nat → Nat → Int → PT) : Fr → PT := (fun ρ => atS (ρ 0) fun s_0 => atL (ρ 5) fun out_5 out_5n out_5c => atI .i64 (ρ 7) fun k_7 => atI .i64 (ρ 8) fun end_8 => atA (ρ 9) fun t_9 => (ref05_Tokens.s46 Z Q X1 s_0 out_5 out_5n out_5c k_7 end_8 t_9))
theorem ref05_Tokens.s46_ok (Z : List PanicEntry → PT) (Q : Option Addr → Nat → Nat → Int → Int → PT) (X1 : ByteArray → Option Addr → Nat → Nat → Int → PT) : Ok Tryd.prog Tryd.f45.ntmps Z ref05_Tokens.c44 (ref05_Tokens.q49 Z Q X1) (ref05_Tokens.j50 Z Q X1) := by
  intro E he ρ w a hr h
  obtain ⟨s_0, e0, h⟩ := atS_e h
  obtain ⟨out_5, out_5n, out_5c, e5, h⟩ := atL_e h
  obtain ⟨k_7, e7, h⟩ := atI_e h
  obtain ⟨end_8, e8, h⟩ := atI_e h
  obtain ⟨t_9, e9, h⟩ := atA_e h
  exact ok_at [(0, (Value.string s_0)), (5, (Value.slice out_5 out_5n out_5c)), (7, (Value.int .i64 k_7)), (8, (Value.int .i64 end_8)), (9, (Value.pointer (some t_9)))] (okC ref05_Tokens.c44 (ref05_Tokens.q49 Z Q X1) (by kernel_rfl)) (puts_cons e0 (puts_cons e5 (puts_cons e7 (puts_cons e8 (puts_cons e9 (fun p hp => puts_nil hp)))))) (ref05_Tokens.s46_eq Z Q X1 ρ s_0 out_5 out_5n out_5c k_7 end_8 t_9) he hr h
def ref05_Tokens.s51 (Z : List PanicEntry → PT) (Q : Option Addr → Nat → Nat → Int → Int → PT) (X1 : ByteArray → Option Addr → Nat → Nat → Int → PT) (s_0 : ByteArray) (out_5 : Option Addr) (out_5n out_5c : Nat) (at_6 : Int) (k_7 : Int) (end_8 : Int) (t_9 : Addr) : PT :=
  (pif (k_7 == 2) (slT s_0 at_6 end_8 fun v39 => (cal Tryd.prog Z 70 [(Value.string v39)] (isI .i64 fun v40 => (st1 (t_9.add 3) (Value.int .i64 v40) (ldI .i64 (t_9.add 3) fun v41 => (pif (decide (v41 < 0)) (Q none 0 0 7 at_6) (ref05_Tokens.s46 Z Q X1 s_0 out_5 out_5n out_5c k_7 end_8 t_9))))))) (ref05_Tokens.s46 Z Q X1 s_0 out_5 out_5n out_5c k_7 end_8 t_9))
theorem ref05_Tokens.s51_eq (Z : List PanicEntry → PT) (Q : Option Addr → Nat → Nat → Int → Int → PT) (X1 : ByteArray → Option Addr → Nat → Nat → Int → PT) (ρ : Fr) (s_0 : ByteArray) (out_5 : Option Addr) (out_5n out_5c : Nat) (at_6 : Int) (k_7 : Int) (end_8 : Int) (t_9 : Addr) : (comp Tryd.prog Z ref05_Tokens.c43 (thenK (ref05_Tokens.j50 Z Q X1) (ref05_Tokens.q49 Z Q X1))) (puts ρ [(0, (Value.string s_0)), (5, (Value.slice out_5 out_5n out_5c)), (6, (Value.int .i64 at_6)), (7, (Value.int .i64 k_7)), (8, (Value.int .i64 end_8)), (9, (Value.pointer (some t_9)))]) = ref05_Tokens.s51 Z Q X1 s_0 out_5 out_5n out_5c at_6 k_7 end_8 t_9 := by kernel_rfl
def ref05_Tokens.j52 (Z : List PanicEntry → PT) (Q : Option Addr → Nat → Nat → Int → Int → PT) (X1 : ByteArray → Option Addr → Nat → Nat → Int → PT) : Fr → PT := (fun ρ => atS (ρ 0) fun s_0 => atL (ρ 5) fun out_5 out_5n out_5c => atI .i64 (ρ 6) fun at_6 => atI .i64 (ρ 7) fun k_7 => atI .i64 (ρ 8) fun end_8 => atA (ρ 9) fun t_9 => (ref05_Tokens.s51 Z Q X1 s_0 out_5 out_5n out_5c at_6 k_7 end_8 t_9))
theorem ref05_Tokens.s51_ok (Z : List PanicEntry → PT) (Q : Option Addr → Nat → Nat → Int → Int → PT) (X1 : ByteArray → Option Addr → Nat → Nat → Int → PT) : Ok Tryd.prog Tryd.f45.ntmps Z ref05_Tokens.c41 (ref05_Tokens.q49 Z Q X1) (ref05_Tokens.j52 Z Q X1) := by
  intro E he ρ w a hr h
  rw [ref05_Tokens.q45] at he ⊢
  obtain ⟨s_0, e0, h⟩ := atS_e h
  obtain ⟨out_5, out_5n, out_5c, e5, h⟩ := atL_e h
  obtain ⟨at_6, e6, h⟩ := atI_e h
  obtain ⟨k_7, e7, h⟩ := atI_e h
  obtain ⟨end_8, e8, h⟩ := atI_e h
  obtain ⟨t_9, e9, h⟩ := atA_e h
  exact ok_at [(0, (Value.string s_0)), (5, (Value.slice out_5 out_5n out_5c)), (6, (Value.int .i64 at_6)), (7, (Value.int .i64 k_7)), (8, (Value.int .i64 end_8)), (9, (Value.pointer (some t_9)))] (ok_seq (okC ref05_Tokens.c43 _ (by kernel_rfl)) (ref05_Tokens.s46_ok Z Q X1)) (puts_cons e0 (puts_cons e5 (puts_cons e6 (puts_cons e7 (puts_cons e8 (puts_cons e9 (fun p hp => puts_nil hp))))))) (ref05_Tokens.s51_eq Z Q X1 ρ s_0 out_5 out_5n out_5c at_6 k_7 end_8 t_9) he hr h
def ref05_Tokens.s53 (Z : List PanicEntry → PT) (Q : Option Addr → Nat → Nat → Int → Int → PT) (X1 : ByteArray → Option Addr → Nat → Nat → Int → PT) (s_0 : ByteArray) (out_5 : Option Addr) (out_5n out_5c : Nat) (at_6 : Int) (k_7 : Int) (end_8 : Int) : PT :=
  (pif (decide (k_7 < 0)) (Q none 0 0 6 at_6) (newC 79 [(Value.int .i64 0), (Value.int .i64 0), (Value.string ⟨#[]⟩), (Value.int .i64 0)] fun t42 => (stN 4 t42 [(Value.int .i64 k_7), (Value.int .i64 at_6), (Value.string ⟨#[]⟩), (Value.int .i64 0)] (pif (k_7 == 1) (slT s_0 at_6 end_8 fun v43 => (st1 (t42.add 2) (Value.string v43) (ref05_Tokens.s51 Z Q X1 s_0 out_5 out_5n out_5c at_6 k_7 end_8 t42))) (ref05_Tokens.s51 Z Q X1 s_0 out_5 out_5n out_5c at_6 k_7 end_8 t42)))))
theorem ref05_Tokens.s53_eq (Z : List PanicEntry → PT) (Q : Option Addr → Nat → Nat → Int → Int → PT) (X1 : ByteArray → Option Addr → Nat → Nat → Int → PT) (ρ : Fr) (s_0 : ByteArray) (out_5 : Option Addr) (out_5n out_5c : Nat) (at_6 : Int) (k_7 : Int) (end_8 : Int) : (comp Tryd.prog Z ref05_Tokens.c38 (thenK (comp Tryd.prog Z ref05_Tokens.c39 (thenK (comp Tryd.prog Z ref05_Tokens.c40 (thenK (ref05_Tokens.j52 Z Q X1) (ref05_Tokens.q49 Z Q X1))) (ref05_Tokens.q49 Z Q X1))) (ref05_Tokens.q49 Z Q X1))) (puts ρ [(0, (Value.string s_0)), (5, (Value.slice out_5 out_5n out_5c)), (6, (Value.int .i64 at_6)), (7, (Value.int .i64 k_7)), (8, (Value.int .i64 end_8))]) = ref05_Tokens.s53 Z Q X1 s_0 out_5 out_5n out_5c at_6 k_7 end_8 := by kernel_rfl
def ref05_Tokens.j54 (Z : List PanicEntry → PT) (Q : Option Addr → Nat → Nat → Int → Int → PT) (X1 : ByteArray → Option Addr → Nat → Nat → Int → PT) : Fr → PT := (fun ρ => atS (ρ 0) fun s_0 => atL (ρ 5) fun out_5 out_5n out_5c => atI .i64 (ρ 6) fun at_6 => atI .i64 (ρ 7) fun k_7 => atI .i64 (ρ 8) fun end_8 => (ref05_Tokens.s53 Z Q X1 s_0 out_5 out_5n out_5c at_6 k_7 end_8))
theorem ref05_Tokens.s53_ok (Z : List PanicEntry → PT) (Q : Option Addr → Nat → Nat → Int → Int → PT) (X1 : ByteArray → Option Addr → Nat → Nat → Int → PT) : Ok Tryd.prog Tryd.f45.ntmps Z ref05_Tokens.c36 (ref05_Tokens.q49 Z Q X1) (ref05_Tokens.j54 Z Q X1) := by
  intro E he ρ w a hr h
  rw [ref05_Tokens.q42] at he ⊢
  obtain ⟨s_0, e0, h⟩ := atS_e h
  obtain ⟨out_5, out_5n, out_5c, e5, h⟩ := atL_e h
  obtain ⟨at_6, e6, h⟩ := atI_e h
  obtain ⟨k_7, e7, h⟩ := atI_e h
  obtain ⟨end_8, e8, h⟩ := atI_e h
  exact ok_at [(0, (Value.string s_0)), (5, (Value.slice out_5 out_5n out_5c)), (6, (Value.int .i64 at_6)), (7, (Value.int .i64 k_7)), (8, (Value.int .i64 end_8))] (ok_seq (okC ref05_Tokens.c38 _ (by kernel_rfl)) (ok_seq (okC ref05_Tokens.c39 _ (by kernel_rfl)) (ok_seq (okC ref05_Tokens.c40 _ (by kernel_rfl)) (ref05_Tokens.s51_ok Z Q X1)))) (puts_cons e0 (puts_cons e5 (puts_cons e6 (puts_cons e7 (puts_cons e8 (fun p hp => puts_nil hp)))))) (ref05_Tokens.s53_eq Z Q X1 ρ s_0 out_5 out_5n out_5c at_6 k_7 end_8) he hr h
def ref05_Tokens.s55 (Z : List PanicEntry → PT) (Q : Option Addr → Nat → Nat → Int → Int → PT) (X1 : ByteArray → Option Addr → Nat → Nat → Int → PT) (s_0 : ByteArray) (out_5 : Option Addr) (out_5n out_5c : Nat) (at_6 : Int) (k_7 : Int) (end_8 : Int) : PT :=
  (pif (k_7 == 5) (pif (decide (end_8 < ((s_0.size : Nat) : Int))) (ixT s_0 end_8 fun v44 => (pif (((v44.toNat : Nat) : Int) == 62) (ref05_Tokens.s53 Z Q X1 s_0 out_5 out_5n out_5c at_6 6 (IntKind.wrap .i64 (end_8 + 1))) (ref05_Tokens.s53 Z Q X1 s_0 out_5 out_5n out_5c at_6 k_7 end_8))) (ref05_Tokens.s53 Z Q X1 s_0 out_5 out_5n out_5c at_6 k_7 end_8)) (ref05_Tokens.s53 Z Q X1 s_0 out_5 out_5n out_5c at_6 k_7 end_8))
theorem ref05_Tokens.s55_eq (Z : List PanicEntry → PT) (Q : Option Addr → Nat → Nat → Int → Int → PT) (X1 : ByteArray → Option Addr → Nat → Nat → Int → PT) (ρ : Fr) (s_0 : ByteArray) (out_5 : Option Addr) (out_5n out_5c : Nat) (at_6 : Int) (k_7 : Int) (end_8 : Int) : (comp Tryd.prog Z ref05_Tokens.c35 (thenK (ref05_Tokens.j54 Z Q X1) (ref05_Tokens.q49 Z Q X1))) (puts ρ [(0, (Value.string s_0)), (5, (Value.slice out_5 out_5n out_5c)), (6, (Value.int .i64 at_6)), (7, (Value.int .i64 k_7)), (8, (Value.int .i64 end_8))]) = ref05_Tokens.s55 Z Q X1 s_0 out_5 out_5n out_5c at_6 k_7 end_8 := by kernel_rfl
def ref05_Tokens.j56 (Z : List PanicEntry → PT) (Q : Option Addr → Nat → Nat → Int → Int → PT) (X1 : ByteArray → Option Addr → Nat → Nat → Int → PT) : Fr → PT := (fun ρ => atS (ρ 0) fun s_0 => atL (ρ 5) fun out_5 out_5n out_5c => atI .i64 (ρ 6) fun at_6 => atI .i64 (ρ 7) fun k_7 => atI .i64 (ρ 8) fun end_8 => (ref05_Tokens.s55 Z Q X1 s_0 out_5 out_5n out_5c at_6 k_7 end_8))
theorem ref05_Tokens.s55_ok (Z : List PanicEntry → PT) (Q : Option Addr → Nat → Nat → Int → Int → PT) (X1 : ByteArray → Option Addr → Nat → Nat → Int → PT) : Ok Tryd.prog Tryd.f45.ntmps Z ref05_Tokens.c33 (ref05_Tokens.q49 Z Q X1) (ref05_Tokens.j56 Z Q X1) := by
  intro E he ρ w a hr h
  rw [ref05_Tokens.q37] at he ⊢
  obtain ⟨s_0, e0, h⟩ := atS_e h
  obtain ⟨out_5, out_5n, out_5c, e5, h⟩ := atL_e h
  obtain ⟨at_6, e6, h⟩ := atI_e h
  obtain ⟨k_7, e7, h⟩ := atI_e h
  obtain ⟨end_8, e8, h⟩ := atI_e h
  exact ok_at [(0, (Value.string s_0)), (5, (Value.slice out_5 out_5n out_5c)), (6, (Value.int .i64 at_6)), (7, (Value.int .i64 k_7)), (8, (Value.int .i64 end_8))] (ok_seq (okC ref05_Tokens.c35 _ (by kernel_rfl)) (ref05_Tokens.s53_ok Z Q X1)) (puts_cons e0 (puts_cons e5 (puts_cons e6 (puts_cons e7 (puts_cons e8 (fun p hp => puts_nil hp)))))) (ref05_Tokens.s55_eq Z Q X1 ρ s_0 out_5 out_5n out_5c at_6 k_7 end_8) he hr h
noncomputable def ref05_Tokens.c57 : Code := blk ref05_Tokens.c32
theorem ref05_Tokens.q58 : ref05_Tokens.c32 = .block 4 ref05_Tokens.c57 := by kernel_rfl
noncomputable def ref05_Tokens.c59 : Code := lop ref05_Tokens.c57
theorem ref05_Tokens.q60 : ref05_Tokens.c57 = .loop ref05_Tokens.c59 := by kernel_rfl
def ref05_Tokens.q62 (Z : List PanicEntry → PT) (Q : Option Addr → Nat → Nat → Int → Int → PT) (X1 : ByteArray → Option Addr → Nat → Nat → Int → PT) : QF := thenK (ref05_Tokens.j56 Z Q X1) (ref05_Tokens.q49 Z Q X1)
def ref05_Tokens.q63 (Z : List PanicEntry → PT) (Q : Option Addr → Nat → Nat → Int → Int → PT) (X1 : ByteArray → Option Addr → Nat → Nat → Int → PT) : QF := inBl 4 (ref05_Tokens.q62 Z Q X1)
def ref05_Tokens.s64 (Z : List PanicEntry → PT) (Q : Option Addr → Nat → Nat → Int → Int → PT) (X1 : ByteArray → Option Addr → Nat → Nat → Int → PT) (X2 : ByteArray → Option Addr → Nat → Nat → Int → Int → Int → PT) (s_0 : ByteArray) (out_5 : Option Addr) (out_5n out_5c : Nat) (at_6 : Int) (k_7 : Int) (end_8 : Int) : PT :=
  (pif (k_7 == 9) (pif (decide (end_8 < ((s_0.size : Nat) : Int))) (ixT s_0 end_8 fun v47 => (pif (((v47.toNat : Nat) : Int) != 10) (X2 s_0 out_5 out_5n out_5c at_6 k_7 (IntKind.wrap .i64 (end_8 + 1))) (ref05_Tokens.s55 Z Q X1 s_0 out_5 out_5n out_5c at_6 k_7 end_8))) (ref05_Tokens.s55 Z Q X1 s_0 out_5 out_5n out_5c at_6 k_7 end_8)) (ref05_Tokens.s55 Z Q X1 s_0 out_5 out_5n out_5c at_6 k_7 end_8))
def ref05_Tokens.j65 (Z : List PanicEntry → PT) (Q : Option Addr → Nat → Nat → Int → Int → PT) (X1 : ByteArray → Option Addr → Nat → Nat → Int → PT) (X2 : ByteArray → Option Addr → Nat → Nat → Int → Int → Int → PT) : Fr → PT := (fun ρ => atS (ρ 0) fun s_0 => atL (ρ 5) fun out_5 out_5n out_5c => atI .i64 (ρ 6) fun at_6 => atI .i64 (ρ 7) fun k_7 => atI .i64 (ρ 8) fun end_8 => (X2 s_0 out_5 out_5n out_5c at_6 k_7 end_8))
def ref05_Tokens.q66 (Z : List PanicEntry → PT) (Q : Option Addr → Nat → Nat → Int → Int → PT) (X1 : ByteArray → Option Addr → Nat → Nat → Int → PT) (X2 : ByteArray → Option Addr → Nat → Nat → Int → Int → Int → PT) : QF := thenK (ref05_Tokens.j65 Z Q X1 X2) (ref05_Tokens.q63 Z Q X1)
theorem ref05_Tokens.s64_eq (Z : List PanicEntry → PT) (Q : Option Addr → Nat → Nat → Int → Int → PT) (X1 : ByteArray → Option Addr → Nat → Nat → Int → PT) (X2 : ByteArray → Option Addr → Nat → Nat → Int → Int → Int → PT) (ρ : Fr) (s_0 : ByteArray) (out_5 : Option Addr) (out_5n out_5c : Nat) (at_6 : Int) (k_7 : Int) (end_8 : Int) : comp Tryd.prog Z ref05_Tokens.c59 (ref05_Tokens.q66 Z Q X1 X2) (puts ρ [(0, (Value.string s_0)), (5, (Value.slice out_5 out_5n out_5c)), (6, (Value.int .i64 at_6)), (7, (Value.int .i64 k_7)), (8, (Value.int .i64 end_8))]) = ref05_Tokens.s64 Z Q X1 X2 s_0 out_5 out_5n out_5c at_6 k_7 end_8 := by kernel_rfl
def ref05_Tokens.j67 (Z : List PanicEntry → PT) (Q : Option Addr → Nat → Nat → Int → Int → PT) (X1 : ByteArray → Option Addr → Nat → Nat → Int → PT) (X2 : ByteArray → Option Addr → Nat → Nat → Int → Int → Int → PT) : Fr → PT := (fun ρ => atS (ρ 0) fun s_0 => atL (ρ 5) fun out_5 out_5n out_5c => atI .i64 (ρ 6) fun at_6 => atI .i64 (ρ 7) fun k_7 => atI .i64 (ρ 8) fun end_8 => (ref05_Tokens.s64 Z Q X1 X2 s_0 out_5 out_5n out_5c at_6 k_7 end_8))
theorem ref05_Tokens.s64_ok (Z : List PanicEntry → PT) (Q : Option Addr → Nat → Nat → Int → Int → PT) (X1 : ByteArray → Option Addr → Nat → Nat → Int → PT) (X2 : ByteArray → Option Addr → Nat → Nat → Int → Int → Int → PT) : Ok Tryd.prog Tryd.f45.ntmps Z ref05_Tokens.c59 (ref05_Tokens.q66 Z Q X1 X2) (ref05_Tokens.j67 Z Q X1 X2) := by
  intro E he ρ w a hr h
  obtain ⟨s_0, e0, h⟩ := atS_e h
  obtain ⟨out_5, out_5n, out_5c, e5, h⟩ := atL_e h
  obtain ⟨at_6, e6, h⟩ := atI_e h
  obtain ⟨k_7, e7, h⟩ := atI_e h
  obtain ⟨end_8, e8, h⟩ := atI_e h
  exact ok_at [(0, (Value.string s_0)), (5, (Value.slice out_5 out_5n out_5c)), (6, (Value.int .i64 at_6)), (7, (Value.int .i64 k_7)), (8, (Value.int .i64 end_8))] (okC ref05_Tokens.c59 (ref05_Tokens.q66 Z Q X1 X2) (by kernel_rfl)) (puts_cons e0 (puts_cons e5 (puts_cons e6 (puts_cons e7 (puts_cons e8 (fun p hp => puts_nil hp)))))) (ref05_Tokens.s64_eq Z Q X1 X2 ρ s_0 out_5 out_5n out_5c at_6 k_7 end_8) he hr h
def ref05_Tokens.l61 (Z : List PanicEntry → PT) (Q : Option Addr → Nat → Nat → Int → Int → PT) (X1 : ByteArray → Option Addr → Nat → Nat → Int → PT) : Nat → ByteArray → Option Addr → Nat → Nat → Int → Int → Int → PT
  | 0, _, _, _, _, _, _, _ => bad
  | k + 1, s_0, out_5, out_5n, out_5c, at_6, k_7, end_8 => (ref05_Tokens.s64 Z Q X1 (ref05_Tokens.l61 Z Q X1 k) s_0 out_5 out_5n out_5c at_6 k_7 end_8)
def ref05_Tokens.j68 (Z : List PanicEntry → PT) (Q : Option Addr → Nat → Nat → Int → Int → PT) (X1 : ByteArray → Option Addr → Nat → Nat → Int → PT) (k : Nat) : Fr → PT := (fun ρ => atS (ρ 0) fun s_0 => atL (ρ 5) fun out_5 out_5n out_5c => atI .i64 (ρ 6) fun at_6 => atI .i64 (ρ 7) fun k_7 => atI .i64 (ρ 8) fun end_8 => (ref05_Tokens.l61 Z Q X1 k s_0 out_5 out_5n out_5c at_6 k_7 end_8))
def ref05_Tokens.j69 (Z : List PanicEntry → PT) (Q : Option Addr → Nat → Nat → Int → Int → PT) (X1 : ByteArray → Option Addr → Nat → Nat → Int → PT) : Fr → PT := (fun ρ => atS (ρ 0) fun s_0 => atL (ρ 5) fun out_5 out_5n out_5c => atI .i64 (ρ 6) fun at_6 => atI .i64 (ρ 7) fun k_7 => atI .i64 (ρ 8) fun end_8 => (exK fun k => ref05_Tokens.l61 Z Q X1 k s_0 out_5 out_5n out_5c at_6 k_7 end_8))
theorem ref05_Tokens.o70 (Z : List PanicEntry → PT) (Q : Option Addr → Nat → Nat → Int → Int → PT) (X1 : ByteArray → Option Addr → Nat → Nat → Int → PT) : Ok Tryd.prog Tryd.f45.ntmps Z ref05_Tokens.c57 (ref05_Tokens.q63 Z Q X1) (ref05_Tokens.j69 Z Q X1) := by
  rw [ref05_Tokens.q60]
  refine Ok.imp (ok_loop (J := ref05_Tokens.j68 Z Q X1) ?_ ?_) ?_
  · intro ρ w h
    obtain ⟨s_0, e0, h⟩ := atS_e h
    obtain ⟨out_5, out_5n, out_5c, e5, h⟩ := atL_e h
    obtain ⟨at_6, e6, h⟩ := atI_e h
    obtain ⟨k_7, e7, h⟩ := atI_e h
    obtain ⟨end_8, e8, h⟩ := atI_e h
    exact h
  · intro k
    refine Ok.imp (ref05_Tokens.s64_ok Z Q X1 (ref05_Tokens.l61 Z Q X1 k)) fun ρ w h => ?_
    obtain ⟨s_0, e0, h⟩ := atS_e h
    obtain ⟨out_5, out_5n, out_5c, e5, h⟩ := atL_e h
    obtain ⟨at_6, e6, h⟩ := atI_e h
    obtain ⟨k_7, e7, h⟩ := atI_e h
    obtain ⟨end_8, e8, h⟩ := atI_e h
    show (ref05_Tokens.j67 Z Q X1 (ref05_Tokens.l61 Z Q X1 k)) ρ w
    simp only [ref05_Tokens.j67]
    rw [e0]
    rw [e5]
    rw [e6]
    rw [e7]
    rw [e8]
    exact h
  · intro ρ w h
    obtain ⟨s_0, e0, h⟩ := atS_e h
    obtain ⟨out_5, out_5n, out_5c, e5, h⟩ := atL_e h
    obtain ⟨at_6, e6, h⟩ := atI_e h
    obtain ⟨k_7, e7, h⟩ := atI_e h
    obtain ⟨end_8, e8, h⟩ := atI_e h
    obtain ⟨k, h⟩ := h
    refine ⟨k, ?_⟩
    show (atS (ρ 0) fun s_0 => atL (ρ 5) fun out_5 out_5n out_5c => atI .i64 (ρ 6) fun at_6 => atI .i64 (ρ 7) fun k_7 => atI .i64 (ρ 8) fun end_8 => (ref05_Tokens.l61 Z Q X1 k s_0 out_5 out_5n out_5c at_6 k_7 end_8)) w
    rw [e0]
    rw [e5]
    rw [e6]
    rw [e7]
    rw [e8]
    exact h
theorem ref05_Tokens.o71 (Z : List PanicEntry → PT) (Q : Option Addr → Nat → Nat → Int → Int → PT) (X1 : ByteArray → Option Addr → Nat → Nat → Int → PT) : Ok Tryd.prog Tryd.f45.ntmps Z ref05_Tokens.c32 (ref05_Tokens.q62 Z Q X1) (ref05_Tokens.j69 Z Q X1) := by
  rw [ref05_Tokens.q58]; exact ok_block (ref05_Tokens.o70 Z Q X1)
theorem ref05_Tokens.o72 (Z : List PanicEntry → PT) (Q : Option Addr → Nat → Nat → Int → Int → PT) (X1 : ByteArray → Option Addr → Nat → Nat → Int → PT) : Ok Tryd.prog Tryd.f45.ntmps Z ref05_Tokens.c30 (ref05_Tokens.q49 Z Q X1) (ref05_Tokens.j69 Z Q X1) := by
  rw [ref05_Tokens.q34]; exact ok_seq (ref05_Tokens.o71 Z Q X1) (ref05_Tokens.s55_ok Z Q X1)
noncomputable def ref05_Tokens.c73 : Code := blk ref05_Tokens.c29
theorem ref05_Tokens.q74 : ref05_Tokens.c29 = .block 2 ref05_Tokens.c73 := by kernel_rfl
noncomputable def ref05_Tokens.c75 : Code := lop ref05_Tokens.c73
theorem ref05_Tokens.q76 : ref05_Tokens.c73 = .loop ref05_Tokens.c75 := by kernel_rfl
def ref05_Tokens.q78 (Z : List PanicEntry → PT) (Q : Option Addr → Nat → Nat → Int → Int → PT) (X1 : ByteArray → Option Addr → Nat → Nat → Int → PT) : QF := thenK (ref05_Tokens.j69 Z Q X1) (ref05_Tokens.q49 Z Q X1)
def ref05_Tokens.q79 (Z : List PanicEntry → PT) (Q : Option Addr → Nat → Nat → Int → Int → PT) (X1 : ByteArray → Option Addr → Nat → Nat → Int → PT) : QF := inBl 2 (ref05_Tokens.q78 Z Q X1)
def ref05_Tokens.s80 (Z : List PanicEntry → PT) (Q : Option Addr → Nat → Nat → Int → Int → PT) (X1 : ByteArray → Option Addr → Nat → Nat → Int → PT) (X2 : ByteArray → Option Addr → Nat → Nat → Int → Int → Int → PT) (s_0 : ByteArray) (out_5 : Option Addr) (out_5n out_5c : Nat) (at_6 : Int) (k_7 : Int) (end_8 : Int) : PT :=
  (pif (k_7 == 1) (pif (decide (end_8 < ((s_0.size : Nat) : Int))) (ixT s_0 end_8 fun v56 => (cal Tryd.prog Z 69 [(Value.int .u8 ((v56.toNat : Nat) : Int))] (isI .i64 fun v57 => (pif (v57 == k_7) (X2 s_0 out_5 out_5n out_5c at_6 k_7 (IntKind.wrap .i64 (end_8 + 1))) (exK fun k => ref05_Tokens.l61 Z Q X1 k s_0 out_5 out_5n out_5c at_6 k_7 end_8))))) (exK fun k => ref05_Tokens.l61 Z Q X1 k s_0 out_5 out_5n out_5c at_6 k_7 end_8)) (pif (k_7 == 2) (pif (decide (end_8 < ((s_0.size : Nat) : Int))) (ixT s_0 end_8 fun v58 => (cal Tryd.prog Z 69 [(Value.int .u8 ((v58.toNat : Nat) : Int))] (isI .i64 fun v59 => (pif (v59 == k_7) (X2 s_0 out_5 out_5n out_5c at_6 k_7 (IntKind.wrap .i64 (end_8 + 1))) (exK fun k => ref05_Tokens.l61 Z Q X1 k s_0 out_5 out_5n out_5c at_6 k_7 end_8))))) (exK fun k => ref05_Tokens.l61 Z Q X1 k s_0 out_5 out_5n out_5c at_6 k_7 end_8)) (exK fun k => ref05_Tokens.l61 Z Q X1 k s_0 out_5 out_5n out_5c at_6 k_7 end_8)))
def ref05_Tokens.j81 (Z : List PanicEntry → PT) (Q : Option Addr → Nat → Nat → Int → Int → PT) (X1 : ByteArray → Option Addr → Nat → Nat → Int → PT) (X2 : ByteArray → Option Addr → Nat → Nat → Int → Int → Int → PT) : Fr → PT := (fun ρ => atS (ρ 0) fun s_0 => atL (ρ 5) fun out_5 out_5n out_5c => atI .i64 (ρ 6) fun at_6 => atI .i64 (ρ 7) fun k_7 => atI .i64 (ρ 8) fun end_8 => (X2 s_0 out_5 out_5n out_5c at_6 k_7 end_8))
def ref05_Tokens.q82 (Z : List PanicEntry → PT) (Q : Option Addr → Nat → Nat → Int → Int → PT) (X1 : ByteArray → Option Addr → Nat → Nat → Int → PT) (X2 : ByteArray → Option Addr → Nat → Nat → Int → Int → Int → PT) : QF := thenK (ref05_Tokens.j81 Z Q X1 X2) (ref05_Tokens.q79 Z Q X1)
theorem ref05_Tokens.s80_eq (Z : List PanicEntry → PT) (Q : Option Addr → Nat → Nat → Int → Int → PT) (X1 : ByteArray → Option Addr → Nat → Nat → Int → PT) (X2 : ByteArray → Option Addr → Nat → Nat → Int → Int → Int → PT) (ρ : Fr) (s_0 : ByteArray) (out_5 : Option Addr) (out_5n out_5c : Nat) (at_6 : Int) (k_7 : Int) (end_8 : Int) : comp Tryd.prog Z ref05_Tokens.c75 (ref05_Tokens.q82 Z Q X1 X2) (puts ρ [(0, (Value.string s_0)), (5, (Value.slice out_5 out_5n out_5c)), (6, (Value.int .i64 at_6)), (7, (Value.int .i64 k_7)), (8, (Value.int .i64 end_8))]) = ref05_Tokens.s80 Z Q X1 X2 s_0 out_5 out_5n out_5c at_6 k_7 end_8 := by kernel_rfl
def ref05_Tokens.j83 (Z : List PanicEntry → PT) (Q : Option Addr → Nat → Nat → Int → Int → PT) (X1 : ByteArray → Option Addr → Nat → Nat → Int → PT) (X2 : ByteArray → Option Addr → Nat → Nat → Int → Int → Int → PT) : Fr → PT := (fun ρ => atS (ρ 0) fun s_0 => atL (ρ 5) fun out_5 out_5n out_5c => atI .i64 (ρ 6) fun at_6 => atI .i64 (ρ 7) fun k_7 => atI .i64 (ρ 8) fun end_8 => (ref05_Tokens.s80 Z Q X1 X2 s_0 out_5 out_5n out_5c at_6 k_7 end_8))
theorem ref05_Tokens.s80_ok (Z : List PanicEntry → PT) (Q : Option Addr → Nat → Nat → Int → Int → PT) (X1 : ByteArray → Option Addr → Nat → Nat → Int → PT) (X2 : ByteArray → Option Addr → Nat → Nat → Int → Int → Int → PT) : Ok Tryd.prog Tryd.f45.ntmps Z ref05_Tokens.c75 (ref05_Tokens.q82 Z Q X1 X2) (ref05_Tokens.j83 Z Q X1 X2) := by
  intro E he ρ w a hr h
  obtain ⟨s_0, e0, h⟩ := atS_e h
  obtain ⟨out_5, out_5n, out_5c, e5, h⟩ := atL_e h
  obtain ⟨at_6, e6, h⟩ := atI_e h
  obtain ⟨k_7, e7, h⟩ := atI_e h
  obtain ⟨end_8, e8, h⟩ := atI_e h
  exact ok_at [(0, (Value.string s_0)), (5, (Value.slice out_5 out_5n out_5c)), (6, (Value.int .i64 at_6)), (7, (Value.int .i64 k_7)), (8, (Value.int .i64 end_8))] (okC ref05_Tokens.c75 (ref05_Tokens.q82 Z Q X1 X2) (by kernel_rfl)) (puts_cons e0 (puts_cons e5 (puts_cons e6 (puts_cons e7 (puts_cons e8 (fun p hp => puts_nil hp)))))) (ref05_Tokens.s80_eq Z Q X1 X2 ρ s_0 out_5 out_5n out_5c at_6 k_7 end_8) he hr h
def ref05_Tokens.l77 (Z : List PanicEntry → PT) (Q : Option Addr → Nat → Nat → Int → Int → PT) (X1 : ByteArray → Option Addr → Nat → Nat → Int → PT) : Nat → ByteArray → Option Addr → Nat → Nat → Int → Int → Int → PT
  | 0, _, _, _, _, _, _, _ => bad
  | k + 1, s_0, out_5, out_5n, out_5c, at_6, k_7, end_8 => (ref05_Tokens.s80 Z Q X1 (ref05_Tokens.l77 Z Q X1 k) s_0 out_5 out_5n out_5c at_6 k_7 end_8)
def ref05_Tokens.j84 (Z : List PanicEntry → PT) (Q : Option Addr → Nat → Nat → Int → Int → PT) (X1 : ByteArray → Option Addr → Nat → Nat → Int → PT) (k : Nat) : Fr → PT := (fun ρ => atS (ρ 0) fun s_0 => atL (ρ 5) fun out_5 out_5n out_5c => atI .i64 (ρ 6) fun at_6 => atI .i64 (ρ 7) fun k_7 => atI .i64 (ρ 8) fun end_8 => (ref05_Tokens.l77 Z Q X1 k s_0 out_5 out_5n out_5c at_6 k_7 end_8))
def ref05_Tokens.j85 (Z : List PanicEntry → PT) (Q : Option Addr → Nat → Nat → Int → Int → PT) (X1 : ByteArray → Option Addr → Nat → Nat → Int → PT) : Fr → PT := (fun ρ => atS (ρ 0) fun s_0 => atL (ρ 5) fun out_5 out_5n out_5c => atI .i64 (ρ 6) fun at_6 => atI .i64 (ρ 7) fun k_7 => atI .i64 (ρ 8) fun end_8 => (exK fun k => ref05_Tokens.l77 Z Q X1 k s_0 out_5 out_5n out_5c at_6 k_7 end_8))
theorem ref05_Tokens.o86 (Z : List PanicEntry → PT) (Q : Option Addr → Nat → Nat → Int → Int → PT) (X1 : ByteArray → Option Addr → Nat → Nat → Int → PT) : Ok Tryd.prog Tryd.f45.ntmps Z ref05_Tokens.c73 (ref05_Tokens.q79 Z Q X1) (ref05_Tokens.j85 Z Q X1) := by
  rw [ref05_Tokens.q76]
  refine Ok.imp (ok_loop (J := ref05_Tokens.j84 Z Q X1) ?_ ?_) ?_
  · intro ρ w h
    obtain ⟨s_0, e0, h⟩ := atS_e h
    obtain ⟨out_5, out_5n, out_5c, e5, h⟩ := atL_e h
    obtain ⟨at_6, e6, h⟩ := atI_e h
    obtain ⟨k_7, e7, h⟩ := atI_e h
    obtain ⟨end_8, e8, h⟩ := atI_e h
    exact h
  · intro k
    refine Ok.imp (ref05_Tokens.s80_ok Z Q X1 (ref05_Tokens.l77 Z Q X1 k)) fun ρ w h => ?_
    obtain ⟨s_0, e0, h⟩ := atS_e h
    obtain ⟨out_5, out_5n, out_5c, e5, h⟩ := atL_e h
    obtain ⟨at_6, e6, h⟩ := atI_e h
    obtain ⟨k_7, e7, h⟩ := atI_e h
    obtain ⟨end_8, e8, h⟩ := atI_e h
    show (ref05_Tokens.j83 Z Q X1 (ref05_Tokens.l77 Z Q X1 k)) ρ w
    simp only [ref05_Tokens.j83]
    rw [e0]
    rw [e5]
    rw [e6]
    rw [e7]
    rw [e8]
    exact h
  · intro ρ w h
    obtain ⟨s_0, e0, h⟩ := atS_e h
    obtain ⟨out_5, out_5n, out_5c, e5, h⟩ := atL_e h
    obtain ⟨at_6, e6, h⟩ := atI_e h
    obtain ⟨k_7, e7, h⟩ := atI_e h
    obtain ⟨end_8, e8, h⟩ := atI_e h
    obtain ⟨k, h⟩ := h
    refine ⟨k, ?_⟩
    show (atS (ρ 0) fun s_0 => atL (ρ 5) fun out_5 out_5n out_5c => atI .i64 (ρ 6) fun at_6 => atI .i64 (ρ 7) fun k_7 => atI .i64 (ρ 8) fun end_8 => (ref05_Tokens.l77 Z Q X1 k s_0 out_5 out_5n out_5c at_6 k_7 end_8)) w
    rw [e0]
    rw [e5]
    rw [e6]
    rw [e7]
    rw [e8]
    exact h
theorem ref05_Tokens.o87 (Z : List PanicEntry → PT) (Q : Option Addr → Nat → Nat → Int → Int → PT) (X1 : ByteArray → Option Addr → Nat → Nat → Int → PT) : Ok Tryd.prog Tryd.f45.ntmps Z ref05_Tokens.c29 (ref05_Tokens.q78 Z Q X1) (ref05_Tokens.j85 Z Q X1) := by
  rw [ref05_Tokens.q74]; exact ok_block (ref05_Tokens.o86 Z Q X1)
theorem ref05_Tokens.o88 (Z : List PanicEntry → PT) (Q : Option Addr → Nat → Nat → Int → Int → PT) (X1 : ByteArray → Option Addr → Nat → Nat → Int → PT) : Ok Tryd.prog Tryd.f45.ntmps Z ref05_Tokens.c27 (ref05_Tokens.q49 Z Q X1) (ref05_Tokens.j85 Z Q X1) := by
  rw [ref05_Tokens.q31]; exact ok_seq (ref05_Tokens.o87 Z Q X1) (ref05_Tokens.o72 Z Q X1)
def ref05_Tokens.s89 (Z : List PanicEntry → PT) (Q : Option Addr → Nat → Nat → Int → Int → PT) (X1 : ByteArray → Option Addr → Nat → Nat → Int → PT) (s_0 : ByteArray) (out_5 : Option Addr) (out_5n out_5c : Nat) (at_6 : Int) : PT :=
  (ixT s_0 at_6 fun v60 => (cal Tryd.prog Z 69 [(Value.int .u8 ((v60.toNat : Nat) : Int))] (isI .i64 fun v61 => (exK fun k => ref05_Tokens.l77 Z Q X1 k s_0 out_5 out_5n out_5c at_6 v61 (IntKind.wrap .i64 (at_6 + 1))))))
theorem ref05_Tokens.s89_eq (Z : List PanicEntry → PT) (Q : Option Addr → Nat → Nat → Int → Int → PT) (X1 : ByteArray → Option Addr → Nat → Nat → Int → PT) (ρ : Fr) (s_0 : ByteArray) (out_5 : Option Addr) (out_5n out_5c : Nat) (at_6 : Int) : (comp Tryd.prog Z ref05_Tokens.c25 (thenK (comp Tryd.prog Z ref05_Tokens.c26 (thenK (ref05_Tokens.j85 Z Q X1) (ref05_Tokens.q49 Z Q X1))) (ref05_Tokens.q49 Z Q X1))) (puts ρ [(0, (Value.string s_0)), (5, (Value.slice out_5 out_5n out_5c)), (6, (Value.int .i64 at_6))]) = ref05_Tokens.s89 Z Q X1 s_0 out_5 out_5n out_5c at_6 := by kernel_rfl
def ref05_Tokens.j90 (Z : List PanicEntry → PT) (Q : Option Addr → Nat → Nat → Int → Int → PT) (X1 : ByteArray → Option Addr → Nat → Nat → Int → PT) : Fr → PT := (fun ρ => atS (ρ 0) fun s_0 => atL (ρ 5) fun out_5 out_5n out_5c => atI .i64 (ρ 6) fun at_6 => (ref05_Tokens.s89 Z Q X1 s_0 out_5 out_5n out_5c at_6))
theorem ref05_Tokens.s89_ok (Z : List PanicEntry → PT) (Q : Option Addr → Nat → Nat → Int → Int → PT) (X1 : ByteArray → Option Addr → Nat → Nat → Int → PT) : Ok Tryd.prog Tryd.f45.ntmps Z ref05_Tokens.c23 (ref05_Tokens.q49 Z Q X1) (ref05_Tokens.j90 Z Q X1) := by
  intro E he ρ w a hr h
  rw [ref05_Tokens.q28] at he ⊢
  obtain ⟨s_0, e0, h⟩ := atS_e h
  obtain ⟨out_5, out_5n, out_5c, e5, h⟩ := atL_e h
  obtain ⟨at_6, e6, h⟩ := atI_e h
  exact ok_at [(0, (Value.string s_0)), (5, (Value.slice out_5 out_5n out_5c)), (6, (Value.int .i64 at_6))] (ok_seq (okC ref05_Tokens.c25 _ (by kernel_rfl)) (ok_seq (okC ref05_Tokens.c26 _ (by kernel_rfl)) (ref05_Tokens.o88 Z Q X1))) (puts_cons e0 (puts_cons e5 (puts_cons e6 (fun p hp => puts_nil hp)))) (ref05_Tokens.s89_eq Z Q X1 ρ s_0 out_5 out_5n out_5c at_6) he hr h
theorem ref05_Tokens.o91 (Z : List PanicEntry → PT) (Q : Option Addr → Nat → Nat → Int → Int → PT) (X1 : ByteArray → Option Addr → Nat → Nat → Int → PT) : Ok Tryd.prog Tryd.f45.ntmps Z ref05_Tokens.c21 (ref05_Tokens.q48 Z Q X1) (ref05_Tokens.j90 Z Q X1) := by
  rw [ref05_Tokens.q24]; exact ok_block (ref05_Tokens.s89_ok Z Q X1)
def ref05_Tokens.s92 (Z : List PanicEntry → PT) (Q : Option Addr → Nat → Nat → Int → Int → PT) (X1 : ByteArray → Option Addr → Nat → Nat → Int → PT) (s_0 : ByteArray) (out_5 : Option Addr) (out_5n out_5c : Nat) (at_6 : Int) : PT :=
  (pif (decide (at_6 < ((s_0.size : Nat) : Int))) (ref05_Tokens.s89 Z Q X1 s_0 out_5 out_5n out_5c at_6) (ref05_Tokens.s10 Z Q out_5 out_5n out_5c))
theorem ref05_Tokens.s92_eq (Z : List PanicEntry → PT) (Q : Option Addr → Nat → Nat → Int → Int → PT) (X1 : ByteArray → Option Addr → Nat → Nat → Int → PT) (ρ : Fr) (s_0 : ByteArray) (out_5 : Option Addr) (out_5n out_5c : Nat) (at_6 : Int) : (comp Tryd.prog Z ref05_Tokens.c20 (thenK (ref05_Tokens.j90 Z Q X1) (ref05_Tokens.q48 Z Q X1))) (puts ρ [(0, (Value.string s_0)), (5, (Value.slice out_5 out_5n out_5c)), (6, (Value.int .i64 at_6))]) = ref05_Tokens.s92 Z Q X1 s_0 out_5 out_5n out_5c at_6 := by kernel_rfl
def ref05_Tokens.j93 (Z : List PanicEntry → PT) (Q : Option Addr → Nat → Nat → Int → Int → PT) (X1 : ByteArray → Option Addr → Nat → Nat → Int → PT) : Fr → PT := (fun ρ => atS (ρ 0) fun s_0 => atL (ρ 5) fun out_5 out_5n out_5c => atI .i64 (ρ 6) fun at_6 => (ref05_Tokens.s92 Z Q X1 s_0 out_5 out_5n out_5c at_6))
theorem ref05_Tokens.s92_ok (Z : List PanicEntry → PT) (Q : Option Addr → Nat → Nat → Int → Int → PT) (X1 : ByteArray → Option Addr → Nat → Nat → Int → PT) : Ok Tryd.prog Tryd.f45.ntmps Z ref05_Tokens.c15 (ref05_Tokens.q48 Z Q X1) (ref05_Tokens.j93 Z Q X1) := by
  intro E he ρ w a hr h
  rw [ref05_Tokens.q22] at he ⊢
  obtain ⟨s_0, e0, h⟩ := atS_e h
  obtain ⟨out_5, out_5n, out_5c, e5, h⟩ := atL_e h
  obtain ⟨at_6, e6, h⟩ := atI_e h
  exact ok_at [(0, (Value.string s_0)), (5, (Value.slice out_5 out_5n out_5c)), (6, (Value.int .i64 at_6))] (ok_seq (okC ref05_Tokens.c20 _ (by kernel_rfl)) (ref05_Tokens.o91 Z Q X1)) (puts_cons e0 (puts_cons e5 (puts_cons e6 (fun p hp => puts_nil hp)))) (ref05_Tokens.s92_eq Z Q X1 ρ s_0 out_5 out_5n out_5c at_6) he hr h
def ref05_Tokens.l17 (Z : List PanicEntry → PT) (Q : Option Addr → Nat → Nat → Int → Int → PT) : Nat → ByteArray → Option Addr → Nat → Nat → Int → PT
  | 0, _, _, _, _, _ => bad
  | k + 1, s_0, out_5, out_5n, out_5c, at_6 => (ref05_Tokens.s92 Z Q (ref05_Tokens.l17 Z Q k) s_0 out_5 out_5n out_5c at_6)
def ref05_Tokens.j94 (Z : List PanicEntry → PT) (Q : Option Addr → Nat → Nat → Int → Int → PT) (k : Nat) : Fr → PT := (fun ρ => atS (ρ 0) fun s_0 => atL (ρ 5) fun out_5 out_5n out_5c => atI .i64 (ρ 6) fun at_6 => (ref05_Tokens.l17 Z Q k s_0 out_5 out_5n out_5c at_6))
def ref05_Tokens.j95 (Z : List PanicEntry → PT) (Q : Option Addr → Nat → Nat → Int → Int → PT) : Fr → PT := (fun ρ => atS (ρ 0) fun s_0 => atL (ρ 5) fun out_5 out_5n out_5c => atI .i64 (ρ 6) fun at_6 => (exK fun k => ref05_Tokens.l17 Z Q k s_0 out_5 out_5n out_5c at_6))
theorem ref05_Tokens.o96 (Z : List PanicEntry → PT) (Q : Option Addr → Nat → Nat → Int → Int → PT) : Ok Tryd.prog Tryd.f45.ntmps Z ref05_Tokens.c13 (ref05_Tokens.q19 Z Q) (ref05_Tokens.j95 Z Q) := by
  rw [ref05_Tokens.q16]
  refine Ok.imp (ok_loop (J := ref05_Tokens.j94 Z Q) ?_ ?_) ?_
  · intro ρ w h
    obtain ⟨s_0, e0, h⟩ := atS_e h
    obtain ⟨out_5, out_5n, out_5c, e5, h⟩ := atL_e h
    obtain ⟨at_6, e6, h⟩ := atI_e h
    exact h
  · intro k
    refine Ok.imp (ref05_Tokens.s92_ok Z Q (ref05_Tokens.l17 Z Q k)) fun ρ w h => ?_
    obtain ⟨s_0, e0, h⟩ := atS_e h
    obtain ⟨out_5, out_5n, out_5c, e5, h⟩ := atL_e h
    obtain ⟨at_6, e6, h⟩ := atI_e h
    show (ref05_Tokens.j93 Z Q (ref05_Tokens.l17 Z Q k)) ρ w
    simp only [ref05_Tokens.j93]
    rw [e0]
    rw [e5]
    rw [e6]
    exact h
  · intro ρ w h
    obtain ⟨s_0, e0, h⟩ := atS_e h
    obtain ⟨out_5, out_5n, out_5c, e5, h⟩ := atL_e h
    obtain ⟨at_6, e6, h⟩ := atI_e h
    obtain ⟨k, h⟩ := h
    refine ⟨k, ?_⟩
    show (atS (ρ 0) fun s_0 => atL (ρ 5) fun out_5 out_5n out_5c => atI .i64 (ρ 6) fun at_6 => (ref05_Tokens.l17 Z Q k s_0 out_5 out_5n out_5c at_6)) w
    rw [e0]
    rw [e5]
    rw [e6]
    exact h
theorem ref05_Tokens.o97 (Z : List PanicEntry → PT) (Q : Option Addr → Nat → Nat → Int → Int → PT) : Ok Tryd.prog Tryd.f45.ntmps Z ref05_Tokens.c7 (ref05_Tokens.q18 Z Q) (ref05_Tokens.j95 Z Q) := by
  rw [ref05_Tokens.q14]; exact ok_block (ref05_Tokens.o96 Z Q)
theorem ref05_Tokens.o98 (Z : List PanicEntry → PT) (Q : Option Addr → Nat → Nat → Int → Int → PT) : Ok Tryd.prog Tryd.f45.ntmps Z ref05_Tokens.c5 (ref05_Tokens.q11 Z Q) (ref05_Tokens.j95 Z Q) := by
  rw [ref05_Tokens.q9]; exact ok_seq (ref05_Tokens.o97 Z Q) (ref05_Tokens.s10_ok Z Q)
def ref05_Tokens.s99 (Z : List PanicEntry → PT) (Q : Option Addr → Nat → Nat → Int → Int → PT) (s_0 : ByteArray) : PT :=
  (pif (decide (((s_0.size : Nat) : Int) > 4096)) (Q none 0 0 5 4096) (newC 79 [] fun v62 => (exK fun k => ref05_Tokens.l17 Z Q k s_0 (some v62) 0 0 0)))
theorem ref05_Tokens.s99_eq (Z : List PanicEntry → PT) (Q : Option Addr → Nat → Nat → Int → Int → PT) (ρ : Fr) (s_0 : ByteArray) : (comp Tryd.prog Z ref05_Tokens.c1 (thenK (comp Tryd.prog Z ref05_Tokens.c2 (thenK (comp Tryd.prog Z ref05_Tokens.c3 (thenK (comp Tryd.prog Z ref05_Tokens.c4 (thenK (ref05_Tokens.j95 Z Q) (ref05_Tokens.q11 Z Q))) (ref05_Tokens.q11 Z Q))) (ref05_Tokens.q11 Z Q))) (ref05_Tokens.q11 Z Q))) (puts ρ [(0, (Value.string s_0))]) = ref05_Tokens.s99 Z Q s_0 := by kernel_rfl
def ref05_Tokens.j100 (Z : List PanicEntry → PT) (Q : Option Addr → Nat → Nat → Int → Int → PT) : Fr → PT := (fun ρ => atS (ρ 0) fun s_0 => (ref05_Tokens.s99 Z Q s_0))
theorem ref05_Tokens.s99_ok (Z : List PanicEntry → PT) (Q : Option Addr → Nat → Nat → Int → Int → PT) : Ok Tryd.prog Tryd.f45.ntmps Z ref05_Tokens.body (ref05_Tokens.q11 Z Q) (ref05_Tokens.j100 Z Q) := by
  intro E he ρ w a hr h
  rw [ref05_Tokens.q6] at he ⊢
  obtain ⟨s_0, e0, h⟩ := atS_e h
  exact ok_at [(0, (Value.string s_0))] (ok_seq (okC ref05_Tokens.c1 _ (by kernel_rfl)) (ok_seq (okC ref05_Tokens.c2 _ (by kernel_rfl)) (ok_seq (okC ref05_Tokens.c3 _ (by kernel_rfl)) (ok_seq (okC ref05_Tokens.c4 _ (by kernel_rfl)) (ref05_Tokens.o98 Z Q))))) (puts_cons e0 (fun p hp => puts_nil hp)) (ref05_Tokens.s99_eq Z Q ρ s_0) he hr h
def ref05_Tokens.F (Z : List PanicEntry → PT) (Q : Option Addr → Nat → Nat → Int → Int → PT) (s_0 : ByteArray) : PT :=
  (ref05_Tokens.s99 Z Q s_0)
theorem ref05_Tokens.vc (Z : List PanicEntry → PT) (Q : Option Addr → Nat → Nat → Int → Int → PT) (s_0 : ByteArray) (w : World) (h : ref05_Tokens.F Z Q s_0 w) : Calls Tryd.prog 45 ⟨[(Value.string s_0)]⟩ w fun e w' => (∃ (r0 : Option Addr) (r0n r0c : Nat) (r1 : Int) (r2 : Int), e = .returned (.tuple #[.slice r0 r0n r0c, .int .i64 r1, .int .i64 r2]) ∧ Q r0 r0n r0c r1 r2 w') ∨ ∃ c, e = .panicked c ∧ Z c w' := by
  refine (calls_of_ok (args := [(Value.string s_0)]) (w := w) (rs := [.tmp 2, .tmp 3, .tmp 4]) (fn := Tryd.f45) (c := ref05_Tokens.body) Tryd.func45 (by kernel_rfl) (by kernel_rfl) (Nat.le_of_ble_eq_true (by kernel_rfl)) (ref05_Tokens.s99_ok Z Q) (h)).mono fun e w' hR => ?_
  cases e with
  | returned v =>
    obtain ⟨x, y, z, rfl, hR⟩ := at3_e hR
    obtain ⟨xa, xn, xc, rfl, hR⟩ := atL_e hR
    obtain ⟨ya, rfl, hR⟩ := atI_e hR
    obtain ⟨za, rfl, hR⟩ := atI_e hR
    exact .inl ⟨xa, xn, xc, ya, za, rfl, hR⟩
  | panicked c => exact .inr ⟨c, rfl, hR⟩
  | outgrown => exact hR.elim
theorem ref05_Tokens.vc0 (Q : Option Addr → Nat → Nat → Int → Int → PT) (s_0 : ByteArray) (w : World) (h : ref05_Tokens.F Z0 Q s_0 w) : Calls Tryd.prog 45 ⟨[(Value.string s_0)]⟩ w fun e w' => (∃ (r0 : Option Addr) (r0n r0c : Nat) (r1 : Int) (r2 : Int), e = .returned (.tuple #[.slice r0 r0n r0c, .int .i64 r1, .int .i64 r2]) ∧ Q r0 r0n r0c r1 r2 w') :=
  (ref05_Tokens.vc Z0 Q s_0 w h).mono fun _ _ hR => hR.elim id fun ⟨_, _, hz⟩ => hz.elim
theorem ref05_Tokens.cal {Z : List PanicEntry → PT} {Q : Option Addr → Nat → Nat → Int → Int → PT} {s_0 : ByteArray} {w : World} (h : ref05_Tokens.F Z Q s_0 w) : Go.Proofs.YtllgjjldnnmjkaaDoor.cal Tryd.prog Z 45 [(Value.string s_0)] (isT3 fun x y z => (isL fun r0 r0n r0c => (isI .i64 fun r1 => (isI .i64 fun r2 => Q r0 r0n r0c r1 r2) z) y) x) w := by
  refine (ref05_Tokens.vc Z Q s_0 w h).mono fun e w' hR => ?_
  rcases hR with ⟨r0, r0n, r0c, r1, r2, rfl, h⟩ | ⟨c, rfl, h⟩
  · show (isT3 fun x y z => (isL fun r0 r0n r0c => (isI .i64 fun r1 => (isI .i64 fun r2 => Q r0 r0n r0c r1 r2) z) y) x) (.tuple #[.slice r0 r0n r0c, .int .i64 r1, .int .i64 r2]) w'
    exact ⟨_, _, _, rfl, ⟨_, _, _, rfl, ⟨_, rfl, ⟨_, rfl, h⟩⟩⟩⟩
  · exact h

/-! ### milepost/milepostref05.Kind: function 69 -/
noncomputable def ref05_Kind.body : Code := bodyC Tryd.f69
noncomputable def ref05_Kind.c1 : Code := sq1 ref05_Kind.body
noncomputable def ref05_Kind.c2 : Code := sq1 (sq2 ref05_Kind.body)
noncomputable def ref05_Kind.c3 : Code := sq1 (sq2 (sq2 ref05_Kind.body))
noncomputable def ref05_Kind.c4 : Code := sq2 (sq2 (sq2 ref05_Kind.body))
theorem ref05_Kind.q5 : ref05_Kind.body = .seq ref05_Kind.c1 (.seq ref05_Kind.c2 (.seq ref05_Kind.c3 ref05_Kind.c4)) := by kernel_rfl
noncomputable def ref05_Kind.c6 : Code := sq1 ref05_Kind.c4
noncomputable def ref05_Kind.c7 : Code := sq2 ref05_Kind.c4
theorem ref05_Kind.q8 : ref05_Kind.c4 = .seq ref05_Kind.c6 ref05_Kind.c7 := by kernel_rfl
def ref05_Kind.s9 (Z : List PanicEntry → PT) (Q : Int → PT) (c_0 : Int) : PT :=
  (pif (c_0 == 46) (Q 3) (pif (c_0 == 47) (Q 4) (pif (c_0 == 45) (Q 5) (pif (c_0 == 10) (Q 7) (pif (c_0 == 35) (Q 9) (Q (-1)))))))
def ref05_Kind.q10 (Z : List PanicEntry → PT) (Q : Int → PT) : QF := bodyQ Tryd.prog [.tmp 2] (fun v => atI .i64 v fun va => Q va)
theorem ref05_Kind.s9_eq (Z : List PanicEntry → PT) (Q : Int → PT) (ρ : Fr) (c_0 : Int) : comp Tryd.prog Z ref05_Kind.c7 (ref05_Kind.q10 Z Q) (puts ρ [(0, (Value.int .u8 c_0))]) = ref05_Kind.s9 Z Q c_0 := by kernel_rfl
def ref05_Kind.j11 (Z : List PanicEntry → PT) (Q : Int → PT) : Fr → PT := (fun ρ => atI .u8 (ρ 0) fun c_0 => (ref05_Kind.s9 Z Q c_0))
theorem ref05_Kind.s9_ok (Z : List PanicEntry → PT) (Q : Int → PT) : Ok Tryd.prog Tryd.f69.ntmps Z ref05_Kind.c7 (ref05_Kind.q10 Z Q) (ref05_Kind.j11 Z Q) := by
  intro E he ρ w a hr h
  obtain ⟨c_0, e0, h⟩ := atI_e h
  exact ok_at [(0, (Value.int .u8 c_0))] (okC ref05_Kind.c7 (ref05_Kind.q10 Z Q) (by kernel_rfl)) (puts_cons e0 (fun p hp => puts_nil hp)) (ref05_Kind.s9_eq Z Q ρ c_0) he hr h
def ref05_Kind.s12 (Z : List PanicEntry → PT) (Q : Int → PT) (c_0 : Int) : PT :=
  (pif (decide (c_0 ≥ 48)) (pif (decide (c_0 ≤ 57)) (Q 2) (ref05_Kind.s9 Z Q c_0)) (ref05_Kind.s9 Z Q c_0))
theorem ref05_Kind.s12_eq (Z : List PanicEntry → PT) (Q : Int → PT) (ρ : Fr) (c_0 : Int) : (comp Tryd.prog Z ref05_Kind.c6 (thenK (ref05_Kind.j11 Z Q) (ref05_Kind.q10 Z Q))) (puts ρ [(0, (Value.int .u8 c_0))]) = ref05_Kind.s12 Z Q c_0 := by kernel_rfl
def ref05_Kind.j13 (Z : List PanicEntry → PT) (Q : Int → PT) : Fr → PT := (fun ρ => atI .u8 (ρ 0) fun c_0 => (ref05_Kind.s12 Z Q c_0))
theorem ref05_Kind.s12_ok (Z : List PanicEntry → PT) (Q : Int → PT) : Ok Tryd.prog Tryd.f69.ntmps Z ref05_Kind.c4 (ref05_Kind.q10 Z Q) (ref05_Kind.j13 Z Q) := by
  intro E he ρ w a hr h
  rw [ref05_Kind.q8] at he ⊢
  obtain ⟨c_0, e0, h⟩ := atI_e h
  exact ok_at [(0, (Value.int .u8 c_0))] (ok_seq (okC ref05_Kind.c6 _ (by kernel_rfl)) (ref05_Kind.s9_ok Z Q)) (puts_cons e0 (fun p hp => puts_nil hp)) (ref05_Kind.s12_eq Z Q ρ c_0) he hr h
def ref05_Kind.s14 (Z : List PanicEntry → PT) (Q : Int → PT) (c_0 : Int) : PT :=
  (pif (c_0 == 9) (Q 0) (pif (c_0 == 13) (Q 0) (pif (c_0 == 32) (Q 0) (pif (decide (c_0 ≥ 97)) (pif (decide (c_0 ≤ 122)) (Q 1) (ref05_Kind.s12 Z Q c_0)) (ref05_Kind.s12 Z Q c_0)))))
theorem ref05_Kind.s14_eq (Z : List PanicEntry → PT) (Q : Int → PT) (ρ : Fr) (c_0 : Int) : (comp Tryd.prog Z ref05_Kind.c1 (thenK (comp Tryd.prog Z ref05_Kind.c2 (thenK (comp Tryd.prog Z ref05_Kind.c3 (thenK (ref05_Kind.j13 Z Q) (ref05_Kind.q10 Z Q))) (ref05_Kind.q10 Z Q))) (ref05_Kind.q10 Z Q))) (puts ρ [(0, (Value.int .u8 c_0))]) = ref05_Kind.s14 Z Q c_0 := by kernel_rfl
def ref05_Kind.j15 (Z : List PanicEntry → PT) (Q : Int → PT) : Fr → PT := (fun ρ => atI .u8 (ρ 0) fun c_0 => (ref05_Kind.s14 Z Q c_0))
theorem ref05_Kind.s14_ok (Z : List PanicEntry → PT) (Q : Int → PT) : Ok Tryd.prog Tryd.f69.ntmps Z ref05_Kind.body (ref05_Kind.q10 Z Q) (ref05_Kind.j15 Z Q) := by
  intro E he ρ w a hr h
  rw [ref05_Kind.q5] at he ⊢
  obtain ⟨c_0, e0, h⟩ := atI_e h
  exact ok_at [(0, (Value.int .u8 c_0))] (ok_seq (okC ref05_Kind.c1 _ (by kernel_rfl)) (ok_seq (okC ref05_Kind.c2 _ (by kernel_rfl)) (ok_seq (okC ref05_Kind.c3 _ (by kernel_rfl)) (ref05_Kind.s12_ok Z Q)))) (puts_cons e0 (fun p hp => puts_nil hp)) (ref05_Kind.s14_eq Z Q ρ c_0) he hr h
def ref05_Kind.F (Z : List PanicEntry → PT) (Q : Int → PT) (c_0 : Int) : PT :=
  (ref05_Kind.s14 Z Q c_0)
theorem ref05_Kind.vc (Z : List PanicEntry → PT) (Q : Int → PT) (c_0 : Int) (w : World) (h : ref05_Kind.F Z Q c_0 w) : Calls Tryd.prog 69 ⟨[(Value.int .u8 c_0)]⟩ w fun e w' => (∃ (r0 : Int), e = .returned (.int .i64 r0) ∧ Q r0 w') ∨ ∃ c, e = .panicked c ∧ Z c w' := by
  refine (calls_of_ok (args := [(Value.int .u8 c_0)]) (w := w) (rs := [.tmp 2]) (fn := Tryd.f69) (c := ref05_Kind.body) Tryd.func69 (by kernel_rfl) (by kernel_rfl) (Nat.le_of_ble_eq_true (by kernel_rfl)) (ref05_Kind.s14_ok Z Q) (h)).mono fun e w' hR => ?_
  cases e with
  | returned v =>
    obtain ⟨va, rfl, hR⟩ := atI_e hR
    exact .inl ⟨va, rfl, hR⟩
  | panicked c => exact .inr ⟨c, rfl, hR⟩
  | outgrown => exact hR.elim
theorem ref05_Kind.vc0 (Q : Int → PT) (c_0 : Int) (w : World) (h : ref05_Kind.F Z0 Q c_0 w) : Calls Tryd.prog 69 ⟨[(Value.int .u8 c_0)]⟩ w fun e w' => (∃ (r0 : Int), e = .returned (.int .i64 r0) ∧ Q r0 w') :=
  (ref05_Kind.vc Z0 Q c_0 w h).mono fun _ _ hR => hR.elim id fun ⟨_, _, hz⟩ => hz.elim
theorem ref05_Kind.cal {Z : List PanicEntry → PT} {Q : Int → PT} {c_0 : Int} {w : World} (h : ref05_Kind.F Z Q c_0 w) : Go.Proofs.YtllgjjldnnmjkaaDoor.cal Tryd.prog Z 69 [(Value.int .u8 c_0)] (isI .i64 fun r0 => Q r0) w := by
  refine (ref05_Kind.vc Z Q c_0 w h).mono fun e w' hR => ?_
  rcases hR with ⟨r0, rfl, h⟩ | ⟨c, rfl, h⟩
  · show (isI .i64 fun r0 => Q r0) (.int .i64 r0) w'
    exact ⟨_, rfl, h⟩
  · exact h

/-! ### milepost/milepostref05.value: function 70 -/
noncomputable def ref05_value.body : Code := bodyC Tryd.f70
noncomputable def ref05_value.c1 : Code := sq1 ref05_value.body
noncomputable def ref05_value.c2 : Code := sq1 (sq2 ref05_value.body)
noncomputable def ref05_value.c3 : Code := sq2 (sq2 ref05_value.body)
theorem ref05_value.q4 : ref05_value.body = .seq ref05_value.c1 (.seq ref05_value.c2 ref05_value.c3) := by kernel_rfl
noncomputable def ref05_value.c5 : Code := sq1 ref05_value.c3
noncomputable def ref05_value.c6 : Code := sq2 ref05_value.c3
theorem ref05_value.q7 : ref05_value.c3 = .seq ref05_value.c5 ref05_value.c6 := by kernel_rfl
def ref05_value.s8 (Z : List PanicEntry → PT) (Q : Int → PT) (s_0 : ByteArray) (n_3 : Int) : PT :=
  (pif (decide (((s_0.size : Nat) : Int) > 1)) (ixT s_0 0 fun v3 => (pif (((v3.toNat : Nat) : Int) == 48) (Q (-1)) (Q n_3))) (Q n_3))
def ref05_value.q9 (Z : List PanicEntry → PT) (Q : Int → PT) : QF := bodyQ Tryd.prog [.tmp 2] (fun v => atI .i64 v fun va => Q va)
theorem ref05_value.s8_eq (Z : List PanicEntry → PT) (Q : Int → PT) (ρ : Fr) (s_0 : ByteArray) (n_3 : Int) : comp Tryd.prog Z ref05_value.c6 (ref05_value.q9 Z Q) (puts ρ [(0, (Value.string s_0)), (3, (Value.int .i64 n_3))]) = ref05_value.s8 Z Q s_0 n_3 := by kernel_rfl
def ref05_value.j10 (Z : List PanicEntry → PT) (Q : Int → PT) : Fr → PT := (fun ρ => atS (ρ 0) fun s_0 => atI .i64 (ρ 3) fun n_3 => (ref05_value.s8 Z Q s_0 n_3))
theorem ref05_value.s8_ok (Z : List PanicEntry → PT) (Q : Int → PT) : Ok Tryd.prog Tryd.f70.ntmps Z ref05_value.c6 (ref05_value.q9 Z Q) (ref05_value.j10 Z Q) := by
  intro E he ρ w a hr h
  obtain ⟨s_0, e0, h⟩ := atS_e h
  obtain ⟨n_3, e3, h⟩ := atI_e h
  exact ok_at [(0, (Value.string s_0)), (3, (Value.int .i64 n_3))] (okC ref05_value.c6 (ref05_value.q9 Z Q) (by kernel_rfl)) (puts_cons e0 (puts_cons e3 (fun p hp => puts_nil hp))) (ref05_value.s8_eq Z Q ρ s_0 n_3) he hr h
noncomputable def ref05_value.c11 : Code := sq1 ref05_value.c5
noncomputable def ref05_value.c12 : Code := sq2 ref05_value.c5
theorem ref05_value.q13 : ref05_value.c5 = .seq ref05_value.c11 ref05_value.c12 := by kernel_rfl
noncomputable def ref05_value.c14 : Code := blk ref05_value.c12
theorem ref05_value.q15 : ref05_value.c12 = .block 0 ref05_value.c14 := by kernel_rfl
noncomputable def ref05_value.c16 : Code := lop ref05_value.c14
theorem ref05_value.q17 : ref05_value.c14 = .loop ref05_value.c16 := by kernel_rfl
def ref05_value.q19 (Z : List PanicEntry → PT) (Q : Int → PT) : QF := thenK (ref05_value.j10 Z Q) (ref05_value.q9 Z Q)
def ref05_value.q20 (Z : List PanicEntry → PT) (Q : Int → PT) : QF := inBl 0 (ref05_value.q19 Z Q)
def ref05_value.s21 (Z : List PanicEntry → PT) (Q : Int → PT) (X1 : ByteArray → Int → Int → PT) (s_0 : ByteArray) (n_3 : Int) (i_4 : Int) : PT :=
  (pif (decide (i_4 < ((s_0.size : Nat) : Int))) (ixT s_0 i_4 fun v7 => (pif (decide ((IntKind.wrap .i64 ((IntKind.wrap .i64 ((IntKind.wrap .i64 (n_3 * 10)) + (IntKind.wrap .i64 ((v7.toNat : Nat) : Int)))) - 48)) > 4294967295)) (Q (-1)) (X1 s_0 (IntKind.wrap .i64 ((IntKind.wrap .i64 ((IntKind.wrap .i64 (n_3 * 10)) + (IntKind.wrap .i64 ((v7.toNat : Nat) : Int)))) - 48)) (IntKind.wrap .i64 (i_4 + 1))))) (ref05_value.s8 Z Q s_0 n_3))
def ref05_value.j22 (Z : List PanicEntry → PT) (Q : Int → PT) (X1 : ByteArray → Int → Int → PT) : Fr → PT := (fun ρ => atS (ρ 0) fun s_0 => atI .i64 (ρ 3) fun n_3 => atI .i64 (ρ 4) fun i_4 => (X1 s_0 n_3 i_4))
def ref05_value.q23 (Z : List PanicEntry → PT) (Q : Int → PT) (X1 : ByteArray → Int → Int → PT) : QF := thenK (ref05_value.j22 Z Q X1) (ref05_value.q20 Z Q)
theorem ref05_value.s21_eq (Z : List PanicEntry → PT) (Q : Int → PT) (X1 : ByteArray → Int → Int → PT) (ρ : Fr) (s_0 : ByteArray) (n_3 : Int) (i_4 : Int) : comp Tryd.prog Z ref05_value.c16 (ref05_value.q23 Z Q X1) (puts ρ [(0, (Value.string s_0)), (3, (Value.int .i64 n_3)), (4, (Value.int .i64 i_4))]) = ref05_value.s21 Z Q X1 s_0 n_3 i_4 := by kernel_rfl
def ref05_value.j24 (Z : List PanicEntry → PT) (Q : Int → PT) (X1 : ByteArray → Int → Int → PT) : Fr → PT := (fun ρ => atS (ρ 0) fun s_0 => atI .i64 (ρ 3) fun n_3 => atI .i64 (ρ 4) fun i_4 => (ref05_value.s21 Z Q X1 s_0 n_3 i_4))
theorem ref05_value.s21_ok (Z : List PanicEntry → PT) (Q : Int → PT) (X1 : ByteArray → Int → Int → PT) : Ok Tryd.prog Tryd.f70.ntmps Z ref05_value.c16 (ref05_value.q23 Z Q X1) (ref05_value.j24 Z Q X1) := by
  intro E he ρ w a hr h
  obtain ⟨s_0, e0, h⟩ := atS_e h
  obtain ⟨n_3, e3, h⟩ := atI_e h
  obtain ⟨i_4, e4, h⟩ := atI_e h
  exact ok_at [(0, (Value.string s_0)), (3, (Value.int .i64 n_3)), (4, (Value.int .i64 i_4))] (okC ref05_value.c16 (ref05_value.q23 Z Q X1) (by kernel_rfl)) (puts_cons e0 (puts_cons e3 (puts_cons e4 (fun p hp => puts_nil hp)))) (ref05_value.s21_eq Z Q X1 ρ s_0 n_3 i_4) he hr h
def ref05_value.l18 (Z : List PanicEntry → PT) (Q : Int → PT) : Nat → ByteArray → Int → Int → PT
  | 0, _, _, _ => bad
  | k + 1, s_0, n_3, i_4 => (ref05_value.s21 Z Q (ref05_value.l18 Z Q k) s_0 n_3 i_4)
def ref05_value.j25 (Z : List PanicEntry → PT) (Q : Int → PT) (k : Nat) : Fr → PT := (fun ρ => atS (ρ 0) fun s_0 => atI .i64 (ρ 3) fun n_3 => atI .i64 (ρ 4) fun i_4 => (ref05_value.l18 Z Q k s_0 n_3 i_4))
def ref05_value.j26 (Z : List PanicEntry → PT) (Q : Int → PT) : Fr → PT := (fun ρ => atS (ρ 0) fun s_0 => atI .i64 (ρ 3) fun n_3 => atI .i64 (ρ 4) fun i_4 => (exK fun k => ref05_value.l18 Z Q k s_0 n_3 i_4))
theorem ref05_value.o27 (Z : List PanicEntry → PT) (Q : Int → PT) : Ok Tryd.prog Tryd.f70.ntmps Z ref05_value.c14 (ref05_value.q20 Z Q) (ref05_value.j26 Z Q) := by
  rw [ref05_value.q17]
  refine Ok.imp (ok_loop (J := ref05_value.j25 Z Q) ?_ ?_) ?_
  · intro ρ w h
    obtain ⟨s_0, e0, h⟩ := atS_e h
    obtain ⟨n_3, e3, h⟩ := atI_e h
    obtain ⟨i_4, e4, h⟩ := atI_e h
    exact h
  · intro k
    refine Ok.imp (ref05_value.s21_ok Z Q (ref05_value.l18 Z Q k)) fun ρ w h => ?_
    obtain ⟨s_0, e0, h⟩ := atS_e h
    obtain ⟨n_3, e3, h⟩ := atI_e h
    obtain ⟨i_4, e4, h⟩ := atI_e h
    show (ref05_value.j24 Z Q (ref05_value.l18 Z Q k)) ρ w
    simp only [ref05_value.j24]
    rw [e0]
    rw [e3]
    rw [e4]
    exact h
  · intro ρ w h
    obtain ⟨s_0, e0, h⟩ := atS_e h
    obtain ⟨n_3, e3, h⟩ := atI_e h
    obtain ⟨i_4, e4, h⟩ := atI_e h
    obtain ⟨k, h⟩ := h
    refine ⟨k, ?_⟩
    show (atS (ρ 0) fun s_0 => atI .i64 (ρ 3) fun n_3 => atI .i64 (ρ 4) fun i_4 => (ref05_value.l18 Z Q k s_0 n_3 i_4)) w
    rw [e0]
    rw [e3]
    rw [e4]
    exact h
theorem ref05_value.o28 (Z : List PanicEntry → PT) (Q : Int → PT) : Ok Tryd.prog Tryd.f70.ntmps Z ref05_value.c12 (ref05_value.q19 Z Q) (ref05_value.j26 Z Q) := by
  rw [ref05_value.q15]; exact ok_block (ref05_value.o27 Z Q)
def ref05_value.s29 (Z : List PanicEntry → PT) (Q : Int → PT) (s_0 : ByteArray) (n_3 : Int) : PT :=
  (exK fun k => ref05_value.l18 Z Q k s_0 n_3 0)
theorem ref05_value.s29_eq (Z : List PanicEntry → PT) (Q : Int → PT) (ρ : Fr) (s_0 : ByteArray) (n_3 : Int) : (comp Tryd.prog Z ref05_value.c11 (thenK (ref05_value.j26 Z Q) (ref05_value.q19 Z Q))) (puts ρ [(0, (Value.string s_0)), (3, (Value.int .i64 n_3))]) = ref05_value.s29 Z Q s_0 n_3 := by kernel_rfl
def ref05_value.j30 (Z : List PanicEntry → PT) (Q : Int → PT) : Fr → PT := (fun ρ => atS (ρ 0) fun s_0 => atI .i64 (ρ 3) fun n_3 => (ref05_value.s29 Z Q s_0 n_3))
theorem ref05_value.s29_ok (Z : List PanicEntry → PT) (Q : Int → PT) : Ok Tryd.prog Tryd.f70.ntmps Z ref05_value.c5 (ref05_value.q19 Z Q) (ref05_value.j30 Z Q) := by
  intro E he ρ w a hr h
  rw [ref05_value.q13] at he ⊢
  obtain ⟨s_0, e0, h⟩ := atS_e h
  obtain ⟨n_3, e3, h⟩ := atI_e h
  exact ok_at [(0, (Value.string s_0)), (3, (Value.int .i64 n_3))] (ok_seq (okC ref05_value.c11 _ (by kernel_rfl)) (ref05_value.o28 Z Q)) (puts_cons e0 (puts_cons e3 (fun p hp => puts_nil hp))) (ref05_value.s29_eq Z Q ρ s_0 n_3) he hr h
theorem ref05_value.o31 (Z : List PanicEntry → PT) (Q : Int → PT) : Ok Tryd.prog Tryd.f70.ntmps Z ref05_value.c3 (ref05_value.q9 Z Q) (ref05_value.j30 Z Q) := by
  rw [ref05_value.q7]; exact ok_seq (ref05_value.s29_ok Z Q) (ref05_value.s8_ok Z Q)
def ref05_value.s32 (Z : List PanicEntry → PT) (Q : Int → PT) (s_0 : ByteArray) : PT :=
  (ref05_value.s29 Z Q s_0 0)
theorem ref05_value.s32_eq (Z : List PanicEntry → PT) (Q : Int → PT) (ρ : Fr) (s_0 : ByteArray) : (comp Tryd.prog Z ref05_value.c1 (thenK (comp Tryd.prog Z ref05_value.c2 (thenK (ref05_value.j30 Z Q) (ref05_value.q9 Z Q))) (ref05_value.q9 Z Q))) (puts ρ [(0, (Value.string s_0))]) = ref05_value.s32 Z Q s_0 := by kernel_rfl
def ref05_value.j33 (Z : List PanicEntry → PT) (Q : Int → PT) : Fr → PT := (fun ρ => atS (ρ 0) fun s_0 => (ref05_value.s32 Z Q s_0))
theorem ref05_value.s32_ok (Z : List PanicEntry → PT) (Q : Int → PT) : Ok Tryd.prog Tryd.f70.ntmps Z ref05_value.body (ref05_value.q9 Z Q) (ref05_value.j33 Z Q) := by
  intro E he ρ w a hr h
  rw [ref05_value.q4] at he ⊢
  obtain ⟨s_0, e0, h⟩ := atS_e h
  exact ok_at [(0, (Value.string s_0))] (ok_seq (okC ref05_value.c1 _ (by kernel_rfl)) (ok_seq (okC ref05_value.c2 _ (by kernel_rfl)) (ref05_value.o31 Z Q))) (puts_cons e0 (fun p hp => puts_nil hp)) (ref05_value.s32_eq Z Q ρ s_0) he hr h
def ref05_value.F (Z : List PanicEntry → PT) (Q : Int → PT) (s_0 : ByteArray) : PT :=
  (ref05_value.s32 Z Q s_0)
theorem ref05_value.vc (Z : List PanicEntry → PT) (Q : Int → PT) (s_0 : ByteArray) (w : World) (h : ref05_value.F Z Q s_0 w) : Calls Tryd.prog 70 ⟨[(Value.string s_0)]⟩ w fun e w' => (∃ (r0 : Int), e = .returned (.int .i64 r0) ∧ Q r0 w') ∨ ∃ c, e = .panicked c ∧ Z c w' := by
  refine (calls_of_ok (args := [(Value.string s_0)]) (w := w) (rs := [.tmp 2]) (fn := Tryd.f70) (c := ref05_value.body) Tryd.func70 (by kernel_rfl) (by kernel_rfl) (Nat.le_of_ble_eq_true (by kernel_rfl)) (ref05_value.s32_ok Z Q) (h)).mono fun e w' hR => ?_
  cases e with
  | returned v =>
    obtain ⟨va, rfl, hR⟩ := atI_e hR
    exact .inl ⟨va, rfl, hR⟩
  | panicked c => exact .inr ⟨c, rfl, hR⟩
  | outgrown => exact hR.elim
theorem ref05_value.vc0 (Q : Int → PT) (s_0 : ByteArray) (w : World) (h : ref05_value.F Z0 Q s_0 w) : Calls Tryd.prog 70 ⟨[(Value.string s_0)]⟩ w fun e w' => (∃ (r0 : Int), e = .returned (.int .i64 r0) ∧ Q r0 w') :=
  (ref05_value.vc Z0 Q s_0 w h).mono fun _ _ hR => hR.elim id fun ⟨_, _, hz⟩ => hz.elim
theorem ref05_value.cal {Z : List PanicEntry → PT} {Q : Int → PT} {s_0 : ByteArray} {w : World} (h : ref05_value.F Z Q s_0 w) : Go.Proofs.YtllgjjldnnmjkaaDoor.cal Tryd.prog Z 70 [(Value.string s_0)] (isI .i64 fun r0 => Q r0) w := by
  refine (ref05_value.vc Z Q s_0 w h).mono fun e w' hR => ?_
  rcases hR with ⟨r0, rfl, h⟩ | ⟨c, rfl, h⟩
  · show (isI .i64 fun r0 => Q r0) (.int .i64 r0) w'
    exact ⟨_, rfl, h⟩
  · exact h

end Go.Proofs.YtllgjjldnnmjkaaDoor
