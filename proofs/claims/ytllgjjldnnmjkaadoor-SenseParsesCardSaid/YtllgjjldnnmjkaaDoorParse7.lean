/-
  The parser whole: its code comes to 'parseS': a fault that is thrown is caught by the deferred closure. No condition.
-/
import Derived.Test.YtllgjjldnnmjkaaDoorParse6
import Derived.Test.YtllgjjldnnmjkaaDoorLex
import Derived.Test.YtllgjjldnnmjkaaDoorCodeDefer
set_option linter.unusedVariables false
set_option linter.unusedSimpArgs false
set_option maxRecDepth 100000
namespace Go.Proofs.YtllgjjldnnmjkaaDoor
open Go.RowKit

/-! ### The closure -/
theorem clo_body : Tryd.f37.body = some parse_Parse_c1.body := by kernel_rfl
noncomputable def cloR : Code := sq1 parse_Parse_c1.body
noncomputable def cloC : Code := sq2 parse_Parse_c1.body
noncomputable def cloO : List Oper := match cloR with | .region _ ops _ => ops.toList.drop 1 | _ => []
noncomputable def clo0 : Oper := opAt cloR 0
theorem clo_shape : parse_Parse_c1.body = .seq (.region 0 ⟨clo0 :: cloO⟩ false) cloC := by kernel_rfl
theorem clo_eq (X : PT) (a b c : Addr) (rv : Value) : cops Tryd.prog Z0 (clo0 :: cloO) cloO (comp Tryd.prog Z0 cloC (endQ X)) (put (fr0 [.pointer (some a), .pointer (some b), .pointer (some c)]) 6 rv) =
    runT2 Tryd.prog (Instr.typeAssert rv 20 73 true) fun x y => (isN fun v => (isB fun ok => newC 73 [.int .i64 0, .int .i64 0] fun f => stN 2 f v (pif ok (st1 a (.slice none 0 0) (ldI .i64 (f.add 0) fun e => st1 b (.int .i64 e) (ldI .i64 (f.add 1) fun p => st1 c (.int .i64 p) X))) X)) y) x := by kernel_rfl
theorem clo_D {X : PT} {a b c : Addr} {u : FrameMode} {w : World} (h : runT2 Tryd.prog (Instr.typeAssert (recV u) 20 73 true) (fun x y => (isN fun v => (isB fun ok => newC 73 [.int .i64 0, .int .i64 0] fun f => stN 2 f v (pif ok (st1 a (.slice none 0 0) (ldI .i64 (f.add 0) fun e => st1 b (.int .i64 e) (ldI .i64 (f.add 1) fun p => st1 c (.int .i64 p) X))) X)) y) x) w) :
    CallsD Tryd.prog 37 ⟨[.pointer (some a), .pointer (some b), .pointer (some c)]⟩ u w fun e u' w' => e = .returned (.tuple #[]) ∧ u' = recU u ∧ X w' :=
  callsD_closure (Z := Z0) hNames hEls hMix (d0 := 6) Tryd.func37 (clo_body.trans (congrArg some clo_shape)) (by kernel_rfl) (by kernel_rfl) (by kernel_rfl) (by kernel_rfl) (Nat.le_of_ble_eq_true (by kernel_rfl)) (by kernel_rfl) (by kernel_rfl) (by rw [clo_eq]; exact h)
theorem assert_nil (w : World) : (Instr.typeAssert .nilIface 20 73 true).run Tryd.prog w = .ok (.tuple #[.agg ⟨[.int .i64 0, .int .i64 0]⟩, .bool false]) w := by
  kernel_rfl
theorem assert_fault (e p : Int) (w : World) : (Instr.typeAssert (.iface 73 (.agg ⟨[.int .i64 e, .int .i64 p]⟩)) 20 73 true).run Tryd.prog w = .ok (.tuple #[.agg ⟨[.int .i64 e, .int .i64 p]⟩, .bool true]) w := by
  kernel_rfl

/-! ### The end -/
def parseRs : List ResultVar := [.cell 2 29, .cell 3 24, .cell 4 3]
theorem ret_eq (ρ : Fr) (a b c : Addr) (R : Value → PT) : retV Tryd.prog parseRs (puts ρ [(2, .pointer (some a)), (3, .pointer (some b)), (4, .pointer (some c))]) R = ldL a fun x n m => ldI .i64 b fun e => ldI .i64 c fun p => R (.tuple #[.slice x n m, .int .i64 e, .int .i64 p]) := by kernel_rfl
/-- What is asked of the call's result. -/
def ParseR (Q : Option Addr → Nat → Nat → Int → Int → PT) : Value → PT := isT3 fun x y z => (isL fun r0 r0n r0c => (isI .i64 fun r1 => (isI .i64 fun r2 => Q r0 r0n r0c r1 r2) z) y) x
section
variable {Q : Option Addr → Nat → Nat → Int → Int → PT} {Z : List PanicEntry → PT} {w : World} {ρ : Fr} {ab bb cb : Nat} {s3 : Sl3} {e0 p0 : Int} {v0 : Value}
abbrev clo (ab bb cb : Nat) : List Value := [.pointer (some ⟨ab, 0, none⟩), .pointer (some ⟨bb, 0, none⟩), .pointer (some ⟨cb, 0, none⟩)]
theorem fix3 (e2 : ρ 2 = .pointer (some ⟨ab, 0, none⟩)) (e3 : ρ 3 = .pointer (some ⟨bb, 0, none⟩)) (e4 : ρ 4 = .pointer (some ⟨cb, 0, none⟩)) : puts ρ [(2, .pointer (some ⟨ab, 0, none⟩)), (3, .pointer (some ⟨bb, 0, none⟩)), (4, .pointer (some ⟨cb, 0, none⟩))] = ρ :=
  puts_same (puts_cons e2 (puts_cons e3 (puts_cons e4 fun p hp => puts_nil hp)))
theorem end_ok (e2 : ρ 2 = .pointer (some ⟨ab, 0, none⟩)) (e3 : ρ 3 = .pointer (some ⟨bb, 0, none⟩)) (e4 : ρ 4 = .pointer (some ⟨cb, 0, none⟩))
    (h1 : IsB w ab [.slice s3.a s3.n s3.c]) (h2 : IsB w bb [.int .i64 e0]) (h3 : IsB w cb [.int .i64 p0]) (hq : ∀ w', Ext w w' → Q s3.a s3.n s3.c e0 p0 w') : endD Tryd.prog 37 (clo ab bb cb) parseRs ρ Z (ParseR Q) .returning w := by
  refine (clo_D (X := fun w' => Ext w w') (u := .returning) (w := w) ?_).mono fun e u' w' ⟨he, hu, hx⟩ => ?_
  · refine ⟨_, _, w, assert_nil w, _, rfl, _, rfl, ?_⟩
    refine newC_B fun w1 b1 k1 s1 => ?_
    refine stN_B b1 (by simp) rfl (by simp [Value.oneCell']) fun w2 b2 k2 => ?_
    exact k1.trans_new k2 fun q hq' g => by omega
  · subst he hu
    show retV _ _ _ _ w'
    rw [← fix3 e2 e3 e4, ret_eq]
    refine ldL_of ((h1.ext hx).cell 0) (ldI_of ((h2.ext hx).cell 0) (ldI_of ((h3.ext hx).cell 0) ?_))
    exact ⟨_, _, _, rfl, _, _, _, rfl, _, rfl, _, rfl, hq w' hx⟩
theorem end_no (e2 : ρ 2 = .pointer (some ⟨ab, 0, none⟩)) (e3 : ρ 3 = .pointer (some ⟨bb, 0, none⟩)) (e4 : ρ 4 = .pointer (some ⟨cb, 0, none⟩)) {x y z : Value} {e p : Int}
    (h1 : IsB w ab [x]) (h2 : IsB w bb [y]) (h3 : IsB w cb [z]) (hn : ab ≠ bb ∧ ab ≠ cb ∧ bb ≠ cb) (hq : ∀ w', Keep (fun k => k = ab ∨ k = bb ∨ k = cb) w w' → Q none 0 0 e p w') : endD Tryd.prog 37 (clo ab bb cb) parseRs ρ Z (ParseR Q) (.panicking (faultV e p)) w := by
  refine (clo_D (X := fun w' => IsB w' ab [.slice none 0 0] ∧ IsB w' bb [.int .i64 e] ∧ IsB w' cb [.int .i64 p] ∧ Keep (fun k => k = ab ∨ k = bb ∨ k = cb) w w') (u := .panicking (faultV e p)) (w := w) ?_).mono fun e' u' w' ⟨he, hu, hx⟩ => ?_
  · refine ⟨_, _, w, assert_fault e p w, _, rfl, _, rfl, ?_⟩
    refine newC_B fun w1 b1 k1 s1 => ?_
    refine stN_B b1 (by simp) rfl (by simp [Value.oneCell']) fun w2 b2 k2 => ?_
    have l1 := h1.lt; have l2 := h2.lt; have l3 := h3.lt
    replace b2 : IsB w2 w.heap.size [.int .i64 e, .int .i64 p] := by simpa [lay] using b2
    have k02 : Ext w w2 := k1.trans_new k2 fun q hq' g => by omega
    rw [pif_true]
    refine st1_B (h1.ext k02) (by simp) rfl fun w3 b3 k3 => ?_
    rw [add_mk]
    refine ldI_B (b2.keep k3 (by omega)) rfl ?_
    refine st1_B ((h2.ext k02).keep k3 (by omega)) (by simp) rfl fun w4 b4 k4 => ?_
    rw [add_mk]
    refine ldI_B ((b2.keep k3 (by omega)).keep k4 (by omega)) rfl ?_
    refine st1_B (((h3.ext k02).keep k3 (by omega)).keep k4 (by omega)) (by simp) rfl fun w5 b5 k5 => ?_
    exact ⟨(b3.keep k4 (by omega)).keep k5 (by omega), b4.keep k5 (by omega), b5, k02.ext.trans ((k3.mono fun q _ g => .inl g).trans ((k4.mono fun q _ g => .inr (.inl g)).trans (k5.mono fun q _ g => .inr (.inr g))))⟩
  · subst he hu
    obtain ⟨g1, g2, g3, g4⟩ := hx
    show retV _ _ _ _ w'
    rw [← fix3 e2 e3 e4, ret_eq]
    refine ldL_of (g1.cell 0) (ldI_of (g2.cell 0) (ldI_of (g3.cell 0) ?_))
    exact ⟨_, _, _, rfl, _, _, _, rfl, _, rfl, _, rfl, hq w' g4⟩
end
end Go.Proofs.YtllgjjldnnmjkaaDoor
