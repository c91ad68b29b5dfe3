/-
  The chapter's examples; equality of headers; what the laws' calls give. No condition.
-/
import Derived.Test.YtchhffabpgebmaaDoorText2
import Derived.Test.YtchhffabpgebmaaDoorCodeLaw
set_option linter.unusedVariables false
set_option linter.unusedSimpArgs false
namespace Go.Proofs.YtchhffabpgebmaaDoor
open Go.RowKit Extern.Stop
theorem eqG : Tryd.prog.eqGuardType Tryd.prog.depth 26 = false := by kernel_rfl
theorem arrH : Tryd.prog.underlying 26 = some (.array 13 5) := Tryd.underlying26
theorem szU (w : World) : (sizeOf 5).run Tryd.prog w = .ok 1 w := by kernel_rfl
theorem guardH {w : World} {op : BinOp} {x y : Operand} {a b : List Value} : (eqGuard op 26 x y (.agg ⟨a⟩) (.agg ⟨b⟩)).run Tryd.prog w = .ok () w := by
  unfold eqGuard
  simp only [Sem.run_bind, run_program, Result.andThen_ok, eqG]
  split <;> simp
section
variable {Z : List PanicEntry → PT} {w : World} {a b : List UInt8}
theorem eqlH {K : Bool → PT} {x y : Operand} (ha : a.length = 13) (hb' : b.length = 13) (hk : K (a == b) w) : runB Tryd.prog (do eqGuard .eql 26 x y (.agg ⟨encH a⟩) (.agg ⟨encH b⟩); binOp .eql 26 (.agg ⟨encH a⟩) (.agg ⟨encH b⟩)) K w := by
  refine ⟨a == b, w, ?_, hk⟩
  simp only [Sem.run_bind, guardH, Result.andThen_ok]
  exact run_eql_bytes w _ _ 13 arrH Tryd.underlying5 szU a b ha hb'
theorem neqH {K : Bool → PT} {x y : Operand} (ha : a.length = 13) (hb' : b.length = 13) (hk : K (a != b) w) : runB Tryd.prog (do eqGuard .neq 26 x y (.agg ⟨encH a⟩) (.agg ⟨encH b⟩); binOp .neq 26 (.agg ⟨encH a⟩) (.agg ⟨encH b⟩)) K w := by
  refine ⟨a != b, w, ?_, hk⟩
  simp only [Sem.run_bind, guardH, Result.andThen_ok]
  have e : (Op.equalIn 10000 26 (.agg ⟨encH a⟩) (.agg ⟨encH b⟩)).run Tryd.prog w = .ok (a == b) w := run_equalIn_bytes (P := Tryd.prog) w 9998 _ _ 13 arrH Tryd.underlying5 szU a b ha hb'
  rw [run_neq_struct, e]
  rfl
def hA : List UInt8 := [10, 0, 0, 1, 1, 2, 3, 4, 0, 80, 0, 53, 17]
theorem makeA : makeS (vals5 167772161 16909060 80 53 17) 5 = hA := by kernel_rfl
theorem textA : textL hA = [49, 48, 46, 48, 46, 48, 46, 49, 58, 56, 48, 62, 49, 46, 50, 46, 51, 46, 52, 58, 53, 51, 47, 49, 55] := by
  have d : ∀ n, n < 10 → dec n = [UInt8.ofNat (48 + n)] := fun n hn => by unfold dec Lib.decDigits; rw [dif_pos hn]
  have d2 : ∀ n, 10 ≤ n → n < 100 → dec n = [UInt8.ofNat (48 + n / 10), UInt8.ofNat (48 + n % 10)] := fun n h1 h2 => by
    have := d (n / 10) (by omega)
    unfold dec at this ⊢
    unfold Lib.decDigits
    rw [dif_neg (by omega), this]
    rfl
  have p0 : portV hA 0 = 80 := by kernel_rfl
  have p1 : portV hA 1 = 53 := by kernel_rfl
  unfold textL
  simp only [pre, sepN, tailK, p0, p1]
  simp only [show hb hA 0 = 10 from rfl, show hb hA 1 = 0 from rfl, show hb hA 2 = 0 from rfl, show hb hA 3 = 1 from rfl, show hb hA 4 = 1 from rfl, show hb hA 5 = 2 from rfl, show hb hA 6 = 3 from rfl, show hb hA 7 = 4 from rfl, show hb hA 12 = 17 from rfl]
  rw [d2 10 (by decide) (by decide), d2 80 (by decide) (by decide), d2 53 (by decide) (by decide), d2 17 (by decide) (by decide), d 0 (by decide), d 1 (by decide), d 2 (by decide), d 3 (by decide), d 4 (by decide)]
  rfl
theorem awake_F {Q : Bool → PT} (hv : Places w) (hp : Pow10 w) (hq : ∀ w', Ext w w' → Q true w') : law01_awake.F Z Q w := by
  unfold law01_awake.F
  refine make_cal (a := 167772161) (b := 16909060) (c := 80) (d := 53) (e := 17) hv (by decide) fun w1 k1 => ?_
  rw [makeA]
  have hl : hA.length = 13 := rfl
  refine ((Sep.start (fun _ => False) w).ext k1).new fun w2 b2 h2 k2 => ?_
  refine h2.stN 0 rfl (by decide) (len13 hl) (encH_one _) (lay_all13 rfl (len13 hl)) fun w3 h3 k3 => ?_
  refine h3.ldN 0 rfl (sub13 hl) (len13 hl) ?_
  refine with_cal (f := 4) (v := 256) (hv.ext h3.kept) hl (by decide) fun w4 k4 => ?_
  have hw : withI hA 4 256 = (h0, 10) := rfl
  rw [hw]
  have h4 := h3.ext k4
  refine h4.new fun w5 b5 h5 k5 => ?_
  refine h5.stN 0 rfl (by decide) rfl (encH_one _) (lay_all13 rfl rfl) fun w6 h6 k6 => ?_
  refine h6.ldN 1 rfl (sub13 hl) (len13 hl) ?_
  refine text_cal (hv.ext h6.kept) (hp.ext h6.kept) hl fun w7 k7 => ?_
  have h7 := h6.ext k7
  rw [strOf_toList, textA]
  have et : (([49, 48, 46, 48, 46, 48, 46, 49, 58, 56, 48, 62, 49, 46, 50, 46, 51, 46, 52, 58, 53, 51, 47, 49, 55] : List UInt8) == (⟨#[49, 48, 46, 48, 46, 48, 46, 49, 58, 56, 48, 62, 49, 46, 50, 46, 51, 46, 52, 58, 53, 51, 47, 49, 55]⟩ : ByteArray).toList) = true := by rw [ByteArray.toList_eq]; decide
  rw [et, pif_true, pif_beq, if_pos rfl]
  refine h7.ldN 1 rfl (sub13 hl) (len13 hl) (bit_cal hl fun w8 k8 => ?_)
  have h8 := h7.ext k8
  rw [show bitI hA 4 = true from rfl, pif_true]
  refine h8.ldN 1 rfl (sub13 hl) (len13 hl) (bit_cal hl fun w9 k9 => ?_)
  rw [show bitI hA 5 = false from rfl]
  exact hq w9 (h8.ext k9).kept
theorem awake_cal {K : Bool → PT} (hv : Places w) (hp : Pow10 w) (hq : ∀ w', Ext w w' → K true w') : cal Tryd.prog Z 9 [] (isB fun v => K v) w := law01_awake.cal (awake_F hv hp hq)
end
/-- A header that came in. -/
theorem hd_of {W : World} {v : Value} (h : Arg W 26 v) : ∃ g : List UInt8, v = .agg ⟨encH g⟩ ∧ g.length = 13 := by
  obtain ⟨cs, rfl, fuel, ht⟩ := h.arr Tryd.underlying26
  cases fuel with
  | zero => exact ht.elim
  | succ f =>
    unfold Typ at ht
    rw [Tryd.underlying26] at ht
    obtain ⟨hl, ha⟩ := ht
    have c1 : Tryd.prog.cellsOf 26 = 13 := by kernel_rfl
    have c2 : Tryd.prog.cellsOf 5 = 1 := by kernel_rfl
    rw [c1] at hl
    rw [c2] at ha
    have key : ∀ n (l : List Value), l.length = n → (∀ i, i < n → Typ Tryd.prog W f 5 ((l.drop (i * 1)).take 1)) → ∃ g : List UInt8, l = encH g ∧ g.length = n := by
      intro n
      induction n with
      | zero => intro l hl _; exact ⟨[], by rw [List.eq_nil_of_length_eq_zero hl]; rfl, rfl⟩
      | succ n ih =>
        intro l hl ha
        cases l with
        | nil => simp at hl
        | cons x l =>
          obtain ⟨g, e1, e2⟩ := ih l (by simpa using hl) fun i hi => by
            have := ha (i + 1) (by omega)
            simpa [Nat.add_mul] using this
          obtain ⟨m, e3, e4, e5⟩ := Typ.int Tryd.underlying5 (ha 0 (by omega))
          simp at e3
          subst e3
          have e4 : 0 ≤ m := e4
          have e5 : m ≤ 255 := e5
          refine ⟨UInt8.ofNat m.toNat :: g, ?_, by simp [e2]⟩
          rw [e1]
          simp only [encH, List.map_cons, cell, UInt8.toNat_ofNat']
          congr 2
          show m = ((m.toNat % 256 : Nat) : Int)
          omega
    obtain ⟨g, e1, e2⟩ := key 13 _ hl ha
    exact ⟨g, by rw [← e1], e2⟩
theorem glb_of {W : World} {l : List (String × DataW Unit)} (h : laidMet Tryd.prog l W) (h1 : ("milepost/head.places", pairData placesL) ∈ l) (h2 : ("internal/strconv.uint64pow10", (Lib.tabData .u64 Lib.pow10Tab : DataW Unit)) ∈ l) : Places W ∧ Pow10 W :=
  ⟨varIs_pairs h h1 (by kernel_rfl) (t := 52) (e := 51) (i := 3) (m := 5) (by kernel_rfl) (by kernel_rfl) Tryd.underlying51 Tryd.underlying3 ⟨rfl, rfl, rfl, rfl⟩ (by kernel_rfl) (by kernel_rfl) (by kernel_rfl),
   varIs_tab h h2 (by kernel_rfl) (t := 70) (e := 55) (m := 20) (by kernel_rfl) (by kernel_rfl) Tryd.underlying55 (by kernel_rfl) (by kernel_rfl)⟩
end Go.Proofs.YtchhffabpgebmaaDoor
