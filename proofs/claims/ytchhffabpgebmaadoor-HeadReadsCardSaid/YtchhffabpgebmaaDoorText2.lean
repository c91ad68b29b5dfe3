/-
  A header's text: both programs' come to 'textL'. No condition.
-/
import Derived.Test.YtchhffabpgebmaaDoorText1
import Derived.Test.YtchhffabpgebmaaDoorHead3
set_option linter.unusedVariables false
set_option linter.unusedSimpArgs false
namespace Go.Proofs.YtchhffabpgebmaaDoor
open Go.RowKit Extern.Stop
abbrev gPow : Nat := 1
abbrev Pow10 (w : World) : Prop := VarIs gPow (Lib.pow10Tab.map fun z => Value.int .u64 z) w
theorem pow_tab {w : World} (h : Pow10 w) : Lib.TabIs Tryd.prog w "internal/strconv.uint64pow10" .u64 Lib.pow10Tab := VarIs.tab (by kernel_rfl) h
def sepN (k : Nat) : UInt8 := if k = 3 ∨ k = 7 then 58 else 46
def portV (h : List UInt8) (j : Nat) : Nat := fieldS h (8 * qF (2 + j)) (8 * mF (2 + j))
def tailK (h : List UInt8) (k : Nat) : List UInt8 := if k = 3 then dec (portV h 0) ++ [62] else if k = 7 then dec (portV h 1) ++ [47] else []
def pre (h : List UInt8) : Nat → List UInt8
  | 0 => []
  | k + 1 => pre h k ++ dec (hb h k) ++ [sepN k] ++ tailK h k
def textL (h : List UInt8) : List UInt8 := pre h 8 ++ dec (hb h 12)
def sepsT : ByteArray := ⟨#[46, 46, 46, 58, 46, 46, 46, 58]⟩
theorem seps0 : Utf8.decode sepsT 0 = ((sepN 0).toNat, 1) := by kernel_rfl
theorem seps1 : Utf8.decode sepsT 1 = ((sepN 1).toNat, 1) := by kernel_rfl
theorem seps2 : Utf8.decode sepsT 2 = ((sepN 2).toNat, 1) := by kernel_rfl
theorem seps3 : Utf8.decode sepsT 3 = ((sepN 3).toNat, 1) := by kernel_rfl
theorem seps4 : Utf8.decode sepsT 4 = ((sepN 4).toNat, 1) := by kernel_rfl
theorem seps5 : Utf8.decode sepsT 5 = ((sepN 5).toNat, 1) := by kernel_rfl
theorem seps6 : Utf8.decode sepsT 6 = ((sepN 6).toNat, 1) := by kernel_rfl
theorem seps7 : Utf8.decode sepsT 7 = ((sepN 7).toNat, 1) := by kernel_rfl
theorem seps_dec {k : Nat} (h : k < 8) : Utf8.decode sepsT k = ((sepN k).toNat, 1) := by
  match k, h with
  | 0, _ => exact seps0
  | 1, _ => exact seps1
  | 2, _ => exact seps2
  | 3, _ => exact seps3
  | 4, _ => exact seps4
  | 5, _ => exact seps5
  | 6, _ => exact seps6
  | 7, _ => exact seps7
theorem dec_hb (h : List UInt8) (i : Nat) : (dec (hb h i)).length ≤ 3 := dec_len (k := 2) (Nat.lt_trans (hb_lt h i) (by decide))
theorem portV_lt {h : List UInt8} {j : Nat} (hj : j < 2) : portV h j < 65536 := by
  have := field_lt h (8 * qF (2 + j)) (8 * mF (2 + j))
  unfold portV
  match j, hj with
  | 0, _ => exact this
  | 1, _ => exact this
theorem dec_port {h : List UInt8} {j : Nat} (hj : j < 2) : (dec (portV h j)).length ≤ 5 := dec_len (k := 4) (Nat.lt_trans (portV_lt hj) (by decide))
theorem tail_len (h : List UInt8) (k : Nat) : (tailK h k).length ≤ 6 := by
  have a0 := dec_port (h := h) (j := 0) (by decide)
  have a1 := dec_port (h := h) (j := 1) (by decide)
  unfold tailK
  split
  · simp only [List.length_append, List.length_cons, List.length_nil]; omega
  · split
    · simp only [List.length_append, List.length_cons, List.length_nil]; omega
    · simp
theorem pre_len (h : List UInt8) : ∀ k, (pre h k).length ≤ 10 * k
  | 0 => by simp [pre]
  | k + 1 => by
    have := pre_len h k
    have := dec_hb h k
    have := tail_len h k
    simp only [pre, List.length_append, List.length_cons, List.length_nil]
    omega
section
variable {Z : List PanicEntry → PT} {w : World} {h : List UInt8}
theorem text_cal {K : ByteArray → PT} (hv : Places w) (hp : Pow10 w) (hl : h.length = 13) (hk : ∀ w', Ext w w' → K (strOf (textL h)) w') : cal Tryd.prog Z 24 [.agg ⟨encH h⟩] (isS fun v => K v) w := by
  refine head_Text.cal ?_
  unfold head_Text.F head_Text.s50
  refine (Sep.start (fun _ => False) w).new fun w1 b1' h1 k1 => ?_
  unfold head_Text.s47
  refine h1.range fun w2 rb h2 => ?_
  have h3 := h2.add Keep.refl (f := fU none 0 0 []) Lst.nil fun k ⟨p, hp, _⟩ => by cases hp
  have hB1 : b1' < w2.heap.size := h2.lt (n := 1) rfl (rfl : b1' = b1')
  have hB2 : rb < w2.heap.size := h2.lt (n := 0) rfl (rfl : rb = rb)
  have hB0 : w.heap.size ≤ w2.heap.size := h2.kept.size
  obtain ⟨B, hBe⟩ : ∃ B, B = w2.heap.size := ⟨_, rfl⟩
  rw [← hBe] at hB0 hB1 hB2
  have loop : ∀ (m k : Nat) (a : Option Addr) (n c : Nat) (w3 : World), k + m = 8 → B ≤ w3.heap.size → (∀ q, inB a q → B ≤ q) → Sep (fun _ => False) w w3 [fU a n c (pre h k), fI rb sepsT k, fB b1' (encH h)] → head_Text.l18 Z K (m + 1) ⟨b1', 0, none⟩ a n c (some ⟨rb, 0, none⟩) w3 := by
    intro m
    induction m with
    | zero =>
      intro k a n c w3 hkm hBw hB h3
      have : k = 8 := by omega
      subst this
      unfold head_Text.l18 head_Text.s41
      refine h3.nextE 1 rfl (Nat.le_refl _) ?_
      unfold head_Text.s8
      refine cnd_of (by decide) ?_
      simp only [add_mk, Nat.zero_add]
      refine h3.ldI 2 rfl (encH_at (i := 12) (by omega)) ?_
      rw [wrapU64, Nat.mod_eq_of_lt (Nat.lt_trans (hb_lt h 12) (by decide))]
      refine h3.appU 0 B rfl hB ?_ hB0 hBw (by have := pre_len h 8; omega) (Nat.lt_trans (hb_lt h 12) (by decide)) (pow_tab (hp.ext h3.kept)) fun a' c' w4 h4 hB' hs4 => ?_
      · intro i f hi hf q hq
        match i, hi, hf with
        | 1, _, hf => cases hf; have hq : q = rb := hq; omega
        | 2, _, hf => cases hf; have hq : q = b1' := hq; omega
      · exact conv_U (h4.at (n := 0) rfl) (hk w4 h4.kept)
    | succ m ih =>
      intro k a n c w3 hkm hBw hB h3
      unfold head_Text.l18 head_Text.s41
      refine h3.nextI 1 rfl (show k < 8 by omega) (seps_dec (by omega)) fun w4 h4 hs4 => ?_
      unfold head_Text.s38
      refine cnd_of ⟨by omega, by omega⟩ ?_
      simp only [add_mk, Nat.zero_add, Int.toNat_natCast, Nat.mul_one]
      refine h4.ldI 2 rfl (encH_at (by omega)) ?_
      rw [wrapU64, Nat.mod_eq_of_lt (Nat.lt_trans (hb_lt h k) (by decide))]
      have pl := pre_len h k
      have dl := dec_hb h k
      have ow : ∀ {l : List UInt8} {a : Option Addr} {n c : Nat}, ∀ i f, i ≠ 0 → ([fU a n c l, fI rb sepsT (k + 1), fB b1' (encH h)] : List Fct)[i]? = some f → ∀ q, f.fp q → q < B := by
        intro l a n c i f hi hf q hq
        match i, hi, hf with
        | 1, _, hf => cases hf; have hq : q = rb := hq; omega
        | 2, _, hf => cases hf; have hq : q = b1' := hq; omega
      refine h4.appU 0 B rfl hB ow hB0 (by omega) (by omega) (Nat.lt_trans (hb_lt h k) (by decide)) (pow_tab (hp.ext h4.kept)) fun a' c' w5 h5 hB5 hs5 => ?_
      refine h5.appB 0 rfl (x := sepN k) (by rw [wrapU8, Nat.mod_eq_of_lt (UInt8.toNat_lt _)]; rfl) (by simp; omega) fun a6 c6 w6 h6 hB6 hs6 => ?_
      have hB6' : ∀ q, inB a6 q → B ≤ q := fun q hq => (hB6 q hq).elim (hB5 q) fun g => by omega
      have fin : ∀ (a7 : Option Addr) (n7 c7 : Nat) (w7 : World), B ≤ w7.heap.size → (∀ q, inB a7 q → B ≤ q) → Sep (fun _ => False) w w7 [fU a7 n7 c7 (pre h (k + 1)), fI rb sepsT (k + 1), fB b1' (encH h)] → head_Text.l18 Z K (m + 1) ⟨b1', 0, none⟩ a7 n7 c7 (some ⟨rb, 0, none⟩) w7 := fun a7 n7 c7 w7 hs7 hB7 h7 => ih (k + 1) a7 n7 c7 w7 (by omega) hs7 hB7 h7
      have no : (k = 3 ∨ k = 7) → False ∨ True := fun _ => .inr trivial
      have yes : ∀ j, j < 2 → k / 4 = j → tailK h k = dec (portV h j) ++ [if j = 0 then 62 else 47] → head_Text.s33 Z K (head_Text.l18 Z K (m + 1)) ⟨b1', 0, none⟩ a6 ((pre h k ++ dec (hb h k)).length + 1) c6 (k : Int) (some ⟨rb, 0, none⟩) true w6 := fun j hj hkj ht => by
        unfold head_Text.s33
        rw [pif_true]
        refine h6.ldN 2 rfl (sub13 hl) (len13 hl) (cnd_of (by decide) ?_)
        have e1 : IntKind.wrap .i64 (Int.tdiv (k : Int) 4) = (j : Int) := by rw [show (4 : Int) = ((4 : Nat) : Int) from rfl, tdivN, wrap_nat (by omega), hkj]
        rw [e1, show IntKind.wrap .i64 ((2 : Int) + (j : Int)) = ((2 + j : Nat) : Int) by rw [wrap_in (by omega) (by omega)]; omega]
        refine field_cal (hv.ext h6.kept) hl fun w7 k7 => ?_
        have h7 := h6.ext k7
        have hfi : (fieldI h ((2 + j : Nat) : Int)).1 = portV h j := by unfold fieldI; rw [fldI_nat (by omega)]; rfl
        rw [hfi, wrapU64, Nat.mod_eq_of_lt (Nat.lt_trans (portV_lt hj) (by decide))]
        have hs7 := k7.size
        refine h7.appU 0 B rfl hB6' ow hB0 (by omega) (by simp; omega) (Nat.lt_trans (portV_lt hj) (by decide)) (pow_tab (hp.ext h7.kept)) fun a8 c8 w8 h8 hB8 hs8 => ?_
        refine cnd_of (by decide) ?_
        have hdp := dec_port (h := h) hj
        have byt : ∃ b : UInt8, (⟨#[62, 47]⟩ : ByteArray)[((j : Int)).toNat]? = some b ∧ b = if j = 0 then 62 else 47 := by
          rw [Int.toNat_natCast]
          match j, hj with
          | 0, _ => exact ⟨62, rfl, rfl⟩
          | 1, _ => exact ⟨47, rfl, rfl⟩
        obtain ⟨b, hb1, hb2⟩ := byt
        refine ⟨by omega, b, hb1, ?_⟩
        refine h8.appB 0 rfl (x := b) rfl (by simp; omega) fun a9 c9 w9 h9 hB9 hs9 => ?_
        refine fin a9 _ c9 w9 (by omega) (fun q hq => (hB9 q hq).elim (hB8 q) fun g => by omega) ?_
        have : pre h (k + 1) = pre h k ++ dec (hb h k) ++ [sepN k] ++ dec (portV h j) ++ [b] := by
          rw [pre, ht, hb2]; simp
        rw [this]
        exact h9
      rw [pif_beq]
      split
      · rename_i hk3
        have : k = 3 := by omega
        exact yes 0 (by decide) (by omega) (by unfold tailK; rw [if_pos this]; rfl)
      · rename_i hk3
        by_cases h7 : k = 7
        · rw [show ((k : Int) == 7) = true by rw [h7]; rfl]
          exact yes 1 (by decide) (by omega) (by unfold tailK; rw [if_neg (by omega), if_pos h7]; rfl)
        · rw [show ((k : Int) == 7) = false by rw [beq_eq_false_iff_ne]; omega]
          unfold head_Text.s33
          rw [pif_false]
          refine fin a6 _ c6 w6 (by omega) hB6' ?_
          have : pre h (k + 1) = pre h k ++ dec (hb h k) ++ [sepN k] := by
            rw [pre]; unfold tailK; rw [if_neg (by omega), if_neg h7]; simp
          rw [this]
          exact h6
  exact exK_of 9 (loop 8 0 none 0 0 w2 (by omega) (by omega) (fun q ⟨p, hp, _⟩ => by cases hp) h3)
/-! ### The document's -/
theorem digits_cal {Z : List PanicEntry → PT} {K : ByteArray → PT} : ∀ (n : Nat) (w : World) (K : ByteArray → PT), n < 4294967296 → (∀ w', Ext w w' → K (strOf (dec n)) w') → cal Tryd.prog Z 32 [.int .u32 (n : Int)] (isS fun v => K v) w := by
  intro n
  induction n using Nat.strongRecOn with
  | ind n ih =>
    intro w K hn hk
    refine ref01_Digits.cal ?_
    unfold ref01_Digits.F
    refine cnd_of (by decide) ?_
    have eb : IntKind.wrap .u8 (IntKind.wrap .u32 ((48 : Int) + Int.tmod (n : Int) 10)) = ((UInt8.ofNat (48 + n % 10)).toNat : Int) := by
      rw [show (10 : Int) = ((10 : Nat) : Int) from rfl, tmodN, show (48 : Int) + ((n % 10 : Nat) : Int) = ((48 + n % 10 : Nat) : Int) by omega, wrapU32, Nat.mod_eq_of_lt (by omega), wrapU8]
      simp
    rw [eb]
    refine newC_E fun w1 hb1 k1 s1 => ?_
    have hone : Lst w1 5 1 b1 (some ⟨w.heap.size, 0, none⟩) 1 1 [UInt8.ofNat (48 + n % 10)] := Lst.one hb1 rfl
    refine conv_U hone ?_
    unfold dec Lib.decDigits at hk
    rw [pif_dec]
    split
    · rename_i h10
      rw [dif_pos (by omega)] at hk
      have := hk w1 k1
      rw [show 48 + n % 10 = 48 + n by omega]
      exact this
    · rename_i h10
      rw [dif_neg (by omega)] at hk
      refine cnd_of (by decide) ?_
      rw [show IntKind.wrap .u32 (Int.tdiv (n : Int) 10) = ((n / 10 : Nat) : Int) by rw [show (10 : Int) = ((10 : Nat) : Int) from rfl, tdivN, wrapU32, Nat.mod_eq_of_lt (by omega)]]
      refine ih (n / 10) (by omega) w1 _ (by omega) fun w2 k2 => ?_
      have := dec_len (k := 9) (n := n / 10) (by omega)
      refine cnd_of (by rw [strOf_size, strOf_size, byte_max]; simp; omega) ?_
      rw [strOf_app]
      exact hk w2 (k1.trans k2)
def addrL (v : Nat) : List UInt8 := dec (v / 16777216) ++ [46] ++ dec (v / 65536 % 256) ++ [46] ++ dec (v / 256 % 256) ++ [46] ++ dec (v % 256)
theorem and255 (x : Nat) (h : x < 4294967296) : IntKind.wrap .u32 ((BitVec.ofInt (IntKind.bits .u32) (x : Int) &&& BitVec.ofInt (IntKind.bits .u32) 255).toNat : Nat) = ((x % 256 : Nat) : Int) := by
  rw [BitVec.toNat_and, ofN32 h, show BitVec.ofInt (IntKind.bits .u32) 255 = BitVec.ofInt (IntKind.bits .u32) ((255 : Nat) : Int) from rfl, ofN32 (by decide), wrapU32]
  have := Nat.and_two_pow_sub_one_eq_mod x 8
  rw [show (255 : Nat) = 2 ^ 8 - 1 from rfl, this, show (2 : Nat) ^ 8 = 256 from rfl, Nat.mod_eq_of_lt (show x % 256 < 4294967296 by omega)]
theorem addr_cal {K : ByteArray → PT} {v : Nat} (hv : v < 4294967296) (hk : ∀ w', Ext w w' → K (strOf (addrL v)) w') : cal Tryd.prog Z 31 [.int .u32 (v : Int)] (isS fun v => K v) w := by
  refine ref01_address.cal ?_
  unfold ref01_address.F
  have l1 := dec_len (k := 9) (n := v / 16777216) (by omega)
  have l2 := dec_len (k := 9) (n := v / 65536 % 256) (by omega)
  have l3 := dec_len (k := 9) (n := v / 256 % 256) (by omega)
  have l4 := dec_len (k := 9) (n := v % 256) (by omega)
  have dot : (⟨#[46]⟩ : ByteArray) = strOf [46] := rfl
  rw [show Int.fdiv (v : Int) (2 ^ (min (24 : Int).toNat (IntKind.bits .u32))) = ((v / 16777216 : Nat) : Int) from fdivN v 16777216,
    show Int.fdiv (v : Int) (2 ^ (min (16 : Int).toNat (IntKind.bits .u32))) = ((v / 65536 : Nat) : Int) from fdivN v 65536,
    show Int.fdiv (v : Int) (2 ^ (min (8 : Int).toNat (IntKind.bits .u32))) = ((v / 256 : Nat) : Int) from fdivN v 256,
    and255 _ (by omega), and255 _ (by omega), and255 _ hv, dot]
  refine cnd_of (by decide) (digits_cal (K := K) _ w _ (by omega) fun w1 k1 => ?_)
  refine cnd_of (by simp only [strOf_app, strOf_size, List.length_append, List.length_cons, List.length_nil, byte_max]; omega) (cnd_of (by decide) (digits_cal (K := K) _ w1 _ (by omega) fun w2 k2 => ?_))
  refine cnd_of (by simp only [strOf_app, strOf_size, List.length_append, List.length_cons, List.length_nil, byte_max]; omega) (cnd_of (by simp only [strOf_app, strOf_size, List.length_append, List.length_cons, List.length_nil, byte_max]; omega) (cnd_of (by decide) (digits_cal (K := K) _ w2 _ (by omega) fun w3 k3 => ?_)))
  refine cnd_of (by simp only [strOf_app, strOf_size, List.length_append, List.length_cons, List.length_nil, byte_max]; omega) (cnd_of (by simp only [strOf_app, strOf_size, List.length_append, List.length_cons, List.length_nil, byte_max]; omega) (digits_cal (K := K) _ w3 _ (by omega) fun w4 k4 => ?_))
  refine cnd_of (by simp only [strOf_app, strOf_size, List.length_append, List.length_cons, List.length_nil, byte_max]; omega) ?_
  simp only [strOf_app]
  exact hk w4 (((k1.trans k2).trans k3).trans k4)
theorem addr_len {v : Nat} (hv : v < 4294967296) : (addrL v).length ≤ 43 := by
  have l1 := dec_len (k := 9) (n := v / 16777216) (by omega)
  have l2 := dec_len (k := 9) (n := v / 65536 % 256) (by omega)
  have l3 := dec_len (k := 9) (n := v / 256 % 256) (by omega)
  have l4 := dec_len (k := 9) (n := v % 256) (by omega)
  unfold addrL
  simp only [List.length_append, List.length_cons, List.length_nil]
  omega
def fN' (h : List UInt8) (n : Nat) : Nat := fieldS h (8 * qF n) (8 * mF n)
theorem fN_lt (h : List UInt8) (n : Nat) : fN' h n < 4294967296 := by
  have := field_lt h (8 * qF n) (8 * mF n)
  have : 2 ^ (8 * mF n) ≤ 2 ^ 32 := Nat.pow_le_pow_right (by decide) (by have := mF_le n; omega)
  unfold fN'
  omega
theorem text_parts (h : List UInt8) : textL h = addrL (fN' h 0) ++ [58] ++ dec (fN' h 2) ++ [62] ++ addrL (fN' h 1) ++ [58] ++ dec (fN' h 3) ++ [47] ++ dec (fN' h 4) := by
  have b := hb_lt h
  have f0 : fN' h 0 = ((hb h 0 * 256 + hb h 1) * 256 + hb h 2) * 256 + hb h 3 := by
    unfold fN'; rw [field_bytes]; simp [bytesS, qF, mF]
  have f1 : fN' h 1 = ((hb h 4 * 256 + hb h 5) * 256 + hb h 6) * 256 + hb h 7 := by
    unfold fN'; rw [field_bytes]; simp [bytesS, qF, mF]
  have f4 : fN' h 4 = hb h 12 := by
    unfold fN'; rw [field_bytes]; simp [bytesS, qF, mF]
  have b0 := b 0; have b1 := b 1; have b2 := b 2; have b3 := b 3; have b4 := b 4; have b5 := b 5; have b6 := b 6; have b7 := b 7
  have ad : ∀ x y z t : Nat, x < 256 → y < 256 → z < 256 → t < 256 → addrL (((x * 256 + y) * 256 + z) * 256 + t) = dec x ++ [46] ++ dec y ++ [46] ++ dec z ++ [46] ++ dec t := fun x y z t hx hy hz ht => by
    unfold addrL
    rw [show (((x * 256 + y) * 256 + z) * 256 + t) / 16777216 = x by omega, show (((x * 256 + y) * 256 + z) * 256 + t) / 65536 % 256 = y by omega, show (((x * 256 + y) * 256 + z) * 256 + t) / 256 % 256 = z by omega, show (((x * 256 + y) * 256 + z) * 256 + t) % 256 = t by omega]
  rw [f0, f1, f4, ad _ _ _ _ b0 b1 b2 b3, ad _ _ _ _ b4 b5 b6 b7]
  unfold textL
  simp only [pre, sepN, tailK, portV, fN']
  simp
theorem text2_cal {K : ByteArray → PT} (hl : h.length = 13) (hk : ∀ w', Ext w w' → K (strOf (textL h)) w') : cal Tryd.prog Z 26 [.agg ⟨encH h⟩] (isS fun v => K v) w := by
  refine ref01_Text.cal ?_
  unfold ref01_Text.F
  refine (Sep.start (fun _ => False) w).new fun w1 b1 h1 k1 => ?_
  have fe : ∀ n : Nat, n < 5 → (fieldI h (n : Int)).1 = fN' h n := fun n hn => by unfold fieldI; rw [fldI_nat hn]; rfl
  refine h1.ldN 0 rfl (sub13 hl) (len13 hl) (field2_cal (f := ((0 : Nat) : Int)) hl fun w2 k2 => ?_)
  have h2 := h1.ext k2
  refine h2.ldN 0 rfl (sub13 hl) (len13 hl) (field2_cal (f := ((1 : Nat) : Int)) hl fun w3 k3 => ?_)
  have h3 := h2.ext k3
  refine h3.ldN 0 rfl (sub13 hl) (len13 hl) (field2_cal (f := ((2 : Nat) : Int)) hl fun w4 k4 => ?_)
  have h4 := h3.ext k4
  refine h4.ldN 0 rfl (sub13 hl) (len13 hl) (field2_cal (f := ((3 : Nat) : Int)) hl fun w5 k5 => ?_)
  have h5 := h4.ext k5
  refine h5.ldN 0 rfl (sub13 hl) (len13 hl) (field2_cal (f := ((4 : Nat) : Int)) hl fun w6 k6 => ?_)
  have h6 := h5.ext k6
  rw [fe 0 (by decide), fe 1 (by decide), fe 2 (by decide), fe 3 (by decide), fe 4 (by decide)]
  have la := addr_len (fN_lt h 0)
  have lb := addr_len (fN_lt h 1)
  have lc := dec_len (k := 9) (n := fN' h 2) (Nat.lt_trans (fN_lt h 2) (by decide))
  have ld := dec_len (k := 9) (n := fN' h 3) (Nat.lt_trans (fN_lt h 3) (by decide))
  have le := dec_len (k := 9) (n := fN' h 4) (Nat.lt_trans (fN_lt h 4) (by decide))
  rw [show (⟨#[58]⟩ : ByteArray) = strOf [58] from rfl, show (⟨#[62]⟩ : ByteArray) = strOf [62] from rfl, show (⟨#[47]⟩ : ByteArray) = strOf [47] from rfl]
  refine addr_cal (fN_lt h 0) fun w7 k7 => ?_
  refine cnd_of (by simp only [strOf_app, strOf_size, List.length_append, List.length_cons, List.length_nil, byte_max]; omega) (digits_cal (K := K) _ w7 _ (fN_lt h 2) fun w8 k8 => ?_)
  refine cnd_of (by simp only [strOf_app, strOf_size, List.length_append, List.length_cons, List.length_nil, byte_max]; omega) (cnd_of (by simp only [strOf_app, strOf_size, List.length_append, List.length_cons, List.length_nil, byte_max]; omega) (addr_cal (fN_lt h 1) fun w9 k9 => ?_))
  refine cnd_of (by simp only [strOf_app, strOf_size, List.length_append, List.length_cons, List.length_nil, byte_max]; omega) (cnd_of (by simp only [strOf_app, strOf_size, List.length_append, List.length_cons, List.length_nil, byte_max]; omega) (digits_cal (K := K) _ w9 _ (fN_lt h 3) fun wa ka => ?_))
  refine cnd_of (by simp only [strOf_app, strOf_size, List.length_append, List.length_cons, List.length_nil, byte_max]; omega) (cnd_of (by simp only [strOf_app, strOf_size, List.length_append, List.length_cons, List.length_nil, byte_max]; omega) (digits_cal (K := K) _ wa _ (fN_lt h 4) fun wb kb => ?_))
  refine cnd_of (by simp only [strOf_app, strOf_size, List.length_append, List.length_cons, List.length_nil, byte_max]; omega) ?_
  simp only [strOf_app]
  rw [text_parts] at hk
  exact hk wb ((h6.ext ((((k7.trans k8).trans k9).trans ka).trans kb)).kept)
end
end Go.Proofs.YtchhffabpgebmaaDoor
