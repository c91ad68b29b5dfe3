/-
  The headers' functions: fields, the order, whole headers. No condition.
-/
import Derived.Test.YtchhffabpgebmaaDoorHead1
set_option linter.unusedVariables false
set_option linter.unusedSimpArgs false
namespace Go.Proofs.YtchhffabpgebmaaDoor
open Go.RowKit Extern.Stop
def placesL : List (Int × Int) := [(0, 32), (32, 32), (64, 16), (80, 16), (96, 8)]
abbrev gPlaces : Nat := 0
abbrev Places (w : World) : Prop := VarIs gPlaces (pairCells placesL) w
def qF (n : Nat) : Nat := match n with | 0 => 0 | 1 => 4 | 2 => 8 | 3 => 10 | _ => 12
def mF (n : Nat) : Nat := match n with | 0 => 4 | 1 => 4 | 2 => 2 | 3 => 2 | _ => 1
theorem qm_le (n : Nat) : qF n + mF n ≤ 13 := by unfold qF mF; split <;> decide
theorem mF_le (n : Nat) : 1 ≤ mF n ∧ mF n ≤ 4 := by unfold mF; split <;> decide
theorem placesL_at {n : Nat} (h : n < 5) : placesL[n]? = some (((8 * qF n : Nat) : Int), ((8 * mF n : Nat) : Int)) := by
  match n, h with
  | 0, _ => rfl
  | 1, _ => rfl
  | 2, _ => rfl
  | 3, _ => rfl
  | 4, _ => rfl
/-- Which field a number names. -/
def fldI (f : Int) : Option Nat := if 0 ≤ f ∧ f < 5 then some f.toNat else none
theorem fldI_some {f : Int} {n : Nat} (h : fldI f = some n) : f = n ∧ n < 5 := by
  unfold fldI at h
  split at h
  · cases h; omega
  · cases h
theorem fldI_none {f : Int} (h : fldI f = none) : f < 0 ∨ 5 ≤ f := by
  unfold fldI at h
  split at h
  · cases h
  · omega
theorem fldI_nat {n : Nat} (h : n < 5) : fldI (n : Int) = some n := by unfold fldI; rw [if_pos (by omega)]; simp
section
variable {Z : List PanicEntry → PT} {w : World} {h : List UInt8}
theorem placesB {w : World} (hv : Places w) {n : Nat} (hn : n < 5) : w.cell? ⟨gPlaces, n * 2, none⟩ = some (.int .i64 (8 * qF n : Nat)) ∧ w.cell? ⟨gPlaces, n * 2 + 1, none⟩ = some (.int .i64 (8 * mF n : Nat)) := by
  have := pairCells_at (placesL_at hn)
  rw [hv.cell, hv.cell, Nat.mul_comm n 2]
  exact this
theorem place_cal {Q : Int → Int → Int → PT} {f : Int} (hv : Places w) (h1 : fldI f = none → ∀ w', Ext w w' → Q 0 0 1 w') (h2 : ∀ n, fldI f = some n → ∀ w', Ext w w' → Q (8 * qF n : Nat) (8 * mF n : Nat) 0 w') :
    cal Tryd.prog Z 16 [.int .i64 f] (isT3 fun x y z => (isI .i64 fun r0 => (isI .i64 fun r1 => (isI .i64 fun r2 => Q r0 r1 r2) z) y) x) w := by
  refine head_Place.cal ?_
  unfold head_Place.F
  rw [pif_dec]
  split
  · exact h1 (by unfold fldI; rw [if_neg (by omega)]) w Keep.refl
  · rw [pif_dec]
    split
    · exact h1 (by unfold fldI; rw [if_neg (by omega)]) w Keep.refl
    · have hv' : Places w.drew := hv.ext Keep.refl.drew
      have kd : Ext w w.drew := Keep.refl.drew
      show cnd _ _ w.drew
      generalize w.drew = w1 at hv' kd ⊢
      obtain ⟨n, rfl⟩ : ∃ n : Nat, f = n := ⟨f.toNat, by omega⟩
      have hn : n < 5 := by omega
      obtain ⟨c1, c2⟩ := placesB hv' hn
      refine cnd_of ⟨by omega, by omega⟩ ?_
      simp only [add_mk, Nat.zero_add, Int.toNat_natCast, Nat.add_zero]
      refine ldI_of c1 (cnd_of ⟨by omega, by omega⟩ (ldI_of c2 ?_))
      exact h2 n (fldI_nat hn) w1 kd
theorem first_cal {K : Int → PT} {f : Int} (h1 : fldI f = none → K (-1) w) (h2 : ∀ n, fldI f = some n → K (8 * qF n : Nat) w) : cal Tryd.prog Z 17 [.int .i64 f] (isI .i64 fun v => K v) w := by
  refine ref01_First.cal ?_
  unfold ref01_First.F
  have h2' : ∀ (n : Nat), n < 5 → f = n → K (8 * qF n : Nat) w := fun n hn e => h2 n (by rw [e]; exact fldI_nat hn)
  rw [pif_beq]; split
  · rename_i e; exact h2' 0 (by decide) e
  rw [pif_beq]; split
  · rename_i e; exact h2' 1 (by decide) e
  rw [pif_beq]; split
  · rename_i e; exact h2' 2 (by decide) e
  rw [pif_beq]; split
  · rename_i e; exact h2' 3 (by decide) e
  rw [pif_beq]; split
  · rename_i e; exact h2' 4 (by decide) e
  · exact h1 (by unfold fldI; rw [if_neg (by omega)])
theorem width_cal {K : Int → PT} {n : Nat} (hn : n < 5) (h2 : K (8 * mF n : Nat) w) : cal Tryd.prog Z 18 [.int .i64 (n : Int)] (isI .i64 fun v => K v) w := by
  refine ref01_Width.cal ?_
  unfold ref01_Width.F
  match n, hn, h2 with
  | 0, _, h2 => exact h2
  | 1, _, h2 => exact h2
  | 2, _, h2 => exact h2
  | 3, _, h2 => exact h2
  | 4, _, h2 => exact h2

/-! ### The order -/
theorem sub13 (hl : h.length = 13) : Go.Proofs.YtchhffabpgebmaaDoor.sub (encH h) 0 13 = encH h := by
  unfold Go.Proofs.YtchhffabpgebmaaDoor.sub
  rw [List.drop_zero, List.take_of_length_le (by rw [encH_len]; omega)]
theorem len13 (hl : h.length = 13) : (encH h).length = 13 := by rw [encH_len, hl]
theorem lexL_cons {x y : UInt8} {a b : List UInt8} : lexL (x :: a) (y :: b) = if x = y then lexL a b else decide (x < y) := rfl
theorem less_cal {K : Bool → PT} {a b : List UInt8} (ha : a.length = 13) (hb' : b.length = 13) (hk : ∀ w', Ext w w' → K (lexL a b) w') : cal Tryd.prog Z 22 [.agg ⟨encH a⟩, .agg ⟨encH b⟩] (isB fun v => K v) w := by
  refine head_Less.cal ?_
  unfold head_Less.F head_Less.s31
  refine (Sep.start (fun _ => False) w).new fun w1 b1 h1 k1 => ?_
  refine h1.new fun w2 b2 h2 k2 => ?_
  unfold head_Less.s28
  refine h2.ldN 1 rfl (sub13 ha) (len13 ha) ?_
  have loop : ∀ (m q : Nat), q + m = 13 → lexL (a.drop q) (b.drop q) = lexL a b → head_Less.l17 Z K (m + 1) ⟨b2, 0, none⟩ (encH a) (q : Int) w2 := by
    intro m
    induction m with
    | zero =>
      intro q hq he
      unfold head_Less.l17 head_Less.s20
      rw [pif_dec, if_neg (by omega)]
      unfold head_Less.s7
      rw [List.drop_eq_nil_of_le (by omega)] at he
      have := hk w2 h2.kept
      rw [← he] at this
      exact this
    | succ m ih =>
      intro q hq he
      unfold head_Less.l17 head_Less.s20
      rw [pif_dec, if_pos (by omega)]
      refine cnd_of ⟨by omega, by omega⟩ ?_
      simp only [add_mk, Nat.zero_add, Int.toNat_natCast, Nat.mul_one]
      refine ptI_of (encH_at (by omega)) (cnd_of ⟨by omega, by omega⟩ ?_)
      refine h2.ldI 0 rfl (encH_at (by omega)) ?_
      obtain ⟨x, e1, e2⟩ := drop_hb (a := a) (q := q) (by omega)
      obtain ⟨y, e3, e4⟩ := drop_hb (a := b) (q := q) (by omega)
      rw [e1, e3, lexL_cons] at he
      rw [pif_bne]
      split
      · rename_i e
        rw [if_pos (UInt8.toNat_inj.1 (by omega))] at he
        rw [wrap_nat1 (by omega)]
        exact ih (q + 1) (by omega) he
      · rename_i e
        rw [if_neg (fun g => e (by rw [← e2, ← e4, g]))] at he
        refine cnd_of ⟨by omega, by omega⟩ (h2.ldI 0 rfl (encH_at (by omega)) ?_)
        have := hk w2 h2.kept
        rw [← he] at this
        have e5 : decide ((hb a q : Int) < (hb b q : Int)) = decide (x < y) := by
          rw [decide_eq_decide, UInt8.lt_iff_toNat_lt]; omega
        rw [e5]
        exact this
  exact exK_of 14 (loop 13 0 (by omega) rfl)
theorem less2_cal {K : Bool → PT} {a b : List UInt8} (ha : a.length = 13) (hb' : b.length = 13) (hk : ∀ w', Ext w w' → K (lexL a b) w') : cal Tryd.prog Z 23 [.agg ⟨encH a⟩, .agg ⟨encH b⟩] (isB fun v => K v) w := by
  refine ref01_Less.cal ?_
  unfold ref01_Less.F ref01_Less.s31
  refine (Sep.start (fun _ => False) w).new fun w1 b1 h1 k1 => ?_
  refine h1.new fun w2 b2 h2 k2 => ?_
  unfold ref01_Less.s28
  have lx := lessB_lex ha hb' 13 0 (by omega)
  simp only [List.drop_zero, Nat.mul_zero, Nat.reduceMul] at lx
  have bi : ∀ (c : List UInt8) (i : Nat), i < 104 → bitI c (i : Int) = bitS c i := fun c i hi => by unfold bitI; rw [if_pos (by omega), Int.toNat_natCast]
  have loop : ∀ (m i : Nat) (w2 : World), i + m = 104 → lessB a b m i = lexL a b → Sep (fun _ => False) w w2 [fB b2 (encH b), fB b1 (encH a)] → ref01_Less.l17 Z K (m + 1) ⟨b1, 0, none⟩ ⟨b2, 0, none⟩ (i : Int) w2 := by
    intro m
    induction m with
    | zero =>
      intro i w2 hi he h2
      unfold ref01_Less.l17 ref01_Less.s20
      rw [pif_dec, if_neg (by omega)]
      unfold ref01_Less.s7
      have := hk w2 h2.kept
      rw [← he] at this
      exact this
    | succ m ih =>
      intro i w2 hi he h2
      unfold ref01_Less.l17 ref01_Less.s20
      rw [pif_dec, if_pos (by omega)]
      have all : ∀ {w'}, Sep (fun _ => False) w w' [fB b2 (encH b), fB b1 (encH a)] → IsB w' b1 (encH a) ∧ IsB w' b2 (encH b) := fun h => ⟨h.at (n := 1) rfl, h.at (n := 0) rfl⟩
      refine h2.drawn (fun w' => IsB w' b1 (encH a) ∧ IsB w' b2 (encH b)) (all h2.drew) fun h2 => ?_
      refine hN_of (len13 ha) (fun w' hw' => cellsAt_B hw'.1 (by rw [len13 ha]; exact sub13 ha)) ?_
      refine hN_of (len13 hb') (fun w' hw' => cellsAt_B hw'.2 (by rw [len13 hb']; exact sub13 hb')) ?_
      refine bit2_cal ha fun w3 k3 => ?_
      have h3 := h2.ext k3
      refine sAnd_of (all h3) ?_
      refine bit2_cal hb' fun w4 k4 => ?_
      have h4 := h3.ext k4
      refine sAnd_of (all h4) ?_
      unfold lessB at he
      rw [bi a i (by omega), bi b i (by omega), pif_not, pif_bool]
      by_cases e : bitS a i = bitS b i
      · rw [if_pos (by simp [e])]
        rw [if_pos e] at he
        rw [wrap_nat1 (by omega)]
        exact ih (i + 1) w4 (by omega) he h4
      · rw [if_neg (by simp [e])]
        rw [if_neg e] at he
        refine h4.ldN 0 rfl (sub13 hb') (len13 hb') ?_
        refine bit2_cal hb' fun w5 k5 => ?_
        rw [bi b i (by omega), he]
        exact hk w5 (h4.ext k5).kept
  exact exK_of 105 (loop 104 0 w2 (by omega) lx h2)

/-! ### Fields -/
theorem putS_cal {K : List Value → PT} {n v : Nat} (hl : h.length = 13) (hn : n < 5) (hv : v < 4294967296) (hk : ∀ w', Ext w w' → K (encH (putB h (qF n) (mF n) v)) w') :
    cal Tryd.prog Z 28 [.agg ⟨encH h⟩, .agg ⟨[.int .i64 (8 * qF n : Nat), .int .i64 (8 * mF n : Nat)]⟩, .int .u32 (v : Int)] (isN fun v => K v) w := by
  have hqm := qm_le n
  have hm := mF_le n
  refine head_put.cal ?_
  unfold head_put.F head_put.s31
  refine (Sep.start (fun _ => False) w).new fun w1 b1 h1 k1 => ?_
  refine h1.new fun w2 b2 h2 k2 => ?_
  refine h2.new fun w3 b3 h3 k3 => ?_
  have d8 : ∀ x : Nat, x ≤ 1000 → IntKind.wrap .i64 (Int.tdiv ((8 * x : Nat) : Int) 8) = (x : Int) := fun x hx => by
    rw [show (8 : Int) = ((8 : Nat) : Int) from rfl, tdivN, wrap_nat (by omega)]; omega
  unfold head_put.s28
  simp only [add_mk, Nat.zero_add]
  refine h3.ldI 1 rfl rfl (cnd_of (by decide) (h3.ldI 1 rfl rfl (cnd_of (by decide) ?_)))
  rw [d8 _ (by omega), d8 _ (by omega)]
  have loop : ∀ (m v' : Nat) (g : List UInt8) (w4 : World), qF n + m ≤ 13 → v' < 4294967296 → g.length = 13 → putB g (qF n) m v' = putB h (qF n) (mF n) v → Sep (fun _ => False) w w4 [fB b3 z13, fB b2 [.int .i64 (8 * qF n : Nat), .int .i64 (8 * mF n : Nat)], fB b1 (encH g)] → head_put.l17 Z K (m + 1) (v' : Int) ⟨b1, 0, none⟩ ⟨b2, 0, none⟩ ⟨b3, 0, none⟩ ((qF n : Int) + m - 1) w4 := by
    intro m
    induction m with
    | zero =>
      intro v' g w4 hq hv' hg he h4
      unfold head_put.l17 head_put.s20
      simp only [add_mk, Nat.zero_add]
      refine h4.ldI 1 rfl rfl (cnd_of (by decide) ?_)
      rw [d8 _ (by omega), pif_dec, if_neg (by omega)]
      unfold head_put.s7
      have := out13 (Q := K) (z := z13) hg rfl (h4.drop 1) (fun w' k' => by
        have := hk w' k'
        rw [← he] at this
        exact this)
      exact this
    | succ m ih =>
      intro v' g w4 hq hv' hg he h4
      unfold head_put.l17 head_put.s20
      simp only [add_mk, Nat.zero_add]
      refine h4.ldI 1 rfl rfl (cnd_of (by decide) ?_)
      rw [d8 _ (by omega), pif_dec, if_pos (by omega)]
      refine cnd_of ⟨by omega, by omega⟩ ?_
      rw [show ((qF n : Int) + ((m + 1 : Nat) : Int) - 1).toNat * 1 = qF n + m by omega]
      refine h4.st1 2 rfl (by rw [encH_len]; omega) rfl fun w5 h5 k5 => ?_
      rw [wrapU8, setN (n := v' % 256) rfl (by omega)] at h5
      refine cnd_of (by decide) ?_
      rw [show Int.fdiv (v' : Int) (2 ^ (min (8 : Int).toNat (IntKind.bits .u32))) = ((v' / 256 : Nat) : Int) from fdivN v' 256]
      rw [show IntKind.wrap .i64 ((qF n : Int) + ((m + 1 : Nat) : Int) - 1 - 1) = (qF n : Int) + m - 1 by rw [wrap_in (by omega) (by omega)]; omega]
      exact ih (v' / 256) _ w5 (by omega) (by omega) (by rw [setH_len, hg]) he h5
  rw [wrap_in (n := (qF n : Int) + (mF n : Int)) (by omega) (by omega), wrap_in (n := (qF n : Int) + (mF n : Int) - 1) (by omega) (by omega)]
  exact exK_of (mF n + 1) (loop (mF n) v h w3 hqm hv hl rfl h3)
end
end Go.Proofs.YtchhffabpgebmaaDoor
