/-
  HeadBits: the walk of the law. No condition.
-/
import Derived.Test.YtchhffabpgebmaaDoorHeadOrder
set_option linter.unusedVariables false
set_option linter.unusedSimpArgs false
namespace Go.Proofs.YtchhffabpgebmaaDoor
open Go.RowKit Extern.Stop
theorem flipI_len (h : List UInt8) (i : Int) : (flipI h i).length = h.length := by unfold flipI; split <;> simp [flip_len]
theorem bitI_flip {h : List UInt8} {i k : Int} (hl : h.length = 13) : bitI (flipI h i) k = (bitI h k != (decide (0 ≤ i ∧ i < 104) && (i == k))) := by
  unfold flipI bitI
  by_cases hi : 0 ≤ i ∧ i < 104
  · rw [if_pos hi]
    by_cases hk : 0 ≤ k ∧ k < 104
    · rw [if_pos hk, if_pos hk, bit_flip hl (by omega)]
      have : decide (k.toNat = i.toNat) = (decide (0 ≤ i ∧ i < 104) && (i == k)) := by
        rw [Bool.eq_iff_iff]; simp; omega
      rw [this]
    · rw [if_neg hk, if_neg hk]
      have : (i == k) = false := by rw [beq_eq_false_iff_ne]; omega
      rw [this]; simp
  · rw [if_neg hi]
    simp [hi]
theorem flip_flip {h : List UInt8} {i : Int} (hl : h.length = 13) : flipI (flipI h i) i = h := by
  have hl1 : (flipI h i).length = 13 := by rw [flipI_len, hl]
  have hl2 : (flipI (flipI h i) i).length = 13 := by rw [flipI_len, hl1]
  refine hd_ext hl2 hl fun k hk => ?_
  have := bitI_flip (h := flipI h i) (i := i) (k := (k : Int)) hl1
  rw [bitI_flip hl] at this
  have e : ∀ g : List UInt8, bitI g (k : Int) = bitS g k := fun g => by unfold bitI; rw [if_pos (by omega), Int.toNat_natCast]
  rw [e, e] at this
  rw [this]
  cases bitS h k <;> cases (decide (0 ≤ i ∧ i < 104) && (i == (k : Int))) <;> rfl
theorem flip_ne {h : List UInt8} {i : Int} (hl : h.length = 13) : (flipI h i != h) = decide (0 ≤ i ∧ i < 104) := by
  by_cases hi : 0 ≤ i ∧ i < 104
  · have : flipI h i ≠ h := fun e => by
      have := bitI_flip (i := i) (k := i) hl
      rw [e] at this
      simp [hi] at this
    simp [hi, this]
  · have : flipI h i = h := by unfold flipI; rw [if_neg hi]
    simp [hi, this]
section
variable {Z : List PanicEntry → PT} {Q : Bool → PT} {w0 w : World} {h : List UInt8} {ab gb : Nat} {i k : Int}
theorem hbit_s7 {t : Bool} (hl : h.length = 13) (ht : t = decide (0 ≤ i ∧ i < 104)) (hs : Sep (fun _ => False) w0 w [fB gb (encH (flipI h i)), fB ab (encH h)]) (hq : ∀ w', Ext w0 w' → Q true w') : law01_HeadBits.s7 Z Q i k ⟨ab, 0, none⟩ ⟨gb, 0, none⟩ t w := by
  have hg : (flipI h i).length = 13 := by rw [flipI_len, hl]
  unfold law01_HeadBits.s7
  have all : ∀ {w'}, Sep (fun _ => False) w0 w' [fB gb (encH (flipI h i)), fB ab (encH h)] → IsB w' ab (encH h) ∧ IsB w' gb (encH (flipI h i)) := fun h => ⟨h.at (n := 1) rfl, h.at (n := 0) rfl⟩
  have A := fun (w' : World) (h : IsB w' ab (encH h) ∧ IsB w' gb (encH (flipI ‹List UInt8› i))) => h.1
  have B := fun (w' : World) (h : IsB w' ab (encH h) ∧ IsB w' gb (encH (flipI ‹List UInt8› i))) => h.2
  refine hs.drawn (fun w' => IsB w' ab (encH h) ∧ IsB w' gb (encH (flipI h i))) (all hs.drew) fun h1 => ?_
  refine hN_at hl A (hN_at hl A (bit_cal hl fun w2 k2 => ?_))
  have h2 := h1.ext k2
  refine sAnd_of (all h2) (bit2_cal hl fun w3 k3 => ?_)
  have h3 := h2.ext k3
  refine sAnd_of (all h3) ?_
  rw [show (!(bitI h i == bitI h i)) = false by simp, pif_false]
  refine hN_at hg B (hN_at hl A (flip_cal hg fun w4 k4 => ?_))
  have h4 := h3.ext k4
  refine sAnd_of (all h4) ?_
  rw [flip_flip hl]
  refine neqH hl hl (sAnd_of (all h4) ?_)
  rw [show (h != h) = false by simp, pif_false]
  refine hN_at hg B (hN_at hl A (neqH hg hl (sAnd_of (all h4) ?_)))
  rw [flip_ne hl, ht, show (!(decide (0 ≤ i ∧ i < 104) == decide (0 ≤ i ∧ i < 104))) = false by simp, pif_false]
  refine h4.drawn (fun w' => IsB w' ab (encH h) ∧ IsB w' gb (encH (flipI h i))) (all h4.drew) fun h5 => ?_
  refine hN_at hg B (hN_at hl A (bit_cal hg fun w6 k6 => ?_))
  have h6 := h5.ext k6
  refine sAnd_of (all h6) (bit_cal hl fun w7 k7 => ?_)
  have h7 := h6.ext k7
  refine sAnd_of (all h7) ?_
  have e := bitI_flip (i := i) (k := k) hl
  rw [pif_bool]
  split
  · rename_i hi
    rw [hi] at e
    have : (bitI (flipI h i) k == !(bitI h k == (i == k))) = true := by
      rw [e]; cases bitI h k <;> cases (i == k) <;> rfl
    rw [this]
    exact hq w7 h7.kept
  · rename_i hi
    have hi : decide (0 ≤ i ∧ i < 104) = false := by simpa using hi
    rw [hi] at e
    have : (bitI (flipI h i) k == !(bitI h k == false)) = true := by
      rw [e]; cases bitI h k <;> rfl
    rw [this]
    exact hq w7 h7.kept
end
theorem HeadBits_walk : WalkedL (Rows.headBitsRow.laid) 5 [26, 3, 3] := by
  intro vs W hl ha hL
  match vs, hl with
  | [v0, v1, v2], _ =>
    obtain ⟨h, rfl, lh⟩ := hd_of (ha 0 _ v0 rfl rfl)
    obtain ⟨i, rfl, _⟩ := (ha 1 _ v1 rfl rfl).int Tryd.underlying3
    obtain ⟨k, rfl, _⟩ := (ha 2 _ v2 rfl rfl).int Tryd.underlying3
    obtain ⟨g1, g2⟩ := glb_of hL (by simp [Rows.headBitsRow]; rfl) (by simp [Rows.headBitsRow]; rfl)
    refine (law01_HeadBits.vc0 (Good W) (encH h) i k W ?_).mono fun e w' ⟨r, he, hr, hk⟩ => ⟨by rw [he, hr], hk.below⟩
    have hg : (flipI h i).length = 13 := by rw [flipI_len, lh]
    unfold law01_HeadBits.F law01_HeadBits.s10
    refine (Sep.start (fun _ => False) W).new fun w1 ab h1 k1 => ?_
    refine awake_cal (g1.ext h1.kept) (g2.ext h1.kept) fun w2 k2 => ?_
    have h2 := h1.ext k2
    rw [pif_not, pif_true]
    refine h2.ldN 0 rfl (sub13 lh) (len13 lh) (flip_cal lh fun w3 k3 => ?_)
    have h3 := h2.ext k3
    refine h3.new fun w4 gb h4 k4 => ?_
    refine h4.stN 0 rfl (by decide) (len13 hg) (encH_one _) (lay_all13 rfl (len13 hg)) fun w5 h5 k5 => ?_
    rw [pif_dec]
    split
    · rename_i hi
      refine hbit_s7 lh ?_ h5 fun w' k' => ⟨rfl, k'⟩
      rw [decide_eq_decide]; omega
    · rename_i hi
      refine hbit_s7 lh ?_ h5 fun w' k' => ⟨rfl, k'⟩
      rw [eq_comm, decide_eq_false_iff_not]; omega
end Go.Proofs.YtchhffabpgebmaaDoor
