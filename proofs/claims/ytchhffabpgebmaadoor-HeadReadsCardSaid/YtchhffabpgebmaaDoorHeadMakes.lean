/-
  HeadMakes, HeadFields: the walks of the laws. No condition.
-/
import Derived.Test.YtchhffabpgebmaaDoorHeadOrder
set_option linter.unusedVariables false
set_option linter.unusedSimpArgs false
namespace Go.Proofs.YtchhffabpgebmaaDoor
open Go.RowKit Extern.Stop
theorem with_fit {h : List UInt8} {n v : Nat} (hn : n < 5) (hv : v < 2 ^ (8 * mF n)) : withI h (n : Int) v = (putB h (qF n) (mF n) v, 0) := by
  unfold withI
  rw [fldI_nat hn]
  simp only
  rw [if_neg (by rw [Nat.div_eq_of_lt hv]; simp)]
theorem with_step (v : Nat → Nat) {n : Nat} (hn : n < 5) (hv : v n < 2 ^ (8 * mF n)) : withI (makeS v n) (n : Int) (v n) = (makeS v (n + 1), 0) := by
  rw [with_fit hn hv]; rfl
theorem qm_apart {n m : Nat} (h : n < m) (hm : m < 5) : qF n + mF n ≤ qF m := by
  have key : ∀ m, m < 5 → ∀ n, n < m → qF n + mF n ≤ qF m := by decide
  exact key m hm n h
theorem field_make {v : Nat → Nat} (hv : ∀ n, n < 5 → v n < 2 ^ (8 * mF n)) : ∀ m n, m ≤ 5 → n < m → fieldS (makeS v m) (8 * qF n) (8 * mF n) = v n
  | 0, n, _, h => by omega
  | m + 1, n, hm, h => by
    have hqm := qm_le m
    rw [makeS]
    by_cases e : n = m
    · subst e
      exact field_put (makeS_len v n) hqm (hv n (by omega))
    · have := qm_apart (n := n) (m := m) (by omega) (by omega)
      rw [field_other (makeS_len v m) hqm _ (by omega)]
      exact field_make hv m n (by omega) (by omega)
theorem u32_of {n : Int} (h : (Lit.int .u32 n).wf = true) : ∃ m : Nat, n = m ∧ m < 4294967296 := by
  have : 0 ≤ n ∧ n ≤ 4294967295 := by simpa [Lit.wf, IntKind.min, IntKind.max, IntKind.signed, IntKind.bits] using h
  exact ⟨n.toNat, by omega, by omega⟩
theorem u16_of {n : Int} (h : (Lit.int .u16 n).wf = true) : ∃ m : Nat, n = m ∧ m < 65536 := by
  have : 0 ≤ n ∧ n ≤ 65535 := by simpa [Lit.wf, IntKind.min, IntKind.max, IntKind.signed, IntKind.bits] using h
  exact ⟨n.toNat, by omega, by omega⟩
theorem u8_of {n : Int} (h : (Lit.int .u8 n).wf = true) : ∃ m : Nat, n = m ∧ m < 256 := by
  have : 0 ≤ n ∧ n ≤ 255 := by simpa [Lit.wf, IntKind.min, IntKind.max, IntKind.signed, IntKind.bits] using h
  exact ⟨n.toNat, by omega, by omega⟩
section
variable {Z : List PanicEntry → PT} {w : World}
set_option maxHeartbeats 2000000 in
theorem make2_cal {K : List Value → PT} {a b c d e : Nat} (hb' : a < 4294967296 ∧ b < 4294967296 ∧ c < 65536 ∧ d < 65536 ∧ e < 256) (hk : ∀ w', Ext w w' → K (encH (makeS (vals5 a b c d e) 5)) w') :
    cal Tryd.prog Z 12 [.int .u32 (a : Int), .int .u32 (b : Int), .int .u32 (c : Int), .int .u32 (d : Int), .int .u32 (e : Int)] (isN fun v => K v) w := by
  refine ref01_Make.cal ?_
  unfold ref01_Make.F
  have L := makeS_len (vals5 a b c d e)
  generalize hV : vals5 a b c d e = V at hk L
  have v0 : a = V 0 := by rw [← hV]; rfl
  have v1 : b = V 1 := by rw [← hV]; rfl
  have v2 : c = V 2 := by rw [← hV]; rfl
  have v3 : d = V 3 := by rw [← hV]; rfl
  have v4 : e = V 4 := by rw [← hV]; rfl
  have e0 : encH h0 = encH (makeS V 0) := rfl
  have w1' : withI (makeS V 0) ((0 : Nat) : Int) (V 0) = (makeS V 1, 0) := with_step V (by decide) (by rw [← v0]; exact hb'.1)
  have w2' : withI (makeS V 1) ((1 : Nat) : Int) (V 1) = (makeS V 2, 0) := with_step V (by decide) (by rw [← v1]; exact hb'.2.1)
  have w3' : withI (makeS V 2) ((2 : Nat) : Int) (V 2) = (makeS V 3, 0) := with_step V (by decide) (by rw [← v2]; exact hb'.2.2.1)
  have w4' : withI (makeS V 3) ((3 : Nat) : Int) (V 3) = (makeS V 4, 0) := with_step V (by decide) (by rw [← v3]; exact hb'.2.2.2.1)
  have w5' : withI (makeS V 4) ((4 : Nat) : Int) (V 4) = (makeS V 5, 0) := with_step V (by decide) (by rw [← v4]; exact hb'.2.2.2.2)
  have B : V 0 < 4294967296 ∧ V 1 < 4294967296 ∧ V 2 < 65536 ∧ V 3 < 65536 ∧ V 4 < 256 := by rw [← v0, ← v1, ← v2, ← v3, ← v4]; exact hb'
  clear hb'
  rw [v0, v1, v2, v3, v4]
  clear v0 v1 v2 v3 v4 hV
  refine (Sep.start (fun _ => False) w).new fun w1 b1 h1 k1 => ?_
  refine with2_cal (h := makeS V 0) (f := ((0 : Nat) : Int)) (L 0) B.1 fun w2 k2 => ?_
  rw [w1']
  have h2 := h1.ext k2
  refine h2.new fun w3 b3 h3 k3 => ?_
  refine h3.stN 0 rfl (by decide) (len13 (L 1)) (encH_one _) (lay_all13 rfl (len13 (L 1))) fun w4 h4 k4 => ?_
  refine h4.ldN 0 rfl (sub13 (L 1)) (len13 (L 1)) (with2_cal (f := ((1 : Nat) : Int)) (L 1) B.2.1 fun w5 k5 => ?_)
  rw [w2']
  have h5 := h4.ext k5
  refine h5.stN 0 rfl (by rw [encH_len, L 1]; decide) (len13 (L 2)) (encH_one _) (lay_all13 (len13 (L 1)) (len13 (L 2))) fun w6 h6 k6 => ?_
  refine h6.ldN 0 rfl (sub13 (L 2)) (len13 (L 2)) (with2_cal (f := ((2 : Nat) : Int)) (L 2) (by omega) fun w7 k7 => ?_)
  rw [w3']
  have h7 := h6.ext k7
  refine h7.stN 0 rfl (by rw [encH_len, L 2]; decide) (len13 (L 3)) (encH_one _) (lay_all13 (len13 (L 2)) (len13 (L 3))) fun w8 h8 k8 => ?_
  refine h8.ldN 0 rfl (sub13 (L 3)) (len13 (L 3)) (with2_cal (f := ((3 : Nat) : Int)) (L 3) (by omega) fun w9 k9 => ?_)
  rw [w4']
  have h9 := h8.ext k9
  refine h9.stN 0 rfl (by rw [encH_len, L 3]; decide) (len13 (L 4)) (encH_one _) (lay_all13 (len13 (L 3)) (len13 (L 4))) fun wa ha ka => ?_
  refine ha.ldN 0 rfl (sub13 (L 4)) (len13 (L 4)) (with2_cal (f := ((4 : Nat) : Int)) (L 4) (by omega) fun wb kb => ?_)
  rw [w5']
  have hb2 := ha.ext kb
  refine hb2.stN 0 rfl (by rw [encH_len, L 4]; decide) (len13 (L 5)) (encH_one _) (lay_all13 (len13 (L 4)) (len13 (L 5))) fun wc hc kc => ?_
  refine hc.ldN 0 rfl (sub13 (L 5)) (len13 (L 5)) ?_
  refine hc.stN 1 rfl (by decide) (len13 (L 5)) (encH_one _) (lay_all13 rfl (len13 (L 5))) fun wd hd kd => ?_
  exact hd.ldN 1 rfl (sub13 (L 5)) (len13 (L 5)) (hk wd hd.kept)
end
theorem HeadMakes_walk : WalkedL (Rows.headMakesRow.laid) 3 [22, 22, 23, 23, 5] := by
  intro vs W hl ha hL
  match vs, hl with
  | [v0, v1, v2, v3, v4], _ =>
    obtain ⟨a, rfl, xa⟩ := (ha 0 _ v0 rfl rfl).int Tryd.underlying22
    obtain ⟨b, rfl, xb⟩ := (ha 1 _ v1 rfl rfl).int Tryd.underlying22
    obtain ⟨c, rfl, xc⟩ := (ha 2 _ v2 rfl rfl).int Tryd.underlying23
    obtain ⟨d, rfl, xd⟩ := (ha 3 _ v3 rfl rfl).int Tryd.underlying23
    obtain ⟨e, rfl, xe⟩ := (ha 4 _ v4 rfl rfl).int Tryd.underlying5
    obtain ⟨a, rfl, ya⟩ := u32_of xa
    obtain ⟨b, rfl, yb⟩ := u32_of xb
    obtain ⟨c, rfl, yc⟩ := u16_of xc
    obtain ⟨d, rfl, yd⟩ := u16_of xd
    obtain ⟨e, rfl, ye⟩ := u8_of xe
    obtain ⟨g1, g2⟩ := glb_of hL (by simp [Rows.headMakesRow]; rfl) (by simp [Rows.headMakesRow]; rfl)
    have B5 : a < 4294967296 ∧ b < 4294967296 ∧ c < 65536 ∧ d < 65536 ∧ e < 256 := ⟨ya, yb, yc, yd, ye⟩
    refine (law01_HeadMakes.vc0 (Good W) a b c d e W ?_).mono fun e w' ⟨r, he, hr, hk⟩ => ⟨by rw [he, hr], hk.below⟩
    have vb : ∀ n, n < 5 → vals5 a b c d e n < 2 ^ (8 * mF n) := fun n hn => by
      match n, hn with
      | 0, _ => exact ya
      | 1, _ => exact yb
      | 2, _ => exact yc
      | 3, _ => exact yd
      | 4, _ => exact ye
    have fl : ∀ n : Nat, n < 5 → fieldI (makeS (vals5 a b c d e) 5) (n : Int) = (vals5 a b c d e n, 0) := fun n hn => by
      unfold fieldI
      rw [fldI_nat hn]
      simp only
      rw [field_make vb 5 n (Nat.le_refl _) hn]
    have L5 := makeS_len (vals5 a b c d e) 5
    unfold law01_HeadMakes.F
    simp only [wrapU32, Nat.mod_eq_of_lt (show c < 4294967296 by omega), Nat.mod_eq_of_lt (show d < 4294967296 by omega), Nat.mod_eq_of_lt (show e < 4294967296 by omega)]
    refine awake_cal g1 g2 fun w1 k1 => ?_
    rw [pif_not, pif_true]
    have h1 := (Sep.start (fun _ => False) W).ext k1
    refine make_cal (g1.ext h1.kept) B5 fun w2 k2 => ?_
    have h2 := h1.ext k2
    refine h2.new fun w3 hb h3 k3 => ?_
    refine h3.stN 0 rfl (by decide) (len13 L5) (encH_one _) (lay_all13 rfl (len13 L5)) fun w4 h4 k4 => ?_
    refine h4.ldN 0 rfl (sub13 L5) (len13 L5) (field_cal (f := ((0 : Nat) : Int)) (g1.ext h4.kept) L5 fun w5 k5 => ?_)
    have h5 := h4.ext k5
    refine h5.ldN 0 rfl (sub13 L5) (len13 L5) (field_cal (f := ((1 : Nat) : Int)) (g1.ext h5.kept) L5 fun w6 k6 => ?_)
    have h6 := h5.ext k6
    refine h6.ldN 0 rfl (sub13 L5) (len13 L5) (field_cal (f := ((2 : Nat) : Int)) (g1.ext h6.kept) L5 fun w7 k7 => ?_)
    have h7 := h6.ext k7
    refine h7.ldN 0 rfl (sub13 L5) (len13 L5) (field_cal (f := ((3 : Nat) : Int)) (g1.ext h7.kept) L5 fun w8 k8 => ?_)
    have h8 := h7.ext k8
    refine h8.ldN 0 rfl (sub13 L5) (len13 L5) (field_cal (f := ((4 : Nat) : Int)) (g1.ext h8.kept) L5 fun w9 k9 => ?_)
    have h9 := h8.ext k9
    rw [fl 0 (by decide), fl 1 (by decide), fl 2 (by decide), fl 3 (by decide), fl 4 (by decide)]
    refine h9.drawn (fun w' => IsB w' hb (encH (makeS (vals5 a b c d e) 5))) (h9.drew.at (n := 0) rfl : IsB _ _ _) fun ha => ?_
    refine hN_at L5 (fun _ h => h) (make2_cal B5 fun wb kb => ?_)
    have hb' := ha.ext kb
    refine sAnd_of (hb'.at (n := 0) rfl : IsB _ _ _) (eqlH L5 L5 (sAnd_of (hb'.at (n := 0) rfl : IsB _ _ _) ?_))
    rw [show (makeS (vals5 a b c d e) 5 == makeS (vals5 a b c d e) 5) = true by simp, pif_true]
    iterate 5 rw [pif_beq, if_pos rfl]
    rw [pif_beq, if_pos (by rfl), pif_beq, if_pos (by rfl), pif_beq, if_pos (by rfl), pif_beq, if_pos (by rfl)]
    exact ⟨by simp [vals5], hb'.kept⟩
section
variable {Z : List PanicEntry → PT} {Q : Bool → PT} {w : World}
theorem HeadFields_walk : WalkedL (Rows.headFieldsRow.laid) 4 [26, 3, 22] := by
  intro vs W hl ha hL
  match vs, hl with
  | [v0, v1, v2], _ =>
    obtain ⟨h, rfl, lh⟩ := hd_of (ha 0 _ v0 rfl rfl)
    obtain ⟨f, rfl, _⟩ := (ha 1 _ v1 rfl rfl).int Tryd.underlying3
    obtain ⟨v, rfl, xv⟩ := (ha 2 _ v2 rfl rfl).int Tryd.underlying22
    obtain ⟨v, rfl, yv⟩ := u32_of xv
    obtain ⟨g1, g2⟩ := glb_of hL (by simp [Rows.headFieldsRow]; rfl) (by simp [Rows.headFieldsRow]; rfl)
    refine (law01_HeadFields.vc0 (Good W) (encH h) f v W ?_).mono fun e w' ⟨r, he, hr, hk⟩ => ⟨by rw [he, hr], hk.below⟩
    have lw : (withI h f v).1.length = 13 := by
      unfold withI
      split
      · rfl
      · split
        · rfl
        · simp only [putB_len, lh]
    unfold law01_HeadFields.F law01_HeadFields.s25
    refine (Sep.start (fun _ => False) W).new fun w1 hb h1 k1 => ?_
    refine awake_cal (g1.ext h1.kept) (g2.ext h1.kept) fun w2 k2 => ?_
    rw [pif_not, pif_true]
    have h2 := h1.ext k2
    refine h2.ldN 0 rfl (sub13 lh) (len13 lh) (field_cal (g1.ext h2.kept) lh fun w3 k3 => ?_)
    have h3 := h2.ext k3
    refine h3.ldN 0 rfl (sub13 lh) (len13 lh) (field2_cal lh fun w4 k4 => ?_)
    have h4 := h3.ext k4
    refine h4.ldN 0 rfl (sub13 lh) (len13 lh) (with_cal (g1.ext h4.kept) lh yv fun w5 k5 => ?_)
    have h5 := h4.ext k5
    refine h5.new fun w6 cb h6 k6 => ?_
    refine h6.stN 0 rfl (by decide) (len13 lw) (encH_one _) (lay_all13 rfl (len13 lw)) fun w7 h7 k7 => ?_
    refine h7.ldN 1 rfl (sub13 lh) (len13 lh) (with2_cal lh yv fun w8 k8 => ?_)
    have h8 := h7.ext k8
    refine h8.new fun w9 db h9 k9 => ?_
    refine h9.stN 0 rfl (by decide) (len13 lw) (encH_one _) (lay_all13 rfl (len13 lw)) fun wa ha ka => ?_
    have fin : ∀ (first width k : Int) (wb : World), Sep (fun _ => False) W wb [fB db (encH (withI h f v).1), fB cb (encH (withI h f v).1), fB hb (encH h)] → k = (fieldI h f).2 → law01_HeadFields.s13 Z0 (Good W) f first width k wb → law01_HeadFields.s22 Z0 (Good W) f ((fieldI h f).1 : Nat) (fieldI h f).2 ((fieldI h f).1 : Nat) (fieldI h f).2 ⟨cb, 0, none⟩ (withI h f v).2 ⟨db, 0, none⟩ (withI h f v).2 first width k wb := fun first width k wb hb' hk hs => by
      unfold law01_HeadFields.s22
      rw [pif_bne, if_pos rfl, pif_bne, if_pos rfl]
      refine hb'.ldN 1 rfl (sub13 lw) (len13 lw) (hb'.ldN 0 rfl (sub13 lw) (len13 lw) (neqH lw lw ?_))
      rw [show ((withI h f v).1 != (withI h f v).1) = false by simp, pif_false, pif_bne, if_pos rfl]
      unfold law01_HeadFields.s19
      rw [show (k != (fieldI h f).2) = false by rw [hk]; simp, pif_false]
      exact hs
    refine place_cal (g1.ext ha.kept) (fun hf wb kb => ?_) fun n hf wb kb => ?_
    · have hb' := ha.ext kb
      refine fin 0 0 1 wb hb' (by unfold fieldI; rw [hf]) ?_
      unfold law01_HeadFields.s13
      rw [pif_bne, if_neg (by decide), pif_beq, if_pos rfl]
      exact ⟨rfl, hb'.kept⟩
    · have hb' := ha.ext kb
      refine fin _ _ 0 wb hb' (by unfold fieldI; rw [hf]) ?_
      obtain ⟨rfl, hn⟩ := fldI_some hf
      unfold law01_HeadFields.s13
      rw [pif_bne, if_pos rfl]
      refine first_cal (fun hf' => by rw [hf] at hf'; cases hf') fun n' hf' => ?_
      rw [hf] at hf'
      cases hf'
      rw [pif_beq, if_pos rfl]
      refine width_cal hn ?_
      exact ⟨by simp, hb'.kept⟩
end
end Go.Proofs.YtchhffabpgebmaaDoor
