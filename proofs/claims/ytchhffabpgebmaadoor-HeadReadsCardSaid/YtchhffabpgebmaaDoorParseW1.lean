/-
  The program reads a text as a header: its code comes to 'readH'. No condition.
-/
import Derived.Test.YtchhffabpgebmaaDoorParseH
set_option linter.unusedVariables false
set_option linter.unusedSimpArgs false
namespace Go.Proofs.YtchhffabpgebmaaDoor
open Go.RowKit Extern.Stop
def endsT : ByteArray := ⟨#[46, 46, 46, 58, 62, 46, 46, 46, 58, 47, 32]⟩
theorem ends0 : Utf8.decode endsT 0 = (endC 0, 1) := by kernel_rfl
theorem ends1 : Utf8.decode endsT 1 = (endC 1, 1) := by kernel_rfl
theorem ends2 : Utf8.decode endsT 2 = (endC 2, 1) := by kernel_rfl
theorem ends3 : Utf8.decode endsT 3 = (endC 3, 1) := by kernel_rfl
theorem ends4 : Utf8.decode endsT 4 = (endC 4, 1) := by kernel_rfl
theorem ends5 : Utf8.decode endsT 5 = (endC 5, 1) := by kernel_rfl
theorem ends6 : Utf8.decode endsT 6 = (endC 6, 1) := by kernel_rfl
theorem ends7 : Utf8.decode endsT 7 = (endC 7, 1) := by kernel_rfl
theorem ends8 : Utf8.decode endsT 8 = (endC 8, 1) := by kernel_rfl
theorem ends9 : Utf8.decode endsT 9 = (endC 9, 1) := by kernel_rfl
theorem ends10 : Utf8.decode endsT 10 = (endC 10, 1) := by kernel_rfl
theorem ends_dec {k : Nat} (h : k < 11) : Utf8.decode endsT k = (endC k, 1) := by
  match k, h with
  | 0, _ => exact ends0
  | 1, _ => exact ends1
  | 2, _ => exact ends2
  | 3, _ => exact ends3
  | 4, _ => exact ends4
  | 5, _ => exact ends5
  | 6, _ => exact ends6
  | 7, _ => exact ends7
  | 8, _ => exact ends8
  | 9, _ => exact ends9
  | 10, _ => exact ends10
theorem endC_lt (k : Nat) : endC k < 256 := by unfold endC; split <;> decide
def e64 (n : Nat) : Value := .int .u64 (n : Int)
def encN (c : List Nat) : List Value := c.map e64
theorem encN_at {c : List Nat} {i n : Nat} (h : c[i]? = some n) : (encN c)[i]? = some (.int .u64 (n : Int)) := by unfold encN; rw [List.getElem?_map, h]; rfl
theorem encN_set {c : List Nat} {i n : Nat} : (encN c).set i (.int .u64 (n : Int)) = encN (c.set i n) := by unfold encN; rw [List.map_set]; rfl
theorem encN_len (c : List Nat) : (encN c).length = c.length := by simp [encN]
/-- A text's byte at a place. -/
theorem byte_at {s : ByteArray} {i : Nat} (h : i < s.size) : ∃ b : UInt8, s[((i : Nat) : Int).toNat]? = some b ∧ ((b.toNat : Nat) : Int) = by_ s i := by
  refine ⟨s[i], by rw [Int.toNat_natCast]; exact getElem?_pos s i h, ?_⟩
  unfold by_
  rw [getElem?_pos s i h]; rfl
theorem ixT_of {s : ByteArray} {i : Int} {b : UInt8} {K : UInt8 → PT} {w : World} (h : 0 ≤ i) (hb : s[i.toNat]? = some b) (hk : K b w) : ixT s i K w := ⟨h, b, hb, hk⟩
theorem ofN64 {n : Nat} (h : n < 18446744073709551616) : (BitVec.ofInt (IntKind.bits .u64) (n : Int)).toNat = n := by
  show (BitVec.ofInt 64 (n : Int)).toNat = n
  rw [BitVec.toNat_ofInt]; omega
theorem or64 {x y : Nat} (hx : x < 18446744073709551616) (hy : y < 18446744073709551616) : IntKind.wrap .u64 ((BitVec.ofInt (IntKind.bits .u64) (x : Int) ||| BitVec.ofInt (IntKind.bits .u64) (y : Int)).toNat : Nat) = ((x ||| y : Nat) : Int) := by
  rw [BitVec.toNat_or, ofN64 hx, ofN64 hy, wrapU64, Nat.mod_eq_of_lt (Nat.or_lt_two_pow (n := 64) hx hy)]
theorem comb_eval {a b c d : Nat} (ha : a < 1000000) (hb' : b < 1000000) (hc : c < 1000000) (hd : d < 1000000) :
    IntKind.wrap .u32 (IntKind.wrap .u64 (BitVec.ofInt (IntKind.bits .u64) (IntKind.wrap .u64 (BitVec.ofInt (IntKind.bits .u64) (IntKind.wrap .u64 (BitVec.ofInt (IntKind.bits .u64) (IntKind.wrap .u64 ((a : Int) * 2 ^ (min (24 : Int).toNat (IntKind.bits .u64)))) ||| BitVec.ofInt (IntKind.bits .u64) (IntKind.wrap .u64 ((b : Int) * 2 ^ (min (16 : Int).toNat (IntKind.bits .u64))))).toNat) ||| BitVec.ofInt (IntKind.bits .u64) (IntKind.wrap .u64 ((c : Int) * 2 ^ (min (8 : Int).toNat (IntKind.bits .u64))))).toNat) ||| BitVec.ofInt (IntKind.bits .u64) (d : Int)).toNat) = ((comb a b c d : Nat) : Int) := by
  have e1 : IntKind.wrap .u64 ((a : Int) * 2 ^ (min (24 : Int).toNat (IntKind.bits .u64))) = ((a * 16777216 : Nat) : Int) := by
    rw [show (a : Int) * 2 ^ (min (24 : Int).toNat (IntKind.bits .u64)) = ((a * 16777216 : Nat) : Int) by rw [Int.natCast_mul]; rfl, wrapU64, Nat.mod_eq_of_lt (by omega)]
  have e2 : IntKind.wrap .u64 ((b : Int) * 2 ^ (min (16 : Int).toNat (IntKind.bits .u64))) = ((b * 65536 : Nat) : Int) := by
    rw [show (b : Int) * 2 ^ (min (16 : Int).toNat (IntKind.bits .u64)) = ((b * 65536 : Nat) : Int) by rw [Int.natCast_mul]; rfl, wrapU64, Nat.mod_eq_of_lt (by omega)]
  have e3 : IntKind.wrap .u64 ((c : Int) * 2 ^ (min (8 : Int).toNat (IntKind.bits .u64))) = ((c * 256 : Nat) : Int) := by
    rw [show (c : Int) * 2 ^ (min (8 : Int).toNat (IntKind.bits .u64)) = ((c * 256 : Nat) : Int) by rw [Int.natCast_mul]; rfl, wrapU64, Nat.mod_eq_of_lt (by omega)]
  have l1 : a * 16777216 ||| b * 65536 < 18446744073709551616 := Nat.or_lt_two_pow (n := 64) (by omega) (by omega)
  have l2 : a * 16777216 ||| b * 65536 ||| c * 256 < 18446744073709551616 := Nat.or_lt_two_pow (n := 64) l1 (by omega)
  rw [e1, e2, e3, or64 (by omega) (by omega), or64 l1 (by omega), or64 l2 (by omega), wrapU32]
  rfl
theorem comb_lt (a b c d : Nat) : comb a b c d < 4294967296 := Nat.mod_lt _ (by decide)
section
variable {Z : List PanicEntry → PT} {Q : List Value → Int → PT} {w0 w : World} {s : ByteArray}
abbrev PL (rb nb tb k : Nat) (c : List Nat) : List Fct := [fI rb endsT k, fB nb (encN c), fB tb z13]
theorem pw_zero {rb nb tb k : Nat} {c : List Nat} (h : Sep (fun _ => False) w0 w (PL rb nb tb k c)) (hq : ∀ w', Ext w0 w' → Q (encH h0) 12 w') : stN 13 ⟨tb, 0, none⟩ z13 (ldN 13 ⟨tb, 0, none⟩ fun v => Q v 12) w := by
  refine h.stN 2 rfl (by decide) rfl (by decide) (lay_all13 rfl rfl) fun w4 h4 k4 => ?_
  exact h4.ldN 2 rfl sub13z rfl (hq w4 h4.kept)
theorem pw_fin {rb nb tb : Nat} {c : List Nat} (hv : Places w0) (hp : Pow10 w0) (hc : c.length = 11) (hb' : ∀ i, i < 11 → c.getD i 0 < 1000000) (h : Sep (fun _ => False) w0 w (PL rb nb tb 11 c)) (hq : ∀ w', Ext w0 w' → Q (encH (ifText s (headP fun i => c.getD i 0)).1) (ifText s (headP fun i => c.getD i 0)).2 w') : head_Parse.s9 Z Q s ⟨tb, 0, none⟩ ⟨nb, 0, none⟩ w := by
  have at_ : ∀ i, i < 11 → (encN c)[i]? = some (.int .u64 ((c.getD i 0 : Nat) : Int)) := fun i hi => by
    refine encN_at ?_
    rw [List.getD_eq_getElem?_getD, List.getElem?_eq_getElem (by omega)]; rfl
  unfold head_Parse.s9
  simp only [add_mk, Nat.zero_add]
  refine cnd_of (by decide) (h.ldI 1 rfl (at_ 0 (by decide)) (cnd_of (by decide) ?_))
  refine cnd_of (by decide) (h.ldI 1 rfl (at_ 1 (by decide)) (cnd_of (by decide) ?_))
  refine cnd_of (by decide) (h.ldI 1 rfl (at_ 2 (by decide)) (cnd_of (by decide) ?_))
  refine cnd_of (by decide) (h.ldI 1 rfl (at_ 3 (by decide)) ?_)
  refine cnd_of (by decide) (h.ldI 1 rfl (at_ 5 (by decide)) (cnd_of (by decide) ?_))
  refine cnd_of (by decide) (h.ldI 1 rfl (at_ 6 (by decide)) (cnd_of (by decide) ?_))
  refine cnd_of (by decide) (h.ldI 1 rfl (at_ 7 (by decide)) (cnd_of (by decide) ?_))
  refine cnd_of (by decide) (h.ldI 1 rfl (at_ 8 (by decide)) ?_)
  refine cnd_of (by decide) (h.ldI 1 rfl (at_ 4 (by decide)) ?_)
  refine cnd_of (by decide) (h.ldI 1 rfl (at_ 9 (by decide)) ?_)
  refine cnd_of (by decide) (h.ldI 1 rfl (at_ 10 (by decide)) ?_)
  rw [comb_eval (hb' 0 (by decide)) (hb' 1 (by decide)) (hb' 2 (by decide)) (hb' 3 (by decide)), comb_eval (hb' 5 (by decide)) (hb' 6 (by decide)) (hb' 7 (by decide)) (hb' 8 (by decide)), wrapU16 (c.getD 4 0), wrapU16 (c.getD 9 0), wrapU8 (c.getD 10 0)]
  refine make_cal (hv.ext h.kept) ⟨comb_lt _ _ _ _, comb_lt _ _ _ _, Nat.mod_lt _ (by decide), Nat.mod_lt _ (by decide), Nat.mod_lt _ (by decide)⟩ fun w1 k1 => ?_
  have h1 := h.ext k1
  have hl : (headP fun i => c.getD i 0).length = 13 := headP_len _
  have hg : makeS (vals5 (comb (c.getD 0 0) (c.getD 1 0) (c.getD 2 0) (c.getD 3 0)) (comb (c.getD 5 0) (c.getD 6 0) (c.getD 7 0) (c.getD 8 0)) (c.getD 4 0 % 65536) (c.getD 9 0 % 65536) (c.getD 10 0 % 256)) 5 = headP fun i => c.getD i 0 := rfl
  rw [hg]
  generalize (headP fun i => c.getD i 0) = g at hq hl ⊢
  refine h1.new fun w2 hb2 h2 k2 => ?_
  refine h2.stN 0 rfl (by decide) (len13 hl) (encH_one _) (lay_all13 rfl (len13 hl)) fun w3 h3 k3 => ?_
  refine h3.ldN 0 rfl (sub13 hl) (len13 hl) (text_cal (hv.ext h3.kept) (hp.ext h3.kept) hl fun w4 k4 => ?_)
  have h4 := h3.ext k4
  unfold ifText at hq
  rw [strOf_toList, pif_not]
  cases e : (textL g == s.toList) with
  | true =>
    rw [pif_true]
    rw [if_pos (eq_of_beq e)] at hq
    refine h4.ldN 0 rfl (sub13 hl) (len13 hl) ?_
    refine h4.stN 3 rfl (by decide) (len13 hl) (encH_one _) (lay_all13 rfl (len13 hl)) fun w5 h5 k5 => ?_
    exact h5.ldN 3 rfl (sub13 hl) (len13 hl) (hq w5 h5.kept)
  | false =>
    rw [pif_false]
    rw [if_neg (fun x => by rw [x, beq_self_eq_true] at e; cases e)] at hq
    exact pw_zero (h4.drop 0) hq
theorem pw_inner {X1 : ByteArray → Addr → Addr → Int → Option Addr → PT} {rb nb tb k k2 : Nat} {c : List Nat} {from_ : Nat} {r : Option Addr} {ec : Int} (hk : k < 11) (hc : c.length = 11) (hf : from_ ≤ 1000) :
    ∀ (m at_ n : Nat) (w : World), at_ + m = from_ + 6 → from_ ≤ at_ → n < 10 ^ (6 - m) → Sep (fun _ => False) w0 w (PL rb nb tb k2 (c.set k n)) →
    (∀ w', Sep (fun _ => False) w0 w' (PL rb nb tb k2 (c.set k (numD s m at_ n).1)) → head_Parse.s49 Z Q X1 s ⟨tb, 0, none⟩ ⟨nb, 0, none⟩ ((numD s m at_ n).2 : Nat) (k : Int) ec (from_ : Int) r w') →
    head_Parse.l56 Z Q X1 (m + 1) s ⟨tb, 0, none⟩ ⟨nb, 0, none⟩ (at_ : Int) (k : Int) ec (from_ : Int) r w := by
  intro m
  induction m with
  | zero =>
    intro at_ n w hm hfa hn h hq
    unfold head_Parse.l56 head_Parse.s59
    have fin : ∀ w', Sep (fun _ => False) w0 w' (PL rb nb tb k2 (c.set k n)) → head_Parse.s49 Z Q X1 s ⟨tb, 0, none⟩ ⟨nb, 0, none⟩ (at_ : Int) (k : Int) ec (from_ : Int) r w' := hq
    rw [pif_dec]
    split
    · rename_i hlt
      obtain ⟨b, hb1, hb2⟩ := byte_at (s := s) (i := at_) (by omega)
      refine ixT_of (by omega) hb1 ?_
      rw [pif_dec]
      split
      · refine ixT_of (by omega) hb1 ?_
        rw [pif_dec]
        split
        · rw [wrap_in (by omega) (by omega), pif_dec, if_neg (by omega)]
          exact fin w h
        · exact fin w h
      · exact fin w h
    · exact fin w h
  | succ m ih =>
    intro at_ n w hm hfa hn h hq
    unfold head_Parse.l56 head_Parse.s59
    unfold numD at hq
    rw [pif_dec]
    split
    · rename_i hlt
      obtain ⟨b, hb1, hb2⟩ := byte_at (s := s) (i := at_) (by omega)
      refine ixT_of (by omega) hb1 ?_
      rw [pif_dec]
      split
      · rename_i g1
        refine ixT_of (by omega) hb1 ?_
        rw [pif_dec]
        split
        · rename_i g2
          rw [if_pos ⟨by omega, by rw [← hb2]; exact ⟨by omega, by omega⟩⟩] at hq
          rw [wrap_in (by omega) (by omega), pif_dec, if_pos (by omega)]
          have hkc : (c.set k n)[k]? = some n := by rw [List.getElem?_set_self (by omega)]
          refine h.drawn (fun w' => IsB w' nb (encN (c.set k n))) (h.drew.at (n := 1) rfl : IsB _ _ _) fun h => ?_
          refine cnd_of ⟨by omega, by omega⟩ ?_
          simp only [add_mk, Nat.zero_add, Int.toNat_natCast, Nat.mul_one]
          refine hI_of (fun w' hw' => (hw'.cell _).trans (encN_at hkc)) ?_
          refine ixT_of (by omega) (by simpa using hb1) (cnd_of ⟨by omega, by omega⟩ ?_)
          have hn6 : n < 1000000 := Nat.lt_of_lt_of_le hn (Nat.pow_le_pow_right (by decide) (show 6 - (m + 1) ≤ 6 by omega))
          have ev : IntKind.wrap .u64 (IntKind.wrap .u64 ((n : Int) * 10) + IntKind.wrap .u64 (IntKind.wrap .u8 (((b.toNat : Nat) : Int) - 48))) = ((n * 10 + ((by_ s at_).toNat - 48) : Nat) : Int) := by
            rw [← hb2, show ((b.toNat : Nat) : Int) - 48 = ((b.toNat - 48 : Nat) : Int) by omega, wrapU8, Nat.mod_eq_of_lt (by omega), wrapU64 (b.toNat - 48), Nat.mod_eq_of_lt (by omega), show (n : Int) * 10 = ((n * 10 : Nat) : Int) by omega, wrapU64 (n * 10), Nat.mod_eq_of_lt (by omega), ← Int.natCast_add, wrapU64, Nat.mod_eq_of_lt (by omega), Int.toNat_natCast]
          rw [ev]
          refine h.st1 1 rfl (by rw [encN_len, List.length_set]; omega) rfl fun w3 h3 k3 => ?_
          rw [encN_set, List.set_set] at h3
          rw [wrap_nat1 (by omega)]
          refine ih (at_ + 1) _ w3 (by omega) (by omega) ?_ h3 hq
          have : 10 ^ (6 - m) = 10 ^ (6 - (m + 1)) * 10 := by rw [← Nat.pow_succ]; congr 1; omega
          have hbb : (by_ s at_).toNat - 48 ≤ 9 := by rw [← hb2, Int.toNat_natCast]; omega
          omega
        · rename_i g2
          rw [if_neg (fun g => g2 (by have := g.2.2; omega))] at hq
          exact hq w h
      · rename_i g1
        rw [if_neg (fun g => g1 (by have := g.2.1; omega))] at hq
        exact hq w h
    · rename_i hlt
      rw [if_neg (fun g => hlt (by have := g.1; omega))] at hq
      exact hq w h
theorem pw_loop {rb nb tb : Nat} (hv : Places w0) (hp : Pow10 w0) (hq : ∀ w', Ext w0 w' → Q (encH (readH s).1) (readH s).2 w') :
    ∀ (m k at_ : Nat) (acc : List Nat) (w : World), k + m = 11 → at_ ≤ 7 * k → acc.length = k → (∀ x ∈ acc, x < 1000000) → numsH s m k at_ acc = numsH s 11 0 0 [] → Sep (fun _ => False) w0 w (PL rb nb tb k (acc ++ List.replicate (11 - k) 0)) →
    head_Parse.l19 Z Q (m + 1) s ⟨tb, 0, none⟩ ⟨nb, 0, none⟩ (at_ : Int) (some ⟨rb, 0, none⟩) w := by
  intro m
  induction m with
  | zero =>
    intro k at_ acc w hk ha hl hx he h
    have : k = 11 := by omega
    subst this
    unfold head_Parse.l19 head_Parse.s71
    refine h.nextE 0 rfl (Nat.le_refl _) ?_
    rw [numsH_zero] at he
    unfold readH at hq
    rw [← he] at hq
    simp only [Nat.sub_self, List.replicate_zero, List.append_nil] at h
    refine pw_fin hv hp hl (fun i hi => ?_) h hq
    rw [List.getD_eq_getElem?_getD, List.getElem?_eq_getElem (by omega)]
    exact hx _ (List.getElem_mem _)
  | succ m ih =>
    intro k at_ acc w hk ha hl hx he h
    unfold head_Parse.l19 head_Parse.s71
    refine h.nextI 0 rfl (show k < 11 by omega) (ends_dec (by omega)) fun w1 h1 hs1 => ?_
    have ec := endC_lt k
    unfold head_Parse.s68
    have hclen : (acc ++ List.replicate (11 - k) 0).length = 11 := by simp; omega
    have hset : ∀ n, (acc ++ List.replicate (11 - k) 0).set k n = acc ++ [n] ++ List.replicate (11 - (k + 1)) 0 := fun n => by
      rw [List.set_append_right _ _ (by omega), hl, Nat.sub_self, show 11 - k = (11 - (k + 1)) + 1 by omega, List.replicate_succ, List.set_cons_zero]
      simp
    have h1' : Sep (fun _ => False) w0 w1 (PL rb nb tb (k + 1) ((acc ++ List.replicate (11 - k) 0).set k 0)) := by
      have : (acc ++ List.replicate (11 - k) 0).set k 0 = acc ++ List.replicate (11 - k) 0 := by
        rw [hset, show 11 - k = (11 - (k + 1)) + 1 by omega, List.replicate_succ]; simp
      rw [this]; exact h1
    obtain ⟨d1, d2, d3⟩ := numD_le s 6 at_ 0
    have d4 := numD_lt s 6 at_ 0 0 (by decide)
    refine exK_of 7 (pw_inner (X1 := head_Parse.l19 Z Q (m + 1)) (by omega) hclen (by omega) 6 at_ 0 w1 (by omega) (Nat.le_refl _) (by decide) h1' fun w2 h2 => ?_)
    rw [hset] at h2
    generalize hr : numD s 6 at_ 0 = r at d1 d2 d3 d4 h2 ⊢
    obtain ⟨n, e⟩ := r
    simp only at d1 d2 d3 d4 h2 ⊢
    have bad : ∀ (w3 : World), numsH s (m + 1) k at_ acc = none → Sep (fun _ => False) w0 w3 (PL rb nb tb (k + 1) (acc ++ [n] ++ List.replicate (11 - (k + 1)) 0)) → head_Parse.s46 Z Q (head_Parse.l19 Z Q (m + 1)) s ⟨tb, 0, none⟩ ⟨nb, 0, none⟩ (e : Int) (some ⟨rb, 0, none⟩) true w3 := fun w3 hn h3 => by
      unfold head_Parse.s46
      rw [pif_true]
      unfold readH at hq
      rw [← he, hn] at hq
      exact pw_zero h3 hq
    have good : ∀ (w3 : World), e ≠ at_ → (e < s.size → by_ s e = endC k) → (k < 10 → e ≠ s.size) → Sep (fun _ => False) w0 w3 (PL rb nb tb (k + 1) (acc ++ [n] ++ List.replicate (11 - (k + 1)) 0)) → head_Parse.s46 Z Q (head_Parse.l19 Z Q (m + 1)) s ⟨tb, 0, none⟩ ⟨nb, 0, none⟩ (e : Int) (some ⟨rb, 0, none⟩) false w3 := fun w3 g1 g2 g3 h3 => by
      unfold head_Parse.s46 head_Parse.s38
      rw [pif_false, wrap_nat1 (by omega)]
      rw [numsH_step hr g1 g2 g3] at he
      refine ih (k + 1) (e + 1) (acc ++ [n]) w3 (by omega) (by omega) (by rw [List.length_append, hl]; rfl) (fun x hx' => ?_) he h3
      rcases List.mem_append.1 hx' with hx' | hx'
      · exact hx x hx'
      · rw [List.mem_singleton.1 hx']; exact d4
    have no : (e = at_ ∨ (e < s.size ∧ by_ s e ≠ endC k) ∨ (k < 10 ∧ e = s.size)) → numsH s (m + 1) k at_ acc = none := fun g => by
      unfold numsH
      simp only [hr]
      rw [if_pos g]
    unfold head_Parse.s49
    rw [pif_beq]
    split
    · rename_i g
      exact bad w2 (no (.inl (by omega))) h2
    · rename_i g
      have g : e ≠ at_ := fun x => g (by omega)
      have last : (e < s.size → by_ s e = endC k) → pif (decide ((k : Int) < 10)) (head_Parse.s46 Z Q (head_Parse.l19 Z Q (m + 1)) s ⟨tb, 0, none⟩ ⟨nb, 0, none⟩ (e : Int) (some ⟨rb, 0, none⟩) ((e : Int) == ((s.size : Nat) : Int))) (head_Parse.s46 Z Q (head_Parse.l19 Z Q (m + 1)) s ⟨tb, 0, none⟩ ⟨nb, 0, none⟩ (e : Int) (some ⟨rb, 0, none⟩) false) w2 := fun g2 => by
        rw [pif_dec]
        split
        · rename_i hk10
          by_cases g3 : e = s.size
          · rw [show ((e : Int) == ((s.size : Nat) : Int)) = true by rw [g3]; simp]
            exact bad w2 (no (.inr (.inr ⟨by omega, g3⟩))) h2
          · rw [show ((e : Int) == ((s.size : Nat) : Int)) = false by rw [beq_eq_false_iff_ne]; omega]
            exact good w2 g g2 (fun _ => g3) h2
        · rename_i hk10
          exact good w2 g g2 (fun x => absurd x (by omega)) h2
      rw [pif_dec]
      split
      · rename_i hlt
        obtain ⟨b, hb1, hb2⟩ := byte_at (s := s) (i := e) (by omega)
        refine ixT_of (by omega) hb1 ?_
        rw [hb2, wrapU8, Nat.mod_eq_of_lt ec, pif_bne]
        split
        · rename_i g2
          exact last fun _ => g2
        · rename_i g2
          exact bad w2 (no (.inr (.inl ⟨by omega, g2⟩))) h2
      · rename_i hlt
        exact last fun x => absurd x (by omega)
theorem parse_cal {s : ByteArray} (hv : Places w) (hp : Pow10 w) (hq : ∀ w', Ext w w' → Q (encH (readH s).1) (readH s).2 w') :
    cal Tryd.prog Z 25 [.string s] (isT2 fun x y => (isN fun r0 => (isI .i64 fun r1 => Q r0 r1) y) x) w := by
  refine head_Parse.cal ?_
  unfold head_Parse.F head_Parse.s80
  refine (Sep.start (fun _ => False) w).new fun w1 tb h1 k1 => ?_
  refine h1.new fun w2 nb h2 k2 => ?_
  unfold head_Parse.s77
  refine h2.range fun w3 rb h3 => ?_
  exact exK_of 12 (pw_loop hv hp hq 11 0 0 [] w3 rfl (Nat.le_refl _) rfl (by simp) rfl h3)
end
end Go.Proofs.YtchhffabpgebmaaDoor
