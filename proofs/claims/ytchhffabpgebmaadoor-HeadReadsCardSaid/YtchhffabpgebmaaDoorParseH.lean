/-
  A text read as a header: plain functions (eleven numbers, and what stands between), and that a header's text comes to that header. No condition.
-/
import Derived.Test.YtchhffabpgebmaaDoorLaw1
import Derived.Test.YtchhffabpgebmaaDoorWlFlat
set_option linter.unusedVariables false
set_option linter.unusedSimpArgs false
namespace Go.Proofs.YtchhffabpgebmaaDoor
open Go.RowKit Extern.Stop
def isD (c : Int) : Prop := 48 ≤ c ∧ c ≤ 57
instance (c : Int) : Decidable (isD c) := by unfold isD; exact inferInstance
/-- At most so many digits from a place on: the number, and where they end. -/
def numD (s : ByteArray) : Nat → Nat → Nat → Nat × Nat
  | 0, at_, n => (n, at_)
  | m + 1, at_, n => if at_ < s.size ∧ isD (by_ s at_) then numD s m (at_ + 1) (n * 10 + ((by_ s at_).toNat - 48)) else (n, at_)
theorem numD_le (s : ByteArray) : ∀ m at_ n, at_ ≤ (numD s m at_ n).2 ∧ (numD s m at_ n).2 ≤ at_ + m ∧ (at_ ≤ s.size → (numD s m at_ n).2 ≤ s.size)
  | 0, at_, n => ⟨Nat.le_refl _, Nat.le_refl _, id⟩
  | m + 1, at_, n => by
    unfold numD
    split
    · have := numD_le s m (at_ + 1) (n * 10 + ((by_ s at_).toNat - 48))
      exact ⟨by omega, by omega, fun _ => this.2.2 (by omega)⟩
    · exact ⟨Nat.le_refl _, by simp only; omega, id⟩
theorem numD_lt (s : ByteArray) : ∀ m at_ n c, n < 10 ^ c → (numD s m at_ n).1 < 10 ^ (c + m)
  | 0, at_, n, c, h => h
  | m + 1, at_, n, c, h => by
    unfold numD
    split
    · rename_i hd
      have := numD_lt s m (at_ + 1) (n * 10 + ((by_ s at_).toNat - 48)) (c + 1) (by have := hd.2.2; rw [Nat.pow_succ]; omega)
      rwa [show c + 1 + m = c + (m + 1) by omega] at this
    · exact Nat.lt_of_lt_of_le h (Nat.pow_le_pow_right (by decide) (by omega))
def endC (k : Nat) : Nat := match k with | 0 => 46 | 1 => 46 | 2 => 46 | 3 => 58 | 4 => 62 | 5 => 46 | 6 => 46 | 7 => 46 | 8 => 58 | 9 => 47 | _ => 32
/-- The program's: each number, and what stands behind it. -/
def numsH (s : ByteArray) : Nat → Nat → Nat → List Nat → Option (List Nat)
  | 0, k, at_, acc => some acc
  | m + 1, k, at_, acc =>
    let r := numD s 6 at_ 0
    if r.2 = at_ ∨ (r.2 < s.size ∧ by_ s r.2 ≠ endC k) ∨ (k < 10 ∧ r.2 = s.size) then none else numsH s m (k + 1) (r.2 + 1) (acc ++ [r.1])
/-- The document's. -/
def numsR (s : ByteArray) : Nat → Nat → List Nat → List Nat
  | 0, at_, acc => acc
  | m + 1, at_, acc => numsR s m ((numD s 5 at_ 0).2 + 1) (acc ++ [(numD s 5 at_ 0).1])
def comb (a b c d : Nat) : Nat := ((((a * 16777216) ||| (b * 65536)) ||| (c * 256)) ||| d) % 4294967296
def headP (n : Nat → Nat) : List UInt8 := makeS (vals5 (comb (n 0) (n 1) (n 2) (n 3)) (comb (n 5) (n 6) (n 7) (n 8)) (n 4 % 65536) (n 9 % 65536) (n 10 % 256)) 5
def headR (n : Nat → Nat) : List UInt8 := makeS (vals5 (((n 0 * 256 + n 1) * 256 + n 2) * 256 + n 3) (((n 5 * 256 + n 6) * 256 + n 7) * 256 + n 8) (n 4) (n 9) (n 10)) 5
def ifText (s : ByteArray) (g : List UInt8) : List UInt8 × Int := if textL g = s.toList then (g, 0) else (h0, 12)
def readH (s : ByteArray) : List UInt8 × Int := match numsH s 11 0 0 [] with
  | none => (h0, 12)
  | some n => ifText s (headP fun i => n.getD i 0)
def rangeOk (n : Nat → Nat) (k : Nat) : Prop := if k % 5 = 4 then n k ≤ 65535 else n k ≤ 255
instance (n : Nat → Nat) (k : Nat) : Decidable (rangeOk n k) := by unfold rangeOk; exact inferInstance
def allOk (n : Nat → Nat) : Prop := ∀ k, k < 11 → rangeOk n k
instance (n : Nat → Nat) : Decidable (allOk n) := by unfold allOk; exact Nat.decidableBallLT 11 fun k _ => rangeOk n k
def readR (s : ByteArray) : List UInt8 × Int := if allOk (fun i => (numsR s 11 0 []).getD i 0) then ifText s (headR fun i => (numsR s 11 0 []).getD i 0) else (h0, 12)

/-! ### A header's text -/
theorem by_str {l : List UInt8} {i : Nat} (h : i < l.length) : by_ (strOf l) i = (l[i].toNat : Int) := by
  unfold by_
  have e : (strOf l)[i]? = some l[i] := by
    rw [getElem?_pos (strOf l) i (by rw [strOf_size]; exact h)]
    simp [strOf, ByteArray.getElem_eq_getElem_data]
  rw [e]; rfl
theorem by_app {a b : List UInt8} {i : Nat} (h : i < b.length) : by_ (strOf (a ++ b)) (a.length + i) = (b[i].toNat : Int) := by
  rw [by_str (by simp; omega)]
  rw [List.getElem_append_right (by omega)]
  simp
def valD (a : Nat) (d : UInt8) : Nat := a * 10 + (d.toNat - 48)
def valL (acc : Nat) (l : List UInt8) : Nat := l.foldl valD acc
theorem valL_app (l m : List UInt8) (acc : Nat) : valL acc (l ++ m) = valL (valL acc l) m := List.foldl_append
theorem valL_one (acc : Nat) (d : UInt8) : valL acc [d] = acc * 10 + (d.toNat - 48) := rfl
theorem valL_cons (acc : Nat) (d : UInt8) (r : List UInt8) : valL acc (d :: r) = valL (acc * 10 + (d.toNat - 48)) r := by rw [valL, List.foldl_cons]; rfl
theorem dig_nat {n : Nat} (h : n < 10) : (UInt8.ofNat (48 + n)).toNat = 48 + n := by
  rw [UInt8.toNat_ofNat', Nat.mod_eq_of_lt (by omega)]
theorem dec_spec : ∀ n, valL 0 (dec n) = n ∧ (∀ d ∈ dec n, 48 ≤ d.toNat ∧ d.toNat ≤ 57) ∧ 1 ≤ (dec n).length := by
  intro n
  induction n using Nat.strongRecOn with
  | ind n ih =>
    unfold dec Lib.decDigits
    split
    · rename_i h
      refine ⟨?_, ?_, by simp⟩
      · rw [valL_one, dig_nat h]; omega
      · intro d hd
        rw [List.mem_singleton.1 hd, dig_nat h]
        omega
    · rename_i h
      obtain ⟨h1, h2, h3⟩ := ih (n / 10) (by omega)
      simp only [dec] at h1 h2 h3
      have hm : n % 10 < 10 := Nat.mod_lt _ (by decide)
      refine ⟨?_, ?_, by simp⟩
      · rw [valL_app, h1, valL_one, dig_nat hm]; omega
      · intro d hd
        rcases List.mem_append.1 hd with hd | hd
        · exact h2 d hd
        · rw [List.mem_singleton.1 hd, dig_nat hm]
          omega
theorem numD_run {l : List UInt8} : ∀ (ds : List UInt8) (f at_ acc : Nat), (∀ d ∈ ds, 48 ≤ d.toNat ∧ d.toNat ≤ 57) → (∀ i (h : i < ds.length), ∃ h' : at_ + i < l.length, l[at_ + i] = ds[i]) → numD (strOf l) (ds.length + f) at_ acc = numD (strOf l) f (at_ + ds.length) (valL acc ds)
  | [], f, at_, acc, _, _ => by rw [List.length_nil, Nat.zero_add, Nat.add_zero]; rfl
  | d :: r, f, at_, acc, h1, h2 => by
    obtain ⟨h', e⟩ := h2 0 (by simp)
    have hd := h1 d (by simp)
    have eb : by_ (strOf l) at_ = (d.toNat : Int) := by
      rw [by_str (by simpa using h')]
      simp only [Nat.add_zero, List.getElem_cons_zero] at e
      rw [e]
    rw [List.length_cons, show r.length + 1 + f = r.length + f + 1 by omega]
    conv => lhs; unfold numD
    rw [if_pos ⟨by rw [strOf_size]; simpa using h', by rw [eb]; exact ⟨by omega, by omega⟩⟩, eb]
    have hr : ∀ i (h : i < r.length), ∃ h' : at_ + 1 + i < l.length, l[at_ + 1 + i] = r[i] := fun i hi => by
      obtain ⟨g, e⟩ := h2 (i + 1) (by rw [List.length_cons]; omega)
      refine ⟨by omega, ?_⟩
      rw [List.getElem_cons_succ] at e
      rw [← e]
      congr 1; omega
    have := numD_run r f (at_ + 1) (acc * 10 + (d.toNat - 48)) (fun x hx => h1 x (List.mem_cons_of_mem _ hx)) hr
    rw [show ((d.toNat : Int)).toNat - 48 = d.toNat - 48 by omega, this, show at_ + 1 + r.length = at_ + (r.length + 1) by omega, valL_cons]
/-- A numeral is read back. -/
theorem numD_dec {a b : List UInt8} {n f : Nat} (hf : (dec n).length ≤ f) (hb' : ∀ x ∈ b.head?, ¬ (48 ≤ x.toNat ∧ x.toNat ≤ 57)) : numD (strOf (a ++ dec n ++ b)) f a.length 0 = (n, a.length + (dec n).length) := by
  obtain ⟨h1, h2, h3⟩ := dec_spec n
  obtain ⟨g, rfl⟩ : ∃ g, f = (dec n).length + g := ⟨f - (dec n).length, by omega⟩
  rw [numD_run (dec n) g a.length 0 h2 (fun i hi => ⟨by simp; omega, by
    rw [List.getElem_append_left (by simp; omega), List.getElem_append_right (by omega)]
    simp⟩), h1]
  cases g with
  | zero => rfl
  | succ g =>
    unfold numD
    rw [if_neg]
    rintro ⟨g1, g2⟩
    rw [strOf_size] at g1
    cases b with
    | nil => simp at g1
    | cons x b =>
      have := by_app (a := a ++ dec n) (b := x :: b) (i := 0) (by simp)
      rw [List.length_append, Nat.add_zero] at this
      rw [this] at g2
      refine hb' x (by simp) ?_
      simp only [List.getElem_cons_zero, isD] at g2
      omega
/-- The eleven numbers of a header. -/
def v11 (h : List UInt8) (k : Nat) : Nat := match k with | 0 => hb h 0 | 1 => hb h 1 | 2 => hb h 2 | 3 => hb h 3 | 4 => portV h 0 | 5 => hb h 4 | 6 => hb h 5 | 7 => hb h 6 | 8 => hb h 7 | 9 => portV h 1 | _ => hb h 12
def segs (h : List UInt8) : Nat → List UInt8
  | 0 => []
  | k + 1 => segs h k ++ dec (v11 h k) ++ [UInt8.ofNat (endC k)]
theorem text_segs (h : List UInt8) : textL h = segs h 10 ++ dec (v11 h 10) := by
  unfold textL
  simp only [pre, segs, v11, sepN, tailK, endC]
  simp
theorem v11_len (h : List UInt8) {k : Nat} (hk : k < 11) : (dec (v11 h k)).length ≤ 5 := by
  have d := dec_hb h
  have p0 := dec_port (h := h) (j := 0) (by decide)
  have p1 := dec_port (h := h) (j := 1) (by decide)
  have d0 := d 0; have d1 := d 1; have d2 := d 2; have d3 := d 3; have d4 := d 4; have d5 := d 5; have d6 := d 6; have d7 := d 7; have d12 := d 12
  unfold v11
  split <;> omega
theorem endC_no (k : Nat) : ¬ (48 ≤ (UInt8.ofNat (endC k)).toNat ∧ (UInt8.ofNat (endC k)).toNat ≤ 57) ∧ (UInt8.ofNat (endC k)).toNat = endC k := by
  unfold endC
  split <;> decide
/-- What stands behind the k-th number. -/
theorem text_at (h : List UInt8) : ∀ {k : Nat}, k < 11 → ∃ b, textL h = segs h k ++ dec (v11 h k) ++ b ∧ (k = 10 → b = []) ∧ (k < 10 → ∃ r, b = UInt8.ofNat (endC k) :: r) := by
  have key : ∀ j k, k + j = 10 → ∃ b, textL h = segs h k ++ dec (v11 h k) ++ b ∧ (k = 10 → b = []) ∧ (k < 10 → ∃ r, b = UInt8.ofNat (endC k) :: r) := by
    intro j
    induction j with
    | zero =>
      intro k hk
      have : k = 10 := by omega
      subst this
      exact ⟨[], by rw [text_segs]; simp, fun _ => rfl, fun g => by omega⟩
    | succ j ih =>
      intro k hk
      obtain ⟨b, e, _⟩ := ih (k + 1) (by omega)
      refine ⟨UInt8.ofNat (endC k) :: (dec (v11 h (k + 1)) ++ b), ?_, fun g => by omega, fun _ => ⟨_, rfl⟩⟩
      rw [e, segs]
      simp
  intro k hk
  exact key (10 - k) k (by omega)
theorem num_at (h : List UInt8) {k f : Nat} (hk : k < 11) (hf : 5 ≤ f) : numD (strOf (textL h)) f (segs h k).length 0 = (v11 h k, (segs h k).length + (dec (v11 h k)).length) := by
  obtain ⟨b, e, e1, e2⟩ := text_at h hk
  rw [e]
  refine numD_dec (Nat.le_trans (v11_len h hk) hf) fun x hx => ?_
  rcases Nat.lt_or_ge k 10 with g | g
  · obtain ⟨r, rfl⟩ := e2 g
    simp at hx
    subst hx
    exact (endC_no k).1
  · rw [e1 (by omega)] at hx
    cases hx
def upto11 (h : List UInt8) (k : Nat) : List Nat := (List.range k).map (v11 h)
theorem upto_succ (h : List UInt8) (k : Nat) : upto11 h (k + 1) = upto11 h k ++ [v11 h k] := by simp [upto11, List.range_succ]
theorem numsH_zero (s : ByteArray) (k at_ : Nat) (acc : List Nat) : numsH s 0 k at_ acc = some acc := by unfold numsH; rfl
theorem numsH_step {s : ByteArray} {m k at_ n e : Nat} {acc : List Nat} (hr : numD s 6 at_ 0 = (n, e)) (h1 : e ≠ at_) (h2 : e < s.size → by_ s e = endC k) (h3 : k < 10 → e ≠ s.size) : numsH s (m + 1) k at_ acc = numsH s m (k + 1) (e + 1) (acc ++ [n]) := by
  conv => lhs; unfold numsH
  simp only [hr]
  rw [if_neg]
  rintro (g | ⟨g1, g2⟩ | ⟨g1, g2⟩)
  · exact h1 g
  · exact g2 (h2 g1)
  · exact h3 g1 g2
theorem segs_next (h : List UInt8) (k : Nat) : (segs h (k + 1)).length = (segs h k).length + (dec (v11 h k)).length + 1 := by
  rw [segs, List.length_append, List.length_append]; rfl
theorem numsH_text (h : List UInt8) : ∀ m k, k + m = 11 → numsH (strOf (textL h)) m k (segs h k).length (upto11 h k) = some (upto11 h 11)
  | 0, k, hk => by
    have : k = 11 := by omega
    rw [numsH_zero, this]
  | m + 1, k, hk => by
    obtain ⟨b, e, e1, e2⟩ := text_at h (show k < 11 by omega)
    have hd := (dec_spec (v11 h k)).2.2
    have hsz : (strOf (textL h)).size = (segs h k).length + (dec (v11 h k)).length + b.length := by rw [strOf_size, e, List.length_append, List.length_append]
    rw [numsH_step (num_at h (by omega) (by decide)) (by omega) (fun g1 => ?_) (fun g1 g2 => ?_), ← segs_next, ← upto_succ]
    · exact numsH_text h m (k + 1) (by omega)
    · rcases Nat.lt_or_ge k 10 with g | g
      · obtain ⟨r, rfl⟩ := e2 g
        have := by_app (a := segs h k ++ dec (v11 h k)) (b := UInt8.ofNat (endC k) :: r) (i := 0) (by rw [List.length_cons]; omega)
        rw [List.length_append, Nat.add_zero, List.getElem_cons_zero, (endC_no k).2] at this
        rw [e]
        exact this
      · rw [e1 (by omega), List.length_nil] at hsz
        omega
    · obtain ⟨r, rfl⟩ := e2 g1
      rw [List.length_cons] at hsz
      omega
theorem numsR_text (h : List UInt8) : ∀ m k, k + m = 11 → numsR (strOf (textL h)) m (segs h k).length (upto11 h k) = upto11 h 11
  | 0, k, hk => by
    have : k = 11 := by omega
    unfold numsR
    rw [this]
  | m + 1, k, hk => by
    conv => lhs; unfold numsR
    rw [num_at h (by omega) (by decide)]
    simp only
    rw [← segs_next, ← upto_succ]
    exact numsR_text h m (k + 1) (by omega)
theorem qm_apart' {n m : Nat} (h : n < m) (hm : m < 5) : qF n + mF n ≤ qF m := by
  have key : ∀ m, m < 5 → ∀ n, n < m → qF n + mF n ≤ qF m := by decide
  exact key m hm n h
/-- A header is made of its own numbers. -/
theorem make_fields {h : List UInt8} (hl : h.length = 13) {v : Nat → Nat} (hv : ∀ n, n < 5 → v n = fN' h n) : makeS v 5 = h := by
  have vv : ∀ n, n < 5 → v n < 2 ^ (8 * mF n) := fun n hn => by rw [hv n hn]; exact field_lt h _ _
  refine hd_ext (makeS_len v 5) hl fun k hk => ?_
  have key : ∀ m, m ≤ 5 → ∀ n, n < m → 8 * qF n ≤ k → k < 8 * (qF n + mF n) → bitS (makeS v m) k = bitS h k := by
    intro m
    induction m with
    | zero => intro _ n h; omega
    | succ m ih =>
      intro hm n hn h1 h2
      have hqm := qm_le m
      rw [makeS, bit_putB _ _ _ _ _ (by rw [makeS_len]; omega)]
      by_cases e : n = m
      · subst e
        rw [if_pos ⟨h1, h2⟩, hv n (by omega)]
        unfold fN'
        rw [bit_field (by omega)]
        congr 1
        omega
      · have := qm_apart' (n := n) (m := m) (by omega) (by omega)
        rw [if_neg (by omega)]
        exact ih (by omega) n (by omega) h1 h2
  have : ∃ n, n < 5 ∧ 8 * qF n ≤ k ∧ k < 8 * (qF n + mF n) := by
    rcases Nat.lt_or_ge k 32 with g | g
    · exact ⟨0, by decide, by simp [qF], by simpa [qF, mF] using g⟩
    rcases Nat.lt_or_ge k 64 with g1 | g1
    · exact ⟨1, by decide, by simpa [qF] using g, by simpa [qF, mF] using g1⟩
    rcases Nat.lt_or_ge k 80 with g2 | g2
    · exact ⟨2, by decide, by simpa [qF] using g1, by simpa [qF, mF] using g2⟩
    rcases Nat.lt_or_ge k 96 with g3 | g3
    · exact ⟨3, by decide, by simpa [qF] using g2, by simpa [qF, mF] using g3⟩
    · exact ⟨4, by decide, by simpa [qF] using g3, by simpa [qF, mF] using hk⟩
  obtain ⟨n, h1, h2, h3⟩ := this
  exact key 5 (Nat.le_refl _) n h1 h2 h3
theorem comb_eq {a b c d : Nat} (ha : a < 256) (hb' : b < 256) (hc : c < 256) (hd : d < 256) : comb a b c d = ((a * 256 + b) * 256 + c) * 256 + d := by
  unfold comb
  have e1 := Nat.two_pow_add_eq_or_of_lt (i := 24) (b := b * 65536) (show b * 65536 < 2 ^ 24 by omega) a
  have e2 := Nat.two_pow_add_eq_or_of_lt (i := 16) (b := c * 256) (show c * 256 < 2 ^ 16 by omega) (a * 256 + b)
  have e3 := Nat.two_pow_add_eq_or_of_lt (i := 8) (b := d) (show d < 2 ^ 8 from hd) ((a * 256 + b) * 256 + c)
  rw [show a * 16777216 = 2 ^ 24 * a by omega, ← e1, show 2 ^ 24 * a + b * 65536 = 2 ^ 16 * (a * 256 + b) by omega, ← e2, show 2 ^ 16 * (a * 256 + b) + c * 256 = 2 ^ 8 * ((a * 256 + b) * 256 + c) by omega, ← e3]
  omega
theorem v11_at {h : List UInt8} {i : Nat} (hi : i < 11) : (upto11 h 11).getD i 0 = v11 h i := by
  rw [List.getD_eq_getElem?_getD]
  simp [upto11, hi]
theorem fields_v {h : List UInt8} : fN' h 0 = ((hb h 0 * 256 + hb h 1) * 256 + hb h 2) * 256 + hb h 3 ∧ fN' h 1 = ((hb h 4 * 256 + hb h 5) * 256 + hb h 6) * 256 + hb h 7 ∧ fN' h 4 = hb h 12 ∧ fN' h 2 = portV h 0 ∧ fN' h 3 = portV h 1 := by
  refine ⟨?_, ?_, ?_, rfl, rfl⟩ <;> · unfold fN'; rw [field_bytes]; simp [bytesS, qF, mF]
theorem readH_text {h : List UInt8} (hl : h.length = 13) : readH (strOf (textL h)) = (h, 0) := by
  have b := hb_lt h
  obtain ⟨f0, f1, f4, f2, f3⟩ := fields_v (h := h)
  unfold readH
  have := numsH_text h 11 0 (by omega)
  rw [show (segs h 0).length = 0 from rfl, show upto11 h 0 = [] from rfl] at this
  rw [this]
  simp only
  have e : headP (fun i => (upto11 h 11).getD i 0) = h := by
    unfold headP
    refine make_fields hl fun n hn => ?_
    simp only [v11_at (show 0 < 11 by decide), v11_at (show 1 < 11 by decide), v11_at (show 2 < 11 by decide), v11_at (show 3 < 11 by decide), v11_at (show 4 < 11 by decide), v11_at (show 5 < 11 by decide), v11_at (show 6 < 11 by decide), v11_at (show 7 < 11 by decide), v11_at (show 8 < 11 by decide), v11_at (show 9 < 11 by decide), v11_at (show 10 < 11 by decide), v11]
    rw [comb_eq (b 0) (b 1) (b 2) (b 3), comb_eq (b 4) (b 5) (b 6) (b 7), Nat.mod_eq_of_lt (portV_lt (h := h) (j := 0) (by decide)), Nat.mod_eq_of_lt (portV_lt (h := h) (j := 1) (by decide)), Nat.mod_eq_of_lt (b 12)]
    match n, hn with
    | 0, _ => exact f0.symm
    | 1, _ => exact f1.symm
    | 2, _ => exact f2.symm
    | 3, _ => exact f3.symm
    | 4, _ => exact f4.symm
  rw [e]
  unfold ifText
  rw [if_pos (by rw [strOf_toList])]
theorem readR_text {h : List UInt8} (hl : h.length = 13) : readR (strOf (textL h)) = (h, 0) := by
  have b := hb_lt h
  have p0 := portV_lt (h := h) (j := 0) (by decide)
  have p1 := portV_lt (h := h) (j := 1) (by decide)
  obtain ⟨f0, f1, f4, f2, f3⟩ := fields_v (h := h)
  unfold readR
  have := numsR_text h 11 0 (by omega)
  rw [show (segs h 0).length = 0 from rfl, show upto11 h 0 = [] from rfl] at this
  rw [this]
  have hr : allOk (fun i => (upto11 h 11).getD i 0) := fun k hk => by
    unfold rangeOk
    simp only [v11_at hk]
    have b0 := b 0; have b1 := b 1; have b2 := b 2; have b3 := b 3; have b4 := b 4; have b5 := b 5; have b6 := b 6; have b7 := b 7; have b12 := b 12
    match k, hk with
    | 0, _ => simp [v11]; omega
    | 1, _ => simp [v11]; omega
    | 2, _ => simp [v11]; omega
    | 3, _ => simp [v11]; omega
    | 4, _ => simp [v11]; omega
    | 5, _ => simp [v11]; omega
    | 6, _ => simp [v11]; omega
    | 7, _ => simp [v11]; omega
    | 8, _ => simp [v11]; omega
    | 9, _ => simp [v11]; omega
    | 10, _ => simp [v11]; omega
  rw [if_pos hr]
  have e : headR (fun i => (upto11 h 11).getD i 0) = h := by
    unfold headR
    refine make_fields hl fun n hn => ?_
    simp only [v11_at (show 0 < 11 by decide), v11_at (show 1 < 11 by decide), v11_at (show 2 < 11 by decide), v11_at (show 3 < 11 by decide), v11_at (show 4 < 11 by decide), v11_at (show 5 < 11 by decide), v11_at (show 6 < 11 by decide), v11_at (show 7 < 11 by decide), v11_at (show 8 < 11 by decide), v11_at (show 9 < 11 by decide), v11_at (show 10 < 11 by decide), v11]
    match n, hn with
    | 0, _ => exact f0.symm
    | 1, _ => exact f1.symm
    | 2, _ => exact f2.symm
    | 3, _ => exact f3.symm
    | 4, _ => exact f4.symm
  rw [e]
  unfold ifText
  rw [if_pos (by rw [strOf_toList])]
theorem headP_len (n : Nat → Nat) : (headP n).length = 13 := makeS_len _ 5
theorem headR_len (n : Nat → Nat) : (headR n).length = 13 := makeS_len _ 5
/-- Both read the same. -/
theorem read_same (s : ByteArray) : readH s = readR s := by
  by_cases h : ∃ g : List UInt8, g.length = 13 ∧ textL g = s.toList
  · obtain ⟨g, hg, e⟩ := h
    have es : s = strOf (textL g) := by
      apply ByteArray.ext
      rw [e]
      simp [strOf, ByteArray.toList_eq]
    rw [es, readH_text hg, readR_text hg]
  · have no : ∀ g : List UInt8, g.length = 13 → ifText s g = (h0, 12) := fun g hg => by
      unfold ifText
      rw [if_neg (fun e => h ⟨g, hg, e⟩)]
    have e1 : readH s = (h0, 12) := by
      unfold readH
      split
      · rfl
      · exact no _ (headP_len _)
    have e2 : readR s = (h0, 12) := by
      unfold readR
      split
      · exact no _ (headR_len _)
      · rfl
    rw [e1, e2]
end Go.Proofs.YtchhffabpgebmaaDoor
