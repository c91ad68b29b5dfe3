/-
  The plain law of ParseMany: so many lines of ten bytes parse to so many lines, or the 65th is told. No condition.
-/
import Derived.Test.YtimdpeolfhaajaaLaw3
set_option linter.unusedVariables false
set_option linter.unusedSimpArgs false
namespace Go.Proofs.Ytimdpeolfhaajaa
open Go.RowKit
def ten : ByteArray := ⟨#[49, 32, 45, 62, 32, 100, 114, 111, 112, 10]⟩
def repT : Nat → ByteArray
  | 0 => ⟨#[]⟩
  | n + 1 => repT n ++ ten
theorem ten_size : ten.size = 10 := rfl
theorem repT_size : ∀ n, (repT n).size = 10 * n
  | 0 => rfl
  | n + 1 => by rw [repT, ByteArray.size_append, repT_size n, ten_size]; omega
theorem by_left {a b : ByteArray} {i : Nat} (h : i < a.size) : by_ (a ++ b) i = by_ a i := by
  unfold by_
  rw [getElem?_pos (a ++ b) i (by rw [ByteArray.size_append]; omega), getElem?_pos a i h, ByteArray.getElem_append_left h]
theorem by_right {a b : ByteArray} {i : Nat} (h : i < b.size) : by_ (a ++ b) (a.size + i) = by_ b i := by
  unfold by_
  rw [getElem?_pos (a ++ b) (a.size + i) (by rw [ByteArray.size_append]; omega), getElem?_pos b i h, ByteArray.getElem_append_right (by omega)]
  simp
theorem by_rep : ∀ {n k j : Nat}, k < n → j < 10 → by_ (repT n) (10 * k + j) = by_ ten j
  | 0, k, j, h, _ => by omega
  | n + 1, k, j, h, hj => by
    rw [repT]
    rcases Nat.lt_or_ge k n with g | g
    · rw [by_left (by rw [repT_size]; omega)]
      exact by_rep g hj
    · have hk : k = n := by omega
      subst hk
      have := by_right (a := repT k) (b := ten) (i := j) (by rw [ten_size]; omega)
      rw [repT_size] at this
      exact this
section
variable {p : Int → Bool} {s : ByteArray}
theorem runEnd_stop {f i : Nat} (h : p (by_ s i) = false) : runEnd p s f i = i := by
  cases f with
  | zero => rfl
  | succ f => unfold runEnd; rw [if_neg (by rw [h]; simp)]
theorem runEnd_go {f i : Nat} (hi : i < s.size) (h : p (by_ s i) = true) : runEnd p s (f + 1) i = runEnd p s f (i + 1) := by
  conv => lhs; unfold runEnd
  rw [if_pos ⟨hi, h⟩]
end
def lineK (s : ByteArray) (k : Nat) : List Tk := [⟨2, (10 * k : Nat), noText, 1⟩, ⟨6, (10 * k + 2 : Nat), noText, 0⟩, ⟨1, (10 * k + 5 : Nat), s.extract (10 * k + 5) (10 * k + 9), 0⟩, ⟨7, (10 * k + 9 : Nat), noText, 0⟩]
section
variable {n k : Nat}
theorem step0 (h : k < n) : lexStep (repT n) (10 * k) = (some ⟨2, (10 * k : Nat), noText, 1⟩, 10 * k + 1, 0) := by
  have hs := repT_size n
  have b0 : by_ (repT n) (10 * k) = 49 := by_rep (j := 0) h (by omega)
  have b1 : by_ (repT n) (10 * k + 1) = 32 := by_rep (j := 1) h (by omega)
  have hr : runEnd digitB (repT n) ((repT n).size - (10 * k + 1)) (10 * k + 1) = 10 * k + 1 := runEnd_stop (by rw [b1]; decide)
  have hv : numV ((repT n).extract (10 * k) (10 * k + 1)) = 1 := by
    have e : by_ ((repT n).extract (10 * k) (10 * k + 1)) 0 = 49 := by rw [by_extract (by omega) (by omega)]; exact b0
    have z : ((repT n).extract (10 * k) (10 * k + 1)).size = 1 := by rw [ByteArray.size_extract]; omega
    unfold numV
    rw [z, if_neg (by omega)]
    simp [valU, e]
  unfold lexStep
  simp only [b0, hr, hv, show kindOf 49 = 2 from by decide]
  simp
theorem step1 {j : Nat} (h : k < n) (hj : j = 1 ∨ j = 4) : lexStep (repT n) (10 * k + j) = (none, 10 * k + j + 1, 0) := by
  have b : by_ (repT n) (10 * k + j) = 32 := by
    rcases hj with rfl | rfl
    · exact by_rep (j := 1) h (by omega)
    · exact by_rep (j := 4) h (by omega)
  unfold lexStep
  simp only [b, show kindOf 32 = 0 from by decide]
  simp
theorem step2 (h : k < n) : lexStep (repT n) (10 * k + 2) = (some ⟨6, (10 * k + 2 : Nat), noText, 0⟩, 10 * k + 4, 0) := by
  have hs := repT_size n
  have b0 : by_ (repT n) (10 * k + 2) = 45 := by_rep (j := 2) h (by omega)
  have b1 : by_ (repT n) (10 * k + 2 + 1) = 62 := by_rep (j := 3) h (by omega)
  unfold lexStep
  simp only [b0, b1, show kindOf 45 = 5 from by decide]
  simp
  omega
theorem step5 (h : k < n) : lexStep (repT n) (10 * k + 5) = (some ⟨1, (10 * k + 5 : Nat), (repT n).extract (10 * k + 5) (10 * k + 9), 0⟩, 10 * k + 9, 0) := by
  have hs := repT_size n
  have b0 : by_ (repT n) (10 * k + 5) = 100 := by_rep (j := 5) h (by omega)
  have b1 : by_ (repT n) (10 * k + 6) = 114 := by_rep (j := 6) h (by omega)
  have b2 : by_ (repT n) (10 * k + 7) = 111 := by_rep (j := 7) h (by omega)
  have b3 : by_ (repT n) (10 * k + 8) = 112 := by_rep (j := 8) h (by omega)
  have b4 : by_ (repT n) (10 * k + 9) = 10 := by_rep (j := 9) h (by omega)
  have hr : runEnd wordB (repT n) ((repT n).size - (10 * k + 5 + 1)) (10 * k + 5 + 1) = 10 * k + 9 := by
    obtain ⟨f, hf⟩ : ∃ f, (repT n).size - (10 * k + 5 + 1) = f + 3 := ⟨(repT n).size - (10 * k + 9), by omega⟩
    rw [hf, runEnd_go (by omega) (by rw [b1]; decide), runEnd_go (by omega) (by rw [b2]; decide), runEnd_go (by omega) (by rw [b3]; decide)]
    exact runEnd_stop (by rw [b4]; decide)
  unfold lexStep
  simp only [b0, hr, show kindOf 100 = 1 from by decide]
  simp
theorem step9 (h : k < n) : lexStep (repT n) (10 * k + 9) = (some ⟨7, (10 * k + 9 : Nat), noText, 0⟩, 10 * k + 10, 0) := by
  have b0 : by_ (repT n) (10 * k + 9) = 10 := by_rep (j := 9) h (by omega)
  unfold lexStep
  simp only [b0, show kindOf 10 = 7 from by decide]
  simp
theorem lexAll_step {s : ByteArray} {f i j : Nat} {l : List Tk} {t : Option Tk} (hi : i < s.size) (h : lexStep s i = (t, j, 0)) : lexAll s (f + 1) i l = lexAll s f j (push l t) := by
  conv => lhs; unfold lexAll
  rw [if_pos hi, h]
  simp
theorem lex_line {f : Nat} {l : List Tk} (h : k < n) : lexAll (repT n) (f + 6) (10 * k) l = lexAll (repT n) f (10 * (k + 1)) (l ++ lineK (repT n) k) := by
  have hs := repT_size n
  rw [lexAll_step (by omega) (step0 h), lexAll_step (by omega) (step1 h (.inl rfl)), lexAll_step (by omega) (step2 h), lexAll_step (by omega) (step1 h (.inr rfl)), lexAll_step (by omega) (step5 h), lexAll_step (by omega) (step9 h)]
  simp [push, lineK]
  rfl
end
def linesK (s : ByteArray) : Nat → List Tk
  | 0 => []
  | k + 1 => linesK s k ++ lineK s k
theorem linesK_len (s : ByteArray) : ∀ k, (linesK s k).length = 4 * k
  | 0 => rfl
  | k + 1 => by rw [linesK, List.length_append, linesK_len s k]; simp [lineK]; omega
theorem linesK_at {s : ByteArray} : ∀ {n k j : Nat}, k < n → j < 4 → (linesK s n)[4 * k + j]? = (lineK s k)[j]?
  | 0, k, j, h, _ => by omega
  | n + 1, k, j, h, hj => by
    rw [linesK]
    rcases Nat.lt_or_ge k n with g | g
    · rw [List.getElem?_append_left (by rw [linesK_len]; omega)]
      exact linesK_at g hj
    · have hk : k = n := by omega
      subst hk
      rw [List.getElem?_append_right (by rw [linesK_len]; omega), linesK_len]
      congr 1; omega
theorem lex_rep {n : Nat} : ∀ {m k f : Nat}, k + m = n → 6 * m ≤ f → lexAll (repT n) f (10 * k) (linesK (repT n) k) = (linesK (repT n) n, 0, 0)
  | 0, k, f, h, hf => by
    have hk : k = n := by omega
    subst hk
    have hs := repT_size k
    cases f with
    | zero => rfl
    | succ f => unfold lexAll; rw [if_neg (by omega)]
  | m + 1, k, f, h, hf => by
    obtain ⟨f, rfl⟩ : ∃ g, f = g + 6 := ⟨f - 6, by omega⟩
    rw [lex_line (by omega)]
    exact lex_rep (m := m) (k := k + 1) (by omega) (by omega)
theorem lexS_rep {n : Nat} (h : n ≤ 127) : lexS (repT n) = (linesK (repT n) n, 0, 0) := by
  have hs := repT_size n
  unfold lexS
  rw [if_neg (by omega)]
  exact lex_rep (n := n) (m := n) (k := 0) (by omega) (by omega)
section
variable {n k : Nat} {en : Int}
theorem peek_rep {j : Nat} {t : Tk} (h : k < n) (hj : j < 4) (ht : (lineK (repT n) k)[j]? = some t) : peekS (linesK (repT n) n) en (4 * k + j) = t := by
  have hl := linesK_len (repT n) n
  unfold peekS
  rw [if_pos (by omega), linesK_at h hj, ht]; rfl
theorem list_ext4 {l : List UInt8} (h : l.length = 4) : l = [l[0], l[1], l[2], l[3]] := by
  match l, h with
  | [a, b, c, d], _ => rfl
theorem same_of {a b : ByteArray} (hs : a.size = b.size) (h : ∀ i, i < a.size → by_ a i = by_ b i) : same a b = true := by
  have e : a = b := by
    refine ByteArray.ext (Array.ext hs fun i h1 h2 => ?_)
    have := h i h1
    unfold by_ at this
    rw [getElem?_pos a i h1, getElem?_pos b i h2] at this
    simp only [Option.getD_some, ByteArray.getElem_eq_getElem_data] at this
    exact UInt8.toNat_inj.1 (by omega)
  unfold same
  rw [e]
  exact beq_self_eq_true _
theorem same_drop (h : k < n) : same ((repT n).extract (10 * k + 5) (10 * k + 9)) wDrop = true := by
  have hs := repT_size n
  have z : ((repT n).extract (10 * k + 5) (10 * k + 9)).size = 4 := by rw [ByteArray.size_extract]; omega
  refine same_of (by rw [z]; rfl) fun i hi => ?_
  rw [z] at hi
  rw [by_extract (by omega) (by omega)]
  have := by_rep (n := n) (k := k) (j := 5 + i) h (by omega)
  rw [← Nat.add_assoc] at this
  rw [this]
  match i, hi with
  | 0, _ => rfl
  | 1, _ => rfl
  | 2, _ => rfl
  | 3, _ => rfl
theorem line_rep (h : k < n) : ∃ x, lineS (linesK (repT n) n) en (4 * k) = .ok x (4 * k + 3) := by
  have p0 := peek_rep (en := en) (j := 0) h (by omega) rfl
  have p1 := peek_rep (en := en) (j := 1) h (by omega) rfl
  have p2 := peek_rep (en := en) (j := 2) h (by omega) rfl
  have p3 := peek_rep (en := en) (j := 3) h (by omega) rfl
  have hd := same_drop h
  have hf : figS (linesK (repT n) n) en (4 * k) = .ok ⟨1, (10 * k : Nat)⟩ (4 * k + 1) := by
    unfold figS wantS
    rw [Nat.add_zero] at p0
    rw [p0]; rfl
  have hc : ∀ m, clausesS (linesK (repT n) n) en m (4 * k + 1) [] = .ok [] (4 * k + 1) := fun m => by
    cases m with
    | zero => rfl
    | succ m => unfold clausesS; rw [p1, if_neg (by simp)]
  unfold lineS
  rw [Nat.add_zero] at p0
  simp only
  rw [p0, if_neg (by simp), hf]
  simp only
  rw [hc]
  simp only
  unfold actS wantS
  rw [p1, if_neg (by simp)]
  simp only
  rw [show 4 * k + 1 + 1 = 4 * k + 2 from rfl, p2, if_pos ⟨rfl, hd⟩]
  unfold tailS
  rw [show 4 * k + 2 + 1 = 4 * k + 3 from rfl, p3, if_neg (by simp)]
  exact ⟨_, rfl⟩
theorem lines_rep : ∀ {m k f : Nat} {out : List Rw}, k + m = n → 2 * m ≤ f → out.length = k → k ≤ 64 → (n ≤ 64 → ∃ o j, linesS (linesK (repT n) n) en f (4 * k) out = .ok o j ∧ o.length = n) ∧ (64 < n → linesS (linesK (repT n) n) en f (4 * k) out = .no 4 640)
  | 0, k, f, out, h, hf, ho, h64 => by
    have hk : k = n := by omega
    subst hk
    have hl := linesK_len (repT k) k
    refine ⟨fun _ => ⟨out, 4 * k, ?_, ho⟩, fun g => by omega⟩
    cases f with
    | zero => rfl
    | succ f => unfold linesS; rw [if_neg (by omega)]
  | m + 1, k, f, out, h, hf, ho, h64 => by
    have hl := linesK_len (repT n) n
    obtain ⟨f, rfl⟩ : ∃ g, f = g + 2 := ⟨f - 2, by omega⟩
    have p0 := peek_rep (n := n) (k := k) (en := en) (j := 0) (by omega) (by omega) rfl
    have p3 := peek_rep (n := n) (k := k) (en := en) (j := 3) (by omega) (by omega) rfl
    rw [Nat.add_zero] at p0
    obtain ⟨x, hx⟩ := line_rep (n := n) (k := k) (en := en) (by omega)
    have step : k ≠ 64 → linesS (linesK (repT n) n) en (f + 2) (4 * k) out = linesS (linesK (repT n) n) en f (4 * (k + 1)) (out ++ [x]) := fun hk => by
      conv => lhs; unfold linesS
      rw [if_pos (by omega), p0, if_neg (by simp), if_neg (by omega), hx]
      simp only
      conv => lhs; unfold linesS
      rw [if_pos (by omega), p3, if_pos rfl]
      rfl
    rcases Nat.lt_or_ge k 64 with g | g
    · rw [step (by omega)]
      exact lines_rep (m := m) (k := k + 1) (by omega) (by omega) (by simp [ho]) (by omega)
    · refine ⟨fun _ => by omega, fun _ => ?_⟩
      have hk : k = 64 := by omega
      unfold linesS
      rw [if_pos (by omega), p0, if_neg (by simp), if_pos (by omega)]
      simp [hk]
end
theorem parse_rep {n : Nat} (h : n ≤ 127) : (n ≤ 64 → (parseS (repT n)).1.length = n ∧ (parseS (repT n)).2.1 = 0) ∧ (64 < n → parseS (repT n) = ([], 4, 640)) := by
  have hl := linesK_len (repT n) n
  unfold parseS
  rw [lexS_rep h, if_neg (by simp)]
  obtain ⟨h1, h2⟩ := lines_rep (n := n) (en := (repT n).size) (m := n) (k := 0) (f := (linesK (repT n) n).length) (out := []) (by omega) (by omega) rfl (by omega)
  rw [Nat.mul_zero] at h1 h2
  refine ⟨fun g => ?_, fun g => ?_⟩
  · obtain ⟨o, j, ho, hn⟩ := h1 g
    simp only [ho]
    exact ⟨hn, trivial⟩
  · simp only [h2 g]
end Go.Proofs.Ytimdpeolfhaajaa
