/-
  A text's tokens: the code's reader (package lex) comes to 'lexS'. No condition.
-/
import Derived.Test.YtllgjjldnnmjkaaDoorLexS
import Derived.Test.YtllgjjldnnmjkaaDoorCodeLex
set_option linter.unusedVariables false
set_option linter.unusedSimpArgs false
set_option maxRecDepth 100000
namespace Go.Proofs.YtllgjjldnnmjkaaDoor
open Go.RowKit

theorem wrap_u8 {n : Int} (h0 : 0 ≤ n) (h1 : n ≤ 255) : IntKind.wrap .u8 n = n := IntWalk.u8_in n ⟨h0, h1⟩
section
variable {Z : List PanicEntry → PT} {s : ByteArray} {w : World}
theorem run_loop {Q : Int → PT} {low high : Int} {i : Nat} (hs : s.size ≤ 1000000) :
    ∀ (m n : Nat), s.size ≤ i + n + m → i + n ≤ s.size → Q ((runEnd (fun c => decide (c ≥ low) && decide (c ≤ high)) s m (i + n) : Nat) - i : Int) w → lex_run.l15 Z Q (m + 1) s i low high n w
  | 0, n, h1, h2, hq => by
    unfold lex_run.l15 lex_run.s18 lex_run.s8
    rw [wrap_in (by omega) (by omega), pif_dec, if_neg (by omega)]
    unfold runEnd at hq
    rw [show (((i + n : Nat) : Int) - i) = n by omega] at hq
    exact hq
  | m + 1, n, h1, h2, hq => by
    unfold lex_run.l15 lex_run.s18 lex_run.s8
    rw [wrap_in (by omega) (by omega), pif_dec]
    unfold runEnd at hq
    have stop : ¬ (i + n < s.size ∧ (decide (by_ s (i + n) ≥ low) && decide (by_ s (i + n) ≤ high)) = true) → Q n w := fun h => by
      rw [if_neg h, show (((i + n : Nat) : Int) - i) = n by omega] at hq
      exact hq
    split
    · rename_i hlt
      rw [show (i : Int) + n = ((i + n : Nat) : Int) by omega]
      refine ixT_by (K := fun v => pif (decide (v ≥ low)) _ _) (by omega) ?_
      rw [pif_dec]
      split
      · rename_i hlo
        refine ixT_by (K := fun v => pif (decide (v ≤ high)) _ _) (by omega) ?_
        rw [pif_dec]
        split
        · rename_i hhi
          rw [if_pos ⟨by omega, by simp [hlo, hhi]⟩] at hq
          rw [wrap_nat1 (by omega)]
          exact run_loop hs m (n + 1) (by omega) (by omega) (by rw [show i + (n + 1) = i + n + 1 by omega]; exact hq)
        · exact stop (by rintro ⟨_, h⟩; simp at h; omega)
      · exact stop (by rintro ⟨_, h⟩; simp at h; omega)
    · exact stop (by omega)
theorem run_F {Q : Int → PT} {low high : Int} {i : Nat} (hs : s.size ≤ 1000000) (hi : i ≤ s.size) (hq : Q ((runEnd (fun c => decide (c ≥ low) && decide (c ≤ high)) s (s.size - i) i : Nat) - i : Int) w) : lex_run.F Z Q s i low high w := by
  unfold lex_run.F lex_run.s27
  exact exK_of (s.size - i + 1) (run_loop hs (s.size - i) 0 (by omega) (by omega) hq)

theorem number_loop {Q : Int → Bool → PT} (hd : ∀ i, i < s.size → 48 ≤ by_ s i ∧ by_ s i ≤ 57) (h10 : s.size ≤ 10) (hq : Q (valU s s.size : Nat) (decide (((valU s s.size : Nat) : Int) < 4294967296)) w) :
    ∀ (m j : Nat), j + m = s.size → lex_number.l21 Z Q (m + 1) s (valU s j : Nat) s.size j w
  | 0, j, h => by
    unfold lex_number.l21 lex_number.s24 lex_number.s11
    rw [pif_dec, if_neg (by omega)]
    obtain rfl : j = s.size := by omega
    exact hq
  | m + 1, j, h => by
    unfold lex_number.l21 lex_number.s24 lex_number.s11
    rw [pif_dec, if_pos (by omega)]
    have hlt := valU_lt hd j (by omega)
    have hp : 10 ^ j ≤ 10 ^ 10 := Nat.pow_le_pow_right (by decide) (by omega)
    have hb := hd j (by omega)
    refine ixT_by (K := fun v => lex_number.l21 Z Q (m + 1) s (IntKind.wrap .i64 ((IntKind.wrap .i64 ((valU s j : Nat) * 10)) + (IntKind.wrap .i64 (IntKind.wrap .u8 (v - 48))))) s.size (IntKind.wrap .i64 ((j : Int) + 1))) (by omega) ?_
    rw [wrap_u8 (by omega) (by omega), wrap_in (n := by_ s j - 48) (by omega) (by omega), wrap_in (n := ((valU s j : Nat) : Int) * 10) (by omega) (by omega), wrap_in (by omega) (by omega), wrap_nat1 (by omega)]
    have : ((valU s j : Nat) : Int) * 10 + (by_ s j - 48) = ((valU s (j + 1) : Nat) : Int) := by simp only [valU]; omega
    rw [this]
    exact number_loop hd h10 hq m (j + 1) (by omega)
theorem number_F {Q : Int → Bool → PT} (hd : ∀ i, i < s.size → 48 ≤ by_ s i ∧ by_ s i ≤ 57) (hq : ∀ v : Int, (0 ≤ numV s → v = numV s) → Q v (decide (0 ≤ numV s)) w) : lex_number.F Z Q s w := by
  unfold lex_number.F lex_number.s37
  rw [pif_dec]
  split
  · rename_i h
    have hn : numV s = -1 := by
      unfold numV
      split
      · rfl
      · rename_i h0
        rw [if_pos (valU_big hd (by omega) (fun e => h0 ⟨by omega, e⟩))]
    have := hq 0 (by rw [hn]; omega)
    rw [hn] at this
    exact this
  · rename_i h
    have go : ¬ (s.size > 1 ∧ by_ s 0 = 48) → lex_number.s35 Z Q s w := fun h0 => by
      unfold lex_number.s35 lex_number.s32
      refine exK_of (s.size + 1) (number_loop hd (by omega) ?_ s.size 0 (by omega))
      unfold numV at hq
      rw [if_neg h0] at hq
      by_cases hv : valU s s.size > 4294967295
      · rw [if_pos hv] at hq
        have := hq (valU s s.size : Nat) (by intro h; omega)
        rwa [show decide (((valU s s.size : Nat) : Int) < 4294967296) = decide (0 ≤ (-1 : Int)) by rw [decide_eq_false (by omega)]; rfl]
      · rw [if_neg hv] at hq
        have := hq (valU s s.size : Nat) (fun _ => rfl)
        rwa [show decide (((valU s s.size : Nat) : Int) < 4294967296) = decide (0 ≤ ((valU s s.size : Nat) : Int)) by rw [decide_eq_true (by omega), decide_eq_true (by omega)]]
    rw [pif_dec]
    split
    · rename_i h1
      refine ixT_by (i := 0) (K := fun v => pif (v == 48) _ _) (by omega) ?_
      rw [pif_beq]
      split
      · rename_i h0
        have hn : numV s = -1 := by unfold numV; rw [if_pos ⟨by omega, h0⟩]
        have := hq 0 (by rw [hn]; omega)
        rw [hn] at this
        exact this
      · exact go (by omega)
    · exact go (by omega)

/-- One token more. -/
theorem app_tok {w : World} {a : Option Addr} {n c b : Nat} {l : List Tk} {t : Tk} {K : Option Addr → Nat → Nat → PT} (hl : Lst w 79 4 Tk.enc a n c l) (ht : IsB w b t.enc) (hn : n ≤ 10000)
    (hk : ∀ a' c' w', Lst w' 79 4 Tk.enc a' (n + 1) c' (l ++ [t]) → Keep (inB a) w w' → (∀ k, inB a' k → inB a k ∨ w.heap.size ≤ k) → K a' (n + 1) c' w') :
    ldN 4 ⟨b, 0, none⟩ (fun v => cnd (List.length v = 4) (newC 79 (v ++ []) fun p => runL Tryd.prog (bi .append #[69, 69] 69 [false, false] [.slice a n c, .slice (some p) 1 1]) K)) w := by
  refine ldN_B ht (vs := t.enc) rfl rfl (cnd_of rfl ?_)
  refine newC_B fun w1 h1 k1 s1 => ?_
  rw [List.append_nil] at h1
  refine app_Lst (bytes := 40) (z := .agg #[.int .i64 0, .int .i64 0, .string noText, .int .i64 0]) Tryd.underlying69 (by kernel_rfl) rfl (by decide) Tk.enc_len t.enc_one (hl.ext k1) (fun j u hu => by rw [add_mk, Nat.zero_add, h1.cell]; exact hu) (by decide) (by omega) fun a' c' w' g1 g2 g3 => hk a' c' w' g1 (k1.ext.trans g2) fun k hk => ?_
  have := k1.size
  rcases g3 k hk with h | h
  · exact .inl h
  · exact .inr (by omega)

theorem mark_loop {Q : Option Addr → Nat → Nat → Int → Int → PT} {X1 : ByteArray → Option Addr → Nat → Nat → Int → PT} {a : Option Addr} {n c : Nat} (hs : s.size ≤ 1000000) :
    ∀ (m i : Nat), s.size ≤ i + m → X1 s a n c ((runEnd markB s m i : Nat) : Int) w → lex_Tokens.l75 Z Q X1 (m + 1) s a n c i w
  | 0, i, h1, hq => by
    unfold lex_Tokens.l75 lex_Tokens.s78 lex_Tokens.s69
    rw [pif_dec, if_neg (by omega)]
    exact hq
  | m + 1, i, h1, hq => by
    unfold lex_Tokens.l75 lex_Tokens.s78 lex_Tokens.s69
    unfold runEnd at hq
    rw [pif_dec]
    split
    · rename_i hlt
      refine ixT_by (K := fun v => pif (v != 10) _ _) (by omega) ?_
      rw [pif_bne]
      split
      · rename_i h0
        rw [if_neg (by simp [markB, h0])] at hq
        exact hq
      · rename_i h0
        rw [if_pos ⟨by omega, by simpa [markB] using h0⟩] at hq
        rw [wrap_nat1 (by omega)]
        exact mark_loop hs m (i + 1) (by omega) hq
    · rw [if_neg (by omega)] at hq
      exact hq

theorem tokens_loop {Q : Option Addr → Nat → Nat → Int → Int → PT} {w0 : World} (hs : s.size ≤ 4096) :
    ∀ (m i : Nat) (l : List Tk) (a : Option Addr) (n c : Nat) (w : World), s.size ≤ i + m → i ≤ s.size → n ≤ i → Lst w 79 4 Tk.enc a n c l → Ext w0 w → (∀ k, inB a k → w0.heap.size ≤ k) →
      (∀ a c w', Lst w' 79 4 Tk.enc a (lexAll s m i l).1.length c (lexAll s m i l).1 → Ext w0 w' → (∀ k, inB a k → w0.heap.size ≤ k) → Q a (lexAll s m i l).1.length c (lexAll s m i l).2.1 (lexAll s m i l).2.2 w') → lex_Tokens.l25 Z Q (m + 1) s a n c i w
  | 0, i, l, a, n, c, w, h1, h2, hn, hl, ke, ha, hq => by
    unfold lex_Tokens.l25 lex_Tokens.s151
    rw [pif_dec, if_neg (by omega)]
    unfold lex_Tokens.s14
    have := hq a c w (by unfold lexAll; rw [← hl.1]; exact hl) ke ha
    unfold lexAll at this
    rw [hl.1]
    exact this
  | m + 1, i, l, a, n, c, w, h1, h2, hn, hl, ke, ha, hq => by
    unfold lex_Tokens.l25 lex_Tokens.s151
    rw [pif_dec]
    by_cases hi : i < s.size
    · rw [if_pos (by omega)]
      unfold lex_Tokens.s148
      refine newC_B fun w1 b1 k1 s1 => ?_
      refine stN_B b1 (by simp) rfl (by simp [Value.oneCell']) fun w2 b2 k2 => ?_
      replace b2 : IsB w2 w.heap.size (Tk.enc ⟨0, i, noText, 0⟩) := by simpa [lay, Tk.enc, noText] using b2
      have ke2 : Ext w0 w2 := (ke.trans k1).own ke.size k2
      have hl2 : Lst w2 79 4 Tk.enc a n c l := (hl.ext k1).keep k2 fun k hk e => by have := hl.lt hk; omega
      have hlt : w.heap.size < w2.heap.size := b2.lt
      have hx : ∀ k, inB a k → k ≠ w.heap.size := fun k hk e => by have := hl.lt hk; omega
      have hge : w0.heap.size ≤ w.heap.size := ke.size
      clear b1 k1 k2 s1 hl w1
      generalize w.heap.size = b at *
      unfold lex_Tokens.s145
      refine ixT_by (K := fun v => lex_Tokens.s142 Z Q (lex_Tokens.l25 Z Q (m + 1)) s a n c i ⟨b, 0, none⟩ 1 v) hi ?_
      have hstep := fun he => lexStep_next hi (s := s) (i := i) he
      unfold lexAll at hq
      rw [if_pos hi] at hq
      -- where no token is put
      have skip : ∀ (j : Nat) (w' : World), lexStep s i = (none, j, 0) → Lst w' 79 4 Tk.enc a n c l → Ext w0 w' → lex_Tokens.l25 Z Q (m + 1) s a n c j w' := fun j w' he h' k' => by
        rw [he] at hq hstep
        obtain ⟨g1, g2⟩ := hstep rfl
        simp only at g1 g2
        exact tokens_loop hs m j l a n c w' (by omega) g2 (by omega) h' k' ha hq
      -- where one is
      have take : ∀ (t : Tk) (d : Int) (j : Nat) (w' : World), lexStep s i = (some t, j, 0) → IsB w' b t.enc → (i : Int) + d = j → Keep (· = b) w2 w' → lex_Tokens.s40 Z Q (lex_Tokens.l25 Z Q (m + 1)) s a n c i ⟨b, 0, none⟩ d w' := fun t d j w' he bt hd k' => by
        rw [he] at hq hstep
        obtain ⟨g1, g2⟩ := hstep rfl
        simp only at g1 g2
        unfold lex_Tokens.s40
        have ke' := ke2.own hge k'
        refine app_tok (hl2.keep k' hx) bt (by omega) fun a3 c3 w3 l3 k3 i3 => ?_
        rw [hd, wrap_nat (by omega)]
        refine tokens_loop hs m j (l ++ [t]) a3 (n + 1) c3 w3 (by omega) g2 (by omega) l3 (ke'.trans_new k3 fun k hk hin => by have := ha k hin; omega) (fun k hk => ?_) hq
        rcases i3 k hk with h | h
        · exact ha k h
        · have := ke'.size; omega
      have fault : ∀ (e : Int) (w' : World), lexStep s i = (none, i, e) → e ≠ 0 → Ext w0 w' → Q none 0 0 e i w' := fun e w' he h0 k' => by
        rw [he, if_pos h0] at hq
        exact hq none 0 w' Lst.nil k' fun k ⟨p, hp, _⟩ => by cases hp
      -- a token of one byte
      have one : ∀ (k : Int) (w' : World), lexStep s i = (some ⟨k, i, noText, 0⟩, i + 1, 0) → st1 (Addr.add ⟨b, 0, none⟩ 0) (.int .i64 k) (lex_Tokens.s40 Z Q (lex_Tokens.l25 Z Q (m + 1)) s a n c i ⟨b, 0, none⟩ 1) w2 := fun k w' he => by
        rw [add_mk]
        refine st1_B b2 (by simp [Tk.enc]) rfl fun w3 b3 k3 => ?_
        exact take _ 1 (i + 1) w3 he b3 (by omega) k3
      have hc := by_lt s i
      generalize hcc : by_ s i = cc at hc
      have hk : ∀ {k : Int}, kindOf cc = k → kindOf (by_ s i) = k := fun h => by rw [hcc]; exact h
      unfold lex_Tokens.s142
      have blank : kindOf cc = 0 → lex_Tokens.s56 Z Q (lex_Tokens.l25 Z Q (m + 1)) s a n c i w2 := fun h => by
        unfold lex_Tokens.s56
        rw [wrap_nat1 (by omega)]
        exact skip (i + 1) w2 (by unfold lexStep; simp only [hk h, if_true]) hl2 ke2
      rw [pif_beq]; split
      · exact blank (by unfold kindOf; grind)
      rename_i n1
      rw [pif_beq]; split
      · exact blank (by unfold kindOf; grind)
      rename_i n2
      rw [pif_beq]; split
      · exact blank (by unfold kindOf; grind)
      rename_i n3
      unfold lex_Tokens.s139
      rw [pif_beq]; split
      · rename_i h35
        have h9 := hk (show kindOf cc = 9 by unfold kindOf; grind)
        refine exK_of (s.size - i + 1) (mark_loop (by omega) (s.size - i) i (by omega) ?_)
        rw [runEnd_first hi (by rw [hcc, h35]; rfl)]
        exact skip _ w2 (by unfold lexStep; simp only [h9]; rfl) hl2 ke2
      rename_i n4
      -- the rest
      have rest : ¬ (cc ≥ 97 ∧ cc ≤ 122) → lex_Tokens.s133 Z Q (lex_Tokens.l25 Z Q (m + 1)) s a n c i ⟨b, 0, none⟩ 1 cc w2 := fun nw => by
        have tail : ¬ (cc ≥ 48 ∧ cc ≤ 57) → lex_Tokens.s130 Z Q (lex_Tokens.l25 Z Q (m + 1)) s a n c i ⟨b, 0, none⟩ 1 cc w2 := fun nd => by
          unfold lex_Tokens.s130
          rw [pif_beq]; split
          · have h3 := hk (show kindOf cc = 3 by unfold kindOf; grind)
            unfold lex_Tokens.s109
            exact one 3 w2 (by unfold lexStep; simp only [h3]; rfl)
          rename_i n5
          unfold lex_Tokens.s127
          rw [pif_beq]; split
          · have h3 := hk (show kindOf cc = 4 by unfold kindOf; grind)
            unfold lex_Tokens.s117
            exact one 4 w2 (by unfold lexStep; simp only [h3]; rfl)
          rename_i n6
          unfold lex_Tokens.s124
          rw [pif_beq]; split
          · rename_i h45
            have h5 := hk (show kindOf cc = 5 by unfold kindOf; grind)
            have dash : ¬ (i + 1 < s.size ∧ by_ s (i + 1) = 62) → lex_Tokens.s122 Z Q (lex_Tokens.l25 Z Q (m + 1)) s a n c i ⟨b, 0, none⟩ 1 cc false w2 := fun hn => by
              unfold lex_Tokens.s122
              rw [pif_false, pif_beq, if_pos h45]
              exact one 5 w2 (by unfold lexStep; simp only [h5]; rw [if_neg (by decide), if_neg (by decide), if_neg (by decide), if_neg (by decide), if_pos trivial, if_neg hn])
            rw [wrap_nat1 (by omega), pif_dec]
            split
            · rename_i h6
              refine ixT_by (K := fun v => lex_Tokens.s122 Z Q (lex_Tokens.l25 Z Q (m + 1)) s a n c i ⟨b, 0, none⟩ 1 cc (v == 62)) (by omega) ?_
              by_cases h7 : by_ s (i + 1) = 62
              · rw [h7]
                unfold lex_Tokens.s122
                show st1 _ _ _ w2
                rw [add_mk]
                refine st1_B b2 (by simp [Tk.enc]) rfl fun w3 b3 k3 => ?_
                exact take ⟨6, i, noText, 0⟩ 2 (i + 2) w3 (by unfold lexStep; simp only [h5]; rw [if_neg (by decide), if_neg (by decide), if_neg (by decide), if_neg (by decide), if_pos trivial, if_pos ⟨by omega, h7⟩]) b3 (by omega) k3
              · rw [show (by_ s (i + 1) == 62) = false by simpa using h7]
                exact dash (fun h => h7 h.2)
            · exact dash (by omega)
          rename_i n7
          unfold lex_Tokens.s122
          rw [pif_false, pif_beq, if_neg n7, pif_beq]
          split
          · have h3 := hk (show kindOf cc = 7 by unfold kindOf; grind)
            exact one 7 w2 (by unfold lexStep; simp only [h3]; rfl)
          · have h3 := hk (show kindOf cc = -1 by unfold kindOf; grind)
            exact fault 6 w2 (by unfold lexStep; simp only [h3]; rfl) (by decide) ke2
        unfold lex_Tokens.s133
        rw [pif_dec]; split
        · rename_i h48
          rw [pif_dec]; split
          · rename_i h57
            have h2' := hk (show kindOf cc = 2 from kindOf_digit.2 (by simp [digitB, h48, h57]))
            have hdb : digitB (by_ s i) = true := kindOf_digit.1 h2'
            unfold lex_Tokens.s101
            refine lex_run.cal (run_F (by omega) h2 ?_)
            rw [show (fun c : Int => decide (c ≥ 48) && decide (c ≤ 57)) = digitB from rfl, runEnd_first hi hdb]
            have hst : lexStep s i = if numV (s.extract i (runEnd digitB s (s.size - (i + 1)) (i + 1))) < 0 then (none, i, 7) else (some ⟨2, i, noText, numV (s.extract i (runEnd digitB s (s.size - (i + 1)) (i + 1)))⟩, runEnd digitB s (s.size - (i + 1)) (i + 1), 0) := by
              unfold lexStep; simp only [h2']; rfl
            have g1 := runEnd_ge (p := digitB) (s := s) (s.size - (i + 1)) (i + 1)
            have g2 := runEnd_le (p := digitB) (s := s) (s.size - (i + 1)) (i + 1) (by omega)
            have g3 := runEnd_in (p := digitB) (s := s) (s.size - (i + 1)) (i + 1)
            generalize runEnd digitB s (s.size - (i + 1)) (i + 1) = j at hst g1 g2 g3 ⊢
            rw [show (i : Int) + ((j : Int) - i) = j by omega, wrap_nat (by omega)]
            refine cnd_of ⟨by omega, by omega, by omega⟩ ?_
            rw [Int.toNat_natCast, Int.toNat_natCast]
            have hsz : (s.extract i j).size = j - i := by rw [ByteArray.size_extract]; omega
            refine lex_number.cal (number_F (fun q hq => ?_) fun v hv => ?_)
            · rw [hsz] at hq
              rw [by_extract g2 hq]
              have : digitB (by_ s (i + q)) = true := by
                rcases Nat.eq_zero_or_pos q with rfl | h
                · exact hdb
                · exact g3 _ (by omega) (by omega)
              simp [digitB] at this
              omega
            · by_cases hneg : numV (s.extract i j) < 0
              · rw [decide_eq_false (by omega)]
                show Q none 0 0 7 i w2
                rw [if_pos hneg] at hst
                exact fault 7 w2 hst (by decide) ke2
              · rw [if_neg hneg] at hst
                have hv := hv (by omega)
                subst hv
                rw [decide_eq_true (by omega)]
                show st1 _ _ _ w2
                rw [add_mk, add_mk]
                refine st1_B b2 (by simp [Tk.enc]) rfl fun w3 b3 k3 => ?_
                refine st1_B b3 (by simp [Tk.enc]) rfl fun w4 b4 k4 => ?_
                exact take ⟨2, i, noText, numV (s.extract i j)⟩ _ j w4 hst b4 (by omega) (k3.trans k4)
          · exact tail (by omega)
        · exact tail (by omega)
      unfold lex_Tokens.s136
      rw [pif_dec]; split
      · rename_i h97
        rw [pif_dec]; split
        · rename_i h122
          have h1' := hk (show kindOf cc = 1 from kindOf_word.2 (by simp [wordB, h97, h122]))
          have hdb : wordB (by_ s i) = true := kindOf_word.1 h1'
          unfold lex_Tokens.s93
          refine lex_run.cal (run_F (by omega) h2 ?_)
          rw [show (fun c : Int => decide (c ≥ 97) && decide (c ≤ 122)) = wordB from rfl, runEnd_first hi hdb]
          have hst : lexStep s i = (some ⟨1, i, s.extract i (runEnd wordB s (s.size - (i + 1)) (i + 1)), 0⟩, runEnd wordB s (s.size - (i + 1)) (i + 1), 0) := by
            unfold lexStep; simp only [h1']; rfl
          have g1 := runEnd_ge (p := wordB) (s := s) (s.size - (i + 1)) (i + 1)
          have g2 := runEnd_le (p := wordB) (s := s) (s.size - (i + 1)) (i + 1) (by omega)
          generalize runEnd wordB s (s.size - (i + 1)) (i + 1) = j at hst g1 g2 ⊢
          rw [add_mk, add_mk]
          refine st1_B b2 (by simp [Tk.enc]) rfl fun w3 b3 k3 => ?_
          rw [show (i : Int) + ((j : Int) - i) = j by omega, wrap_nat (by omega)]
          refine cnd_of ⟨by omega, by omega, by omega⟩ ?_
          rw [Int.toNat_natCast, Int.toNat_natCast]
          refine st1_B b3 (by simp [Tk.enc]) rfl fun w4 b4 k4 => ?_
          exact take ⟨1, i, s.extract i j, 0⟩ _ j w4 hst b4 (by omega) (k3.trans k4)
        · exact rest (by omega)
      · exact rest (by omega)
    · rw [if_neg (by omega)]
      unfold lexAll at hq
      rw [if_neg hi] at hq
      unfold lex_Tokens.s14
      have := hq a c w (by rw [← hl.1]; exact hl) ke ha
      rw [hl.1]
      exact this
theorem tokens_F {Q : Option Addr → Nat → Nat → Int → Int → PT} (hq : ∀ a c w', Lst w' 79 4 Tk.enc a (lexS s).1.length c (lexS s).1 → Ext w w' → (∀ k, inB a k → w.heap.size ≤ k) → Q a (lexS s).1.length c (lexS s).2.1 (lexS s).2.2 w') : lex_Tokens.F Z Q s w := by
  unfold lex_Tokens.F lex_Tokens.s163 lex_Tokens.s160
  unfold lexS at hq
  rw [pif_dec]
  split
  · rw [if_pos (by omega)] at hq
    exact hq none 0 w Lst.nil Keep.refl fun k ⟨p, hp, _⟩ => by cases hp
  · rw [if_neg (by omega)] at hq
    unfold lex_Tokens.s157
    exact exK_of (s.size + 1) (tokens_loop (by omega) s.size 0 [] none 0 0 w (by omega) (by omega) (by omega) Lst.nil Keep.refl (fun k ⟨p, hp, _⟩ => by cases hp) hq)
end
end Go.Proofs.YtllgjjldnnmjkaaDoor
