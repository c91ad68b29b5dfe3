/-
  A text's tokens: the document's reader comes to 'lexS', too. No condition.
-/
import Derived.Test.YtimdpeolfhaajaaLex
set_option linter.unusedVariables false
set_option linter.unusedSimpArgs false
namespace Go.Proofs.Ytimdpeolfhaajaa
open Go.RowKit

section
variable {Z : List PanicEntry → PT} {s : ByteArray} {w : World}
theorem kind_F {Q : Int → PT} {c : Int} (hq : Q (kindOf c) w) : ref05_Kind.F Z Q c w := by
  have is : ∀ {k : Int}, kindOf c = k → Q k w := fun h => by rw [← h]; exact hq
  have last : ¬ (c = 9 ∨ c = 13 ∨ c = 32) → ¬ (c ≥ 97 ∧ c ≤ 122) → ¬ (c ≥ 48 ∧ c ≤ 57) → ref05_Kind.s9 Z Q c w := fun h1 h2 h3 => by
    unfold ref05_Kind.s9
    rw [pif_beq]; split
    · exact is (by unfold kindOf; grind (splits := 30))
    rw [pif_beq]; split
    · exact is (by unfold kindOf; grind (splits := 30))
    rw [pif_beq]; split
    · exact is (by unfold kindOf; grind (splits := 30))
    rw [pif_beq]; split
    · exact is (by unfold kindOf; grind (splits := 30))
    rw [pif_beq]; split
    · exact is (by unfold kindOf; grind (splits := 30))
    · exact is (by unfold kindOf; grind (splits := 30))
  have tail : ¬ (c = 9 ∨ c = 13 ∨ c = 32) → ¬ (c ≥ 97 ∧ c ≤ 122) → ref05_Kind.s12 Z Q c w := fun h1 h2 => by
    unfold ref05_Kind.s12
    rw [pif_dec]; split
    · rw [pif_dec]; split
      · exact is (by unfold kindOf; grind (splits := 30))
      · exact last h1 h2 (by omega)
    · exact last h1 h2 (by omega)
  unfold ref05_Kind.F ref05_Kind.s14
  rw [pif_beq]; split
  · exact is (by unfold kindOf; grind (splits := 30))
  rw [pif_beq]; split
  · exact is (by unfold kindOf; grind (splits := 30))
  rw [pif_beq]; split
  · exact is (by unfold kindOf; grind (splits := 30))
  rw [pif_dec]; split
  · rw [pif_dec]; split
    · exact is (by unfold kindOf; grind (splits := 30))
    · exact tail (by omega) (by omega)
  · exact tail (by omega) (by omega)

theorem value_loop {Q : Int → PT} (hd : ∀ i, i < s.size → 48 ≤ by_ s i ∧ by_ s i ≤ 57) (hs : s.size ≤ 1000000) (hq : Q (numV s) w) :
    ∀ (m j : Nat), j + m = s.size → valU s j ≤ 4294967295 → ref05_value.l18 Z Q (m + 1) s (valU s j : Nat) j w
  | 0, j, h, hv => by
    unfold ref05_value.l18 ref05_value.s21 ref05_value.s8
    rw [pif_dec, if_neg (by omega)]
    obtain rfl : j = s.size := by omega
    unfold numV at hq
    rw [pif_dec]
    split
    · rename_i h1
      refine ixT_by (i := 0) (K := fun v => pif (v == 48) _ _) (by omega) ?_
      rw [pif_beq]
      split
      · rwa [if_pos ⟨by omega, by assumption⟩] at hq
      · rename_i h0
        rwa [if_neg (fun h => h0 h.2), if_neg (by omega)] at hq
    · rwa [if_neg (by omega), if_neg (by omega)] at hq
  | m + 1, j, h, hv => by
    unfold ref05_value.l18 ref05_value.s21
    rw [pif_dec, if_pos (by omega)]
    have hb := hd j (by omega)
    refine ixT_by (K := fun v => pif (decide ((IntKind.wrap .i64 ((IntKind.wrap .i64 ((IntKind.wrap .i64 ((valU s j : Nat) * 10)) + (IntKind.wrap .i64 v))) - 48)) > 4294967295)) (Q (-1)) (ref05_value.l18 Z Q (m + 1) s (IntKind.wrap .i64 ((IntKind.wrap .i64 ((IntKind.wrap .i64 ((valU s j : Nat) * 10)) + (IntKind.wrap .i64 v))) - 48)) (IntKind.wrap .i64 ((j : Int) + 1)))) (by omega) ?_
    rw [wrap_in (n := by_ s j) (by omega) (by omega), wrap_in (n := ((valU s j : Nat) : Int) * 10) (by omega) (by omega), wrap_in (n := ((valU s j : Nat) : Int) * 10 + by_ s j) (by omega) (by omega), wrap_in (by omega) (by omega), wrap_nat1 (by omega)]
    have : ((valU s j : Nat) : Int) * 10 + by_ s j - 48 = ((valU s (j + 1) : Nat) : Int) := by simp only [valU]; omega
    rw [this, pif_dec]
    split
    · have hm := valU_mono (d := s) (i := j + 1) (j := s.size) (by omega)
      unfold numV at hq
      rw [if_pos (c := valU s s.size > 4294967295) (by omega)] at hq
      split at hq <;> exact hq
    · exact value_loop hd hs hq m (j + 1) (by omega) (by omega)
theorem value_F {Q : Int → PT} (hd : ∀ i, i < s.size → 48 ≤ by_ s i ∧ by_ s i ≤ 57) (hs : s.size ≤ 1000000) (hq : Q (numV s) w) : ref05_value.F Z Q s w := by
  unfold ref05_value.F ref05_value.s32 ref05_value.s29
  exact exK_of (s.size + 1) (value_loop hd hs hq s.size 0 (by omega) (by simp [valU]))

section
variable {Q : Option Addr → Nat → Nat → Int → Int → PT} {X1 : ByteArray → Option Addr → Nat → Nat → Int → PT} {a : Option Addr} {n c : Nat} {i : Int}
/-- The remark's run. -/
theorem rem_loop (hs : s.size ≤ 1000000) : ∀ (m e : Nat), s.size ≤ e + m → ref05_Tokens.s55 Z Q X1 s a n c i 9 (runEnd markB s m e : Nat) w → ref05_Tokens.l61 Z Q X1 (m + 1) s a n c i 9 e w
  | 0, e, h1, hq => by
    unfold ref05_Tokens.l61 ref05_Tokens.s64
    rw [pif_beq, if_pos rfl, pif_dec, if_neg (by omega)]
    exact hq
  | m + 1, e, h1, hq => by
    unfold ref05_Tokens.l61 ref05_Tokens.s64
    rw [pif_beq, if_pos rfl, pif_dec]
    unfold runEnd at hq
    split
    · rename_i hlt
      refine ixT_by (K := fun v => pif (v != 10) _ _) (by omega) ?_
      rw [pif_bne]
      split
      · rename_i h0
        rw [if_neg (by simp [markB, h0])] at hq
        exact hq
      · rename_i h0
        rw [if_pos ⟨by omega, by simpa [markB] using h0⟩] at hq
        rw [wrap_nat1 (by omega)]
        exact rem_loop hs m (e + 1) (by omega) hq
    · rw [if_neg (by omega)] at hq
      exact hq
theorem rem_no {k : Int} {e : Int} (hk : k ≠ 9) (hq : ref05_Tokens.s55 Z Q X1 s a n c i k e w) : exK (fun f => ref05_Tokens.l61 Z Q X1 f s a n c i k e) w := by
  refine exK_of 1 ?_
  unfold ref05_Tokens.l61 ref05_Tokens.s64
  rw [pif_beq, if_neg hk]
  exact hq
/-- A word's or a number's run. -/
theorem run2_loop {k : Int} {p : Int → Bool} (hk : k = 1 ∨ k = 2) (hp : ∀ c, kindOf c = k ↔ p c = true) (hs : s.size ≤ 1000000) :
    ∀ (m e : Nat), s.size ≤ e + m → ref05_Tokens.s55 Z Q X1 s a n c i k (runEnd p s m e : Nat) w → ref05_Tokens.l77 Z Q X1 (m + 1) s a n c i k e w
  | m, e, h1, hq => by
    have key : (pif (decide ((e : Int) < ((s.size : Nat) : Int))) (ixT s e fun v56 => (cal Try.prog Z 24 [(Value.int .u8 ((v56.toNat : Nat) : Int))] (isI .i64 fun v57 => (pif (v57 == k) (ref05_Tokens.l77 Z Q X1 m s a n c i k (IntKind.wrap .i64 ((e : Int) + 1))) (exK fun f => ref05_Tokens.l61 Z Q X1 f s a n c i k e))))) (exK fun f => ref05_Tokens.l61 Z Q X1 f s a n c i k e)) w := by
      have stop : runEnd p s m e = e → exK (fun f => ref05_Tokens.l61 Z Q X1 f s a n c i k e) w := fun he => by
        rw [he] at hq
        exact rem_no (by omega) hq
      rw [pif_dec]
      split
      · rename_i hlt
        refine ixT_by (K := fun v => cal Try.prog Z 24 [Value.int .u8 v] _) (by omega) ?_
        refine ref05_Kind.cal (kind_F ?_)
        rw [pif_beq]
        cases m with
        | zero => omega
        | succ m =>
          unfold runEnd at hq stop
          split
          · rename_i hkk
            rw [if_pos ⟨by omega, (hp _).1 hkk⟩] at hq
            rw [wrap_nat1 (by omega)]
            exact run2_loop hk hp hs m (e + 1) (by omega) hq
          · rename_i hkk
            exact stop (by rw [if_neg (fun h => hkk ((hp _).2 h.2))])
      · refine stop ?_
        cases m with
        | zero => rfl
        | succ m => unfold runEnd; rw [if_neg (by omega)]
    unfold ref05_Tokens.l77 ref05_Tokens.s80
    rcases hk with rfl | rfl
    · rw [pif_beq, if_pos rfl]; exact key
    · rw [pif_beq, if_neg (by decide), pif_beq, if_pos rfl]; exact key
theorem run2_no {k e : Int} (h1 : k ≠ 1) (h2 : k ≠ 2) (hq : exK (fun f => ref05_Tokens.l61 Z Q X1 f s a n c i k e) w) : exK (fun f => ref05_Tokens.l77 Z Q X1 f s a n c i k e) w := by
  refine exK_of 1 ?_
  unfold ref05_Tokens.l77 ref05_Tokens.s80
  rw [pif_beq, if_neg h1, pif_beq, if_neg h2]
  exact hq
end

theorem tokens2_loop {Q : Option Addr → Nat → Nat → Int → Int → PT} {w0 : World} (hs : s.size ≤ 4096) :
    ∀ (m i : Nat) (l : List Tk) (a : Option Addr) (n c : Nat) (w : World), s.size ≤ i + m → i ≤ s.size → n ≤ i → Lst w 33 4 Tk.enc a n c l → Ext w0 w → (∀ k, inB a k → w0.heap.size ≤ k) →
      (∀ a c w', Lst w' 33 4 Tk.enc a (lexAll s m i l).1.length c (lexAll s m i l).1 → Ext w0 w' → (∀ k, inB a k → w0.heap.size ≤ k) → Q a (lexAll s m i l).1.length c (lexAll s m i l).2.1 (lexAll s m i l).2.2 w') → ref05_Tokens.l17 Z Q (m + 1) s a n c i w
  | 0, i, l, a, n, c, w, h1, h2, hn, hl, ke, ha, hq => by
    unfold ref05_Tokens.l17 ref05_Tokens.s92
    rw [pif_dec, if_neg (by omega)]
    unfold ref05_Tokens.s10
    have := hq a c w (by unfold lexAll; rw [← hl.1]; exact hl) ke ha
    unfold lexAll at this
    rw [hl.1]
    exact this
  | m + 1, i, l, a, n, c, w, h1, h2, hn, hl, ke, ha, hq => by
    unfold ref05_Tokens.l17 ref05_Tokens.s92
    rw [pif_dec]
    by_cases hi : i < s.size
    · rw [if_pos (by omega)]
      unfold ref05_Tokens.s89
      refine ixT_by (K := fun v => cal Try.prog Z 24 [Value.int .u8 v] _) hi ?_
      refine ref05_Kind.cal (kind_F ?_)
      rw [wrap_nat1 (by omega)]
      have hstep := fun he => lexStep_next hi (s := s) (i := i) he
      unfold lexAll at hq
      rw [if_pos hi] at hq
      have skip : ∀ (j : Nat) (w' : World), lexStep s i = (none, j, 0) → Lst w' 33 4 Tk.enc a n c l → Ext w0 w' → ref05_Tokens.l17 Z Q (m + 1) s a n c j w' := fun j w' he h' k' => by
        rw [he] at hq hstep
        obtain ⟨g1, g2⟩ := hstep rfl
        simp only at g1 g2
        exact tokens2_loop hs m j l a n c w' (by omega) g2 (by omega) h' k' ha hq
      have fault : ∀ (e : Int) (w' : World), lexStep s i = (none, i, e) → e ≠ 0 → Ext w0 w' → Q none 0 0 e i w' := fun e w' he h0 k' => by
        rw [he, if_pos h0] at hq
        exact hq none 0 w' Lst.nil k' fun k ⟨p, hp, _⟩ => by cases hp
      -- from the kind on: what step it is
      have go : ∀ (k : Int) (j : Nat), j ≤ s.size → i < j →
          (k < 0 → lexStep s i = (none, i, 6)) → (k = 0 ∨ k = 9 → lexStep s i = (none, j, 0)) → (k = 1 → lexStep s i = (some ⟨1, i, s.extract i j, 0⟩, j, 0)) →
          (k = 2 → (∀ q, q < j - i → digitB (by_ s (i + q)) = true) ∧ lexStep s i = if numV (s.extract i j) < 0 then (none, i, 7) else (some ⟨2, i, noText, numV (s.extract i j)⟩, j, 0)) →
          (2 < k ∧ k < 9 → lexStep s i = (some ⟨k, i, noText, 0⟩, j, 0)) → k ≤ 9 → ref05_Tokens.s53 Z Q (ref05_Tokens.l17 Z Q (m + 1)) s a n c i k j w := fun k j hj hij g0 g1 g2 g3 g4 gk => by
        unfold ref05_Tokens.s53
        rw [pif_dec]
        split
        · rename_i h; exact fault 6 w (g0 h) (by decide) ke
        rename_i hk0
        refine newC_B fun w1 b1 k1 s1 => ?_
        refine stN_B b1 (by simp) rfl (by simp [Value.oneCell']) fun w2 b2 k2 => ?_
        replace b2 : IsB w2 w.heap.size (Tk.enc ⟨k, i, noText, 0⟩) := by simpa [lay, Tk.enc, noText] using b2
        have ke2 : Ext w0 w2 := (ke.trans k1).own ke.size k2
        have hl2 : Lst w2 33 4 Tk.enc a n c l := (hl.ext k1).keep k2 fun k hk e => by have := hl.lt hk; omega
        have hlt : w.heap.size < w2.heap.size := b2.lt
        have hx : ∀ k, inB a k → k ≠ w.heap.size := fun k hk e => by have := hl.lt hk; omega
        have hge : w0.heap.size ≤ w.heap.size := ke.size
        clear b1 k1 k2 s1 w1
        generalize w.heap.size = b at *
        -- the end: a token is put
        have take : ∀ (t : Tk) (w' : World), lexStep s i = (some t, j, 0) → 0 < k → k < 9 → IsB w' b t.enc → Keep (· = b) w2 w' → ref05_Tokens.s46 Z Q (ref05_Tokens.l17 Z Q (m + 1)) s a n c k j ⟨b, 0, none⟩ w' := fun t w' he hk1 hk2 bt k' => by
          rw [he] at hq
          unfold ref05_Tokens.s46
          rw [pif_dec, if_pos (by omega), pif_dec, if_pos (by omega)]
          have ke' := ke2.own hge k'
          refine app_tok (hl2.keep k' hx) bt (by omega) fun a3 c3 w3 l3 k3 i3 => ?_
          refine tokens2_loop hs m j (l ++ [t]) a3 (n + 1) c3 w3 (by omega) hj (by omega) l3 (ke'.trans_new k3 fun k hk hin => by have := ha k hin; omega) (fun k hk => ?_) hq
          rcases i3 k hk with h | h
          · exact ha k h
          · have := ke'.size; omega
        have none' : (k = 0 ∨ k = 9) → ref05_Tokens.s46 Z Q (ref05_Tokens.l17 Z Q (m + 1)) s a n c k j ⟨b, 0, none⟩ w2 := fun h => by
          unfold ref05_Tokens.s46
          rw [pif_dec]
          split
          · rw [pif_dec, if_neg (by omega)]
            exact skip j w2 (g1 h) hl2 ke2
          · exact skip j w2 (g1 h) hl2 ke2
        have hex : (0 ≤ (i : Int) ∧ (i : Int) ≤ (j : Int) ∧ (j : Int) ≤ s.size) := ⟨by omega, by omega, by omega⟩
        rw [pif_beq]
        split
        · rename_i hk1
          subst hk1
          refine cnd_of hex ?_
          rw [Int.toNat_natCast, Int.toNat_natCast, add_mk]
          refine st1_B b2 (by simp [Tk.enc]) rfl fun w3 b3 k3 => ?_
          unfold ref05_Tokens.s51
          rw [pif_beq, if_neg (by decide)]
          exact take _ w3 (g2 rfl) (by decide) (by decide) b3 k3
        rename_i hk1
        unfold ref05_Tokens.s51
        rw [pif_beq]
        split
        · rename_i hk2
          subst hk2
          obtain ⟨hd, hst⟩ := g3 rfl
          refine cnd_of hex ?_
          rw [Int.toNat_natCast, Int.toNat_natCast]
          have hsz : (s.extract i j).size = j - i := by rw [ByteArray.size_extract]; omega
          refine ref05_value.cal (value_F (fun q hq => ?_) (by omega) ?_)
          · rw [hsz] at hq
            rw [by_extract hj hq]
            have := hd q hq
            simp [digitB] at this
            omega
          · rw [add_mk]
            refine st1_B b2 (by simp [Tk.enc]) rfl fun w3 b3 k3 => ?_
            refine ldI_B b3 rfl ?_
            rw [pif_dec]
            split
            · rename_i hneg
              rw [if_pos hneg] at hst
              exact fault 7 w3 hst (by decide) (ke2.own hge k3)
            · rename_i hneg
              rw [if_neg hneg] at hst
              exact take _ w3 hst (by decide) (by decide) b3 k3
        rename_i hk2
        by_cases hk3 : 2 < k ∧ k < 9
        · exact take _ w2 (g4 hk3) (by omega) (by omega) b2 Keep.refl
        · exact none' (by omega)
      have hc := by_lt s i
      have hnd : ∀ {k : Int} {j : Nat}, k ≠ 5 → ref05_Tokens.s53 Z Q (ref05_Tokens.l17 Z Q (m + 1)) s a n c i k j w → ref05_Tokens.s55 Z Q (ref05_Tokens.l17 Z Q (m + 1)) s a n c i k j w := fun hk h => by
        unfold ref05_Tokens.s55
        rw [pif_beq, if_neg hk]
        exact h
      generalize hkd : kindOf (by_ s i) = k
      have hkr : k = 0 ∨ k = 1 ∨ k = 2 ∨ k = 3 ∨ k = 4 ∨ k = 5 ∨ k = 7 ∨ k = 9 ∨ k = -1 := by
        rw [← hkd]; unfold kindOf; grind (splits := 30)
      by_cases k1 : k = 1
      · subst k1
        have g1 := runEnd_ge (p := wordB) (s := s) (s.size - (i + 1)) (i + 1)
        have g2 := runEnd_le (p := wordB) (s := s) (s.size - (i + 1)) (i + 1) (by omega)
        refine exK_of (s.size - (i + 1) + 1) (run2_loop (.inl rfl) (fun _ => kindOf_word) (by omega) _ (i + 1) (by omega) ?_)
        refine hnd (by decide) (go 1 _ g2 (by omega) (by omega) (by omega) (fun _ => ?_) (by omega) (by omega) (by omega))
        unfold lexStep
        simp only [hkd]
        rfl
      by_cases k2 : k = 2
      · subst k2
        have g1 := runEnd_ge (p := digitB) (s := s) (s.size - (i + 1)) (i + 1)
        have g2 := runEnd_le (p := digitB) (s := s) (s.size - (i + 1)) (i + 1) (by omega)
        have g3 := runEnd_in (p := digitB) (s := s) (s.size - (i + 1)) (i + 1)
        refine exK_of (s.size - (i + 1) + 1) (run2_loop (.inr rfl) (fun _ => kindOf_digit) (by omega) _ (i + 1) (by omega) ?_)
        refine hnd (by decide) (go 2 _ g2 (by omega) (by omega) (by omega) (by omega) (fun _ => ⟨fun q hq => ?_, ?_⟩) (by omega) (by omega))
        · rcases Nat.eq_zero_or_pos q with rfl | h
          · exact kindOf_digit.1 hkd
          · exact g3 _ (by omega) (by omega)
        · unfold lexStep
          simp only [hkd]
          rfl
      refine run2_no k1 k2 ?_
      by_cases k9 : k = 9
      · subst k9
        have g1 := runEnd_ge (p := markB) (s := s) (s.size - (i + 1)) (i + 1)
        have g2 := runEnd_le (p := markB) (s := s) (s.size - (i + 1)) (i + 1) (by omega)
        refine exK_of (s.size - (i + 1) + 1) (rem_loop (by omega) _ (i + 1) (by omega) ?_)
        refine hnd (by decide) (go 9 _ g2 (by omega) (by omega) (fun _ => ?_) (by omega) (by omega) (by omega) (by omega))
        unfold lexStep
        simp only [hkd]
        rfl
      refine rem_no k9 ?_
      by_cases k5 : k = 5
      · subst k5
        unfold ref05_Tokens.s55
        rw [pif_beq, if_pos rfl]
        have dash : ¬ (i + 1 < s.size ∧ by_ s (i + 1) = 62) → ref05_Tokens.s53 Z Q (ref05_Tokens.l17 Z Q (m + 1)) s a n c i 5 (i + 1 : Nat) w := fun hn => by
          refine go 5 (i + 1) (by omega) (by omega) (by omega) (by omega) (by omega) (by omega) (fun _ => ?_) (by omega)
          unfold lexStep
          simp only [hkd]
          rw [if_neg (by decide), if_neg (by decide), if_neg (by decide), if_neg (by decide), if_pos trivial, if_neg hn]
        rw [pif_dec]
        split
        · rename_i h6
          refine ixT_by (K := fun v => pif (v == 62) _ _) (by omega) ?_
          rw [pif_beq]
          split
          · rename_i h7
            rw [wrap_nat1 (by omega)]
            refine go 6 (i + 1 + 1) (by omega) (by omega) (by omega) (by omega) (by omega) (by omega) (fun _ => ?_) (by omega)
            unfold lexStep
            simp only [hkd]
            rw [if_neg (by decide), if_neg (by decide), if_neg (by decide), if_neg (by decide), if_pos trivial, if_pos ⟨by omega, h7⟩]
          · rename_i h7
            exact dash (fun h => h7 h.2)
        · exact dash (by omega)
      refine hnd k5 (go k (i + 1) (by omega) (by omega) (fun h => ?_) (fun h => ?_) (by omega) (by omega) (fun h => ?_) (by omega))
      · unfold lexStep
        simp only [hkd]
        rw [if_neg (by omega), if_neg (by omega), if_neg (by omega), if_neg (by omega), if_neg (by omega), if_pos h]
      · obtain rfl : k = 0 := by omega
        unfold lexStep
        simp only [hkd]
        rfl
      · unfold lexStep
        simp only [hkd]
        rw [if_neg (by omega), if_neg (by omega), if_neg (by omega), if_neg (by omega), if_neg (by omega), if_neg (by omega)]
    · rw [if_neg (by omega)]
      unfold lexAll at hq
      rw [if_neg hi] at hq
      unfold ref05_Tokens.s10
      have := hq a c w (by rw [← hl.1]; exact hl) ke ha
      rw [hl.1]
      exact this
theorem tokens2_F {Q : Option Addr → Nat → Nat → Int → Int → PT} (hq : ∀ a c w', Lst w' 33 4 Tk.enc a (lexS s).1.length c (lexS s).1 → Ext w w' → (∀ k, inB a k → w.heap.size ≤ k) → Q a (lexS s).1.length c (lexS s).2.1 (lexS s).2.2 w') : ref05_Tokens.F Z Q s w := by
  unfold ref05_Tokens.F ref05_Tokens.s99
  unfold lexS at hq
  rw [pif_dec]
  split
  · rw [if_pos (by omega)] at hq
    exact hq none 0 w Lst.nil Keep.refl fun k ⟨p, hp, _⟩ => by cases hp
  · rw [if_neg (by omega)] at hq
    show (exK _) _
    exact exK_of (s.size + 1) (tokens2_loop (w0 := w) (by omega) s.size 0 [] _ 0 0 _ (by omega) (by omega) (by omega) (Lst.new w _ _ _) (Keep.refl.alloc _) (fun k ⟨p, hp, hk⟩ => by cases hp; exact Nat.le_of_eq hk) hq)
end
end Go.Proofs.Ytimdpeolfhaajaa
