/-
  The document's walk: a line. No condition.
-/
import Derived.Test.YtimdpeolfhaajaaWalk2
set_option linter.unusedVariables false
set_option linter.unusedSimpArgs false
namespace Go.Proofs.Ytimdpeolfhaajaa
open Go.RowKit
abbrev fCls (sl : Sl3) (cps : List (Cl × Sl3)) : Fct := fN 42 5 clEnc (fun p => fNums p.2 p.1.nums) sl.a sl.n sl.c cps
abbrev RL (rb : Nat) (a : Option Addr) (c : Nat) (l : List Tk) (en : Int) (xb ob : Nat) (z : List Value) (x : Rw) (sl : Sl3) (cps : List (Cl × Sl3)) (s : Ws) : List Fct := [fCls sl cps, fB xb (rwEnc (x, sl)), fB ob z, fW rb a c l en s]
/-- What is asked behind a line. -/
def RwQ (Q : List Value → PT) (w0 : World) (rb : Nat) (a : Option Addr) (c : Nat) (l : List Tk) (en : Int) (x : Rw) (s : Ws) : Prop := ∀ (sl : Sl3) (cps : List (Cl × Sl3)) w', x.clauses = cps.map Prod.fst → Keep (fpW rb a) w0 w' → Wk w' rb a c l en s → (fCls sl cps).P w' → (∀ k, (fCls sl cps).fp k → w0.heap.size ≤ k) → Q (rwEnc (x, sl)) w'
section
variable {Z : List PanicEntry → PT} {w0 w : World} {rb xb ob : Nat} {a : Option Addr} {c : Nat} {l : List Tk} {en : Int} {s : Ws} {z : List Value} {x : Rw} {sl : Sl3} {cps : List (Cl × Sl3)}
theorem rw_fin {Q : List Value → PT} (h : Sep (fpW rb a) w0 w (RL rb a c l en xb ob z x sl cps s)) (hz : z.length = 8) (hc : x.clauses = cps.map Prod.fst) (hq : RwQ Q w0 rb a c l en x s) : ldN 8 ⟨xb, 0, none⟩ (fun v => stN 8 ⟨ob, 0, none⟩ v (ldN 8 ⟨ob, 0, none⟩ fun u => Q u)) w := by
  refine h.ldN 1 rfl (vs := rwEnc (x, sl)) rfl rfl ?_
  refine h.stN 2 rfl (by omega) rfl (rwEnc_one _) (cs' := rwEnc (x, sl)) ?_ fun w1 h1 k1 => ?_
  · unfold lay
    rw [List.take_zero, List.drop_eq_nil_of_le (by rw [rwEnc_len]; omega)]
    simp
  · refine h1.ldN 2 rfl (vs := rwEnc (x, sl)) rfl rfl ?_
    refine hq sl cps w1 hc h1.kept (h1.at (n := 3) rfl) (h1.at (n := 0) rfl) fun k hk => ?_
    rcases h1.own (fCls sl cps) (by simp) k hk with g | g
    · exact g
    · have : apart (fCls sl cps) (fW rb a c l en s) := pw_at apart.symm h1.dis (i := 0) (j := 3) rfl rfl (by decide)
      exact absurd g (this k hk)
theorem rw_s14 {Q : List Value → PT} (h : Sep (fpW rb a) w0 w (RL rb a c l en xb ob z x sl cps s)) (hz : z.length = 8) (hc : x.clauses = cps.map Prod.fst) (hq : RwQ Q w0 rb a c l en x (tailW l en s)) : ref06_Walk_Row.s14 Z Q (some ⟨rb, 0, none⟩) ⟨ob, 0, none⟩ ⟨xb, 0, none⟩ w := by
  unfold ref06_Walk_Row.s14
  have h := h.drew
  show nn _ _ w.drew
  generalize w.drew = w1 at h ⊢
  simp only [nn_some, add_mk, Nat.zero_add]
  have hw : Wk w1 rb a c l en s := h.at (n := 3) rfl
  refine h.wI 3 rfl ?_
  refine ldL_of (hw.cell.cell 0) ?_
  unfold tailW at hq
  rw [pif_dec]
  split
  · rename_i hi
    have hi : s.i < l.length := by omega
    refine ldL_of (hw.cell.cell 0) ?_
    refine h.wI 3 rfl ?_
    have hx := List.getElem?_eq_getElem hi
    have ep : (peekS l en s.i) = l[s.i] := by
      unfold peekS
      rw [if_pos hi, hx]; rfl
    refine ixS_Lst Tk.enc_len hw.toks hx fun b hb hcl => ?_
    refine ldI_of (by rw [add_mk]; exact hcl 0 _ rfl) ?_
    rw [pif_bne]
    split
    · rename_i h7
      rw [if_neg (fun g => g.2 (by rw [ep]; exact h7))] at hq
      exact rw_fin h hz hc hq
    · rename_i h7
      rw [if_pos ⟨hi, by rw [ep]; exact h7⟩] at hq
      refine h.wWrong 3 rfl fun w2 h2 => ?_
      exact rw_fin h2 hz hc hq
  · rename_i hi
    rw [if_neg (fun g => hi (by have := g.1; omega))] at hq
    exact rw_fin h hz hc hq
theorem rw_s34 {Q : List Value → PT} (h : Sep (fpW rb a) w0 w (RL rb a c l en xb ob z x sl cps s)) (hz : z.length = 8) (hc : x.clauses = cps.map Prod.fst) (hi : s.i ≤ 900000) (hq : RwQ Q w0 rb a c l en (actW2 l en x s).1 (actW2 l en x s).2) : ref06_Walk_Row.s34 Z Q (some ⟨rb, 0, none⟩) ⟨ob, 0, none⟩ ⟨xb, 0, none⟩ w := by
  unfold ref06_Walk_Row.s34
  refine h.wWord 3 rfl fun w1 h1 => ?_
  unfold actW2 at hq
  simp only at hq
  show pif (wordW l en wDrop s) _ _ w1
  rw [pif_bool]
  split
  · rename_i hd
    rw [if_pos hd] at hq
    unfold ref06_Walk_Row.s23
    simp only [nn_some, add_mk, Nat.zero_add]
    refine h1.st1 1 rfl (by simp [rwEnc]) rfl fun w2 h2 k2 => ?_
    have h2 : Sep (fpW rb a) w0 w2 (RL rb a c l en xb ob z { x with drop := true } sl cps s) := h2
    refine h2.wI 3 rfl ?_
    refine h2.wSkip 3 rfl (by omega) fun w3 h3 => ?_
    exact rw_s14 h3 hz hc hq
  · rename_i hd
    rw [if_neg hd] at hq
    have s29 : ∀ (s1 : Ws) (w2 : World), s1.i = s.i → s1 = (if wordW l en wPort s = true then s else wrongW l en 8 s) → Sep (fpW rb a) w0 w2 (RL rb a c l en xb ob z x sl cps s1) → ref06_Walk_Row.s29 Z Q (some ⟨rb, 0, none⟩) ⟨ob, 0, none⟩ ⟨xb, 0, none⟩ w2 := fun s1 w2 e1 e2 h2 => by
      rw [← e2] at hq
      unfold ref06_Walk_Row.s29
      simp only [nn_some, add_mk, Nat.zero_add]
      refine h2.wI 3 rfl ?_
      refine h2.wSkip 3 rfl (by omega) fun w3 h3 => ?_
      refine h3.wFig 3 rfl (by simp only [skipW]; omega) fun w4 h4 => ?_
      refine h4.stN 1 rfl (by simp [rwEnc]) rfl (Fg.enc_one _) (cs' := rwEnc ({ x with port := figV l en (skipW s1) }, sl)) (by simp [lay, rwEnc, Fg.enc]) fun w5 h5 k5 => ?_
      exact rw_s14 h5 hz hc hq
    unfold ref06_Walk_Row.s31
    refine h1.wWord 3 rfl fun w2 h2 => ?_
    rw [pif_not]
    show pif (wordW l en wPort s) _ _ w2
    rw [pif_bool]
    split
    · rename_i hp
      exact s29 s w2 rfl (by rw [if_pos hp]) h2
    · rename_i hp
      refine h2.wWrong 3 rfl fun w3 h3 => ?_
      exact s29 _ w3 wrong_i (by rw [if_neg hp]) h3
theorem rw_s37 {Q : List Value → PT} (h : Sep (fpW rb a) w0 w (RL rb a c l en xb ob z x sl cps s)) (hz : z.length = 8) (hc : x.clauses = cps.map Prod.fst) (hi : s.i ≤ 800000) (hq : RwQ Q w0 rb a c l en (actW l en x s).1 (actW l en x s).2) : ref06_Walk_Row.s37 Z Q (some ⟨rb, 0, none⟩) ⟨ob, 0, none⟩ ⟨xb, 0, none⟩ w := by
  unfold ref06_Walk_Row.s37
  refine h.wKind 3 rfl (by omega) fun w1 h1 => ?_
  exact rw_s34 h1 hz hc (by rw [kind_i]; omega) hq
theorem clauseW_i {had : List ByteArray} : s.i + 2 ≤ (clauseW l en had s).2.i ∧ (clauseW l en had s).2.i ≤ s.i + 12 := by
  unfold clauseW
  simp only
  generalize peekS l en s.i = t
  have e1 := clauseW1_i (l := l) (en := en) (s := s) (t := t) (had := had)
  have e2 := fig_i2 (l := l) (en := en) (skipW (clauseW1 l en had t s))
  have e3 : (skipW (clauseW1 l en had t s)).i = s.i + 1 := by simp only [skipW, e1]
  generalize figV l en (skipW (clauseW1 l en had t s)) = f
  rw [e3] at e2
  generalize figW l en (skipW (clauseW1 l en had t s)) = s1 at e2
  unfold clauseW2
  simp only
  have d := dots_i (l := l) (en := en) 3 s1 [f]
  have m1 := fun (s : Ws) ns => more_i (l := l) (en := en) (s := s) (k := 4) (ns := ns)
  have m2 := fun (s : Ws) ns => more_i (l := l) (en := en) (s := s) (k := 5) (ns := ns)
  by_cases ha : addrT t.text = true <;> by_cases hp : portT t.text = true <;> simp only [ha, hp, if_true, if_false, Bool.false_eq_true]
  · have := m1 (dotsW l en 3 s1 [f]).2 (dotsW l en 3 s1 [f]).1
    have := m2 (moreW l en 4 (dotsW l en 3 s1 [f]).2 (dotsW l en 3 s1 [f]).1).2.2 (moreW l en 4 (dotsW l en 3 s1 [f]).2 (dotsW l en 3 s1 [f]).1).1
    omega
  · have := m1 (dotsW l en 3 s1 [f]).2 (dotsW l en 3 s1 [f]).1
    omega
  · have := m2 s1 [f]
    omega
  · omega
theorem rw_loop {Q : List Value → PT} (hz : z.length = 8) (hl : l.length ≤ 10000) : ∀ (m : Nat) (x : Rw) (sl : Sl3) (cps : List (Cl × Sl3)) (s : Ws) (w : World), l.length ≤ s.i + m → s.i ≤ 100000 → cps.length ≤ s.i → x.clauses = cps.map Prod.fst → Sep (fpW rb a) w0 w (RL rb a c l en xb ob z x sl cps s) →
    RwQ Q w0 rb a c l en (actW l en { x with clauses := (clausesW l en m s x.clauses).1 } (clausesW l en m s x.clauses).2).1 (actW l en { x with clauses := (clausesW l en m s x.clauses).1 } (clausesW l en m s x.clauses).2).2 →
    ref06_Walk_Row.l55 Z Q (m + 1) (some ⟨rb, 0, none⟩) ⟨ob, 0, none⟩ ⟨xb, 0, none⟩ w := by
  intro m
  induction m with
  | zero =>
    intro x sl cps s w hlen hi hcl hc h hq
    unfold ref06_Walk_Row.l55 ref06_Walk_Row.s57
    simp only [nn_some, add_mk, Nat.zero_add]
    have fin : ∀ w', Sep (fpW rb a) w0 w' (RL rb a c l en xb ob z x sl cps s) → ref06_Walk_Row.s37 Z Q (some ⟨rb, 0, none⟩) ⟨ob, 0, none⟩ ⟨xb, 0, none⟩ w' := fun w' h' => rw_s37 h' hz hc (by omega) hq
    refine h.wB 3 rfl ?_
    rw [pif_beq]
    split
    · refine h.wNext 3 rfl fun w1 h1 => ?_
      refine ptI_of (n := (peekS l en s.i).kind) rfl ?_
      rw [pif_beq, if_neg]
      · exact fin w1 h1
      · unfold peekS
        rw [if_neg (by omega)]
        simp
    · exact fin w h
  | succ m ih =>
    intro x sl cps s w hlen hi hcl hc h hq
    unfold ref06_Walk_Row.l55 ref06_Walk_Row.s57
    simp only [nn_some, add_mk, Nat.zero_add]
    have fin : ¬ (s.b = 0 ∧ (peekS l en s.i).kind = 1) → ∀ w', Sep (fpW rb a) w0 w' (RL rb a c l en xb ob z x sl cps s) → ref06_Walk_Row.s37 Z Q (some ⟨rb, 0, none⟩) ⟨ob, 0, none⟩ ⟨xb, 0, none⟩ w' := fun hn w' h' => by
      unfold clausesW at hq
      rw [if_neg hn] at hq
      exact rw_s37 h' hz hc (by omega) hq
    refine h.wB 3 rfl ?_
    rw [pif_beq]
    split
    · rename_i hb
      refine h.wNext 3 rfl fun w1 h1 => ?_
      refine ptI_of (n := (peekS l en s.i).kind) rfl ?_
      rw [pif_beq]
      split
      · rename_i hk
        have hin := peekS_in (l := l) (en := en) (i := s.i) (by omega)
        unfold clausesW at hq
        rw [if_pos ⟨hb, hk⟩] at hq
        have ci := clauseW_i (l := l) (en := en) (s := s) (had := x.clauses.map Cl.word)
        refine h1.drawn (fun w' => IsB w' xb (rwEnc (x, sl))) (h1.drew.at (n := 1) rfl : IsB _ _ _) fun h1 => ?_
        refine hL_of (fun w' hw' => hw'.cell 4) ?_
        refine hL_of (fun w' hw' => hw'.cell 4) ?_
        have hcw : x.clauses.map Cl.word = cps.map fun p => p.1.word := by rw [hc, List.map_map]; rfl
        have hap : apart (fCls sl cps) (fW rb a c l en s) := pw_at apart.symm h1.dis (i := 0) (j := 3) rfl rfl (by decide)
        refine ref06_Walk_Clause.cal (clause2_F (h1.at (n := 3) rfl : Wk _ rb a c l en s) (by omega) (h1.at (n := 0) rfl : (fCls sl cps).P _).1 (fun k hk => hap k (.inl hk)) (by omega) ?_)
        rw [← hcw]
        generalize clauseW l en (x.clauses.map Cl.word) s = r at ci hq ⊢
        obtain ⟨y, s2⟩ := r
        simp only at ci hq ⊢
        intro sn w2 k2 g2 n2 i2
        have h2 : Sep (fpW rb a) w0 w2 (fNums sn y.nums :: RL rb a c l en xb ob z x sl cps s2) := h1.turnAdd (n := 3) rfl k2 (g := fW rb a c l en s2) g2 (fun k hk => hk) (q := fNums sn y.nums) n2 i2
        refine sAnd_of (h2.at (n := 2) rfl : IsB _ _ _) (cnd_of (clEnc_len _) ?_)
        rw [List.append_nil]
        refine h2.new fun w3 b3 h3 k3 => ?_
        refine sAnd_of (h3.at (n := 3) rfl : IsB _ _ _) ?_
        refine h3.appN 2 1 (x := (y, sn)) rfl rfl (by decide) (bytes := 56) (z := .agg #[.string noText, .int .i64 0, .slice none 0 0, .bool false, .bool false]) Try.underlying37 (by kernel_rfl) rfl (by decide) clEnc_len (clEnc_one _) (fun j u hu => by rw [add_mk, Nat.zero_add, (h3.at (n := 0) rfl : IsB _ _ _).cell]; exact hu) (by decide) (by omega) fun a' c' w4 h4 k4 => ?_
        refine sAnd_of (h4.at (n := 3) rfl : IsB _ _ _) ?_
        refine h4.st1 3 rfl (by simp [rwEnc]) rfl fun w5 h5 k5 => ?_
        refine ih { x with clauses := x.clauses ++ [y] } ⟨a', sl.n + 1, c'⟩ (cps ++ [(y, sn)]) s2 w5 (by omega) (by omega) (by simp; omega) (by simp [hc]) ((h5.drop 0).drop 0) hq
      · rename_i hk
        exact fin (fun g => hk g.2) w1 h1
    · rename_i hb
      exact fin (fun g => hb g.1) w h
theorem row_F {Q : List Value → PT} (h : Wk w rb a c l en s) (hi : s.i ≤ 20000) (hl : l.length ≤ 10000) (hq : RwQ Q w rb a c l en (rowW l en s).1 (rowW l en s).2) : ref06_Walk_Row.F Z Q (some ⟨rb, 0, none⟩) w := by
  unfold ref06_Walk_Row.F ref06_Walk_Row.s71
  refine (Sep.start1 (f := fW rb a c l en s) (S := fpW rb a) h fun k hk => hk).new fun w1 ob h1 k1 => ?_
  refine h1.wNext 1 rfl fun w2 h2 => ?_
  refine ptI_of (n := (peekS l en s.i).pos) rfl ?_
  refine h2.new fun w3 xb h3 k3 => ?_
  refine h3.stN 0 rfl (by simp) rfl (by simp [Value.oneCell']) (cs' := rwEnc (rw0 (peekS l en s.i).pos, ⟨none, 0, 0⟩)) (by simp [lay, rwEnc, rw0]) fun w4 h4 k4 => ?_
  have h5 : Sep (fpW rb a) w w4 (RL rb a c l en xb ob [.int .i64 0, .bool false, .int .i64 0, .int .i64 0, .slice none 0 0, .bool false, .int .i64 0, .int .i64 0] (rw0 (peekS l en s.i).pos) ⟨none, 0, 0⟩ [] s) := h4.add Keep.refl (f := fCls ⟨none, 0, 0⟩ []) ⟨Lst.nil, by simp, by simp⟩ fun k hk => hk.elim (fun ⟨p, hp, _⟩ => by cases hp) (fun ⟨y, hy, _⟩ => by cases hy)
  unfold rowW at hq
  simp only at hq
  unfold ref06_Walk_Row.s68
  refine h5.wWord 3 rfl fun w6 h6 => ?_
  show pif (wordW l en wDefault s) _ _ w6
  rw [pif_bool]
  split
  · rename_i hd
    rw [if_pos hd] at hq
    unfold ref06_Walk_Row.s45
    simp only [nn_some, add_mk, Nat.zero_add]
    refine h6.st1 1 rfl (by simp [rwEnc]) rfl fun w7 h7 k7 => ?_
    have h7 : Sep (fpW rb a) w w7 (RL rb a c l en xb ob _ { rw0 (peekS l en s.i).pos with default := true } ⟨none, 0, 0⟩ [] s) := h7
    refine h7.wI 3 rfl ?_
    refine h7.wSkip 3 rfl (by omega) fun w8 h8 => ?_
    exact rw_s37 h8 rfl rfl (by simp only [skipW]; omega) hq
  · rename_i hd
    rw [if_neg hd] at hq
    unfold ref06_Walk_Row.s65
    refine h6.wFig 3 rfl (by omega) fun w7 h7 => ?_
    simp only [add_mk, Nat.zero_add]
    refine h7.stN 1 rfl (by simp [rwEnc]) rfl (Fg.enc_one _) (cs' := rwEnc ({ rw0 (peekS l en s.i).pos with prio := figV l en s }, ⟨none, 0, 0⟩)) (by simp [lay, rwEnc, Fg.enc]) fun w8 h8 k8 => ?_
    have fi := fig_i2 (l := l) (en := en) s
    refine exK_of (l.length - (figW l en s).i + 1) ?_
    exact rw_loop rfl hl _ { rw0 (peekS l en s.i).pos with prio := figV l en s } ⟨none, 0, 0⟩ [] (figW l en s) w8 (by omega) (by omega) (by simp) rfl h8 hq
end
end Go.Proofs.Ytimdpeolfhaajaa
