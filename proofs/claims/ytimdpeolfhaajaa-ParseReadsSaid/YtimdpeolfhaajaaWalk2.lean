/-
  The document's walk: a clause. No condition.
-/
import Derived.Test.YtimdpeolfhaajaaWalk1
import Derived.Test.YtimdpeolfhaajaaParse1
set_option linter.unusedVariables false
set_option linter.unusedSimpArgs false
namespace Go.Proofs.Ytimdpeolfhaajaa
open Go.RowKit
abbrev fNums (sl : Sl3) (ns : List Fg) : Fct := fL 36 2 Fg.enc sl.a sl.n sl.c ns
/-- What lies there while a clause is read. -/
abbrev CL (rb : Nat) (a : Option Addr) (c : Nat) (l : List Tk) (en : Int) (cb tb ob : Nat) (t : Tk) (z : List Value) (x : Cl) (sl : Sl3) (s : Ws) : List Fct := [fNums sl x.nums, fB cb (clEnc (x, sl)), fB tb t.enc, fB ob z, fW rb a c l en s]
section
variable {Z : List PanicEntry → PT} {S : Nat → Prop} {w0 w : World} {rb cb tb ob : Nat} {a : Option Addr} {c : Nat} {l : List Tk} {en : Int} {s : Ws} {t : Tk} {z : List Value} {x : Cl} {sl : Sl3}
theorem cw_app {K : PT} (h : Sep S w0 w (CL rb a c l en cb tb ob t z x sl s)) (hi : s.i ≤ 1000000) (hn : x.nums.length ≤ 1000) (hk : ∀ w' sl', Sep S w0 w' (CL rb a c l en cb tb ob t z { x with nums := x.nums ++ [figV l en s] } sl' (figW l en s)) → K w') :
    drawn (fun S => hL S ⟨cb, 2, none⟩ fun v vn vc => cal Try.prog Z 28 [.pointer (some ⟨rb, 0, none⟩)] (isN fun u => sAnd S (cnd (List.length u = 2) (newC 36 (u ++ []) fun ad => sAnd S (runL Try.prog (bi .append #[40, 40] 40 [false, false] [.slice v vn vc, .slice (some ad) 1 1]) fun p pn pc => sAnd S (st1 ⟨cb, 2, none⟩ (.slice p pn pc) K)))))) w := by
  refine h.drawn (fun w' => IsB w' cb (clEnc (x, sl))) (h.drew.at (n := 1) rfl : IsB _ _ _) fun h => ?_
  refine hL_of (fun w' hw' => hw'.cell 2) ?_
  refine h.wFig 4 rfl hi fun w1 h1 => ?_
  refine sAnd_of (h1.at (n := 1) rfl : IsB _ _ _) (cnd_of rfl ?_)
  rw [List.append_nil]
  refine h1.new fun w2 b2 h2 k2 => ?_
  refine sAnd_of (h2.at (n := 2) rfl : IsB _ _ _) ?_
  refine h2.app (x := figV l en s) 1 rfl (bytes := 16) (z := .agg #[.int .i64 0, .int .i64 0]) Try.underlying40 (by kernel_rfl) rfl (by decide) Fg.enc_len (Fg.enc_one _) (fun j u hu => by rw [add_mk, Nat.zero_add, (h2.at (n := 0) rfl : IsB _ _ _).cell]; exact hu) (by decide) (by omega) fun a' c' w3 h3 k3 => ?_
  refine sAnd_of (h3.at (n := 2) rfl : IsB _ _ _) ?_
  refine h3.st1 2 rfl (by simp [clEnc]) rfl fun w4 h4 k4 => ?_
  exact hk w4 ⟨a', sl.n + 1, c'⟩ (h4.drop 0)
theorem fig_i2 (s : Ws) : (figW l en s).i = s.i + 1 := fig_i
theorem kind_i {k : Int} : (kindW l en k s).i = s.i + 1 := by
  unfold kindW skipW wrongW
  grind
theorem dots_i : ∀ (m : Nat) (s : Ws) (ns : List Fg), (dotsW l en m s ns).2.i = s.i + 2 * m ∧ (dotsW l en m s ns).1.length = ns.length + m
  | 0, s, ns => ⟨rfl, rfl⟩
  | m + 1, s, ns => by
    unfold dotsW
    obtain ⟨h1, h2⟩ := dots_i m (figW l en (kindW l en 3 s)) (ns ++ [figV l en (kindW l en 3 s)])
    rw [h1, h2, fig_i2, kind_i]
    simp; omega
theorem more_i {k : Int} {ns : List Fg} : s.i ≤ (moreW l en k s ns).2.2.i ∧ (moreW l en k s ns).2.2.i ≤ s.i + 2 ∧ (moreW l en k s ns).1.length ≤ ns.length + 1 := by
  unfold moreW
  split
  · simp only [fig_i2, skipW]; simp; omega
  · simp
/-- What is asked behind a clause. -/
def CwQ (Q : List Value → PT) (w0 : World) (rb : Nat) (a : Option Addr) (c : Nat) (l : List Tk) (en : Int) (x : Cl) (s : Ws) : Prop := ∀ (sl : Sl3) w', Keep (fpW rb a) w0 w' → Wk w' rb a c l en s → Lst w' 36 2 Fg.enc sl.a sl.n sl.c x.nums → (∀ k, inB sl.a k → w0.heap.size ≤ k) → Q (clEnc (x, sl)) w'
theorem cw_fin {Q : List Value → PT} (h : Sep (fpW rb a) w0 w (CL rb a c l en cb tb ob t z x sl s)) (hz : z.length = 5) (hq : CwQ Q w0 rb a c l en x s) : ldN 5 ⟨cb, 0, none⟩ (fun v => stN 5 ⟨ob, 0, none⟩ v (ldN 5 ⟨ob, 0, none⟩ fun u => Q u)) w := by
  refine h.ldN 1 rfl (vs := clEnc (x, sl)) rfl rfl ?_
  refine h.stN 3 rfl (by omega) rfl (clEnc_one _) (cs' := clEnc (x, sl)) ?_ fun w1 h1 k1 => ?_
  · unfold lay
    rw [List.take_zero, List.drop_eq_nil_of_le (by rw [clEnc_len]; omega)]
    simp
  · refine h1.ldN 3 rfl (vs := clEnc (x, sl)) rfl rfl ?_
    refine hq sl w1 h1.kept (h1.at (n := 4) rfl) (h1.at (n := 0) rfl) fun k hk => ?_
    rcases h1.own (fNums sl x.nums) (by simp) k hk with g | g
    · exact g
    · have : apart (fNums sl x.nums) (fW rb a c l en s) := pw_at apart.symm h1.dis (i := 0) (j := 4) rfl rfl (by decide)
      exact absurd g (this k hk)
theorem cw_s26 {Q : List Value → PT} {port : Bool} (h : Sep (fpW rb a) w0 w (CL rb a c l en cb tb ob t z x sl s)) (hz : z.length = 5) (hi : s.i ≤ 900000) (hn : x.nums.length ≤ 100) (hd : x.dash = false)
    (hq : CwQ Q w0 rb a c l en { x with nums := (if port = true then moreW l en 5 s x.nums else (x.nums, false, s)).1, dash := (if port = true then moreW l en 5 s x.nums else (x.nums, false, s)).2.1 } (if port = true then moreW l en 5 s x.nums else (x.nums, false, s)).2.2) :
    ref06_Walk_Clause.s26 Z Q (some ⟨rb, 0, none⟩) ⟨ob, 0, none⟩ ⟨cb, 0, none⟩ port w := by
  obtain ⟨xw, xp, xn, xs, xd⟩ := x
  simp only at hd hn hq
  subst hd
  unfold ref06_Walk_Clause.s26
  simp only [nn_some, add_mk, Nat.zero_add]
  rw [pif_bool]
  split
  · rename_i hp
    subst hp
    simp only [if_true] at hq
    unfold moreW at hq
    refine h.wNext 4 rfl fun w1 h1 => ?_
    refine ptI_of (n := (peekS l en s.i).kind) rfl ?_
    rw [pif_beq]
    split
    · rename_i hk
      rw [if_pos hk] at hq
      refine h1.st1 1 rfl (by simp [clEnc]) rfl fun w2 h2 k2 => ?_
      have h2 : Sep (fpW rb a) w0 w2 (CL rb a c l en cb tb ob t z ⟨xw, xp, xn, xs, true⟩ sl s) := h2
      refine h2.wI 4 rfl ?_
      refine h2.wSkip 4 rfl (by omega) fun w3 h3 => ?_
      have h3 : Sep (fpW rb a) w0 w3 (CL rb a c l en cb tb ob t z ⟨xw, xp, xn, xs, true⟩ sl (skipW s)) := h3
      refine cw_app h3 (by simp only [skipW]; omega) (by simp only; omega) fun w4 sl4 h4 => ?_
      exact cw_fin h4 hz hq
    · rename_i hk
      rw [if_neg hk] at hq
      exact cw_fin h1 hz hq
  · rename_i hp
    rw [if_neg hp] at hq
    exact cw_fin h hz hq
theorem cw_s29 {Q : List Value → PT} {addr port : Bool} (h : Sep (fpW rb a) w0 w (CL rb a c l en cb tb ob t z x sl s)) (hz : z.length = 5) (hi : s.i ≤ 800000) (hn : x.nums.length ≤ 90) (hd : x.dash = false) (hs : x.slash = false)
    (hq : let m := if addr = true then moreW l en 4 s x.nums else (x.nums, false, s)
      let q := if port = true then moreW l en 5 m.2.2 m.1 else (m.1, false, m.2.2)
      CwQ Q w0 rb a c l en ⟨x.word, x.pos, q.1, m.2.1, q.2.1⟩ q.2.2) :
    ref06_Walk_Clause.s29 Z Q (some ⟨rb, 0, none⟩) ⟨ob, 0, none⟩ ⟨cb, 0, none⟩ addr port w := by
  obtain ⟨xw, xp, xn, xs, xd⟩ := x
  simp only at hd hn hq hs
  subst hd hs
  unfold ref06_Walk_Clause.s29
  simp only [nn_some, add_mk, Nat.zero_add]
  rw [pif_bool]
  split
  · rename_i hp
    subst hp
    simp only [if_true] at hq
    have hm := more_i (l := l) (en := en) (s := s) (k := 4) (ns := xn)
    unfold moreW at hq hm
    refine h.wNext 4 rfl fun w1 h1 => ?_
    refine ptI_of (n := (peekS l en s.i).kind) rfl ?_
    rw [pif_beq]
    split
    · rename_i hk
      rw [if_pos hk] at hq hm
      refine h1.st1 1 rfl (by simp [clEnc]) rfl fun w2 h2 k2 => ?_
      have h2 : Sep (fpW rb a) w0 w2 (CL rb a c l en cb tb ob t z ⟨xw, xp, xn, true, false⟩ sl s) := h2
      refine h2.wI 4 rfl ?_
      refine h2.wSkip 4 rfl (by omega) fun w3 h3 => ?_
      have h3 : Sep (fpW rb a) w0 w3 (CL rb a c l en cb tb ob t z ⟨xw, xp, xn, true, false⟩ sl (skipW s)) := h3
      refine cw_app h3 (by simp only [skipW]; omega) (by simp only; omega) fun w4 sl4 h4 => ?_
      exact cw_s26 h4 hz (by simp only at hm; omega) (by simp only at hm ⊢; omega) rfl hq
    · rename_i hk
      rw [if_neg hk] at hq
      exact cw_s26 h1 hz (by omega) (by simp only; omega) rfl hq
  · rename_i hp
    rw [if_neg hp] at hq
    exact cw_s26 h hz (by omega) (by simp only; omega) rfl hq
theorem cw_dots {Q : List Value → PT} {port : Bool} (hz : z.length = 5) : ∀ (m : Nat) (x : Cl) (sl : Sl3) (s : Ws) (w : World), m ≤ 3 → Sep (fpW rb a) w0 w (CL rb a c l en cb tb ob t z x sl s) → s.i + 2 * m ≤ 700010 → x.nums.length + m ≤ 80 →
    (∀ w' sl', Sep (fpW rb a) w0 w' (CL rb a c l en cb tb ob t z { x with nums := (dotsW l en m s x.nums).1 } sl' (dotsW l en m s x.nums).2) → ref06_Walk_Clause.s29 Z Q (some ⟨rb, 0, none⟩) ⟨ob, 0, none⟩ ⟨cb, 0, none⟩ true port w') →
    ref06_Walk_Clause.l38 Z Q (m + 1) (some ⟨rb, 0, none⟩) ⟨ob, 0, none⟩ ⟨cb, 0, none⟩ true port (3 - m : Int) w
  | 0, x, sl, s, w, hm, h, hi, hn, hk => by
    unfold ref06_Walk_Clause.l38 ref06_Walk_Clause.s41
    rw [pif_true, pif_dec, if_neg (by omega)]
    exact hk w sl h
  | m + 1, x, sl, s, w, hm, h, hi, hn, hk => by
    unfold ref06_Walk_Clause.l38 ref06_Walk_Clause.s41
    rw [pif_true, pif_dec, if_pos (by omega)]
    refine h.wKind 4 rfl (by omega) fun w1 h1 => ?_
    have h1 : Sep (fpW rb a) w0 w1 (CL rb a c l en cb tb ob t z x sl (kindW l en 3 s)) := h1
    have e1 := kind_i (l := l) (en := en) (s := s) (k := 3)
    simp only [add_mk, Nat.zero_add]
    refine cw_app h1 (by omega) (by omega) fun w2 sl2 h2 => ?_
    have e2 := fig_i2 (l := l) (en := en) (kindW l en 3 s)
    rw [show IntKind.wrap .i64 ((3 - ((m + 1 : Nat) : Int)) + 1) = 3 - (m : Int) by rw [wrap_in (by omega) (by omega)]; omega]
    exact cw_dots hz m _ sl2 _ w2 (by omega) h2 (by omega) (by simp; omega) hk
theorem cw_s49 {Q : List Value → PT} {f : Fg} (h : Sep (fpW rb a) w0 w (CL rb a c l en cb tb ob t z ⟨t.text, t.pos, [f], false, false⟩ sl s)) (hz : z.length = 5) (hi : s.i ≤ 700000)
    (hq : CwQ Q w0 rb a c l en (clauseW2 l en t s f).1 (clauseW2 l en t s f).2) :
    ref06_Walk_Clause.s49 Z Q (some ⟨rb, 0, none⟩) ⟨ob, 0, none⟩ ⟨cb, 0, none⟩ (addrT t.text) (portT t.text) w := by
  unfold ref06_Walk_Clause.s49
  unfold clauseW2 at hq
  simp only at hq
  cases ha : addrT t.text with
  | false =>
    rw [ha] at hq
    simp only [Bool.false_eq_true, if_false] at hq
    refine exK_of 1 ?_
    unfold ref06_Walk_Clause.l38 ref06_Walk_Clause.s41
    rw [pif_false]
    refine cw_s29 h hz (by omega) (by simp) rfl rfl ?_
    simp only [Bool.false_eq_true, if_false]
    exact hq
  | true =>
    rw [ha] at hq
    simp only [if_true] at hq
    refine exK_of (3 + 1) ?_
    refine cw_dots hz 3 _ sl s w (by decide) h (by omega) (by simp) fun w1 sl1 h1 => ?_
    obtain ⟨d1, d2⟩ := dots_i (l := l) (en := en) 3 s [f]
    refine cw_s29 h1 hz (by simp only; omega) (by simp only [d2]; simp) rfl rfl ?_
    simp only [if_true]
    exact hq
theorem cw_s52 {Q : List Value → PT} (h : Sep (fpW rb a) w0 w (CL rb a c l en cb tb ob t z ⟨t.text, t.pos, [], false, false⟩ sl s)) (hz : z.length = 5) (hi : s.i ≤ 600000)
    (hq : CwQ Q w0 rb a c l en (clauseW2 l en t (figW l en (skipW s)) (figV l en (skipW s))).1 (clauseW2 l en t (figW l en (skipW s)) (figV l en (skipW s))).2) :
    ref06_Walk_Clause.s52 Z Q (some ⟨rb, 0, none⟩) ⟨ob, 0, none⟩ ⟨cb, 0, none⟩ (addrT t.text) (portT t.text) w := by
  unfold ref06_Walk_Clause.s52
  simp only [nn_some, add_mk, Nat.zero_add]
  refine h.wI 4 rfl ?_
  refine h.wSkip 4 rfl (by omega) fun w1 h1 => ?_
  have h1 : Sep (fpW rb a) w0 w1 (CL rb a c l en cb tb ob t z ⟨t.text, t.pos, [], false, false⟩ sl (skipW s)) := h1
  refine cw_app h1 (by simp only [skipW]; omega) (by simp) fun w2 sl2 h2 => ?_
  exact cw_s49 h2 hz (by rw [fig_i2]; simp only [skipW]; omega) hq
theorem cw_had {Q : List Value → PT} {ha : Option Addr} {hn hc : Nat} {cps : List (Cl × Sl3)} (hh : Lst w0 42 5 clEnc ha hn hc cps) (hd : ∀ k, inB ha k → ¬ fpW rb a k) (hl : cps.length ≤ 100000) (hz : z.length = 5) :
    ∀ (m j : Nat) (s : Ws) (w : World), cps.length = j + m → Sep (fpW rb a) w0 w (CL rb a c l en cb tb ob t z ⟨t.text, t.pos, [], false, false⟩ sl s) → s.i ≤ 600000 →
    (∀ w', Sep (fpW rb a) w0 w' (CL rb a c l en cb tb ob t z ⟨t.text, t.pos, [], false, false⟩ sl (hadW l en t.text ((cps.drop j).map fun p => p.1.word) s)) → ref06_Walk_Clause.s52 Z Q (some ⟨rb, 0, none⟩) ⟨ob, 0, none⟩ ⟨cb, 0, none⟩ (addrT t.text) (portT t.text) w') →
    ref06_Walk_Clause.l61 Z Q (m + 1) (some ⟨rb, 0, none⟩) ha hn hc ⟨ob, 0, none⟩ ⟨tb, 0, none⟩ ⟨cb, 0, none⟩ (addrT t.text) (portT t.text) j w := by
  intro m
  induction m with
  | zero =>
    intro j s w hm h hi hk
    unfold ref06_Walk_Clause.l61 ref06_Walk_Clause.s64
    rw [pif_dec, if_neg (by rw [hh.1]; omega)]
    rw [List.drop_eq_nil_of_le (by omega)] at hk
    exact hk w h
  | succ m ih =>
    intro j s w hm h hi hk
    unfold ref06_Walk_Clause.l61 ref06_Walk_Clause.s64
    rw [pif_dec, if_pos (by rw [hh.1]; omega)]
    have h := h.drew
    show ixS _ _ _ _ _ w.drew
    generalize w.drew = w1 at h ⊢
    have hx := List.getElem?_eq_getElem (show j < cps.length by omega)
    rw [List.drop_eq_getElem_cons (by omega), List.map_cons] at hk
    unfold hadW at hk
    refine ixS_Lst clEnc_len (hh.keep h.kept hd) hx fun b hb hcl => ?_
    refine ldS_of (by rw [add_mk]; exact hcl 0 _ rfl) ?_
    simp only [add_mk, Nat.zero_add]
    refine h.ldS 2 rfl rfl ?_
    rw [wrap_nat1 (by omega)]
    show pif (same (cps[j]).1.word t.text) _ _ w1
    rw [pif_bool]
    split
    · rename_i hs
      rw [if_pos hs] at hk
      refine h.wWrong 4 rfl fun w2 h2 => ?_
      exact ih (j + 1) _ w2 (by omega) h2 (by rw [wrong_i]; exact hi) hk
    · rename_i hs
      rw [if_neg hs] at hk
      exact ih (j + 1) s w1 (by omega) h hi hk
theorem clause2_F {Q : List Value → PT} {ha : Option Addr} {hn hc : Nat} {cps : List (Cl × Sl3)} (h : Wk w rb a c l en s) (hi : s.i ≤ 600000) (hh : Lst w 42 5 clEnc ha hn hc cps) (hd : ∀ k, inB ha k → ¬ fpW rb a k) (hl : cps.length ≤ 100000)
    (hq : CwQ Q w rb a c l en (clauseW l en (cps.map fun p => p.1.word) s).1 (clauseW l en (cps.map fun p => p.1.word) s).2) : ref06_Walk_Clause.F Z Q (some ⟨rb, 0, none⟩) ha hn hc w := by
  unfold ref06_Walk_Clause.F ref06_Walk_Clause.s79
  refine (Sep.start1 (f := fW rb a c l en s) (S := fpW rb a) h fun k hk => hk).new fun w1 ob h1 k1 => ?_
  refine h1.wNext 1 rfl fun w2 h2 => ?_
  unfold clauseW at hq
  simp only at hq
  generalize ht : peekS l en s.i = t at hq ⊢
  refine h2.new fun w3 tb h3 k3 => ?_
  refine h3.stN 0 rfl (by simp) rfl (Tk.enc_one _) (cs' := t.enc) (by simp [lay, Tk.enc]) fun w4 h4 k4 => ?_
  simp only [add_mk, Nat.zero_add]
  refine h4.ldS 0 rfl rfl (h4.ldI 0 rfl rfl ?_)
  refine h4.new fun w5 cb h5 k5 => ?_
  refine h5.stN 0 rfl (by simp) rfl (by simp [Value.oneCell']) (cs' := clEnc (⟨t.text, t.pos, [], false, false⟩, ⟨none, 0, 0⟩)) (by simp [lay, clEnc]) fun w6 h6 k6 => ?_
  have h7 : Sep (fpW rb a) w w6 (CL rb a c l en cb tb ob t [.string ⟨#[]⟩, .int .i64 0, .slice none 0 0, .bool false, .bool false] ⟨t.text, t.pos, [], false, false⟩ ⟨none, 0, 0⟩ s) := h6.add Keep.refl (f := fNums ⟨none, 0, 0⟩ []) Lst.nil fun k ⟨p, hp, _⟩ => by cases hp
  have e1 := clauseW1_i (l := l) (en := en) (s := s) (t := t) (had := cps.map fun p => p.1.word)
  have s72 : ∀ (s1 : Ws) (w7 : World), s1.i = s.i → s1 = (if addrT t.text = false ∧ portT t.text = false ∧ same t.text wProto = false then wrongW l en 8 s else s) → Sep (fpW rb a) w w7 (CL rb a c l en cb tb ob t [.string ⟨#[]⟩, .int .i64 0, .slice none 0 0, .bool false, .bool false] ⟨t.text, t.pos, [], false, false⟩ ⟨none, 0, 0⟩ s1) → ref06_Walk_Clause.s72 Z Q (some ⟨rb, 0, none⟩) ha hn hc ⟨ob, 0, none⟩ ⟨tb, 0, none⟩ ⟨cb, 0, none⟩ (addrT t.text) (portT t.text) w7 := fun s1 w7 hi1 he h7 => by
    unfold ref06_Walk_Clause.s72
    refine exK_of (cps.length + 1) (cw_had hh hd hl rfl cps.length 0 s1 w7 (by omega) h7 (by omega) fun w8 h8 => ?_)
    rw [List.drop_zero, he] at h8
    refine cw_s52 h8 rfl ?_ hq
    have : (clauseW1 l en (cps.map fun p => p.1.word) t s).i ≤ 600000 := by rw [e1]; exact hi
    exact this
  have s75 : ∀ (p : Bool), p = portT t.text → ref06_Walk_Clause.s75 Z Q (some ⟨rb, 0, none⟩) ha hn hc ⟨ob, 0, none⟩ ⟨tb, 0, none⟩ ⟨cb, 0, none⟩ (addrT t.text) p w6 := fun p hp => by
    subst hp
    unfold ref06_Walk_Clause.s75
    rw [pif_not, pif_not, pif_bool]
    split
    · rename_i ha
      exact s72 s w6 rfl (by rw [if_neg (by simp [ha])]) h7
    · rename_i ha
      rw [pif_bool]
      split
      · rename_i hp
        exact s72 s w6 rfl (by rw [if_neg (by simp [hp])]) h7
      · rename_i hp
        simp only [add_mk, Nat.zero_add]
        refine h7.ldS 2 rfl rfl ?_
        rw [pif_not]
        show pif (same t.text wProto) _ _ w6
        rw [pif_bool]
        split
        · rename_i hs
          exact s72 s w6 rfl (by rw [if_neg (by simp [hs])]) h7
        · rename_i hs
          refine h7.wWrong 4 rfl fun w8 h8 => ?_
          exact s72 _ w8 wrong_i (by rw [if_pos (by simp at ha hp hs; simp [ha, hp, hs])]) h8
  have s77 : ∀ (p : Bool), p = addrT t.text → ref06_Walk_Clause.s77 Z Q (some ⟨rb, 0, none⟩) ha hn hc ⟨ob, 0, none⟩ ⟨tb, 0, none⟩ ⟨cb, 0, none⟩ p w6 := fun p hp => by
    subst hp
    unfold ref06_Walk_Clause.s77
    simp only [add_mk, Nat.zero_add]
    refine h7.ldS 2 rfl rfl ?_
    show pif (same t.text wSport) _ _ w6
    rw [pif_bool]
    split
    · rename_i hs
      exact s75 true (by simp [portT, hs])
    · rename_i hs
      refine h7.ldS 2 rfl rfl ?_
      exact s75 _ (by show same t.text wDport = _; simp [portT, hs])
  refine h7.ldS 2 rfl rfl ?_
  show pif (same t.text wSrc) _ _ w6
  rw [pif_bool]
  split
  · rename_i hs
    exact s77 true (by simp [addrT, hs])
  · rename_i hs
    refine h7.ldS 2 rfl rfl ?_
    exact s77 _ (by show same t.text wDst = _; simp [addrT, hs])
end
end Go.Proofs.Ytimdpeolfhaajaa
