/-
  The document's walk through tokens: its code comes to 'kindW' .. 'figW'. No condition.
-/
import Derived.Test.YtimdpeolfhaajaaWalkS
import Derived.Test.YtimdpeolfhaajaaWlSep
import Derived.Test.YtimdpeolfhaajaaCodeWalk
set_option linter.unusedVariables false
set_option linter.unusedSimpArgs false
namespace Go.Proofs.Ytimdpeolfhaajaa
open Go.RowKit
/-- The walk lies at a block, its tokens at another one. -/
structure Wk (w : World) (rb : Nat) (a : Option Addr) (c : Nat) (l : List Tk) (en : Int) (s : Ws) : Prop where
  cell : IsB w rb [.slice a l.length c, .int .i64 s.i, .int .i64 en, .int .i64 s.b, .int .i64 s.p]
  toks : Lst w 33 4 Tk.enc a l.length c l
  ne : ∀ k, inB a k → k ≠ rb
def fpW (rb : Nat) (a : Option Addr) (k : Nat) : Prop := k = rb ∨ inB a k
def fW (rb : Nat) (a : Option Addr) (c : Nat) (l : List Tk) (en : Int) (s : Ws) : Fct where
  fp := fpW rb a
  P w := Wk w rb a c l en s
  lt w h k hk := by
    rcases hk with rfl | hk
    · exact h.cell.lt
    · exact h.toks.lt hk
  st w w' S h k hs := ⟨h.cell.keep k (hs rb (.inl rfl)), h.toks.keep k fun q hq => hs q (.inr hq), h.ne⟩
section
variable {Z : List PanicEntry → PT} {S : Nat → Prop} {w0 w : World} {L : List Fct} {n rb : Nat} {a : Option Addr} {c : Nat} {l : List Tk} {en : Int} {s : Ws}
theorem Wk.ext {w' : World} (h : Wk w rb a c l en s) (k : Ext w w') : Wk w' rb a c l en s := (fW rb a c l en s).st w w' _ h k fun _ _ g => g
theorem Wk.set {i : Nat} {v : Value} {s' : Ws} (h : Wk w rb a c l en s) (he : ([.slice a l.length c, .int .i64 s.i, .int .i64 en, .int .i64 s.b, .int .i64 s.p] : List Value).set i v = [.slice a l.length c, .int .i64 s'.i, .int .i64 en, .int .i64 s'.b, .int .i64 s'.p]) {w' : World} (hb : IsB w' rb (([.slice a l.length c, .int .i64 s.i, .int .i64 en, .int .i64 s.b, .int .i64 s.p] : List Value).set i v)) (k : Keep (· = rb) w w') : Wk w' rb a c l en s' :=
  ⟨he ▸ hb, h.toks.keep k fun q hq e => h.ne q hq e, h.ne⟩
theorem fpW_one {w' : World} (k : Keep (· = rb) w w') : Keep (fpW rb a) w w' := k.mono fun q _ e => .inl e
theorem Sep.wSet (n : Nat) {s' : Ws} {i : Nat} {v : Value} {K : PT} (h : Sep S w0 w L) (hn : L[n]? = some (fW rb a c l en s)) (he : ([.slice a l.length c, .int .i64 s.i, .int .i64 en, .int .i64 s.b, .int .i64 s.p] : List Value).set i v = [.slice a l.length c, .int .i64 s'.i, .int .i64 en, .int .i64 s'.b, .int .i64 s'.p]) (hi : i < 5) (hv : v.oneCell' = true)
    (hk : ∀ w', Sep S w0 w' (L.set n (fW rb a c l en s')) → K w') : Go.Proofs.Ytimdpeolfhaajaa.st1 ⟨rb, i, none⟩ v K w := by
  have hw : Wk w rb a c l en s := h.at hn
  exact st1_B hw.cell (by simpa using hi) hv fun w' b' k' => hk w' (h.turn hn (fpW_one k') (g := fW rb a c l en s') (hw.set he b' k') fun k hk => .inl hk)
theorem Sep.wCall {w' : World} {s' : Ws} (n : Nat) (h : Sep S w0 w L) (hn : L[n]? = some (fW rb a c l en s)) (k : Keep (fpW rb a) w w') (g : Wk w' rb a c l en s') : Sep S w0 w' (L.set n (fW rb a c l en s')) := h.turn hn k (g := fW rb a c l en s') g fun k hk => .inl hk
theorem Sep.wI (n : Nat) {K : Int → PT} (h : Sep S w0 w L) (hn : L[n]? = some (fW rb a c l en s)) (hk : K s.i w) : Go.Proofs.Ytimdpeolfhaajaa.ldI .i64 ⟨rb, 1, none⟩ K w := ldI_B (h.at hn : Wk w rb a c l en s).cell rfl hk
theorem Sep.wB (n : Nat) {K : Int → PT} (h : Sep S w0 w L) (hn : L[n]? = some (fW rb a c l en s)) (hk : K s.b w) : Go.Proofs.Ytimdpeolfhaajaa.ldI .i64 ⟨rb, 3, none⟩ K w := ldI_B (h.at hn : Wk w rb a c l en s).cell rfl hk

theorem wnext_F {Q : List Value → PT} (h : Wk w rb a c l en s) (hq : ∀ w', Ext w w' → Q (peekS l en s.i).enc w') : ref06_Walk_Next.F Z Q (some ⟨rb, 0, none⟩) w := by
  unfold ref06_Walk_Next.F
  refine (Sep.start (fun _ => False) w).new fun w1 b1 h1 k1 => ?_
  have r1 := (h.ext k1).ext (Keep.refl.drew)
  have h1 := h1.drew
  show nn _ _ w1.drew
  have k1 : Ext w w1.drew := k1.drew
  generalize w1.drew = w2 at r1 h1 k1 ⊢
  simp only [nn_some, add_mk, Nat.zero_add]
  refine ldI_B r1.cell rfl ?_
  refine ldL_of (r1.cell.cell 0) ?_
  have fin : ∀ (t : Tk) (w3 : World), t = peekS l en s.i → Sep (fun _ => False) w w3 [fB b1 (Tk.enc ⟨0, 0, noText, 0⟩)] → stN 4 ⟨b1, 0, none⟩ t.enc (ldN 4 ⟨b1, 0, none⟩ fun v => Q v) w3 := fun t w3 ht g3 => by
    refine g3.stN 0 rfl (by simp [Tk.enc]) rfl (Tk.enc_one t) (cs' := t.enc) (by simp [lay, Tk.enc]) fun w4 h4 k4 => ?_
    refine h4.ldN 0 rfl (vs := t.enc) rfl rfl ?_
    rw [ht]
    exact hq w4 h4.kept
  rw [pif_dec]
  split
  · rename_i hi
    refine h1.drawn (fun w' => Wk w' rb a c l en s) (r1.ext Keep.refl.drew) fun h1 => ?_
    refine hL_of (fun w' hw' => hw'.cell.cell 0) ?_
    refine hI_of (fun w' hw' => hw'.cell.cell 1) ?_
    have hx := List.getElem?_eq_getElem (show s.i < l.length by omega)
    refine ixS_Lst Tk.enc_len (r1.toks.ext Keep.refl.drew) hx fun b hb hc => ?_
    refine hN_of (cs := (l[s.i]).enc) rfl (fun w' hw' j v hj => ?_) ?_
    · have hc' := (hw'.toks.2.cells hb).2
      rw [add_mk]
      refine hc' _ _ ?_
      rw [flat_at Tk.enc_len hx (by rw [← Tk.enc_len l[s.i]]; exact (List.getElem?_eq_some_iff.1 hj).1)]
      exact hj
    · refine fin l[s.i] w2.drew ?_ h1
      unfold peekS
      rw [if_pos (by omega), hx]
      rfl
  · rename_i hi
    refine ldI_B r1.cell rfl ?_
    refine fin ⟨0, en, noText, 0⟩ w2 ?_ h1
    unfold peekS
    rw [if_neg (by omega)]
theorem wwrong_F {Q : PT} {e : Int} (h : Wk w rb a c l en s) (hq : ∀ w', Keep (fpW rb a) w w' → Wk w' rb a c l en (wrongW l en e s) → Q w') : ref06_Walk_Wrong.F Z Q (some ⟨rb, 0, none⟩) e w := by
  unfold ref06_Walk_Wrong.F
  have h1 : Sep (fpW rb a) w w [fW rb a c l en s] := Sep.start1 h fun k hk => hk
  simp only [nn_some, add_mk, Nat.zero_add]
  refine h1.wB 0 rfl ?_
  unfold wrongW at hq
  rw [pif_beq]
  split
  · rename_i hb
    rw [if_pos hb] at hq
    refine h1.wSet 0 rfl (s' := ⟨s.i, e, s.p⟩) rfl (by decide) rfl fun w2 h2 => ?_
    refine ref06_Walk_Next.cal (wnext_F (h2.at (n := 0) rfl : Wk w2 rb a c l en ⟨s.i, e, s.p⟩) fun w3 k3 => ?_)
    have h3 := h2.ext k3
    refine ptI_of (n := (peekS l en s.i).pos) rfl ?_
    refine h3.wSet 0 rfl (s' := ⟨s.i, e, (peekS l en s.i).pos⟩) rfl (by decide) rfl fun w4 h4 => ?_
    exact hq w4 h4.kept (h4.at (n := 0) rfl)
  · rename_i hb
    rw [if_neg hb] at hq
    exact hq w Keep.refl h
theorem wrong_i {e : Int} : (wrongW l en e s).i = s.i := by unfold wrongW; split <;> rfl
theorem Sep.wSkip (n : Nat) {K : PT} (h : Sep S w0 w L) (hn : L[n]? = some (fW rb a c l en s)) (hi : s.i ≤ 1000000) (hk : ∀ w', Sep S w0 w' (L.set n (fW rb a c l en (skipW s))) → K w') : Go.Proofs.Ytimdpeolfhaajaa.st1 ⟨rb, 1, none⟩ (.int .i64 (IntKind.wrap .i64 ((s.i : Int) + 1))) K w := by
  rw [wrap_nat1 (by omega)]
  exact h.wSet n hn (s' := skipW s) rfl (by decide) rfl hk
theorem Sep.wWrong (n : Nat) {K : PT} {e : Int} (h : Sep S w0 w L) (hn : L[n]? = some (fW rb a c l en s)) (hk : ∀ w', Sep S w0 w' (L.set n (fW rb a c l en (wrongW l en e s))) → K w') : cal Try.prog Z 15 [.pointer (some ⟨rb, 0, none⟩), .int .i64 e] (isU K) w :=
  ref06_Walk_Wrong.cal (wwrong_F (h.at hn : Wk w rb a c l en s) fun w' k g => hk w' (h.wCall n hn k g))
theorem Sep.wNext (n : Nat) {K : List Value → PT} (h : Sep S w0 w L) (hn : L[n]? = some (fW rb a c l en s)) (hk : ∀ w', Sep S w0 w' L → K (peekS l en s.i).enc w') : cal Try.prog Z 26 [.pointer (some ⟨rb, 0, none⟩)] (isN fun v => K v) w :=
  ref06_Walk_Next.cal (wnext_F (h.at hn : Wk w rb a c l en s) fun w' k => hk w' (h.ext k))
theorem wkind_F {Q : List Value → PT} {k : Int} (h : Wk w rb a c l en s) (hi : s.i ≤ 1000000) (hq : ∀ w', Keep (fpW rb a) w w' → Wk w' rb a c l en (kindW l en k s) → Q (peekS l en s.i).enc w') : ref06_Walk_Kind.F Z Q (some ⟨rb, 0, none⟩) k w := by
  unfold ref06_Walk_Kind.F ref06_Walk_Kind.s9
  refine (Sep.start1 (f := fW rb a c l en s) (S := fpW rb a) h fun k hk => hk).new fun w1 b1 h1 k1 => ?_
  refine h1.wNext 1 rfl fun w2 h2 => ?_
  refine h2.new fun w3 b3 h3 k3 => ?_
  refine h3.stN 0 rfl (by simp) rfl (Tk.enc_one _) (cs' := (peekS l en s.i).enc) (by simp [lay, Tk.enc]) fun w4 h4 k4 => ?_
  simp only [add_mk, Nat.zero_add]
  refine h4.ldI 0 rfl rfl ?_
  have fin : ∀ (s1 : Ws) (w5 : World), s1.i ≤ 1000000 → kindW l en k s = skipW s1 → Sep (fpW rb a) w w5 [fB b3 (peekS l en s.i).enc, fB b1 (Tk.enc ⟨0, 0, noText, 0⟩), fW rb a c l en s1] → ref06_Walk_Kind.s6 Z Q (some ⟨rb, 0, none⟩) ⟨b1, 0, none⟩ ⟨b3, 0, none⟩ w5 := fun s1 w5 hs1 e h5 => by
    unfold ref06_Walk_Kind.s6
    simp only [nn_some, add_mk, Nat.zero_add]
    refine h5.wI 2 rfl ?_
    refine h5.wSkip 2 rfl hs1 fun w6 h6 => ?_
    refine h6.ldN 0 rfl (vs := (peekS l en s.i).enc) rfl rfl ?_
    refine h6.stN 1 rfl (by simp [Tk.enc]) rfl (Tk.enc_one _) (cs' := (peekS l en s.i).enc) (by simp [lay, Tk.enc]) fun w7 h7 k7 => ?_
    refine h7.ldN 1 rfl (vs := (peekS l en s.i).enc) rfl rfl ?_
    rw [e] at hq
    exact hq w7 h7.kept (h7.at (n := 2) rfl)
  rw [pif_bne]
  split
  · rename_i hk
    exact fin s w4 hi (by unfold kindW; rw [if_neg (by simpa using hk)]) h4
  · rename_i hk
    refine h4.wWrong 2 rfl fun w5 h5 => ?_
    exact fin (wrongW l en 8 s) w5 (by rw [wrong_i]; exact hi) (by unfold kindW; rw [if_pos hk]) h5
theorem Sep.wKind (n : Nat) {k : Int} {K : List Value → PT} (h : Sep S w0 w L) (hn : L[n]? = some (fW rb a c l en s)) (hi : s.i ≤ 1000000) (hk : ∀ w', Sep S w0 w' (L.set n (fW rb a c l en (kindW l en k s))) → K (peekS l en s.i).enc w') : cal Try.prog Z 30 [.pointer (some ⟨rb, 0, none⟩), .int .i64 k] (isN fun v => K v) w :=
  ref06_Walk_Kind.cal (wkind_F (h.at hn : Wk w rb a c l en s) hi fun w' k g => hk w' (h.wCall n hn k g))
theorem fig2_F {Q : List Value → PT} (h : Wk w rb a c l en s) (hi : s.i ≤ 1000000) (hq : ∀ w', Keep (fpW rb a) w w' → Wk w' rb a c l en (figW l en s) → Q (figV l en s).enc w') : ref06_Walk_Figure.F Z Q (some ⟨rb, 0, none⟩) w := by
  unfold ref06_Walk_Figure.F
  refine (Sep.start1 (f := fW rb a c l en s) (S := fpW rb a) h fun k hk => hk).new fun w1 b1 h1 k1 => ?_
  refine h1.wKind 1 rfl hi fun w2 h2 => ?_
  refine h2.new fun w3 b3 h3 k3 => ?_
  refine h3.stN 0 rfl (by simp) rfl (Tk.enc_one _) (cs' := (peekS l en s.i).enc) (by simp [lay, Tk.enc]) fun w4 h4 k4 => ?_
  simp only [add_mk, Nat.zero_add]
  refine h4.ldI 0 rfl rfl (h4.ldI 0 rfl rfl ?_)
  refine h4.stN 1 rfl (by simp) rfl (by simp [Value.oneCell']) (cs' := (figV l en s).enc) (by simp [lay, Fg.enc, figV]) fun w5 h5 k5 => ?_
  refine h5.ldN 1 rfl (vs := (figV l en s).enc) rfl rfl ?_
  exact hq w5 h5.kept (h5.at (n := 2) rfl)
theorem Sep.wFig (n : Nat) {K : List Value → PT} (h : Sep S w0 w L) (hn : L[n]? = some (fW rb a c l en s)) (hi : s.i ≤ 1000000) (hk : ∀ w', Sep S w0 w' (L.set n (fW rb a c l en (figW l en s))) → K (figV l en s).enc w') : cal Try.prog Z 28 [.pointer (some ⟨rb, 0, none⟩)] (isN fun v => K v) w :=
  ref06_Walk_Figure.cal (fig2_F (h.at hn : Wk w rb a c l en s) hi fun w' k g => hk w' (h.wCall n hn k g))
theorem Sep.wWord (n : Nat) {t : ByteArray} {K : Bool → PT} (h : Sep S w0 w L) (hn : L[n]? = some (fW rb a c l en s)) (hk : ∀ w', Sep S w0 w' L → K (wordW l en t s) w') : cal Try.prog Z 27 [.pointer (some ⟨rb, 0, none⟩), .string t] (isB fun v => K v) w := by
  refine ref06_Walk_Word.cal ?_
  unfold ref06_Walk_Word.F
  refine h.wNext n hn fun w1 h1 => ?_
  refine ptI_of (n := (peekS l en s.i).kind) rfl ?_
  unfold wordW at hk
  rw [pif_beq]
  split
  · rename_i h1'
    refine h1.wNext n hn fun w2 h2 => ?_
    refine ptS_of (n := (peekS l en s.i).text) rfl ?_
    have := hk w2 h2
    rw [h1'] at this
    exact this
  · rename_i h1'
    have := hk w1 h1
    rw [beq_eq_false_iff_ne.2 h1'] at this
    exact this
end
end Go.Proofs.Ytimdpeolfhaajaa
