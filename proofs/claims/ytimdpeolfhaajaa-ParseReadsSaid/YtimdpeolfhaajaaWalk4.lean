/-
  The document's walk: a whole text comes to 'parseS'. No condition.
-/
import Derived.Test.YtimdpeolfhaajaaWalk3
import Derived.Test.YtimdpeolfhaajaaLex2
set_option linter.unusedVariables false
set_option linter.unusedSimpArgs false
namespace Go.Proofs.Ytimdpeolfhaajaa
open Go.RowKit
/-- A line, where its clauses lie, and they. -/
abbrev Rp := Rw × Sl3 × List (Cl × Sl3)
def rpEnc (p : Rp) : List Value := rwEnc (p.1, p.2.1)
abbrev fRows (sl : Sl3) (rps : List Rp) : Fct := fN 39 8 rpEnc (fun p => fCls p.2.1 p.2.2) sl.a sl.n sl.c rps
theorem row_i {l : List Tk} {en : Int} {s : Ws} (h : s.i ≤ l.length) : s.i + 1 ≤ (rowW l en s).2.i := by
  have ks := fun (s : Ws) k => kind_i (l := l) (en := en) (s := s) (k := k)
  have fs := fun s : Ws => fig_i2 (l := l) (en := en) s
  have ws := fun (s : Ws) e => wrong_i (l := l) (en := en) (s := s) (e := e)
  have ts : ∀ s : Ws, (tailW l en s).i = s.i := fun s => by unfold tailW; split; exact wrong_i; rfl
  have a2 : ∀ (x : Rw) (s : Ws), s.i ≤ (actW2 l en x s).2.i := fun x s => by
    unfold actW2
    simp only
    split
    · simp only [ts, skipW]; omega
    · simp only [ts, fs, skipW]
      split
      · omega
      · simp only [ws]; omega
  have cs : ∀ (m : Nat) (s : Ws) (o : List Cl), s.i ≤ (clausesW l en m s o).2.i := by
    intro m
    induction m with
    | zero => intro s o; exact Nat.le_refl _
    | succ m ih =>
      intro s o
      unfold clausesW
      split
      · have := clauseW_i (l := l) (en := en) (s := s) (had := o.map Cl.word)
        have := ih (clauseW l en (o.map Cl.word) s).2 (o ++ [(clauseW l en (o.map Cl.word) s).1])
        omega
      · exact Nat.le_refl _
  unfold rowW
  split
  · refine Nat.le_trans ?_ (a2 _ _)
    rw [ks]
    simp only [skipW]
    omega
  · refine Nat.le_trans ?_ (a2 _ _)
    rw [ks]
    have h1 := cs (l.length - (figW l en s).i) (figW l en s) []
    have h4 := fs s
    omega
theorem lexS_len2 (s : ByteArray) : (lexS s).1.length ≤ 4096 := by
  unfold lexS
  split
  · simp
  · have := lexAll_len s s.size 0 []
    simp at this
    omega
section
variable {Z : List PanicEntry → PT} {w0 w : World} {rb : Nat} {a : Option Addr} {c : Nat} {l : List Tk} {en : Int}
theorem rows_loop {Q : Option Addr → Nat → Nat → Int → Int → PT} (hl : l.length ≤ 10000) : ∀ (m : Nat) (s : Ws) (sl : Sl3) (rps : List Rp) (w : World), l.length ≤ s.i + m → rps.length ≤ s.i → (∀ p ∈ rps, p.1.clauses = p.2.2.map Prod.fst) → Sep (fun _ => False) w0 w [fRows sl rps, fW rb a c l en s] →
    (∀ sl' rps' w', (∀ p ∈ rps', p.1.clauses = p.2.2.map Prod.fst) → Sep (fun _ => False) w0 w' [fRows sl' rps', fW rb a c l en (rowsW l en m s (rps.map Prod.fst)).2] → rps'.map Prod.fst = (rowsW l en m s (rps.map Prod.fst)).1 → ref06_Parse.s11 Z Q (some ⟨rb, 0, none⟩) sl'.a sl'.n sl'.c w') →
    ref06_Parse.l18 Z Q (m + 1) a l.length c (some ⟨rb, 0, none⟩) sl.a sl.n sl.c w := by
  intro m
  induction m with
  | zero =>
    intro s sl rps w hlen hi hc h hq
    unfold ref06_Parse.l18 ref06_Parse.s21
    simp only [nn_some, add_mk, Nat.zero_add]
    refine h.wI 1 rfl ?_
    rw [pif_dec, if_neg (by omega)]
    exact hq sl rps w hc h rfl
  | succ m ih =>
    intro s sl rps w hlen hi hc h hq
    have fin : ¬ (s.i < l.length ∧ s.b = 0) → ref06_Parse.s11 Z Q (some ⟨rb, 0, none⟩) sl.a sl.n sl.c w := fun hn => by
      exact hq sl rps w hc (by unfold rowsW; rw [if_neg hn]; exact h) (by unfold rowsW; rw [if_neg hn])
    unfold ref06_Parse.l18 ref06_Parse.s21
    simp only [nn_some, add_mk, Nat.zero_add]
    refine h.wI 1 rfl ?_
    rw [pif_dec]
    split
    · rename_i hlt
      have hlt : s.i < l.length := by omega
      refine h.wB 1 rfl ?_
      rw [pif_beq]
      split
      · rename_i hb
        refine h.wI 1 rfl ?_
        have hw : Wk w rb a c l en s := h.at (n := 1) rfl
        have hx := List.getElem?_eq_getElem hlt
        have ep : (peekS l en s.i) = l[s.i] := by unfold peekS; rw [if_pos hlt, hx]; rfl
        refine ixS_Lst Tk.enc_len hw.toks hx fun b hb' hcl => ?_
        refine ldI_of (by rw [add_mk]; exact hcl 0 _ rfl) ?_
        unfold rowsW at hq
        rw [if_pos ⟨hlt, hb⟩] at hq
        rw [pif_beq]
        split
        · rename_i h7
          rw [if_pos (by rw [ep]; exact h7)] at hq
          refine h.wI 1 rfl ?_
          refine h.wSkip 1 rfl (by omega) fun w1 h1 => ?_
          exact ih (skipW s) sl rps w1 (by simp only [skipW]; omega) (by simp only [skipW]; omega) hc h1 hq
        · rename_i h7
          rw [if_neg (by rw [ep]; exact h7)] at hq
          have hn : sl.n = rps.length := (h.at (n := 0) rfl : (fRows sl rps).P w).1.1
          have row : ∀ (s1 : Ws) (w1 : World), s1.i = s.i → s1 = (if (rps.map Prod.fst).length = 64 then wrongW l en 4 s else s) → Sep (fun _ => False) w0 w1 [fRows sl rps, fW rb a c l en s1] →
              cal Try.prog Z 16 [.pointer (some ⟨rb, 0, none⟩)] (isN fun v => cnd (List.length v = 8) (newC 39 (v ++ []) fun ad => runL Try.prog (bi .append #[23, 23] 23 [false, false] [.slice sl.a sl.n sl.c, .slice (some ad) 1 1]) fun p pn pc => ref06_Parse.l18 Z Q (m + 1) a l.length c (some ⟨rb, 0, none⟩) p pn pc)) w1 := fun s1 w1 e1 e2 h1 => by
            rw [← e2] at hq
            have ri := row_i (l := l) (en := en) (s := s1) (by omega)
            refine ref06_Walk_Row.cal (row_F (h1.at (n := 1) rfl : Wk _ rb a c l en s1) (by omega) hl ?_)
            generalize rowW l en s1 = r at hq ri ⊢
            obtain ⟨y, s2⟩ := r
            simp only at hq ri ⊢
            intro sn cps w2 hcy k2 g2 n2 i2
            have h2 : Sep (fun _ => False) w0 w2 [fCls sn cps, fRows sl rps, fW rb a c l en s2] := h1.turnAdd (n := 1) rfl k2 (g := fW rb a c l en s2) g2 (fun k hk => hk) (q := fCls sn cps) n2 i2
            refine cnd_of (rwEnc_len _) ?_
            rw [List.append_nil]
            refine h2.new fun w3 b3 h3 k3 => ?_
            refine h3.appN 2 1 (x := (y, sn, cps)) rfl rfl (by decide) (bytes := 80) (z := .agg #[.int .i64 0, .bool false, .int .i64 0, .int .i64 0, .slice none 0 0, .bool false, .int .i64 0, .int .i64 0]) Try.underlying23 (by kernel_rfl) rfl (by decide) (fun p => rfl) (rwEnc_one _) (fun j u hu => by rw [add_mk, Nat.zero_add, (h3.at (n := 0) rfl : IsB _ _ _).cell]; exact hu) (by decide) (by omega) fun a' c' w4 h4 k4 => ?_
            refine ih s2 ⟨a', sl.n + 1, c'⟩ (rps ++ [(y, sn, cps)]) w4 (by omega) (by simp; omega) ?_ ((h4.drop 0).drop 0) ?_
            · intro p hp
              rcases List.mem_append.1 hp with hp | hp
              · exact hc p hp
              · rw [List.mem_singleton.1 hp]; exact hcy
            · rw [List.map_append]; exact hq
          rw [pif_beq]
          split
          · rename_i h64
            refine h.wWrong 1 rfl fun w1 h1 => ?_
            exact row _ w1 wrong_i (by rw [if_pos (by simp; omega)]) h1
          · rename_i h64
            exact row s w rfl (by rw [if_neg (by simp; omega)]) h
      · rename_i hb
        exact fin (fun g => hb g.2)
    · rename_i hlt
      exact fin (fun g => hlt (by have := g.1; omega))
/-- What the document's parser comes to. -/
theorem ref_cal {Q : Option Addr → Nat → Nat → Int → Int → PT} {s : ByteArray} (hq : ∀ (sl : Sl3) (rps : List Rp) w', (∀ p ∈ rps, p.1.clauses = p.2.2.map Prod.fst) → (fRows sl rps).P w' → rps.map Prod.fst = (parseS s).1 → Ext w w' → Q sl.a sl.n sl.c (parseS s).2.1 (parseS s).2.2 w') :
    cal Try.prog Z 8 [.string s] (isT3 fun x y z => (isL fun r0 r0n r0c => (isI .i64 fun r1 => (isI .i64 fun r2 => Q r0 r0n r0c r1 r2) z) y) x) w := by
  refine ref06_Parse.cal ?_
  unfold ref06_Parse.F ref06_Parse.s30
  refine ref05_Tokens.cal (tokens2_F fun a c w1 l1 k1 i1 => ?_)
  have hlen := lexS_len2 s
  unfold parseS at hq
  rw [pif_bne]
  split
  · rename_i he
    rw [if_neg (by rw [he]; decide)] at hq
    refine newC_B fun w2 b2 k2 s2 => ?_
    have l2 := l1.ext k2
    have lt1 := fun k hk => l1.lt (k := k) hk
    have h2 : Sep (fun _ => False) w w2 [fW w1.heap.size a c (lexS s).1 s.size ⟨0, 0, 0⟩] := (Sep.start _ w).add (k1.trans k2) (f := fW w1.heap.size a c (lexS s).1 s.size ⟨0, 0, 0⟩) ⟨b2, l2, fun k hk e => by have := lt1 k hk; omega⟩ fun k hk => by
      rcases hk with rfl | hk
      · exact k1.size
      · exact i1 k hk
    refine h2.newR rpEnc (sz := 8) fun w3 b3 h3 k3 => ?_
    have h3 : Sep (fun _ => False) w w3 [fRows ⟨some ⟨b3, 0, none⟩, 0, 0⟩ [], fW w1.heap.size a c (lexS s).1 s.size ⟨0, 0, 0⟩] := by
      refine ⟨h3.kept, ?_, ?_, ?_⟩
      · intro f hf
        simp only [List.mem_cons, List.not_mem_nil, or_false] at hf
        rcases hf with rfl | rfl
        · exact ⟨h3.at (n := 0) rfl, by simp, by simp⟩
        · exact h3.at (n := 1) rfl
      · intro f hf k hk
        simp only [List.mem_cons, List.not_mem_nil, or_false] at hf
        rcases hf with rfl | rfl
        · rcases hk with hk | ⟨y, hy, _⟩
          · exact h3.own _ (List.mem_cons_self ..) k hk
          · cases hy
        · exact h3.own _ (List.mem_cons_of_mem _ (List.mem_cons_self ..)) k hk
      · refine List.pairwise_cons.2 ⟨fun f hf k hk hk' => ?_, by simp⟩
        rw [List.mem_singleton.1 hf] at hk'
        rcases hk with hk | ⟨y, hy, _⟩
        · exact pw_at apart.symm h3.dis (i := 0) (j := 1) rfl rfl (by decide) k hk hk'
        · cases hy
    have rel := rows_rel (l := (lexS s).1) (en := s.size) lexS_kind (lexS s).1.length ⟨0, 0, 0⟩ [] rfl
    refine exK_of ((lexS s).1.length + 1) (rows_loop (by omega) (lexS s).1.length ⟨0, 0, 0⟩ ⟨some ⟨b3, 0, none⟩, 0, 0⟩ [] w3 (by omega) (by simp) (by simp) h3 fun sl rps w4 hc h4 hr => ?_)
    simp only [List.map_nil] at h4 hr
    unfold ref06_Parse.s11
    simp only [nn_some, add_mk, Nat.zero_add]
    refine h4.wB 1 rfl ?_
    cases hls : linesS (lexS s).1 s.size (lexS s).1.length 0 [] with
    | ok o j =>
      rw [hls] at rel hq
      obtain ⟨g1, g2⟩ := rel
      rw [pif_bne, if_pos g2]
      exact hq sl rps w4 hc (h4.at (n := 0) rfl) (by rw [hr, g1]) h4.kept
    | no e p =>
      rw [hls] at rel hq
      obtain ⟨g1, g2, g3⟩ := rel
      rw [pif_bne, if_neg (by rw [g2]; exact g1)]
      have h5 := h4.drew
      show ldI _ _ _ w4.drew
      refine h5.wB 1 rfl ?_
      refine ldI_B (h5.at (n := 1) rfl : Wk _ _ _ _ _ _ _).cell rfl ?_
      have := hq ⟨none, 0, 0⟩ [] w4.drew (by simp) ⟨Lst.nil, by simp, by simp⟩ rfl h5.kept
      rw [← g2, ← g3] at this
      exact this
  · rename_i he
    rw [if_pos he] at hq
    exact hq ⟨none, 0, 0⟩ [] w1 (by simp) ⟨Lst.nil, by simp, by simp⟩ rfl k1
end
end Go.Proofs.Ytimdpeolfhaajaa
