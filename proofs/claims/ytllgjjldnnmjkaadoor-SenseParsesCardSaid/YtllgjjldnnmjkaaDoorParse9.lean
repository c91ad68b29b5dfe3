/-
  The call of parse.Parse comes to 'parseS'. No condition.
-/
import Derived.Test.YtllgjjldnnmjkaaDoorParse8
set_option linter.unusedVariables false
set_option linter.unusedSimpArgs false
set_option maxRecDepth 100000
namespace Go.Proofs.YtllgjjldnnmjkaaDoor
open Go.RowKit

theorem at3_eq (Q : Option Addr → Nat → Nat → Int → Int → PT) : (fun v => at3 v fun x y z => atL x fun xa xn xc => atI .i64 y fun ya => atI .i64 z fun za => Q xa xn xc ya za) = ParseR Q := by
  funext v w
  refine propext ⟨fun h => ?_, fun h => ?_⟩
  · obtain ⟨x, y, z, rfl, h⟩ := at3_e h
    obtain ⟨a, n, c, rfl, h⟩ := atL_e h
    obtain ⟨e, rfl, h⟩ := atI_e h
    obtain ⟨p, rfl, h⟩ := atI_e h
    exact ⟨_, _, _, rfl, _, _, _, rfl, _, rfl, _, rfl, h⟩
  · obtain ⟨_, _, _, rfl, _, _, _, rfl, _, rfl, _, rfl, h⟩ := h
    exact h
theorem lexAll_len (s : ByteArray) : ∀ (m i : Nat) (out : List Tk), (lexAll s m i out).1.length ≤ out.length + (s.size - i) := by
  intro m
  induction m with
  | zero => intro i out; unfold lexAll; simp
  | succ m ih =>
    intro i out
    unfold lexAll
    split
    · rename_i h
      split
      · simp
      · rename_i he
        have hn := lexStep_next h (by simpa using he)
        have := ih (lexStep s i).2.1 (push out (lexStep s i).1)
        have hp : (push out (lexStep s i).1).length ≤ out.length + 1 := by
          unfold push; split <;> simp
        omega
    · simp
theorem lexAll_pos (s : ByteArray) : ∀ (m i : Nat) (out : List Tk), (lexAll s m i out).2.1 = 0 → (lexAll s m i out).2.2 = 0 := by
  intro m
  induction m with
  | zero => intro i out h; unfold lexAll; rfl
  | succ m ih =>
    intro i out h
    unfold lexAll at h ⊢
    split
    · rename_i h1
      rw [if_pos h1] at h
      split
      · rename_i he
        rw [if_pos he] at h
        exact absurd h he
      · rename_i he
        rw [if_neg he] at h
        exact ih _ _ h
    · rfl
theorem lexS_pos {s : ByteArray} (h : (lexS s).2.1 = 0) : (lexS s).2.2 = 0 := by
  unfold lexS at h ⊢
  split
  · rename_i hb; rw [if_pos hb] at h; exact absurd h (by decide)
  · rename_i hb; rw [if_neg hb] at h; exact lexAll_pos _ _ _ _ h
section
variable {Z : List PanicEntry → PT} {Q : Option Addr → Nat → Nat → Int → Int → PT} {s : ByteArray} {w : World}
def X0 (s : ByteArray) (w0 : World) (s' : ByteArray) (o e p : Addr) (l : Option Addr) (n c : Nat) : PT := fun w => s' = s ∧ n = (lexS s).1.length ∧ (lexS s).2.1 = 0 ∧ ∃ ab bb cb, o = ⟨ab, 0, none⟩ ∧ e = ⟨bb, 0, none⟩ ∧ p = ⟨cb, 0, none⟩ ∧ w0.heap.size ≤ ab ∧ ab < bb ∧ bb < cb ∧ cb < w.heap.size ∧
  IsB w ab [.slice none 0 0] ∧ IsB w bb [.int .i64 0] ∧ IsB w cb [.int .i64 0] ∧ Lst w 79 4 Tk.enc l n c (lexS s).1 ∧ (∀ k, inB l k → cb < k) ∧ Ext w0 w
theorem parse_cal (hq : ∀ (s3 : Sl3) w', RwsAt w' (fun k => w.heap.size ≤ k) s3 (parseS s).1 → Ext w w' → Q s3.a s3.n s3.c (parseS s).2.1 (parseS s).2.2 w') : cal Tryd.prog Z 24 [.string s] (ParseR Q) w := by
  refine calls_of_defer hNames hEls hMix (f := 24) (l := [parse_Parse.a0, parse_Parse.a1, parse_Parse.a2]) (B := parse_Parse.B) (id := 4) (t := 17) (k := 5) (g := 37) (caps := #[.tmp 2, .tmp 3, .tmp 4]) (mk := parse_Parse.mk) (df := parse_Parse.df) (rs := parseRs) (R := ParseR Q) (K := parse_Parse.KA (X0 s w)) Tryd.func24 ((by kernel_rfl : Tryd.f24.body = some parse_Parse.body).trans (congrArg some parse_Parse.shape)) (by kernel_rfl) (Nat.le_of_ble_eq_true (by kernel_rfl)) (by kernel_rfl) (by kernel_rfl) (by kernel_rfl) (by kernel_rfl) (by kernel_rfl) (by kernel_rfl) (Nat.le_of_ble_eq_true (by kernel_rfl)) (by decide) (by kernel_rfl) (by kernel_rfl) (by kernel_rfl) (by kernel_rfl) ?_ ?_
  · intro ρ w1 h
    obtain ⟨s', e0, h⟩ := atS_e h
    obtain ⟨o, e2, h⟩ := atA_e h
    obtain ⟨e, e3, h⟩ := atA_e h
    obtain ⟨p, e4, h⟩ := atA_e h
    obtain ⟨l, n, c, e5, h⟩ := atL_e h
    obtain ⟨rfl, rfl, hz0, ab, bb, cb, rfl, rfl, rfl, z1, z2, z3, z4, h1, h2, h3, hl, hta, ke⟩ := h
    refine ⟨fun c => endD Tryd.prog 37 (clo ab bb cb) parseRs ρ Z (ParseR Q) (.panicking c), endD Tryd.prog 37 (clo ab bb cb) parseRs ρ Z (ParseR Q) .returning, _, parse_Parse.okB _ _, ?_, ?_, ?_⟩
    · show (atS (ρ 0) fun s_0 => atA (ρ 2) fun out_2 => atA (ρ 3) fun e_3 => atA (ρ 4) fun pos_4 => atL (ρ 5) fun l_5 l_5n l_5c => (parse_Parse.s26 _ _ s_0 out_2 e_3 pos_4 l_5 l_5n l_5c)) w1
      rw [e0, e2, e3, e4, e5]
      show parse_Parse.s26 _ _ s' _ _ _ l _ c w1
      unfold parse_Parse.s26
      have hlen := lexAll_len s' s'.size 0 []
      have hsz : (lexS s').1.length ≤ 10000 ∧ s'.size ≤ 4096 := by
        unfold lexS at hz0 ⊢
        split
        · rename_i hb; rw [if_pos hb] at hz0; exact absurd hz0 (by decide)
        · simp at hlen; exact ⟨by omega, by omega⟩
      refine newC_B fun w2 b2 k2 s2 => ?_
      refine exK_of ((lexS s').1.length + 1) ?_
      refine p_loop (w0 := w) (lo := w2.heap.size) (bt := cb + 1) (rb := w1.heap.size) (l := (lexS s').1) (en := s'.size) (e0 := 0) (p0 := 0) ⟨z1, by omega, by omega, by have := ke.size; omega⟩ ⟨by omega, by omega, by omega⟩ (by omega) ⟨by omega, by omega, by omega, by omega, by omega, by omega⟩ (lexS s').1.length 0 [] ⟨none, 0, 0⟩ w2 (by omega) ⟨⟨l, c, b2, hl.ext k2, fun k hk => ⟨by have := hl.lt hk; omega, by have := hl.lt hk; omega, hta k hk⟩⟩, by omega, Nat.le_refl _, hsz.1, by omega⟩ (hl.ext k2) (fun k hk => ⟨by have := hl.lt hk; omega, by have := hl.lt hk; omega, hta k hk⟩) (h1.ext k2) (h2.ext k2) (h3.ext k2) RwsAt.nil (by simp) (ke.trans k2) ?_ ?_
      · intro e p w' x hh g1 g2 g3 kk
        have hps : parseS s' = ([], e, p) := by unfold parseS; rw [if_neg (by simp [hz0]), hh]
        refine end_no e2 e3 e4 g1 g2 g3 ⟨by omega, by omega, by omega⟩ fun w'' k'' => ?_
        have := hq ⟨none, 0, 0⟩ w'' (by rw [hps]; exact RwsAt.nil) (kk.trans_new k'' fun q hq' g => by omega)
        rw [hps] at this
        exact this
      · intro out j s3 w' hh g1 g2 g3 gr kk
        have hps : parseS s' = (out, 0, 0) := by unfold parseS; rw [if_neg (by simp [hz0]), hh]
        refine end_ok e2 e3 e4 g1 g2 g3 fun w'' k'' => ?_
        have := hq s3 w'' (by rw [hps]; exact (gr.mono fun k _ hk => by have := ke.size; have := k2.size; omega).keep k'' fun _ _ g => g) (kk.trans k'')
        rw [hps] at this
        exact this
    · intro w' hw
      show endD Tryd.prog _ [ρ 2, ρ 3, ρ 4] _ _ _ _ _ _
      rw [e2, e3, e4]; exact hw
    · intro c w' hw
      show endD Tryd.prog _ [ρ 2, ρ 3, ρ 4] _ _ _ _ _ _
      rw [e2, e3, e4]; exact hw
  · rw [show bodyQ Tryd.prog parseRs (ParseR Q) = parse_Parse.q1 Z Q by rw [← at3_eq]; rfl, parse_Parse.A_eq]
    unfold parse_Parse.A
    refine newC_B fun w1 b1 k1 s1 => ?_
    refine newC_B fun w2 b2 k2 s2 => ?_
    refine newC_B fun w3 b3 k3 s3 => ?_
    refine lex_Tokens.cal (tokens_F fun a c w4 l4 k4 h4 => ?_)
    have n1 := b1.lt
    have n2 := b2.lt
    have n3 := b3.lt
    have y1 := k1.size
    have y2 := k2.size
    have y3 := k3.size
    refine st1_B (b2.ext (k3.trans k4)) (by simp) rfl fun w5 b5 k5 => ?_
    refine st1_B ((b3.ext k4).keep k5 (by omega)) (by simp) rfl fun w6 b6 k6 => ?_
    have g1 := (((b1.ext k2).ext k3).ext k4 |>.keep k5 (by omega)).keep k6 (by omega)
    have g2 := b5.keep k6 (by omega)
    have k06 : Ext w w6 := (((k1.trans k2).trans (k3.trans k4)).trans_new k5 fun q hq' g => by omega).trans_new k6 fun q hq' g => by omega
    have l6 := (l4.keep k5 fun q hq' g => by have := h4 q hq'; omega).keep k6 fun q hq' g => by have := h4 q hq'; omega
    refine ldI_of (g2.cell 0) ?_
    cases hb : (lexS s).2.1 != 0 with
    | true =>
      rw [pif_true]
      have hne : (lexS s).2.1 ≠ 0 := by simpa using hb
      have hps : parseS s = ([], (lexS s).2.1, (lexS s).2.2) := by unfold parseS; rw [if_pos hne]
      refine drawn_of (fun w' => IsB w' w1.heap.size [.int .i64 (lexS s).2.1] ∧ IsB w' w2.heap.size [.int .i64 (lexS s).2.2]) ⟨g2.drew, b6.drew⟩ ?_
      replace g1 := g1.drew
      replace g2 := g2.drew
      replace b6 := b6.drew
      replace k06 := k06.drew
      clear l6 k6
      generalize w6.drew = w6 at *
      refine hI_of (fun w' hw' => hw'.1.cell 0) ?_
      refine hI_of (fun w' hw' => hw'.2.cell 0) ?_
      refine st1_B g1 (by simp) rfl fun w7 b7 k7 => ?_
      refine sAnd_of ⟨g2.keep k7 (by omega), b6.keep k7 (by omega)⟩ ?_
      refine st1_B (g2.keep k7 (by omega)) (by simp) rfl fun w8 b8 k8 => ?_
      refine sAnd_of ⟨b8, (b6.keep k7 (by omega)).keep k8 (by omega)⟩ ?_
      refine st1_B ((b6.keep k7 (by omega)).keep k8 (by omega)) (by simp) rfl fun w9 b9 k9 => ?_
      refine ldL_of (((b7.keep k8 (by omega)).keep k9 (by omega)).cell 0) (ldI_of ((b8.keep k9 (by omega)).cell 0) (ldI_of (b9.cell 0) ?_))
      have := hq ⟨none, 0, 0⟩ w9 (by rw [hps]; exact RwsAt.nil) (((k06.trans_new k7 fun q hq' g => by omega).trans_new k8 fun q hq' g => by omega).trans_new k9 fun q hq' g => by omega)
      rw [hps] at this
      first
        | exact this
        | exact ⟨_, _, _, rfl, _, _, _, rfl, _, rfl, _, rfl, this⟩
    | false =>
      rw [pif_false]
      have hz : (lexS s).2.1 = 0 := by simpa using hb
      have hz2 : (lexS s).2.2 = 0 := lexS_pos hz
      refine ⟨rfl, rfl, hz, _, _, _, rfl, rfl, rfl, by omega, by omega, by omega, by have := k4.size; have := k5.size; have := k6.size; omega, g1, ?_, ?_, l6, fun k hk => by have := h4 k hk; omega, k06⟩
      · rw [hz] at g2; exact g2
      · rw [hz2] at b6; exact b6
end
end Go.Proofs.YtllgjjldnnmjkaaDoor
