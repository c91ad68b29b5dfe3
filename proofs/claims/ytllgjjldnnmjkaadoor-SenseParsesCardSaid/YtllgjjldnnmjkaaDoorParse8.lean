/-
  The parser whole: parse.Parse comes to 'parseS'. No condition.
-/
import Derived.Test.YtllgjjldnnmjkaaDoorParse7
set_option linter.unusedVariables false
set_option linter.unusedSimpArgs false
set_option maxRecDepth 100000
namespace Go.Proofs.YtllgjjldnnmjkaaDoor
open Go.RowKit

section
variable {l : List Tk} {en : Int}
theorem tailS_at {x y : Rw} {i j : Nat} (h : tailS l en x i = .ok y j) : j = i := by
  unfold tailS at h
  split at h
  · cases h
  · cases h; rfl
theorem actS_at {x y : Rw} {i j : Nat} (h : actS l en x i = .ok y j) : i < j := by
  unfold actS at h
  cases hw : wantS l en 6 i with
  | no e p => rw [hw] at h; cases h
  | ok t a =>
    rw [hw] at h
    simp only at h
    have ha := (wantS_at hw).1
    split at h
    · have := tailS_at h; omega
    · split at h
      · cases hf : figS l en (a + 1) with
        | no e p => rw [hf] at h; cases h
        | ok f b =>
          rw [hf] at h
          simp only at h
          have := (figS_at hf).1
          have := tailS_at h
          omega
      · cases h
theorem clausesS_at : ∀ {m i j : Nat} {cs r : List Cl}, clausesS l en m i cs = .ok r j → i ≤ j
  | 0, i, j, cs, r, h => by unfold clausesS at h; cases h; exact Nat.le_refl _
  | m + 1, i, j, cs, r, h => by
    unfold clausesS at h
    split at h
    · cases hc : clauseS l en (cs.map Cl.word) i with
      | no e p => rw [hc] at h; cases h
      | ok c k =>
        rw [hc] at h
        simp only at h
        have := (clauseS_at hc).1
        have := clausesS_at h
        omega
    · cases h; exact Nat.le_refl _
theorem lineS_at {x : Rw} {i j : Nat} (h : lineS l en i = .ok x j) : i < j := by
  unfold lineS at h
  simp only at h
  split at h
  · have := actS_at h; omega
  · cases hf : figS l en i with
    | no e p => rw [hf] at h; cases h
    | ok f a =>
      rw [hf] at h
      simp only at h
      have := (figS_at hf).1
      cases hc : clausesS l en (l.length - a) a [] with
      | no e p => rw [hc] at h; cases h
      | ok cs b =>
        rw [hc] at h
        simp only at h
        have := clausesS_at hc
        have := actS_at h
        omega
end

section
variable {Z : List PanicEntry → PT} {X : PT} {w0 : World} {lo bt rb ab bb cb : Nat} {ta : Option Addr} {tc : Nat} {l : List Tk} {en : Int} {e0 p0 : Int}
theorem p_loop (hab : w0.heap.size ≤ ab ∧ w0.heap.size ≤ bb ∧ w0.heap.size ≤ cb ∧ w0.heap.size ≤ rb) (hlo : ab < lo ∧ bb < lo ∧ cb < lo) (hbt : ab < bt) (hne : ab ≠ bb ∧ ab ≠ cb ∧ bb ≠ cb ∧ ab ≠ rb ∧ bb ≠ rb ∧ cb ≠ rb) :
    ∀ (m i : Nat) (out : List Rw) (s3 : Sl3) (w : World), l.length ≤ i + m → RdAt w lo bt rb l en i → Lst w 79 4 Tk.enc ta l.length tc l → (∀ k, inB ta k → k < lo ∧ k ≠ rb ∧ bt ≤ k) →
      IsB w ab [.slice s3.a s3.n s3.c] → IsB w bb [.int .i64 e0] → IsB w cb [.int .i64 p0] → RwsAt w (fun k => lo ≤ k) s3 out → out.length ≤ 64 → Ext w0 w →
      (∀ e p w' x, linesS l en m i out = .no e p → IsB w' ab [x] → IsB w' bb [.int .i64 e0] → IsB w' cb [.int .i64 p0] → Ext w0 w' → Z (faultV e p) w') →
      (∀ out' j s' w', linesS l en m i out = .ok out' j → IsB w' ab [.slice s'.a s'.n s'.c] → IsB w' bb [.int .i64 0] → IsB w' cb [.int .i64 0] → RwsAt w' (fun k => lo ≤ k) s' out' → Ext w0 w' → X w') →
      parse_Parse.l14 Z X (m + 1) ⟨ab, 0, none⟩ ⟨bb, 0, none⟩ ⟨cb, 0, none⟩ ta l.length tc (some ⟨rb, 0, none⟩) w
  | m, i, out, s3, w, hm, hr, hl, hta, h1, h2, h3, hrw, hout, ke, hz, hq => by
    have hshort := hr.short
    unfold parse_Parse.l14 parse_Parse.s17
    simp only [nn_some, add_mk, Nat.zero_add]
    refine ldRd hr ?_
    rw [pif_dec]
    split
    · rename_i hi
      have hi : i < l.length := by omega
      cases m with
      | zero => omega
      | succ m =>
        refine ldRd hr ?_
        have hx := List.getElem?_eq_getElem hi
        refine ixS_Lst Tk.enc_len hl hx fun b hb hc => ?_
        refine ldI_of (by rw [add_mk]; exact hc 0 _ rfl) ?_
        have hpk : peekS l en i = l[i] := by unfold peekS; rw [if_pos hi, hx]; rfl
        unfold linesS at hz hq
        rw [if_pos hi] at hz hq
        rw [pif_beq]
        split
        · rename_i h7
          rw [if_pos (by rw [hpk]; exact h7)] at hz hq
          refine ldRd hr ?_
          refine stRd (n := i + 1) hr (wrap_nat1 (by omega)) (by omega) fun w1 r1 k1 => ?_
          refine p_loop hab hlo hbt hne m (i + 1) out s3 w1 (by omega) r1 (hl.keep k1 fun q hq' g => (hta q hq').2.1 g) hta (h1.keep k1 (by omega)) (h2.keep k1 (by omega)) (h3.keep k1 (by omega)) (hrw.keep k1 fun q g g' => by have := hr.lt; omega) hout (ke.own hab.2.2.2 k1) hz hq
        · rename_i h7
          rw [if_neg (by rw [hpk]; exact h7)] at hz hq
          refine ldL_of (h1.cell 0) ?_
          rw [pif_beq]
          have hn3 := hrw.len
          split
          · rename_i h64
            rw [if_pos (by omega)] at hz
            refine parse_reader_fail.cal (fail_F hr fun w1 k1 => ?_)
            exact hz _ _ w1 _ rfl (h1.ext k1) (h2.ext k1) (h3.ext k1) (ke.trans k1)
          · rename_i h64
            rw [if_neg (by omega)] at hz hq
            refine drawn_of (fun w' => IsB w' ab [.slice s3.a s3.n s3.c]) h1.drew ?_
            have hr := hr.ext (Keep.refl.drew : Ext w w.drew)
            have hl := hl.ext (Keep.refl.drew : Ext w w.drew)
            have h1 := h1.drew
            have h2 := h2.drew
            have h3 := h3.drew
            have hrw := hrw.keep (Keep.refl.drew : Ext w w.drew) fun _ _ g => g
            have ke := ke.drew
            generalize w.drew = w at *
            refine hL_of (fun w' hw' => hw'.cell 0) ?_
            refine parse_reader_line.cal (line_F hr (by omega) (fun e p w1 hh k1 => ?_) fun x j hh => ?_)
            · rw [hh] at hz
              exact hz _ _ w1 _ rfl (h1.keep k1 (by omega)) (h2.keep k1 (by omega)) (h3.keep k1 (by omega)) (ke.own hab.2.2.2 k1)
            · rw [hh] at hz hq
              simp only at hz hq
              have hadv := lineS_at hh
              intro sc w1 k1 r1 c1
              have g1 := h1.keep k1 (by omega)
              refine sAnd_of g1 (cnd_of (rwEnc_len _) ?_)
              refine newC_B fun w2 b2 k2 s2 => ?_
              rw [List.append_nil] at b2
              have g2 := g1.ext k2
              refine sAnd_of g2 ?_
              have hrw2 : RwsAt w2 (fun k => lo ≤ k) s3 out := (hrw.keep k1 fun q g g' => by have := hr.lt; omega).keep k2 fun _ _ g => g
              have hc2 : ClsAt w2 (fun k => lo ≤ k ∧ ¬ inB s3.a k) sc x.clauses := (c1.mono (G := fun k => lo ≤ k ∧ ¬ inB s3.a k) fun k hk hf => ⟨Nat.le_trans hr.lo_le hf, fun g => by
                obtain ⟨ps, p1, p2, p3, p4⟩ := hrw
                have := p2.lt g
                omega⟩).keep k2 fun _ _ g => g
              have z1 := k1.size
              have z2 := k2.size
              have hlw := hr.lo_le
              refine app_rws hrw2 hc2 (fun k hk => by omega) (by omega) (fun q u hu => by rw [add_mk, Nat.zero_add, b2.cell]; exact hu) fun s' w3 l3 k3 i3 => ?_
              obtain ⟨ps, p1, p2, p3, p4⟩ := hrw2
              have nF : ∀ q, inB s3.a q → lo ≤ q := p3
              have g3 := g2.keep k3 fun g => by have := nF _ g; omega
              refine sAnd_of g3 ?_
              refine st1_B g3 (by simp) rfl fun w4 b4 k4 => ?_
              have kk : Ext w0 w4 := (((ke.own hab.2.2.2 k1).trans k2).trans_new k3 fun q hq' g => by have := nF q g; have := hab.1; omega).own hab.1 k4
              refine p_loop hab hlo hbt hne m j (out ++ [x]) s' w4 (by omega) (((r1.ext k2).keep k3 fun q g => nF q g).low k4 hbt hne.2.2.2.1) ?_ hta b4 ?_ ?_ ?_ ?_ kk hz hq
              · exact (((((hl.keep k1 fun q hq' g => (hta q hq').2.1 g).ext k2)).keep k3 fun q hq' g => by have := nF q g; have := (hta q hq').1; omega)).keep k4 fun q hq' g => by have := (hta q hq').2.2; omega
              · exact ((((h2.keep k1 (by omega)).ext k2).keep k3 fun g => by have := nF _ g; omega)).keep k4 (by omega)
              · exact ((((h3.keep k1 (by omega)).ext k2).keep k3 fun g => by have := nF _ g; omega)).keep k4 (by omega)
              · exact l3.keep k4 fun q g g' => by omega
              · simp only [List.length_append, List.length_cons, List.length_nil]; omega
    · rename_i hi
      have hls : linesS l en m i out = .ok out i := by
        cases m with
        | zero => rfl
        | succ m => unfold linesS; rw [if_neg (by omega)]
      unfold parse_Parse.s8
      refine ldL_of (h1.cell 0) ?_
      refine st1_B h1 (by simp) rfl fun w1 b1 k1 => ?_
      refine st1_B (h2.keep k1 (by omega)) (by simp) rfl fun w2 b2 k2 => ?_
      refine st1_B ((h3.keep k1 (by omega)).keep k2 (by omega)) (by simp) rfl fun w3 b3 k3 => ?_
      exact hq out i s3 w3 hls ((b1.keep k2 (by omega)).keep k3 (by omega)) (b2.keep k3 (by omega)) b3 (((hrw.keep k1 fun q g g' => by omega).keep k2 fun q g g' => by omega).keep k3 fun q g g' => by omega) (((ke.own hab.1 k1).own hab.2.1 k2).own hab.2.2.1 k3)
end
end Go.Proofs.YtllgjjldnnmjkaaDoor
