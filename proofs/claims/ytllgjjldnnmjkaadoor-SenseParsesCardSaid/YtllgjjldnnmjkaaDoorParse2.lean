/-
  The parser's clauses: the code comes to 'clauseS', or panics with the fault. No condition.
-/
import Derived.Test.YtllgjjldnnmjkaaDoorParse1
set_option linter.unusedVariables false
set_option linter.unusedSimpArgs false
set_option maxRecDepth 100000
namespace Go.Proofs.YtllgjjldnnmjkaaDoor
open Go.RowKit

theorem mget_one {m : List (ByteArray × Int)} {k : ByteArray} (h1 : ∀ p ∈ m, p.2 = 1) (h : mhas m k = true) : mget m k = 1 := by
  induction m with
  | nil => simp [mhas] at h
  | cons p m ih =>
    unfold mget
    split
    · exact h1 p (by simp)
    · rename_i hk
      refine ih (fun q hq => h1 q (by simp [hq])) ?_
      simpa [mhas, hk] using h
theorem mhas_same {m : List (ByteArray × Int)} {k : ByteArray} : mhas m k = (m.map Prod.fst).any (same k) := by
  unfold mhas same
  rw [List.any_map]
  congr 1
  funext p
  exact text_beq

section
variable {Z : List PanicEntry → PT} {w : World} {lo bt rb : Nat} {l : List Tk} {en : Int} {i : Nat}
/-- What lies there while a clause is read. -/
structure ClSt (w0 w : World) (lo bt rb mb b0 tb cb : Nat) (l : List Tk) (en : Int) (t : Tk) (j : Nat) (c : Cl) (s : Sl3) (m : List (ByteArray × Int)) : Prop where
  out : ∃ z, IsB w b0 z ∧ z.length = 5
  tok : IsB w tb t.enc
  cl : IsB w cb (clEnc (c, s))
  nums : Lst w 49 2 Fg.enc s.a s.n s.c c.nums
  mine : ∀ k, inB s.a k → w0.heap.size ≤ k ∧ k ≠ b0 ∧ k ≠ tb ∧ k ≠ cb
  rd : RdAt w lo bt rb l en j
  map : MapB w mb m
  kept : Keep (fun k => k = rb ∨ k = mb) w0 w
structure ClEnv (w0 : World) (lo bt rb mb b0 tb cb : Nat) : Prop where
  hrb : rb < lo
  hlo : lo ≤ w0.heap.size
  hmb : lo ≤ mb ∧ mb < w0.heap.size
  hb0 : w0.heap.size ≤ b0
  htb : b0 < tb
  hcb : tb < cb
variable {w0 : World} {mb b0 tb cb : Nat} {t : Tk} {c : Cl} {s : Sl3} {m : List (ByteArray × Int)}
theorem ClSt.keep {w' : World} {S : Nat → Prop} {j : Nat} (h : ClSt w0 w lo bt rb mb b0 tb cb l en t j c s m) (e : ClEnv w0 lo bt rb mb b0 tb cb) (k : Keep S w w') (hs : ∀ q, S q → w0.heap.size ≤ q ∧ q ≠ b0 ∧ q ≠ tb ∧ q ≠ cb ∧ ¬ inB s.a q) : ClSt w0 w' lo bt rb mb b0 tb cb l en t j c s m := by
  obtain ⟨⟨z, h1, h1'⟩, h2, h3, h4, h5, h6, h7, h8⟩ := h
  have := e.hlo; have := e.hmb
  refine ⟨⟨z, h1.keep k fun g => (hs _ g).2.1 rfl, h1'⟩, h2.keep k fun g => (hs _ g).2.2.1 rfl, h3.keep k fun g => (hs _ g).2.2.2.1 rfl, h4.keep k fun q hq g => (hs _ g).2.2.2.2 hq, h5, h6.keep k fun q g => by have := (hs q g).1; omega, h7.keep k fun g => by have := (hs _ g).1; omega, h8.trans_new k fun q hq g => by have := (hs q g).1; omega⟩
theorem ClSt.ext {w' : World} {j : Nat} (h : ClSt w0 w lo bt rb mb b0 tb cb l en t j c s m) (e : ClEnv w0 lo bt rb mb b0 tb cb) (k : Ext w w') : ClSt w0 w' lo bt rb mb b0 tb cb l en t j c s m := h.keep e k fun _ g => g.elim
/-- The reader has gone on. -/
theorem ClSt.step {w' : World} {j j' : Nat} (h : ClSt w0 w lo bt rb mb b0 tb cb l en t j c s m) (e : ClEnv w0 lo bt rb mb b0 tb cb) (k : Keep (· = rb) w w') (hr : RdAt w' lo bt rb l en j') : ClSt w0 w' lo bt rb mb b0 tb cb l en t j' c s m := by
  obtain ⟨⟨z, h1, h1'⟩, h2, h3, h4, h5, h6, h7, h8⟩ := h
  have := e.hlo; have := e.hmb; have := e.hrb; have := e.hb0; have := e.htb; have := e.hcb
  refine ⟨⟨z, h1.keep k (by omega), h1'⟩, h2.keep k (by omega), h3.keep k (by omega), h4.keep k fun q hq g => by have := (h5 q hq).1; omega, h5, hr, h7.keep k (by omega), h8.trans (k.mono fun q _ g => .inl g)⟩
/-- The clause's cell is written. -/
theorem ClSt.cell {w' : World} {j : Nat} {c' : Cl} {s' : Sl3} {q : Nat} {v : Value} (h : ClSt w0 w lo bt rb mb b0 tb cb l en t j c s m) (e : ClEnv w0 lo bt rb mb b0 tb cb) (hb : IsB w' cb ((clEnc (c, s)).set q v)) (k : Keep (· = cb) w w') (he : (clEnc (c, s)).set q v = clEnc (c', s'))
    (hl : Lst w 49 2 Fg.enc s'.a s'.n s'.c c'.nums) (hm : ∀ k, inB s'.a k → w0.heap.size ≤ k ∧ k ≠ b0 ∧ k ≠ tb ∧ k ≠ cb) : ClSt w0 w' lo bt rb mb b0 tb cb l en t j c' s' m := by
  obtain ⟨⟨z, h1, h1'⟩, h2, h3, h4, h5, h6, h7, h8⟩ := h
  have := e.hlo; have := e.hmb; have := e.hrb; have := e.hb0; have := e.htb; have := e.hcb
  refine ⟨⟨z, h1.keep k (by omega), h1'⟩, h2.keep k (by omega), by rw [← he]; exact hb, hl.keep k fun q hq g => (hm q hq).2.2.2 g, hm, h6.keep k fun q g => by omega, h7.keep k (by omega), h8.trans_new k fun q hq g => by omega⟩

/-- The end: the clause is handed back. -/
theorem cl_end {Q : List Value → PT} {j : Nat} (h : ClSt w0 w lo bt rb mb b0 tb cb l en t j c s m) (e : ClEnv w0 lo bt rb mb b0 tb cb)
    (hq : ∀ w', Keep (fun k => k = rb ∨ k = mb) w0 w' → RdAt w' lo bt rb l en j → MapB w' mb m → Lst w' 49 2 Fg.enc s.a s.n s.c c.nums → (∀ k, inB s.a k → w0.heap.size ≤ k) → Q (clEnc (c, s)) w') : parse_reader_clause.s20 Z Q ⟨b0, 0, none⟩ ⟨cb, 0, none⟩ w := by
  unfold parse_reader_clause.s20
  obtain ⟨⟨z, h1, h1'⟩, h2, h3, h4, h5, h6, h7, h8⟩ := h
  have := e.hlo; have := e.hmb; have := e.hrb; have := e.hb0; have := e.htb; have := e.hcb
  refine ldN_B h3 (vs := clEnc (c, s)) rfl rfl ?_
  refine stN_B h1 (by omega) rfl (clEnc_one _) fun w1 b1 k1 => ?_
  replace b1 : IsB w1 b0 (clEnc (c, s)) := by
    have : lay z 0 (clEnc (c, s)) = clEnc (c, s) := by
      unfold lay
      rw [List.take_zero, List.drop_eq_nil_of_le (by rw [clEnc_len]; omega)]
      simp
    rwa [this] at b1
  refine ldN_B b1 (vs := clEnc (c, s)) rfl rfl ?_
  exact hq w1 (h8.trans_new k1 fun q hq g => by omega) (h6.keep k1 fun q g => by omega) (h7.keep k1 (by omega)) (h4.keep k1 fun q hq g => by have := (h5 q hq).2.1; omega) fun q hq => (h5 q hq).1

/-- One number more, or not. -/
theorem cl_more {Q : Sl3 → Bool → PT} {j : Nat} {k : Int} (hk0 : k ≠ 0) (h : ClSt w0 w lo bt rb mb b0 tb cb l en t j c s m) (e : ClEnv w0 lo bt rb mb b0 tb cb) (hj : j ≤ l.length) (hn : c.nums.length ≤ 100)
    (hz : ∀ e' p w', moreS l en k j c.nums = .no e' p → Keep (fun k => k = rb ∨ k = mb) w0 w' → Z (faultV e' p) w')
    (hq : ∀ r j' s' w', moreS l en k j c.nums = .ok r j' → ClSt w0 w' lo bt rb mb b0 tb cb l en t j' c s m ∨ True → (∃ z, IsB w' b0 z ∧ z.length = 5) → IsB w' tb t.enc → IsB w' cb (clEnc (c, s)) → Lst w' 49 2 Fg.enc s'.a s'.n s'.c r.1 → (∀ k, inB s'.a k → w0.heap.size ≤ k ∧ k ≠ b0 ∧ k ≠ tb ∧ k ≠ cb) → RdAt w' lo bt rb l en j' → MapB w' mb m → Keep (fun k => k = rb ∨ k = mb) w0 w' → Q s' r.2 w') :
    parse_reader_more.F Z (fun a n c b => Q ⟨a, n, c⟩ b) (some ⟨rb, 0, none⟩) k s.a s.n s.c w := by
  obtain ⟨⟨z, h1, h1'⟩, h2, h3, h4, h5, h6, h7, h8⟩ := h
  have := e.hlo; have := e.hmb; have := e.hrb; have := e.hb0; have := e.htb; have := e.hcb
  refine more_F hk0 h6 hj h4 (fun q hq => by have := (h5 q hq).1; omega) (by omega) fun w1 k1 => ?_
  have kk : Keep (fun k => k = rb ∨ k = mb) w0 w1 := h8.trans_new k1 fun q hq g => by
    rcases g with g | g
    · exact .inl g
    · have := (h5 q g).1; omega
  cases hm : moreS l en k j c.nums with
  | no e' p => exact hz e' p w1 hm kk
  | ok r j' =>
    intro s' r1 l1 i1
    have lt := h3.lt
    have no : ∀ q, (q = rb ∨ inB s.a q) → q ≠ b0 ∧ q ≠ tb ∧ q ≠ cb ∧ q ≠ mb := fun q g => by
      rcases g with g | g
      · omega
      · obtain ⟨g1, g2, g3, g4⟩ := h5 q g; exact ⟨g2, g3, g4, by omega⟩
    refine hq r j' s' w1 hm (.inr trivial) ⟨z, h1.keep k1 fun g => (no _ g).1 rfl, h1'⟩ (h2.keep k1 fun g => (no _ g).2.1 rfl) (h3.keep k1 fun g => (no _ g).2.2.1 rfl) l1 (fun q hq => ?_) r1 (h7.keep k1 fun g => (no _ g).2.2.2 rfl) kk
    rcases i1 q hq with g | g
    · exact h5 q g
    · have := h8.size; exact ⟨by omega, by omega, by omega, by omega⟩
end
end Go.Proofs.YtllgjjldnnmjkaaDoor
