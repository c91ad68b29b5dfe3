/-
  'Same' of two rows of lines that are alike is true. No condition.
-/
import Derived.Test.YtimdpeolfhaajaaWalk4
import Derived.Test.YtimdpeolfhaajaaCodeLaw
set_option linter.unusedVariables false
set_option linter.unusedSimpArgs false
namespace Go.Proofs.Ytimdpeolfhaajaa
open Go.RowKit
def All2 {α : Type} (R : α → α → Prop) (l m : List α) : Prop := l.length = m.length ∧ ∀ (i : Nat) x y, l[i]? = some x → m[i]? = some y → R x y
def figEq (pl : Bool) (f g : Fg) : Prop := f.n = g.n ∧ (pl = true → f.pos = g.pos)
def clEq (pl : Bool) (c d : Cl) : Prop := c.word = d.word ∧ (pl = true → c.pos = d.pos) ∧ c.slash = d.slash ∧ c.dash = d.dash ∧ All2 (figEq pl) c.nums d.nums
def rwEq (pl : Bool) (x y : Rw) : Prop := (pl = true → x.pos = y.pos) ∧ x.default = y.default ∧ figEq pl x.prio y.prio ∧ x.drop = y.drop ∧ figEq pl x.port y.port ∧ All2 (clEq pl) x.clauses y.clauses
theorem All2.refl {α : Type} {R : α → α → Prop} (h : ∀ x, R x x) (l : List α) : All2 R l l := ⟨rfl, fun i x y h1 h2 => by rw [h1] at h2; cases h2; exact h x⟩
theorem rwEq.refl (pl : Bool) (x : Rw) : rwEq pl x x := ⟨fun _ => rfl, rfl, ⟨rfl, fun _ => rfl⟩, rfl, ⟨rfl, fun _ => rfl⟩, All2.refl (fun c => ⟨rfl, fun _ => rfl, rfl, rfl, All2.refl (fun f => ⟨rfl, fun _ => rfl⟩) _⟩) _⟩
abbrev NumsR (w : World) (s : Sl3) (l : List Fg) : Prop := Lst w 36 2 Fg.enc s.a s.n s.c l
def ClsR (w : World) (s : Sl3) (l : List Cl) : Prop := ∃ ps : List (Cl × Sl3), l = ps.map Prod.fst ∧ Lst w 42 5 clEnc s.a s.n s.c ps ∧ ∀ p ∈ ps, NumsR w p.2 p.1.nums
def RwsR (w : World) (s : Sl3) (l : List Rw) : Prop := ∃ ps : List (Rw × Sl3), l = ps.map Prod.fst ∧ Lst w 39 8 rwEnc s.a s.n s.c ps ∧ ∀ p ∈ ps, ClsR w p.2 p.1.clauses
theorem ClsR.ext {w w' : World} {s : Sl3} {l : List Cl} (h : ClsR w s l) (k : Ext w w') : ClsR w' s l := by
  obtain ⟨ps, h1, h2, h3⟩ := h
  exact ⟨ps, h1, h2.ext k, fun p hp => (h3 p hp).ext k⟩
theorem RwsR.ext {w w' : World} {s : Sl3} {l : List Rw} (h : RwsR w s l) (k : Ext w w') : RwsR w' s l := by
  obtain ⟨ps, h1, h2, h3⟩ := h
  exact ⟨ps, h1, h2.ext k, fun p hp => (h3 p hp).ext k⟩
theorem RwsR.of_at {w : World} {F : Nat → Prop} {s : Sl3} {l : List Rw} (h : RwsAt w F s l) : RwsR w s l := by
  obtain ⟨ps, h1, h2, _, h4⟩ := h
  refine ⟨ps, h1, h2, fun p hp => ?_⟩
  obtain ⟨qs, g1, g2, _, g4⟩ := h4 p hp
  exact ⟨qs, g1, g2, fun q hq => (g4 q hq).1⟩
theorem RwsR.of_rows {w : World} {sl : Sl3} {rps : List Rp} (hc : ∀ p ∈ rps, p.1.clauses = p.2.2.map Prod.fst) (h : (fRows sl rps).P w) : RwsR w sl (rps.map Prod.fst) := by
  obtain ⟨h1, h2, _⟩ := h
  refine ⟨rps.map fun p => (p.1, p.2.1), by simp, ⟨by rw [h1.1]; simp, ?_⟩, fun p hp => ?_⟩
  · have : ∀ l : List Rp, flat rwEnc (l.map fun p => (p.1, p.2.1)) = flat rpEnc l := fun l => by
      induction l with
      | nil => rfl
      | cons x l ih => simp only [List.map_cons, flat, ih]; rfl
    rw [this]; exact h1.2
  · obtain ⟨q, hq, rfl⟩ := List.mem_map.1 hp
    exact ⟨q.2.2, hc q hq, (h2 q hq).1.1, fun y hy => ((h2 q hq).1.2.1 y hy).1⟩
theorem Lst.max {α : Type} {f : α → List Value} {w : World} {e : TypeId} {sz : Nat} {a : Option Addr} {n c : Nat} {l : List α} (h : Lst w e sz f a n c l) : l.length ≤ maxLen := by
  rw [← h.1]
  rcases h.2.2 with ⟨_, h1, _⟩ | ⟨g, cur, _, _, h1, h2, _⟩
  · omega
  · omega
section
variable {Z : List PanicEntry → PT} {Q : Bool → PT} {w0 w : World} {pl : Bool}
theorem fig_cal {K : Bool → PT} {f g : Fg} (h : figEq pl f g) (hk : ∀ w', Ext w w' → K true w') : cal Try.prog Z 17 [.agg ⟨f.enc⟩, .agg ⟨g.enc⟩, .bool pl] (isB fun v => K v) w := by
  refine ref06_figure.cal ?_
  unfold ref06_figure.F
  refine (Sep.start (fun _ => False) w).new fun w1 b1 h1 k1 => ?_
  refine h1.new fun w2 b2 h2 k2 => ?_
  simp only [add_mk, Nat.zero_add]
  refine h2.ldI 1 rfl rfl (h2.ldI 0 rfl rfl ?_)
  rw [pif_beq, if_pos h.1]
  cases pl with
  | false => exact hk w2 h2.kept
  | true =>
    show ldI _ _ _ w2
    refine h2.ldI 1 rfl rfl (h2.ldI 0 rfl rfl ?_)
    have : (f.pos == g.pos) = true := by rw [h.2 rfl]; exact beq_self_eq_true _
    rw [this]
    exact hk w2 h2.kept
theorem hS_Lst {α : Type} {f : α → List Value} {sz : Nat} {e : TypeId} {a : Option Addr} {n c i : Nat} {l : List α} {x : α} {S : PT} {K : List Value → PT} {b : Nat} (hf : ∀ x, (f x).length = sz) (hx : l[i]? = some x) (hb : a = some ⟨b, 0, none⟩) (h : ∀ w', S w' → Lst w' e sz f a n c l) (hk : K (f x) w) : hN S sz ⟨b, i * sz, none⟩ K w := by
  refine hN_of (hf x) (fun w' hw' j v hj => ?_) hk
  have hc' := ((h w' hw').2.cells hb).2
  rw [add_mk]
  refine hc' _ _ ?_
  rw [flat_at hf hx (by rw [← hf x]; exact (List.getElem?_eq_some_iff.1 hj).1)]
  exact hj
variable {X1 : Option Addr → Nat → Nat → Option Addr → Nat → Nat → Bool → Int → PT} {X2 : Option Addr → Nat → Nat → Option Addr → Nat → Nat → Bool → Int → Addr → Addr → Int → PT}
theorem sm_nums {a b : Option Addr} {an ac bn bc : Nat} {iv kv : Int} {xa ya : Addr} {L : List Fct} {cb db : Nat} {c d : Cl} {sc sd : Sl3} (h2 : All2 (figEq pl) c.nums d.nums) :
    NumsR w0 sc c.nums → NumsR w0 sd d.nums → ∀ (m j : Nat) (w : World), c.nums.length = j + m → Sep (fun _ => False) w0 w (fB db (clEnc (d, sd)) :: fB cb (clEnc (c, sc)) :: L) →
    (∀ w', Sep (fun _ => False) w0 w' L → ref06_Same.s57 Z Q X1 X2 a an ac b bn bc pl iv xa ya kv w') →
    ref06_Same.l77 Z Q X1 X2 (m + 1) a an ac b bn bc pl iv xa ya kv ⟨cb, 0, none⟩ ⟨db, 0, none⟩ j w := by
  intro hc hd m
  have hl := Lst.max hc
  simp only [maxLen] at hl
  induction m with
  | zero =>
    intro j w hm h hk
    unfold ref06_Same.l77 ref06_Same.s81
    simp only [add_mk, Nat.zero_add]
    refine h.ldL 1 rfl rfl ?_
    rw [pif_dec, if_neg (by rw [hc.1]; omega)]
    exact hk w ((h.drop 0).drop 0)
  | succ m ih =>
    intro j w hm h hk
    unfold ref06_Same.l77 ref06_Same.s81
    simp only [add_mk, Nat.zero_add]
    refine h.ldL 1 rfl rfl ?_
    rw [pif_dec, if_pos (by rw [hc.1]; omega)]
    have hx := List.getElem?_eq_getElem (show j < c.nums.length by omega)
    have hy := List.getElem?_eq_getElem (show j < d.nums.length by rw [← h2.1]; omega)
    have hxy := h2.2 j _ _ hx hy
    have all : ∀ {w'}, Sep (fun _ => False) w0 w' (fB db (clEnc (d, sd)) :: fB cb (clEnc (c, sc)) :: L) → (IsB w' cb (clEnc (c, sc)) ∧ IsB w' db (clEnc (d, sd))) ∧ NumsR w' sc c.nums ∧ NumsR w' sd d.nums := fun h => ⟨⟨h.at (n := 1) rfl, h.at (n := 0) rfl⟩, hc.ext h.kept, hd.ext h.kept⟩
    refine h.drawn (fun w' => (IsB w' cb (clEnc (c, sc)) ∧ IsB w' db (clEnc (d, sd))) ∧ NumsR w' sc c.nums ∧ NumsR w' sd d.nums) (all h.drew) fun h => ?_
    generalize w.drew = w1 at h ⊢
    refine hL_of (fun w' hw' => hw'.1.1.cell 2) ?_
    refine ixS_Lst Fg.enc_len (hc.ext h.kept) hx fun p hp hcl => ?_
    refine hS_Lst Fg.enc_len hx hp (fun w' hw' => hw'.2.1) ?_
    refine hL_of (fun w' hw' => hw'.1.2.cell 2) ?_
    refine ixS_Lst Fg.enc_len (hd.ext h.kept) hy fun q hq hcl => ?_
    refine hS_Lst Fg.enc_len hy hq (fun w' hw' => hw'.2.2) ?_
    refine fig_cal hxy fun w2 k2 => ?_
    have h2' := h.ext k2
    refine sAnd_of (all h2') ?_
    rw [pif_not, pif_true, wrap_nat1 (by omega)]
    exact ih (j + 1) w2 (by omega) h2' hk
theorem beq_of {a b : Bool} (h : a = b) : (!(a == b)) = false := by subst h; cases a <;> rfl
theorem bne_of {a b : Int} (h : a = b) : (a != b) = false := by subst h; simp
theorem tl_of {a b : ByteArray} (h : a = b) : (!(a.toList == b.toList)) = false := by subst h; simp
theorem sm_clause {a b : Option Addr} {an ac bn bc : Nat} {iv kv : Int} {xa ya : Addr} {L : List Fct} {cb db : Nat} {c d : Cl} {sc sd : Sl3} (h2 : clEq pl c d) (hc : NumsR w0 sc c.nums) (hd : NumsR w0 sd d.nums) (h : Sep (fun _ => False) w0 w (fB db (clEnc (d, sd)) :: fB cb (clEnc (c, sc)) :: L))
    (hk : ∀ w', Sep (fun _ => False) w0 w' L → ref06_Same.s57 Z Q X1 X2 a an ac b bn bc pl iv xa ya kv w') :
    ref06_Same.s97 Z Q X1 X2 a an ac b bn bc pl iv xa ya kv ⟨cb, 0, none⟩ ⟨db, 0, none⟩ w := by
  obtain ⟨e1, e2, e3, e4, e5⟩ := h2
  have fin : ref06_Same.s94 Z Q X1 X2 a an ac b bn bc pl iv xa ya kv ⟨cb, 0, none⟩ ⟨db, 0, none⟩ (((sc.n : Nat) : Int) != ((sd.n : Nat) : Int)) w := by
    rw [bne_of (by rw [hc.1, hd.1, e5.1])]
    unfold ref06_Same.s94
    rw [pif_false]
    unfold ref06_Same.s89
    exact exK_of (c.nums.length + 1) (sm_nums e5 hc hd c.nums.length 0 w (by omega) h hk)
  unfold ref06_Same.s97
  simp only [add_mk, Nat.zero_add]
  refine h.ldS 1 rfl rfl (h.ldS 0 rfl rfl ?_)
  rw [tl_of e1, pif_false]
  cases pl with
  | true =>
    rw [pif_true]
    refine h.ldI 1 rfl rfl (h.ldI 0 rfl rfl ?_)
    rw [bne_of (e2 rfl), pif_false]
    refine h.ldB 1 rfl rfl (h.ldB 0 rfl rfl ?_)
    rw [beq_of e3, pif_false]
    refine h.ldB 1 rfl rfl (h.ldB 0 rfl rfl ?_)
    rw [beq_of e4, pif_false]
    refine h.ldL 1 rfl rfl (h.ldL 0 rfl rfl ?_)
    exact fin
  | false =>
    rw [pif_false]
    refine h.ldB 1 rfl rfl (h.ldB 0 rfl rfl ?_)
    rw [beq_of e3, pif_false]
    refine h.ldB 1 rfl rfl (h.ldB 0 rfl rfl ?_)
    rw [beq_of e4, pif_false]
    refine h.ldL 1 rfl rfl (h.ldL 0 rfl rfl ?_)
    exact fin
theorem ClsR.len {w : World} {s : Sl3} {l : List Cl} (h : ClsR w s l) : s.n = l.length := by obtain ⟨ps, e1, e2, _⟩ := h; rw [e2.1, e1]; simp
theorem RwsR.len {w : World} {s : Sl3} {l : List Rw} (h : RwsR w s l) : s.n = l.length := by obtain ⟨ps, e1, e2, _⟩ := h; rw [e2.1, e1]; simp
/-- The element of a place, from memory to a list of the plain things. -/
theorem pair_at {α β : Type} {l : List α} {ps : List (α × β)} (h : l = ps.map Prod.fst) {j : Nat} (hj : j < l.length) : ∃ p, ps[j]? = some p ∧ p ∈ ps ∧ l[j]? = some p.1 := by
  subst h
  have hj' : j < ps.length := by simpa using hj
  exact ⟨ps[j], List.getElem?_eq_getElem hj', List.getElem_mem hj', by rw [List.getElem?_map, List.getElem?_eq_getElem hj']; rfl⟩
theorem lay_all {z vs : List Value} {n : Nat} (h1 : z.length = n) (h2 : vs.length = n) : lay z 0 vs = vs := by
  unfold lay
  rw [List.take_zero, List.drop_eq_nil_of_le (by omega)]
  simp
theorem sm_clauses {a b : Option Addr} {an ac bn bc : Nat} {iv : Int} {L : List Fct} {xb yb : Nat} {x y : Rw} {sx sy : Sl3} (h2 : All2 (clEq pl) x.clauses y.clauses) (hc : ClsR w0 sx x.clauses) (hd : ClsR w0 sy y.clauses) :
    ∀ (m j : Nat) (w : World), x.clauses.length = j + m → Sep (fun _ => False) w0 w (fB yb (rwEnc (y, sy)) :: fB xb (rwEnc (x, sx)) :: L) →
    (∀ w', Sep (fun _ => False) w0 w' L → ref06_Same.s27 Z Q X1 a an ac b bn bc pl iv w') →
    ref06_Same.l47 Z Q X1 (m + 1) a an ac b bn bc pl iv ⟨xb, 0, none⟩ ⟨yb, 0, none⟩ j w := by
  intro m
  have lx := hc.len
  have ly := hd.len
  obtain ⟨ps, p1, p2, p3⟩ := hc
  obtain ⟨qs, q1, q2, q3⟩ := hd
  have hl := Lst.max p2
  have hl2 := congrArg List.length p1
  rw [List.length_map] at hl2
  simp only [maxLen] at hl
  induction m with
  | zero =>
    intro j w hm h hk
    unfold ref06_Same.l47 ref06_Same.s104
    simp only [add_mk, Nat.zero_add]
    refine h.ldL 1 rfl rfl ?_
    rw [pif_dec, if_neg (by simp only; omega)]
    exact hk w ((h.drop 0).drop 0)
  | succ m ih =>
    intro j w hm h hk
    obtain ⟨⟨c, sc⟩, hx, mx, ex⟩ := pair_at p1 (show j < x.clauses.length by omega)
    obtain ⟨⟨d, sd⟩, hy, my, ey⟩ := pair_at q1 (show j < y.clauses.length by rw [← h2.1]; omega)
    have hxy := h2.2 j c d ex ey
    unfold ref06_Same.l47 ref06_Same.s104
    simp only [add_mk, Nat.zero_add]
    refine h.ldL 1 rfl rfl ?_
    rw [pif_dec, if_pos (by simp only; omega)]
    unfold ref06_Same.s100
    simp only [add_mk, Nat.zero_add]
    refine h.ldL 1 rfl rfl ?_
    refine ixS_Lst clEnc_len (p2.ext h.kept) hx fun b1 hb1 hcl1 => ?_
    refine ⟨clEnc (c, sc), rfl, fun j v hj => by rw [add_mk]; exact hcl1 j v hj, ?_⟩
    refine h.new fun w1 cb h1 k1 => ?_
    refine h1.stN 0 rfl (by simp) rfl (clEnc_one _) (lay_all rfl (clEnc_len _)) fun w2 h2 k2 => ?_
    refine h2.ldL 1 rfl rfl ?_
    refine ixS_Lst clEnc_len (q2.ext h2.kept) hy fun b2 hb2 hcl2 => ?_
    refine ⟨clEnc (d, sd), rfl, fun j v hj => by rw [add_mk]; exact hcl2 j v hj, ?_⟩
    refine h2.new fun w3 db h3 k3 => ?_
    refine h3.stN 0 rfl (by simp) rfl (clEnc_one _) (lay_all rfl (clEnc_len _)) fun w4 h4 k4 => ?_
    refine sm_clause hxy (p3 _ mx) (q3 _ my) h4 fun w5 h5 => ?_
    unfold ref06_Same.s57
    rw [wrap_nat1 (by omega)]
    exact ih (j + 1) w5 (by omega) h5 hk
theorem sm_row {a b : Option Addr} {an ac bn bc : Nat} {iv : Int} {L : List Fct} {xb yb : Nat} {x y : Rw} {sx sy : Sl3} (h2 : rwEq pl x y) (hc : ClsR w0 sx x.clauses) (hd : ClsR w0 sy y.clauses)
    (h : Sep (fun _ => False) w0 w (fB yb (rwEnc (y, sy)) :: fB xb (rwEnc (x, sx)) :: L))
    (hk : ∀ w', Sep (fun _ => False) w0 w' L → ref06_Same.s27 Z Q X1 a an ac b bn bc pl iv w') :
    ref06_Same.s118 Z Q X1 a an ac b bn bc pl iv ⟨xb, 0, none⟩ ⟨yb, 0, none⟩ w := by
  obtain ⟨e1, e2, e3, e4, e5, e6⟩ := h2
  have fin : ∀ w, Sep (fun _ => False) w0 w (fB yb (rwEnc (y, sy)) :: fB xb (rwEnc (x, sx)) :: L) → ref06_Same.s115 Z Q X1 a an ac b bn bc pl iv ⟨xb, 0, none⟩ ⟨yb, 0, none⟩ (((sx.n : Nat) : Int) != ((sy.n : Nat) : Int)) w := fun w h => by
    rw [bne_of (by rw [hc.len, hd.len, e6.1])]
    unfold ref06_Same.s115
    rw [pif_false]
    unfold ref06_Same.s110
    exact exK_of (x.clauses.length + 1) (sm_clauses e6 hc hd x.clauses.length 0 w (by omega) h hk)
  unfold ref06_Same.s118
  simp only [add_mk, Nat.zero_add]
  cases pl with
  | true =>
    rw [pif_true]
    refine h.ldI 1 rfl rfl (h.ldI 0 rfl rfl ?_)
    rw [bne_of (e1 rfl), pif_false]
    refine h.ldB 1 rfl rfl (h.ldB 0 rfl rfl ?_)
    rw [beq_of e2, pif_false]
    refine h.ldN 1 rfl (vs := x.prio.enc) rfl rfl (h.ldN 0 rfl (vs := y.prio.enc) rfl rfl ?_)
    refine fig_cal e3 fun w1 k1 => ?_
    have h := h.ext k1
    rw [pif_not, pif_true]
    refine h.ldB 1 rfl rfl (h.ldB 0 rfl rfl ?_)
    rw [beq_of e4, pif_false]
    refine h.ldN 1 rfl (vs := x.port.enc) rfl rfl (h.ldN 0 rfl (vs := y.port.enc) rfl rfl ?_)
    refine fig_cal e5 fun w2 k2 => ?_
    have h := h.ext k2
    rw [pif_not, pif_true]
    refine h.ldL 1 rfl rfl (h.ldL 0 rfl rfl ?_)
    exact fin w2 h
  | false =>
    rw [pif_false]
    refine h.ldB 1 rfl rfl (h.ldB 0 rfl rfl ?_)
    rw [beq_of e2, pif_false]
    refine h.ldN 1 rfl (vs := x.prio.enc) rfl rfl (h.ldN 0 rfl (vs := y.prio.enc) rfl rfl ?_)
    refine fig_cal e3 fun w1 k1 => ?_
    have h := h.ext k1
    rw [pif_not, pif_true]
    refine h.ldB 1 rfl rfl (h.ldB 0 rfl rfl ?_)
    rw [beq_of e4, pif_false]
    refine h.ldN 1 rfl (vs := x.port.enc) rfl rfl (h.ldN 0 rfl (vs := y.port.enc) rfl rfl ?_)
    refine fig_cal e5 fun w2 k2 => ?_
    have h := h.ext k2
    rw [pif_not, pif_true]
    refine h.ldL 1 rfl rfl (h.ldL 0 rfl rfl ?_)
    exact fin w2 h
theorem sm_loop {sa sb : Sl3} {l r : List Rw} (h2 : All2 (rwEq pl) l r) (hc : RwsR w0 sa l) (hd : RwsR w0 sb r) (hq : ∀ w', Ext w0 w' → Q true w') :
    ∀ (m j : Nat) (w : World), l.length = j + m → Sep (fun _ => False) w0 w [] → ref06_Same.l18 Z Q (m + 1) sa.a sa.n sa.c sb.a sb.n sb.c pl j w := by
  intro m
  have lx := hc.len
  have ly := hd.len
  obtain ⟨ps, p1, p2, p3⟩ := hc
  obtain ⟨qs, q1, q2, q3⟩ := hd
  have hl := Lst.max p2
  have hl2 := congrArg List.length p1
  rw [List.length_map] at hl2
  simp only [maxLen] at hl
  induction m with
  | zero =>
    intro j w hm h
    unfold ref06_Same.l18 ref06_Same.s125
    rw [pif_dec, if_neg (by omega)]
    exact hq w h.kept
  | succ m ih =>
    intro j w hm h
    obtain ⟨⟨x, sx⟩, hx, mx, ex⟩ := pair_at p1 (show j < l.length by omega)
    obtain ⟨⟨y, sy⟩, hy, my, ey⟩ := pair_at q1 (show j < r.length by rw [← h2.1]; omega)
    have hxy := h2.2 j x y ex ey
    unfold ref06_Same.l18 ref06_Same.s125
    rw [pif_dec, if_pos (by omega)]
    unfold ref06_Same.s121
    refine ixS_Lst rwEnc_len (p2.ext h.kept) hx fun b1 hb1 hcl1 => ?_
    refine ⟨rwEnc (x, sx), rfl, fun j v hj => by rw [add_mk]; exact hcl1 j v hj, ?_⟩
    refine h.new fun w1 xb h1 k1 => ?_
    refine h1.stN 0 rfl (by simp) rfl (rwEnc_one _) (lay_all rfl (rwEnc_len _)) fun w2 h2 k2 => ?_
    refine ixS_Lst rwEnc_len (q2.ext h2.kept) hy fun b2 hb2 hcl2 => ?_
    refine ⟨rwEnc (y, sy), rfl, fun j v hj => by rw [add_mk]; exact hcl2 j v hj, ?_⟩
    refine h2.new fun w3 yb h3 k3 => ?_
    refine h3.stN 0 rfl (by simp) rfl (rwEnc_one _) (lay_all rfl (rwEnc_len _)) fun w4 h4 k4 => ?_
    refine sm_row hxy (p3 _ mx) (q3 _ my) h4 fun w5 h5 => ?_
    unfold ref06_Same.s27
    rw [wrap_nat1 (by omega)]
    exact ih (j + 1) w5 (by omega) h5
theorem same_cal {K : Bool → PT} {sa sb : Sl3} {l r : List Rw} (h2 : All2 (rwEq pl) l r) (hc : RwsR w sa l) (hd : RwsR w sb r) (hq : ∀ w', Ext w w' → K true w') :
    cal Try.prog Z 9 [.slice sa.a sa.n sa.c, .slice sb.a sb.n sb.c, .bool pl] (isB fun v => K v) w := by
  refine ref06_Same.cal ?_
  unfold ref06_Same.F ref06_Same.s134
  rw [bne_of (by rw [hc.len, hd.len, h2.1]), pif_false]
  unfold ref06_Same.s131
  exact exK_of (l.length + 1) (sm_loop h2 hc hd hq l.length 0 w (by omega) (Sep.start _ w))
end
end Go.Proofs.Ytimdpeolfhaajaa
