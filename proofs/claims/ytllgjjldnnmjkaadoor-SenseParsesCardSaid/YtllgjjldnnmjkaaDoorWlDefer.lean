/-
  A function that defers one closure: its call comes to what its code ahead of the defer, its code behind it, and the closure come to. No condition.
-/
import Derived.Test.YtllgjjldnnmjkaaDoorWlMap
import Derived.Recover
set_option linter.unusedVariables false
set_option maxRecDepth 100000
namespace Go.Proofs.YtllgjjldnnmjkaaDoor
open Go.RowKit

/-- An operation of a region. -/
def opAt (c : Code) (i : Nat) : Oper := match c with | .region _ ops _ => ops.getD i default | _ => default
def seqs : List Code → Code → Code
  | [], X => X
  | a :: l, X => .seq a (seqs l X)
def compL (P : Program) (Z : List PanicEntry → PT) : List Code → QF → (Fr → PT) → Fr → PT
  | [], _, K, ρ => K ρ
  | a :: l, Q, K, ρ => comp P Z a (thenK (compL P Z l Q K) Q) ρ
/-- Behind the defer nothing but the end is told. -/
def endQ (X : PT) : QF := fun e _ => match e with | .normal => X | .ret => X | _ => bad
section
variable {P : Program}
theorem wp_seqs (hN : NamesOk P) (hT : ElsOk P) (hmix : P.follows .mixedOrders = true) {E : Env} {n : Nat} {Z : List PanicEntry → PT} {Q : QF} {K : Fr → PT} {X : Code} {R : Exit → Act → World → Prop}
    (hR : ∀ e a w, e ≠ .normal → conv E n Z Q e a w → R e a w) (hX : ∀ ρ a w, Rel E n a ρ → K ρ w → X.wp P R a w) :
    ∀ (l : List Code), (l.all fun c => codeOk n c && codeAb E.k c) = true → ∀ ρ a w, Rel E n a ρ → compL P Z l Q K ρ w → (seqs l X).wp P R a w
  | [], _, ρ, a, w, hr, h => hX ρ a w hr h
  | c :: l, hl, ρ, a, w, hr, h => by
    simp only [List.all_cons, Bool.and_eq_true] at hl
    refine wp_seq (wp_mono (ok_comp hN hT hmix c _ hl.1.1 E hl.1.2 ρ w a hr h) fun e a' w' hq => ?_)
    cases e with
    | normal => obtain ⟨ρ', hr', h'⟩ := hq; exact wp_seqs hN hT hmix hR hX l hl.2 ρ' a' w' hr' h'
    | exit i => exact hR _ _ _ (by simp) hq
    | goto i => exact hR _ _ _ (by simp) hq
    | ret => exact hR _ _ _ (by simp) hq
    | panic c => exact hR _ _ _ (by simp) hq
    | outgrown => exact hq.elim
/-- The closure is made, and deferred. -/
theorem wp_deferred {id t : Nat} {g : FuncId} {caps : Array Operand} {mk df : Oper} {a : Act} {w : World} {R : Exit → Act → World → Prop}
    (h1 : mk.op = .makeFunc (.func g) #[] caps) (h2 : mk.dst = some t) (h3 : mk.guard = none) (h4 : df.op = .defer { callee := .value (.tmp t), args := #[], argTypes := #[] }) (h5 : df.dst = none) (h6 : df.guard = none) (ht : t < a.tmps.size)
    (h : R .normal { a.put (some t) (.func (.func g) #[] (caps.map a.eval)) with defers := { target := .fn (.func g) (caps.map a.eval), args := #[] } :: a.defers } w) : (Code.region id #[mk, df] false).wp P R a w := by
  refine wp_region_list ?_
  refine wpList_step fun K' hK' => ?_
  rw [if_pos (by simp [Region.wanted, h3])]
  refine up_value (w' := w) (v := .func (.func g) #[] (caps.map a.eval)) ?_ (hK' _ _ ?_)
  · unfold execOp; simp only [h1]; simp [Instr.makeFunc]
  rw [h2]
  refine wpList_step fun K' hK' => ?_
  rw [if_pos (by simp [Region.wanted, h6])]
  have he : (a.put (some t) (.func (.func g) #[] (caps.map a.eval))).eval (.tmp t) = .func (.func g) #[] (caps.map a.eval) := by
    simp [Act.eval, Act.put, Array.getD, ht]
  unfold Oper.wp
  have hx : (execOp (a.put (some t) (.func (.func g) #[] (caps.map a.eval))).eval df).run P w = .ok (.defer { target := .fn (.func g) (caps.map a.eval), args := #[] }) w := by
    unfold execOp
    simp only [h4]
    simp [resolve, he, Deferred.ofValue]
  rw [hx]
  simp only [Oper.upon, h5]
  exact hK' _ _ (wpList_nil h)
/-- The deferred closure is called while the function ends so; then its results are read. -/
def endD (P : Program) (g : FuncId) (caps : List Value) (rs : List ResultVar) (ρ : Fr) (Z : List PanicEntry → PT) (R : Value → PT) (u : FrameMode) : PT := fun w => CallsD P g ⟨caps⟩ u w fun e u' w' => match e with
  | .returned _ => (match settle u' with | .returning => retV P rs ρ R w' | .panicking c => Z c w' | .run => False)
  | _ => False
def resBelow (k : Nat) (rs : List ResultVar) : Bool := rs.all fun r => match r with | .tmp t => Nat.blt t k | .cell t _ => Nat.blt t k
theorem res1_same {r : ResultVar} {k : Nat} {ρ ρ' : Fr} {R : Value → PT} (h : (match r with | .tmp t => Nat.blt t k | .cell t _ => Nat.blt t k) = true) (he : ∀ t, t < k → ρ' t = ρ t) : res1 P r ρ R = res1 P r ρ' R := by
  cases r with
  | tmp t => unfold res1; simp only; rw [he t (Nat.le_of_ble_eq_true h)]
  | cell t ty => unfold res1; simp only; rw [he t (Nat.le_of_ble_eq_true h)]
theorem resL_same {k : Nat} {ρ ρ' : Fr} (he : ∀ t, t < k → ρ' t = ρ t) : ∀ {rs : List ResultVar} {R : List Value → PT}, resBelow k rs = true → resL P rs ρ R = resL P rs ρ' R
  | [], R, _ => rfl
  | r :: l, R, h => by
    simp only [resBelow, List.all_cons, Bool.and_eq_true] at h
    unfold resL
    rw [res1_same h.1 he]
    congr 1
    funext v
    exact resL_same he h.2
theorem retV_same {rs : List ResultVar} {k : Nat} {ρ ρ' : Fr} {R : Value → PT} (h : resBelow k rs = true) (he : ∀ t, t < k → ρ' t = ρ t) : retV P rs ρ R = retV P rs ρ' R := by
  match rs, h with
  | [], _ => rfl
  | [r], h => simp only [resBelow, List.all_cons, Bool.and_eq_true] at h; exact res1_same h.1 he
  | r :: r2 :: l, h => exact resL_same he h
theorem calls_of_defer (hN : NamesOk P) (hT : ElsOk P) (hmix : P.follows .mixedOrders = true) {f : FuncId} {fn : Func} {l : List Code} {B : Code} {id t k : Nat} {g : FuncId} {caps : Array Operand} {mk df : Oper} {Z : List PanicEntry → PT} {args : List Value} {R : Value → PT} {K : Fr → PT} {w : World} {rs : List ResultVar}
    (hf : P.funcs[f]? = some fn) (hb : fn.body = some (seqs l (.seq (.region id #[mk, df] false) B))) (hrs : fn.results = ⟨rs⟩) (hlen : args.length ≤ fn.ntmps)
    (h1 : mk.op = .makeFunc (.func g) #[] caps) (h2 : mk.dst = some t) (h3 : mk.guard = none) (h4 : df.op = .defer { callee := .value (.tmp t), args := #[], argTypes := #[] }) (h5 : df.dst = none) (h6 : df.guard = none) (ht : t < fn.ntmps) (hkt : k ≤ t)
    (hl : (l.all fun c => codeOk fn.ntmps c && codeAb 0 c) = true) (hB : codeAb k B = true) (hres : resBelow k rs = true) (hbod : bodied P g = true)
    (hK : ∀ ρ w, K ρ w → ∃ ZB X JB, Ok P fn.ntmps ZB B (endQ X) JB ∧ JB (put ρ t (.func (.func g) #[] ⟨caps.toList.map (ev ρ)⟩)) w ∧ (∀ w', X w' → endD P g (caps.toList.map (ev ρ)) rs ρ Z R .returning w') ∧ ∀ c w', ZB c w' → endD P g (caps.toList.map (ev ρ)) rs ρ Z R (.panicking c) w')
    (hA : compL P Z l (bodyQ P rs R) K (fr0 args) w) : Calls P f ⟨args⟩ w fun e w' => match e with | .returned v => R v w' | .panicked c => Z c w' | _ => False := by
  have h0 : Rel Env.none fn.ntmps { tmps := (⟨args⟩ : Array Value) ++ Array.replicate (fn.ntmps - (⟨args⟩ : Array Value).size) undef, defers := [] } (fr0 args) := by
    refine ⟨by simp; omega, ⟨rfl, fun t ht => absurd ht (Nat.not_lt_zero t)⟩, fun t => ?_⟩
    simp only [fr0, Array.getD_eq_getD_getElem?, List.getD_eq_getElem?_getD]
    by_cases ht : t < args.length
    · simp [Array.getElem?_append, ht]
    · rw [Array.getElem?_append_right (by simp; omega)]
      simp only [Array.getElem?_replicate]
      rw [List.getElem?_eq_none (by omega)]
      split <;> rfl
  refine calls_of_wp_defers hf hb (wp_seqs hN hT hmix (E := Env.none) (n := fn.ntmps) (Z := Z) (Q := bodyQ P rs R) (K := K) ?_ ?_ l hl _ _ w h0 hA)
  · -- the ends ahead of the defer
    intro e a' w' hne hq
    cases e with
    | normal => exact absurd rfl hne
    | ret =>
      obtain ⟨ρ, hr, h'⟩ := hq
      obtain ⟨v, hv, hR⟩ := results_ok hrs hr h'
      show Leaves P fn a'.tmps _ a'.defers .returning w'
      rw [hr.2.1.1]
      exact ⟨v, hv, hR⟩
    | exit i => obtain ⟨ρ, hr, h'⟩ := hq; exact h'.elim
    | goto i => obtain ⟨ρ, hr, h'⟩ := hq; exact h'.elim
    | panic c =>
      show Leaves P fn a'.tmps _ a'.defers (.panicking c) w'
      rw [hq.1.1]
      exact hq.2
    | outgrown => exact hq.elim
  · intro ρ a' w' hr hk
    obtain ⟨ZB, X, JB, hOk, hJ, hX, hZB⟩ := hK ρ w' hk
    have hev := hr.eval
    have hcaps : caps.map a'.eval = ⟨caps.toList.map (ev ρ)⟩ := by rw [hev]; exact map_mk _ _
    refine wp_seq (wp_deferred h1 h2 h3 h4 h5 h6 (by rw [hr.1]; exact ht) ?_)
    rw [hcaps]
    -- the frame behind the defer
    have hfix : ∀ s, s < k → s ≠ t := fun s hs e => by omega
    have hr2 : Rel ⟨[{ target := .fn (.func g) ⟨caps.toList.map (ev ρ)⟩, args := #[] }], k, ρ⟩ fn.ntmps { a'.put (some t) (.func (.func g) #[] ⟨caps.toList.map (ev ρ)⟩) with defers := { target := .fn (.func g) ⟨caps.toList.map (ev ρ)⟩, args := #[] } :: a'.defers } (put ρ t (.func (.func g) #[] ⟨caps.toList.map (ev ρ)⟩)) := by
      have hp := hr.put (d := t) ⟨ht, Nat.zero_le t⟩ (.func (.func g) #[] ⟨caps.toList.map (ev ρ)⟩)
      refine ⟨hp.1, ⟨by rw [hr.2.1.1]; rfl, fun s hs => ?_⟩, hp.2.2⟩
      have := hp.2.2 s
      rw [put_ne _ _ _ _ (hfix s hs)] at this
      exact this
    refine wp_mono (hOk _ hB _ w' _ hr2 hJ) fun e a2 w2 hq => ?_
    obtain ⟨fng, cg, hg1, hg2⟩ := bodied_ok hbod
    have leave : ∀ {u : FrameMode}, u ≠ .run → PanOk ⟨[{ target := .fn (.func g) ⟨caps.toList.map (ev ρ)⟩, args := #[] }], k, ρ⟩ a2 → endD P g (caps.toList.map (ev ρ)) rs ρ Z R u w2 → Leaves P fn a2.tmps (fun e w' => match e with | .returned v => R v w' | .panicked c => Z c w' | _ => False) a2.defers u w2 := fun {u} hu hpan hend => by
      rw [hpan.1]
      refine leaves_cons hu (f := g) (args := ⟨caps.toList.map (ev ρ)⟩) ?_ ?_
      · simp only [invoke, callFunc, Sem.run_bind, Sem.run_pure, run_program, Result.andThen_ok, hg1, hN g fng hg1, hg2, Bool.false_eq_true, if_false, Option.isNone_some]
        simp
      · refine CallsD.mono hend fun e u' w3 he => ?_
        cases e with
        | returned v =>
          simp only at he ⊢
          split at he
          · rename_i hs
            rw [hs]
            -- the results lie in slots that nothing has written
            have hsame : retV P rs ρ R = retV P rs (fun s => a2.tmps.getD s undef) R := retV_same hres fun s hs => hpan.2 s hs
            rw [hsame] at he
            have hrel : Rel ⟨a2.defers, 0, fun _ => undef⟩ a2.tmps.size a2 (fun s => a2.tmps.getD s undef) := ⟨rfl, ⟨rfl, fun s hs => absurd hs (Nat.not_lt_zero s)⟩, fun s => rfl⟩
            obtain ⟨v, hv, hR⟩ := results_ok hrs hrel he
            exact ⟨v, hv, hR⟩
          · rename_i c hs
            rw [hs]
            exact he
          · exact he.elim
        | panicked c => exact he.elim
        | outgrown => exact he.elim
    cases e with
    | normal => obtain ⟨ρ', hr', h'⟩ := hq; exact leave (by simp) hr'.2.1 (hX w2 h')
    | ret => obtain ⟨ρ', hr', h'⟩ := hq; exact leave (by simp) hr'.2.1 (hX w2 h')
    | exit i => obtain ⟨ρ', hr', h'⟩ := hq; exact h'.elim
    | goto i => obtain ⟨ρ', hr', h'⟩ := hq; exact h'.elim
    | panic c => exact leave (by simp) hq.1 (hZB c w2 hq.2)
    | outgrown => exact hq.elim

/-! ### A closure that recovers first -/
/-- What 'recover' hands back, and how the frame below then ends. -/
def recV (u : FrameMode) : Value := match u with
  | .panicking ({ v, recovered := false, goexit := false } :: _) => v
  | _ => .nilIface
def recU (u : FrameMode) : FrameMode := match u with
  | .panicking ({ v, recovered := false, goexit := false } :: older) => .panicking ({ v, recovered := true } :: older)
  | u => u
def recP (u : FrameMode) : Option (Value × FrameMode) := match u with
  | .panicking ({ v, recovered := false, goexit := false } :: older) => some (v, .panicking ({ v, recovered := true } :: older))
  | _ => none
theorem recoverD_cons {c₀ : Frame} {cs : List Frame} {u : FrameMode} (hu : c₀.mode = u) : recoverD (c₀ :: cs) = (recP u).map fun p => (p.1, { c₀ with mode := p.2 } :: cs) := by
  subst hu
  unfold recoverD recP
  simp only
  cases c₀.mode with
  | run => rfl
  | returning => rfl
  | panicking l =>
    cases l with
    | nil => rfl
    | cons p older =>
      obtain ⟨v, r, g⟩ := p
      cases r <;> cases g <;> rfl
theorem wpOpsS_step {ops : Array Oper} {Q : Exit → Act → List Frame → World → Prop} {i : Nat} {rest : List Nat} {o : Oper} {a : Act} {cs : List Frame} {w : World} (hi : ops[i]? = some o) (hw : Region.wanted o (yielded ops a.tmps) = true)
    (h : o.wp P a w (fun a' w' => wpOpsS P ops Q rest a' cs w') (fun e a' w' => Q e a' cs w')) : wpOpsS P ops Q (i :: rest) a cs w := by
  unfold wpOpsS
  simp only [hi, hw, if_true]
  unfold Oper.wp at h
  split
  · rename_i w' hr
    rw [hr] at h
    exact h.elim
  · exact h
theorem wpOpsS_skip {ops : Array Oper} {Q : Exit → Act → List Frame → World → Prop} {i : Nat} {rest : List Nat} {o : Oper} {a : Act} {cs : List Frame} {w : World} (hi : ops[i]? = some o) (hw : Region.wanted o (yielded ops a.tmps) = false)
    (h : wpOpsS P ops Q rest (a.put o.dst undef) cs w) : wpOpsS P ops Q (i :: rest) a cs w := by
  unfold wpOpsS
  simp only [hi, hw, Bool.false_eq_true, if_false]
  exact h
theorem copsS_ok {E : Env} {n : Nat} {Z : List PanicEntry → PT} {ops : Array Oper} {K : Fr → PT} {Q : Exit → Act → List Frame → World → Prop} {cs : List Frame} (hN : NamesOk P) (hT : ElsOk P) (hQ : QOk E Z (fun e a w => Q e a cs w)) (hd : opsOk n ops.toList = true ∧ opsAb E.k ops.toList = true)
    (hK : ∀ ρ a w, Rel E n a ρ → K ρ w → Q .normal a cs w) : ∀ (l : List Oper) (k : Nat), (∀ j, l[j]? = ops[k + j]?) → ∀ (ρ : Fr) (a : Act) (w : World), Rel E n a ρ → cops P Z ops.toList l K ρ w → wpOpsS P ops Q (List.range' k l.length) a cs w
  | [], k, hl, ρ, a, w, hr, h => by
    show Q .normal a cs w
    exact hK ρ a w hr h
  | o :: r, k, hl, ρ, a, w, hr, h => by
    have ho : ops[k]? = some o := by have := hl 0; simpa using this.symm
    have hdo := opsOk_at hd (o := o) (List.mem_of_getElem? (by simpa using ho))
    have ih := copsS_ok hN hT hQ hd hK r (k + 1) (fun j => by have := hl (j + 1); simp only [List.getElem?_cons_succ] at this; rw [this]; congr 1; omega)
    rw [cops_cons] at h
    rw [List.length_cons, List.range'_succ]
    rcases guarded_ok hr hd h with ⟨hw, hx⟩ | ⟨hw, hx⟩
    · exact wpOpsS_step ho hw (cop_ok hN hT hr hQ (fun v w' hv => ih _ _ _ (hr.putO _ hdo v) hv) hx)
    · exact wpOpsS_skip ho hw (ih _ _ _ (hr.putO _ hdo undef) hx)
theorem callsD_closure (hN : NamesOk P) (hT : ElsOk P) (hmix : P.follows .mixedOrders = true) {g : FuncId} {fn : Func} {id d0 : Nat} {o0 : Oper} {ops : List Oper} {c : Code} {Z : List PanicEntry → PT} {X : PT} {args : List Value} {u : FrameMode} {w : World}
    (hf : P.funcs[g]? = some fn) (hb : fn.body = some (.seq (.region id ⟨o0 :: ops⟩ false) c)) (h1 : o0.op = .call { callee := .builtin .recover, args := #[], argTypes := #[] }) (h2 : o0.guard = none) (h3 : o0.dst = some d0) (hrs : fn.results = #[]) (hlen : args.length ≤ fn.ntmps)
    (ho : opsOk fn.ntmps (o0 :: ops) = true) (hc : codeOk fn.ntmps c = true)
    (h : cops P Z0 (o0 :: ops) ops (comp P Z0 c (endQ X)) (put (fr0 args) d0 (recV u)) w) : CallsD P g ⟨args⟩ u w fun e u' w' => e = .returned (.tuple #[]) ∧ u' = recU u ∧ X w' := by
  have h0 : Rel Env.none fn.ntmps { tmps := (⟨args⟩ : Array Value) ++ Array.replicate (fn.ntmps - (⟨args⟩ : Array Value).size) undef, defers := [] } (fr0 args) := by
    refine ⟨by simp; omega, ⟨rfl, fun t ht => absurd ht (Nat.not_lt_zero t)⟩, fun t => ?_⟩
    simp only [fr0, Array.getD_eq_getD_getElem?, List.getD_eq_getElem?_getD]
    by_cases ht : t < args.length
    · simp [Array.getElem?_append, ht]
    · rw [Array.getElem?_append_right (by simp; omega)]
      simp only [Array.getElem?_replicate]
      rw [List.getElem?_eq_none (by omega)]
      split <;> rfl
  refine callsD_of_wpS hf hb fun c₀ cs hu => wpS_seq (wpS_region ?_)
  have hds : d0 < fn.ntmps := (opsOk_at (E := Env.none) ⟨ho, opsAb_zero _⟩ (o := o0) (by simp) d0 h3).1
  have hr1 := h0.put (d := d0) ⟨hds, Nat.zero_le _⟩ (recV u)
  have hx : ∀ (a : Act), (execOp a.eval o0).run P w = .ok .recover w := fun a => by
    unfold execOp
    simp only [h1]
    simp [resolve, invoke, builtin]
  -- the rest, from the frames behind 'recover' on
  have rest : wpOpsS P ⟨o0 :: ops⟩ (Exit.thenS (c.wpS P (bodyPostS P fn c₀ cs fun e u' w' => e = .returned (.tuple #[]) ∧ u' = recU u ∧ X w')) (bodyPostS P fn c₀ cs fun e u' w' => e = .returned (.tuple #[]) ∧ u' = recU u ∧ X w')) (List.range' 1 ops.length) (Act.put { tmps := (⟨args⟩ : Array Value) ++ Array.replicate (fn.ntmps - (⟨args⟩ : Array Value).size) undef, defers := [] } (some d0) (recV u)) ({ c₀ with mode := recU u } :: cs) w := by
    refine copsS_ok (E := Env.none) (Z := Z0) (ops := ⟨o0 :: ops⟩) (K := comp P Z0 c (endQ X)) hN hT (fun ch a w _ hz => hz.elim) ⟨ho, opsAb_zero _⟩ (fun ρ a w hr hk => ?_) ops 1 (fun j => by simp [Nat.add_comm 1 j]) _ _ w hr1 h
    refine wpS_of_wp (wp_mono (ok_comp hN hT hmix c (endQ X) hc Env.none (codeAb_zero _) ρ w a hr hk) fun e a' w' hq => ?_)
    have fin : ∀ {ρ' : Fr}, Rel Env.none fn.ntmps a' ρ' → X w' → a'.defers = [] ∧ ∃ u', ({ c₀ with mode := recU u } :: cs : List Frame) = { c₀ with mode := u' } :: cs ∧ ∃ v, (results fn a'.tmps).run P w' = .ok v w' ∧ (Ending.returned v = .returned (.tuple #[]) ∧ u' = recU u ∧ X w') := fun hr' hx' => ⟨hr'.2.1.1, recU u, rfl, .tuple #[], results_none hrs _ _ _, rfl, rfl, hx'⟩
    cases e with
    | normal => obtain ⟨ρ', hr', h'⟩ := hq; exact fin hr' h'
    | ret => obtain ⟨ρ', hr', h'⟩ := hq; exact fin hr' h'
    | exit i => obtain ⟨ρ', hr', h'⟩ := hq; exact h'.elim
    | goto i => obtain ⟨ρ', hr', h'⟩ := hq; exact h'.elim
    | panic ch => exact hq.2.elim
    | outgrown => exact hq.elim
  show wpOpsS P ⟨o0 :: ops⟩ _ (List.range (ops.length + 1)) _ _ _
  rw [List.range_eq_range', List.range'_succ]
  unfold wpOpsS
  have hg : (⟨o0 :: ops⟩ : Array Oper)[0]? = some o0 := rfl
  have hwt : ∀ y, Region.wanted o0 y = true := fun y => by simp [Region.wanted, h2]
  simp only [hg, hwt, if_true, hx, h3]
  have none' : recoverD (c₀ :: cs) = none → recV u = .nilIface → recU u = u → (match recoverD (c₀ :: cs) with
      | some (v, cs') => wpOpsS P ⟨o0 :: ops⟩ (Exit.thenS (c.wpS P (bodyPostS P fn c₀ cs fun e u' w' => e = .returned (.tuple #[]) ∧ u' = recU u ∧ X w')) (bodyPostS P fn c₀ cs fun e u' w' => e = .returned (.tuple #[]) ∧ u' = recU u ∧ X w')) (List.range' 1 ops.length) (Act.put { tmps := (⟨args⟩ : Array Value) ++ Array.replicate (fn.ntmps - (⟨args⟩ : Array Value).size) undef, defers := [] } (some d0) v) cs' w
      | none => wpOpsS P ⟨o0 :: ops⟩ (Exit.thenS (c.wpS P (bodyPostS P fn c₀ cs fun e u' w' => e = .returned (.tuple #[]) ∧ u' = recU u ∧ X w')) (bodyPostS P fn c₀ cs fun e u' w' => e = .returned (.tuple #[]) ∧ u' = recU u ∧ X w')) (List.range' 1 ops.length) (Act.put { tmps := (⟨args⟩ : Array Value) ++ Array.replicate (fn.ntmps - (⟨args⟩ : Array Value).size) undef, defers := [] } (some d0) .nilIface) (c₀ :: cs) w) := fun e1 e2 e3 => by
    rw [e1]
    have hcs : ({ c₀ with mode := recU u } : Frame) = c₀ := by rw [e3, ← hu]
    rw [e2, hcs] at rest
    exact rest
  have hrd := recoverD_cons (cs := cs) hu
  cases u with
  | run => exact none' hrd rfl rfl
  | returning => exact none' hrd rfl rfl
  | panicking l =>
    cases l with
    | nil => exact none' hrd rfl rfl
    | cons p older =>
      obtain ⟨v, r, g⟩ := p
      cases r <;> cases g <;> first | (rw [hrd]; exact rest) | exact none' hrd rfl rfl
end
end Go.Proofs.YtllgjjldnnmjkaaDoor
