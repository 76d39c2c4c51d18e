/- A part of an evaluator of closed runs, and of the proof that what it answers holds of the model. No conditions. -/
import Derived.Test.YtfhakpnfmomaaaaGreatDoorEvPure
namespace Go.Ev
open Go

theorem StR.drew {GP : (Nat → Option Value) → Prop} {w : World} {K : Ctx} {N : Nat} {ds : Nat} {a : Act} {fr : Frame} (h : StR GP w K N ds a fr) : StR GP { w with drawn := w.drawn + 1 } K N ds a fr ∧ Ext w K { w with drawn := w.drawn + 1 } K := by
  obtain ⟨h1, h2⟩ := grown (w1 := { w with drawn := w.drawn + 1 }) h.inv (Nat.le_refl _) rfl rfl rfl (fun _ _ => rfl)
  exact ⟨⟨h2, h.old.ext h1, h.frame.ext h1, h.size, h.defers.ext h.inv h1, h.base, h.gp⟩, h1⟩

/-- A call of a region, as it is checked. -/
def chkCall (o : Oper) : IR → Bool
  | .call _ f args ss => (match o.op with
    | .call c => (match c.callee with | .value (.func g) => g == f % 65536 | _ => false) && chkXs c.args.toList args
    | _ => false) && decide (ss.length ≤ 16)
  | .callv _ fv args ss => (match o.op with
    | .call c => (match c.callee with | .value x => chkX x fv | _ => false) && chkXs c.args.toList args
    | _ => false) && decide (ss.length ≤ 16)
  | .delete _ _ => true
  | _ => false
def chkCallI (N : Nat) (ops : Array Oper) (o : Oper) (i : OpI) : Bool :=
  o.dst == i.dst && (match i.dst with | some t => decide (t < N) | none => true) && chkGuard ops o.guard i.guard && chkCall o i.op
def guardLt (N : Nat) (i : OpI) : Bool := match i.guard with | some (t, _) => decide (t < N) | none => true

section
variable {GP : (Nat → Option Value) → Prop} {P : Program} {F : Fence} {n : Nat} {ops : Array Oper} {Q : Exit → Act → World → Prop} {w : World} {K : Ctx} {N : Nat} {ds : Nat} {a : Act} {fr : Frame}

/-- The step of an operation: by its guard. -/
theorem step_guard (hF : Wide F) (hS : StR GP w K N ds a fr) {i c0 : Nat} {o : Oper} {oi : OpI} {Fr : Nat} {R : Recs} (ho : ops[i]? = some o) (hdst : o.dst = oi.dst) (_ : ∀ t, oi.dst = some t → t < N) (hguard : chkGuard ops o.guard oi.guard = true) (hg : ∀ t b, oi.guard = some (t, b) → t < N)
    {fr' : Frame} {σ' : Store} (h : evStep R Fr c0 i oi fr K.σ = some (fr', σ')) {Kont : Act → World → Prop}
    (hrun : ∀ d, evOp R Fr (c0 + 16 * i) fr oi.hide K.σ oi.op = some (d, σ') → fr' = putD fr oi.dst d → o.wpIn F n P a w Kont Q)
    (hskip : fr' = putD fr oi.dst (.tup []) → σ' = K.σ → Kont (a.put oi.dst undef) w) : wpOpIn F n P ops Q i Kont a w := by
  have run : (evOp R Fr (c0 + 16 * i) fr oi.hide K.σ oi.op).map (fun x => (putD fr oi.dst x.1, x.2)) = some (fr', σ') → Region.wanted o (yielded ops a.tmps) = true → wpOpIn F n P ops Q i Kont a w := by
    intro h1 hw
    obtain ⟨⟨d, σ2⟩, e1, e2⟩ := Option.map_eq_some_iff.1 h1
    simp only [Prod.mk.injEq] at e2
    obtain ⟨rfl, rfl⟩ := e2
    unfold wpOpIn
    rw [ho]
    simp only [hw, if_true]
    exact hrun d e1 rfl
  have skip : some (putD fr oi.dst (.tup []), K.σ) = some (fr', σ') → Region.wanted o (yielded ops a.tmps) = false → wpOpIn F n P ops Q i Kont a w := by
    intro h1 hw
    simp only [Option.some.injEq, Prod.mk.injEq] at h1
    obtain ⟨rfl, rfl⟩ := h1
    unfold wpOpIn
    rw [ho]
    simp only [hw, Bool.false_eq_true, if_false]
    refine ⟨fun f _ => hF.fn f, ?_⟩
    rw [hdst]
    exact hskip rfl rfl
  unfold evStep at h
  unfold chkGuard at hguard
  split at h
  · rename_i hgn
    split at hguard
    · rename_i hon _
      exact run h (by unfold Region.wanted; rw [hon])
    · rename_i h2; rw [hgn] at h2; cases h2
    · cases hguard
  · rename_i t b hgs
    split at hguard
    · rename_i h2; rw [hgs] at h2; cases h2
    · rename_i j b0 t' b' hon h2
      rw [hgs] at h2
      simp only [Option.some.injEq, Prod.mk.injEq] at h2
      obtain ⟨rfl, rfl⟩ := h2
      simp only [Bool.and_eq_true, beq_iff_eq] at hguard
      obtain ⟨rfl, hj⟩ := hguard
      obtain ⟨w1, w2⟩ := wanted_of (ops := ops) hS hon hj (hg _ _ hgs)
      split at h
      · rename_i c hcv
        split at h
        · rename_i hcb
          exact run h (by rw [w1 c hcv, hcb]; simp)
        · rename_i hcb
          exact skip h (by rw [w1 c hcv]; simpa using hcb)
      · rename_i hcv
        exact skip h (w2 hcv)
      · cases h
    · cases hguard

theorem run_callee {o : Oper} {c : Call} {x : Operand} (ho : o.op = .call c) (hc : c.callee = .value x) {g : Nat} {va vb : Array Value} (hv : a.eval x = .func (.func g) va vb) (hr : FnRuns P g) :
    (execOp a.eval o).run P w = .ok (.enter g (va ++ c.args.map a.eval ++ vb)) w := by
  unfold execOp
  simp only [ho, resolve, hc, hv, Deferred.ofValue]
  rw [Sem.run_bind]
  simp only [Sem.run_pure, Result.andThen]
  exact hr _ w

theorem ofPV_list {l : List PV} {vs : Array Value} (hl : vs.size = l.length) (h : ∀ i, i < l.length → RepP w K.im (vs.getD i undef) (l.getD i .nilp)) : LRep w K vs.toList (l.map ofPV) := by
  refine ⟨by simpa using hl, fun i hi => ?_⟩
  rw [List.length_map] at hi
  have e : (l.map ofPV).getD i .undef = ofPV (l.getD i .nilp) := by
    simp only [List.getD_eq_getElem?_getD, List.getElem?_map, List.getElem?_eq_getElem hi, Option.map_some, Option.getD_some]
  rw [e, ← getD_toList]
  exact repD_ofPV (h i hi)

/-- A CALL IN A REGION. -/
theorem stepOK_call (hF : Wide F) {Fr : Nat} {R : Recs} (hpure : ∀ f as d, R.pure f as = some d → PureC GP P f as d) (href : ∀ f as σ d σ', R.ref f as σ = some (d, σ') → RefC GP P f as σ d σ') {c0 B i : Nat} {o : Oper} {oi : OpI}
    (ho : ops[i]? = some o) (hc : chkCallI N ops o oi = true) (hg : guardLt N oi = true) : StepOK GP F n P ops Q N ds Fr R c0 B i oi := by
  intro w K a fr fr' σ' Kont hS hlim hfree hB h hk
  unfold chkCallI at hc
  simp only [Bool.and_eq_true, beq_iff_eq] at hc
  obtain ⟨⟨⟨hdst, hlt⟩, hguard⟩, hir⟩ := hc
  have hdl : ∀ t, oi.dst = some t → t < N := fun t ht => by rw [ht] at hlt; simpa using hlt
  have hgl : ∀ t b, oi.guard = some (t, b) → t < N := fun t b e => by unfold guardLt at hg; rw [e] at hg; simpa using hg
  refine step_guard hF hS ho hdst hdl hguard hgl h (fun d he hfr => ?_) (fun hfr hσ => ?_)
  · subst hfr
    have key : ∀ (m : Mode) (f : Nat) (args : List DV) (vs : Array Value) (ss : Sites), LRep w K vs.toList args → (FnRuns P (f % 65536) → (execOp a.eval o).run P w = .ok (.enter (f % 65536) vs) w) → ss.length ≤ 16 → (∀ c, o.op ≠ .defer c) →
        (match m with | .pure => pureCall R Fr (c0 + 16 * i) oi.hide (K.σ.obj.hide Fr oi.hide) K.σ f args ss | .ref => R.ref f args K.σ) = some (d, σ') → o.wpIn F n P a w Kont Q := by
      intro m f args vs ss hargs hrun hss hnd he
      cases m with
      | pure =>
        refine core_pure hF hS.inv hS.old hS.gp hpure hnd hargs hrun hss hfree he (fun v w' K' k1 k2 k3 k4 k5 k6 => ?_)
        rw [hdst]
        refine hk _ w' K' (hS.put k1 k2 k4 hdl) k1 k3 ⟨by rw [k3, k6]; exact hB.1, fun x hx => ?_⟩ (fun x hx => (k5 x hx).imp id .inl)
        rw [k3, k6]
        rcases k5 x hx with h5 | h5
        · exact hB.2 x h5
        · have := hB.1; omega
      | ref =>
        refine core_ref hF hS.inv hS.old hS.gp href hnd hargs hrun hB.2 he (fun v w' K' k1 k2 k3 k4 k5 k6 => ?_)
        rw [hdst]
        have hb1 := hB.1
        refine hk _ w' K' (hS.put k1 k2 k4 hdl) k1 k3 ⟨by rw [k3]; omega, fun x hx => ?_⟩ (fun x hx => (k5 x hx).imp id (fun h => .inr (by omega)))
        rw [k3]
        rcases k5 x hx with h5 | h5
        · have := hB.2 x h5; omega
        · exact h5.2
    have nodef : ∀ c, o.op = .call c → ∀ c', o.op ≠ .defer c' := fun c hc c' h' => by rw [hc] at h'; cases h'
    have margs : ∀ (c : Call) (ys : List Opd), chkXs c.args.toList ys = true → LRep w K (c.args.map a.eval).toList (evArgs fr ys) := by
      intro c ys h
      obtain ⟨h1, h2⟩ := args_rep hS.frame h
      rw [Array.toList_map]
      exact ⟨h1, h2⟩
    cases hop : oi.op with
    | call m f args ss =>
      rw [hop] at hir he
      unfold chkCall at hir
      simp only [Bool.and_eq_true, decide_eq_true_eq] at hir
      obtain ⟨hir, hss⟩ := hir
      split at hir
      · rename_i c hoc
        simp only [Bool.and_eq_true] at hir
        obtain ⟨hcal, hxs⟩ := hir
        split at hcal
        · rename_i g hcg
          simp only [beq_iff_eq] at hcal
          subst hcal
          refine key m f (evArgs fr args) (c.args.map a.eval) ss (margs c args hxs) (fun hr => ?_) hss (nodef c hoc) (by cases m <;> exact he)
          have := run_callee (w := w) hoc hcg (a := a) (g := f % 65536) (va := #[]) (vb := #[]) rfl hr
          simpa using this
        · cases hcal
      · cases hir
    | callv m fv args ss =>
      rw [hop] at hir he
      unfold chkCall at hir
      simp only [Bool.and_eq_true, decide_eq_true_eq] at hir
      obtain ⟨hir, hss⟩ := hir
      split at hir
      · rename_i c hoc
        simp only [Bool.and_eq_true] at hir
        obtain ⟨hcal, hxs⟩ := hir
        split at hcal
        · rename_i x hcx
          have hrep := chkX_rep hcal hS.frame (w := w) (K := K)
          have fin : ∀ (f : Nat) (va vb : Array Value) (da db : List DV), f < 65536 → a.eval x = .func (.func f) va vb → LRep w K va.toList da → LRep w K vb.toList db →
              (match m with | .pure => pureCall R Fr (c0 + 16 * i) oi.hide (K.σ.obj.hide Fr oi.hide) K.σ f (da ++ evArgs fr args ++ db) ss | .ref => R.ref f (da ++ evArgs fr args ++ db) K.σ) = some (d, σ') → o.wpIn F n P a w Kont Q := by
            intro f va vb da db hf hev ha hb he
            refine key m f (da ++ evArgs fr args ++ db) (va ++ c.args.map a.eval ++ vb) ss ?_ (fun hr => ?_) hss (nodef c hoc) (by cases m <;> exact he)
            · simp only [Array.toList_append]
              exact (ha.append (margs c args hxs)).append hb
            · rw [Nat.mod_eq_of_lt hf] at hr ⊢
              exact run_callee hoc hcx hev hr
          generalize hfv : fv.ev fr = dv at hrep he
          generalize hxe : a.eval x = xv at hrep
          cases hrep with
          | clo f va vb da db ha hb h1 h2 =>
            cases m with
            | pure =>
              simp only [evOp, hfv] at he
              split at he
              · rename_i hf
                exact fin f va vb da db hf hxe ⟨by simpa using ha, fun i hi => by rw [← getD_toList]; exact h1 i hi⟩ ⟨by simpa using hb, fun i hi => by rw [← getD_toList]; exact h2 i hi⟩ he
              · cases he
            | ref =>
              simp only [evOp, hfv] at he
              split at he
              · rename_i hf
                exact fin f va vb da db hf hxe ⟨by simpa using ha, fun i hi => by rw [← getD_toList]; exact h1 i hi⟩ ⟨by simpa using hb, fun i hi => by rw [← getD_toList]; exact h2 i hi⟩ he
              · cases he
          | p v pv hp =>
            cases hp with
            | clo f va vb pa pb ha hb h1 h2 =>
              cases m with
              | pure =>
                simp only [evOp, hfv] at he
                split at he
                · rename_i hf
                  exact fin f va vb _ _ hf hxe (ofPV_list ha h1) (ofPV_list hb h2) he
                · cases he
              | ref =>
                simp only [evOp, hfv] at he
                split at he
                · rename_i hf
                  exact fin f va vb _ _ hf hxe (ofPV_list ha h1) (ofPV_list hb h2) he
                · cases he
            | _ => cases m <;> simp only [evOp, hfv] at he <;> cases he
          | _ => cases m <;> simp only [evOp, hfv] at he <;> cases he
        · cases hcal
      · cases hir
    | delete m k => rw [hop] at he; simp [evOp] at he
    | _ => rw [hop] at hir; cases hir
  · subst hfr
    refine hk _ w K (hS.put (.refl _ _) hS.inv (.tup _ _ rfl (fun i h => absurd h (by simp))) hdl) (.refl _ _) hσ.symm hB (fun x hx => .inl hx)
end
end Go.Ev
