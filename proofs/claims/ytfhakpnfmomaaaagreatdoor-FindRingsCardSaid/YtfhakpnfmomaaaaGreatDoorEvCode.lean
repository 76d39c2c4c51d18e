/- A part of an evaluator of closed runs, and of the proof that what it answers holds of the model. No conditions. -/
import Derived.Test.YtfhakpnfmomaaaaGreatDoorEvChk
import Derived.OrdersIn
namespace Go.Ev
open Go

/-! ### Frames -/
theorem frame_get_set : ∀ (fr : Frame) (t : Nat) (d : DV) (u : Nat), (fr.set t d).get u = if t = u then d else fr.get u
  | [], t, d, u => by simp [Frame.set, Frame.get]
  | (k, v) :: r, t, d, u => by
    simp only [Frame.set]
    split
    · simp [Frame.get]
    · split
      · rename_i h1 h2
        subst h2
        simp only [Frame.get]
        by_cases h : t = u <;> simp [h]
      · rename_i h1 h2
        simp only [Frame.get, frame_get_set r t d u]
        by_cases h : k = u
        · have : ¬ t = u := fun e => h2 (e.trans h.symm)
          simp [h, this]
        · simp [h]
theorem frame_get_del : ∀ (fr : Frame) (l : List Nat) (u : Nat), (fr.del l).get u = fr.get u ∨ (fr.del l).get u = .undef
  | [], l, u => .inl rfl
  | (k, v) :: r, l, u => by
    have ih := frame_get_del r l u
    simp only [Frame.del, List.filter_cons] at ih ⊢
    by_cases hk : l.contains k
    · simp only [hk, Bool.not_true, Bool.false_eq_true, if_false]
      by_cases hu : k = u
      · subst hu
        right
        have : ∀ r : Frame, Frame.get (r.filter fun e => !l.contains e.1) k = .undef := by
          intro r
          induction r with
          | nil => rfl
          | cons e r ih =>
            simp only [List.filter_cons]
            split
            · rename_i h
              simp only [Frame.get]
              rw [if_neg]
              · exact ih
              · intro e2; rw [e2, hk] at h; cases h
            · exact ih
        exact this r
      · simp only [Frame.get, hu, if_false]; exact ih
    · simp only [hk, Bool.not_false, if_true]
      simp only [Frame.get]
      by_cases hu : k = u
      · simp [hu]
      · simp only [hu, if_false]; exact ih

/-- What is left behind of loops over functions: marks, each at a block of its own, from a block on. -/
def MarksOK (B : Nat) (w : World) : List Deferred → Prop
  | [] => True
  | d :: ds => (∃ D, d = { target := .collected D, args := #[] } ∧ B ≤ D ∧ w.heap[D]? = some (.deferred (some [])) ∧ ∀ d' ∈ ds, d' ≠ { target := .collected D, args := #[] }) ∧ MarksOK B w ds
theorem LB_obj {w : World} {K : Ctx} (hi : SInv w K) {b : Nat} (h : K.LB b) : (∃ cs e f, w.heap[b]? = some (.cells cs e f)) ∨ ∃ es c, w.heap[b]? = some (.map es c) := by
  obtain ⟨st, hl, hb⟩ := h
  rcases hl with ⟨f, s, o, h1⟩ | ⟨f, s, sz, n, h1⟩
  · obtain ⟨_, h2⟩ := hi.obj _ _ _ _ h1
    cases o with
    | arr sz rows mu => obtain ⟨b', cs, e, h3, h4, _⟩ := h2; rw [hb] at h3; cases h3; exact .inl ⟨_, _, _, h4⟩
    | map es mu => obtain ⟨b', cs, e, h3, h4, _⟩ := h2; rw [hb] at h3; cases h3; exact .inr ⟨_, _, h4⟩
  · obtain ⟨_, h2⟩ := hi.tok _ _ _ _ _ h1
    rcases h2 with ⟨h3, _⟩ | ⟨b', cs, e, h3, h4, _⟩
    · rw [hb] at h3; cases h3
    · rw [hb] at h3; cases h3; exact .inl ⟨_, _, _, h4⟩
theorem same_other {w w' : World} {K K' : Ctx} (hi : SInv w K) (hx : Ext w K w' K') {b : Nat} {o : Obj} (h : w.heap[b]? = some o) (hc : ∀ cs e f, o ≠ .cells cs e f) (hm : ∀ es c, o ≠ .map es c) : w'.heap[b]? = some o := by
  rw [hx.same b (block_lt h) (fun hl => ?_), h]
  rcases LB_obj hi hl with ⟨cs, e, f, h1⟩ | ⟨es, c, h1⟩
  · rw [h1] at h; exact hc cs e f (by simpa using h.symm)
  · rw [h1] at h; exact hm es c (by simpa using h.symm)
theorem MarksOK.ext {w w' : World} {K K' : Ctx} {B : Nat} (hi : SInv w K) (hx : Ext w K w' K') : ∀ {l : List Deferred}, MarksOK B w l → MarksOK B w' l
  | [], _ => trivial
  | _ :: _, ⟨⟨D, h1, h2, h3, h4⟩, h5⟩ => ⟨⟨D, h1, h2, same_other hi hx h3 (by simp) (by simp), h4⟩, MarksOK.ext hi hx h5⟩

/-- The state of an activation, as the evaluator has it. -/
structure StR (GP : (Nat → Option Value) → Prop) (w : World) (K : Ctx) (N : Nat) (ds : Nat) (a : Act) (fr : Frame) : Prop where
  inv : SInv w K
  old : Old w K
  frame : FRel w K a.tmps fr
  size : a.tmps.size = N
  defers : MarksOK ds w a.defers
  base : ds ≤ w.heap.size
  gp : GP K.G

theorem StR.put {GP : (Nat → Option Value) → Prop} {w w' : World} {K K' : Ctx} {N : Nat} {ds : Nat} {a : Act} {fr : Frame} (h : StR GP w K N ds a fr) (hx : Ext w K w' K') (hi : SInv w' K') {v : Value} {d : DV} (hd : RepD w' K' v d) {dst : Option Nat} (hdst : ∀ t, dst = some t → t < N) :
    StR GP w' K' N ds (a.put dst v) (putD fr dst d) := by
  refine ⟨hi, h.old.ext hx, ?_, ?_, ?_, ?_, by rw [show K'.G = K.G from hx.keep.G]; exact h.gp⟩
  · intro t
    cases dst with
    | none => exact (h.frame t).ext hx
    | some u =>
      have hu := hdst u rfl
      simp only [putD, Act.put]
      rw [frame_get_set]
      by_cases htu : u = t
      · subst htu
        rw [if_pos rfl]
        have : u < a.tmps.size := by rw [h.size]; exact hu
        simpa [Array.getD, this] using hd
      · rw [if_neg htu]
        have e : (a.tmps.setIfInBounds u v).getD t undef = a.tmps.getD t undef := by
          simp only [Array.getD_eq_getD_getElem?, Array.getElem?_setIfInBounds_ne htu]
        rw [e]
        exact (h.frame t).ext hx
  · cases dst with
    | none => exact h.size
    | some u => simp only [Act.put, Array.size_setIfInBounds]; exact h.size
  · cases dst with
    | none => exact h.defers.ext h.inv hx
    | some u => exact h.defers.ext h.inv hx
  · exact Nat.le_trans h.base hx.size

/-- The guard of an operation, as it is checked. -/
def chkGuard (ops : Array Oper) (g : Option (Nat × Bool)) (g' : Option (Nat × Bool)) : Bool :=
  match g, g' with
  | none, none => true
  | some (j, b), some (t, b') => b == b' && ((ops[j]?).bind (·.dst) == some t)
  | _, _ => false
/-- An operation of a region and what the evaluator has for it. -/
def chkOpI (P : Program) (N : Nat) (ops : Array Oper) (o : Oper) (i : OpI) : Bool :=
  o.dst == i.dst && (match i.dst with | some t => decide (t < N) | none => true) && chkGuard ops o.guard i.guard && chkIR P o i.op
section
variable {GP : (Nat → Option Value) → Prop} {P : Program} {F : Fence} {n : Nat} {ops : Array Oper} {Q : Exit → Act → World → Prop} {w : World} {K : Ctx} {N : Nat} {ds : Nat} {a : Act} {fr : Frame}

/-- What a guard says, as the evaluator reads it. -/
theorem wanted_of (hS : StR GP w K N ds a fr) {o : Oper} {j : Nat} {b : Bool} {t : Nat} (hg : o.guard = some (j, b)) (ht : (ops[j]?).bind (·.dst) = some t) (htN : t < N) :
    (∀ c, fr.get t = .p (.bool c) → Region.wanted o (yielded ops a.tmps) = (c == b)) ∧ (fr.get t = .tup [] → Region.wanted o (yielded ops a.tmps) = false) := by
  have hsz : t < a.tmps.size := by rw [hS.size]; exact htN
  have hv := hS.frame t
  have hy : yielded ops a.tmps j = match a.tmps.getD t undef with | .bool c => some c | _ => none := by
    unfold yielded
    rw [ht]
    simp only [Option.bind_some, Array.getElem?_eq_getElem hsz]
    simp only [Array.getD, hsz, dif_pos]
    show (match some a.tmps[t] with | some (.bool b) => some b | _ => none) = (match a.tmps[t] with | .bool c => some c | _ => none)
    generalize a.tmps[t] = v
    cases v <;> rfl
  refine ⟨fun c hc => ?_, fun hc => ?_⟩
  · rw [hc] at hv
    have e := hv.bool_inv
    unfold Region.wanted
    simp only [hg, hy, e]
    cases c <;> cases b <;> rfl
  · rw [hc] at hv
    generalize a.tmps.getD t undef = v at hv hy
    unfold Region.wanted
    simp only [hg, hy]
    cases hv with
    | tup vs _ hl _ => simp
/-- The fences that are asked: any function, any depth. -/
structure Wide (F : Fence) : Prop where
  fn : ∀ f, F.fn f
  depth : F.depth = none

theorem uponIn_of_runs {o : Oper} {v : Value} {w' : World} {next : Act → World → Prop} (hr : (execOp a.eval o).run P w = .ok (.value v) w' ∨ ((execOp a.eval o).run P w = .ok .skip w' ∧ v = undef)) (hF : Wide F) (hd : ∀ c, o.op ≠ .defer c) (h : next (a.put o.dst v) w') : o.wpIn F n P a w next Q := by
  refine ⟨fun f _ => hF.fn f, ?_⟩
  rw [Oper.semAt_eq _ _ _ hd]
  rcases hr with hr | ⟨hr, rfl⟩ <;> rw [hr] <;> exact h

theorem no_defer {o : Oper} {ir : IR} (h : chkIR P o ir = true) : ∀ c, o.op ≠ .defer c := by
  intro c hc
  cases ir <;> simp [chkIR, chkRune, chkMv, chkPick, chkAlloc, chkBox, chkLoad, chkStore, chkNil, chkFieldAddr, chkIndexSl, chkIndexArr, chkIndexStr, chkIndexAgg, chkField, chkBin, chkEqv, chkUn, chkConv, chkBuild, chkBuildSl, chkMakeSl, chkSliceSl, chkSliceStr, chkLen, chkMin, chkAppend, chkClear, chkMapEntry, chkEntryStore, chkMakeMap, chkLookup, chkMapUpd, chkExtract, chkMkIface, chkClo, hc] at h

/-- ONE OPERATION OF A REGION, NO CALL: what the evaluator's step comes to. -/
theorem step_op (hF : Wide F) (hS : StR GP w K N ds a fr) {i c0 : Nat} {o : Oper} {oi : OpI} {Fr : Nat} {R : Recs} (ho : ops[i]? = some o) (hc : chkOpI P N ops o oi = true) (hg : ∀ t b, oi.guard = some (t, b) → t < N) (hst : ∀ x, c0 + 16 * i ≤ x → x < c0 + 16 * i + 16 → ¬ K.used x)
    {fr' : Frame} {σ' : Store} (h : evStep R Fr c0 i oi fr K.σ = some (fr', σ')) {Kont : Act → World → Prop}
    (hk : ∀ a' w' K', StR GP w' K' N ds a' fr' → Ext w K w' K' → K'.σ = σ' → (∀ x, K'.used x → K.used x ∨ (c0 + 16 * i ≤ x ∧ x < c0 + 16 * i + 16)) → Kont a' w') : wpOpIn F n P ops Q i Kont a w := by
  unfold chkOpI at hc
  simp only [Bool.and_eq_true, beq_iff_eq] at hc
  obtain ⟨⟨⟨hdst, hlt⟩, hguard⟩, hir⟩ := hc
  have hdl : ∀ t, oi.dst = some t → t < N := fun t ht => by rw [ht] at hlt; simpa using hlt
  have run : (evOp R Fr (c0 + 16 * i) fr oi.hide K.σ oi.op).map (fun x => (putD fr oi.dst x.1, x.2)) = some (fr', σ') → Region.wanted o (yielded ops a.tmps) = true → wpOpIn F n P ops Q i Kont a w := by
    intro h1 hw
    obtain ⟨⟨d, σ2⟩, e1, e2⟩ := Option.map_eq_some_iff.1 h1
    simp only [Prod.mk.injEq] at e2
    obtain ⟨rfl, rfl⟩ := e2
    obtain ⟨v, w', K', r1, r2, r3, r4, r5, r6⟩ := op_sound hS.inv hS.old hS.frame (hst _ (Nat.le_refl _) (by omega)) hir e1
    unfold wpOpIn
    rw [ho]
    simp only [hw, if_true]
    refine uponIn_of_runs r1 hF (no_defer hir) ?_
    rw [hdst]
    exact hk _ _ K' (hS.put r2 r3 r5 hdl) r2 r4 r6
  have skip : some (putD fr oi.dst (.tup []), K.σ) = some (fr', σ') → Region.wanted o (yielded ops a.tmps) = false → wpOpIn F n P ops Q i Kont a w := by
    intro h1 hw
    simp only [Option.some.injEq, Prod.mk.injEq] at h1
    obtain ⟨rfl, rfl⟩ := h1
    unfold wpOpIn
    rw [ho]
    simp only [hw, Bool.false_eq_true, if_false]
    refine ⟨fun f _ => hF.fn f, ?_⟩
    rw [hdst]
    exact hk _ _ K (hS.put (.refl _ _) hS.inv (.tup _ _ rfl (fun i h => absurd h (by simp))) hdl) (.refl _ _) rfl (fun _ h => .inl h)
  unfold evStep at h
  unfold chkGuard at hguard
  split at h
  · rename_i hgn
    split at hguard
    · rename_i hon _
      exact run h (by unfold Region.wanted; rw [hon])
    · rename_i h2; rw [hgn] at h2; cases h2
    · cases hguard
  · rename_i t b hgs
    split at hguard
    · rename_i h2; rw [hgs] at h2; cases h2
    · rename_i j b0 t' b' hon h2
      rw [hgs] at h2
      simp only [Option.some.injEq, Prod.mk.injEq] at h2
      obtain ⟨rfl, rfl⟩ := h2
      simp only [Bool.and_eq_true, beq_iff_eq] at hguard
      obtain ⟨rfl, hj⟩ := hguard
      obtain ⟨w1, w2⟩ := wanted_of (ops := ops) hS hon hj (hg _ _ hgs)
      split at h
      · rename_i c hcv
        split at h
        · rename_i hcb
          exact run h (by rw [w1 c hcv, hcb]; simp)
        · rename_i hcb
          exact skip h (by rw [w1 c hcv]; simpa using hcb)
      · rename_i hcv
        exact skip h (w2 hcv)
      · cases h
    · cases hguard
end
end Go.Ev
