/- A part of an evaluator of closed runs, and of the proof that what it answers holds of the model. No conditions. -/
import Derived.Test.YtfhakpnfmomaaaaGreatDoorEvImp2
namespace Go.Ev
open Go

/-- A function that has a text, and is entered when it is called. -/
def FnRuns (P : Program) (g : Nat) : Prop := ∀ args w, (callFunc g args).run P w = .ok (.enter g args) w

/-- Memory grew, and what was there is as it was. -/
structure Grown (w w' : World) : Prop where
  size : w.heap.size ≤ w'.heap.size
  os : w'.os = w.os
  tape : w'.tape = w.tape
  output : w'.output = w.output
  heap : ∀ k, k < w.heap.size → w'.heap[k]? = w.heap[k]?

/-- The empty store, where some is forbidden. -/
def Ctx.start (X : Nat → Nat → Prop) (XM : Nat → Prop) (G : Nat → Option Value) : Ctx := ⟨Store.nil, fun _ => none, fun _ => 0, fun _ _ => 0, fun _ => False, X, XM, G⟩

def LRep (w : World) (K : Ctx) (vs : List Value) (ds : List DV) : Prop := vs.length = ds.length ∧ ∀ i, i < ds.length → RepD w K (vs.getD i undef) (ds.getD i .undef)
theorem LRep.append {w : World} {K : Ctx} {a b : List Value} {x y : List DV} (h : LRep w K a x) (k : LRep w K b y) : LRep w K (a ++ b) (x ++ y) := by
  refine ⟨by rw [List.length_append, List.length_append, h.1, k.1], fun i hi => ?_⟩
  rw [List.length_append] at hi
  by_cases hx : i < x.length
  · have h2 : i < a.length := by rw [h.1]; exact hx
    have e1 : (a ++ b).getD i undef = a.getD i undef := by simp only [List.getD_eq_getElem?_getD, List.getElem?_append_left h2]
    have e2 : (x ++ y).getD i .undef = x.getD i .undef := by simp only [List.getD_eq_getElem?_getD, List.getElem?_append_left hx]
    rw [e1, e2]
    exact h.2 i hx
  · have h2 : a.length ≤ i := by rw [h.1]; omega
    have e1 : (a ++ b).getD i undef = b.getD (i - a.length) undef := by simp only [List.getD_eq_getElem?_getD, List.getElem?_append_right h2]
    have e2 : (x ++ y).getD i .undef = y.getD (i - x.length) .undef := by simp only [List.getD_eq_getElem?_getD, List.getElem?_append_right (by omega : x.length ≤ i)]
    rw [e1, e2, h.1]
    exact k.2 (i - x.length) (by omega)

/-- WHAT IS TOLD OF A PURE CALL: own number f of a function, its arguments, what it hands back. -/
def PureC (GP : (Nat → Option Value) → Prop) (P : Program) (f : Nat) (as : List DV) (d : DV) : Prop :=
  FnRuns P (f % 65536) ∧ ∀ (F : Fence) (n : Nat) (w : World) (X : Nat → Nat → Prop) (XM : Nat → Prop) (G : Nat → Option Value) (vs : Array Value), GP G → Wide F → (∀ b o, X b o → b < w.heap.size) → (∀ b, XM b → b < w.heap.size) → LRep w (Ctx.start X XM G) vs.toList as →
    CallsIn F n P (f % 65536) vs w fun e w' => ∃ v I bs, e = .returned v ∧ Grown w w' ∧ RepXT w.heap.size w' I v d bs ∧ bs.Nodup ∧ (∀ b o, X b o → I.M b o) ∧ (∀ b, XM b → I.MM b) ∧ I.G = G

/-- WHAT IS TOLD OF A CALL BY REFERENCE. -/
def RefC (GP : (Nat → Option Value) → Prop) (P : Program) (f : Nat) (as : List DV) (σ : Store) (d : DV) (σ' : Store) : Prop :=
  FnRuns P (f % 65536) ∧ ∀ (F : Fence) (n : Nat) (w : World) (K : Ctx) (vs : Array Value), GP K.G → Wide F → SInv w K → Old w K → K.σ = σ → (∀ x, K.used x → x < σ.c) → LRep w K vs.toList as →
    CallsIn F n P (f % 65536) vs w fun e w' => ∃ v K', e = .returned v ∧ Ext w K w' K' ∧ SInv w' K' ∧ K'.σ = σ' ∧ RepD w' K' v d ∧ σ.c ≤ σ'.c ∧ ∀ x, K'.used x → K.used x ∨ (σ.c ≤ x ∧ x < σ'.c)

theorem impC_c {F : Nat} {s : Bool} {d : DV} {ss : Sites} {st : Nat} {σ : Store} {x : DV × Sites × Nat × Store} (h : impC F s d ss st σ = some x) : x.2.2.2.c = σ.c ∧ x.2.2.2.nf = σ.nf := by
  unfold impC at h
  repeat' split at h
  all_goals
    simp only [Option.some.injEq] at h
    subst h
    exact ⟨rfl, rfl⟩
theorem impL_c {F : Nat} : ∀ {ds : List DV} {ss : Sites} {st : Nat} {σ : Store} {x : List DV × Sites × Nat × Store}, impL F ds ss st σ = some x → x.2.2.2.c = σ.c ∧ x.2.2.2.nf = σ.nf
  | [], _, _, _, _, h => by simp only [impL, Option.some.injEq] at h; subst h; exact ⟨rfl, rfl⟩
  | d :: ds, _, _, _, _, h => by
    simp only [impL] at h
    split at h
    · rename_i e1
      split at h
      · rename_i e2
        simp only [Option.some.injEq] at h
        subst h
        have h1 := impC_c e1
        have h2 := impL_c e2
        exact ⟨h2.1.trans h1.1, h2.2.trans h1.2⟩
      · cases h
    · cases h
theorem impV_c {F : Nat} {d : DV} {ss : Sites} {st : Nat} {σ : Store} {x : DV × Sites × Nat × Store} (h : impV F d ss st σ = some x) : x.2.2.2.c = σ.c ∧ x.2.2.2.nf = σ.nf := by
  unfold impV at h
  split at h
  · obtain ⟨y, h1, h2⟩ := Option.map_eq_some_iff.1 h
    subst h2
    exact impL_c h1
  · exact impC_c h
theorem impVs_c {F : Nat} : ∀ {ds : List DV} {ss : Sites} {st : Nat} {σ : Store} {x : List DV × Sites × Nat × Store}, impVs F ds ss st σ = some x → x.2.2.2.c = σ.c ∧ x.2.2.2.nf = σ.nf
  | [], _, _, _, _, h => by simp only [impVs, Option.some.injEq] at h; subst h; exact ⟨rfl, rfl⟩
  | d :: ds, _, _, _, _, h => by
    simp only [impVs] at h
    split at h
    · rename_i e1
      split at h
      · rename_i e2
        simp only [Option.some.injEq] at h
        subst h
        have h1 := impV_c e1
        have h2 := impVs_c e2
        exact ⟨h2.1.trans h1.1, h2.2.trans h1.2⟩
      · cases h
    · cases h
theorem importD_c {F : Nat} {d d' : DV} {ss : Sites} {st : Nat} {σ σ' : Store} (h : importD F d ss st σ = some (d', σ')) : σ'.c = σ.c ∧ σ'.nf = σ.nf := by
  unfold importD at h
  split at h <;> obtain ⟨y, h1, h2⟩ := Option.map_eq_some_iff.1 h <;> simp only [Prod.mk.injEq] at h2 <;> obtain ⟨_, rfl⟩ := h2
  · exact impVs_c h1
  · exact impC_c h1
  · exact impV_c h1

theorem frz1_keeps {σ : Store} {r x : Ref} {o : Ob} (h : σ.obj.get x = some o) : ∃ o', (frz1 σ r).obj.get x = some o' := by
  have go : ∀ o1, σ.obj.get r = some o1 → ∃ o', (σ.set r o1.frz).obj.get x = some o' := by
    intro o1 h1
    by_cases hx : x.f = r.f ∧ x.s = r.s
    · have e1 := get_spec.1 h
      have e2 := get_spec.1 h1
      rw [hx.1, hx.2, e2] at e1
      simp only [Option.some.injEq, Prod.mk.injEq] at e1
      refine ⟨o1.frz, get_spec.2 ?_⟩
      simp [Store.set, Store.put, hx.1, hx.2, e1.1]
    · refine ⟨o, get_spec.2 ?_⟩
      have e1 := get_spec.1 h
      simp only [Store.set, Store.put]
      by_cases h3 : x.f = r.f
      · have h4 : ¬ x.s = r.s := fun e => hx ⟨h3, e⟩
        rw [if_pos h3, if_neg h4]; exact e1
      · rw [if_neg h3]; exact e1
  unfold frz1
  cases hg : σ.obj.get r with
  | none => exact ⟨o, h⟩
  | some o1 =>
    have := go o1 hg
    cases o1 <;> exact this
theorem freezeAll_keeps : ∀ {l : List Ref} {σ : Store} {x : Ref} {o : Ob}, σ.obj.get x = some o → ∃ o', (freezeAll σ l).obj.get x = some o'
  | [], _, _, o, h => ⟨o, h⟩
  | r :: l, σ, x, o, h => by
    rw [freezeAll_cons]
    obtain ⟨o', h'⟩ := frz1_keeps (r := r) h
    exact freezeAll_keeps h'

section
variable {GP : (Nat → Option Value) → Prop} {P : Program} {F : Fence} {n : Nat} {Q : Exit → Act → World → Prop} {w : World} {K : Ctx} {a : Act} {o : Oper} {R : Recs} {Fr st : Nat}

theorem wpIn_call {g : Nat} {vs : Array Value} {next : Act → World → Prop} (hF : Wide F) (hrun : (execOp a.eval o).run P w = .ok (.enter g vs) w) (hd : ∀ c, o.op ≠ .defer c)
    (h : CallsIn F (n - 1) P g vs w fun e w' => ∃ v, e = .returned v ∧ next (a.put o.dst v) w') : o.wpIn F n P a w next Q := by
  refine ⟨fun f _ => hF.fn f, ?_⟩
  rw [Oper.semAt_eq _ _ _ hd, hrun]
  refine ⟨fun hs => (by rw [hF.depth] at hs; cases hs), h.mono ?_⟩
  rintro e w' ⟨v, rfl, hv⟩
  exact hv

/-- A PURE CALL. -/
theorem core_pure (hF : Wide F) (hi : SInv w K) (ho : Old w K) (hgp : GP K.G) (hpure : ∀ f as d, R.pure f as = some d → PureC GP P f as d) (hd : ∀ c, o.op ≠ .defer c) {f : Nat} {args : List DV} {vs : Array Value} (hargs : LRep w K vs.toList args)
    (hrun : FnRuns P (f % 65536) → (execOp a.eval o).run P w = .ok (.enter (f % 65536) vs) w) {hide : List Nat} {ss : Sites} (hss : ss.length ≤ 16) (hst : ∀ x, st ≤ x → x < st + 16 → ¬ K.used x) {d' : DV} {σ' : Store}
    (h : pureCall R Fr st hide (K.σ.obj.hide Fr hide) K.σ f args ss = some (d', σ')) {next : Act → World → Prop}
    (hk : ∀ v w' K', Ext w K w' K' → SInv w' K' → K'.σ = σ' → RepD w' K' v d' → (∀ x, K'.used x → K.used x ∨ (st ≤ x ∧ x < st + 16)) → σ'.c = K.σ.c → next (a.put o.dst v) w') : o.wpIn F n P a w next Q := by
  unfold pureCall at h
  split at h
  · rename_i as has
    split at h
    · rename_i d hpd
      obtain ⟨l, hl⟩ : ∃ l, l = args.flatMap (reach (K.σ.obj.hide Fr hide) 10) := ⟨_, rfl⟩
      obtain ⟨hxf, hif⟩ := freeze_ext hi l
      have hof : Old w (K.freeze l) := ho.ext hxf
      have hMf : ∀ b q, (K.freeze l).M b q → K.M b q := fun b q hm => hxf.fresh b q (M_lt hif hof hm) hm
      have hMMlt : ∀ b, (K.freeze l).MM b → b < w.heap.size := by
        rintro b (⟨f', s', x, es, h1, h2⟩ | h1)
        · exact hif.live_lt (.inl ⟨_, _, _, h1⟩) h2
        · exact hof.XM _ h1
      have hMMf : ∀ b, (K.freeze l).MM b → K.MM b := fun b hm => hxf.freshM b (hMMlt b hm) hm
      have hok : ∀ r ∈ l, RefOK K (K.freeze l).M (K.freeze l).MM r := by
        intro r hr o b hg hb
        obtain ⟨o', ho'⟩ := freezeAll_keeps (l := l) hg
        exact freeze_ok hi l r hr o' b ho' hb
      obtain ⟨hfr, hcall⟩ := hpure f as d hpd
      have hro : ∀ r o, (K.σ.obj.hide Fr hide).get r = some o → K.σ.obj.get r = some o := fun r o h => hide_less _ _ _ _ _ h
      refine wpIn_call hF (hrun hfr) hd ((hcall F (n - 1) w (K.freeze l).M (K.freeze l).MM K.G vs hgp hF (fun b q hm => M_lt hif hof hm) hMMlt ?_).mono ?_)
      · obtain ⟨m1, m2⟩ := mapO_get has DV.undef DV.undef
        refine ⟨hargs.1.trans m1, fun i hi' => ?_⟩
        refine deepA_sound hi hro hMf hMMf (hargs.2 i (by omega)) (m2 i hi') (fun r hr => hok r ?_) _ ?_
        · rw [hl]
          exact List.mem_flatMap.2 ⟨_, by rw [List.getD_eq_getElem?_getD, List.getElem?_eq_getElem (by omega : i < args.length)]; exact List.getElem_mem _, hr⟩
        · have e : (Ctx.start (K.freeze l).M (K.freeze l).MM K.G).M = (K.freeze l).M := by
            funext b q
            apply propext
            constructor
            · rintro (⟨_, _, _, _, _, h, _⟩ | ⟨_, _, _, _, _, h, _⟩ | h)
              · cases h
              · cases h
              · exact h
            · exact fun h => .inr (.inr h)
          have e2 : (Ctx.start (K.freeze l).M (K.freeze l).MM K.G).MM = (K.freeze l).MM := by
            funext b
            apply propext
            constructor
            · rintro (⟨_, _, _, _, h, _⟩ | h)
              · cases h
              · exact h
            · exact fun h => .inr h
          unfold Ctx.im
          rw [e, e2]; rfl
      · rintro e w' ⟨v, I, bs, rfl, hg, hrep, hnd, hX, hXM, hG⟩
        refine ⟨v, rfl, ?_⟩
        by_cases hsc : scalarR d = true
        · rw [if_pos hsc] at h
          obtain ⟨K', k1, k2, k3, k4, k5⟩ := import_sound hi ho hg.size hg.os hg.tape hg.output hg.heap hG.symm hrep hnd (.inr hsc) hss hst h
          exact hk v w' K' k2 k3 k1 k4 k5 (importD_c h).1
        · rw [if_neg hsc, ← hl] at h
          split at h
          · cases h
          obtain ⟨K', k1, k2, k3, k4, k5⟩ := import_sound (K := K.freeze l) hif hof hg.size hg.os hg.tape hg.output hg.heap hG.symm hrep hnd (.inl ⟨hX, hXM⟩) hss hst h
          refine hk v w' K' (hxf.trans k2) k3 k1 k4 k5 ?_
          rw [(importD_c h).1, (freezeAll_spec l K.σ).2.2.1]
    · cases h
  · cases h

/-- A CALL BY REFERENCE. -/
theorem core_ref (hF : Wide F) (hi : SInv w K) (ho : Old w K) (hgp : GP K.G) (href : ∀ f as σ d σ', R.ref f as σ = some (d, σ') → RefC GP P f as σ d σ') (hd : ∀ c, o.op ≠ .defer c) {f : Nat} {args : List DV} {vs : Array Value} (hargs : LRep w K vs.toList args)
    (hrun : FnRuns P (f % 65536) → (execOp a.eval o).run P w = .ok (.enter (f % 65536) vs) w) (hcnt : ∀ x, K.used x → x < K.σ.c) {d' : DV} {σ' : Store} (h : R.ref f args K.σ = some (d', σ')) {next : Act → World → Prop}
    (hk : ∀ v w' K', Ext w K w' K' → SInv w' K' → K'.σ = σ' → RepD w' K' v d' → (∀ x, K'.used x → K.used x ∨ (K.σ.c ≤ x ∧ x < σ'.c)) → K.σ.c ≤ σ'.c → next (a.put o.dst v) w') : o.wpIn F n P a w next Q := by
  obtain ⟨hfr, hcall⟩ := href f args K.σ d' σ' h
  refine wpIn_call hF (hrun hfr) hd ((hcall F (n - 1) w K vs hgp hF hi ho rfl hcnt hargs).mono ?_)
  rintro e w' ⟨v, K', rfl, k1, k2, k3, k4, k5, k6⟩
  exact ⟨v, rfl, hk v w' K' k1 k2 k3 k4 k6 k5⟩
end
end Go.Ev
