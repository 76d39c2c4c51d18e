/- A part of an evaluator of closed runs, and of the proof that what it answers holds of the model. No conditions. -/
import Derived.Test.YtfhakpnfmomaaaaGreatDoorEvCall
namespace Go.Ev
open Go

/-! ### Objects that are written no more -/
def Ob.frz : Ob → Ob
  | .arr sz rows _ => .arr sz rows false
  | .map es _ => .map es false
def Ob.mu : Ob → Bool
  | .arr _ _ m => m
  | .map _ m => m
theorem frz_shape (o : Ob) : sameShape o o.frz := by cases o <;> simp [sameShape, Ob.frz]
theorem frz_rep {w : World} {K : Ctx} {st : Nat} {o : Ob} (h : ObRep w K st o) : ObRep w K st o.frz := by cases o <;> exact h
theorem frz_mlen (o : Ob) : o.frz.mlen = o.mlen := by cases o <;> rfl

/-- The store with some objects frozen. -/
structure Frozen (K K' : Ctx) : Prop where
  obj : ∀ f s st o', K'.σ.obj f s = some (st, o') → ∃ o, K.σ.obj f s = some (st, o) ∧ (o' = o ∨ o' = o.frz)
  tok : K'.σ.tok = K.σ.tok
  ι : K'.ι = K.ι
  κ : K'.κ = K.κ
  bn : K'.bn = K.bn
  used : K'.used = K.used
  X : K'.X = K.X
  XM : K'.XM = K.XM
  G : K'.G = K.G

theorem frozen_ext {w : World} {K K' : Ctx} (hi : SInv w K) (h : Frozen K K') : Ext w K w K' ∧ SInv w K' := by
  have hM : ∀ b o', K'.M b o' → K.M b o' := by
    rintro b o' (⟨f', s', st', sz, rows, h1, h2⟩ | ⟨f', s', st', sz, n, h1, h2, h3⟩ | h1)
    · obtain ⟨o, h3, h4⟩ := h.obj _ _ _ _ h1
      rcases h4 with rfl | h4
      · exact .inl ⟨_, _, _, _, _, h3, by rw [← h.ι]; exact h2⟩
      · cases o <;> simp [Ob.frz] at h4
    · exact .inr (.inl ⟨_, _, _, _, _, by rw [← h.tok]; exact h1, by rw [← h.ι]; exact h2, h3⟩)
    · exact .inr (.inr (by rw [← h.X]; exact h1))
  have hMM : ∀ b, K'.MM b → K.MM b := by
    rintro b (⟨f', s', st', es, h1, h2⟩ | h1)
    · obtain ⟨o, h3, h4⟩ := h.obj _ _ _ _ h1
      rcases h4 with rfl | h4
      · exact .inl ⟨_, _, _, _, h3, by rw [← h.ι]; exact h2⟩
      · cases o <;> simp [Ob.frz] at h4
    · exact .inr (by rw [← h.XM]; exact h1)
  have hlive : ∀ {x}, Live K' x → Live K x := by
    rintro x (⟨f', s', o', h1⟩ | ⟨f', s', sz, n, h1⟩)
    · obtain ⟨o, h3, _⟩ := h.obj _ _ _ _ h1
      exact .inl ⟨_, _, _, h3⟩
    · exact .inr ⟨_, _, _, _, by rw [← h.tok]; exact h1⟩
  have hx : Ext w K w K' := by
    refine ⟨Nat.le_refl _, rfl, rfl, rfl, ⟨fun b o v h1 h2 => ⟨h1, fun h => h2 (hM _ _ h)⟩, fun r es c h1 h2 => ⟨h1, fun h => h2 (hMM _ h)⟩, h.G⟩, h.X, h.XM, fun st hu => by rw [h.used]; exact hu, ?_, ?_, fun _ _ _ => rfl, ?_, fun b o _ h => hM b o h, fun b _ h => hMM b h⟩
    · intro r o' _ h1
      obtain ⟨o, h3, h4⟩ := h.obj _ _ _ _ (get_spec.1 h1)
      refine ⟨o, get_spec.2 h3, ?_, by rw [h.ι], by rw [h.κ], fun _ _ => by rw [h.bn]⟩
      rcases h4 with rfl | rfl
      · exact .refl _
      · exact frz_shape _
    · rintro b _ ⟨x, hl, h2⟩
      rw [h.ι] at h2
      exact ⟨x, hlive hl, h2⟩
    · intro r sz n' _ h1
      exact ⟨n', right_spec.2 (by have := right_spec.1 h1; rwa [h.tok] at this), Nat.le_refl _, fun _ => ⟨by rw [h.ι], by rw [h.κ]⟩⟩
  refine ⟨hx, ⟨?_, ?_, ?_, ?_, ?_, ?_, ?_⟩⟩
  · intro f s st o' h1
    obtain ⟨o, h3, h4⟩ := h.obj _ _ _ _ h1
    obtain ⟨h5, h6⟩ := hi.obj _ _ _ _ h3
    have h7 : ObRep w K' st o := h6.ext hx (by rw [h.ι]) (by rw [h.κ]) (fun _ _ => by rw [h.bn]) (fun _ _ => rfl)
    refine ⟨by rw [h.used]; exact h5, ?_⟩
    rcases h4 with rfl | rfl
    · exact h7
    · exact frz_rep h7
  · intro f s st sz n h1
    rw [h.tok] at h1
    rw [h.used, h.ι, h.κ]
    exact hi.tok _ _ _ _ _ h1
  · intro f s f' s' st o o' h1 h2
    obtain ⟨_, h3, _⟩ := h.obj _ _ _ _ h1
    obtain ⟨_, h4, _⟩ := h.obj _ _ _ _ h2
    exact hi.oo _ _ _ _ _ _ _ h3 h4
  · intro f s f' s' st a a' h1 h2
    rw [h.tok] at h1 h2
    exact hi.tt _ _ _ _ _ _ _ h1 h2
  · intro f s f' s' st o a h1 h2
    obtain ⟨_, h3, _⟩ := h.obj _ _ _ _ h1
    rw [h.tok] at h2
    exact hi.ot _ _ _ _ _ _ _ h3 h2
  · intro a b c l1 l2 h1 h2
    rw [h.ι] at h1 h2
    exact hi.inj _ _ _ (hlive l1) (hlive l2) h1 h2
  · intro a b c l h1
    rw [h.ι] at h1; rw [h.X, h.XM]
    exact hi.X _ _ _ (hlive l) h1

/-- One object frozen. -/
def frz1 (σ : Store) (r : Ref) : Store :=
  match σ.obj.get r with
  | some (.arr sz rows _) => σ.set r (.arr sz rows false)
  | some (.map es _) => σ.set r (.map es false)
  | none => σ
theorem freezeAll_cons (σ : Store) (r : Ref) (l : List Ref) : freezeAll σ (r :: l) = freezeAll (frz1 σ r) l := rfl
theorem frz1_spec (σ : Store) (r : Ref) : (∀ f s st o', (frz1 σ r).obj f s = some (st, o') → ∃ o, σ.obj f s = some (st, o) ∧ (o' = o ∨ o' = o.frz)) ∧ (frz1 σ r).tok = σ.tok ∧ (frz1 σ r).c = σ.c ∧ (frz1 σ r).nf = σ.nf ∧
    (∀ o, (frz1 σ r).obj.get r = some o → o.mu = false) := by
  unfold frz1
  have go : ∀ (o : Ob), σ.obj.get r = some o → (∀ f s st o', (σ.set r o.frz).obj f s = some (st, o') → ∃ o, σ.obj f s = some (st, o) ∧ (o' = o ∨ o' = o.frz)) ∧ (∀ o', (σ.set r o.frz).obj.get r = some o' → o'.mu = false) := by
    intro o hg
    have hg' := get_spec.1 hg
    refine ⟨fun f s st o' h => ?_, fun o' h => ?_⟩
    · rcases put_obj h with ⟨h1, h2, h3⟩ | ⟨_, h3⟩
      · simp only [Option.some.injEq, Prod.mk.injEq] at h3
        obtain ⟨rfl, rfl⟩ := h3
        exact ⟨o, by rw [h1, h2]; exact hg', .inr rfl⟩
      · exact ⟨o', h3, .inl rfl⟩
    · rcases put_obj (get_spec.1 h) with ⟨_, _, h3⟩ | ⟨h1, _⟩
      · simp only [Option.some.injEq, Prod.mk.injEq, true_and] at h3
        rw [← h3]; cases o <;> rfl
      · exact absurd ⟨rfl, rfl⟩ h1
  cases hg : σ.obj.get r with
  | none => exact ⟨fun f s st o' h => ⟨o', h, .inl rfl⟩, rfl, rfl, rfl, fun o h => by rw [hg] at h; cases h⟩
  | some o =>
    obtain ⟨h1, h2⟩ := go o hg
    cases o with
    | arr sz rows m => exact ⟨h1, rfl, rfl, rfl, h2⟩
    | map es m => exact ⟨h1, rfl, rfl, rfl, h2⟩
theorem freezeAll_spec : ∀ (l : List Ref) (σ : Store), (∀ f s st o', (freezeAll σ l).obj f s = some (st, o') → ∃ o, σ.obj f s = some (st, o) ∧ (o' = o ∨ o' = o.frz)) ∧ (freezeAll σ l).tok = σ.tok ∧ (freezeAll σ l).c = σ.c ∧ (freezeAll σ l).nf = σ.nf ∧
    ∀ r ∈ l, ∀ o, (freezeAll σ l).obj.get r = some o → o.mu = false
  | [], σ => ⟨fun f s st o' h => ⟨o', h, .inl rfl⟩, rfl, rfl, rfl, fun r hr => absurd hr (by simp)⟩
  | r :: l, σ => by
    obtain ⟨a1, a2, a3, a4, a5⟩ := frz1_spec σ r
    obtain ⟨b1, b2, b3, b4, b5⟩ := freezeAll_spec l (frz1 σ r)
    rw [freezeAll_cons]
    refine ⟨fun f s st o' h => ?_, b2.trans a2, b3.trans a3, b4.trans a4, fun x hx o h => ?_⟩
    · obtain ⟨o1, h1, h2⟩ := b1 _ _ _ _ h
      obtain ⟨o2, h3, h4⟩ := a1 _ _ _ _ h1
      refine ⟨o2, h3, ?_⟩
      rcases h2 with rfl | rfl <;> rcases h4 with rfl | rfl
      · exact .inl rfl
      · exact .inr rfl
      · exact .inr rfl
      · exact .inr (by cases o2 <;> rfl)
    · rcases List.mem_cons.1 hx with rfl | hx
      · obtain ⟨o1, h1, h2⟩ := b1 _ _ _ _ (get_spec.1 h)
        have := a5 o1 (get_spec.2 h1)
        rcases h2 with rfl | rfl
        · exact this
        · cases o1 <;> rfl
      · exact b5 x hx o h

def Ctx.freeze (K : Ctx) (l : List Ref) : Ctx := { K with σ := freezeAll K.σ l }
theorem freeze_ext {w : World} {K : Ctx} (hi : SInv w K) (l : List Ref) : Ext w K w (K.freeze l) ∧ SInv w (K.freeze l) := by
  obtain ⟨h1, h2, _⟩ := freezeAll_spec l K.σ
  exact frozen_ext hi ⟨h1, h2, rfl, rfl, rfl, rfl, rfl, rfl, rfl⟩
theorem freeze_ok {w : World} {K : Ctx} (hi : SInv w K) (l : List Ref) : ∀ r ∈ l, RefOK (K.freeze l) (K.freeze l).M (K.freeze l).MM r := by
  obtain ⟨hx, hi'⟩ := freeze_ext hi l
  obtain ⟨h1, h2, _, _, h5⟩ := freezeAll_spec l K.σ
  intro r hr o b hg hb
  have hmu := h5 r hr o hg
  have hl : Live (K.freeze l) r.st := .inl ⟨_, _, _, get_spec.1 hg⟩
  have obj1 : ∀ f s st o', (K.freeze l).σ.obj f s = some (st, o') → (K.freeze l).ι st = some b → o'.mu = false := by
    intro f s st o' h3 h4
    have := hi'.inj _ _ _ (.inl ⟨_, _, _, h3⟩) hl h4 hb
    subst this
    obtain ⟨e1, e2⟩ := hi'.oo _ _ _ _ _ _ _ h3 (get_spec.1 hg)
    subst e1; subst e2
    have := h3.symm.trans (get_spec.1 hg)
    simp only [Option.some.injEq, Prod.mk.injEq, true_and] at this
    rw [this]; exact hmu
  refine ⟨fun q => ?_, ?_⟩
  · rintro (⟨f', s', st', sz, rows, h3, h4⟩ | ⟨f', s', st', sz, n, h3, h4, _⟩ | h3)
    · have := obj1 _ _ _ _ h3 h4; cases this
    · have := hi'.inj _ _ _ (.inr ⟨_, _, _, _, h3⟩) hl h4 hb
      subst this
      exact hi'.ot _ _ _ _ _ _ _ (get_spec.1 hg) h3
    · exact (hi'.X _ _ q hl hb).1 h3
  · rintro (⟨f', s', st', es, h3, h4⟩ | h3)
    · have := obj1 _ _ _ _ h3 h4; cases this
    · exact (hi'.X _ _ 0 hl hb).2 h3

/-! ### A right behind a call -/
theorem add_tok {w w1 : World} {K Kj : Ctx} (hi : SInv w K) (ho : Old w K) (hx : Ext w K w1 Kj) (hj : SInv w1 Kj) (hobj : Kj.σ.obj = K.σ.obj) (hh : ∀ k, k < w.heap.size → w1.heap[k]? = w.heap[k]?) (f s st sz n cap : Nat) (hst : ¬ Kj.used st) (b : Option Nat)
    (hb : (b = none ∧ n = 0) ∨ ∃ b' cs e, b = some b' ∧ w.heap.size ≤ b' ∧ ¬ Kj.LB b' ∧ w1.heap[b']? = some (.cells cs e (0, 0)) ∧ cs.size = cap * sz ∧ n ≤ cap) :
    Ext w K w1 (Kj.newTok f s st sz n b cap) ∧ SInv w1 (Kj.newTok f s st sz n b cap) := by
  have hne : ∀ {st'}, Kj.used st' → st' ≠ st := fun h e => hst (e ▸ h)
  have hbl : ∀ b', b = some b' → w.heap.size ≤ b' ∧ ¬ Kj.LB b' := by
    rintro b' rfl
    rcases hb with ⟨h, _⟩ | ⟨b'', cs, e, h, h2, h3, _⟩
    · cases h
    · cases h; exact ⟨h2, h3⟩
  have hM : ∀ b' o', b' < w.heap.size → (Kj.newTok f s st sz n b cap).M b' o' → K.M b' o' := by
    rintro b' o' hb' (⟨f', s', st', sz', rows, h1, h2⟩ | ⟨f', s', st', sz', n', h1, h2, h3⟩ | h1)
    · have := hne (hj.obj _ _ _ _ h1).1
      simp only [Ctx.newTok, this, if_false] at h2
      exact hx.fresh _ _ hb' (.inl ⟨_, _, _, _, _, h1, h2⟩)
    · rcases put_tok h1 with ⟨_, _, h⟩ | ⟨_, h⟩
      · simp only [Option.some.injEq, Prod.mk.injEq] at h
        obtain ⟨rfl, rfl, rfl⟩ := h
        simp only [Ctx.newTok, if_true] at h2
        have := (hbl _ h2).1
        omega
      · have := hne (hj.tok _ _ _ _ _ h).1
        simp only [Ctx.newTok, this, if_false] at h2
        exact hx.fresh _ _ hb' (.inr (.inl ⟨_, _, _, _, _, h, h2, h3⟩))
    · exact hx.fresh _ _ hb' (.inr (.inr h1))
  have hMM : ∀ b', b' < w.heap.size → (Kj.newTok f s st sz n b cap).MM b' → K.MM b' := by
    rintro b' hb' (⟨f', s', st', es, h1, h2⟩ | h1)
    · have := hne (hj.obj _ _ _ _ h1).1
      simp only [Ctx.newTok, this, if_false] at h2
      exact hx.freshM _ hb' (.inl ⟨_, _, _, _, h1, h2⟩)
    · exact hx.freshM _ hb' (.inr h1)
  have hx' : Ext w K w1 (Kj.newTok f s st sz n b cap) := by
    refine ⟨hx.size, hx.os, hx.tape, hx.output, ⟨?_, ?_, hx.keep.G⟩, hx.X, hx.XM, fun x h => .inr (hx.used x h), ?_, ?_, fun b hb _ => hh b hb, ?_, hM, hMM⟩
    · intro b' o' v h1 h2
      have hb' := cell_lt h1
      exact ⟨(cell_of_heap (hh _ hb') o').trans h1, fun h => h2 (hM b' o' hb' h)⟩
    · intro r es c h1 h2
      have hb' := block_lt h1
      exact ⟨(hh _ hb').trans h1, fun h => h2 (hMM r hb' h)⟩
    · intro r o' hu h1
      obtain ⟨o, e1, e2, e3, e4, e5⟩ := hx.obj r o' hu h1
      have := hne (hx.used _ hu)
      exact ⟨o, e1, e2, by simpa [Ctx.newTok, this] using e3, by simpa [Ctx.newTok, this] using e4, e5⟩
    · rintro b' hb' ⟨x, hl, h2⟩
      rcases hl with ⟨f', s', o', h1⟩ | ⟨f', s', sz', n', h1⟩
      · have := hne (hj.obj _ _ _ _ h1).1
        simp only [Ctx.newTok, this, if_false] at h2
        exact hx.live _ hb' ⟨x, .inl ⟨_, _, _, h1⟩, h2⟩
      · rcases put_tok h1 with ⟨_, _, h⟩ | ⟨_, h⟩
        · simp only [Option.some.injEq, Prod.mk.injEq] at h
          obtain ⟨rfl, rfl, rfl⟩ := h
          simp only [Ctx.newTok, if_true] at h2
          have := (hbl _ h2).1
          omega
        · have := hne (hj.tok _ _ _ _ _ h).1
          simp only [Ctx.newTok, this, if_false] at h2
          exact hx.live _ hb' ⟨x, .inr ⟨_, _, _, _, h⟩, h2⟩
    · intro r sz' n' hu h1
      rw [right_spec] at h1
      have := hne (hx.used _ hu)
      rcases put_tok h1 with ⟨_, _, h⟩ | ⟨_, h⟩
      · simp only [Option.some.injEq, Prod.mk.injEq] at h
        exact absurd h.1.symm this
      · obtain ⟨m, e1, e2, e3⟩ := hx.tok r sz' n' hu (right_spec.2 h)
        exact ⟨m, e1, e2, fun e => ⟨by simpa [Ctx.newTok, this] using (e3 e).1, by simpa [Ctx.newTok, this] using (e3 e).2⟩⟩
  refine ⟨hx', ?_⟩
  have hlive : ∀ {x}, Live (Kj.newTok f s st sz n b cap) x → x = st ∨ (x ≠ st ∧ Live Kj x) := by
    rintro x (⟨f', s', o', h1⟩ | ⟨f', s', sz', n', h1⟩)
    · exact .inr ⟨hne (hj.obj _ _ _ _ h1).1, .inl ⟨_, _, _, h1⟩⟩
    · rcases put_tok h1 with ⟨_, _, h⟩ | ⟨_, h⟩
      · simp only [Option.some.injEq, Prod.mk.injEq] at h
        exact .inl h.1.symm
      · exact .inr ⟨hne (hj.tok _ _ _ _ _ h).1, .inr ⟨_, _, _, _, h⟩⟩
  refine ⟨?_, ?_, ?_, ?_, ?_, ?_, ?_⟩
  · intro f' s' st' o' h1
    obtain ⟨hu, _⟩ := hj.obj _ _ _ _ h1
    have h1' : K.σ.obj f' s' = some (st', o') := by rw [← hobj]; exact h1
    obtain ⟨hu', hr⟩ := hi.obj _ _ _ _ h1'
    obtain ⟨o, e1, e2, e3, e4, e5⟩ := hx'.obj ⟨f', s', st'⟩ o' hu' (get_spec.2 h1)
    have e6 := (get_spec.1 e1).symm.trans h1'
    simp only [Option.some.injEq, Prod.mk.injEq, true_and] at e6
    subst e6
    exact ⟨.inr hu, hr.ext hx' e3 e4 e5 (fun b' hb' => hh _ (hi.live_lt (.inl ⟨_, _, _, h1'⟩) hb'))⟩
  · intro f' s' st' sz' n' h1
    rcases put_tok h1 with ⟨_, _, h⟩ | ⟨_, h⟩
    · simp only [Option.some.injEq, Prod.mk.injEq] at h
      obtain ⟨rfl, rfl, rfl⟩ := h
      refine ⟨.inl rfl, ?_⟩
      rcases hb with ⟨rfl, h0⟩ | ⟨b', cs, e, rfl, h2, _, h3, h4, h5⟩
      · exact .inl ⟨by simp [Ctx.newTok], h0⟩
      · exact .inr ⟨b', cs, e, by simp [Ctx.newTok], h3, by simpa [Ctx.newTok] using h4, by simpa [Ctx.newTok] using h5⟩
    · obtain ⟨hu, hr⟩ := hj.tok _ _ _ _ _ h
      refine ⟨.inr hu, ?_⟩
      have hs := hne hu
      rcases hr with ⟨h2, h3⟩ | ⟨b', cs, e, h2, h3, h4, h5⟩
      · exact .inl ⟨by simp [Ctx.newTok, hs, h2], h3⟩
      · exact .inr ⟨b', cs, e, by simp [Ctx.newTok, hs, h2], h3, by simpa [Ctx.newTok, hs] using h4, by simpa [Ctx.newTok, hs] using h5⟩
  · exact hj.oo
  · intro f1 s1 f2 s2 st' o1 o2 h1 h2
    rcases put_tok h1 with ⟨a, b, h⟩ | ⟨_, h⟩ <;> rcases put_tok h2 with ⟨a', b', h'⟩ | ⟨_, h'⟩
    · exact ⟨a.trans a'.symm, b.trans b'.symm⟩
    · obtain ⟨x, y⟩ := o2
      simp only [Option.some.injEq, Prod.mk.injEq] at h; exact absurd h.1.symm (hne (hj.tok _ _ _ _ _ h').1)
    · obtain ⟨x, y⟩ := o1
      simp only [Option.some.injEq, Prod.mk.injEq] at h'; exact absurd h'.1.symm (hne (hj.tok _ _ _ _ _ h).1)
    · exact hj.tt _ _ _ _ _ _ _ h h'
  · intro f1 s1 f2 s2 st' o1 a h1 h2
    rcases put_tok h2 with ⟨_, _, h⟩ | ⟨_, h⟩
    · simp only [Option.some.injEq, Prod.mk.injEq] at h
      exact absurd h.1.symm (hne (hj.obj _ _ _ _ h1).1)
    · exact hj.ot _ _ _ _ _ _ _ h1 h
  · intro st1 st2 b' l1 l2 h1 h2
    rcases hlive l1 with e1 | ⟨n1, k1⟩ <;> rcases hlive l2 with e2 | ⟨n2, k2⟩
    · rw [e1, e2]
    · simp only [Ctx.newTok, e1, if_true, n2, if_false] at h1 h2
      exact absurd ⟨_, k2, h2⟩ (hbl _ h1).2
    · simp only [Ctx.newTok, e2, if_true, n1, if_false] at h1 h2
      exact absurd ⟨_, k1, h1⟩ (hbl _ h2).2
    · simp only [Ctx.newTok, n1, n2, if_false] at h1 h2
      exact hj.inj _ _ _ k1 k2 h1 h2
  · intro st' b' o' l h
    rcases hlive l with rfl | ⟨n1, l1⟩
    · simp only [Ctx.newTok, if_true] at h
      have := (hbl _ h).1
      refine ⟨fun hX => ?_, fun hX => ?_⟩
      · have h3 := ho.X b' o' (by rw [← hx.X]; exact hX); omega
      · have h3 := ho.XM b' (by rw [← hx.XM]; exact hX); omega
    · simp only [Ctx.newTok, n1, if_false] at h
      exact hj.X _ _ _ l1 h

/-- An object behind a call, at a block that lies there. -/
theorem adopt_obj {w w1 : World} {K : Ctx} (hi : SInv w K) (ho : Old w K) (hsz : w.heap.size ≤ w1.heap.size) (hos : w1.os = w.os) (hta : w1.tape = w.tape) (hou : w1.output = w.output) (hh : ∀ k, k < w.heap.size → w1.heap[k]? = w.heap[k]?)
    (f s st : Nat) (o : Ob) (b cap : Nat) (hlo : w.heap.size ≤ b) (hst : ¬ K.used st)
    (hrep : Ext w K w1 (K.newObj f s st o b cap) → ObRep w1 (K.newObj f s st o b cap) st o) :
    Ext w K w1 (K.newObj f s st o b cap) ∧ SInv w1 (K.newObj f s st o b cap) := by
  have hne : ∀ {st'}, K.used st' → st' ≠ st := fun h e => hst (e ▸ h)
  have hM : ∀ b' o', b' < w.heap.size → (K.newObj f s st o b cap).M b' o' → K.M b' o' := by
    rintro b' o' hb (⟨f', s', st', sz, rows, h1, h2⟩ | ⟨f', s', st', sz, n, h1, h2, h3⟩ | h1)
    · rcases put_obj h1 with ⟨_, _, h⟩ | ⟨_, h⟩
      · simp only [Option.some.injEq, Prod.mk.injEq] at h
        obtain ⟨rfl, rfl⟩ := h
        simp only [Ctx.newObj, if_true, Option.some.injEq] at h2
        omega
      · have := hne (hi.obj _ _ _ _ h).1
        simp only [Ctx.newObj, this, if_false] at h2
        exact .inl ⟨_, _, _, _, _, h, h2⟩
    · have hu := (hi.tok _ _ _ _ _ h1).1
      have := hne hu
      simp only [Ctx.newObj, this, if_false] at h2
      exact .inr (.inl ⟨_, _, _, _, _, h1, h2, h3⟩)
    · exact .inr (.inr h1)
  have hMM : ∀ b', b' < w.heap.size → (K.newObj f s st o b cap).MM b' → K.MM b' := by
    rintro b' hb (⟨f', s', st', es, h1, h2⟩ | h1)
    · rcases put_obj h1 with ⟨_, _, h⟩ | ⟨_, h⟩
      · simp only [Option.some.injEq, Prod.mk.injEq] at h
        obtain ⟨rfl, rfl⟩ := h
        simp only [Ctx.newObj, if_true, Option.some.injEq] at h2
        omega
      · have := hne (hi.obj _ _ _ _ h).1
        simp only [Ctx.newObj, this, if_false] at h2
        exact .inl ⟨_, _, _, _, h, h2⟩
    · exact .inr h1
  have hx : Ext w K w1 (K.newObj f s st o b cap) := by
    refine ⟨hsz, hos, hta, hou, ⟨?_, ?_, rfl⟩, rfl, rfl, fun x h => .inr h, ?_, ?_, fun b hb _ => hh b hb, ?_, hM, hMM⟩
    · intro b' o' v h1 h2
      have hb := cell_lt h1
      exact ⟨(cell_of_heap (hh _ hb) o').trans h1, fun h => h2 (hM b' o' hb h)⟩
    · intro r es c h1 h2
      have hb := block_lt h1
      exact ⟨(hh _ hb).trans h1, fun h => h2 (hMM r hb h)⟩
    · intro r o' hu h1
      rw [get_spec] at h1
      rcases put_obj h1 with ⟨_, _, h⟩ | ⟨_, h⟩
      · simp only [Option.some.injEq, Prod.mk.injEq] at h
        exact absurd h.1.symm (hne hu)
      · exact ⟨o', get_spec.2 h, .refl _, by simp [Ctx.newObj, hne hu], by simp [Ctx.newObj, hne hu], fun _ _ => rfl⟩
    · rintro b' hb ⟨x, hl, h2⟩
      rcases hl with ⟨f', s', o', h1⟩ | ⟨f', s', sz, n, h1⟩
      · rcases put_obj h1 with ⟨_, _, h⟩ | ⟨_, h⟩
        · simp only [Option.some.injEq, Prod.mk.injEq] at h
          obtain ⟨rfl, rfl⟩ := h
          simp only [Ctx.newObj, if_true, Option.some.injEq] at h2
          omega
        · have := hne (hi.obj _ _ _ _ h).1
          simp only [Ctx.newObj, this, if_false] at h2
          exact ⟨x, .inl ⟨_, _, _, h⟩, h2⟩
      · have := hne (hi.tok _ _ _ _ _ h1).1
        simp only [Ctx.newObj, this, if_false] at h2
        exact ⟨x, .inr ⟨_, _, _, _, h1⟩, h2⟩
    · intro r sz n' hu h1
      exact ⟨n', h1, Nat.le_refl _, fun _ => ⟨by simp [Ctx.newObj, hne hu], by simp [Ctx.newObj, hne hu]⟩⟩
  refine ⟨hx, ?_⟩
  have hlive : ∀ {x}, Live (K.newObj f s st o b cap) x → x = st ∨ (x ≠ st ∧ Live K x) := by
    rintro x (⟨f', s', o', h1⟩ | ⟨f', s', sz, n, h1⟩)
    · rcases put_obj h1 with ⟨_, _, h⟩ | ⟨_, h⟩
      · simp only [Option.some.injEq, Prod.mk.injEq] at h
        exact .inl h.1.symm
      · exact .inr ⟨hne (hi.obj _ _ _ _ h).1, .inl ⟨_, _, _, h⟩⟩
    · exact .inr ⟨hne (hi.tok _ _ _ _ _ h1).1, .inr ⟨_, _, _, _, h1⟩⟩
  refine ⟨?_, ?_, ?_, hi.tt, ?_, ?_, ?_⟩
  · intro f' s' st' o' h1
    rcases put_obj h1 with ⟨_, _, h⟩ | ⟨_, h⟩
    · simp only [Option.some.injEq, Prod.mk.injEq] at h
      obtain ⟨rfl, rfl⟩ := h
      exact ⟨.inl rfl, hrep hx⟩
    · obtain ⟨hu, hr⟩ := hi.obj _ _ _ _ h
      exact ⟨.inr hu, hr.ext hx (by simp [Ctx.newObj, hne hu]) (by simp [Ctx.newObj, hne hu]) (fun _ _ => rfl) (fun b hb => hh _ (hi.live_lt (.inl ⟨_, _, _, h⟩) hb))⟩
  · intro f' s' st' sz n h1
    obtain ⟨hu, hr⟩ := hi.tok _ _ _ _ _ h1
    refine ⟨.inr hu, ?_⟩
    have hs := hne hu
    rcases hr with ⟨h2, h3⟩ | ⟨b', cs, e, h2, h3, h4, h5⟩
    · exact .inl ⟨by simp [Ctx.newObj, hs, h2], h3⟩
    · exact .inr ⟨b', cs, e, by simp [Ctx.newObj, hs, h2], (hh _ (block_lt h3)).trans h3, by simpa [Ctx.newObj, hs] using h4, by simpa [Ctx.newObj, hs] using h5⟩
  · intro f1 s1 f2 s2 st' o1 o2 h1 h2
    rcases put_obj h1 with ⟨a, b, h⟩ | ⟨_, h⟩ <;> rcases put_obj h2 with ⟨a', b', h'⟩ | ⟨_, h'⟩
    · exact ⟨a.trans a'.symm, b.trans b'.symm⟩
    · simp only [Option.some.injEq, Prod.mk.injEq] at h; exact absurd h.1.symm (hne (hi.obj _ _ _ _ h').1)
    · simp only [Option.some.injEq, Prod.mk.injEq] at h'; exact absurd h'.1.symm (hne (hi.obj _ _ _ _ h).1)
    · exact hi.oo _ _ _ _ _ _ _ h h'
  · intro f1 s1 f2 s2 st' o1 a h1 h2
    rcases put_obj h1 with ⟨_, _, h⟩ | ⟨_, h⟩
    · simp only [Option.some.injEq, Prod.mk.injEq] at h
      obtain ⟨sz, n⟩ := a
      exact absurd h.1.symm (hne (hi.tok _ _ _ _ _ h2).1)
    · exact hi.ot _ _ _ _ _ _ _ h h2
  · intro st1 st2 b' l1 l2 h1 h2
    rcases hlive l1 with e1 | ⟨n1, k1⟩ <;> rcases hlive l2 with e2 | ⟨n2, k2⟩
    · rw [e1, e2]
    · simp only [Ctx.newObj, e1, if_true, n2, if_false] at h1 h2
      have := hi.live_lt k2 h2
      cases h1; omega
    · simp only [Ctx.newObj, e2, if_true, n1, if_false] at h1 h2
      have := hi.live_lt k1 h1
      cases h2; omega
    · simp only [Ctx.newObj, n1, n2, if_false] at h1 h2
      exact hi.inj _ _ _ k1 k2 h1 h2
  · intro st' b' o' l h
    rcases hlive l with rfl | ⟨n1, l1⟩
    · simp only [Ctx.newObj, if_true, Option.some.injEq] at h
      exact ⟨fun hX => by have := ho.X _ _ hX; omega, fun hX => by have := ho.XM _ hX; omega⟩
    · simp only [Ctx.newObj, n1, if_false] at h
      exact hi.X _ _ _ l1 h
end Go.Ev
