/- A part of an evaluator of closed runs, and of the proof that what it answers holds of the model. No conditions. -/
import Derived.Test.YtfhakpnfmomaaaaGreatDoorEvRep
import Derived.Laws.CopyRow
namespace Go.Ev
open Go

theorem put_obj {σ : Store} {f s f' s' st' : Nat} {e : Option (Nat × Ob)} {o' : Ob} (h : (σ.put f s e).obj f' s' = some (st', o')) :
    (f' = f ∧ s' = s ∧ e = some (st', o')) ∨ (¬ (f' = f ∧ s' = s) ∧ σ.obj f' s' = some (st', o')) := by
  simp only [Store.put] at h
  by_cases h1 : f' = f
  · by_cases h2 : s' = s
    · simp [h1, h2] at h; exact .inl ⟨h1, h2, h⟩
    · simp [h1, h2] at h; exact .inr ⟨fun x => h2 x.2, by rw [h1]; exact h⟩
  · simp [h1] at h; exact .inr ⟨fun x => h1 x.1, h⟩
theorem put_tok {σ : Store} {f s f' s' st' : Nat} {e : Option (Nat × Nat × Nat)} {a : Nat × Nat} (h : (σ.putTok f s e).tok f' s' = some (st', a)) :
    (f' = f ∧ s' = s ∧ e = some (st', a)) ∨ (¬ (f' = f ∧ s' = s) ∧ σ.tok f' s' = some (st', a)) := by
  simp only [Store.putTok] at h
  by_cases h1 : f' = f
  · by_cases h2 : s' = s
    · simp [h1, h2] at h; exact .inl ⟨h1, h2, h⟩
    · simp [h1, h2] at h; exact .inr ⟨fun x => h2 x.2, by rw [h1]; exact h⟩
  · simp [h1] at h; exact .inr ⟨fun x => h1 x.1, h⟩

theorem get_spec {σ : Objs} {r : Ref} {o : Ob} : σ.get r = some o ↔ σ r.f r.s = some (r.st, o) := by
  unfold Objs.get
  constructor
  · intro h
    split at h
    · rename_i st o' e
      split at h
      · rename_i e2; rw [e, e2]; simpa using h
      · cases h
    · cases h
  · intro h; rw [h]; simp
theorem right_spec {σ : Store} {r : Ref} {sz n : Nat} : σ.right r = some (sz, n) ↔ σ.tok r.f r.s = some (r.st, sz, n) := by
  unfold Store.right
  constructor
  · intro h
    split at h
    · rename_i st sz' n' e
      split at h
      · rename_i e2; rw [e, e2]; simpa using h
      · cases h
    · cases h
  · intro h; rw [h]; simp

theorem ObRep.ext {w w' : World} {K K' : Ctx} (hx : Ext w K w' K') {st : Nat} {o : Ob} (hι : K'.ι st = K.ι st) (hκ : K'.κ st = K.κ st) (hbn : ∀ i, i < o.mlen → K'.bn st i = K.bn st i)
    (hh : ∀ b, K.ι st = some b → w'.heap[b]? = w.heap[b]?) (h : ObRep w K st o) : ObRep w' K' st o := by
  cases o with
  | arr sz rows mu =>
    obtain ⟨b, cs, e, h1, h2, h3, h6, h4, h5⟩ := h
    exact ⟨b, cs, e, hι.trans h1, (hh b h1).trans h2, by rw [hκ]; exact h3, by rw [hκ]; exact h6, h4, fun i j hi hj => ⟨(h5 i j hi hj).1.ext hx, (h5 i j hi hj).2⟩⟩
  | map es mu =>
    obtain ⟨b, mes, clk, h1, h2, h3, h4, h5, h6, h7⟩ := h
    refine ⟨b, mes, clk, hι.trans h1, (hh b h1).trans h2, h3, fun i hi => (h4 i hi).keep hx.keep, fun i hi => (h5 i hi).ext hx, fun i hi => ?_, fun i j hij hj => ?_⟩
    · rw [hbn i hi]; exact h6 i hi
    · rw [hbn i (Nat.lt_trans hij hj), hbn j hj]; exact h7 i j hij hj

/-- What the forbidden cells lie below. -/
structure Old (w : World) (K : Ctx) : Prop where
  X : ∀ b o, K.X b o → b < w.heap.size
  XM : ∀ b, K.XM b → b < w.heap.size

theorem Old.ext {w w' : World} {K K' : Ctx} (hx : Ext w K w' K') (h : Old w K) : Old w' K' :=
  ⟨fun b o hb => Nat.lt_of_lt_of_le (h.X b o (by rw [← hx.X]; exact hb)) hx.size, fun b hb => Nat.lt_of_lt_of_le (h.XM b (by rw [← hx.XM]; exact hb)) hx.size⟩

theorem block_lt {w : World} {b : Nat} {o : Obj} (h : w.heap[b]? = some o) : b < w.heap.size := (Array.getElem?_eq_some_iff.1 h).1
theorem cell_lt {w : World} {b o : Nat} {v : Value} (h : w.cell? ⟨b, o, none⟩ = some v) : b < w.heap.size := by
  unfold World.cell? at h
  cases hb : w.heap[b]? with
  | none => simp [hb] at h
  | some x => exact block_lt hb
theorem cell_of_heap {w w' : World} {b : Nat} (h : w'.heap[b]? = w.heap[b]?) (o : Nat) : w'.cell? ⟨b, o, none⟩ = w.cell? ⟨b, o, none⟩ := by simp [World.cell?, h]
theorem heap_alloc {w : World} {o : Obj} {b : Nat} (h : b < w.heap.size) : (w.alloc o).heap[b]? = w.heap[b]? := by
  show (w.heap.push o)[b]? = _
  rw [Array.getElem?_push, if_neg (by omega)]
theorem heap_alloc_self {w : World} {o : Obj} : (w.alloc o).heap[w.heap.size]? = some o := by
  show (w.heap.push o)[w.heap.size]? = _
  simp
theorem size_alloc {w : World} {o : Obj} : (w.alloc o).heap.size = w.heap.size + 1 := by
  show (w.heap.push o).size = _
  simp

/-- The block of whatever lives is there. -/
theorem SInv.live_lt {w : World} {K : Ctx} (hi : SInv w K) {st b : Nat} (hl : Live K st) (h : K.ι st = some b) : b < w.heap.size := by
  rcases hl with ⟨f, s, o, h1⟩ | ⟨f, s, sz, n, h1⟩
  · obtain ⟨_, h2⟩ := hi.obj _ _ _ _ h1
    cases o with
    | arr sz rows mu => obtain ⟨b', cs, e, h3, h4, _⟩ := h2; rw [h] at h3; cases h3; exact block_lt h4
    | map es mu => obtain ⟨b', cs, e, h3, h4, _⟩ := h2; rw [h] at h3; cases h3; exact block_lt h4
  · obtain ⟨_, h2⟩ := hi.tok _ _ _ _ _ h1
    rcases h2 with ⟨h3, _⟩ | ⟨b', cs, e, h3, h4, _⟩
    · rw [h] at h3; cases h3
    · rw [h] at h3; cases h3; exact block_lt h4

/-- The ghost's turn with a new object. -/
def Ctx.newObj (K : Ctx) (f s st : Nat) (o : Ob) (b cap : Nat) : Ctx :=
  { K with σ := K.σ.put f s (some (st, o)), ι := fun x => if x = st then some b else K.ι x, κ := fun x => if x = st then cap else K.κ x, used := fun x => x = st ∨ K.used x }

theorem new_obj {w : World} {K : Ctx} (hi : SInv w K) (ho : Old w K) (f s st : Nat) (o : Ob) (cap : Nat) (hst : ¬ K.used st) (blk : Obj)
    (hrep : Ext w K (w.alloc blk) (K.newObj f s st o w.heap.size cap) → ObRep (w.alloc blk) (K.newObj f s st o w.heap.size cap) st o) :
    Ext w K (w.alloc blk) (K.newObj f s st o w.heap.size cap) ∧ SInv (w.alloc blk) (K.newObj f s st o w.heap.size cap) := by
  have hne : ∀ {st'}, K.used st' → st' ≠ st := fun h e => hst (e ▸ h)
  have hM : ∀ b o', b < w.heap.size → (K.newObj f s st o w.heap.size cap).M b o' → K.M b o' := by
    rintro b o' hb (⟨f', s', st', sz, rows, h1, h2⟩ | ⟨f', s', st', sz, n, h1, h2, h3⟩ | h1)
    · rcases put_obj h1 with ⟨_, _, h⟩ | ⟨_, h⟩
      · simp only [Option.some.injEq, Prod.mk.injEq] at h
        obtain ⟨rfl, rfl⟩ := h
        simp only [Ctx.newObj, if_true, Option.some.injEq] at h2
        omega
      · have := hne (hi.obj _ _ _ _ h).1
        simp only [Ctx.newObj, this, if_false] at h2
        exact .inl ⟨_, _, _, _, _, h, h2⟩
    · have hu := (hi.tok _ _ _ _ _ h1).1
      have := hne hu
      simp only [Ctx.newObj, this, if_false] at h2
      exact .inr (.inl ⟨_, _, _, _, _, h1, h2, h3⟩)
    · exact .inr (.inr h1)
  have hMM : ∀ b, b < w.heap.size → (K.newObj f s st o w.heap.size cap).MM b → K.MM b := by
    rintro b hb (⟨f', s', st', es, h1, h2⟩ | h1)
    · rcases put_obj h1 with ⟨_, _, h⟩ | ⟨_, h⟩
      · simp only [Option.some.injEq, Prod.mk.injEq] at h
        obtain ⟨rfl, rfl⟩ := h
        simp only [Ctx.newObj, if_true, Option.some.injEq] at h2
        omega
      · have := hne (hi.obj _ _ _ _ h).1
        simp only [Ctx.newObj, this, if_false] at h2
        exact .inl ⟨_, _, _, _, h, h2⟩
    · exact .inr h1
  have hx : Ext w K (w.alloc blk) (K.newObj f s st o w.heap.size cap) := by
    refine ⟨by rw [size_alloc]; omega, rfl, rfl, rfl, ⟨?_, ?_, rfl⟩, rfl, rfl, fun x h => .inr h, ?_, ?_, fun b hb _ => heap_alloc hb, ?_, hM, hMM⟩
    · intro b o' v h1 h2
      have hb := cell_lt h1
      exact ⟨(cell_of_heap (heap_alloc hb) o').trans h1, fun h => h2 (hM b o' hb h)⟩
    · intro r es c h1 h2
      have hb := block_lt h1
      exact ⟨(heap_alloc hb).trans h1, fun h => h2 (hMM r hb h)⟩
    · intro r o' hu h1
      rw [get_spec] at h1
      rcases put_obj h1 with ⟨_, _, h⟩ | ⟨_, h⟩
      · simp only [Option.some.injEq, Prod.mk.injEq] at h
        exact absurd h.1.symm (hne hu)
      · exact ⟨o', get_spec.2 h, .refl _, by simp [Ctx.newObj, hne hu], by simp [Ctx.newObj, hne hu], fun _ _ => rfl⟩
    · rintro b hb ⟨x, hl, h2⟩
      rcases hl with ⟨f', s', o', h1⟩ | ⟨f', s', sz, n, h1⟩
      · rcases put_obj h1 with ⟨_, _, h⟩ | ⟨_, h⟩
        · simp only [Option.some.injEq, Prod.mk.injEq] at h
          obtain ⟨rfl, rfl⟩ := h
          simp only [Ctx.newObj, if_true, Option.some.injEq] at h2
          omega
        · have := hne (hi.obj _ _ _ _ h).1
          simp only [Ctx.newObj, this, if_false] at h2
          exact ⟨x, .inl ⟨_, _, _, h⟩, h2⟩
      · have := hne (hi.tok _ _ _ _ _ h1).1
        simp only [Ctx.newObj, this, if_false] at h2
        exact ⟨x, .inr ⟨_, _, _, _, h1⟩, h2⟩
    · intro r sz n' hu h1
      exact ⟨n', h1, Nat.le_refl _, fun _ => ⟨by simp [Ctx.newObj, hne hu], by simp [Ctx.newObj, hne hu]⟩⟩
  refine ⟨hx, ?_⟩
  have hlive : ∀ {x}, Live (K.newObj f s st o w.heap.size cap) x → x = st ∨ (x ≠ st ∧ Live K x) := by
    rintro x (⟨f', s', o', h1⟩ | ⟨f', s', sz, n, h1⟩)
    · rcases put_obj h1 with ⟨_, _, h⟩ | ⟨_, h⟩
      · simp only [Option.some.injEq, Prod.mk.injEq] at h
        exact .inl h.1.symm
      · exact .inr ⟨hne (hi.obj _ _ _ _ h).1, .inl ⟨_, _, _, h⟩⟩
    · exact .inr ⟨hne (hi.tok _ _ _ _ _ h1).1, .inr ⟨_, _, _, _, h1⟩⟩
  refine ⟨?_, ?_, ?_, ?_, ?_, ?_, ?_⟩
  · intro f' s' st' o' h1
    rcases put_obj h1 with ⟨_, _, h⟩ | ⟨_, h⟩
    · simp only [Option.some.injEq, Prod.mk.injEq] at h
      obtain ⟨rfl, rfl⟩ := h
      exact ⟨.inl rfl, hrep hx⟩
    · obtain ⟨hu, hr⟩ := hi.obj _ _ _ _ h
      exact ⟨.inr hu, hr.ext hx (by simp [Ctx.newObj, hne hu]) (by simp [Ctx.newObj, hne hu]) (fun _ _ => rfl) (fun b hb => heap_alloc (hi.live_lt (.inl ⟨_, _, _, h⟩) hb))⟩
  · intro f' s' st' sz n h1
    obtain ⟨hu, hr⟩ := hi.tok _ _ _ _ _ h1
    refine ⟨.inr hu, ?_⟩
    have hs := hne hu
    rcases hr with ⟨h2, h3⟩ | ⟨b, cs, e, h2, h3, h4, h5⟩
    · exact .inl ⟨by simp [Ctx.newObj, hs, h2], h3⟩
    · exact .inr ⟨b, cs, e, by simp [Ctx.newObj, hs, h2], (heap_alloc (block_lt h3)).trans h3, by simpa [Ctx.newObj, hs] using h4, by simpa [Ctx.newObj, hs] using h5⟩
  · intro f1 s1 f2 s2 st' o1 o2 h1 h2
    rcases put_obj h1 with ⟨a, b, h⟩ | ⟨_, h⟩ <;> rcases put_obj h2 with ⟨a', b', h'⟩ | ⟨_, h'⟩
    · exact ⟨a.trans a'.symm, b.trans b'.symm⟩
    · simp only [Option.some.injEq, Prod.mk.injEq] at h; exact absurd h.1.symm (hne (hi.obj _ _ _ _ h').1)
    · simp only [Option.some.injEq, Prod.mk.injEq] at h'; exact absurd h'.1.symm (hne (hi.obj _ _ _ _ h).1)
    · exact hi.oo _ _ _ _ _ _ _ h h'
  · exact hi.tt
  · intro f1 s1 f2 s2 st' o1 a h1 h2
    rcases put_obj h1 with ⟨_, _, h⟩ | ⟨_, h⟩
    · simp only [Option.some.injEq, Prod.mk.injEq] at h
      obtain ⟨sz, n⟩ := a
      exact absurd h.1.symm (hne (hi.tok _ _ _ _ _ h2).1)
    · exact hi.ot _ _ _ _ _ _ _ h h2
  · intro st1 st2 b l1 l2 h1 h2
    rcases hlive l1 with e1 | ⟨n1, k1⟩ <;> rcases hlive l2 with e2 | ⟨n2, k2⟩
    · rw [e1, e2]
    · simp only [Ctx.newObj, e1, if_true, n2, if_false] at h1 h2
      have := hi.live_lt k2 h2
      cases h1; omega
    · simp only [Ctx.newObj, e2, if_true, n1, if_false] at h1 h2
      have := hi.live_lt k1 h1
      cases h2; omega
    · simp only [Ctx.newObj, n1, n2, if_false] at h1 h2
      exact hi.inj _ _ _ k1 k2 h1 h2
  · intro st' b o' l h
    rcases hlive l with rfl | ⟨n1, l1⟩
    · simp only [Ctx.newObj, if_true, Option.some.injEq] at h
      exact ⟨fun hX => by have := ho.X _ _ hX; omega, fun hX => by have := ho.XM _ hX; omega⟩
    · simp only [Ctx.newObj, n1, if_false] at h
      exact hi.X _ _ _ l1 h

/-- The ghost's turn with a new right to append: at a block, or at none yet. -/
def Ctx.newTok (K : Ctx) (f s st sz n : Nat) (b : Option Nat) (cap : Nat) : Ctx :=
  { K with σ := K.σ.putTok f s (some (st, sz, n)), ι := fun x => if x = st then b else K.ι x, κ := fun x => if x = st then cap else K.κ x, used := fun x => x = st ∨ K.used x }

/-- A new right, in a world that is as it was below: 'none yet' in the world itself, or at the block behind. -/
theorem new_tok {w w1 : World} {K : Ctx} (hi : SInv w K) (ho : Old w K) (f s st sz n cap : Nat) (hst : ¬ K.used st) (b : Option Nat)
    (hsz : w.heap.size ≤ w1.heap.size) (hos : w1.os = w.os) (hta : w1.tape = w.tape) (hou : w1.output = w.output) (hh : ∀ k, k < w.heap.size → w1.heap[k]? = w.heap[k]?)
    (hb : (b = none ∧ n = 0) ∨ ∃ b' cs e, b = some b' ∧ w.heap.size ≤ b' ∧ w1.heap[b']? = some (.cells cs e (0, 0)) ∧ cs.size = cap * sz ∧ n ≤ cap) :
    Ext w K w1 (K.newTok f s st sz n b cap) ∧ SInv w1 (K.newTok f s st sz n b cap) := by
  have hne : ∀ {st'}, K.used st' → st' ≠ st := fun h e => hst (e ▸ h)
  have hbl : ∀ b', b = some b' → w.heap.size ≤ b' := by
    rintro b' rfl
    rcases hb with ⟨h, _⟩ | ⟨b'', cs, e, h, h2, _⟩
    · cases h
    · cases h; exact h2
  have hM : ∀ b' o', b' < w.heap.size → (K.newTok f s st sz n b cap).M b' o' → K.M b' o' := by
    rintro b' o' hb' (⟨f', s', st', sz', rows, h1, h2⟩ | ⟨f', s', st', sz', n', h1, h2, h3⟩ | h1)
    · have := hne (hi.obj _ _ _ _ h1).1
      simp only [Ctx.newTok, this, if_false] at h2
      exact .inl ⟨_, _, _, _, _, h1, h2⟩
    · rcases put_tok h1 with ⟨_, _, h⟩ | ⟨_, h⟩
      · simp only [Option.some.injEq, Prod.mk.injEq] at h
        obtain ⟨rfl, rfl, rfl⟩ := h
        simp only [Ctx.newTok, if_true] at h2
        have := hbl _ h2
        omega
      · have := hne (hi.tok _ _ _ _ _ h).1
        simp only [Ctx.newTok, this, if_false] at h2
        exact .inr (.inl ⟨_, _, _, _, _, h, h2, h3⟩)
    · exact .inr (.inr h1)
  have hMM : ∀ b', b' < w.heap.size → (K.newTok f s st sz n b cap).MM b' → K.MM b' := by
    rintro b' hb' (⟨f', s', st', es, h1, h2⟩ | h1)
    · have := hne (hi.obj _ _ _ _ h1).1
      simp only [Ctx.newTok, this, if_false] at h2
      exact .inl ⟨_, _, _, _, h1, h2⟩
    · exact .inr h1
  have hx : Ext w K w1 (K.newTok f s st sz n b cap) := by
    refine ⟨hsz, hos, hta, hou, ⟨?_, ?_, rfl⟩, rfl, rfl, fun x h => .inr h, ?_, ?_, fun b hb _ => hh b hb, ?_, hM, hMM⟩
    · intro b' o' v h1 h2
      have hb' := cell_lt h1
      exact ⟨(cell_of_heap (hh _ hb') o').trans h1, fun h => h2 (hM b' o' hb' h)⟩
    · intro r es c h1 h2
      have hb' := block_lt h1
      exact ⟨(hh _ hb').trans h1, fun h => h2 (hMM r hb' h)⟩
    · intro r o' hu h1
      exact ⟨o', h1, .refl _, by simp [Ctx.newTok, hne hu], by simp [Ctx.newTok, hne hu], fun _ _ => rfl⟩
    · rintro b' hb' ⟨x, hl, h2⟩
      rcases hl with ⟨f', s', o', h1⟩ | ⟨f', s', sz', n', h1⟩
      · have := hne (hi.obj _ _ _ _ h1).1
        simp only [Ctx.newTok, this, if_false] at h2
        exact ⟨x, .inl ⟨_, _, _, h1⟩, h2⟩
      · rcases put_tok h1 with ⟨_, _, h⟩ | ⟨_, h⟩
        · simp only [Option.some.injEq, Prod.mk.injEq] at h
          obtain ⟨rfl, rfl, rfl⟩ := h
          simp only [Ctx.newTok, if_true] at h2
          have := hbl _ h2
          omega
        · have := hne (hi.tok _ _ _ _ _ h).1
          simp only [Ctx.newTok, this, if_false] at h2
          exact ⟨x, .inr ⟨_, _, _, _, h⟩, h2⟩
    · intro r sz' n' hu h1
      rw [right_spec] at h1
      rcases put_tok h1 with ⟨_, _, h⟩ | ⟨_, h⟩
      · simp only [Option.some.injEq, Prod.mk.injEq] at h
        exact absurd h.1.symm (hne hu)
      · exact ⟨n', right_spec.2 h, Nat.le_refl _, fun _ => ⟨by simp [Ctx.newTok, hne hu], by simp [Ctx.newTok, hne hu]⟩⟩
  refine ⟨hx, ?_⟩
  have hlive : ∀ {x}, Live (K.newTok f s st sz n b cap) x → x = st ∨ (x ≠ st ∧ Live K x) := by
    rintro x (⟨f', s', o', h1⟩ | ⟨f', s', sz', n', h1⟩)
    · exact .inr ⟨hne (hi.obj _ _ _ _ h1).1, .inl ⟨_, _, _, h1⟩⟩
    · rcases put_tok h1 with ⟨_, _, h⟩ | ⟨_, h⟩
      · simp only [Option.some.injEq, Prod.mk.injEq] at h
        exact .inl h.1.symm
      · exact .inr ⟨hne (hi.tok _ _ _ _ _ h).1, .inr ⟨_, _, _, _, h⟩⟩
  refine ⟨?_, ?_, ?_, ?_, ?_, ?_, ?_⟩
  · intro f' s' st' o' h1
    obtain ⟨hu, hr⟩ := hi.obj _ _ _ _ h1
    exact ⟨.inr hu, hr.ext hx (by simp [Ctx.newTok, hne hu]) (by simp [Ctx.newTok, hne hu]) (fun _ _ => rfl) (fun b' hb' => hh _ (hi.live_lt (.inl ⟨_, _, _, h1⟩) hb'))⟩
  · intro f' s' st' sz' n' h1
    rcases put_tok h1 with ⟨_, _, h⟩ | ⟨_, h⟩
    · simp only [Option.some.injEq, Prod.mk.injEq] at h
      obtain ⟨rfl, rfl, rfl⟩ := h
      refine ⟨.inl rfl, ?_⟩
      rcases hb with ⟨rfl, h0⟩ | ⟨b', cs, e, rfl, h2, h3, h4, h5⟩
      · exact .inl ⟨by simp [Ctx.newTok], h0⟩
      · exact .inr ⟨b', cs, e, by simp [Ctx.newTok], h3, by simpa [Ctx.newTok] using h4, by simpa [Ctx.newTok] using h5⟩
    · obtain ⟨hu, hr⟩ := hi.tok _ _ _ _ _ h
      refine ⟨.inr hu, ?_⟩
      have hs := hne hu
      rcases hr with ⟨h2, h3⟩ | ⟨b', cs, e, h2, h3, h4, h5⟩
      · exact .inl ⟨by simp [Ctx.newTok, hs, h2], h3⟩
      · exact .inr ⟨b', cs, e, by simp [Ctx.newTok, hs, h2], (hh _ (block_lt h3)).trans h3, by simpa [Ctx.newTok, hs] using h4, by simpa [Ctx.newTok, hs] using h5⟩
  · exact hi.oo
  · intro f1 s1 f2 s2 st' o1 o2 h1 h2
    rcases put_tok h1 with ⟨a, b, h⟩ | ⟨_, h⟩ <;> rcases put_tok h2 with ⟨a', b', h'⟩ | ⟨_, h'⟩
    · exact ⟨a.trans a'.symm, b.trans b'.symm⟩
    · obtain ⟨x, y⟩ := o2
      simp only [Option.some.injEq, Prod.mk.injEq] at h; exact absurd h.1.symm (hne (hi.tok _ _ _ _ _ h').1)
    · obtain ⟨x, y⟩ := o1
      simp only [Option.some.injEq, Prod.mk.injEq] at h'; exact absurd h'.1.symm (hne (hi.tok _ _ _ _ _ h).1)
    · exact hi.tt _ _ _ _ _ _ _ h h'
  · intro f1 s1 f2 s2 st' o1 a h1 h2
    rcases put_tok h2 with ⟨_, _, h⟩ | ⟨_, h⟩
    · simp only [Option.some.injEq, Prod.mk.injEq] at h
      exact absurd h.1.symm (hne (hi.obj _ _ _ _ h1).1)
    · exact hi.ot _ _ _ _ _ _ _ h1 h
  · intro st1 st2 b' l1 l2 h1 h2
    rcases hlive l1 with e1 | ⟨n1, k1⟩ <;> rcases hlive l2 with e2 | ⟨n2, k2⟩
    · rw [e1, e2]
    · simp only [Ctx.newTok, e1, if_true, n2, if_false] at h1 h2
      have := hi.live_lt k2 h2
      have := hbl _ h1
      omega
    · simp only [Ctx.newTok, e2, if_true, n1, if_false] at h1 h2
      have := hi.live_lt k1 h1
      have := hbl _ h2
      omega
    · simp only [Ctx.newTok, n1, n2, if_false] at h1 h2
      exact hi.inj _ _ _ k1 k2 h1 h2
  · intro st' b' o' l h
    rcases hlive l with rfl | ⟨n1, l1⟩
    · simp only [Ctx.newTok, if_true] at h
      have := hbl _ h
      exact ⟨fun hX => by have := ho.X _ _ hX; omega, fun hX => by have := ho.XM _ hX; omega⟩
    · simp only [Ctx.newTok, n1, if_false] at h
      exact hi.X _ _ _ l1 h

/-- An object's place gets another object of the same shape. -/
def Ctx.setObj (K : Ctx) (f s st : Nat) (o : Ob) (bn1 : Nat → Nat) : Ctx := { K with σ := K.σ.put f s (some (st, o)), bn := fun x => if x = st then bn1 else K.bn x }

/-- What stands at an object's block is turned (the block may be written), or the object is written no more. -/
theorem set_obj {w w1 : World} {K : Ctx} (hi : SInv w K) (f s st : Nat) (o o1 : Ob) (hat : K.σ.obj f s = some (st, o)) (hsh : sameShape o o1) (bn1 : Nat → Nat) (hbn : ∀ i, i < o.mlen → bn1 i = K.bn st i)
    (hsz : w.heap.size ≤ w1.heap.size) (hos : w1.os = w.os) (hta : w1.tape = w.tape) (hou : w1.output = w.output) (hh : ∀ k, K.ι st ≠ some k → w1.heap[k]? = w.heap[k]?)
    (hM1 : ∀ b o', (K.setObj f s st o1 bn1).M b o' → K.M b o') (hMM1 : ∀ b, (K.setObj f s st o1 bn1).MM b → K.MM b)
    (hcell : ∀ k o' v, K.ι st = some k → w.cell? ⟨k, o', none⟩ = some v → ¬ K.M k o' → w1.cell? ⟨k, o', none⟩ = some v)
    (hmap : ∀ k es c, K.ι st = some k → w.heap[k]? = some (.map es c) → ¬ K.MM k → w1.heap[k]? = some (.map es c))
    (hrep : Ext w K w1 (K.setObj f s st o1 bn1) → ObRep w1 (K.setObj f s st o1 bn1) st o1) :
    Ext w K w1 (K.setObj f s st o1 bn1) ∧ SInv w1 (K.setObj f s st o1 bn1) := by
  have hst : Live K st := .inl ⟨_, _, _, hat⟩
  have hlive : ∀ {x}, Live (K.setObj f s st o1 bn1) x → Live K x := by
    rintro x (⟨f', s', o', h1⟩ | ⟨f', s', sz, n, h1⟩)
    · rcases put_obj h1 with ⟨hf, hs, h⟩ | ⟨_, h⟩
      · simp only [Option.some.injEq, Prod.mk.injEq] at h
        rw [← h.1]; exact hst
      · exact .inl ⟨_, _, _, h⟩
    · exact .inr ⟨_, _, _, _, h1⟩
  have hx : Ext w K w1 (K.setObj f s st o1 bn1) := by
    refine ⟨hsz, hos, hta, hou, ⟨?_, ?_, rfl⟩, rfl, rfl, fun x h => h, ?_, ?_, ?_, fun r sz n' hu h1 => ⟨n', h1, Nat.le_refl _, fun _ => ⟨rfl, rfl⟩⟩, fun b o' _ h => hM1 b o' h, fun b _ h => hMM1 b h⟩
    · intro b o' v h1 h2
      refine ⟨?_, fun h => h2 (hM1 b o' h)⟩
      by_cases hb : K.ι st = some b
      · exact hcell b o' v hb h1 h2
      · exact (cell_of_heap (hh b hb) o').trans h1
    · intro r es c h1 h2
      refine ⟨?_, fun h => h2 (hMM1 r h)⟩
      by_cases hb : K.ι st = some r
      · exact hmap r es c hb h1 h2
      · exact (hh r hb).trans h1
    · intro r o' hu h1
      rw [get_spec] at h1
      rcases put_obj h1 with ⟨hf, hs, h⟩ | ⟨_, h⟩
      · simp only [Option.some.injEq, Prod.mk.injEq] at h
        obtain ⟨h, rfl⟩ := h
        exact ⟨o, get_spec.2 (by rw [hf, hs, hat, h]), hsh, rfl, rfl, fun i hi' => by simp only [Ctx.setObj, ← h, if_true]; exact hbn i hi'⟩
      · refine ⟨o', get_spec.2 h, .refl _, rfl, rfl, fun i hi' => ?_⟩
        have : r.st ≠ st := fun e => by
          rw [e] at h
          obtain ⟨e1, e2⟩ := hi.oo _ _ _ _ _ _ _ h hat
          rename_i hn
          exact hn ⟨e1, e2⟩
        simp [Ctx.setObj, this]
    · rintro b hb ⟨x, hl, h2⟩
      exact ⟨x, hlive hl, h2⟩
    · exact fun b hb hl => hh b (fun h => hl ⟨st, hst, h⟩)
  refine ⟨hx, ?_⟩
  refine ⟨?_, ?_, ?_, hi.tt, ?_, fun a b c l1 l2 h1 h2 => hi.inj a b c (hlive l1) (hlive l2) h1 h2, fun a b c l h => hi.X a b c (hlive l) h⟩
  · intro f' s' st' o' h1
    rcases put_obj h1 with ⟨hf, hs, h⟩ | ⟨hn, h⟩
    · simp only [Option.some.injEq, Prod.mk.injEq] at h
      obtain ⟨rfl, rfl⟩ := h
      exact ⟨(hi.obj _ _ _ _ hat).1, hrep hx⟩
    · obtain ⟨hu, hr⟩ := hi.obj _ _ _ _ h
      have hne : st' ≠ st := fun e => by subst e; exact hn (hi.oo _ _ _ _ _ _ _ h hat)
      refine ⟨hu, hr.ext hx rfl rfl (fun _ _ => by simp [Ctx.setObj, hne]) (fun b hb => hh b (fun hb' => hn ?_))⟩
      have := hi.inj _ _ _ (.inl ⟨_, _, _, h⟩) hst hb hb'
      subst this
      exact hi.oo _ _ _ _ _ _ _ h hat
  · intro f' s' st' sz n h1
    obtain ⟨hu, hr⟩ := hi.tok _ _ _ _ _ h1
    refine ⟨hu, ?_⟩
    rcases hr with hr | ⟨b, cs, e, h2, h3, h4⟩
    · exact .inl hr
    · refine .inr ⟨b, cs, e, h2, ?_, h4⟩
      rw [hh b (fun hb' => ?_)]
      · exact h3
      · have := hi.inj _ _ _ (.inr ⟨_, _, _, _, h1⟩) hst h2 hb'
        subst this
        exact hi.ot _ _ _ _ _ _ _ hat h1
  · intro f1 s1 f2 s2 st' o1 o2 h1 h2
    rcases put_obj h1 with ⟨a, b, h⟩ | ⟨n1, h⟩ <;> rcases put_obj h2 with ⟨a', b', h'⟩ | ⟨n2, h'⟩
    · exact ⟨a.trans a'.symm, b.trans b'.symm⟩
    · simp only [Option.some.injEq, Prod.mk.injEq] at h
      obtain ⟨rfl, rfl⟩ := h
      exact absurd (hi.oo _ _ _ _ _ _ _ h' hat) n2
    · simp only [Option.some.injEq, Prod.mk.injEq] at h'
      obtain ⟨rfl, rfl⟩ := h'
      exact absurd (hi.oo _ _ _ _ _ _ _ h hat) n1
    · exact hi.oo _ _ _ _ _ _ _ h h'
  · intro f1 s1 f2 s2 st' o1' a h1 h2
    rcases put_obj h1 with ⟨hf, hs, h⟩ | ⟨_, h⟩
    · simp only [Option.some.injEq, Prod.mk.injEq] at h
      obtain ⟨rfl, rfl⟩ := h
      exact hi.ot _ _ _ _ _ _ _ hat h2
    · exact hi.ot _ _ _ _ _ _ _ h h2

/-- The ghost's turn where a right is used. -/
def Ctx.setTok (K : Ctx) (f s st sz n : Nat) (b : Nat) (cap : Nat) : Ctx :=
  { K with σ := K.σ.putTok f s (some (st, sz, n)), ι := fun x => if x = st then some b else K.ι x, κ := fun x => if x = st then cap else K.κ x }

/-- A right is used: more rows behind those that were: in place, or in a new block. -/
theorem use_tok {w w1 : World} {K : Ctx} (hi : SInv w K) (ho : Old w K) (f s st sz n n1 b1 cap1 : Nat) (hat : K.σ.tok f s = some (st, sz, n)) (hn : n < n1)
    (hsz : w.heap.size ≤ w1.heap.size) (hos : w1.os = w.os) (hta : w1.tape = w.tape) (hou : w1.output = w.output)
    (hh : ∀ k, k < w.heap.size → K.ι st ≠ some k → w1.heap[k]? = w.heap[k]?)
    (hin : ∀ k o v, K.ι st = some k → w.cell? ⟨k, o, none⟩ = some v → o < n * sz → w1.cell? ⟨k, o, none⟩ = some v)
    (hb : K.ι st = some b1 ∨ w.heap.size ≤ b1)
    (hnew : ∃ cs e, w1.heap[b1]? = some (.cells cs e (0, 0)) ∧ cs.size = cap1 * sz ∧ n1 ≤ cap1) :
    Ext w K w1 (K.setTok f s st sz n1 b1 cap1) ∧ SInv w1 (K.setTok f s st sz n1 b1 cap1) := by
  obtain ⟨hust, htr⟩ := hi.tok _ _ _ _ _ hat
  have hlst : Live K st := .inr ⟨_, _, _, _, hat⟩
  have hmul : n * sz ≤ n1 * sz := Nat.mul_le_mul_right _ (Nat.le_of_lt hn)
  have hobj : ∀ {f' s' st' o'}, K.σ.obj f' s' = some (st', o') → st' ≠ st := fun h e => by subst e; exact hi.ot _ _ _ _ _ _ _ h hat
  have htok : ∀ {f' s' st' a}, K.σ.tok f' s' = some (st', a) → ¬ (f' = f ∧ s' = s) → st' ≠ st := fun h hn e => by subst e; exact hn (hi.tt _ _ _ _ _ _ _ h hat)
  have hM : ∀ b o', b < w.heap.size → (K.setTok f s st sz n1 b1 cap1).M b o' → K.M b o' := by
    rintro b o' hb' (⟨f', s', st', sz', rows, h1, h2⟩ | ⟨f', s', st', sz', n', h1, h2, h3⟩ | h1)
    · simp only [Ctx.setTok, hobj h1, if_false] at h2
      exact .inl ⟨_, _, _, _, _, h1, h2⟩
    · rcases put_tok h1 with ⟨_, _, h⟩ | ⟨hn', h⟩
      · simp only [Option.some.injEq, Prod.mk.injEq] at h
        obtain ⟨rfl, rfl, rfl⟩ := h
        simp only [Ctx.setTok, if_true, Option.some.injEq] at h2
        subst h2
        rcases hb with hb | hb
        · exact .inr (.inl ⟨_, _, _, _, _, hat, hb, by omega⟩)
        · omega
      · simp only [Ctx.setTok, htok h hn', if_false] at h2
        exact .inr (.inl ⟨_, _, _, _, _, h, h2, h3⟩)
    · exact .inr (.inr h1)
  have hMM : ∀ b, (K.setTok f s st sz n1 b1 cap1).MM b → K.MM b := by
    rintro b (⟨f', s', st', es, h1, h2⟩ | h1)
    · simp only [Ctx.setTok, hobj h1, if_false] at h2
      exact .inl ⟨_, _, _, _, h1, h2⟩
    · exact .inr h1
  have hx : Ext w K w1 (K.setTok f s st sz n1 b1 cap1) := by
    refine ⟨hsz, hos, hta, hou, ⟨?_, ?_, rfl⟩, rfl, rfl, fun x h => h, ?_, ?_, ?_, ?_, hM, fun b _ h => hMM b h⟩
    · intro b o' v h1 h2
      have hlt := cell_lt h1
      refine ⟨?_, fun h => h2 (hM b o' hlt h)⟩
      by_cases hb' : K.ι st = some b
      · refine hin b o' v hb' h1 ?_
        rcases Nat.lt_or_ge o' (n * sz) with h | h
        · exact h
        · exact absurd (.inr (.inl ⟨_, _, _, _, _, hat, hb', h⟩)) h2
      · exact (cell_of_heap (hh b hlt hb') o').trans h1
    · intro r es c h1 h2
      refine ⟨?_, fun h => h2 (hMM r h)⟩
      by_cases hb' : K.ι st = some r
      · rcases htr with ⟨h3, _⟩ | ⟨b', cs, e, h3, h4, _⟩
        · rw [hb'] at h3; cases h3
        · rw [hb'] at h3; cases h3; rw [h1] at h4; cases h4
      · exact (hh r (block_lt h1) hb').trans h1
    · intro r o' hu h1
      have := hobj (get_spec.1 h1)
      exact ⟨o', h1, .refl _, by simp [Ctx.setTok, this], by simp [Ctx.setTok, this], fun _ _ => rfl⟩
    · rintro b hb' ⟨x, hl, h2⟩
      rcases hl with ⟨f', s', o', h1⟩ | ⟨f', s', sz', n', h1⟩
      · simp only [Ctx.setTok, hobj h1, if_false] at h2
        exact ⟨x, .inl ⟨_, _, _, h1⟩, h2⟩
      · rcases put_tok h1 with ⟨_, _, h⟩ | ⟨hn', h⟩
        · simp only [Option.some.injEq, Prod.mk.injEq] at h
          obtain ⟨rfl, rfl, rfl⟩ := h
          simp only [Ctx.setTok, if_true, Option.some.injEq] at h2
          subst h2
          rcases hb with hb | hb
          · exact ⟨st, hlst, hb⟩
          · omega
        · simp only [Ctx.setTok, htok h hn', if_false] at h2
          exact ⟨x, .inr ⟨_, _, _, _, h⟩, h2⟩
    · exact fun b hb' hl => hh b hb' (fun h => hl ⟨st, hlst, h⟩)
    · intro r sz' n' hu h1
      rw [right_spec] at h1
      rcases put_tok h1 with ⟨hf, hs, h⟩ | ⟨hn', h⟩
      · simp only [Option.some.injEq, Prod.mk.injEq] at h
        obtain ⟨h, rfl, rfl⟩ := h
        exact ⟨n, right_spec.2 (by rw [hf, hs, hat, h]), by omega, fun e => by omega⟩
      · have := htok h hn'
        exact ⟨n', right_spec.2 h, Nat.le_refl _, fun _ => ⟨by simp [Ctx.setTok, this], by simp [Ctx.setTok, this]⟩⟩
  refine ⟨hx, ?_⟩
  have hlive : ∀ {x}, Live (K.setTok f s st sz n1 b1 cap1) x → Live K x := by
    rintro x (⟨f', s', o', h1⟩ | ⟨f', s', sz', n', h1⟩)
    · exact .inl ⟨_, _, _, h1⟩
    · rcases put_tok h1 with ⟨hf, hs, h⟩ | ⟨_, h⟩
      · simp only [Option.some.injEq, Prod.mk.injEq] at h
        rw [← h.1]; exact hlst
      · exact .inr ⟨_, _, _, _, h⟩
  have hother : ∀ {x b}, Live K x → x ≠ st → K.ι x = some b → w1.heap[b]? = w.heap[b]? := fun l hn' h =>
    hh _ (hi.live_lt l h) (fun h' => hn' (hi.inj _ _ _ l hlst h h'))
  refine ⟨?_, ?_, hi.oo, ?_, ?_, ?_, ?_⟩
  · intro f' s' st' o' h1
    obtain ⟨hu, hr⟩ := hi.obj _ _ _ _ h1
    have hs := hobj h1
    exact ⟨hu, hr.ext hx (by simp [Ctx.setTok, hs]) (by simp [Ctx.setTok, hs]) (fun _ _ => rfl) (fun b hb' => hother (.inl ⟨_, _, _, h1⟩) hs hb')⟩
  · intro f' s' st' sz' n' h1
    rcases put_tok h1 with ⟨hf, hs, h⟩ | ⟨hn', h⟩
    · simp only [Option.some.injEq, Prod.mk.injEq] at h
      obtain ⟨rfl, rfl, rfl⟩ := h
      refine ⟨hust, .inr ?_⟩
      obtain ⟨cs, e, h2, h3, h4⟩ := hnew
      exact ⟨b1, cs, e, by simp [Ctx.setTok], h2, by simpa [Ctx.setTok] using h3, by simpa [Ctx.setTok] using h4⟩
    · obtain ⟨hu, hr⟩ := hi.tok _ _ _ _ _ h
      have hs := htok h hn'
      refine ⟨hu, ?_⟩
      rcases hr with ⟨h2, h3⟩ | ⟨b, cs, e, h2, h3, h4, h5⟩
      · exact .inl ⟨by simp [Ctx.setTok, hs, h2], h3⟩
      · exact .inr ⟨b, cs, e, by simp [Ctx.setTok, hs, h2], (hother (.inr ⟨_, _, _, _, h⟩) hs h2).trans h3, by simpa [Ctx.setTok, hs] using h4, by simpa [Ctx.setTok, hs] using h5⟩
  · intro f1 s1 f2 s2 st' o1 o2 h1 h2
    rcases put_tok h1 with ⟨a, b, h⟩ | ⟨n1', h⟩ <;> rcases put_tok h2 with ⟨a', b', h'⟩ | ⟨n2', h'⟩
    · exact ⟨a.trans a'.symm, b.trans b'.symm⟩
    · obtain ⟨x, y⟩ := o1
      simp only [Option.some.injEq, Prod.mk.injEq] at h
      exact absurd h.1.symm (htok h' n2')
    · obtain ⟨x, y⟩ := o2
      simp only [Option.some.injEq, Prod.mk.injEq] at h'
      exact absurd h'.1.symm (htok h n1')
    · exact hi.tt _ _ _ _ _ _ _ h h'
  · intro f1 s1 f2 s2 st' o1' a h1 h2
    rcases put_tok h2 with ⟨hf, hs, h⟩ | ⟨_, h⟩
    · obtain ⟨x, y⟩ := a
      simp only [Option.some.injEq, Prod.mk.injEq] at h
      exact absurd h.1.symm (hobj h1)
    · exact hi.ot _ _ _ _ _ _ _ h1 h
  · intro x y b l1 l2 h1 h2
    have k1 := hlive l1
    have k2 := hlive l2
    by_cases e1 : x = st <;> by_cases e2 : y = st
    · rw [e1, e2]
    · simp only [Ctx.setTok, e1, if_true, e2, if_false, Option.some.injEq] at h1 h2
      subst h1
      rcases hb with hb | hb
      · exact absurd (hi.inj _ _ _ k2 hlst h2 hb) e2
      · have := hi.live_lt k2 h2; omega
    · simp only [Ctx.setTok, e2, if_true, e1, if_false, Option.some.injEq] at h1 h2
      subst h2
      rcases hb with hb | hb
      · exact absurd (hi.inj _ _ _ k1 hlst h1 hb) e1
      · have := hi.live_lt k1 h1; omega
    · simp only [Ctx.setTok, e1, e2, if_false] at h1 h2
      exact hi.inj _ _ _ k1 k2 h1 h2
  · intro x b o' l h
    by_cases e1 : x = st
    · simp only [Ctx.setTok, e1, if_true, Option.some.injEq] at h
      subst h
      rcases hb with hb | hb
      · exact hi.X _ _ _ hlst hb
      · exact ⟨fun hX => by have := ho.X _ _ hX; omega, fun hX => by have := ho.XM _ hX; omega⟩
    · simp only [Ctx.setTok, e1, if_false] at h
      exact hi.X _ _ _ (hlive l) h

/-- Only what is told of the store is less: places are left. -/
theorem less {w : World} {K K' : Ctx} (hi : SInv w K) (ho : ∀ f s e, K'.σ.obj f s = some e → K.σ.obj f s = some e) (ht : ∀ f s e, K'.σ.tok f s = some e → K.σ.tok f s = some e)
    (hι : K'.ι = K.ι) (hκ : K'.κ = K.κ) (hbn : K'.bn = K.bn) (hu : K'.used = K.used) (hX : K'.X = K.X) (hXM : K'.XM = K.XM) (hG : K'.G = K.G) : Ext w K w K' ∧ SInv w K' := by
  have hM : ∀ b o', K'.M b o' → K.M b o' := by
    rintro b o' (⟨f', s', st', sz, rows, h1, h2⟩ | ⟨f', s', st', sz, n, h1, h2, h3⟩ | h1)
    · exact .inl ⟨_, _, _, _, _, ho _ _ _ h1, by rw [← hι]; exact h2⟩
    · exact .inr (.inl ⟨_, _, _, _, _, ht _ _ _ h1, by rw [← hι]; exact h2, h3⟩)
    · exact .inr (.inr (by rw [← hX]; exact h1))
  have hMM : ∀ b, K'.MM b → K.MM b := by
    rintro b (⟨f', s', st', es, h1, h2⟩ | h1)
    · exact .inl ⟨_, _, _, _, ho _ _ _ h1, by rw [← hι]; exact h2⟩
    · exact .inr (by rw [← hXM]; exact h1)
  have hlive : ∀ {x}, Live K' x → Live K x := by
    rintro x (⟨f', s', o', h1⟩ | ⟨f', s', sz, n, h1⟩)
    · exact .inl ⟨_, _, _, ho _ _ _ h1⟩
    · exact .inr ⟨_, _, _, _, ht _ _ _ h1⟩
  have hx : Ext w K w K' := by
    refine ⟨Nat.le_refl _, rfl, rfl, rfl, ⟨fun b o v h1 h2 => ⟨h1, fun h => h2 (hM _ _ h)⟩, fun r es c h1 h2 => ⟨h1, fun h => h2 (hMM _ h)⟩, hG⟩, hX, hXM, fun st h => by rw [hu]; exact h, ?_, ?_, fun _ _ _ => rfl, ?_, fun b o _ h => hM b o h, fun b _ h => hMM b h⟩
    · intro r o' _ h1
      exact ⟨o', get_spec.2 (ho _ _ _ (get_spec.1 h1)), .refl _, by rw [hι], by rw [hκ], fun _ _ => by rw [hbn]⟩
    · rintro b _ ⟨x, hl, h2⟩
      rw [hι] at h2
      exact ⟨x, hlive hl, h2⟩
    · intro r sz n' _ h1
      exact ⟨n', right_spec.2 (ht _ _ _ (right_spec.1 h1)), Nat.le_refl _, fun _ => ⟨by rw [hι], by rw [hκ]⟩⟩
  refine ⟨hx, ⟨?_, ?_, fun _ _ _ _ _ _ _ h1 h2 => hi.oo _ _ _ _ _ _ _ (ho _ _ _ h1) (ho _ _ _ h2), fun _ _ _ _ _ _ _ h1 h2 => hi.tt _ _ _ _ _ _ _ (ht _ _ _ h1) (ht _ _ _ h2),
    fun _ _ _ _ _ _ _ h1 h2 => hi.ot _ _ _ _ _ _ _ (ho _ _ _ h1) (ht _ _ _ h2), ?_, ?_⟩⟩
  · intro f s st o h
    obtain ⟨h1, h2⟩ := hi.obj _ _ _ _ (ho _ _ _ h)
    exact ⟨by rw [hu]; exact h1, h2.ext hx (by rw [hι]) (by rw [hκ]) (fun _ _ => by rw [hbn]) (fun _ _ => rfl)⟩
  · intro f s st sz n h
    obtain ⟨h1, h2⟩ := hi.tok _ _ _ _ _ (ht _ _ _ h)
    refine ⟨by rw [hu]; exact h1, ?_⟩
    rw [hι, hκ]; exact h2
  · intro a b c l1 l2 h1 h2
    rw [hι] at h1 h2
    exact hi.inj _ _ _ (hlive l1) (hlive l2) h1 h2
  · intro a b c l h
    rw [hι] at h; rw [hX, hXM]
    exact hi.X _ _ _ (hlive l) h

/-- A draw turns nothing. -/
theorem Ext.drew {w w1 : World} {K K1 : Ctx} (h : Ext w K w1 K1) : Ext w.drew K w1 K1 := ⟨h.size, h.os, h.tape, h.output, ⟨h.keep.cell, h.keep.map, h.keep.G⟩, h.X, h.XM, h.used, h.obj, h.live, h.same, h.tok, h.fresh, h.freshM⟩

end Go.Ev
