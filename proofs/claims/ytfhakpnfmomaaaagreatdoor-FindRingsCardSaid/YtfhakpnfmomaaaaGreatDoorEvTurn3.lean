/- A part of an evaluator of closed runs, and of the proof that what it answers holds of the model. No conditions. -/
import Derived.Test.YtfhakpnfmomaaaaGreatDoorEvTurn2
namespace Go.Ev
open Go

theorem hide_put (σ : Store) (F s : Nat) (e : Option (Nat × Ob)) (l : List Nat) (h : l.contains s = true) : (σ.put F s e).obj.hide F l = σ.obj.hide F l := by
  have ne : ∃ x y, l = x :: y := by
    cases l with
    | nil => simp at h
    | cons x y => exact ⟨x, y, rfl⟩
  obtain ⟨x, y, rfl⟩ := ne
  simp only [Objs.hide]
  funext f' s'
  by_cases h1 : f' = F
  · by_cases h2 : (x :: y).contains s'
    · rw [if_pos ⟨h1, h2⟩, if_pos ⟨h1, h2⟩]
    · have hne : s' ≠ s := fun e => h2 (e ▸ h)
      rw [if_neg (fun h => h2 h.2), if_neg (fun h => h2 h.2)]
      simp [h1, Store.put, hne]
  · rw [if_neg (fun h => h1 h.1), if_neg (fun h => h1 h.1)]
    simp [h1, Store.put]

/-- Operations that lay an object at a site, whatever the store. -/
def wsite : IR → Option Nat
  | .alloc s _ => some s
  | .box s _ => some s
  | .makeMap s => some s
  | _ => none

theorem evOp_wsite {R : Recs} {F st : Nat} {fr : Frame} {hide : List Nat} {ir : IR} {s : Nat} (h : wsite ir = some s) : ∃ g : Option (DV × (Nat × Ob)), ∀ σ : Store, evOp R F st fr hide σ ir = g.map fun x => (x.1, σ.put F s (some x.2)) := by
  cases ir <;> simp only [wsite, reduceCtorEq, Option.some.injEq] at h <;> subst h
  case alloc site zero => exact ⟨some (.mp ⟨F, site, st⟩ 0 0, (st, .arr zero.length [zero.map .p] true)), fun σ => rfl⟩
  case box site x => exact ⟨(cellsOf (x.ev fr)).map fun cs => (.mp ⟨F, site, st⟩ 0 0, (st, .arr cs.length [cs] true)), fun σ => by simp only [evOp, Option.map_map]; rfl⟩
  case makeMap site => exact ⟨some (.omap ⟨F, site, st⟩, (st, .map [] true)), fun σ => rfl⟩

theorem evVal_wsite {R : Recs} {F st : Nat} {o : OpI} {fr : Frame} {s : Nat} (h : wsite o.op = some s) : ∃ g : Option (DV × Option (Nat × Ob)), ∀ σ : Store, evVal R F st o fr σ = g.map fun x => (x.1, match x.2 with | some e => σ.put F s (some e) | none => σ) := by
  obtain ⟨g, hg⟩ := evOp_wsite (R := R) (F := F) (st := st) (fr := fr) (hide := o.hide) h
  have go : ∃ g' : Option (DV × Option (Nat × Ob)), ∀ σ : Store, evOp R F st fr o.hide σ o.op = g'.map fun x => (x.1, match x.2 with | some e => σ.put F s (some e) | none => σ) :=
    ⟨g.map fun x => (x.1, some x.2), fun σ => by rw [hg, Option.map_map]; rfl⟩
  unfold evVal
  split
  · exact go
  · split
    · split
      · exact go
      · exact ⟨some (.tup [], none), fun σ => rfl⟩
    · exact ⟨some (.tup [], none), fun σ => rfl⟩
    · exact ⟨none, fun σ => rfl⟩

theorem reader_put {R : Recs} {F st : Nat} {o : OpI} {fr : Frame} (hr : reader o.op = true) {s : Nat} (hh : o.hide.contains s = true) {σ : Store} {e : Option (Nat × Ob)} {d : DV} :
    (∃ σ1, evVal R F st o fr σ = some (d, σ1)) → evVal R F st o fr (σ.put F s e) = some (d, σ.put F s e) := by
  rintro ⟨σ1, h⟩
  rw [evVal_reader hr] at h ⊢
  rw [hide_put _ _ _ _ _ hh]
  obtain ⟨x, h1, h2⟩ := Option.map_eq_some_iff.1 h
  simp only [Prod.mk.injEq] at h2
  rw [h1, ← h2.1]; rfl
theorem reader_unput {R : Recs} {F st : Nat} {o : OpI} {fr : Frame} (hr : reader o.op = true) {s : Nat} (hh : o.hide.contains s = true) {σ σ1 : Store} {e : Option (Nat × Ob)} {d : DV}
    (h : evVal R F st o fr (σ.put F s e) = some (d, σ1)) : σ1 = σ.put F s e ∧ evVal R F st o fr σ = some (d, σ) := by
  rw [evVal_reader hr, hide_put _ _ _ _ _ hh] at h
  obtain ⟨x, h1, h2⟩ := Option.map_eq_some_iff.1 h
  simp only [Prod.mk.injEq] at h2
  refine ⟨h2.2.symm, ?_⟩
  rw [evVal_reader hr, h1, ← h2.1]; rfl
theorem reader_same {R : Recs} {F st : Nat} {o : OpI} {fr : Frame} (hr : reader o.op = true) {σ σ1 : Store} {d : DV} (h : evVal R F st o fr σ = some (d, σ1)) : σ1 = σ := by
  rw [evVal_reader hr] at h
  obtain ⟨x, _, e⟩ := Option.map_eq_some_iff.1 h
  simp only [Prod.mk.injEq] at e
  exact e.2.symm

/-- A reader, and one that lays an object at a site hidden from it, turn about: either way. -/
theorem turns_read_write {R : Recs} {F c0 k i : Nat} {l : List OpI} (hs : ∀ a b, l[k]? = some a → l[i]? = some b → apartI a b = true ∧ reader a.op = true ∧ ∃ s, wsite b.op = some s ∧ a.hide.contains s = true) : Turns R F c0 l k i := by
  refine turns_of fun a b ha hb => ?_
  obtain ⟨h1, h2, s, h3, h4⟩ := hs a b ha hb
  refine ⟨h1, fun fr σ d σ1 d2 σ2 e1 e2 => ?_⟩
  have := reader_same h2 e1
  subst this
  obtain ⟨g, hg⟩ := evVal_wsite (R := R) (F := F) (st := c0 + 16 * i) (fr := fr) h3
  refine ⟨σ2, e2, ?_⟩
  rw [hg] at e2
  obtain ⟨x, x1, x2⟩ := Option.map_eq_some_iff.1 e2
  simp only [Prod.mk.injEq] at x2
  obtain ⟨_, rfl⟩ := x2
  cases hx : x.2 with
  | none => exact e1
  | some e => exact reader_put h2 h4 ⟨_, e1⟩
theorem turns_write_read {R : Recs} {F c0 k i : Nat} {l : List OpI} (hs : ∀ a b, l[k]? = some a → l[i]? = some b → apartI a b = true ∧ reader b.op = true ∧ ∃ s, wsite a.op = some s ∧ b.hide.contains s = true) : Turns R F c0 l k i := by
  refine turns_of fun a b ha hb => ?_
  obtain ⟨h1, h2, s, h3, h4⟩ := hs a b ha hb
  refine ⟨h1, fun fr σ d σ1 d2 σ2 e1 e2 => ?_⟩
  obtain ⟨g, hg⟩ := evVal_wsite (R := R) (F := F) (st := c0 + 16 * k) (fr := fr) h3
  have e3 := e1
  rw [hg] at e3
  obtain ⟨x, x1, x2⟩ := Option.map_eq_some_iff.1 e3
  simp only [Prod.mk.injEq] at x2
  obtain ⟨_, rfl⟩ := x2
  cases hx : x.2 with
  | none =>
    simp only [hx] at e1 e2
    have := reader_same h2 e2
    subst this
    exact ⟨_, e2, e1⟩
  | some e =>
    simp only [hx] at e1 e2
    obtain ⟨rfl, e4⟩ := reader_unput h2 h4 e2
    exact ⟨_, e4, e1⟩
/-- Two that lay objects at two sites turn about. -/
theorem turns_write_write {R : Recs} {F c0 k i : Nat} {l : List OpI} (hs : ∀ a b, l[k]? = some a → l[i]? = some b → apartI a b = true ∧ ∃ s t, wsite a.op = some s ∧ wsite b.op = some t ∧ s ≠ t) : Turns R F c0 l k i := by
  refine turns_of fun a b ha hb => ?_
  obtain ⟨h1, s, t, h3, h4, hne⟩ := hs a b ha hb
  refine ⟨h1, fun fr σ d σ1 d2 σ2 e1 e2 => ?_⟩
  obtain ⟨g, hg⟩ := evVal_wsite (R := R) (F := F) (st := c0 + 16 * k) (fr := fr) h3
  obtain ⟨g', hg'⟩ := evVal_wsite (R := R) (F := F) (st := c0 + 16 * i) (fr := fr) h4
  rw [hg] at e1
  obtain ⟨x, x1, x2⟩ := Option.map_eq_some_iff.1 e1
  rw [hg'] at e2
  obtain ⟨y, y1, y2⟩ := Option.map_eq_some_iff.1 e2
  simp only [Prod.mk.injEq] at x2 y2
  obtain ⟨rfl, rfl⟩ := x2
  obtain ⟨rfl, rfl⟩ := y2
  refine ⟨_, by rw [hg', y1]; rfl, ?_⟩
  rw [hg, x1]
  simp only [Option.map_some, Option.some.injEq, Prod.mk.injEq, true_and]
  cases x.2 with
  | none => cases y.2 <;> rfl
  | some e =>
    cases y.2 with
    | none => rfl
    | some e' => exact put_comm σ _ _ (fun h => hne h.2.symm)
end Go.Ev
