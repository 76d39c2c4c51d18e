/- A part of an evaluator of closed runs, and of the proof that what it answers holds of the model. No conditions. -/
import Derived.Test.YtfhakpnfmomaaaaGreatDoorEvTurn3
namespace Go.Ev
open Go
section
variable {GP : (Nat → Option Value) → Prop} {P : Program} {F : Fence} {m : Nat} {Q : Exit → Act → World → Prop} {N : Nat} {ds : Nat} {w : World} {K : Ctx} {a : Act} {fr : Frame}

/-- How code ends, as the model says it. -/
def Out.exit' : Out → Exit
  | .normal => .normal
  | .exit id => .exit id
  | .ret => .ret

/-- The store's counters say nothing of memory. -/
theorem StR.count (h : StR GP w K N ds a fr) (nf c : Nat) : StR GP w { K with σ := { K.σ with nf := nf, c := c } } N ds a fr ∧ Ext w K w { K with σ := { K.σ with nf := nf, c := c } } := by
  obtain ⟨e1, e2⟩ := less (K' := { K with σ := { K.σ with nf := nf, c := c } }) h.inv (fun _ _ _ h => h) (fun _ _ _ h => h) rfl rfl rfl rfl rfl rfl rfl
  exact ⟨⟨e2, h.old.ext e1, h.frame.ext e1, h.size, h.defers.ext h.inv e1, h.base, h.gp⟩, e1⟩

theorem dropSites_obj (F' : Nat) : ∀ (l : List Nat) (σ : Store), (∀ f s e, (dropSites σ F' l).obj f s = some e → σ.obj f s = some e) ∧ (∀ f s e, (dropSites σ F' l).tok f s = some e → σ.tok f s = some e) ∧ (dropSites σ F' l).c = σ.c ∧ (dropSites σ F' l).nf = σ.nf
  | [], σ => ⟨fun _ _ _ h => h, fun _ _ _ h => h, rfl, rfl⟩
  | s :: l, σ => by
    obtain ⟨h1, h2, h3, h4⟩ := dropSites_obj F' l ((σ.put F' s none).putTok F' s none)
    refine ⟨fun f t e h => ?_, fun f t e h => ?_, h3, h4⟩
    · have := h1 f t e h
      obtain ⟨st, o⟩ := e
      rcases put_obj (σ := σ) (f := F') (s := s) (e := none) this with ⟨_, _, h⟩ | ⟨_, h⟩
      · cases h
      · exact h
    · have := h2 f t e h
      obtain ⟨st, x⟩ := e
      rcases put_tok (σ := σ.put F' s none) (f := F') (s := s) (e := none) this with ⟨_, _, h⟩ | ⟨_, h⟩
      · cases h
      · exact h

/-- What dies is told of no more. -/
theorem StR.kill (h : StR GP w K N ds a fr) (ts : List Nat) (F' : Nat) (ss : List Nat) : StR GP w { K with σ := dropSites K.σ F' ss } N ds a (fr.del ts) ∧ Ext w K w { K with σ := dropSites K.σ F' ss } := by
  obtain ⟨h1, h2, _, _⟩ := dropSites_obj F' ss K.σ
  obtain ⟨e1, e2⟩ := less (K' := { K with σ := dropSites K.σ F' ss }) h.inv h1 h2 rfl rfl rfl rfl rfl rfl rfl
  refine ⟨⟨e2, h.old.ext e1, fun t => ?_, h.size, h.defers.ext h.inv e1, h.base, h.gp⟩, e1⟩
  rcases frame_get_del fr ts t with h3 | h3
  · rw [h3]; exact (h.frame t).ext e1
  · rw [h3]; exact .undef _
end
end Go.Ev
