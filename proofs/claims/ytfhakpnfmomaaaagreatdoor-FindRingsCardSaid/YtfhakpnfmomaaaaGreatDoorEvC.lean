/- A part of an evaluator of closed runs, and of the proof that what it answers holds of the model. No conditions. -/
import Derived.Test.YtfhakpnfmomaaaaGreatDoorEvAny
namespace Go.Ev
open Go

theorem storeAt_c {σ : Store} {n : Nat} {a x d : DV} {σ' : Store} (h : storeAt σ n a x = some (d, σ')) : σ'.c = σ.c ∧ σ'.nf = σ.nf := by
  unfold storeAt at h
  repeat' split at h
  all_goals first
    | (cases h; done)
    | (simp only [Option.some.injEq, Prod.mk.injEq] at h; obtain ⟨_, rfl⟩ := h; exact ⟨rfl, rfl⟩)

theorem sliceRows_c {fr : Frame} {σ : Store} {s : Nat} {rows : List (List PV)} {lo hi mx : Option Opd} {d : DV} {σ' : Store} (h : sliceRows fr σ s rows lo hi mx = some (d, σ')) : σ' = σ := by
  unfold sliceRows at h
  repeat' split at h
  all_goals first
    | (cases h; done)
    | (simp only [Option.some.injEq, Prod.mk.injEq] at h; exact h.2.symm)

def noCall : IR → Bool
  | .call .. | .callv .. => false
  | _ => true

/-- An operation that is no call takes no stamps of its own beyond its own, and no frame. -/
theorem evOp_c {R : Recs} {F st : Nat} {fr : Frame} {hide : List Nat} {σ σ' : Store} {ir : IR} {d : DV} (hc : noCall ir = true) (h : evOp R F st fr hide σ ir = some (d, σ')) : σ'.c = σ.c ∧ σ'.nf = σ.nf := by
  cases ir
  case call => cases hc
  case callv => cases hc
  case store n a x => exact storeAt_c h
  case sliceSl s x lo hi mx =>
    simp only [evOp] at h
    repeat' split at h
    all_goals first
      | (cases h; done)
      | (rw [sliceRows_c h]; exact ⟨rfl, rfl⟩)
      | (simp only [Option.some.injEq, Prod.mk.injEq] at h; obtain ⟨_, rfl⟩ := h; exact ⟨rfl, rfl⟩)
  all_goals
    simp only [evOp] at h
    repeat' split at h
    all_goals first
      | (cases h; done)
      | (simp only [Option.some.injEq, Prod.mk.injEq] at h; obtain ⟨_, rfl⟩ := h; exact ⟨rfl, rfl⟩)
      | (obtain ⟨x, _, h2⟩ := Option.map_eq_some_iff.1 h; simp only [Prod.mk.injEq] at h2; obtain ⟨_, rfl⟩ := h2; exact ⟨rfl, rfl⟩)

section
variable {GP : (Nat → Option Value) → Prop} {P : Program} {F : Fence} {n : Nat} {ops : Array Oper} {Q : Exit → Act → World → Prop} {N : Nat} {ds : Nat}

theorem evStep_c {R : Recs} {Fr c0 i : Nat} {oi : OpI} {fr fr' : Frame} {σ σ' : Store} (hc : noCall oi.op = true) (h : evStep R Fr c0 i oi fr σ = some (fr', σ')) : σ'.c = σ.c ∧ σ'.nf = σ.nf := by
  have go : (evOp R Fr (c0 + 16 * i) fr oi.hide σ oi.op).map (fun x => (putD fr oi.dst x.1, x.2)) = some (fr', σ') → σ'.c = σ.c ∧ σ'.nf = σ.nf := by
    intro h
    obtain ⟨⟨d, σ2⟩, h1, h2⟩ := Option.map_eq_some_iff.1 h
    simp only [Prod.mk.injEq] at h2
    obtain ⟨_, rfl⟩ := h2
    exact evOp_c hc h1
  unfold evStep at h
  split at h
  · exact go h
  · split at h
    · split at h
      · exact go h
      · simp only [Option.some.injEq, Prod.mk.injEq] at h; obtain ⟨_, rfl⟩ := h; exact ⟨rfl, rfl⟩
    · simp only [Option.some.injEq, Prod.mk.injEq] at h; obtain ⟨_, rfl⟩ := h; exact ⟨rfl, rfl⟩
    · cases h

theorem chkIR_nocall {o : Oper} {ir : IR} (h : chkIR P o ir = true) : noCall ir = true := by
  cases ir <;> first | rfl | cases h

/-- A step that is no call may be taken in whatever order. -/
theorem stepOK_op (hF : Wide F) {Fr : Nat} {R : Recs} {c0 B i : Nat} {o : Oper} {oi : OpI} (ho : ops[i]? = some o) (hc : chkOpI P N ops o oi = true) (hg : ∀ t b, oi.guard = some (t, b) → t < N) : StepOK GP F n P ops Q N ds Fr R c0 B i oi := by
  intro w K a fr fr' σ' Kont hS hlim hfree hB h hk
  refine step_op hF hS ho hc hg hfree h (fun a' w' K' h1 h2 h3 h4 => hk a' w' K' h1 h2 h3 ?_ (fun x hx => (h4 x hx).imp id .inl))
  have hir : chkIR P o oi.op = true := by
    unfold chkOpI at hc
    simp only [Bool.and_eq_true] at hc
    exact hc.2
  have hc1 := (evStep_c (chkIR_nocall hir) h).1
  refine ⟨by rw [h3, hc1]; exact hB.1, fun x hx => ?_⟩
  rw [h3, hc1]
  have := hB.1
  rcases h4 x hx with h5 | h5
  · exact hB.2 x h5
  · omega
end
end Go.Ev
