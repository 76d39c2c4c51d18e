/- A part of an evaluator of closed runs, and of the proof that what it answers holds of the model. No conditions. -/
import Derived.Test.YtfhakpnfmomaaaaGreatDoorEvTurn
namespace Go.Ev
open Go

/-- Does an operation only look at the store (at what is not hidden)? -/
def reader : IR → Bool
  | .mv _ | .pick .. | .nilCheck _ | .fieldAddr .. | .bin .. | .eqv .. | .un .. | .conv .. | .rune _ | .build .. | .field .. | .indexAgg .. | .indexStr .. | .minI .. | .maxI .. | .extract .. | .mkIface .. | .clo .. | .sliceStr ..
  | .load .. | .indexSl .. | .indexArr .. | .len .. | .lookup .. | .sliceSl .. | .gload .. | .assert .. => true
  | _ => false

theorem hide_nil (σ : Objs) (f : Nat) : σ.hide f [] = σ := rfl

theorem evOp_reader {R : Recs} {F st : Nat} {fr : Frame} {hide : List Nat} {ir : IR} (h : reader ir = true) (σ : Store) :
    evOp R F st fr hide σ ir = ((evOp R F st fr [] ⟨0, 0, σ.obj.hide F hide, fun _ _ => none⟩ ir).map (·.1)).map fun d => (d, σ) := by
  cases ir <;> simp only [reader, Bool.false_eq_true] at h <;> simp only [evOp, hide_nil, sliceRows]
  all_goals
    repeat' split
  all_goals first
    | rfl
    | (simp only [Option.map_map]; rfl)
    | (simp only [Option.map_map, Function.comp_def]; done)
    | simp_all

/-- What a step comes to, ahead of the frame. -/
def evVal (R : Recs) (F st : Nat) (o : OpI) (fr : Frame) (σ : Store) : Option (DV × Store) :=
  match o.guard with
  | none => evOp R F st fr o.hide σ o.op
  | some (j, b) => match fr.get j with
    | .p (.bool t) => if t = b then evOp R F st fr o.hide σ o.op else some (.tup [], σ)
    | .tup [] => some (.tup [], σ)
    | _ => none
def OpI.slots (o : OpI) : List Nat := o.op.slots ++ (match o.guard with | some (j, _) => [j] | none => [])

theorem evStep_val (R : Recs) (F c0 i : Nat) (o : OpI) (fr : Frame) (σ : Store) : evStep R F c0 i o fr σ = (evVal R F (c0 + 16 * i) o fr σ).map fun x => (putD fr o.dst x.1, x.2) := by
  unfold evStep evVal
  repeat' split
  all_goals first
    | rfl
    | simp_all

theorem evVal_agree {R : Recs} {F st : Nat} {o : OpI} {fr fr' : Frame} {σ : Store} (h : Agree fr fr' o.slots) : evVal R F st o fr σ = evVal R F st o fr' σ := by
  have h1 := evOp_agree (R := R) (F := F) (st := st) (hide := o.hide) (σ := σ) h.left
  unfold evVal
  cases hg : o.guard with
  | none => exact h1
  | some g =>
    obtain ⟨j, b⟩ := g
    have h2 : fr.get j = fr'.get j := h j (by unfold OpI.slots; rw [hg]; simp)
    simp only [h1, h2]

theorem evVal_reader {R : Recs} {F st : Nat} {o : OpI} {fr : Frame} (h : reader o.op = true) (σ : Store) :
    evVal R F st o fr σ = ((evVal R F st { o with hide := [] } fr ⟨0, 0, σ.obj.hide F o.hide, fun _ _ => none⟩).map (·.1)).map fun d => (d, σ) := by
  unfold evVal
  have h1 := evOp_reader (R := R) (F := F) (st := st) (fr := fr) (hide := o.hide) h σ
  simp only
  cases o.guard with
  | none => exact h1
  | some g =>
    obtain ⟨j, b⟩ := g
    simp only
    split
    · split
      · exact h1
      · rfl
    · rfl
    · rfl

/-- Two steps whose slots are apart. -/
def apartI (a b : OpI) : Bool :=
  (match a.dst with | some t => !b.slots.contains t | none => true) && (match b.dst with | some t => !a.slots.contains t | none => true) &&
  (match a.dst, b.dst with | some t, some u => t != u | _, _ => true)

theorem agree_put {fr : Frame} {dst : Option Nat} {d : DV} {l : List Nat} (h : (match dst with | some t => !l.contains t | none => true) = true) : Agree (putD fr dst d) fr l := by
  intro t ht
  cases dst with
  | none => rfl
  | some u =>
    simp only [putD, frame_get_set]
    rw [if_neg]
    rintro rfl
    simp only [Bool.not_eq_true', List.contains_eq_mem, decide_eq_false_iff_not] at h
    exact h ht
theorem put_turn {fr : Frame} {a b : Option Nat} {d e : DV} (h : (match a, b with | some t, some u => t != u | _, _ => true) = true) : putD (putD fr a d) b e = putD (putD fr b e) a d := by
  cases a with
  | none => cases b <;> rfl
  | some t =>
    cases b with
    | none => rfl
    | some u => exact frame_set_comm fr t u d e (by simpa using h)

/-- Steps turn about where their slots are apart and the store lets. -/
theorem turns_of {R : Recs} {F c0 k i : Nat} {l : List OpI} (hs : ∀ a b, l[k]? = some a → l[i]? = some b → apartI a b = true ∧
    ∀ fr σ d σ1 d2 σ2, evVal R F (c0 + 16 * k) a fr σ = some (d, σ1) → evVal R F (c0 + 16 * i) b fr σ1 = some (d2, σ2) → ∃ σ', evVal R F (c0 + 16 * i) b fr σ = some (d2, σ') ∧ evVal R F (c0 + 16 * k) a fr σ' = some (d, σ2)) : Turns R F c0 l k i := by
  intro fr σ s h
  simp only [evIdx] at h ⊢
  cases ha : l[k]? with
  | none => simp [ha] at h
  | some a =>
    simp only [ha] at h
    cases hb : l[i]? with
    | none =>
      simp only [hb] at h
      split at h <;> cases h
    | some b =>
      simp only [hb] at h ⊢
      obtain ⟨hap, hst⟩ := hs a b ha hb
      unfold apartI at hap
      simp only [Bool.and_eq_true] at hap
      obtain ⟨⟨h1, h2⟩, h3⟩ := hap
      rw [evStep_val] at h
      cases hv : evVal R F (c0 + 16 * k) a fr σ with
      | none => simp [hv] at h
      | some x =>
        obtain ⟨d, σ1⟩ := x
        simp only [hv, Option.map_some] at h
        rw [evStep_val, evVal_agree (agree_put h1)] at h
        cases hv2 : evVal R F (c0 + 16 * i) b fr σ1 with
        | none => simp [hv2] at h
        | some y =>
          obtain ⟨d2, σ2⟩ := y
          simp only [hv2, Option.map_some, Option.some.injEq] at h
          obtain ⟨σ', e1, e2⟩ := hst fr σ d σ1 d2 σ2 hv hv2
          rw [evStep_val, e1]
          simp only [Option.map_some]
          rw [evStep_val, evVal_agree (agree_put h2), e2]
          simp only [Option.map_some, Option.some.injEq]
          rw [← h, put_turn h3]

/-- Two that only look may be turned about. -/
theorem turns_readers {R : Recs} {F c0 k i : Nat} {l : List OpI} (hs : ∀ a b, l[k]? = some a → l[i]? = some b → apartI a b = true ∧ reader a.op = true ∧ reader b.op = true) : Turns R F c0 l k i := by
  refine turns_of fun a b ha hb => ?_
  obtain ⟨h1, h2, h3⟩ := hs a b ha hb
  refine ⟨h1, fun fr σ d σ1 d2 σ2 e1 e2 => ?_⟩
  have same : ∀ {o : OpI} {st : Nat} {d : DV} {σ1 : Store}, reader o.op = true → evVal R F st o fr σ = some (d, σ1) → σ1 = σ := by
    intro o st d σ1 hr e
    rw [evVal_reader hr] at e
    obtain ⟨x, _, e⟩ := Option.map_eq_some_iff.1 e
    simp only [Prod.mk.injEq] at e
    exact e.2.symm
  have := same h2 e1
  subst this
  have := same h3 e2
  subst this
  exact ⟨_, e2, e1⟩
end Go.Ev
