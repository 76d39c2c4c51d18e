/- A part of an evaluator of closed runs, and of the proof that what it answers holds of the model. No conditions. -/
import Derived.Test.YtfhakpnfmomaaaaGreatDoorEvCode
namespace Go.Ev
open Go

theorem put_c (σ : Store) (f s : Nat) (e : Option (Nat × Ob)) : (σ.put f s e).c = σ.c ∧ (σ.put f s e).nf = σ.nf := ⟨rfl, rfl⟩
theorem putTok_c (σ : Store) (f s : Nat) (e : Option (Nat × Nat × Nat)) : (σ.putTok f s e).c = σ.c ∧ (σ.putTok f s e).nf = σ.nf := ⟨rfl, rfl⟩

section
variable {GP : (Nat → Option Value) → Prop} {P : Program} {F : Fence} {n : Nat} {ops : Array Oper} {Q : Exit → Act → World → Prop} {N : Nat} {ds : Nat}

/-- The counter stands above a bound and above all stamps. -/
def Cnt (B : Nat) (K : Ctx) : Prop := B ≤ K.σ.c ∧ ∀ x, K.used x → x < K.σ.c

/-- A step of a region may be taken: whatever the order. -/
def StepOK (GP : (Nat → Option Value) → Prop) (F : Fence) (n : Nat) (P : Program) (ops : Array Oper) (Q : Exit → Act → World → Prop) (N : Nat) (ds : Nat) (Fr : Nat) (R : Recs) (c0 B i : Nat) (oi : OpI) : Prop :=
  ∀ (w : World) (K : Ctx) (a : Act) (fr fr' : Frame) (σ' : Store) (Kont : Act → World → Prop), StR GP w K N ds a fr → c0 + 16 * i + 16 ≤ B → (∀ x, c0 + 16 * i ≤ x → x < c0 + 16 * i + 16 → ¬ K.used x) → Cnt B K → evStep R Fr c0 i oi fr K.σ = some (fr', σ') →
    (∀ a' w' K', StR GP w' K' N ds a' fr' → Ext w K w' K' → K'.σ = σ' → Cnt B K' → (∀ x, K'.used x → K.used x ∨ (c0 + 16 * i ≤ x ∧ x < c0 + 16 * i + 16) ∨ B ≤ x) → Kont a' w') → wpOpIn F n P ops Q i Kont a w

/-- What is left of a region, by its indices. -/
def evIdx (R : Recs) (Fr c0 : Nat) (l : List OpI) : List Nat → Frame → Store → Option (Frame × Store)
  | [], fr, σ => some (fr, σ)
  | i :: is, fr, σ => match l[i]? with
    | some o => match evStep R Fr c0 i o fr σ with
      | some (fr, σ) => evIdx R Fr c0 l is fr σ
      | none => none
    | none => none

theorem evOps_idx (R : Recs) (Fr c0 : Nat) (l : List OpI) : ∀ (l2 : List OpI) (i : Nat) (fr : Frame) (σ : Store), l.drop i = l2 → evOps R Fr c0 i l2 fr σ = evIdx R Fr c0 l ((List.range l2.length).map (· + i)) fr σ
  | [], i, fr, σ, _ => rfl
  | o :: l2, i, fr, σ, h => by
    have h0 : l[i]? = some o := by
      have := congrArg (·[0]?) h
      simpa using this
    have h1 : l.drop (i + 1) = l2 := by
      have := congrArg List.tail h
      simpa using this
    have e : (List.range (o :: l2).length).map (· + i) = i :: (List.range l2.length).map (· + (i + 1)) := by
      rw [List.length_cons, List.range_succ_eq_map, List.map_cons, List.map_map, Nat.zero_add]
      congr 1
      apply List.map_congr_left
      intro x _
      simp only [Function.comp]
      omega
    rw [e]
    simp only [evOps, evIdx, h0]
    cases evStep R Fr c0 i o fr σ with
    | none => rfl
    | some x => exact evOps_idx R Fr c0 l l2 (i + 1) x.1 x.2 h1

/-- The stamps of what is left are free. -/
def Free (K : Ctx) (c0 B : Nat) (is : List Nat) : Prop := ∀ i ∈ is, c0 + 16 * i + 16 ≤ B ∧ ∀ x, c0 + 16 * i ≤ x → x < c0 + 16 * i + 16 → ¬ K.used x

/-- A REGION IN A GIVEN ORDER. -/
theorem region_list {Fr : Nat} {R : Recs} {c0 B : Nat} {l : List OpI} (hstep : ∀ i oi, l[i]? = some oi → StepOK GP F n P ops Q N ds Fr R c0 B i oi) :
    ∀ (is : List Nat), is.Nodup → ∀ (w : World) (K : Ctx) (a : Act) (fr fr' : Frame) (σ' : Store), StR GP w K N ds a fr → Free K c0 B is → Cnt B K → evIdx R Fr c0 l is fr K.σ = some (fr', σ') →
      (∀ a' w' K', StR GP w' K' N ds a' fr' → Ext w K w' K' → K'.σ = σ' → Cnt B K' → (∀ x, K'.used x → K.used x ∨ (∃ i ∈ is, c0 + 16 * i ≤ x ∧ x < c0 + 16 * i + 16) ∨ B ≤ x) → Q .normal a' w') → wpOpsIn F n P ops Q is a w
  | [], _, w, K, a, fr, fr', σ', hS, _, hB, h, hk => by
    simp only [evIdx, Option.some.injEq, Prod.mk.injEq] at h
    obtain ⟨rfl, rfl⟩ := h
    exact hk a w K hS (.refl _ _) rfl hB (fun _ h => .inl h)
  | i :: is, hnd, w, K, a, fr, fr', σ', hS, hfree, hB, h, hk => by
    simp only [evIdx] at h
    split at h
    · rename_i oi hoi
      split at h
      · rename_i fr1 σ1 h1
        rw [wpOpsIn_cons]
        refine hstep i oi hoi w K a fr fr1 σ1 _ hS (hfree i (by simp)).1 (hfree i (by simp)).2 hB h1 (fun a1 w1 K1 hS1 hx1 hσ1 hB1 hu1 => ?_)
        have hnd' := List.nodup_cons.1 hnd
        refine region_list hstep is hnd'.2 w1 K1 a1 fr1 fr' σ' hS1 (fun j hj => ?_) hB1 (by rw [hσ1]; exact h) (fun a' w' K' hS' hx' hσ' hB' hu' => ?_)
        · obtain ⟨f1, f2⟩ := hfree j (by simp [hj])
          refine ⟨f1, fun x x1 x2 hu => ?_⟩
          have hne : j ≠ i := fun e => hnd'.1 (e ▸ hj)
          rcases hu1 x hu with h | ⟨y1, y2⟩ | h
          · exact f2 x x1 x2 h
          · omega
          · omega
        · refine hk a' w' K' hS' (hx1.trans hx') hσ' hB' (fun x hu => ?_)
          rcases hu' x hu with h | ⟨j, hj, h⟩ | h
          · rcases hu1 x h with h | h | h
            · exact .inl h
            · exact .inr (.inl ⟨i, by simp, h⟩)
            · exact .inr (.inr h)
          · exact .inr (.inl ⟨j, by simp [hj], h⟩)
          · exact .inr (.inr h)
      · cases h
    · cases h
end
end Go.Ev
