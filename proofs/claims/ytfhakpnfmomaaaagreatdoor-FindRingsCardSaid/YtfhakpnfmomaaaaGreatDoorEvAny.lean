/- A part of an evaluator of closed runs, and of the proof that what it answers holds of the model. No conditions. -/
import Derived.Test.YtfhakpnfmomaaaaGreatDoorEvReg
namespace Go.Ev
open Go
section
variable {GP : (Nat → Option Value) → Prop} {P : Program} {F : Fence} {n : Nat} {ops : Array Oper} {Q : Exit → Act → World → Prop} {N : Nat} {ds : Nat}

/-- Two steps may be turned about. -/
def Turns (R : Recs) (Fr c0 : Nat) (l : List OpI) (k i : Nat) : Prop := ∀ (fr : Frame) (σ : Store) (s : Frame × Store), evIdx R Fr c0 l [k, i] fr σ = some s → evIdx R Fr c0 l [i, k] fr σ = some s

theorem evIdx_append (R : Recs) (Fr c0 : Nat) (l : List OpI) : ∀ (is js : List Nat) (fr : Frame) (σ : Store), evIdx R Fr c0 l (is ++ js) fr σ = (evIdx R Fr c0 l is fr σ).bind fun x => evIdx R Fr c0 l js x.1 x.2
  | [], js, fr, σ => rfl
  | i :: is, js, fr, σ => by
    simp only [List.cons_append, evIdx]
    cases l[i]? with
    | none => rfl
    | some o =>
      simp only
      cases evStep R Fr c0 i o fr σ with
      | none => rfl
      | some x => exact evIdx_append R Fr c0 l is js x.1 x.2

/-- A step that may be turned about with all ahead of it comes first. -/
theorem move_front {R : Recs} {Fr c0 : Nat} {l : List OpI} (j : Nat) : ∀ (pre post : List Nat), (∀ k ∈ pre, Turns R Fr c0 l k j) → ∀ (fr : Frame) (σ : Store) (s : Frame × Store), evIdx R Fr c0 l (pre ++ j :: post) fr σ = some s → evIdx R Fr c0 l (j :: (pre ++ post)) fr σ = some s
  | [], post, _, fr, σ, s, h => h
  | k :: pre, post, ht, fr, σ, s, h => by
    have e1 : evIdx R Fr c0 l ([k] ++ (pre ++ j :: post)) fr σ = some s := h
    rw [evIdx_append] at e1
    obtain ⟨x, h1, h2⟩ := Option.bind_eq_some_iff.1 e1
    have h3 := move_front j pre post (fun k hk => ht k (by simp [hk])) x.1 x.2 s h2
    have e2 : evIdx R Fr c0 l ([j] ++ (pre ++ post)) x.1 x.2 = some s := h3
    rw [evIdx_append] at e2
    obtain ⟨y, h4, h5⟩ := Option.bind_eq_some_iff.1 e2
    have h6 : evIdx R Fr c0 l [k, j] fr σ = some y := by
      show evIdx R Fr c0 l ([k] ++ [j]) fr σ = some y
      rw [evIdx_append, h1]; exact h4
    have h7 := ht k (by simp) fr σ y h6
    show evIdx R Fr c0 l ([j, k] ++ (pre ++ post)) fr σ = some s
    rw [evIdx_append, h7]
    exact h5

/-- What must stand ahead of each operation: closed, and each ahead by its index. -/
structure Ahead (ops : Array Oper) (D : Nat → List Nat) : Prop where
  dir : ∀ i o, ops[i]? = some o → ∀ e ∈ o.after, Region.binds .any e = true → e.on < i ∧ e.on ∈ D i
  from_dir : ∀ i o k, ops[i]? = some o → k ∈ D i → ∃ e ∈ o.after, Region.binds .any e = true ∧ (k = e.on ∨ k ∈ D e.on)

/-- A REGION IN ANY ORDER that its edges let. -/
theorem region_any {Fr : Nat} {R : Recs} {c0 B : Nat} {l : List OpI} {D : Nat → List Nat} (hD : Ahead ops D) (hstep : ∀ i oi, l[i]? = some oi → StepOK GP F n P ops Q N ds Fr R c0 B i oi) (_ : l.length = ops.size)
    (hturn : ∀ k i, k < i → i < ops.size → k ∉ D i → Turns R Fr c0 l k i) :
    ∀ (fuel : Nat) (listed : Array Bool) (rem : List Nat), rem.Pairwise (· < ·) → (∀ j, j ∈ rem ↔ j < ops.size ∧ listed.getD j true = false) → listed.size = ops.size → (∀ i, i < ops.size → listed.getD i true = true → ∀ k ∈ D i, listed.getD k false = true) → rem.length ≤ fuel →
      ∀ (w : World) (K : Ctx) (a : Act) (fr fr' : Frame) (σ' : Store), StR GP w K N ds a fr → Free K c0 B rem → Cnt B K → evIdx R Fr c0 l rem fr K.σ = some (fr', σ') →
      (∀ a' w' K', StR GP w' K' N ds a' fr' → Ext w K w' K' → K'.σ = σ' → Cnt B K' → (∀ x, K'.used x → K.used x ∨ (∃ i ∈ rem, c0 + 16 * i ≤ x ∧ x < c0 + 16 * i + 16) ∨ B ≤ x) → Q .normal a' w') → wpAnyIn F n P .any ops Q fuel listed a w := by
  have listed_true : ∀ (listed : Array Bool), listed.size = ops.size → ∀ k, k < ops.size → (listed.getD k false = true ↔ listed.getD k true = true) := by
    intro listed hs k hk
    have : k < listed.size := by omega
    simp [Array.getD, this]
  have done : ∀ (listed : Array Bool) (rem : List Nat), rem = [] → ∀ (w : World) (K : Ctx) (a : Act) (fr fr' : Frame) (σ' : Store), StR GP w K N ds a fr → Cnt B K → evIdx R Fr c0 l rem fr K.σ = some (fr', σ') →
      (∀ a' w' K', StR GP w' K' N ds a' fr' → Ext w K w' K' → K'.σ = σ' → Cnt B K' → (∀ x, K'.used x → K.used x ∨ (∃ i ∈ rem, c0 + 16 * i ≤ x ∧ x < c0 + 16 * i + 16) ∨ B ≤ x) → Q .normal a' w') → Q .normal a w := by
    rintro listed rem rfl w K a fr fr' σ' hS hB h hk
    simp only [evIdx, Option.some.injEq, Prod.mk.injEq] at h
    obtain ⟨rfl, rfl⟩ := h
    exact hk a w K hS (.refl _ _) rfl hB (fun _ h => .inl h)
  -- the first of what is left is ready
  have first : ∀ (listed : Array Bool) (i0 : Nat) (rem : List Nat), listed.size = ops.size → (i0 :: rem).Pairwise (· < ·) → (∀ j, j ∈ (i0 :: rem) ↔ j < ops.size ∧ listed.getD j true = false) → i0 ∈ Region.ready .any ops listed := by
    intro listed i0 rem hs hp hr
    have h0 := (hr i0).1 (by simp)
    rw [mem_ready]
    refine ⟨h0.2, ops[i0]'h0.1, Array.getElem?_eq_getElem h0.1, fun e he hb => ?_⟩
    obtain ⟨h1, _⟩ := hD.dir i0 _ (Array.getElem?_eq_getElem h0.1) e he hb
    rw [listed_true listed hs e.on (by omega)]
    cases hc : listed.getD e.on true with
    | true => rfl
    | false =>
      have := (hr e.on).2 ⟨by omega, hc⟩
      rcases List.mem_cons.1 this with h | h
      · omega
      · have := List.rel_of_pairwise_cons hp h; omega
  intro fuel
  induction fuel with
  | zero =>
    intro listed rem hp hr hs hcl hle w K a fr fr' σ' hS hfree hB h hk
    have h0 : rem = [] := List.eq_nil_of_length_eq_zero (by omega)
    refine ⟨?_, done listed rem h0 w K a fr fr' σ' hS hB h hk⟩
    apply List.eq_nil_iff_forall_not_mem.2
    intro j hj
    obtain ⟨h1, o, h2, _⟩ := mem_ready.1 hj
    have := (hr j).2 ⟨(Array.getElem?_eq_some_iff.1 h2).1, h1⟩
    rw [h0] at this; cases this
  | succ fuel ih =>
    intro listed rem hp hr hs hcl hle w K a fr fr' σ' hS hfree hB h hk
    refine ⟨fun hready => ?_, fun j hj => ?_⟩
    · cases rem with
      | nil => exact done listed [] rfl w K a fr fr' σ' hS hB h hk
      | cons i0 rem =>
        have := first listed i0 rem hs hp hr
        rw [hready] at this; cases this
    · obtain ⟨hj1, oj, hoj, hall⟩ := mem_ready.1 hj
      have hjlt := (Array.getElem?_eq_some_iff.1 hoj).1
      have hjr : j ∈ rem := (hr j).2 ⟨hjlt, hj1⟩
      obtain ⟨pre, post, rfl⟩ := List.append_of_mem hjr
      have hnd : (pre ++ j :: post).Nodup := hp.imp (fun h => Nat.ne_of_lt h)
      have hDl : ∀ k ∈ D j, listed.getD k false = true := by
        intro k hk
        obtain ⟨e, he, hb, h1 | h1⟩ := hD.from_dir j oj k hoj hk
        · rw [h1]; exact hall e he hb
        · obtain ⟨h2, _⟩ := hD.dir j oj hoj e he hb
          exact hcl e.on (by omega) ((listed_true listed hs e.on (by omega)).1 (hall e he hb)) k h1
      have hpre : ∀ k ∈ pre, Turns R Fr c0 l k j := by
        intro k hk
        have h1 : k < j := (List.pairwise_append.1 hp).2.2 k hk j (by simp)
        have h2 := (hr k).1 (by simp [hk])
        refine hturn k j h1 hjlt (fun hkD => ?_)
        have := (listed_true listed hs k h2.1).1 (hDl k hkD)
        rw [h2.2] at this; cases this
      have h' := move_front j pre post hpre fr K.σ (fr', σ') h
      simp only [evIdx] at h'
      split at h'
      · rename_i oi hoi
        split at h'
        · rename_i fr1 σ1 h1
          refine hstep j oi hoi w K a fr fr1 σ1 _ hS (hfree j hjr).1 (hfree j hjr).2 hB h1 (fun a1 w1 K1 hS1 hx1 hσ1 hB1 hu1 => ?_)
          have hsub : ∀ k, k ∈ pre ++ post → k ∈ pre ++ j :: post ∧ k ≠ j := by
            intro k hk
            rw [List.nodup_append] at hnd
            rcases List.mem_append.1 hk with h2 | h2
            · exact ⟨by simp [h2], fun e => hnd.2.2 k h2 j (by simp) e⟩
            · exact ⟨by simp [h2], fun e => (List.nodup_cons.1 hnd.2.1).1 (e ▸ h2)⟩
          refine ih (listed.setIfInBounds j true) (pre ++ post) ?_ ?_ ?_ ?_ ?_ w1 K1 a1 fr1 fr' σ' hS1 ?_ hB1 (by rw [hσ1]; exact h') ?_
          · rw [List.pairwise_append] at hp ⊢
            exact ⟨hp.1, (List.pairwise_cons.1 hp.2.1).2, fun x hx y hy => hp.2.2 x hx y (by simp [hy])⟩
          · intro k
            constructor
            · intro hk
              obtain ⟨k1, k2⟩ := hsub k hk
              obtain ⟨k3, k4⟩ := (hr k).1 k1
              exact ⟨k3, by rw [getD_set_ne true (Ne.symm k2)]; exact k4⟩
            · rintro ⟨k1, k2⟩
              have hne : k ≠ j := by
                rintro rfl
                have hjl : k < listed.size := by omega
                simp [hjl] at k2
              rw [getD_set_ne true (Ne.symm hne)] at k2
              have := (hr k).2 ⟨k1, k2⟩
              simp only [List.mem_append, List.mem_cons] at this ⊢
              rcases this with h | h | h
              · exact .inl h
              · exact absurd h hne
              · exact .inr h
          · simpa using hs
          · intro i hi' hli k hkD
            by_cases hij : i = j
            · rw [hij] at hkD
              exact getD_set_true (hDl k hkD)
            · rw [getD_set_ne true (Ne.symm hij)] at hli
              exact getD_set_true (hcl i hi' hli k hkD)
          · simp only [List.length_append, List.length_cons] at hle ⊢; omega
          · intro k hk
            obtain ⟨k1, k2⟩ := hsub k hk
            obtain ⟨f1, f2⟩ := hfree k k1
            refine ⟨f1, fun x x1 x2 hu => ?_⟩
            rcases hu1 x hu with h | ⟨y1, y2⟩ | h
            · exact f2 x x1 x2 h
            · omega
            · omega
          · intro a' w' K' hS' hx' hσ' hB' hu'
            refine hk a' w' K' hS' (hx1.trans hx') hσ' hB' (fun x hu => ?_)
            rcases hu' x hu with h | ⟨i, hi, h⟩ | h
            · rcases hu1 x h with h | h | h
              · exact .inl h
              · exact .inr (.inl ⟨j, hjr, h⟩)
              · exact .inr (.inr h)
            · exact .inr (.inl ⟨i, (hsub i hi).1, h⟩)
            · exact .inr (.inr h)
        · cases h'
      · cases h'
end
end Go.Ev
