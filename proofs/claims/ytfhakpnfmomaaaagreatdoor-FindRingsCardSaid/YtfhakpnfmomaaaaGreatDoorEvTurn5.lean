/- A part of an evaluator of closed runs, and of the proof that what it answers holds of the model. No conditions. -/
import Derived.Test.YtfhakpnfmomaaaaGreatDoorEvTurn4
namespace Go.Ev
open Go

theorem deepC_strip (X : Objs) : ∀ (n : Nat) (d : DV), deepC (strip X) n d = deepC X n d
  | 0, d => rfl
  | n + 1, d => by
    have ih := deepC_strip X n
    have e : deepC (strip X) n = deepC X n := funext ih
    cases d with
    | own r off len =>
      simp only [deepC, get_strip, e]
      cases X.get r with
      | none => rfl
      | some o => cases o <;> rfl
    | mp r row off =>
      simp only [deepC, get_strip, e]
      cases X.get r with
      | none => rfl
      | some o => cases o <;> rfl
    | omap r =>
      simp only [deepC, get_strip, e]
      cases X.get r with
      | none => rfl
      | some o => cases o <;> rfl
    | clo f a b => simp only [deepC, e]
    | iface t v => simp only [deepC, e]
    | agg cs => simp only [deepC, e]
    | _ => rfl
theorem deepA_strip (X : Objs) (d : DV) : deepA (strip X) d = deepA X d := by
  have e : deepC (strip X) 9 = deepC X 9 := funext (deepC_strip X 9)
  unfold deepA
  rw [e]
theorem reach_strip (X : Objs) : ∀ (n : Nat) (d : DV), reach (strip X) n d = reach X n d
  | 0, d => rfl
  | n + 1, d => by
    have e : reach (strip X) n = reach X n := funext (reach_strip X n)
    cases d with
    | own r off len =>
      simp only [reach, get_strip, e]
      cases X.get r with
      | none => rfl
      | some o => cases o <;> rfl
    | mp r row off =>
      simp only [reach, get_strip, e]
      cases X.get r with
      | none => rfl
      | some o => cases o <;> rfl
    | omap r =>
      simp only [reach, get_strip, e]
      cases X.get r with
      | none => rfl
      | some o => cases o <;> rfl
    | clo f a b => simp only [reach, e]
    | iface t v => simp only [reach, e]
    | agg cs => simp only [reach, e]
    | _ => rfl

/-! ### Stores and their turns -/
theorem appU_append (F : Nat) : ∀ (l m : List (Nat × Upd)) (σ : Store), appU F (l ++ m) σ = appU F m (appU F l σ)
  | [], _, _ => rfl
  | (s, u) :: l, m, σ => appU_append F l m (u.app F s σ)
theorem upd_comm {F s t : Nat} (u v : Upd) (h : s ≠ t) (σ : Store) : v.app F t (u.app F s σ) = u.app F s (v.app F t σ) := by
  cases u <;> cases v <;> first
    | rfl
    | exact put_comm σ _ _ (fun x => h x.2)
    | exact putTok_comm σ _ _ (fun x => h x.2)
theorem appU_upd {F s : Nat} (u : Upd) : ∀ (l : List (Nat × Upd)), (∀ x ∈ l, x.1 ≠ s) → ∀ σ, appU F l (u.app F s σ) = u.app F s (appU F l σ)
  | [], _, _ => rfl
  | (t, v) :: l, h, σ => by
    simp only [appU]
    rw [upd_comm u v (fun e => h (t, v) (by simp) e.symm), appU_upd u l (fun x hx => h x (by simp [hx]))]
theorem upd_hide {F s : Nat} {hide : List Nat} (h : hide.contains s = true) (u : Upd) (σ : Store) : (u.app F s σ).obj.hide F hide = σ.obj.hide F hide := by
  cases u with
  | no => rfl
  | ob e => exact hide_put σ F s (some e) hide h
  | tk e => rfl
theorem appU_hide {F : Nat} {hide : List Nat} : ∀ (l : List (Nat × Upd)), (∀ x ∈ l, hide.contains x.1 = true) → ∀ σ, (appU F l σ).obj.hide F hide = σ.obj.hide F hide
  | [], _, _ => rfl
  | (s, u) :: l, h, σ => by
    simp only [appU]
    rw [appU_hide l (fun x hx => h x (by simp [hx])), upd_hide (h (s, u) (by simp))]
theorem frz_frz (o : Ob) : o.frz.frz = o.frz := by cases o <;> rfl
theorem strip_frz1 (σ : Store) (r : Ref) : strip (frz1 σ r).obj = strip σ.obj := by
  have go : ∀ o, σ.obj.get r = some o → strip (σ.set r o.frz).obj = strip σ.obj := by
    intro o hg
    have h := get_spec.1 hg
    funext f s
    unfold strip Store.set Store.put
    simp only
    by_cases h1 : f = r.f
    · by_cases h2 : s = r.s
      · rw [if_pos h1, if_pos h2, h1, h2, h]
        simp [frz_frz]
      · rw [if_pos h1, if_neg h2, h1]
    · rw [if_neg h1]
  unfold frz1
  cases hg : σ.obj.get r with
  | none => rfl
  | some o =>
    have := go o hg
    cases o <;> exact this
theorem strip_freezeAll : ∀ (l : List Ref) (σ : Store), strip (freezeAll σ l).obj = strip σ.obj
  | [], _ => rfl
  | r :: l, σ => by rw [freezeAll_cons, strip_freezeAll l, strip_frz1]
theorem strip_hide (X : Objs) (F : Nat) (hide : List Nat) : strip (X.hide F hide) = (strip X).hide F hide := by
  cases hide with
  | nil => rfl
  | cons a l =>
    funext f s
    unfold strip Objs.hide
    simp only
    split <;> rfl
theorem frz1_put {σ : Store} {r : Ref} {F s : Nat} (h : ¬ (r.f = F ∧ r.s = s)) (u : Upd) : frz1 (u.app F s σ) r = u.app F s (frz1 σ r) := by
  cases u with
  | no => rfl
  | tk e =>
    unfold frz1
    show (match σ.obj.get r with | some (.arr sz rows _) => (σ.putTok F s (some e)).set r (.arr sz rows false) | some (.map es _) => (σ.putTok F s (some e)).set r (.map es false) | none => σ.putTok F s (some e)) = _
    cases σ.obj.get r with
    | none => rfl
    | some o => cases o <;> rfl
  | ob e =>
    have hg : (σ.put F s (some e)).obj.get r = σ.obj.get r := by
      unfold Objs.get Store.put
      simp only
      by_cases h1 : r.f = F
      · have h2 : ¬ r.s = s := fun x => h ⟨h1, x⟩
        rw [if_pos h1, if_neg h2]
      · rw [if_neg h1]
    unfold frz1
    show (match (σ.put F s (some e)).obj.get r with | some (.arr sz rows _) => (σ.put F s (some e)).set r (.arr sz rows false) | some (.map es _) => (σ.put F s (some e)).set r (.map es false) | none => σ.put F s (some e)) = (match σ.obj.get r with | some (.arr sz rows _) => σ.set r (.arr sz rows false) | some (.map es _) => σ.set r (.map es false) | none => σ).put F s (some e)
    rw [hg]
    cases σ.obj.get r with
    | none => rfl
    | some o => cases o <;> exact put_comm σ _ _ (fun x => h ⟨x.1.symm, x.2.symm⟩)
theorem freezeAll_put {F s : Nat} (u : Upd) : ∀ (l : List Ref), (∀ r ∈ l, ¬ (r.f = F ∧ r.s = s)) → ∀ σ, freezeAll (u.app F s σ) l = u.app F s (freezeAll σ l)
  | [], _, _ => rfl
  | r :: l, h, σ => by rw [freezeAll_cons, freezeAll_cons, frz1_put (h r (by simp)), freezeAll_put u l (fun x hx => h x (by simp [hx]))]

/-! ### What a call takes in -/
def InSites (ss : Sites) (U : List (Nat × Upd)) : Prop := ∀ u ∈ U, ∃ e ∈ ss, e.1 = u.1
theorem impC_upd (F : Nat) (b : Bool) (d : DV) (ss : Sites) (st : Nat) : ∃ g : Option (DV × Sites × Nat × List (Nat × Upd)), (∀ x, g = some x → InSites ss x.2.2.2 ∧ ∀ e ∈ x.2.1, e ∈ ss) ∧ ∀ σ, impC F b d ss st σ = g.map fun x => (x.1, x.2.1, x.2.2.1, appU F x.2.2.2 σ) := by
  have none : ∀ (d' : DV) (ss' : Sites), (∀ e ∈ ss', e ∈ ss) → (∀ σ, impC F b d ss st σ = some (d', ss', st, σ)) → ∃ g : Option (DV × Sites × Nat × List (Nat × Upd)), (∀ x, g = some x → InSites ss x.2.2.2 ∧ ∀ e ∈ x.2.1, e ∈ ss) ∧ ∀ σ, impC F b d ss st σ = g.map fun x => (x.1, x.2.1, x.2.2.1, appU F x.2.2.2 σ) := by
    intro d' ss' h1 h2
    refine ⟨some (d', ss', st, []), fun x hx => ?_, fun σ => by rw [h2]; rfl⟩
    simp only [Option.some.injEq] at hx
    subst hx
    exact ⟨fun u hu => absurd hu (by simp), h1⟩
  cases d with
  | new ow sz rows =>
    cases ss with
    | nil => exact none _ _ (fun e h => h) (fun σ => rfl)
    | cons e r =>
      obtain ⟨site, k⟩ := e
      have go : k ≠ .imm → ∃ g : Option (DV × Sites × Nat × List (Nat × Upd)), (∀ x, g = some x → InSites ((site, k) :: r) x.2.2.2 ∧ ∀ e ∈ x.2.1, e ∈ (site, k) :: r) ∧ ∀ σ, impC F b (.new ow sz rows) ((site, k) :: r) st σ = g.map fun x => (x.1, x.2.1, x.2.2.1, appU F x.2.2.2 σ) := by
        intro hk
        have hdef : ∀ σ, impC F b (.new ow sz rows) ((site, k) :: r) st σ = (if k == .lin && !ow then some (.lin rows ⟨F, site, st⟩, r, st + 1, σ.putTok F site (some (st, sz, rows.length)))
            else if b && !rows.isEmpty && (ow || scalarD (.new ow sz rows)) then some (.own ⟨F, site, st⟩ 0 rows.length, r, st + 1, σ.put F site (some (st, .arr sz (rows.map fun row => row.map .p) true)))
            else some (.p (.sl rows), r, st, σ)) := by
          intro σ
          cases k with
          | imm => exact absurd rfl hk
          | lin => rfl
          | own => rfl
        by_cases h1 : (k == .lin && !ow) = true
        · refine ⟨some (.lin rows ⟨F, site, st⟩, r, st + 1, [(site, .tk (st, sz, rows.length))]), fun x hx => ?_, fun σ => by rw [hdef, if_pos h1]; rfl⟩
          simp only [Option.some.injEq] at hx
          subst hx
          exact ⟨fun u hu => ⟨(site, k), by simp, by simp at hu; rw [hu]⟩, fun e he => by simp [he]⟩
        · by_cases h2 : (b && !rows.isEmpty && (ow || scalarD (.new ow sz rows))) = true
          · refine ⟨some (.own ⟨F, site, st⟩ 0 rows.length, r, st + 1, [(site, .ob (st, .arr sz (rows.map fun row => row.map .p) true))]), fun x hx => ?_, fun σ => by rw [hdef, if_neg h1, if_pos h2]; rfl⟩
            simp only [Option.some.injEq] at hx
            subst hx
            exact ⟨fun u hu => ⟨(site, k), by simp, by simp at hu; rw [hu]⟩, fun e he => by simp [he]⟩
          · refine ⟨some (.p (.sl rows), r, st, []), fun x hx => ?_, fun σ => by rw [hdef, if_neg h1, if_neg h2]; rfl⟩
            simp only [Option.some.injEq] at hx
            subst hx
            exact ⟨fun u hu => absurd hu (by simp), fun e he => by simp [he]⟩
      cases k with
      | imm => exact none _ _ (fun e h => by simp [h]) (fun σ => rfl)
      | lin => exact go (by simp)
      | own => exact go (by simp)
  | _ => exact none _ _ (fun e h => h) (fun σ => rfl)

theorem InSites.mono {ss ss' : Sites} {U : List (Nat × Upd)} (h : InSites ss' U) (hs : ∀ e ∈ ss', e ∈ ss) : InSites ss U := fun u hu => by
  obtain ⟨e, he, h1⟩ := h u hu
  exact ⟨e, hs e he, h1⟩
theorem InSites.append {ss : Sites} {U V : List (Nat × Upd)} (h : InSites ss U) (k : InSites ss V) : InSites ss (U ++ V) := fun u hu => by
  rcases List.mem_append.1 hu with hu | hu
  · exact h u hu
  · exact k u hu

theorem impL_upd (F : Nat) : ∀ (ds : List DV) (ss : Sites) (st : Nat), ∃ g : Option (List DV × Sites × Nat × List (Nat × Upd)), (∀ x, g = some x → InSites ss x.2.2.2 ∧ ∀ e ∈ x.2.1, e ∈ ss) ∧ ∀ σ, impL F ds ss st σ = g.map fun x => (x.1, x.2.1, x.2.2.1, appU F x.2.2.2 σ)
  | [], ss, st => ⟨some ([], ss, st, []), fun x hx => by simp only [Option.some.injEq] at hx; subst hx; exact ⟨fun u hu => absurd hu (by simp), fun e h => h⟩, fun σ => rfl⟩
  | d :: ds, ss, st => by
    obtain ⟨g, h1, h2⟩ := impC_upd F false d ss st
    cases g with
    | none => exact ⟨none, fun x hx => by simp at hx, fun σ => by simp only [impL, h2]; rfl⟩
    | some y =>
      obtain ⟨d', ss', st', U⟩ := y
      obtain ⟨g', h3, h4⟩ := impL_upd F ds ss' st'
      obtain ⟨i1, i2⟩ := h1 _ rfl
      cases g' with
      | none => exact ⟨none, fun x hx => by simp at hx, fun σ => by simp only [impL, h2, Option.map_some, h4]; rfl⟩
      | some z =>
        obtain ⟨ds', ss2, st2, V⟩ := z
        obtain ⟨j1, j2⟩ := h3 _ rfl
        refine ⟨some (d' :: ds', ss2, st2, U ++ V), fun x hx => ?_, fun σ => ?_⟩
        · simp only [Option.some.injEq] at hx
          subst hx
          exact ⟨i1.append (j1.mono i2), fun e he => i2 e (j2 e he)⟩
        · simp only [impL, h2, Option.map_some, h4, appU_append]
theorem impV_upd (F : Nat) (d : DV) (ss : Sites) (st : Nat) : ∃ g : Option (DV × Sites × Nat × List (Nat × Upd)), (∀ x, g = some x → InSites ss x.2.2.2 ∧ ∀ e ∈ x.2.1, e ∈ ss) ∧ ∀ σ, impV F d ss st σ = g.map fun x => (x.1, x.2.1, x.2.2.1, appU F x.2.2.2 σ) := by
  cases d with
  | agg cs =>
    obtain ⟨g, h1, h2⟩ := impL_upd F cs ss st
    cases g with
    | none => exact ⟨none, fun x hx => by simp at hx, fun σ => by simp only [impV, h2]; rfl⟩
    | some y =>
      obtain ⟨ds', ss', st', U⟩ := y
      refine ⟨some (.agg ds', ss', st', U), fun x hx => ?_, fun σ => by simp only [impV, h2]; rfl⟩
      simp only [Option.some.injEq] at hx
      subst hx
      exact h1 _ rfl
  | undef => exact impC_upd F false .undef ss st
  | p v => exact impC_upd F false (.p v) ss st
  | tup vs => exact impC_upd F false (.tup vs) ss st
  | lin rows r => exact impC_upd F false (.lin rows r) ss st
  | own r o l => exact impC_upd F false (.own r o l) ss st
  | mp r x y => exact impC_upd F false (.mp r x y) ss st
  | omap r => exact impC_upd F false (.omap r) ss st
  | clo f x y => exact impC_upd F false (.clo f x y) ss st
  | iface t v => exact impC_upd F false (.iface t v) ss st
  | new ow sz rows => exact impC_upd F false (.new ow sz rows) ss st
  | ent r i => exact impC_upd F false (.ent r i) ss st
theorem impVs_upd (F : Nat) : ∀ (ds : List DV) (ss : Sites) (st : Nat), ∃ g : Option (List DV × Sites × Nat × List (Nat × Upd)), (∀ x, g = some x → InSites ss x.2.2.2 ∧ ∀ e ∈ x.2.1, e ∈ ss) ∧ ∀ σ, impVs F ds ss st σ = g.map fun x => (x.1, x.2.1, x.2.2.1, appU F x.2.2.2 σ)
  | [], ss, st => ⟨some ([], ss, st, []), fun x hx => by simp only [Option.some.injEq] at hx; subst hx; exact ⟨fun u hu => absurd hu (by simp), fun e h => h⟩, fun σ => rfl⟩
  | d :: ds, ss, st => by
    obtain ⟨g, h1, h2⟩ := impV_upd F d ss st
    cases g with
    | none => exact ⟨none, fun x hx => by simp at hx, fun σ => by simp only [impVs, h2]; rfl⟩
    | some y =>
      obtain ⟨d', ss', st', U⟩ := y
      obtain ⟨g', h3, h4⟩ := impVs_upd F ds ss' st'
      obtain ⟨i1, i2⟩ := h1 _ rfl
      cases g' with
      | none => exact ⟨none, fun x hx => by simp at hx, fun σ => by simp only [impVs, h2, Option.map_some, h4]; rfl⟩
      | some z =>
        obtain ⟨ds', ss2, st2, V⟩ := z
        obtain ⟨j1, j2⟩ := h3 _ rfl
        refine ⟨some (d' :: ds', ss2, st2, U ++ V), fun x hx => ?_, fun σ => ?_⟩
        · simp only [Option.some.injEq] at hx
          subst hx
          exact ⟨i1.append (j1.mono i2), fun e he => i2 e (j2 e he)⟩
        · simp only [impVs, h2, Option.map_some, h4, appU_append]
theorem importD_upd (F : Nat) (d : DV) (ss : Sites) (st : Nat) : ∃ g : Option (DV × List (Nat × Upd)), (∀ x, g = some x → InSites ss x.2) ∧ ∀ σ, importD F d ss st σ = g.map fun x => (x.1, appU F x.2 σ) := by
  have mk : ∀ {α : Type} (mkd : α → DV) (g : Option (α × Sites × Nat × List (Nat × Upd))) (imp : Store → Option (α × Sites × Nat × Store)), (∀ x, g = some x → InSites ss x.2.2.2 ∧ ∀ e ∈ x.2.1, e ∈ ss) → (∀ σ, imp σ = g.map fun x => (x.1, x.2.1, x.2.2.1, appU F x.2.2.2 σ)) →
      (∀ σ, importD F d ss st σ = (imp σ).map fun x => (mkd x.1, x.2.2.2)) → ∃ g : Option (DV × List (Nat × Upd)), (∀ x, g = some x → InSites ss x.2) ∧ ∀ σ, importD F d ss st σ = g.map fun x => (x.1, appU F x.2 σ) := by
    intro α mkd g imp h1 h2 h3
    refine ⟨g.map fun x => (mkd x.1, x.2.2.2), fun x hx => ?_, fun σ => ?_⟩
    · obtain ⟨y, h4, rfl⟩ := Option.map_eq_some_iff.1 hx
      exact (h1 y h4).1
    · rw [h3, h2, Option.map_map, Option.map_map]; rfl
  cases d with
  | tup vs => obtain ⟨g, h1, h2⟩ := impVs_upd F vs ss st; exact mk DV.tup g _ h1 h2 (fun σ => rfl)
  | new ow sz rows => obtain ⟨g, h1, h2⟩ := impC_upd F true (.new ow sz rows) ss st; exact mk (fun x => x) g _ h1 h2 (fun σ => rfl)
  | undef => obtain ⟨g, h1, h2⟩ := impV_upd F .undef ss st; exact mk (fun x => x) g _ h1 h2 (fun σ => rfl)
  | p v => obtain ⟨g, h1, h2⟩ := impV_upd F (.p v) ss st; exact mk (fun x => x) g _ h1 h2 (fun σ => rfl)
  | lin rows r => obtain ⟨g, h1, h2⟩ := impV_upd F (.lin rows r) ss st; exact mk (fun x => x) g _ h1 h2 (fun σ => rfl)
  | own r o l => obtain ⟨g, h1, h2⟩ := impV_upd F (.own r o l) ss st; exact mk (fun x => x) g _ h1 h2 (fun σ => rfl)
  | mp r x y => obtain ⟨g, h1, h2⟩ := impV_upd F (.mp r x y) ss st; exact mk (fun x => x) g _ h1 h2 (fun σ => rfl)
  | omap r => obtain ⟨g, h1, h2⟩ := impV_upd F (.omap r) ss st; exact mk (fun x => x) g _ h1 h2 (fun σ => rfl)
  | clo f x y => obtain ⟨g, h1, h2⟩ := impV_upd F (.clo f x y) ss st; exact mk (fun x => x) g _ h1 h2 (fun σ => rfl)
  | iface t v => obtain ⟨g, h1, h2⟩ := impV_upd F (.iface t v) ss st; exact mk (fun x => x) g _ h1 h2 (fun σ => rfl)
  | ent r i => obtain ⟨g, h1, h2⟩ := impV_upd F (.ent r i) ss st; exact mk (fun x => x) g _ h1 h2 (fun σ => rfl)
  | agg cs => obtain ⟨g, h1, h2⟩ := impV_upd F (.agg cs) ss st; exact mk (fun x => x) g _ h1 h2 (fun σ => rfl)

/-- A call as it turns the store. -/
theorem pureCall_upd (R : Recs) (F st : Nat) (hide : List Nat) (f : Nat) (args : List DV) (ss : Sites) : ∃ g : Objs → Option (DV × List (Nat × Upd) × List Ref),
    (∀ X x, g X = some x → InSites ss x.2.1 ∧ ∀ r ∈ x.2.2, ¬ (r.f = F ∧ hide.contains r.s = true)) ∧
    ∀ σ, pureCall R F st hide (σ.obj.hide F hide) σ f args ss = (g (strip (σ.obj.hide F hide))).map fun x => (x.1, appU F x.2.1 (freezeAll σ x.2.2)) := by
  have hU : ∀ d, ∃ g : Option (DV × List (Nat × Upd)), (∀ x, g = some x → InSites ss x.2) ∧ ∀ σ, importD F d ss st σ = g.map fun x => (x.1, appU F x.2 σ) := fun d => importD_upd F d ss st
  let U := fun d => Classical.choose (hU d)
  have hU1 : ∀ d x, U d = some x → InSites ss x.2 := fun d => (Classical.choose_spec (hU d)).1
  have hU2 : ∀ d σ, importD F d ss st σ = (U d).map fun x => (x.1, appU F x.2 σ) := fun d => (Classical.choose_spec (hU d)).2
  refine ⟨fun X => match mapO (deepA X) args with
    | some as => match R.pure f as with
      | some d => if scalarR d then (U d).map fun x => (x.1, x.2, [])
        else if (args.flatMap (reach X 10)).any fun r => r.f == F && hide.contains r.s then none
        else (U d).map fun x => (x.1, x.2, args.flatMap (reach X 10))
      | none => none
    | none => none, fun X x hx => ?_, fun σ => ?_⟩
  · simp only at hx
    split at hx
    · split at hx
      · rename_i d _
        split at hx
        · obtain ⟨y, h1, rfl⟩ := Option.map_eq_some_iff.1 hx
          exact ⟨hU1 d y h1, fun r hr => absurd hr (by simp)⟩
        · split at hx
          · cases hx
          · rename_i hany
            obtain ⟨y, h1, rfl⟩ := Option.map_eq_some_iff.1 hx
            refine ⟨hU1 d y h1, fun r hr hc => hany ?_⟩
            exact List.any_eq_true.2 ⟨r, hr, by simp [hc.1]; simpa using hc.2⟩
      · cases hx
    · cases hx
  · have e1 : deepA (strip (σ.obj.hide F hide)) = deepA (σ.obj.hide F hide) := funext (deepA_strip _)
    have e2 : reach (strip (σ.obj.hide F hide)) 10 = reach (σ.obj.hide F hide) 10 := funext (reach_strip _ 10)
    unfold pureCall
    simp only [e1, e2, hU2]
    cases mapO (deepA (σ.obj.hide F hide)) args with
    | none => rfl
    | some as =>
      simp only
      cases R.pure f as with
      | none => rfl
      | some d =>
        simp only
        split
        · rw [Option.map_map]; rfl
        · split
          · rfl
          · rw [Option.map_map]; rfl
end Go.Ev
