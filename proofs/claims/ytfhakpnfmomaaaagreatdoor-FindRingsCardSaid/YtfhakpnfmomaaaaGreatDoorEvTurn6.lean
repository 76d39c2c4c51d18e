/- A part of an evaluator of closed runs, and of the proof that what it answers holds of the model. No conditions. -/
import Derived.Test.YtfhakpnfmomaaaaGreatDoorEvTurn5
namespace Go.Ev
open Go

abbrev Val := Store → Option (DV × Store)
def CommV (V W : Val) : Prop := ∀ σ d σ1 d2 σ2, V σ = some (d, σ1) → W σ1 = some (d2, σ2) → ∃ σ', W σ = some (d2, σ') ∧ V σ' = some (d, σ2)
def isBlind (V : Val) : Prop := ∃ c : Option DV, ∀ σ, V σ = c.map fun d => (d, σ)
def isLook (F : Nat) (hide : List Nat) (V : Val) : Prop := ∃ g : Objs → Option DV, ∀ σ, V σ = (g (strip (σ.obj.hide F hide))).map fun d => (d, σ)
def isSite (F s : Nat) (V : Val) : Prop := ∃ g : Option (DV × Upd), ∀ σ : Store, V σ = g.map fun x => (x.1, x.2.app F s σ)
def isCall (F : Nat) (hide : List Nat) (ss : Sites) (V : Val) : Prop := ∃ g : Objs → Option (DV × List (Nat × Upd) × List Ref),
    (∀ X x, g X = some x → InSites ss x.2.1 ∧ ∀ r ∈ x.2.2, ¬ (r.f = F ∧ hide.contains r.s = true)) ∧
    ∀ σ, V σ = (g (strip (σ.obj.hide F hide))).map fun x => (x.1, appU F x.2.1 (freezeAll σ x.2.2))
def isTok (V : Val) : Prop := ∀ σ d σ', V σ = some (d, σ') → σ'.obj = σ.obj

section
variable {V W : Val} {F : Nat} {hide hw : List Nat}

theorem isBlind.same (h : isBlind V) {σ σ' : Store} {d : DV} (e : V σ = some (d, σ')) : σ' = σ ∧ ∀ τ, V τ = some (d, τ) := by
  obtain ⟨c, hc⟩ := h
  rw [hc] at e
  obtain ⟨x, h1, h2⟩ := Option.map_eq_some_iff.1 e
  simp only [Prod.mk.injEq] at h2
  obtain ⟨rfl, rfl⟩ := h2
  exact ⟨rfl, fun τ => by rw [hc, h1]; rfl⟩
theorem comm_blind_left (h : isBlind V) : CommV V W := by
  intro σ d σ1 d2 σ2 h1 h2
  obtain ⟨rfl, h3⟩ := h.same h1
  exact ⟨σ2, h2, h3 _⟩
theorem comm_blind_right (h : isBlind W) : CommV V W := by
  intro σ d σ1 d2 σ2 h1 h2
  obtain ⟨rfl, h3⟩ := h.same h2
  exact ⟨σ, h3 _, h1⟩
theorem isLook.same (h : isLook F hide V) {σ σ' : Store} {d : DV} (e : V σ = some (d, σ')) : σ' = σ ∧ ∀ τ, strip (τ.obj.hide F hide) = strip (σ.obj.hide F hide) → V τ = some (d, τ) := by
  obtain ⟨g, hg⟩ := h
  rw [hg] at e
  obtain ⟨x, h1, h2⟩ := Option.map_eq_some_iff.1 e
  simp only [Prod.mk.injEq] at h2
  obtain ⟨rfl, rfl⟩ := h2
  exact ⟨rfl, fun τ ht => by rw [hg, ht, h1]; rfl⟩
/-- One that looks, and one that keeps what is seen. -/
def KeepsView (F : Nat) (hide : List Nat) (W : Val) : Prop := ∀ σ d σ', W σ = some (d, σ') → strip (σ'.obj.hide F hide) = strip (σ.obj.hide F hide)
theorem comm_look_left (h : isLook F hide V) (k : KeepsView F hide W) : CommV V W := by
  intro σ d σ1 d2 σ2 h1 h2
  obtain ⟨rfl, h3⟩ := h.same h1
  exact ⟨σ2, h2, h3 _ (k _ _ _ h2)⟩
theorem comm_look_right (h : isLook F hide W) (k : KeepsView F hide V) : CommV V W := by
  intro σ d σ1 d2 σ2 h1 h2
  obtain ⟨rfl, h3⟩ := h.same h2
  exact ⟨σ, h3 _ (k _ _ _ h1).symm, h1⟩
theorem keeps_look (h : isLook F hw W) : KeepsView F hide W := fun σ d σ' e => by rw [(h.same e).1]
theorem keeps_tok (h : isTok W) : KeepsView F hide W := fun σ d σ' e => by rw [h σ d σ' e]
theorem keeps_site {s : Nat} (h : isSite F s W) (hs : hide.contains s = true) : KeepsView F hide W := by
  intro σ d σ' e
  obtain ⟨g, hg⟩ := h
  rw [hg] at e
  obtain ⟨x, _, h2⟩ := Option.map_eq_some_iff.1 e
  simp only [Prod.mk.injEq] at h2
  rw [← h2.2, upd_hide hs]
theorem keeps_call {ss : Sites} (h : isCall F hw ss W) (hs : ∀ e ∈ ss, hide.contains e.1 = true) : KeepsView F hide W := by
  intro σ d σ' e
  obtain ⟨g, hg1, hg2⟩ := h
  rw [hg2] at e
  obtain ⟨x, h1, h2⟩ := Option.map_eq_some_iff.1 e
  simp only [Prod.mk.injEq] at h2
  rw [← h2.2, appU_hide _ (fun u hu => ?_), strip_hide, strip_hide, strip_freezeAll]
  obtain ⟨y, hy, h3⟩ := (hg1 _ _ h1).1 u hu
  rw [← h3]; exact hs y hy

theorem comm_site_site {s t : Nat} (h : isSite F s V) (k : isSite F t W) (hst : s ≠ t) : CommV V W := by
  intro σ d σ1 d2 σ2 h1 h2
  obtain ⟨g, hg⟩ := h
  obtain ⟨g', hg'⟩ := k
  rw [hg] at h1
  obtain ⟨x, x1, x2⟩ := Option.map_eq_some_iff.1 h1
  rw [hg'] at h2
  obtain ⟨y, y1, y2⟩ := Option.map_eq_some_iff.1 h2
  simp only [Prod.mk.injEq] at x2 y2
  obtain ⟨rfl, rfl⟩ := x2
  obtain ⟨rfl, rfl⟩ := y2
  refine ⟨_, by rw [hg', y1]; rfl, ?_⟩
  rw [hg, x1]
  simp only [Option.map_some, upd_comm x.2 y.2 hst]

theorem comm_site_call {s : Nat} {ss : Sites} (h : isSite F s V) (k : isCall F hw ss W) (hs : hw.contains s = true) (hne : ∀ e ∈ ss, e.1 ≠ s) : CommV V W ∧ CommV W V := by
  obtain ⟨g, hg⟩ := h
  obtain ⟨g', hg1, hg2⟩ := k
  have com : ∀ X (u : Upd) y σ, g' X = some y → appU F y.2.1 (freezeAll (u.app F s σ) y.2.2) = u.app F s (appU F y.2.1 (freezeAll σ y.2.2)) := by
    intro X u y σ hy
    obtain ⟨p1, p2⟩ := hg1 X y hy
    rw [freezeAll_put u _ (fun r hr hc => p2 r hr ⟨hc.1, by rw [hc.2]; exact hs⟩), appU_upd u _ (fun x hx => ?_)]
    obtain ⟨e, he, h3⟩ := p1 x hx
    rw [← h3]; exact hne e he
  constructor
  · intro σ d σ1 d2 σ2 h1 h2
    rw [hg] at h1
    obtain ⟨x, x1, x2⟩ := Option.map_eq_some_iff.1 h1
    simp only [Prod.mk.injEq] at x2
    obtain ⟨rfl, rfl⟩ := x2
    rw [hg2, upd_hide hs] at h2
    obtain ⟨y, y1, y2⟩ := Option.map_eq_some_iff.1 h2
    simp only [Prod.mk.injEq] at y2
    obtain ⟨rfl, rfl⟩ := y2
    refine ⟨_, by rw [hg2, y1]; rfl, ?_⟩
    rw [hg, x1]
    simp only [Option.map_some, com _ x.2 y σ y1]
  · intro σ d σ1 d2 σ2 h1 h2
    rw [hg2] at h1
    obtain ⟨y, y1, y2⟩ := Option.map_eq_some_iff.1 h1
    simp only [Prod.mk.injEq] at y2
    obtain ⟨rfl, rfl⟩ := y2
    rw [hg] at h2
    obtain ⟨x, x1, x2⟩ := Option.map_eq_some_iff.1 h2
    simp only [Prod.mk.injEq] at x2
    obtain ⟨rfl, rfl⟩ := x2
    refine ⟨_, by rw [hg, x1]; rfl, ?_⟩
    rw [hg2, upd_hide hs, y1]
    simp only [Option.map_some, com _ x.2 y σ y1]
end

section
variable {R : Recs} {F st : Nat} {fr : Frame}

theorem evVal_cases (o : OpI) : (∀ σ, evVal R F st o fr σ = evOp R F st fr o.hide σ o.op) ∨ isBlind (evVal R F st o fr) := by
  cases hg : o.guard with
  | none => left; intro σ; unfold evVal; rw [hg]
  | some g =>
    obtain ⟨j, b⟩ := g
    cases hj : fr.get j with
    | p v =>
      cases v with
      | bool t =>
        by_cases ht : t = b
        · left; intro σ; unfold evVal; rw [hg]; simp only [hj]; rw [if_pos ht]
        · right; refine ⟨some (.tup []), fun σ => ?_⟩; unfold evVal; rw [hg]; simp only [hj]; rw [if_neg ht]; rfl
      | _ => right; refine ⟨none, fun σ => ?_⟩; unfold evVal; rw [hg]; simp only [hj]; rfl
    | tup vs =>
      cases vs with
      | nil => right; refine ⟨some (.tup []), fun σ => ?_⟩; unfold evVal; rw [hg]; simp only [hj]; rfl
      | cons => right; refine ⟨none, fun σ => ?_⟩; unfold evVal; rw [hg]; simp only [hj]; rfl
    | _ => right; refine ⟨none, fun σ => ?_⟩; unfold evVal; rw [hg]; simp only [hj]; rfl

theorem val_blind {o : OpI} (h : blind o.op = true) : isBlind (evVal R F st o fr) := by
  rcases evVal_cases (R := R) (F := F) (st := st) (fr := fr) o with h1 | h1
  · exact ⟨_, fun σ => by rw [h1, evOp_blind h]⟩
  · exact h1
theorem val_look {o : OpI} (h : look o.op = true) : isLook F o.hide (evVal R F st o fr) := by
  rcases evVal_cases (R := R) (F := F) (st := st) (fr := fr) o with h1 | ⟨c, h1⟩
  · exact ⟨fun X => (evOp R F st fr [] ⟨0, 0, X, fun _ _ => none⟩ o.op).map (·.1), fun σ => by rw [h1, evOp_look h]⟩
  · exact ⟨fun _ => c, h1⟩
theorem val_site {o : OpI} {s : Nat} (h : siteOf o.op = some s) : isSite F s (evVal R F st o fr) := by
  rcases evVal_cases (R := R) (F := F) (st := st) (fr := fr) o with h1 | ⟨c, h1⟩
  · obtain ⟨g, hg⟩ := evOp_site (R := R) (F := F) (st := st) (fr := fr) (hide := o.hide) h
    exact ⟨g, fun σ => by rw [h1, hg]⟩
  · exact ⟨c.map fun d => (d, .no), fun σ => by rw [h1, Option.map_map]; rfl⟩
theorem val_call {o : OpI} {ss : Sites} (h : callSites o.op = some ss) : isCall F o.hide ss (evVal R F st o fr) := by
  have const : ∀ (V : Val) (c : Option DV), (∀ σ, V σ = c.map fun d => (d, σ)) → isCall F o.hide ss V := by
    intro V c hc
    refine ⟨fun _ => c.map fun d => (d, [], []), fun X x hx => ?_, fun σ => by rw [hc, Option.map_map]; rfl⟩
    obtain ⟨y, _, rfl⟩ := Option.map_eq_some_iff.1 hx
    exact ⟨fun u hu => absurd hu (by simp), fun r hr => absurd hr (by simp)⟩
  rcases evVal_cases (R := R) (F := F) (st := st) (fr := fr) o with h1 | ⟨c, h1⟩
  · have e : evVal R F st o fr = fun σ => evOp R F st fr o.hide σ o.op := funext h1
    rw [e]
    generalize o.hide = hide at *
    cases hop : o.op with
    | call m f args ss' =>
      rw [hop] at h
      cases m with
      | pure =>
        simp only [callSites, Option.some.injEq] at h
        subst h
        exact pureCall_upd R F st hide f (evArgs fr args) _
      | ref => cases h
    | callv m fv args ss' =>
      rw [hop] at h
      cases m with
      | pure =>
        simp only [callSites, Option.some.injEq] at h
        subst h
        simp only [evOp]
        cases fv.ev fr with
        | clo f a b =>
          by_cases hf : f < 65536
          · simp only [hf, if_true]; exact pureCall_upd R F st hide f _ _
          · simp only [hf, if_false]; exact const _ none (fun σ => rfl)
        | p v =>
          cases v with
          | clo f a b =>
            by_cases hf : f < 65536
            · simp only [hf, if_true]; exact pureCall_upd R F st hide f _ _
            · simp only [hf, if_false]; exact const _ none (fun σ => rfl)
          | _ => exact const _ none (fun σ => rfl)
        | _ => exact const _ none (fun σ => rfl)
      | ref => cases h
    | _ => rw [hop] at h; cases h
  · exact const _ c h1
theorem val_tok {o : OpI} (h : tokOnly o.op = true) : isTok (evVal R F st o fr) := by
  rcases evVal_cases (R := R) (F := F) (st := st) (fr := fr) o with h1 | h1
  · intro σ d σ' e
    rw [h1] at e
    cases hop : o.op with
    | append site s dyn x y =>
      rw [hop] at e
      simp only [evOp] at e
      repeat' split at e
      all_goals first
        | (cases e; done)
        | (simp only [Option.some.injEq, Prod.mk.injEq] at e; obtain ⟨_, rfl⟩ := e; rfl)
    | _ => rw [hop] at h; cases h
  · intro σ d σ' e
    rw [(h1.same e).1]
end

def lookT (a b : OpI) : Bool := look a.op && (tokOnly b.op || (match siteOf b.op with | some s => a.hide.contains s | none => false) || (match callSites b.op with | some ss => ss.all (fun x => a.hide.contains x.1) | none => false))
def siteT (a b : OpI) : Bool := match siteOf a.op with
  | some s => (match siteOf b.op with | some t => s != t | none => false) || (match callSites b.op with | some ss => b.hide.contains s && ss.all (fun x => x.1 != s) | none => false)
  | none => false
/-- May two operations be turned about? -/
def turnOK (a b : OpI) : Bool := apartI a b && (blind a.op || blind b.op || (look a.op && look b.op) || lookT a b || lookT b a || siteT a b || siteT b a)

theorem lookT_keeps {a b : OpI} (h : lookT a b = true) {R : Recs} {F st : Nat} {fr : Frame} : look a.op = true ∧ KeepsView F a.hide (evVal R F st b fr) := by
  unfold lookT at h
  simp only [Bool.and_eq_true, Bool.or_eq_true] at h
  obtain ⟨h1, (h2 | h2) | h2⟩ := h
  · exact ⟨h1, keeps_tok (val_tok h2)⟩
  · split at h2
    · rename_i s hs
      exact ⟨h1, keeps_site (val_site hs) h2⟩
    · cases h2
  · split at h2
    · rename_i ss hs
      exact ⟨h1, keeps_call (val_call hs) (fun e he => List.all_eq_true.1 h2 e he)⟩
    · cases h2
theorem siteT_comm {a b : OpI} (h : siteT a b = true) {R : Recs} {F st st' : Nat} {fr : Frame} : CommV (evVal R F st a fr) (evVal R F st' b fr) ∧ CommV (evVal R F st' b fr) (evVal R F st a fr) := by
  unfold siteT at h
  split at h
  · rename_i s hs
    simp only [Bool.or_eq_true] at h
    rcases h with h | h
    · split at h
      · rename_i t ht
        have hne : s ≠ t := by simpa using h
        exact ⟨comm_site_site (val_site hs) (val_site ht) hne, comm_site_site (val_site ht) (val_site hs) hne.symm⟩
      · cases h
    · split at h
      · rename_i ss hss
        simp only [Bool.and_eq_true] at h
        refine comm_site_call (val_site hs) (val_call hss) h.1 (fun e he => ?_)
        have := List.all_eq_true.1 h.2 e he
        simpa using this
      · cases h
  · cases h

theorem turn_ok {R : Recs} {F c0 k i : Nat} {l : List OpI} (h : ∀ a b, l[k]? = some a → l[i]? = some b → turnOK a b = true) : Turns R F c0 l k i := by
  refine turns_of fun a b ha hb => ?_
  have h1 := h a b ha hb
  unfold turnOK at h1
  simp only [Bool.and_eq_true, Bool.or_eq_true] at h1
  obtain ⟨h2, h3⟩ := h1
  refine ⟨h2, fun fr => ?_⟩
  show CommV (evVal R F (c0 + 16 * k) a fr) (evVal R F (c0 + 16 * i) b fr)
  rcases h3 with (((((h3 | h3) | h3) | h3) | h3) | h3) | h3
  · exact comm_blind_left (val_blind h3)
  · exact comm_blind_right (val_blind h3)
  · exact comm_look_left (val_look h3.1) (keeps_look (val_look h3.2))
  · obtain ⟨h4, h5⟩ := lookT_keeps h3
    exact comm_look_left (val_look h4) h5
  · obtain ⟨h4, h5⟩ := lookT_keeps h3
    exact comm_look_right (val_look h4) h5
  · exact (siteT_comm h3).1
  · exact (siteT_comm h3).2

/-! ### A region, as it is checked -/
/-- What must stand ahead, by place. -/
def aheadOf (ops : Array Oper) : List (List Nat) :=
  ops.toList.foldl (fun acc o => acc ++ [(o.after.toList.filter (Region.binds .any)).flatMap fun e => e.on :: acc.getD e.on []]) []
/-- Are all edges backward, and are all pairs that no edge holds of a kind that may be turned about? -/
def chkAhead (D : List (List Nat)) (ops : Array Oper) : Bool :=
  (List.range ops.size).all fun i => match ops[i]? with
    | some o => o.after.toList.all (fun e => !Region.binds .any e || (decide (e.on < i) && (D.getD i []).contains e.on)) &&
        (D.getD i []).all (fun k => o.after.toList.any fun e => Region.binds .any e && (k == e.on || (D.getD e.on []).contains k))
    | none => false
def chkTurns (D : List (List Nat)) (l : List OpI) : Bool :=
  (List.range l.length).all fun i => (List.range i).all fun k => (D.getD i []).contains k || (match l[k]?, l[i]? with | some a, some b => turnOK a b | _, _ => false)
def chkReg (P : Program) (N : Nat) (ops : Array Oper) (draw : Bool) (l : List OpI) : Bool :=
  l.length == ops.size && ((List.range ops.size).all fun i => match ops[i]?, l[i]? with | some o, some oi => (chkOpI P N ops o oi || chkCallI N ops o oi) && guardLt N oi | _, _ => false) &&
  (!draw || (P.follows .mixedOrders && chkAhead (aheadOf ops) ops && chkTurns (aheadOf ops) l))

theorem chkReg_spec {P : Program} {N : Nat} {ops : Array Oper} {draw : Bool} {l : List OpI} (h : chkReg P N ops draw l = true) : RegT P N ops draw l := by
  unfold chkReg at h
  simp only [Bool.and_eq_true, beq_iff_eq, Bool.or_eq_true, Bool.not_eq_true'] at h
  obtain ⟨⟨h1, h2⟩, h3⟩ := h
  refine ⟨h1, fun i o oi ho hoi => ?_, fun hd => ?_⟩
  · have hi : i < ops.size := (Array.getElem?_eq_some_iff.1 ho).1
    have := List.all_eq_true.1 h2 i (List.mem_range.2 hi)
    simp only [ho, hoi, Bool.and_eq_true, Bool.or_eq_true] at this
    exact this
  · rcases h3 with h3 | ⟨⟨h3, h4⟩, h5⟩
    · rw [hd] at h3; cases h3
    · refine ⟨h3, fun i => (aheadOf ops).getD i [], ⟨fun i o ho e he hb => ?_, fun i o k ho hk => ?_⟩, fun k i hki hi hkD R Fr c0 => ?_⟩
      · have hi : i < ops.size := (Array.getElem?_eq_some_iff.1 ho).1
        have := List.all_eq_true.1 h4 i (List.mem_range.2 hi)
        simp only [ho, Bool.and_eq_true] at this
        have h6 := List.all_eq_true.1 this.1 e (by simpa using he)
        simp only [hb, Bool.not_true, Bool.false_or, Bool.and_eq_true, decide_eq_true_eq] at h6
        exact ⟨h6.1, by simpa using h6.2⟩
      · have hi : i < ops.size := (Array.getElem?_eq_some_iff.1 ho).1
        have := List.all_eq_true.1 h4 i (List.mem_range.2 hi)
        simp only [ho, Bool.and_eq_true] at this
        have h6 := List.all_eq_true.1 this.2 k hk
        obtain ⟨e, he, h7⟩ := List.any_eq_true.1 h6
        simp only [Bool.and_eq_true, Bool.or_eq_true, beq_iff_eq] at h7
        exact ⟨e, by simpa using he, h7.1, h7.2.imp id (fun h => by simpa using h)⟩
      · refine turn_ok fun a b ha hb => ?_
        rw [← h1] at hi
        have h6 := List.all_eq_true.1 h5 i (List.mem_range.2 hi)
        have h7 := List.all_eq_true.1 h6 k (List.mem_range.2 hki)
        simp only [ha, hb, Bool.or_eq_true] at h7
        rcases h7 with h7 | h7
        · exact absurd (by simpa using h7) hkD
        · exact h7

end Go.Ev
