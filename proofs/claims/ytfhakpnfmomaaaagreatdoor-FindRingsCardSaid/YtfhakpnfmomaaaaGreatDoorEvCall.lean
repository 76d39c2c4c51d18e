/- A part of an evaluator of closed runs, and of the proof that what it answers holds of the model. No conditions. -/
import Derived.Test.YtfhakpnfmomaaaaGreatDoorEvBody
namespace Go.Ev
open Go

theorem mapO_get {α β : Type} {g : α → Option β} {l : List α} {r : List β} (h : mapO g l = some r) (da : α) (db : β) : l.length = r.length ∧ ∀ i, i < r.length → g (l.getD i da) = some (r.getD i db) := by
  obtain ⟨h1, h2⟩ := mapO_spec h
  refine ⟨h1, fun i hi => ?_⟩
  have hl : i < l.length := by omega
  obtain ⟨y, e1, e2⟩ := h2 i l[i] (List.getElem?_eq_getElem hl)
  rw [List.getD_eq_getElem?_getD, List.getElem?_eq_getElem hl, List.getD_eq_getElem?_getD, e2]
  exact e1

theorem getD_piece {α : Type} (l : List α) (off len i : Nat) (d : α) (hi : i < len) : ((l.drop off).take len).getD i d = l.getD (off + i) d := by
  simp only [List.getD_eq_getElem?_getD, List.getElem?_take, List.getElem?_drop, hi, if_true]

theorem keep_less {w : World} {K : Ctx} {M' : Nat → Nat → Prop} {MM' : Nat → Prop} (hM : ∀ b o, M' b o → K.M b o) (hMM : ∀ b, MM' b → K.MM b) {v : Value} {p : PV} (h : RepP w K.im v p) : RepP w ⟨M', MM', K.G⟩ v p :=
  RepP.keep (I := K.im) (I' := ⟨M', MM', K.G⟩) ⟨fun b o _ h1 h2 => ⟨h1, fun (x : M' b o) => h2 (hM b o x)⟩, fun r _ _ h1 h2 => ⟨h1, fun (x : MM' r) => h2 (hMM r x)⟩, rfl⟩ h

/-- Where a name's object lies is not forbidden. -/
def RefOK (K : Ctx) (M' : Nat → Nat → Prop) (MM' : Nat → Prop) (r : Ref) : Prop := ∀ o b, K.σ.obj.get r = some o → K.ι r.st = some b → (∀ o, ¬ M' b o) ∧ ¬ MM' b

section
variable {w : World} {K : Ctx} {M' : Nat → Nat → Prop} {MM' : Nat → Prop}

/-- What a slot leads to, taken as a pure value, is one. -/
theorem deepC_sound (hi : SInv w K) {ro : Objs} (hro : ∀ r o, ro.get r = some o → K.σ.obj.get r = some o) (hM : ∀ b o, M' b o → K.M b o) (hMM : ∀ b, MM' b → K.MM b) :
    ∀ (n m : Nat), n ≤ m → ∀ (d : DV) (v : Value) (pv : PV), RepD w K v d → deepC ro n d = some pv → (∀ r ∈ reach ro m d, RefOK K M' MM' r) → RepP w ⟨M', MM', K.G⟩ v pv
  | 0, _, _, _, _, _, _, h, _ => by simp [deepC] at h
  | n + 1, 0, hnm, _, _, _, _, _, _ => by omega
  | n + 1, m + 1, hnm, d, v, pv, hr, h, hok => by
    have ih := deepC_sound hi hro hM hMM n m (by omega)
    cases hr with
    | undef v => simp [deepC] at h
    | tup vs ds hl h1 => simp [deepC] at h
    | ent k r i hu h1 => simp [deepC] at h
    | p v p hp =>
      simp only [deepC, Option.some.injEq] at h
      subst h
      exact keep_less hM hMM hp
    | lin v rows r hp hu hr =>
      simp only [deepC, Option.some.injEq] at h
      subst h
      exact keep_less hM hMM hp
    | iface t v d hd =>
      simp only [deepC] at h
      obtain ⟨p, h1, rfl⟩ := Option.map_eq_some_iff.1 h
      exact .iface t v p (ih d v p hd h1 (fun r hr => hok r (by simp only [reach]; exact hr)))
    | agg vs ds hl h1 =>
      simp only [deepC] at h
      obtain ⟨ps, h2, rfl⟩ := Option.map_eq_some_iff.1 h
      obtain ⟨h3, h4⟩ := mapO_get h2 DV.undef PV.nilp
      refine .agg vs ps (hl.trans h3) (fun i hi' => ih _ _ _ (h1 i (by omega)) (h4 i hi') (fun r hr => hok r ?_))
      simp only [reach]
      exact List.mem_flatMap.2 ⟨_, by rw [List.getD_eq_getElem?_getD, List.getElem?_eq_getElem (by omega : i < ds.length)]; exact List.getElem_mem _, hr⟩
    | clo f a b da db ha hb h1 h2 =>
      simp only [deepC] at h
      split at h
      · rename_i pa pb e1 e2
        simp only [Option.some.injEq] at h
        subst h
        obtain ⟨h3, h4⟩ := mapO_get e1 DV.undef PV.nilp
        obtain ⟨h5, h6⟩ := mapO_get e2 DV.undef PV.nilp
        refine .clo f a b pa pb (ha.trans h3) (hb.trans h5) (fun i hi' => ih _ _ _ (h1 i (by omega)) (h4 i hi') (fun r hr => hok r ?_)) (fun i hi' => ih _ _ _ (h2 i (by omega)) (h6 i hi') (fun r hr => hok r ?_))
        · simp only [reach]
          exact List.mem_append.2 (.inl (List.mem_flatMap.2 ⟨_, by rw [List.getD_eq_getElem?_getD, List.getElem?_eq_getElem (by omega : i < da.length)]; exact List.getElem_mem _, hr⟩))
        · simp only [reach]
          exact List.mem_append.2 (.inr (List.mem_flatMap.2 ⟨_, by rw [List.getD_eq_getElem?_getD, List.getElem?_eq_getElem (by omega : i < db.length)]; exact List.getElem_mem _, hr⟩))
      · cases h
    | own a cap r off len hu hcap hr =>
      simp only [deepC] at h
      split at h
      · rename_i sz rows mu hg
        split at h
        · rename_i hle
          obtain ⟨rs, h1, rfl⟩ := Option.map_eq_some_iff.1 h
          have hg' := hro _ _ hg
          obtain ⟨_, _, b, hb, ha⟩ := hr _ _ _ hg'
          obtain ⟨_, b', cs, e, hb', hh, hcs, hk, hw, hcell⟩ := hi.obj _ _ _ _ (get_spec.1 hg')
          rw [hb] at hb'; cases hb'
          obtain ⟨h2, h3⟩ := mapO_get h1 ([] : List DV) ([] : List PV)
          have hlen : rs.length = len := by rw [← h2, List.length_take, List.length_drop]; omega
          by_cases h0 : len = 0
          · have : rs = [] := List.eq_nil_of_length_eq_zero (by omega)
            subst this; subst h0
            exact .sl0 a cap
          · rw [ha (by omega), ← hlen]
            have row : ∀ i, i < rs.length → mapO (deepC ro n) (rows.getD (off + i) []) = some (rs.getD i []) := by
              intro i hi'
              have := h3 i hi'
              rwa [getD_piece _ _ _ _ _ (by omega)] at this
            have wid : ∀ i, i < rs.length → (rows.getD (off + i) []).length = sz := by
              intro i hi'
              have hl : off + i < rows.length := by omega
              rw [List.getD_eq_getElem?_getD, List.getElem?_eq_getElem hl]
              exact hw _ (List.getElem_mem hl)
            have inb : ∀ i j, i < rs.length → j < sz → off * sz + i * sz + j < cs.size := by
              intro i j hi' hj
              rw [hcs, ← Nat.add_mul]
              have : (off + i) * sz + j < rows.length * sz := row_lt (by omega) hj
              exact Nat.lt_of_lt_of_le this (Nat.mul_le_mul_right _ hk)
            have rowlen : ∀ i, i < rs.length → (rs.getD i []).length = sz := fun i hi' => by
              rw [← (mapO_get (row i hi') DV.undef PV.nilp).1]; exact wid i hi'
            obtain ⟨ok1, ok2⟩ := hok r (by simp [reach]) _ b hg' hb
            refine .sl b (off * sz) cap sz rs (fun i j => cs.getD (off * sz + i * sz + j) undef) (fun x hx => ?_) (fun i j hi' hj => ⟨cell_heap hh (inb i j hi' hj), ok1 _⟩) (fun i j hi' hj => ?_) (fun i j hi' hj => ?_) (by omega)
            · obtain ⟨i, hi', rfl⟩ := List.mem_iff_getElem.1 hx
              have := rowlen i hi'
              rwa [List.getD_eq_getElem?_getD, List.getElem?_eq_getElem hi'] at this
            · show (cs.getD (off * sz + i * sz + j) undef).oneCell' = true
              rw [← Nat.add_mul]
              exact (hcell (off + i) j (by omega) hj).2
            · have e1 := (hcell (off + i) j (by omega) hj).1
              rw [Nat.add_mul] at e1
              have e2 := (mapO_get (row i hi') DV.undef PV.nilp).2 j (by rw [rowlen i hi']; exact hj)
              refine ih _ _ _ e1 e2 (fun r' hr' => hok r' ?_)
              simp only [reach, hg]
              refine List.mem_cons_of_mem _ (List.mem_flatMap.2 ⟨rows.getD (off + i) [], ?_, List.mem_flatMap.2 ⟨_, ?_, hr'⟩⟩)
              · rw [List.getD_eq_getElem?_getD, List.getElem?_eq_getElem (by omega : off + i < rows.length)]; exact List.getElem_mem _
              · have hj' : j < (rows.getD (off + i) []).length := by rw [wid i hi']; exact hj
                rw [List.getD_eq_getElem?_getD (l := rows.getD (off + i) []), List.getElem?_eq_getElem hj']; exact List.getElem_mem _
        · cases h
      · cases h
    | mp a r row off hu hr =>
      simp only [deepC] at h
      split at h
      · rename_i sz rows mu hg
        split at h
        · rename_i cells hrow
          obtain ⟨ps, h1, rfl⟩ := Option.map_eq_some_iff.1 h
          have hg' := hro _ _ hg
          obtain ⟨b, hb, rfl⟩ := hr _ _ _ hg'
          obtain ⟨_, b', cs, e, hb', hh, hcs, hk, hw, hcell⟩ := hi.obj _ _ _ _ (get_spec.1 hg')
          rw [hb] at hb'; cases hb'
          obtain ⟨h2, h3⟩ := mapO_get h1 DV.undef PV.nilp
          obtain ⟨hrl, hre⟩ := List.getElem?_eq_some_iff.1 hrow
          have hcl : cells.length = sz := by rw [← hre]; exact hw _ (List.getElem_mem hrl)
          have hgd : rows.getD row [] = cells := by rw [List.getD_eq_getElem?_getD, hrow]; rfl
          obtain ⟨ok1, ok2⟩ := hok r (by simp [reach]) _ b hg' hb
          refine .ip b (row * sz) off ps (fun j => cs.getD (row * sz + j) undef) (fun j hj => ⟨cell_heap hh ?_, ok1 _⟩) (fun j hj => (hcell row j hrl (by omega)).2) (fun j hj => ?_)
          · rw [hcs]
            have : row * sz + j < rows.length * sz := row_lt hrl (by omega)
            exact Nat.lt_of_lt_of_le this (Nat.mul_le_mul_right _ hk)
          · have e1 := (hcell row j hrl (by omega)).1
            rw [hgd] at e1
            refine ih _ _ _ e1 (h3 j hj) (fun r' hr' => hok r' ?_)
            simp only [reach, hg]
            refine List.mem_cons_of_mem _ (List.mem_flatMap.2 ⟨cells, by rw [← hre]; exact List.getElem_mem _, List.mem_flatMap.2 ⟨_, ?_, hr'⟩⟩)
            rw [List.getD_eq_getElem?_getD, List.getElem?_eq_getElem (by omega : j < cells.length)]; exact List.getElem_mem _
        · cases h
      · cases h
    | omap b r hu hr =>
      simp only [deepC] at h
      split at h
      · rename_i es mu hg
        obtain ⟨ps, h1, rfl⟩ := Option.map_eq_some_iff.1 h
        have hg' := hro _ _ hg
        have hb := hr _ _ hg'
        obtain ⟨_, b', mes, clk, hb', hh, hsz, hk, hv, _⟩ := hi.obj _ _ _ _ (get_spec.1 hg')
        rw [hb] at hb'; cases hb'
        obtain ⟨h2, h3⟩ := mapO_get h1 (PV.nilp, DV.undef) (PV.nilp, PV.nilp)
        obtain ⟨ok1, ok2⟩ := hok r (by simp [reach]) _ b hg' hb
        have split1 : ∀ i, i < ps.length → (es.getD i (.nilp, .undef)).1 = (ps.getD i (.nilp, .nilp)).1 ∧ deepC ro n (es.getD i (.nilp, .undef)).2 = some (ps.getD i (.nilp, .nilp)).2 := by
          intro i hi'
          obtain ⟨x, e1, e2⟩ := Option.map_eq_some_iff.1 (h3 i hi')
          rw [← e2]; exact ⟨rfl, e1⟩
        refine .imap b mes clk ps hh ok2 (by omega) (fun i hi' => ?_) (fun i hi' => ?_)
        · rw [← (split1 i hi').1]; exact keep_less hM hMM (hk i (by omega))
        · refine ih _ _ _ (hv i (by omega)) (split1 i hi').2 (fun r' hr' => hok r' ?_)
          simp only [reach, hg]
          refine List.mem_cons_of_mem _ (List.mem_flatMap.2 ⟨_, ?_, hr'⟩)
          rw [List.getD_eq_getElem?_getD, List.getElem?_eq_getElem (by omega : i < es.length)]; exact List.getElem_mem _
      · cases h

/-- An argument, taken as a pure value. -/
theorem deepA_sound (hi : SInv w K) {ro : Objs} (hro : ∀ r o, ro.get r = some o → K.σ.obj.get r = some o) (hM : ∀ b o, M' b o → K.M b o) (hMM : ∀ b, MM' b → K.MM b) {d d' : DV} {v : Value}
    (hr : RepD w K v d) (h : deepA ro d = some d') (hok : ∀ r ∈ reach ro 10 d, RefOK K M' MM' r) (K0 : Ctx) (hK0 : K0.im = ⟨M', MM', K.G⟩) : RepD w K0 v d' := by
  have simple : (deepC ro 9 d).map DV.p = some d' → RepD w K0 v d' := by
    intro h
    obtain ⟨p, h1, rfl⟩ := Option.map_eq_some_iff.1 h
    exact .p v p (by rw [hK0]; exact deepC_sound hi hro hM hMM 9 10 (by omega) d v p hr h1 hok)
  cases hr with
  | agg vs ds hl h1 =>
    simp only [deepA] at h
    obtain ⟨ps, h2, rfl⟩ := Option.map_eq_some_iff.1 h
    obtain ⟨h3, h4⟩ := mapO_get h2 DV.undef PV.nilp
    refine .agg vs _ (by rw [List.length_map]; omega) (fun i hi' => ?_)
    rw [List.length_map] at hi'
    have e : (ps.map DV.p).getD i .undef = .p (ps.getD i .nilp) := by
      simp only [List.getD_eq_getElem?_getD, List.getElem?_map, List.getElem?_eq_getElem hi', Option.map_some, Option.getD_some]
    rw [e]
    refine .p _ _ ?_
    rw [hK0]
    refine deepC_sound hi hro hM hMM 9 9 (Nat.le_refl _) _ _ _ (h1 i (by omega)) (h4 i hi') (fun r hr => hok r ?_)
    simp only [reach]
    exact List.mem_flatMap.2 ⟨_, by rw [List.getD_eq_getElem?_getD, List.getElem?_eq_getElem (by omega : i < ds.length)]; exact List.getElem_mem _, hr⟩
  | undef v => exact simple h
  | p v p hp => exact simple h
  | tup vs ds hl h1 => exact simple h
  | lin v rows r hp hu hr => exact simple h
  | own a cap r off len hu hcap hr => exact simple h
  | mp a r row off hu hr => exact simple h
  | omap b r hu hr => exact simple h
  | clo f a b da db ha hb h1 h2 => exact simple h
  | iface t v d hd => exact simple h
  | ent k r i hu h1 => exact simple h
end
end Go.Ev
