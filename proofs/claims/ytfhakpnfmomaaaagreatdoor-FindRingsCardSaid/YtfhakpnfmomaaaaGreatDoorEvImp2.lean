/- A part of an evaluator of closed runs, and of the proof that what it answers holds of the model. No conditions. -/
import Derived.Test.YtfhakpnfmomaaaaGreatDoorEvImp
namespace Go.Ev
open Go
section
variable {w w1 : World} {K : Ctx} {I : Im}

/-- A piece taken in, and the rest behind it. -/
theorem took_seq {Kj K1 K2 : Ctx} {b1 b2 : List Nat} {st st1 st2 lim : Nat} {ss1 ss2 : Sites} {σ1 σ2 : Store} (h1 : Took w w1 K I Kj b1 st lim ss1 st1 σ1 K1) (h2 : Took w w1 K I K1 b2 st1 lim ss2 st2 σ2 K2) : Took w w1 K I Kj (b1 ++ b2) st lim ss2 st2 σ2 K2 where
  σ := h2.σ
  imp := h2.imp
  later := h1.later.trans h2.later
  le := Nat.le_trans h1.le h2.le
  lim := h2.lim
  used := fun x hx => by
    have hle := h1.le
    have hle2 := h2.le
    rcases h2.used x hx with h | ⟨h3, h4⟩
    · rcases h1.used x h with h | ⟨h3, h4⟩
      · exact .inl h
      · exact .inr ⟨h3, by omega⟩
    · exact .inr ⟨by omega, h4⟩
  LB := fun b hb => by
    rcases h2.LB b hb with h | h
    · rcases h1.LB b h with h | h
      · exact .inl h
      · exact .inr (by simp [h])
    · exact .inr (by simp [h])

/-- What is left is free. -/
theorem took_free {Kj K1 : Ctx} {b1 b2 : List Nat} {st st1 lim : Nat} {ss1 : Sites} {σ1 : Store} (h1 : Took w w1 K I Kj b1 st lim ss1 st1 σ1 K1) (hnd : (b1 ++ b2).Nodup) (hfree : ∀ b ∈ b1 ++ b2, ¬ Kj.LB b) (hst : ∀ x, st ≤ x → x < lim → ¬ Kj.used x) :
    (∀ b ∈ b2, ¬ K1.LB b) ∧ ∀ x, st1 ≤ x → x < lim → ¬ K1.used x := by
  rw [List.nodup_append] at hnd
  refine ⟨fun b hb hl => ?_, fun x h2 h3 hu => ?_⟩
  · rcases h1.LB b hl with h | h
    · exact hfree b (by simp [hb]) h
    · exact hnd.2.2 b h b hb rfl
  · have := h1.le
    rcases h1.used x hu with h | ⟨_, h5⟩
    · exact hst x (by omega) h3 h
    · omega

theorem impL_sound (hi : SInv w K) (ho : Old w K) (hh : ∀ k, k < w.heap.size → w1.heap[k]? = w.heap[k]?) {F : Nat} {lim : Nat} : ∀ {vs : List Value} {ds : List DV} {bs : List Nat}, RepXL w.heap.size w1 I vs ds bs → bs.Nodup → ∀ {Kj : Ctx}, Imp w w1 K I Kj → (∀ b ∈ bs, ¬ Kj.LB b) → ∀ {ss : Sites} {st : Nat}, st + ss.length ≤ lim →
    (∀ x, st ≤ x → x < lim → ¬ Kj.used x) → ∀ {ds' : List DV} {ss' : Sites} {st' : Nat} {σ' : Store}, impL F ds ss st Kj.σ = some (ds', ss', st', σ') →
    ∃ K', Took w w1 K I Kj bs st lim ss' st' σ' K' ∧ vs.length = ds'.length ∧ ∀ Kn, Later K' Kn → MC w I Kn (ds.all scalarD = true) → ∀ i, i < ds'.length → RepD w1 Kn (vs.getD i undef) (ds'.getD i .undef) := by
  intro vs ds bs hrep
  induction hrep with
  | nil =>
    intro _ Kj hI _ ss st hl _ ds' ss' st' σ' h
    simp only [impL, Option.some.injEq, Prod.mk.injEq] at h
    obtain ⟨rfl, rfl, rfl, rfl⟩ := h
    exact ⟨Kj, .none hI hl, rfl, fun _ _ _ i hi => absurd hi (by simp)⟩
  | cons v d b1 vs ds b2 hc t ih =>
    intro hnd Kj hI hfree ss st hl hst ds' ss' st' σ' h
    simp only [impL] at h
    split at h
    · rename_i d1 ss1 st1 σ1 e1
      split at h
      · rename_i ds1 r e2
        obtain ⟨ss2, st2, σ2⟩ := r
        simp only [Option.some.injEq, Prod.mk.injEq] at h
        obtain ⟨rfl, rfl, rfl, rfl⟩ := h
        obtain ⟨K1, t1, r1⟩ := impC_sound hi ho hh hI hc (fun b hb => hfree b (by simp [hb])) hl hst e1
        obtain ⟨f1, f2⟩ := took_free t1 hnd hfree hst
        rw [← t1.σ] at e2
        obtain ⟨K2, t2, l2, r2⟩ := ih (List.nodup_append.1 hnd).2.1 t1.imp f1 t1.lim f2 e2
        refine ⟨K2, took_seq t1 t2, by simp [l2], fun Kn hla hmc i hi' => ?_⟩
        cases i with
        | zero => exact r1 Kn (t2.later.trans hla) (hmc.mono (fun h => by simp only [List.all_cons, Bool.and_eq_true] at h; exact h.1))
        | succ i =>
          have := r2 Kn hla (hmc.mono (fun h => by simp only [List.all_cons, Bool.and_eq_true] at h; exact h.2)) i (by simpa using hi')
          simpa using this
      · cases h
    · cases h

theorem impV_sound (hi : SInv w K) (ho : Old w K) (hh : ∀ k, k < w.heap.size → w1.heap[k]? = w.heap[k]?) {F : Nat} {lim : Nat} {v : Value} {d : DV} {bs : List Nat} (hrep : RepXV w.heap.size w1 I v d bs) (hnd : bs.Nodup) {Kj : Ctx} (hI : Imp w w1 K I Kj) (hfree : ∀ b ∈ bs, ¬ Kj.LB b) {ss : Sites} {st : Nat} (hl : st + ss.length ≤ lim)
    (hst : ∀ x, st ≤ x → x < lim → ¬ Kj.used x) {d' : DV} {ss' : Sites} {st' : Nat} {σ' : Store} (h : impV F d ss st Kj.σ = some (d', ss', st', σ')) :
    ∃ K', Took w w1 K I Kj bs st lim ss' st' σ' K' ∧ ∀ Kn, Later K' Kn → MC w I Kn (scalarV d = true) → RepD w1 Kn v d' := by
  cases hrep with
  | c v d bs hc =>
    have : impV F d ss st Kj.σ = impC F false d ss st Kj.σ ∧ scalarV d = scalarD d := by
      cases hc <;> exact ⟨rfl, rfl⟩
    rw [this.1] at h
    rw [this.2]
    exact impC_sound hi ho hh hI hc hfree hl hst h
  | agg vs ds bs hL =>
    simp only [impV] at h
    obtain ⟨⟨ds', ss2, st2, σ2⟩, h1, h2⟩ := Option.map_eq_some_iff.1 h
    simp only [Prod.mk.injEq] at h2
    obtain ⟨rfl, rfl, rfl, rfl⟩ := h2
    obtain ⟨K', t, l, r⟩ := impL_sound hi ho hh hL hnd hI hfree hl hst h1
    exact ⟨K', t, fun Kn hla hmc => .agg vs ds' (by simpa using l) (fun i hi' => by rw [getD_toList]; exact r Kn hla hmc i hi')⟩

theorem impVs_sound (hi : SInv w K) (ho : Old w K) (hh : ∀ k, k < w.heap.size → w1.heap[k]? = w.heap[k]?) {F : Nat} {lim : Nat} : ∀ {vs : List Value} {ds : List DV} {bs : List Nat}, RepXVs w.heap.size w1 I vs ds bs → bs.Nodup → ∀ {Kj : Ctx}, Imp w w1 K I Kj → (∀ b ∈ bs, ¬ Kj.LB b) → ∀ {ss : Sites} {st : Nat}, st + ss.length ≤ lim →
    (∀ x, st ≤ x → x < lim → ¬ Kj.used x) → ∀ {ds' : List DV} {ss' : Sites} {st' : Nat} {σ' : Store}, impVs F ds ss st Kj.σ = some (ds', ss', st', σ') →
    ∃ K', Took w w1 K I Kj bs st lim ss' st' σ' K' ∧ vs.length = ds'.length ∧ ∀ Kn, Later K' Kn → MC w I Kn (ds.all scalarV = true) → ∀ i, i < ds'.length → RepD w1 Kn (vs.getD i undef) (ds'.getD i .undef) := by
  intro vs ds bs hrep
  induction hrep with
  | nil =>
    intro _ Kj hI _ ss st hl _ ds' ss' st' σ' h
    simp only [impVs, Option.some.injEq, Prod.mk.injEq] at h
    obtain ⟨rfl, rfl, rfl, rfl⟩ := h
    exact ⟨Kj, .none hI hl, rfl, fun _ _ _ i hi => absurd hi (by simp)⟩
  | cons v d b1 vs ds b2 hc t ih =>
    intro hnd Kj hI hfree ss st hl hst ds' ss' st' σ' h
    simp only [impVs] at h
    split at h
    · rename_i d1 ss1 st1 σ1 e1
      split at h
      · rename_i ds1 r e2
        obtain ⟨ss2, st2, σ2⟩ := r
        simp only [Option.some.injEq, Prod.mk.injEq] at h
        obtain ⟨rfl, rfl, rfl, rfl⟩ := h
        obtain ⟨K1, t1, r1⟩ := impV_sound hi ho hh hc (List.nodup_append.1 hnd).1 hI (fun b hb => hfree b (by simp [hb])) hl hst e1
        obtain ⟨f1, f2⟩ := took_free t1 hnd hfree hst
        rw [← t1.σ] at e2
        obtain ⟨K2, t2, l2, r2⟩ := ih (List.nodup_append.1 hnd).2.1 t1.imp f1 t1.lim f2 e2
        refine ⟨K2, took_seq t1 t2, by simp [l2], fun Kn hla hmc i hi' => ?_⟩
        cases i with
        | zero => exact r1 Kn (t2.later.trans hla) (hmc.mono (fun h => by simp only [List.all_cons, Bool.and_eq_true] at h; exact h.1))
        | succ i =>
          have := r2 Kn hla (hmc.mono (fun h => by simp only [List.all_cons, Bool.and_eq_true] at h; exact h.2)) i (by simpa using hi')
          simpa using this
      · cases h
    · cases h

/-- Below the callee's beginning nothing of the caller's is forbidden beyond what was. -/
theorem M_lt (hi : SInv w K) (ho : Old w K) {b o : Nat} (h : K.M b o) : b < w.heap.size := by
  rcases h with ⟨f, s, st, sz, rows, h1, h2⟩ | ⟨f, s, st, sz, n, h1, h2, _⟩ | h1
  · exact hi.live_lt (.inl ⟨_, _, _, h1⟩) h2
  · exact hi.live_lt (.inr ⟨_, _, _, _, h1⟩) h2
  · exact ho.X _ _ h1

theorem mc_final (hi : SInv w K) (ho : Old w K) (hG : K.G = I.G) {sc : Prop} (hmode : ((∀ b o, K.M b o → I.M b o) ∧ (∀ b, K.MM b → I.MM b)) ∨ sc) {Kn : Ctx} (h : Imp w w1 K I Kn) : MC w I Kn sc := by
  refine ⟨h.ext.keep.G.trans hG, ?_⟩
  rcases hmode with ⟨h1, h2⟩ | hs
  · exact .inl ⟨fun b o hm => (h.M b o hm).elim (h1 b o) (·.1), fun b hm => h2 b (h.MM b hm)⟩
  · refine .inr ⟨hs, fun b o hb hm => (h.M b o hm).elim (fun hk => ?_) (·.1)⟩
    have := M_lt hi ho hk
    omega

/-- WHAT COMES BACK, TAKEN IN. -/
theorem import_sound (hi : SInv w K) (ho : Old w K) (hsz : w.heap.size ≤ w1.heap.size) (hos : w1.os = w.os) (hta : w1.tape = w.tape) (hou : w1.output = w.output) (hh : ∀ k, k < w.heap.size → w1.heap[k]? = w.heap[k]?) (hG : K.G = I.G) {F : Nat} {v : Value} {d d' : DV} {bs : List Nat}
    (hrep : RepXT w.heap.size w1 I v d bs) (hnd : bs.Nodup) (hmode : ((∀ b o, K.M b o → I.M b o) ∧ (∀ b, K.MM b → I.MM b)) ∨ scalarR d = true) {ss : Sites} (hss : ss.length ≤ 16) {st : Nat} (hst : ∀ x, st ≤ x → x < st + 16 → ¬ K.used x) {σ' : Store} (h : importD F d ss st K.σ = some (d', σ')) :
    ∃ K', K'.σ = σ' ∧ Ext w K w1 K' ∧ SInv w1 K' ∧ RepD w1 K' v d' ∧ ∀ x, K'.used x → K.used x ∨ (st ≤ x ∧ x < st + 16) := by
  obtain ⟨g1, g2⟩ := grown hi hsz hos hta hou hh
  have hI : Imp w w1 K I K := ⟨g1, g2, rfl, fun b o h => .inl h, fun b h => h⟩
  have hlo : ∀ b, w.heap.size ≤ b → ¬ K.LB b := fun b hb ⟨x, hl, hx⟩ => by have := hi.live_lt hl hx; omega
  have bsC : ∀ {v : Value} {d : DV} {bs : List Nat}, RepXC w.heap.size w1 I v d bs → ∀ b ∈ bs, w.heap.size ≤ b := by
    intro v d bs h b hb
    cases h with
    | p => simp at hb
    | new0 => simp at hb
    | new ow b' cap κ sz rows cs e hlo => simp only [List.mem_singleton] at hb; rw [hb]; exact hlo
  have bsL : ∀ {vs : List Value} {ds : List DV} {bs : List Nat}, RepXL w.heap.size w1 I vs ds bs → ∀ b ∈ bs, w.heap.size ≤ b := by
    intro vs ds bs h
    induction h with
    | nil => intro b hb; simp at hb
    | cons v d b1 vs ds b2 hc t ih =>
      intro b hb
      rcases List.mem_append.1 hb with hb | hb
      · exact bsC hc b hb
      · exact ih b hb
  have bsV : ∀ {v : Value} {d : DV} {bs : List Nat}, RepXV w.heap.size w1 I v d bs → ∀ b ∈ bs, w.heap.size ≤ b := by
    intro v d bs h
    cases h with
    | c v d bs h => exact bsC h
    | agg vs ds bs h => exact bsL h
  have bsVs : ∀ {vs : List Value} {ds : List DV} {bs : List Nat}, RepXVs w.heap.size w1 I vs ds bs → ∀ b ∈ bs, w.heap.size ≤ b := by
    intro vs ds bs h
    induction h with
    | nil => intro b hb; simp at hb
    | cons v d b1 vs ds b2 hc t ih =>
      intro b hb
      rcases List.mem_append.1 hb with hb | hb
      · exact bsV hc b hb
      · exact ih b hb
  have fin : ∀ {K' : Ctx} {st' : Nat} {ss' : Sites}, Took w w1 K I K bs st (st + 16) ss' st' σ' K' → RepD w1 K' v d' → ∃ K', K'.σ = σ' ∧ Ext w K w1 K' ∧ SInv w1 K' ∧ RepD w1 K' v d' ∧ ∀ x, K'.used x → K.used x ∨ (st ≤ x ∧ x < st + 16) := by
    intro K' st' ss' t hr
    refine ⟨K', t.σ, t.imp.ext, t.imp.inv, hr, fun x hx => (t.used x hx).imp id (fun ⟨a, b⟩ => ⟨a, ?_⟩)⟩
    have := t.lim
    omega
  have simple : RepXV w.heap.size w1 I v d bs → scalarR d = scalarV d → (impV F d ss st K.σ).map (fun x => (x.1, x.2.2.2)) = some (d', σ') → ∃ K', K'.σ = σ' ∧ Ext w K w1 K' ∧ SInv w1 K' ∧ RepD w1 K' v d' ∧ ∀ x, K'.used x → K.used x ∨ (st ≤ x ∧ x < st + 16) := by
    intro hV hsc h
    obtain ⟨⟨x, ss', st', σ2⟩, h1, h2⟩ := Option.map_eq_some_iff.1 h
    simp only [Prod.mk.injEq] at h2
    obtain ⟨rfl, rfl⟩ := h2
    rw [hsc] at hmode
    obtain ⟨K', t, r⟩ := impV_sound hi ho hh hV hnd hI (fun b hb => hlo b (bsV hV b hb)) (by omega) hst h1
    exact fin t (r K' (.refl _) (mc_final hi ho hG hmode t.imp))
  cases hrep with
  | tup vs ds bs hT =>
    simp only [importD] at h
    obtain ⟨⟨x, ss', st', σ2⟩, h1, h2⟩ := Option.map_eq_some_iff.1 h
    simp only [Prod.mk.injEq] at h2
    obtain ⟨rfl, rfl⟩ := h2
    obtain ⟨K', t, l, r⟩ := impVs_sound hi ho hh hT hnd hI (fun b hb => hlo b (bsVs hT b hb)) (by omega) hst h1
    exact fin t (.tup vs x (by simpa using l) (fun i hi' => by rw [getD_toList]; exact r K' (.refl _) (mc_final hi ho hG hmode t.imp) i hi'))
  | v v d bs hV =>
    cases hV with
    | agg vs ds bs hL => exact simple (.agg vs ds bs hL) rfl (by simpa only [importD] using h)
    | c v d bs hC =>
      cases hC with
      | p v pv hp => exact simple (.c _ _ _ (.p v pv hp)) rfl (by simpa only [importD] using h)
      | new0 a sz =>
        refine simple (.c _ _ _ (.new0 a sz)) rfl ?_
        have e : impC F true (.new false sz []) ss st K.σ = impC F false (.new false sz []) ss st K.σ := by
          cases ss with
          | nil => rfl
          | cons x r =>
            obtain ⟨site, k⟩ := x
            cases k <;> simp [impC]
        simpa only [importD, impV, e] using h
      | new ow b cap κ sz rows cs e hlob hhp hcs hcap hκ hlin hw hp how =>
        have plainC : impC F true (.new ow sz rows) ss st K.σ = impC F false (.new ow sz rows) ss st K.σ ∨
            ∃ site k r, ss = (site, k) :: r ∧ rows ≠ [] ∧ (ow = true ∨ scalarD (.new ow sz rows) = true) ∧
              impC F true (.new ow sz rows) ss st K.σ = some (.own ⟨F, site, st⟩ 0 rows.length, r, st + 1, K.σ.put F site (some (st, .arr sz (rows.map fun row => row.map .p) true))) := by
          cases ss with
          | nil => exact .inl rfl
          | cons x r =>
            obtain ⟨site, k⟩ := x
            have go : k ≠ .imm → (k == .lin && !ow) = false → impC F true (.new ow sz rows) ((site, k) :: r) st K.σ = impC F false (.new ow sz rows) ((site, k) :: r) st K.σ ∨
                ∃ site' k' r', (site, k) :: r = (site', k') :: r' ∧ rows ≠ [] ∧ (ow = true ∨ scalarD (.new ow sz rows) = true) ∧
                  impC F true (.new ow sz rows) ((site, k) :: r) st K.σ = some (.own ⟨F, site', st⟩ 0 rows.length, r', st + 1, K.σ.put F site' (some (st, .arr sz (rows.map fun row => row.map .p) true))) := by
              intro hk hl
              by_cases hown : (!rows.isEmpty && (ow || scalarD (.new ow sz rows))) = true
              · right
                have hown' := hown
                simp only [Bool.and_eq_true, Bool.not_eq_true', Bool.or_eq_true, List.isEmpty_eq_false_iff] at hown'
                refine ⟨site, k, r, rfl, hown'.1, hown'.2, ?_⟩
                cases k with
                | imm => exact absurd rfl hk
                | lin => simp only [impC, hl, Bool.false_eq_true, if_false, Bool.true_and, hown, if_true]
                | own => simp only [impC, hl, Bool.false_eq_true, if_false, Bool.true_and, hown, if_true]
              · left
                cases k with
                | imm => rfl
                | lin => simp only [impC, hl, Bool.false_eq_true, if_false, Bool.true_and, hown, Bool.false_and]
                | own => simp only [impC, hl, Bool.false_eq_true, if_false, Bool.true_and, hown, Bool.false_and]
            cases k with
            | imm => exact .inl rfl
            | own => exact go (by simp) rfl
            | lin =>
              cases ow with
              | true => exact go (by simp) rfl
              | false => left; simp [impC]
        rcases plainC with e1 | ⟨site, k, r, hss', hne, hsc, e1⟩
        · exact simple (.c _ _ _ (.new ow b cap κ sz rows cs e hlob hhp hcs hcap hκ hlin hw hp how)) rfl (by simpa only [importD, impV, e1] using h)
        · simp only [importD, e1, Option.map_some, Option.some.injEq, Prod.mk.injEq] at h
          obtain ⟨rfl, rfl⟩ := h
          have hs := hst st (Nat.le_refl _) (by omega)
          have hnc := new_cells hhp hcs (Nat.le_trans hcap hκ) hw hp
          have hrl : ∀ i, i < rows.length → (rows.getD i []).length = sz := fun i hi' => by rw [List.getD_eq_getElem?_getD, List.getElem?_eq_getElem hi']; exact hw _ (List.getElem_mem hi')
          obtain ⟨h1, h2⟩ := adopt_obj hi ho hsz hos hta hou hh F site st (.arr sz (rows.map fun row => row.map .p) true) b κ hlob hs (fun hx => by
            refine ⟨b, cs, e, by simp [Ctx.newObj], hhp, by simpa [Ctx.newObj] using hcs, by simp [Ctx.newObj]; omega, ?_, ?_⟩
            · intro x hx
              obtain ⟨y, hy, rfl⟩ := List.mem_map.1 hx
              rw [List.length_map]; exact hw y hy
            · intro i j hi' hj
              rw [List.length_map] at hi'
              have e2 : ((rows.map fun row => row.map DV.p).getD i []).getD j .undef = .p ((rows.getD i []).getD j .nilp) := by
                have hj' : j < (rows.getD i []).length := by rw [hrl i hi']; exact hj
                have e3 : rows.getD i [] = rows[i] := by rw [List.getD_eq_getElem?_getD, List.getElem?_eq_getElem hi']; rfl
                rw [e3] at hj' ⊢
                simp only [List.getD_eq_getElem?_getD, List.getElem?_map, List.getElem?_eq_getElem hi', Option.map_some, Option.getD_some, List.getElem?_eq_getElem hj']
              rw [e2]
              have hk := hnc i j hi' hj
              refine ⟨.p _ _ ?_, hk.2.2.1⟩
              by_cases hscal : scalarD (.new ow sz rows) = true
              · exact scalar_rep (scalar_new hscal hi' (by rw [hrl i hi']; exact hj)) (hx.keep.G.trans hG) hk.2.2.2
              · have how' : ow = true := hsc.resolve_right hscal
                have hm := hmode.resolve_right hscal
                refine (how how' i j hi' hj).1.keep (I := ⟨fun b' o => I.M b' o ∨ b' = b, I.MM, I.G⟩) (I' := (K.newObj F site st (.arr sz (rows.map fun row => row.map .p) true) b κ).im) ⟨fun b' o _ h3 h4 => ⟨h3, fun hM => h4 ?_⟩, fun r' _ _ h3 h4 => ⟨h3, fun hM => h4 ?_⟩, hx.keep.G.trans hG⟩
                · show I.M b' o ∨ b' = b
                  rcases hM with ⟨f', s', x, sz', rows', h5, h6⟩ | ⟨f', s', x, sz', n', h5, h6, h7⟩ | h5
                  · rcases put_obj h5 with ⟨_, _, h⟩ | ⟨_, h⟩
                    · simp only [Option.some.injEq, Prod.mk.injEq] at h
                      simp only [Ctx.newObj, h.1.symm, if_true, Option.some.injEq] at h6
                      exact .inr h6.symm
                    · have : x ≠ st := fun e => hs (e ▸ (hi.obj _ _ _ _ h).1)
                      simp only [Ctx.newObj, this, if_false] at h6
                      exact .inl (hm.1 _ _ (.inl ⟨_, _, _, _, _, h, h6⟩))
                  · have : x ≠ st := fun e => hs (e ▸ (hi.tok _ _ _ _ _ h5).1)
                    simp only [Ctx.newObj, this, if_false] at h6
                    exact .inl (hm.1 _ _ (.inr (.inl ⟨_, _, _, _, _, h5, h6, h7⟩)))
                  · exact .inl (hm.1 _ _ (.inr (.inr h5)))
                · show I.MM r'
                  rcases hM with ⟨f', s', x, es, h5, h6⟩ | h5
                  · rcases put_obj h5 with ⟨_, _, h⟩ | ⟨_, h⟩
                    · simp at h
                    · have : x ≠ st := fun e => hs (e ▸ (hi.obj _ _ _ _ h).1)
                      simp only [Ctx.newObj, this, if_false] at h6
                      exact hm.2 _ (.inl ⟨_, _, _, _, h, h6⟩)
                  · exact hm.2 _ (.inr h5))
          refine ⟨_, rfl, h1, h2, ?_, ?_⟩
          · refine .own _ _ _ _ _ (.inl rfl) hcap (fun sz' rows' mu' hg => ?_)
            rcases put_obj (get_spec.1 hg) with ⟨_, _, h⟩ | ⟨hn, _⟩
            · simp only [Option.some.injEq, Prod.mk.injEq, Ob.arr.injEq, true_and] at h
              obtain ⟨rfl, rfl, rfl⟩ := h
              exact ⟨by simp, fun _ => by simp [Ctx.newObj]; exact hκ, b, by simp [Ctx.newObj], fun _ => by simp⟩
            · exact absurd ⟨rfl, rfl⟩ hn
          · rintro x (rfl | hx)
            · exact .inr ⟨Nat.le_refl _, by omega⟩
            · exact .inl hx
end
end Go.Ev
