/- A part of an evaluator of closed runs, and of the proof that what it answers holds of the model. No conditions. -/
import Derived.Test.YtfhakpnfmomaaaaGreatDoorEvCall2
namespace Go.Ev
open Go

/-! ### What a call hands back, as it stands in memory: cells, values, results; the blocks of new slices -/
inductive RepXC (lo : Nat) (w : World) (I : Im) : Value → DV → List Nat → Prop
  | p (v : Value) (pv : PV) (h : RepP w I v pv) : RepXC lo w I v (.p pv) []
  | new0 (a : Addr) (sz : Nat) : RepXC lo w I (.slice (some a) 0 0) (.new false sz []) []
  | new (ow : Bool) (b cap κ sz : Nat) (rows : List (List PV)) (cs : Array Value) (e : TypeId) (hlo : lo ≤ b) (hh : w.heap[b]? = some (.cells cs e (0, 0))) (hcs : cs.size = κ * sz) (hcap : rows.length ≤ cap) (hκ : cap ≤ κ)
      (hl : ow = false → cap = κ ∧ ∀ o, rows.length * sz ≤ o → I.M b o) (hw : ∀ r ∈ rows, r.length = sz) (hp : RepP w I (.slice (some ⟨b, 0, none⟩) rows.length cap) (.sl rows))
      (how : ow = true → ∀ i j, i < rows.length → j < sz → RepP w ⟨fun b' o => I.M b' o ∨ b' = b, I.MM, I.G⟩ (cs.getD (i * sz + j) undef) ((rows.getD i []).getD j .nilp) ∧ (cs.getD (i * sz + j) undef).oneCell' = true) :
      RepXC lo w I (.slice (some ⟨b, 0, none⟩) rows.length cap) (.new ow sz rows) [b]

inductive RepXL (lo : Nat) (w : World) (I : Im) : List Value → List DV → List Nat → Prop
  | nil : RepXL lo w I [] [] []
  | cons (v : Value) (d : DV) (b1 : List Nat) (vs : List Value) (ds : List DV) (b2 : List Nat) (h : RepXC lo w I v d b1) (t : RepXL lo w I vs ds b2) : RepXL lo w I (v :: vs) (d :: ds) (b1 ++ b2)
inductive RepXV (lo : Nat) (w : World) (I : Im) : Value → DV → List Nat → Prop
  | c (v : Value) (d : DV) (bs : List Nat) (h : RepXC lo w I v d bs) : RepXV lo w I v d bs
  | agg (vs : Array Value) (ds : List DV) (bs : List Nat) (h : RepXL lo w I vs.toList ds bs) : RepXV lo w I (.agg vs) (.agg ds) bs
inductive RepXVs (lo : Nat) (w : World) (I : Im) : List Value → List DV → List Nat → Prop
  | nil : RepXVs lo w I [] [] []
  | cons (v : Value) (d : DV) (b1 : List Nat) (vs : List Value) (ds : List DV) (b2 : List Nat) (h : RepXV lo w I v d b1) (t : RepXVs lo w I vs ds b2) : RepXVs lo w I (v :: vs) (d :: ds) (b1 ++ b2)
inductive RepXT (lo : Nat) (w : World) (I : Im) : Value → DV → List Nat → Prop
  | v (v : Value) (d : DV) (bs : List Nat) (h : RepXV lo w I v d bs) : RepXT lo w I v d bs
  | tup (vs : Array Value) (ds : List DV) (bs : List Nat) (h : RepXVs lo w I vs.toList ds bs) : RepXT lo w I (.tuple vs) (.tup ds) bs

/-- What is forbidden when the store is left: the room behind its rights; what was forbidden. -/
def Ctx.imx (K : Ctx) : Im := ⟨fun b o => (∃ f s st sz n, K.σ.tok f s = some (st, sz, n) ∧ K.ι st = some b ∧ n * sz ≤ o) ∨ K.X b o, K.XM, K.G⟩

section
variable {w : World} {K : Ctx} {lo : Nat}

theorem imx_M : ∀ b o, K.imx.M b o → K.M b o := fun _ _ h => h.elim (fun h => .inr (.inl h)) (fun h => .inr (.inr h))
theorem imx_MM : ∀ b, K.imx.MM b → K.MM b := fun _ h => .inr h
theorem imx_ok (hi : SInv w K) (r : Ref) : RefOK K K.imx.M K.imx.MM r := by
  intro o b hg hb
  have hl : Live K r.st := .inl ⟨_, _, _, get_spec.1 hg⟩
  refine ⟨fun q => ?_, (hi.X _ _ 0 hl hb).2⟩
  rintro (⟨f', s', st', sz, n, h3, h4, _⟩ | h3)
  · have := hi.inj _ _ _ (.inr ⟨_, _, _, _, h3⟩) hl h4 hb
    subst this
    exact hi.ot _ _ _ _ _ _ _ (get_spec.1 hg) h3
  · exact (hi.X _ _ q hl hb).1 h3

/-- A block that lies at a name. -/
def At (K : Ctx) (r : Ref) (b : Nat) : Prop := ((∃ o, K.σ.obj.get r = some o) ∨ ∃ x, K.σ.right r = some x) ∧ K.ι r.st = some b
theorem At.live {r : Ref} {b : Nat} (h : At K r b) : Live K r.st := by
  rcases h.1 with ⟨o, h⟩ | ⟨⟨sz, n⟩, h⟩
  · exact .inl ⟨_, _, _, get_spec.1 h⟩
  · exact .inr ⟨_, _, _, _, right_spec.1 h⟩
theorem At.eq (hi : SInv w K) {r r' : Ref} {b : Nat} (h : At K r b) (h' : At K r' b) : r = r' := by
  have hst := hi.inj _ _ _ h.live h'.live h.2 h'.2
  obtain ⟨f, s, st⟩ := r
  obtain ⟨f', s', st'⟩ := r'
  simp only at hst
  subst hst
  have key : f = f' ∧ s = s' := by
    rcases h.1 with ⟨o, h⟩ | ⟨⟨sz, n⟩, h⟩ <;> rcases h'.1 with ⟨o', h'⟩ | ⟨⟨sz', n'⟩, h'⟩
    · have a : K.σ.obj f s = some (st, o) := get_spec.1 h
      have b : K.σ.obj f' s' = some (st, o') := get_spec.1 h'
      exact hi.oo _ _ _ _ _ _ _ a b
    · have a : K.σ.obj f s = some (st, o) := get_spec.1 h
      have b : K.σ.tok f' s' = some (st, sz', n') := right_spec.1 h'
      exact (hi.ot _ _ _ _ _ _ _ a b).elim
    · have a : K.σ.tok f s = some (st, sz, n) := right_spec.1 h
      have b : K.σ.obj f' s' = some (st, o') := get_spec.1 h'
      exact (hi.ot _ _ _ _ _ _ _ b a).elim
    · have a : K.σ.tok f s = some (st, sz, n) := right_spec.1 h
      have b : K.σ.tok f' s' = some (st, sz', n') := right_spec.1 h'
      exact hi.tt _ _ _ _ _ _ _ a b
  rw [key.1, key.2]
theorem nil_inv {w : World} {I : Im} {a : Option Addr} (hp : RepP w I (.slice a 0 0) (.sl [])) : ∃ a', a = some a' := by
  generalize hv : Value.slice a 0 0 = v at hp
  generalize hq : PV.sl [] = q at hp
  cases hp <;> cases hq
  · cases hv; exact ⟨_, rfl⟩
  · cases hv; exact ⟨_, rfl⟩

/-- The blocks are those of the names. -/
def Bs (K : Ctx) (rs : List Ref) (bs : List Nat) : Prop := ∀ b ∈ bs, ∃ r ∈ rs, At K r b
theorem Bs.append {r1 r2 : List Ref} {b1 b2 : List Nat} (h1 : Bs K r1 b1) (h2 : Bs K r2 b2) : Bs K (r1 ++ r2) (b1 ++ b2) := fun b hb => by
  rcases List.mem_append.1 hb with h | h
  · obtain ⟨r, hr, ha⟩ := h1 b h; exact ⟨r, by simp [hr], ha⟩
  · obtain ⟨r, hr, ha⟩ := h2 b h; exact ⟨r, by simp [hr], ha⟩
theorem nodupR_spec : ∀ {l : List Ref}, nodupR l = true → l.Nodup
  | [], _ => List.nodup_nil
  | r :: l, h => by
    simp only [nodupR, Bool.and_eq_true, Bool.not_eq_true', List.contains_eq_mem, decide_eq_false_iff_not] at h
    exact List.nodup_cons.2 ⟨h.1, nodupR_spec h.2⟩
theorem nodup_blocks (hi : SInv w K) {r1 r2 : List Ref} {b1 b2 : List Nat} (hb1 : Bs K r1 b1) (hb2 : Bs K r2 b2) (n1 : r1.Nodup → b1.Nodup) (n2 : r2.Nodup → b2.Nodup) (h : (r1 ++ r2).Nodup) : (b1 ++ b2).Nodup := by
  rw [List.nodup_append] at h ⊢
  refine ⟨n1 h.1, n2 h.2.1, fun x hx y hy e => ?_⟩
  subst e
  obtain ⟨r, hr, ha⟩ := hb1 x hx
  obtain ⟨r', hr', ha'⟩ := hb2 x hy
  exact h.2.2 r hr r' hr' (ha.eq hi ha')

theorem exp_simple (hi : SInv w K) {v : Value} {d d' : DV} {rs : List Ref} (hr : RepD w K v d) (h : ((deepC K.σ.obj 9 d).map fun v => (DV.p v, ([] : List Ref))) = some (d', rs)) : ∃ bs, RepXC lo w K.imx v d' bs ∧ Bs K rs bs ∧ (rs.Nodup → bs.Nodup) := by
  obtain ⟨p, h1, h2⟩ := Option.map_eq_some_iff.1 h
  simp only [Prod.mk.injEq] at h2
  obtain ⟨rfl, rfl⟩ := h2
  refine ⟨[], .p v p ?_, fun b hb => absurd hb (by simp), fun _ => List.nodup_nil⟩
  exact deepC_sound hi (fun _ _ h => h) imx_M imx_MM 9 9 (Nat.le_refl _) d v p hr h1 (fun r _ => imx_ok hi r)

/-- A cell that is handed back. -/
theorem expC_sound (hi : SInv w K) (hlo : ∀ b, K.LB b → lo ≤ b) {v : Value} {d d' : DV} {rs : List Ref} (hr : RepD w K v d) (h : expC K.σ d = some (d', rs)) : ∃ bs, RepXC lo w K.imx v d' bs ∧ Bs K rs bs ∧ (rs.Nodup → bs.Nodup) := by
  cases hr with
  | agg vs ds hl h1 => simp [expC] at h
  | lin v rows r hp hu hr =>
    have plain : some (DV.p (.sl rows), ([] : List Ref)) = some (d', rs) → ∃ bs, RepXC lo w K.imx v d' bs ∧ Bs K rs bs ∧ (rs.Nodup → bs.Nodup) := by
      intro h
      simp only [Option.some.injEq, Prod.mk.injEq] at h
      obtain ⟨rfl, rfl⟩ := h
      exact ⟨[], .p v _ (keep_less imx_M imx_MM hp), fun b hb => absurd hb (by simp), fun _ => List.nodup_nil⟩
    simp only [expC] at h
    split at h
    · rename_i sz n hright
      split at h
      · rename_i hn
        simp only [Option.some.injEq, Prod.mk.injEq] at h
        obtain ⟨rfl, rfl⟩ := h
        obtain ⟨h1, h2, h3⟩ := hr _ _ hright
        have htok := right_spec.1 hright
        rcases h3 hn with ⟨h4, a, rfl⟩ | ⟨b, h4, rfl⟩
        · obtain ⟨_, h5⟩ := hi.tok _ _ _ _ _ htok
          have h0 : rows = [] := by
            rcases h5 with ⟨_, h6⟩ | ⟨b, cs, e, h6, _⟩
            · exact List.eq_nil_of_length_eq_zero (by omega)
            · rw [h4] at h6; cases h6
          subst h0
          obtain ⟨a', rfl⟩ := nil_inv hp
          exact ⟨[], .new0 _ _, fun b hb => absurd hb (by simp), fun _ => List.nodup_nil⟩
        · obtain ⟨_, h5⟩ := hi.tok _ _ _ _ _ htok
          rcases h5 with ⟨h6, _⟩ | ⟨b', cs, e, h6, h7, h8, h9⟩
          · rw [h4] at h6; cases h6
          · rw [h4] at h6; cases h6
            rw [hn] at hp h9 ⊢
            refine ⟨[b], .new false b (K.κ r.st) (K.κ r.st) sz rows cs e (hlo b ⟨_, .inr ⟨_, _, _, _, htok⟩, h4⟩) h7 h8 h9 (Nat.le_refl _) (fun _ => ⟨rfl, fun o ho => .inl ⟨_, _, _, _, _, htok, h4, by rw [hn]; exact ho⟩⟩) h2 (keep_less imx_M imx_MM hp) (fun h => by cases h), ?_, ?_⟩
            · intro x hx
              rw [List.mem_singleton] at hx; subst hx
              exact ⟨r, by simp, .inr ⟨_, hright⟩, h4⟩
            · intro _; simp
      · exact plain h
    · exact plain h
  | own a cap r off len hu hcap hr =>
    have hrD : RepD w K (.slice (some a) len cap) (.own r off len) := .own a cap r off len hu hcap hr
    simp only [expC] at h
    split at h
    · rename_i sz rows hg
      split at h
      · rename_i hc
        obtain ⟨rfl, rfl, hpos⟩ := hc
        split at h
        · rename_i rs' has
          simp only [Option.some.injEq, Prod.mk.injEq] at h
          obtain ⟨rfl, rfl⟩ := h
          obtain ⟨_, hk, b, hb, ha⟩ := hr _ _ _ hg
          obtain ⟨_, b', cs, e, hb', hh, hcs, hkr, hw, hcell⟩ := hi.obj _ _ _ _ (get_spec.1 hg)
          rw [hb] at hb'; cases hb'
          have hlen : rows.length = rs'.length := (asRows_spec has).1
          have hall : ∀ i j, i < rs'.length → j < sz → RepP w K.im (cs.getD (i * sz + j) undef) ((rs'.getD i []).getD j .nilp) := by
            intro i j hi' hj
            have e1 := (asRows_spec has).2 i hi'
            have hl : i < rows.length := by omega
            have wid : (rows.getD i []).length = sz := by
              rw [List.getD_eq_getElem?_getD, List.getElem?_eq_getElem hl]; exact hw _ (List.getElem_mem hl)
            obtain ⟨e2, e3⟩ := asPs_spec e1
            exact e3 w K j (by omega) _ (hcell i j hl hj).1
          have hwid : ∀ r ∈ rs', r.length = sz := by
            intro x hx
            obtain ⟨i, hi', rfl⟩ := List.mem_iff_getElem.1 hx
            have e1 := (asRows_spec has).2 i hi'
            have hl : i < rows.length := by omega
            have wid : (rows.getD i []).length = sz := by
              rw [List.getD_eq_getElem?_getD, List.getElem?_eq_getElem hl]; exact hw _ (List.getElem_mem hl)
            obtain ⟨e2, _⟩ := asPs_spec e1
            have e3 : rs'.getD i [] = rs'[i] := by rw [List.getD_eq_getElem?_getD, List.getElem?_eq_getElem hi']; rfl
            rw [e3] at e2; omega
          obtain ⟨ok1, ok2⟩ := imx_ok hi r _ b hg hb
          have hla : a = ⟨b, 0, none⟩ := by rw [ha hpos, Nat.zero_mul]
          have hin : ∀ i j, i < rs'.length → j < sz → i * sz + j < cs.size := by
            intro i j hi' hj
            rw [hcs]
            have : i * sz + j < rows.length * sz := row_lt (by omega) hj
            exact Nat.lt_of_lt_of_le this (Nat.mul_le_mul_right _ hkr)
          rw [hla, hlen]
          refine ⟨[b], .new true b cap (K.κ r.st) sz rs' cs e (hlo b ⟨_, .inl ⟨_, _, _, get_spec.1 hg⟩, hb⟩) hh hcs (by omega) (hk rfl) (fun h => by cases h) hwid ?_ (fun _ i j hi' hj => ⟨?_, (hcell i j (by omega) hj).2⟩), ?_, ?_⟩
          · refine .sl b 0 cap sz rs' (fun i j => cs.getD (i * sz + j) undef) hwid (fun i j hi' hj => ⟨?_, ok1 _⟩) (fun i j hi' hj => (hcell i j (by omega) hj).2) (fun i j hi' hj => keep_less imx_M imx_MM (hall i j hi' hj)) (by omega)
            rw [Nat.zero_add]; exact cell_heap hh (hin i j hi' hj)
          · refine keep_less (K := K) ?_ imx_MM (hall i j hi' hj)
            rintro b' o (h | rfl)
            · exact imx_M _ _ h
            · exact .inl ⟨_, _, _, _, _, get_spec.1 hg, hb⟩
          · intro x hx
            rw [List.mem_singleton] at hx; subst hx
            exact ⟨r, by simp, .inl ⟨_, hg⟩, hb⟩
          · intro _; simp
        · exact exp_simple hi hrD h
      · exact exp_simple hi hrD h
    · exact exp_simple hi hrD h
  | undef v => exact exp_simple hi (.undef v) h
  | p v p hp => exact exp_simple hi (.p v p hp) h
  | tup vs ds hl h1 => exact exp_simple hi (.tup vs ds hl h1) h
  | mp a r row off hu hr => exact exp_simple hi (.mp a r row off hu hr) h
  | omap b r hu hr => exact exp_simple hi (.omap b r hu hr) h
  | clo f a b da db ha hb h1 h2 => exact exp_simple hi (.clo f a b da db ha hb h1 h2) h
  | iface t v d hd => exact exp_simple hi (.iface t v d hd) h
  | ent k r i hu h1 => exact exp_simple hi (.ent k r i hu h1) h

theorem expL_sound (hi : SInv w K) (hlo : ∀ b, K.LB b → lo ≤ b) : ∀ (ds : List DV) (vs : List Value) (ds' : List DV) (rs : List Ref), vs.length = ds.length → (∀ i, i < ds.length → RepD w K (vs.getD i undef) (ds.getD i .undef)) → expL K.σ ds = some (ds', rs) →
    ∃ bs, RepXL lo w K.imx vs ds' bs ∧ Bs K rs bs ∧ (rs.Nodup → bs.Nodup)
  | [], vs, ds', rs, hl, _, h => by
    simp only [expL, Option.some.injEq, Prod.mk.injEq] at h
    obtain ⟨rfl, rfl⟩ := h
    cases vs with
    | nil => exact ⟨[], .nil, fun b hb => absurd hb (by simp), fun _ => List.nodup_nil⟩
    | cons v vs => simp at hl
  | d :: ds, vs, ds', rs, hl, hr, h => by
    cases vs with
    | nil => simp at hl
    | cons v vs =>
      simp only [expL] at h
      split at h
      · rename_i d1 r1 ds1 r2 e1 e2
        simp only [Option.some.injEq, Prod.mk.injEq] at h
        obtain ⟨rfl, rfl⟩ := h
        obtain ⟨b1, x1, y1, z1⟩ := expC_sound hi hlo (hr 0 (by simp)) e1
        obtain ⟨b2, x2, y2, z2⟩ := expL_sound hi hlo ds vs ds1 r2 (by simpa using hl) (fun i hi' => by have := hr (i + 1) (by simpa using hi'); simpa using this) e2
        exact ⟨b1 ++ b2, .cons _ _ _ _ _ _ x1 x2, y1.append y2, fun hn => nodup_blocks hi y1 y2 z1 z2 hn⟩
      · cases h

theorem expV_sound (hi : SInv w K) (hlo : ∀ b, K.LB b → lo ≤ b) {v : Value} {d d' : DV} {rs : List Ref} (hr : RepD w K v d) (h : expV K.σ d = some (d', rs)) : ∃ bs, RepXV lo w K.imx v d' bs ∧ Bs K rs bs ∧ (rs.Nodup → bs.Nodup) := by
  have simple : expC K.σ d = some (d', rs) → ∃ bs, RepXV lo w K.imx v d' bs ∧ Bs K rs bs ∧ (rs.Nodup → bs.Nodup) := fun h => by
    obtain ⟨bs, h1, h2⟩ := expC_sound hi hlo hr h
    exact ⟨bs, .c _ _ _ h1, h2⟩
  cases d with
  | agg cs =>
    simp only [expV] at h
    obtain ⟨⟨ds, r⟩, h1, h2⟩ := Option.map_eq_some_iff.1 h
    simp only [Prod.mk.injEq] at h2
    obtain ⟨rfl, rfl⟩ := h2
    cases hr with
    | agg vs ds hl h1' =>
      obtain ⟨bs, x, y⟩ := expL_sound hi hlo _ vs.toList _ _ (by simpa using hl) (fun i hi' => by rw [← getD_toList]; exact h1' i hi') h1
      exact ⟨bs, .agg _ _ _ x, y⟩
  | _ => exact simple h

theorem expVs_sound (hi : SInv w K) (hlo : ∀ b, K.LB b → lo ≤ b) : ∀ (ds : List DV) (vs : List Value) (ds' : List DV) (rs : List Ref), vs.length = ds.length → (∀ i, i < ds.length → RepD w K (vs.getD i undef) (ds.getD i .undef)) → expVs K.σ ds = some (ds', rs) →
    ∃ bs, RepXVs lo w K.imx vs ds' bs ∧ Bs K rs bs ∧ (rs.Nodup → bs.Nodup)
  | [], vs, ds', rs, hl, _, h => by
    simp only [expVs, Option.some.injEq, Prod.mk.injEq] at h
    obtain ⟨rfl, rfl⟩ := h
    cases vs with
    | nil => exact ⟨[], .nil, fun b hb => absurd hb (by simp), fun _ => List.nodup_nil⟩
    | cons v vs => simp at hl
  | d :: ds, vs, ds', rs, hl, hr, h => by
    cases vs with
    | nil => simp at hl
    | cons v vs =>
      simp only [expVs] at h
      split at h
      · rename_i d1 r1 ds1 r2 e1 e2
        simp only [Option.some.injEq, Prod.mk.injEq] at h
        obtain ⟨rfl, rfl⟩ := h
        obtain ⟨b1, x1, y1, z1⟩ := expV_sound hi hlo (hr 0 (by simp)) e1
        obtain ⟨b2, x2, y2, z2⟩ := expVs_sound hi hlo ds vs ds1 r2 (by simpa using hl) (fun i hi' => by have := hr (i + 1) (by simpa using hi'); simpa using this) e2
        exact ⟨b1 ++ b2, .cons _ _ _ _ _ _ x1 x2, y1.append y2, fun hn => nodup_blocks hi y1 y2 z1 z2 hn⟩
      · cases h

/-- WHAT A CALL HANDS BACK. -/
theorem export_sound (hi : SInv w K) (hlo : ∀ b, K.LB b → lo ≤ b) {v : Value} {d d' : DV} (hr : RepD w K v d) (h : exportD K.σ d = some d') : ∃ bs, RepXT lo w K.imx v d' bs ∧ bs.Nodup := by
  have simple : (match expV K.σ d with | some (d', rs) => if nodupR rs then some d' else none | none => none) = some d' → ∃ bs, RepXT lo w K.imx v d' bs ∧ bs.Nodup := by
    intro h
    split at h
    · rename_i d1 rs e1
      split at h
      · rename_i hn
        simp only [Option.some.injEq] at h
        subst h
        obtain ⟨bs, x, _, z⟩ := expV_sound hi hlo hr e1
        exact ⟨bs, .v _ _ _ x, z (nodupR_spec hn)⟩
      · cases h
    · cases h
  cases d with
  | tup ds =>
    simp only [exportD] at h
    split at h
    · rename_i l rs e1
      split at h
      · rename_i hn
        simp only [Option.some.injEq] at h
        subst h
        cases hr with
        | tup vs ds hl h1 =>
          obtain ⟨bs, x, _, z⟩ := expVs_sound hi hlo _ vs.toList _ _ (by simpa using hl) (fun i hi' => by rw [← getD_toList]; exact h1 i hi') e1
          exact ⟨bs, .tup _ _ _ x, z (nodupR_spec hn)⟩
      · cases h
    · cases h
  | _ => exact simple h
end
end Go.Ev
