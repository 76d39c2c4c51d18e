/- A part of an evaluator of closed runs, and of the proof that what it answers holds of the model. No conditions. -/
import Derived.Test.YtfhakpnfmomaaaaGreatDoorEvExp
namespace Go.Ev
open Go

structure Later (K1 Kn : Ctx) : Prop where
  used : ∀ x, K1.used x → Kn.used x
  ι : ∀ x, K1.used x → Kn.ι x = K1.ι x
  κ : ∀ x, K1.used x → Kn.κ x = K1.κ x
  tok : ∀ f s x a, K1.used x → Kn.σ.tok f s = some (x, a) → K1.σ.tok f s = some (x, a)
theorem Later.refl (K : Ctx) : Later K K := ⟨fun _ h => h, fun _ _ => rfl, fun _ _ => rfl, fun _ _ _ _ _ h => h⟩
theorem Later.trans {K K' K'' : Ctx} (h : Later K K') (k : Later K' K'') : Later K K'' :=
  ⟨fun x hu => k.used x (h.used x hu), fun x hu => (k.ι x (h.used x hu)).trans (h.ι x hu), fun x hu => (k.κ x (h.used x hu)).trans (h.κ x hu), fun f s x a hu ht => h.tok f s x a hu (k.tok f s x a (h.used x hu) ht)⟩
theorem later_tok {K : Ctx} (f s st sz n : Nat) (b : Option Nat) (cap : Nat) (hst : ¬ K.used st) : Later K (K.newTok f s st sz n b cap) := by
  have hne : ∀ {x}, K.used x → x ≠ st := fun h e => hst (e ▸ h)
  refine ⟨fun x h => .inr h, fun x h => by simp [Ctx.newTok, hne h], fun x h => by simp [Ctx.newTok, hne h], fun f' s' x a hu h => ?_⟩
  obtain ⟨sz', n'⟩ := a
  rcases put_tok h with ⟨_, _, h⟩ | ⟨_, h⟩
  · simp only [Option.some.injEq, Prod.mk.injEq] at h; exact absurd h.1.symm (hne hu)
  · exact h

theorem scalar_rep {w : World} {I I' : Im} {v : Value} {p : PV} (hs : p.scalar = true) (hG : I'.G = I.G) (h : RepP w I v p) : RepP w I' v p := by
  cases h with
  | bool b => exact .bool b
  | int k n => exact .int k n
  | str s l h => exact .str s l h
  | nilp => exact .nilp
  | nilsl => exact .nilsl
  | emp a => exact .emp a
  | nilmap => exact .nilmap
  | nilif => exact .nilif
  | nilfn => exact .nilfn
  | gref g a h => exact .gref g a (by rw [hG]; exact h)
  | sym g k n h => exact .sym g k n (by rw [hG]; exact h)
  | agg => cases hs
  | sl0 => cases hs
  | sl => cases hs
  | ip => cases hs
  | imap => cases hs
  | clo => cases hs
  | iface t v p h =>
    cases h with
    | gref g a h => exact .iface _ _ _ (.gref g a (by rw [hG]; exact h))
    | _ => cases hs

theorem scalar_new {ow : Bool} {sz : Nat} {rows : List (List PV)} (h : scalarD (.new ow sz rows) = true) {i j : Nat} (hi : i < rows.length) (hj : j < (rows.getD i []).length) : ((rows.getD i []).getD j .nilp).scalar = true := by
  simp only [scalarD, List.all_eq_true] at h
  have e1 : rows.getD i [] = rows[i] := by rw [List.getD_eq_getElem?_getD, List.getElem?_eq_getElem hi]; rfl
  rw [e1] at hj ⊢
  have e2 : rows[i].getD j .nilp = rows[i][j] := by rw [List.getD_eq_getElem?_getD, List.getElem?_eq_getElem hj]; rfl
  rw [e2]
  exact h _ (List.getElem_mem hi) _ (List.getElem_mem hj)

/-- The cells behind a new slice. -/
theorem new_cells {w : World} {I : Im} {b cap sz κ : Nat} {rows : List (List PV)} {cs : Array Value} {e : TypeId} (hh : w.heap[b]? = some (.cells cs e (0, 0))) (hcs : cs.size = κ * sz) (hcap : rows.length ≤ κ) (hw : ∀ r ∈ rows, r.length = sz)
    (hp : RepP w I (.slice (some ⟨b, 0, none⟩) rows.length cap) (.sl rows)) :
    ∀ i j, i < rows.length → j < sz → w.cell? ⟨b, i * sz + j, none⟩ = some (cs.getD (i * sz + j) undef) ∧ ¬ I.M b (i * sz + j) ∧ (cs.getD (i * sz + j) undef).oneCell' = true ∧ RepP w I (cs.getD (i * sz + j) undef) ((rows.getD i []).getD j .nilp) := by
  generalize hv : Value.slice (some ⟨b, 0, none⟩) rows.length cap = v at hp
  generalize hq : PV.sl rows = q at hp
  intro i j hi hj
  have hcell := cell_heap (w := w) hh (i := i * sz + j) (by
    rw [hcs]
    have : i * sz + j < rows.length * sz := row_lt hi hj
    exact Nat.lt_of_lt_of_le this (Nat.mul_le_mul_right _ hcap))
  cases hp with
  | sl b' o' c' s' rows' f hs hc ho hr hcap' =>
    cases hq
    cases hv
    have hmem : rows[i] ∈ rows := List.getElem_mem hi
    have : s' = sz := (hs _ hmem).symm.trans (hw _ hmem)
    subst this
    have h1 := hc i j hi hj
    rw [Nat.zero_add] at h1
    have e1 := h1.1.symm.trans hcell
    simp only [Option.some.injEq] at e1
    exact ⟨hcell, h1.2, by rw [← e1]; exact ho i j hi hj, by rw [← e1]; exact hr i j hi hj⟩
  | sl0 a c => cases hq; simp at hi
  | _ => cases hq

section
variable {w w1 : World} {K : Ctx} {I : Im}

/-- What stands behind a call while it is taken in. -/
structure Imp (w w1 : World) (K : Ctx) (I : Im) (Kj : Ctx) : Prop where
  ext : Ext w K w1 Kj
  inv : SInv w1 Kj
  obj : Kj.σ.obj = K.σ.obj
  M : ∀ b o, Kj.M b o → K.M b o ∨ (I.M b o ∧ w.heap.size ≤ b)
  MM : ∀ b, Kj.MM b → K.MM b

/-- The values may stand as they stood. -/
def MC (w : World) (I : Im) (Kn : Ctx) (sc : Prop) : Prop := Kn.G = I.G ∧ (((∀ b o, Kn.M b o → I.M b o) ∧ (∀ b, Kn.MM b → I.MM b)) ∨ (sc ∧ ∀ b o, w.heap.size ≤ b → Kn.M b o → I.M b o))
theorem MC.mono {Kn : Ctx} {p q : Prop} (h : MC w I Kn p) (hpq : p → q) : MC w I Kn q := ⟨h.1, h.2.imp id (fun x => ⟨hpq x.1, x.2⟩)⟩

theorem mc_p {Kn : Ctx} {v : Value} {pv : PV} (h : RepP w1 I v pv) (hc : MC w I Kn (scalarD (.p pv) = true)) : RepP w1 Kn.im v pv := by
  rcases hc.2 with ⟨h1, h2⟩ | ⟨h1, _⟩
  · exact h.keep (I' := Kn.im) ⟨fun b o _ h3 h4 => ⟨h3, fun (x : Kn.M b o) => h4 (h1 b o x)⟩, fun r _ _ h3 h4 => ⟨h3, fun (x : Kn.MM r) => h4 (h2 r x)⟩, hc.1⟩
  · exact scalar_rep h1 hc.1 h
theorem mc_new {Kn : Ctx} {ow : Bool} {b cap κ sz : Nat} {rows : List (List PV)} {cs : Array Value} {e : TypeId} (hlo : w.heap.size ≤ b) (hh : w1.heap[b]? = some (.cells cs e (0, 0))) (hcs : cs.size = κ * sz) (hcap : rows.length ≤ cap) (hκ : cap ≤ κ) (hw : ∀ r ∈ rows, r.length = sz)
    (hp : RepP w1 I (.slice (some ⟨b, 0, none⟩) rows.length cap) (.sl rows)) (hc : MC w I Kn (scalarD (.new ow sz rows) = true)) : RepP w1 Kn.im (.slice (some ⟨b, 0, none⟩) rows.length cap) (.sl rows) := by
  rcases hc.2 with ⟨h1, h2⟩ | ⟨h1, h2⟩
  · exact hp.keep (I' := Kn.im) ⟨fun b o _ h3 h4 => ⟨h3, fun (x : Kn.M b o) => h4 (h1 b o x)⟩, fun r _ _ h3 h4 => ⟨h3, fun (x : Kn.MM r) => h4 (h2 r x)⟩, hc.1⟩
  · have hnc := new_cells hh hcs (Nat.le_trans hcap hκ) hw hp
    refine .sl b 0 cap sz rows (fun i j => cs.getD (i * sz + j) undef) hw (fun i j hi hj => ?_) (fun i j hi hj => (hnc i j hi hj).2.2.1) (fun i j hi hj => ?_) hcap
    · obtain ⟨e1, e2, _⟩ := hnc i j hi hj
      rw [Nat.zero_add]
      exact ⟨e1, fun x => e2 (h2 b _ hlo x)⟩
    · have hwi : (rows.getD i []).length = sz := by rw [List.getD_eq_getElem?_getD, List.getElem?_eq_getElem hi]; exact hw _ (List.getElem_mem hi)
      exact scalar_rep (scalar_new h1 hi (by rw [hwi]; exact hj)) hc.1 (hnc i j hi hj).2.2.2

/-- The outcome of taking something in. -/
structure Took (w w1 : World) (K : Ctx) (I : Im) (Kj : Ctx) (bs : List Nat) (st lim : Nat) (ss' : Sites) (st' : Nat) (σ' : Store) (K' : Ctx) : Prop where
  σ : K'.σ = σ'
  imp : Imp w w1 K I K'
  later : Later Kj K'
  le : st ≤ st'
  lim : st' + ss'.length ≤ lim
  used : ∀ x, K'.used x → Kj.used x ∨ (st ≤ x ∧ x < st')
  LB : ∀ b, K'.LB b → Kj.LB b ∨ b ∈ bs

theorem Took.none {Kj : Ctx} (hI : Imp w w1 K I Kj) {bs : List Nat} {st lim : Nat} {ss : Sites} (hl : st + ss.length ≤ lim) : Took w w1 K I Kj bs st lim ss st Kj.σ Kj :=
  ⟨rfl, hI, .refl _, Nat.le_refl _, hl, fun _ h => .inl h, fun _ h => .inl h⟩

theorem impC_sound (hi : SInv w K) (ho : Old w K) (hh : ∀ k, k < w.heap.size → w1.heap[k]? = w.heap[k]?) {F : Nat} {Kj : Ctx} (hI : Imp w w1 K I Kj) {v : Value} {d : DV} {bs : List Nat} (hrep : RepXC w.heap.size w1 I v d bs) (hfree : ∀ b ∈ bs, ¬ Kj.LB b) {ss : Sites} {st lim : Nat} (hl : st + ss.length ≤ lim)
    (hst : ∀ x, st ≤ x → x < lim → ¬ Kj.used x) {d' : DV} {ss' : Sites} {st' : Nat} {σ' : Store} (h : impC F false d ss st Kj.σ = some (d', ss', st', σ')) :
    ∃ K', Took w w1 K I Kj bs st lim ss' st' σ' K' ∧ ∀ Kn, Later K' Kn → MC w I Kn (scalarD d = true) → RepD w1 Kn v d' := by
  cases hrep with
  | p v pv hp =>
    simp only [impC, Option.some.injEq, Prod.mk.injEq] at h
    obtain ⟨rfl, rfl, rfl, rfl⟩ := h
    exact ⟨Kj, .none hI hl, fun Kn _ hc => .p _ _ (mc_p hp hc)⟩
  | new0 a sz =>
    have plain : ∀ r : Sites, st + r.length ≤ lim → ∃ K', Took w w1 K I Kj [] st lim r st Kj.σ K' ∧ ∀ Kn, Later K' Kn → MC w I Kn (scalarD (.new false sz []) = true) → RepD w1 Kn (.slice (some a) 0 0) (.p (.sl [])) :=
      fun r hr => ⟨Kj, .none hI hr, fun Kn _ _ => .p _ _ (.sl0 a 0)⟩
    cases ss with
    | nil =>
      simp only [impC, Option.some.injEq, Prod.mk.injEq] at h
      obtain ⟨rfl, rfl, rfl, rfl⟩ := h
      exact plain _ hl
    | cons x r =>
      obtain ⟨site, k⟩ := x
      have hr : st + r.length ≤ lim := by simp only [List.length_cons] at hl; omega
      have lin : impC F false (.new false sz []) ((site, .lin) :: r) st Kj.σ = some (d', ss', st', σ') → ∃ K', Took w w1 K I Kj [] st lim ss' st' σ' K' ∧ ∀ Kn, Later K' Kn → MC w I Kn (scalarD (.new false sz []) = true) → RepD w1 Kn (.slice (some a) 0 0) d' := by
        intro h
        simp only [impC, beq_self_eq_true, Bool.not_false, Bool.and_self, if_true, Option.some.injEq, Prod.mk.injEq] at h
        obtain ⟨rfl, rfl, rfl, rfl⟩ := h
        have hs := hst st (Nat.le_refl _) (by simp only [List.length_cons] at hl; omega)
        obtain ⟨h1, h2⟩ := add_tok hi ho hI.ext hI.inv hI.obj hh F site st sz 0 0 hs none (.inl ⟨rfl, rfl⟩)
        refine ⟨_, ⟨rfl, ⟨h1, h2, hI.obj, ?_, ?_⟩, later_tok _ _ _ _ _ _ _ hs, Nat.le_succ _, by simp only [List.length_cons] at hl; omega, ?_, ?_⟩, ?_⟩
        · rintro b o (⟨f', s', x, sz', rows, h3, h4⟩ | ⟨f', s', x, sz', n', h3, h4, h5⟩ | h3)
          · have : x ≠ st := fun e => hs (e ▸ (hI.inv.obj _ _ _ _ h3).1)
            simp only [Ctx.newTok, this, if_false] at h4
            exact hI.M b o (.inl ⟨_, _, _, _, _, h3, h4⟩)
          · rcases put_tok h3 with ⟨_, _, h⟩ | ⟨_, h⟩
            · simp only [Option.some.injEq, Prod.mk.injEq] at h
              simp [Ctx.newTok, h.1.symm] at h4
            · have : x ≠ st := fun e => hs (e ▸ (hI.inv.tok _ _ _ _ _ h).1)
              simp only [Ctx.newTok, this, if_false] at h4
              exact hI.M b o (.inr (.inl ⟨_, _, _, _, _, h, h4, h5⟩))
          · exact hI.M b o (.inr (.inr h3))
        · rintro b (⟨f', s', x, es, h3, h4⟩ | h3)
          · have : x ≠ st := fun e => hs (e ▸ (hI.inv.obj _ _ _ _ h3).1)
            simp only [Ctx.newTok, this, if_false] at h4
            exact hI.MM b (.inl ⟨_, _, _, _, h3, h4⟩)
          · exact hI.MM b (.inr h3)
        · rintro x (rfl | h)
          · exact .inr ⟨Nat.le_refl _, Nat.lt_succ_self _⟩
          · exact .inl h
        · rintro b ⟨x, hlv, h4⟩
          left
          rcases hlv with ⟨f', s', o', h3⟩ | ⟨f', s', sz', n', h3⟩
          · have : x ≠ st := fun e => hs (e ▸ (hI.inv.obj _ _ _ _ h3).1)
            simp only [Ctx.newTok, this, if_false] at h4
            exact ⟨x, .inl ⟨_, _, _, h3⟩, h4⟩
          · rcases put_tok h3 with ⟨_, _, h⟩ | ⟨_, h⟩
            · simp only [Option.some.injEq, Prod.mk.injEq] at h
              simp [Ctx.newTok, h.1.symm] at h4
            · have : x ≠ st := fun e => hs (e ▸ (hI.inv.tok _ _ _ _ _ h).1)
              simp only [Ctx.newTok, this, if_false] at h4
              exact ⟨x, .inr ⟨_, _, _, _, h⟩, h4⟩
        · intro Kn hla _
          have hu : (Kj.newTok F site st sz 0 none 0).used st := .inl rfl
          refine .lin _ [] ⟨F, site, st⟩ (.sl0 a 0) (hla.used _ hu) (fun sz' n' hr' => ?_)
          have h3 := hla.tok _ _ _ _ hu (right_spec.1 hr')
          rcases put_tok h3 with ⟨_, _, h⟩ | ⟨h, _⟩
          · simp only [Option.some.injEq, Prod.mk.injEq, true_and] at h
            obtain ⟨rfl, rfl⟩ := h
            refine ⟨Nat.le_refl _, fun r hr => absurd hr (by simp), fun _ => .inl ⟨?_, some a, rfl⟩⟩
            rw [hla.ι _ hu]; simp [Ctx.newTok]
          · exact absurd ⟨rfl, rfl⟩ h
      cases k with
      | lin => exact lin h
      | imm =>
        simp only [impC, Option.some.injEq, Prod.mk.injEq] at h
        obtain ⟨rfl, rfl, rfl, rfl⟩ := h
        exact plain _ hr
      | own =>
        simp only [impC, show (SlK.own == SlK.lin) = false from rfl, Bool.false_and, Bool.false_eq_true, if_false, Option.some.injEq, Prod.mk.injEq] at h
        obtain ⟨rfl, rfl, rfl, rfl⟩ := h
        exact plain _ hr
  | new ow b cap κ sz rows cs e hlo hhp hcs hcap hκ hlin hw hp how =>
    have plain : ∀ r : Sites, st + r.length ≤ lim → ∃ K', Took w w1 K I Kj [b] st lim r st Kj.σ K' ∧ ∀ Kn, Later K' Kn → MC w I Kn (scalarD (.new ow sz rows) = true) → RepD w1 Kn (.slice (some ⟨b, 0, none⟩) rows.length cap) (.p (.sl rows)) :=
      fun r hr => ⟨Kj, .none hI hr, fun Kn _ hc => .p _ _ (mc_new hlo hhp hcs hcap hκ hw hp hc)⟩
    cases ss with
    | nil =>
      simp only [impC, Option.some.injEq, Prod.mk.injEq] at h
      obtain ⟨rfl, rfl, rfl, rfl⟩ := h
      exact plain _ hl
    | cons x r =>
      obtain ⟨site, k⟩ := x
      have hr : st + r.length ≤ lim := by simp only [List.length_cons] at hl; omega
      have lin : ow = false → (DV.lin rows ⟨F, site, st⟩, r, st + 1, Kj.σ.putTok F site (some (st, sz, rows.length))) = (d', ss', st', σ') → ∃ K', Took w w1 K I Kj [b] st lim ss' st' σ' K' ∧ ∀ Kn, Later K' Kn → MC w I Kn (scalarD (.new ow sz rows) = true) → RepD w1 Kn (.slice (some ⟨b, 0, none⟩) rows.length cap) d' := by
        intro how' h
        simp only [Prod.mk.injEq] at h
        obtain ⟨rfl, rfl, rfl, rfl⟩ := h
        obtain ⟨rfl, hbey⟩ := hlin how'
        have hs := hst st (Nat.le_refl _) (by simp only [List.length_cons] at hl; omega)
        have hnl := hfree b (by simp)
        obtain ⟨h1, h2⟩ := add_tok hi ho hI.ext hI.inv hI.obj hh F site st sz rows.length cap hs (some b) (.inr ⟨b, cs, e, rfl, hlo, hnl, hhp, hcs, hcap⟩)
        refine ⟨_, ⟨rfl, ⟨h1, h2, hI.obj, ?_, ?_⟩, later_tok _ _ _ _ _ _ _ hs, Nat.le_succ _, by simp only [List.length_cons] at hl; omega, ?_, ?_⟩, ?_⟩
        · rintro b' o (⟨f', s', x, sz', rows', h3, h4⟩ | ⟨f', s', x, sz', n', h3, h4, h5⟩ | h3)
          · have : x ≠ st := fun e => hs (e ▸ (hI.inv.obj _ _ _ _ h3).1)
            simp only [Ctx.newTok, this, if_false] at h4
            exact hI.M b' o (.inl ⟨_, _, _, _, _, h3, h4⟩)
          · rcases put_tok h3 with ⟨_, _, h⟩ | ⟨_, h⟩
            · simp only [Option.some.injEq, Prod.mk.injEq] at h
              obtain ⟨rfl, rfl, rfl⟩ := h
              simp only [Ctx.newTok, if_true, Option.some.injEq] at h4
              subst h4
              exact .inr ⟨hbey o h5, hlo⟩
            · have : x ≠ st := fun e => hs (e ▸ (hI.inv.tok _ _ _ _ _ h).1)
              simp only [Ctx.newTok, this, if_false] at h4
              exact hI.M b' o (.inr (.inl ⟨_, _, _, _, _, h, h4, h5⟩))
          · exact hI.M b' o (.inr (.inr h3))
        · rintro b' (⟨f', s', x, es, h3, h4⟩ | h3)
          · have : x ≠ st := fun e => hs (e ▸ (hI.inv.obj _ _ _ _ h3).1)
            simp only [Ctx.newTok, this, if_false] at h4
            exact hI.MM b' (.inl ⟨_, _, _, _, h3, h4⟩)
          · exact hI.MM b' (.inr h3)
        · rintro x (rfl | h)
          · exact .inr ⟨Nat.le_refl _, Nat.lt_succ_self _⟩
          · exact .inl h
        · rintro b' ⟨x, hlv, h4⟩
          rcases hlv with ⟨f', s', o', h3⟩ | ⟨f', s', sz', n', h3⟩
          · have : x ≠ st := fun e => hs (e ▸ (hI.inv.obj _ _ _ _ h3).1)
            simp only [Ctx.newTok, this, if_false] at h4
            exact .inl ⟨x, .inl ⟨_, _, _, h3⟩, h4⟩
          · rcases put_tok h3 with ⟨_, _, h⟩ | ⟨_, h⟩
            · simp only [Option.some.injEq, Prod.mk.injEq] at h
              simp only [Ctx.newTok, h.1.symm, if_true, Option.some.injEq] at h4
              exact .inr (by simp [h4])
            · have : x ≠ st := fun e => hs (e ▸ (hI.inv.tok _ _ _ _ _ h).1)
              simp only [Ctx.newTok, this, if_false] at h4
              exact .inl ⟨x, .inr ⟨_, _, _, _, h⟩, h4⟩
        · intro Kn hla hc
          have hu : (Kj.newTok F site st sz rows.length (some b) cap).used st := .inl rfl
          refine .lin _ rows ⟨F, site, st⟩ (mc_new hlo hhp hcs hcap (Nat.le_refl _) hw hp hc) (hla.used _ hu) (fun sz' n' hr' => ?_)
          have h3 := hla.tok _ _ _ _ hu (right_spec.1 hr')
          rcases put_tok h3 with ⟨_, _, h⟩ | ⟨h, _⟩
          · simp only [Option.some.injEq, Prod.mk.injEq, true_and] at h
            obtain ⟨rfl, rfl⟩ := h
            refine ⟨Nat.le_refl _, hw, fun _ => .inr ⟨b, ?_, ?_⟩⟩
            · rw [hla.ι _ hu]; simp [Ctx.newTok]
            · rw [hla.κ _ hu]; simp [Ctx.newTok]
          · exact absurd ⟨rfl, rfl⟩ h
      cases k with
      | imm =>
        simp only [impC, Option.some.injEq, Prod.mk.injEq] at h
        obtain ⟨rfl, rfl, rfl, rfl⟩ := h
        exact plain _ hr
      | own =>
        simp only [impC, show (SlK.own == SlK.lin) = false from rfl, Bool.false_and, Bool.false_eq_true, if_false, Option.some.injEq, Prod.mk.injEq] at h
        obtain ⟨rfl, rfl, rfl, rfl⟩ := h
        exact plain _ hr
      | lin =>
        cases ow with
        | false =>
          simp only [impC, beq_self_eq_true, Bool.not_false, Bool.and_self, if_true, Option.some.injEq] at h
          exact lin rfl h
        | true =>
          simp only [impC, beq_self_eq_true, Bool.not_true, Bool.and_false, Bool.false_and, Bool.false_eq_true, if_false, Option.some.injEq, Prod.mk.injEq] at h
          obtain ⟨rfl, rfl, rfl, rfl⟩ := h
          exact plain _ hr
end
end Go.Ev
