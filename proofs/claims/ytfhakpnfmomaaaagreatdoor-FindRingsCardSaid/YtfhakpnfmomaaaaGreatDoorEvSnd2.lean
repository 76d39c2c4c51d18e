/- A part of an evaluator of closed runs, and of the proof that what it answers holds of the model. No conditions. -/
import Derived.Test.YtfhakpnfmomaaaaGreatDoorEvSnd
namespace Go.Ev
open Go
section
variable {P : Program} {o : Oper} {a : Act} {w : World} {K : Ctx} {fr : Frame} {st F : Nat} {hide : List Nat} {R : Recs} {d : DV} {σ' : Store}

theorem snd_sliceSl (hi : SInv w K) (hf : FRel w K a.tmps fr) {s : Nat} {x' : Opd} {lo' hi' mx' : Option Opd} (hc : chkSliceSl P o s x' lo' hi' mx' = true) (h : evOp R F st fr hide K.σ (.sliceSl s x' lo' hi' mx') = some (d, σ')) : Runs P o a w K st d σ' := by
  unfold chkSliceSl at hc
  split at hc
  · rename_i t x lo hi2 ho
    simp only [Bool.and_eq_true, beq_iff_eq, Option.isNone_iff_eq_none] at hc
    obtain ⟨⟨⟨⟨rfl, h1⟩, h2⟩, h3⟩, h4⟩ := hc
    obtain ⟨e, hu, hn⟩ := elemB_spec h4
    simp only [evOp] at h
    have rows_case : ∀ rows, (x'.ev fr = .p (.sl rows) ∨ ∃ r, x'.ev fr = .lin rows r) → sliceRows fr K.σ s rows lo' hi' none = some (d, σ') → Runs P o a w K st d σ' := by
      intro rows hx hs
      unfold sliceRows at hs
      split at hs
      · rename_i l hh e1 e2
        split at hs
        · rename_i hle
          simp only [Option.some.injEq, Prod.mk.injEq] at hs
          obtain ⟨rfl, rfl⟩ := hs
          exact run_sliceSl hi hf ho hu hn h1 h2 h3 hx e1 e2 hle.1 hle.2.1 hle.2.2
        · cases hs
      · cases hs
    split at h
    · rename_i hx
      split at h
      · rename_i e1 e2 _
        simp only [Option.some.injEq, Prod.mk.injEq] at h
        obtain ⟨rfl, rfl⟩ := h
        have := run_sliceEmp (P := P) (st := st) hi hf ho hu hn h1 h2 h3 (.inl hx) e1 e2
        rwa [hx] at this
      · rename_i e3; cases e3
      · cases h
    · rename_i hx
      split at h
      · rename_i e1 e2 _
        simp only [Option.some.injEq, Prod.mk.injEq] at h
        obtain ⟨rfl, rfl⟩ := h
        have := run_sliceEmp (P := P) (st := st) hi hf ho hu hn h1 h2 h3 (.inr hx) e1 e2
        rwa [hx] at this
      · rename_i e3; cases e3
      · cases h
    · rename_i rows hx; exact rows_case rows (.inl hx) h
    · rename_i rows r hx; exact rows_case rows (.inr ⟨r, hx⟩) h
    · rename_i r off len hx
      split at h
      · rename_i l hh sz rows mu e1 e2 _ hg
        split at h
        · rename_i hle
          simp only [Option.some.injEq, Prod.mk.injEq] at h
          obtain ⟨rfl, rfl⟩ := h
          obtain ⟨g1, g2, rfl⟩ := hle
          exact run_sliceOwn hi hf ho hu hn h1 h2 h3 hx e1 e2 g1 g2 (hide_less _ _ _) hg
        · cases h
      · cases h
    · cases h
  · cases hc

theorem chkAppend_spec {s : Nat} {x' y' : Opd} (hc : chkAppend P o s x' y' = true) : ∃ c x y t t2 e z bytes ty2, o.op = .call c ∧ c.callee = .builtin .append ∧ c.args = #[x, y] ∧ c.argTypes = #[t, t2] ∧ P.underlying t = some (.slice e) ∧ P.underlying t2 = some ty2 ∧ (∀ k, ty2 ≠ .int k) ∧
    (P.info? e).map (fun i => (i.size, i.bytes, i.zero)) = some (s, bytes, some z) ∧ z.cells.size = s ∧ bytes ≤ 32768 ∧ 0 < bytes ∧ chkX x x' = true ∧ chkX y y' = true := by
  unfold chkAppend at hc
  split at hc
  · rename_i c ho
    simp only [Bool.and_eq_true] at hc
    obtain ⟨h1, h2⟩ := hc
    split at h1
    · rename_i hcal
      split at h2
      · rename_i x y t t2 hx ht
        simp only [Bool.and_eq_true] at h2
        obtain ⟨⟨⟨h3, h4⟩, h5⟩, h6⟩ := h2
        have hu2 : ∃ d, P.underlying t2 = some d ∧ ∀ k, d ≠ .int k := by
          split at h5
          · cases h5
          · rename_i d hne hu; exact ⟨d, hu, fun k e => hne k e⟩
          · cases h5
        obtain ⟨ty2, u2, n2⟩ := hu2
        split at h6
        · rename_i e he
          split at h6
          · rename_i i hinf
            simp only [Bool.and_eq_true, beq_iff_eq, decide_eq_true_eq] at h6
            obtain ⟨⟨⟨g1, g2⟩, g3⟩, g4⟩ := h6
            split at g4
            · rename_i z hz
              simp only [beq_iff_eq] at g4
              exact ⟨c, x, y, t, t2, e, z, i.bytes, ty2, ho, hcal, Array.ext' (by rw [hx]), Array.ext' (by rw [ht]), elemOf_spec he, u2, n2, by rw [hinf]; simp [g1, hz], g4, g2, g3, h3, h4⟩
            · cases g4
          · cases h6
        · cases h6
      · cases h2
    · cases h1
  · cases hc

theorem snd_append (hi : SInv w K) (hold : Old w K) (hf : FRel w K a.tmps fr) (hst : ¬ K.used st) {site s : Nat} {dyn : Bool} {x' y' : Opd} (hc : chkAppend P o s x' y' = true) (h : evOp R F st fr hide K.σ (.append site s dyn x' y') = some (d, σ')) : Runs P o a w K st d σ' := by
  obtain ⟨c, x, y, t, t2, e, z, bytes, ty2, ho, hcal, ha, hat, hu, hu2, hni, hinf, hz, hb1, hb2, hx, hy⟩ := chkAppend_spec hc
  have hinf1 : (P.info? e).map (·.size) = some s := by
    obtain ⟨i, i1, i2⟩ := Option.map_eq_some_iff.1 hinf
    simp only [Prod.mk.injEq] at i2
    rw [i1]; simp [i2.1]
  simp only [evOp] at h
  split at h
  · rename_i hys
    have run := @run_append0 P o a w K fr st hi hf s c x y x' y' t t2 e ty2 ho hcal ha hat hu hu2 hni hinf1 hx hy _ (hide_less _ _ _) hys
    split at h
    · rename_i rows r hxe
      split at h
      · cases h
      · simp only [Option.some.injEq, Prod.mk.injEq] at h
        obtain ⟨rfl, rfl⟩ := h
        have := run (.inl ⟨_, _, hxe⟩); rwa [hxe] at this
    · rename_i hxe
      simp only [Option.some.injEq, Prod.mk.injEq] at h
      obtain ⟨rfl, rfl⟩ := h
      have := run (.inr (.inr (.inl hxe))); rwa [hxe] at this
    · rename_i hxe
      simp only [Option.some.injEq, Prod.mk.injEq] at h
      obtain ⟨rfl, rfl⟩ := h
      have := run (.inr (.inr (.inr (.inl hxe)))); rwa [hxe] at this
    · rename_i rows hxe
      simp only [Option.some.injEq, Prod.mk.injEq] at h
      obtain ⟨rfl, rfl⟩ := h
      have := run (.inr (.inr (.inr (.inr ⟨_, hxe⟩)))); rwa [hxe] at this
    · cases h
  · rename_i ys hne hys
    have hne' : ys ≠ [] := fun e => hne e
    split at h
    · rename_i hlen
      split at h
      · rename_i rows r hxe
        split at h
        · cases h
        · split at h
          · rename_i sz n hr
            split at h
            · rename_i hcond
              obtain ⟨rfl, rfl, hle⟩ := hcond
              simp only [Option.some.injEq, Prod.mk.injEq] at h
              obtain ⟨rfl, rfl⟩ := h
              exact run_append hi hold hf F site sz dyn hide hst ho hcal ha hat hu hu2 hni hinf hz hb1 hb2 hx hy (hide_less _ _ _) hys hne' (.inl ⟨_, _, hxe, hr, hle, rfl, rfl⟩)
            · cases h
          · cases h
      · rename_i hxe
        simp only [Option.some.injEq, Prod.mk.injEq] at h
        obtain ⟨rfl, rfl⟩ := h
        exact run_append hi hold hf F site s dyn hide hst ho hcal ha hat hu hu2 hni hinf hz hb1 hb2 hx hy (hide_less _ _ _) hys hne' (.inr ⟨.inl hxe, hlen, rfl, rfl⟩)
      · rename_i hxe
        simp only [Option.some.injEq, Prod.mk.injEq] at h
        obtain ⟨rfl, rfl⟩ := h
        exact run_append hi hold hf F site s dyn hide hst ho hcal ha hat hu hu2 hni hinf hz hb1 hb2 hx hy (hide_less _ _ _) hys hne' (.inr ⟨.inr hxe, hlen, rfl, rfl⟩)
      · cases h
    · cases h
  · cases h

theorem chkZeroV_spec {t : TypeId} {zero : PV} (h : chkZeroV P t zero = true) : ∃ z, (P.info? t).bind (·.zero) = some z ∧ chkV z zero = true := by
  unfold chkZeroV at h
  split at h
  · rename_i z hz; exact ⟨z, hz, h⟩
  · cases h

theorem snd_clear (hi : SInv w K) (hf : FRel w K a.tmps fr) {zero : List PV} {x' : Opd} (hc : chkClear P o zero x' = true) (h : evOp R F st fr hide K.σ (.clear zero x') = some (d, σ')) : Runs P o a w K st d σ' := by
  simp only [evOp] at h
  unfold chkClear at hc
  split at hc
  · rename_i c ho
    simp only [Bool.and_eq_true] at hc
    obtain ⟨h1, h2⟩ := hc
    split at h1
    · rename_i hcal
      split at h2
      · rename_i x t hx ht
        simp only [Bool.and_eq_true] at h2
        obtain ⟨h3, h4⟩ := h2
        split at h4
        · rename_i e he
          obtain ⟨z, z1, z2⟩ := chkZero_spec h4
          split at h
          · rename_i r off len hxe
            split at h
            · rename_i sz rows hg
              split at h
              · rename_i hcond
                obtain ⟨rfl, hle⟩ := hcond
                simp only [Option.some.injEq, Prod.mk.injEq] at h
                obtain ⟨rfl, rfl⟩ := h
                exact run_clear hi hf ho hcal (Array.ext' (by rw [hx])) (Array.ext' (by rw [ht])) (elemOf_spec he) z1 z2 h3 hxe hg hle
              · cases h
            · cases h
          · cases h
        · cases h4
      · cases h2
    · cases h1
  · cases hc

theorem snd_lookup (hi : SInv w K) (hf : FRel w K a.tmps fr) {kd : Nat} {ks : List Nat} {zero : PV} {ok : Bool} {m' k' : Opd} (hc : chkLookup P o kd ks zero ok m' k' = true) (h : evOp R F st fr hide K.σ (.lookup kd ks zero ok m' k') = some (d, σ')) : Runs P o a w K st d σ' := by
  simp only [evOp] at h
  unfold chkLookup at hc
  split at hc
  · rename_i t m k ok' ho
    simp only [Bool.and_eq_true, beq_iff_eq] at hc
    obtain ⟨⟨⟨rfl, h1⟩, h2⟩, h3⟩ := hc
    split at h3
    · rename_i kt e hu
      simp only [Bool.and_eq_true] at h3
      obtain ⟨hk, hz⟩ := h3
      obtain ⟨z, z1, z2⟩ := chkZeroV_spec hz
      split at h
      · rename_i key hkey
        split at h
        · rename_i hok
          split at h
          · rename_i hm
            simp only [Option.some.injEq, Prod.mk.injEq] at h
            obtain ⟨rfl, rfl⟩ := h
            exact run_lookupN hi hf ho hu hk z1 z2 h1 h2 hkey hok hm
          · rename_i es hm
            split at h
            · rename_i i hfi
              obtain ⟨en, e1, e2⟩ := Option.map_eq_some_iff.1 h
              simp only [Prod.mk.injEq] at e2
              obtain ⟨rfl, rfl⟩ := e2
              exact run_lookupP hi hf ho hu hk z1 z2 h1 h2 hkey hok hm (.inl ⟨i, en, hfi, e1, rfl⟩)
            · rename_i hfi
              simp only [Option.some.injEq, Prod.mk.injEq] at h
              obtain ⟨rfl, rfl⟩ := h
              exact run_lookupP hi hf ho hu hk z1 z2 h1 h2 hkey hok hm (.inr ⟨hfi, rfl⟩)
            · cases h
          · rename_i r hm
            split at h
            · rename_i es mu hg
              split at h
              · rename_i i hfi
                obtain ⟨en, e1, e2⟩ := Option.map_eq_some_iff.1 h
                simp only [Prod.mk.injEq] at e2
                obtain ⟨rfl, rfl⟩ := e2
                exact run_lookupO hi hf ho hu hk z1 z2 h1 h2 hkey hok hm (hide_less _ _ _) hg (.inl ⟨i, en, hfi, e1, rfl⟩)
              · rename_i hfi
                simp only [Option.some.injEq, Prod.mk.injEq] at h
                obtain ⟨rfl, rfl⟩ := h
                exact run_lookupO hi hf ho hu hk z1 z2 h1 h2 hkey hok hm (hide_less _ _ _) hg (.inr ⟨hfi, rfl⟩)
              · cases h
            · cases h
          · cases h
        · cases h
      · cases h
    · cases h3
  · cases hc
theorem snd_appendO (hi : SInv w K) (hold : Old w K) (hf : FRel w K a.tmps fr) (hst : ¬ K.used st) {site s : Nat} {x' y' : Opd} (hc : chkAppend P o s x' y' = true) (h : evOp R F st fr hide K.σ (.appendO site s x' y') = some (d, σ')) : Runs P o a w K st d σ' := by
  obtain ⟨c, x, y, t, t2, e, z, bytes, ty2, ho, hcal, ha, hat, hu, hu2, hni, hinf, hz, hb1, hb2, hx, hy⟩ := chkAppend_spec hc
  have hinf1 : (P.info? e).map (·.size) = some s := by
    obtain ⟨i, i1, i2⟩ := Option.map_eq_some_iff.1 hinf
    simp only [Prod.mk.injEq] at i2
    rw [i1]; simp [i2.1]
  simp only [evOp] at h
  split at h
  · rename_i hys
    have hys0 : srcRows (K.σ.obj.hide F hide) s (y'.ev fr) = some [] := by
      unfold srcRowsD at hys
      split at hys
      · rename_i r off len hye
        split at hys
        · rename_i sz rows mu hg
          split at hys
          · rename_i hcond
            simp only [Option.some.injEq] at hys
            rw [hye]
            simp [srcRows, hg, hcond, hys, asRows]
          · cases hys
        · cases hys
      · obtain ⟨rs, e1, e2⟩ := Option.map_eq_some_iff.1 hys
        have : rs = [] := by simpa using e2
        rw [e1, this]
    have run := @run_append0 P o a w K fr st hi hf s c x y x' y' t t2 e ty2 ho hcal ha hat hu hu2 hni hinf1 hx hy _ (hide_less _ _ _) hys0
    split at h
    · rename_i r off len hxe
      simp only [Option.some.injEq, Prod.mk.injEq] at h
      obtain ⟨rfl, rfl⟩ := h
      have := run (.inr (.inl ⟨_, _, _, hxe⟩)); rwa [hxe] at this
    · rename_i hxe
      simp only [Option.some.injEq, Prod.mk.injEq] at h
      obtain ⟨rfl, rfl⟩ := h
      have := run (.inr (.inr (.inl hxe))); rwa [hxe] at this
    · rename_i hxe
      simp only [Option.some.injEq, Prod.mk.injEq] at h
      obtain ⟨rfl, rfl⟩ := h
      have := run (.inr (.inr (.inr (.inl hxe)))); rwa [hxe] at this
    · cases h
  · rename_i ys hne hys
    split at h
    · rename_i hlen
      split at h
      · rename_i hxe
        simp only [Option.some.injEq, Prod.mk.injEq] at h
        obtain ⟨rfl, rfl⟩ := h
        exact run_appendO hi hold hf F site s hst ho hcal ha hat hu hu2 hni hinf hz hb1 hb2 hx hy (hide_less _ _ _) hys (fun e => hne e) (.inr ⟨.inr hxe, hlen, rfl, rfl⟩)
      · rename_i hxe
        simp only [Option.some.injEq, Prod.mk.injEq] at h
        obtain ⟨rfl, rfl⟩ := h
        exact run_appendO hi hold hf F site s hst ho hcal ha hat hu hu2 hni hinf hz hb1 hb2 hx hy (hide_less _ _ _) hys (fun e => hne e) (.inr ⟨.inl hxe, hlen, rfl, rfl⟩)
      · rename_i r off len hxe
        split at h
        · cases h
        · split at h
          · rename_i sz rows hg
            split at h
            · rename_i hcond
              obtain ⟨rfl, rfl, h3, h4, h5⟩ := hcond
              simp only [Option.some.injEq, Prod.mk.injEq] at h
              obtain ⟨rfl, rfl⟩ := h
              exact run_appendO hi hold hf F site sz hst ho hcal ha hat hu hu2 hni hinf hz hb1 hb2 hx hy (hide_less _ _ _) hys (fun e => hne e) (.inl ⟨r, len, rows, hxe, hg, h3, h4, h5, rfl, rfl⟩)
            · cases h
          · cases h
      · cases h
    · cases h
  · cases h

theorem snd_mapUpd (hi : SInv w K) (hf : FRel w K a.tmps fr) {kd : Nat} {ks : List Nat} {m' k' x' : Opd} (hc : chkMapUpd P o kd ks m' k' x' = true) (h : evOp R F st fr hide K.σ (.mapUpd kd ks m' k' x') = some (d, σ')) : Runs P o a w K st d σ' := by
  simp only [evOp] at h
  have hcc : ∃ t m k x kt e, (o.op = .mapUpdate t m k x ∨ o.op = .insert t m k x) ∧ chkX m m' = true ∧ chkX k k' = true ∧ chkX x x' = true ∧ P.underlying t = some (.map kt e) ∧ keyT P kd ks kt = true := by
    unfold chkMapUpd at hc
    split at hc
    · rename_i t m k x ho
      simp only [Bool.and_eq_true] at hc
      obtain ⟨⟨⟨h1, h2⟩, h3⟩, h4⟩ := hc
      split at h4
      · rename_i kt e hu; exact ⟨t, m, k, x, kt, e, .inl ho, h1, h2, h3, hu, h4⟩
      · cases h4
    · rename_i t m k x ho
      simp only [Bool.and_eq_true] at hc
      obtain ⟨⟨⟨h1, h2⟩, h3⟩, h4⟩ := hc
      split at h4
      · rename_i kt e hu; exact ⟨t, m, k, x, kt, e, .inr ho, h1, h2, h3, hu, h4⟩
      · cases h4
    · cases hc
  obtain ⟨t, m, k, x, kt, e, ho, h1, h2, h3, hu, hk⟩ := hcc
  split at h
  · rename_i key r hkey hm
    split at h
    · rename_i es hg
      split at h
      · cases h
      · rename_i hok
        have hok : keyOk kd ks key = true := by simpa using hok
        split at h
        · rename_i i hfi
          simp only [Option.some.injEq, Prod.mk.injEq] at h
          obtain ⟨rfl, rfl⟩ := h
          exact run_mapUpd hi hf ho hu hk h1 h2 h3 hkey hok hm hg (.inl ⟨i, hfi, rfl⟩)
        · rename_i hfi
          simp only [Option.some.injEq, Prod.mk.injEq] at h
          obtain ⟨rfl, rfl⟩ := h
          exact run_mapUpd hi hf ho hu hk h1 h2 h3 hkey hok hm hg (.inr ⟨hfi, rfl⟩)
        · cases h
    · cases h
  · cases h

theorem snd_mapEntry (hi : SInv w K) (hf : FRel w K a.tmps fr) {kd : Nat} {ks : List Nat} {zero : PV} {m' k' : Opd} (hc : chkMapEntry P o kd ks zero m' k' = true) (h : evOp R F st fr hide K.σ (.mapEntry kd ks zero m' k') = some (d, σ')) : Runs P o a w K st d σ' := by
  simp only [evOp] at h
  unfold chkMapEntry at hc
  split at hc
  · rename_i t m k ho
    simp only [Bool.and_eq_true] at hc
    obtain ⟨⟨h1, h2⟩, h3⟩ := hc
    split at h3
    · rename_i kt e hu
      simp only [Bool.and_eq_true] at h3
      obtain ⟨hk, hz⟩ := h3
      obtain ⟨z, z1, z2⟩ := chkZeroV_spec hz
      split at h
      · rename_i key r hkey hm
        split at h
        · rename_i es hg
          split at h
          · cases h
          · rename_i hok
            have hok : keyOk kd ks key = true := by simpa using hok
            split at h
            · rename_i i hfi
              obtain ⟨en, e1, e2⟩ := Option.map_eq_some_iff.1 h
              simp only [Prod.mk.injEq] at e2
              obtain ⟨rfl, rfl⟩ := e2
              exact run_mapEntry hi hf ho hu hk z1 z2 h1 h2 hkey hok hm hg (.inl ⟨i, en, hfi, e1, rfl, rfl⟩)
            · rename_i hfi
              simp only [Option.some.injEq, Prod.mk.injEq] at h
              obtain ⟨rfl, rfl⟩ := h
              exact run_mapEntry hi hf ho hu hk z1 z2 h1 h2 hkey hok hm hg (.inr ⟨hfi, rfl, rfl⟩)
            · cases h
        · cases h
      · cases h
    · cases h3
  · cases hc

theorem snd_entryStore (hi : SInv w K) (hf : FRel w K a.tmps fr) {m' s' x' : Opd} (hc : chkEntryStore o m' s' x' = true) (h : evOp R F st fr hide K.σ (.entryStore m' s' x') = some (d, σ')) : Runs P o a w K st d σ' := by
  simp only [evOp] at h
  unfold chkEntryStore at hc
  split at hc
  · rename_i t m s x ho
    simp only [Bool.and_eq_true] at hc
    obtain ⟨⟨h1, h2⟩, h3⟩ := hc
    split at h
    · rename_i r r' i hm hs
      split at h
      · rename_i hr
        subst hr
        split at h
        · rename_i es hg
          obtain ⟨en, e1, e2⟩ := Option.map_eq_some_iff.1 h
          simp only [Prod.mk.injEq] at e2
          obtain ⟨rfl, rfl⟩ := e2
          exact run_entryStore hi hf ho h1 h2 h3 hm hs hg e1
        · cases h
      · cases h
    · cases h
  · cases hc
end
end Go.Ev
