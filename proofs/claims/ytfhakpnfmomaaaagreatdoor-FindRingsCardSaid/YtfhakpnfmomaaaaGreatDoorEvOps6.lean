/- A part of an evaluator of closed runs, and of the proof that what it answers holds of the model. No conditions. -/
import Derived.Test.YtfhakpnfmomaaaaGreatDoorEvOps5
import Derived.MapKept
namespace Go.Ev
open Go
section
variable {P : Program} {o : Oper} {a : Act} {w : World} {K : Ctx} {fr : Frame} {st : Nat}

/-! ### Maps -/
/-- A key type of such kinds. -/
def keyT (P : Program) (kd : Nat) (ks : List Nat) (t : TypeId) : Bool :=
  match eqT P 9 t, aggB P t with
  | some l, some ag => l == ks && (if kd = 6 then ag else !ag)
  | _, _ => false

theorem keyT_spec {kd : Nat} {ks : List Nat} {t : TypeId} (h : keyT P kd ks t = true) : eqT P 9 t = some ks ∧ ((kd = 6 ∧ aggB P t = some true) ∨ (kd ≠ 6 ∧ aggB P t = some false)) := by
  unfold keyT at h
  split at h
  · rename_i l ag h1 h2
    simp only [Bool.and_eq_true, beq_iff_eq] at h
    obtain ⟨rfl, h⟩ := h
    refine ⟨h1, ?_⟩
    split at h
    · rename_i hk; subst h; exact .inl ⟨hk, h2⟩
    · rename_i hk
      have : ag = false := by simpa using h
      subst this; exact .inr ⟨hk, h2⟩
  · cases h

theorem eqK_run {I : Im} {kd : Nat} {ks : List Nat} {t : TypeId} (ht : keyT P kd ks t = true) {x y : Value} {p q : PV} (hx : RepP w I x p) (hy : RepP w I y q) {b : Bool} (h : eqK kd ks p q = some b) (d : Nat) : (Op.equalIn (9 + d) t x y).run P w = .ok b w := by
  obtain ⟨h1, h2⟩ := keyT_spec ht
  unfold eqK at h
  rcases h2 with ⟨rfl, h2⟩ | ⟨hk, h2⟩
  · simp only [if_true] at h
    split at h
    · cases hx with
      | agg vs ps hl hr =>
        cases hy with
        | agg us qs hl2 hr2 =>
          exact eqT_run (w := w) 9 h1 d (by rw [ValP, if_pos h2]; exact ⟨vs, rfl, hl, hr⟩) (by rw [ValP, if_pos h2]; exact ⟨us, rfl, hl2, hr2⟩) h
    · cases h
  · rw [if_neg hk] at h
    split at h
    · cases h
    · cases h
    · exact eqT_run (w := w) 9 h1 d (by rw [ValP, if_neg (by rw [h2]; simp)]; exact ⟨_, rfl, hx⟩) (by rw [ValP, if_neg (by rw [h2]; simp)]; exact ⟨_, rfl, hy⟩) h

/-- Keys of which one equals the other are one value. -/
theorem eqS_same {I : Im} {k : Nat} {x y : Value} {p q : PV} (hx : RepP w I x p) (hy : RepP w I y q) (h : eqS k p q = some true) : x = y ∧ p = q := by
  unfold eqS at h
  split at h
  · cases hx; cases hy; simp at h; subst h; exact ⟨rfl, rfl⟩
  · cases hx; cases hy; simp at h; obtain ⟨rfl, rfl⟩ := h; exact ⟨rfl, rfl⟩
  · cases hx with
    | str s l e =>
      cases hy with
      | str s' l' e' =>
        simp at h
        subst h
        refine ⟨?_, rfl⟩
        congr 1
        apply ByteArray.ext
        apply Array.ext'
        rw [e, e']
  · cases h
theorem eqL_same {I : Im} : ∀ {ks : List Nat} {ps qs : List PV} {xs ys : List Value}, xs.length = ps.length → ys.length = qs.length → (∀ i, i < ps.length → RepP w I (xs.getD i undef) (ps.getD i .nilp)) → (∀ i, i < qs.length → RepP w I (ys.getD i undef) (qs.getD i .nilp)) →
    eqL ks ps qs = some true → xs = ys ∧ ps = qs
  | [], [], [], xs, ys, hx, hy, _, _, _ => by
    have h1 : xs = [] := List.eq_nil_of_length_eq_zero hx
    have h2 : ys = [] := List.eq_nil_of_length_eq_zero hy
    subst h1; subst h2; exact ⟨rfl, rfl⟩
  | [], [], _ :: _, _, _, _, _, _, _, h => by simp [eqL] at h
  | [], _ :: _, _, _, _, _, _, _, _, h => by simp [eqL] at h
  | _ :: _, [], _, _, _, _, _, _, _, h => by simp [eqL] at h
  | _ :: _, _ :: _, [], _, _, _, _, _, _, h => by simp [eqL] at h
  | k :: ks, p :: ps, q :: qs, xs, ys, hx, hy, rx, ry, h => by
    cases xs with
    | nil => simp at hx
    | cons x xs =>
      cases ys with
      | nil => simp at hy
      | cons y ys =>
        simp only [eqL] at h
        split at h
        · rename_i c1 c2 h1 h2
          simp only [Option.some.injEq, Bool.and_eq_true] at h
          obtain ⟨rfl, rfl⟩ := h
          obtain ⟨e1, e2⟩ := eqS_same (by simpa using rx 0 (by simp)) (by simpa using ry 0 (by simp)) h1
          obtain ⟨e3, e4⟩ := eqL_same (by simpa using hx) (by simpa using hy) (fun i hi => by simpa using rx (i + 1) (by simpa using hi)) (fun i hi => by simpa using ry (i + 1) (by simpa using hi)) h2
          subst e1; subst e2; subst e3; subst e4; exact ⟨rfl, rfl⟩
        · cases h
theorem eqK_same {I : Im} {kd : Nat} {ks : List Nat} {x y : Value} {p q : PV} (hx : RepP w I x p) (hy : RepP w I y q) (h : eqK kd ks p q = some true) : x = y ∧ p = q := by
  unfold eqK at h
  split at h
  · split at h
    · cases hx with
      | agg vs ps hl hr =>
        cases hy with
        | agg us qs hl2 hr2 =>
          obtain ⟨e1, e2⟩ := eqL_same (by rw [Array.length_toList]; exact hl) (by rw [Array.length_toList]; exact hl2) (fun i hi => by rw [← getD_toList]; exact hr i hi) (fun i hi => by rw [← getD_toList]; exact hr2 i hi) h
          exact ⟨by rw [Array.ext' e1], by rw [e2]⟩
    · cases h
  · split at h
    · cases h
    · cases h
    · obtain ⟨e1, e2⟩ := eqL_same (xs := [x]) (ys := [y]) rfl rfl (fun i hi => by have : i = 0 := by simpa using hi
                                                                                  subst this; exact hx) (fun i hi => by have : i = 0 := by simpa using hi
                                                                                                                        subst this; exact hy) h
      simp only [List.cons.injEq, and_true] at e1 e2
      exact ⟨e1, e2⟩

/-- What a search finds. -/
theorem find_asking {I : Im} {kd : Nat} {ks : List Nat} {t : TypeId} (ht : keyT P kd ks t = true) {kv : Value} {k : PV} (hk : RepP w I kv k) {β : Type} : ∀ (mes : List MapEntry) (es : List (PV × β)) (i : Nat) (r : Option Nat), mes.length = es.length →
    (∀ (j : Nat) (e : MapEntry) (e' : PV × β), mes[j]? = some e → es[j]? = some e' → RepP w I e.key e'.1) → findI kd ks k es = some r → (Instr.findAsking t kv mes i).run P w = .ok (r.map fun j => (i + j, (mes.getD j default).val)) w
  | [], [], i, r, _, _, h => by simp only [findI, Option.some.injEq] at h; subst h; rfl
  | [], _ :: _, _, _, h, _, _ => by simp at h
  | _ :: _, [], _, _, h, _, _ => by simp at h
  | e :: mes, (k', v') :: es, i, r, hl, hr, h => by
    have h0 := hr 0 e (k', v') rfl rfl
    simp only [findI] at h
    unfold Instr.findAsking
    split at h
    · rename_i he
      simp only [Option.some.injEq] at h
      subst h
      have := eqK_run (w := w) ht hk h0 he 9991
      have h1 : (Op.equal t kv e.key).run P w = .ok true w := this
      simp [h1]
    · rename_i he
      have h1 : (Op.equal t kv e.key).run P w = .ok false w := eqK_run (w := w) ht hk h0 he 9991
      obtain ⟨r', h2, rfl⟩ := Option.map_eq_some_iff.1 h
      have := find_asking ht hk mes es (i + 1) r' (by simpa using hl) (fun j e e' h3 h4 => hr (j + 1) e e' (by simpa using h3) (by simpa using h4)) h2
      simp only [Sem.run_bind, h1, Result.andThen_ok, Bool.false_eq_true, if_false, this]
      cases r' with
      | none => rfl
      | some j => simp; omega
    · cases h

theorem same_now {I : Im} {kd : Nat} {ks : List Nat} {t : TypeId} {ty : TypeDesc} (ht : keyT P kd ks t = true) (hu : P.underlying t = some ty) (hk : kd ≠ 6) {x y : Value} {p q : PV} (hx : RepP w I x p) (hy : RepP w I y q) {b : Bool} (h : eqK kd ks p q = some b) : Instr.sameNow ty x y = some b := by
  obtain ⟨h1, h2⟩ := keyT_spec ht
  have h2 : aggB P t = some false := by rcases h2 with ⟨e, _⟩ | ⟨_, h⟩; exact absurd e hk; exact h
  unfold eqK at h
  rw [if_neg hk] at h
  have key : eqL ks [p] [q] = some b := by
    split at h
    · cases h
    · cases h
    · exact h
  simp only [eqT, hu] at h1
  cases ty <;> simp [aggB, hu] at h2 <;> simp at h1 <;> subst h1 <;> simp only [eqL] at key <;> split at key <;> first
    | (cases key; done)
    | (rename_i c1 c2 hs hl
       simp only [Option.some.injEq] at key hl
       subst hl
       rw [Bool.and_true] at key
       subst key
       first
        | (cases hx <;> cases hy <;> simp [eqS] at hs <;> simp [Instr.sameNow, hs]; done)
        | skip)
  · cases hx with
    | str s l e =>
      cases hy with
      | str s' l' e' =>
        simp only [eqS, Option.some.injEq] at hs
        simp only [Instr.sameNow, Option.some.injEq]
        rw [beq_toListBytes, ByteArray.toList_eq, ByteArray.toList_eq, e, e', hs]
      | _ => simp [eqS] at hs
    | _ => simp [eqS] at hs

theorem find_now {I : Im} {kd : Nat} {ks : List Nat} {t : TypeId} {ty : TypeDesc} (ht : keyT P kd ks t = true) (hu : P.underlying t = some ty) (hkd : kd ≠ 6) {kv : Value} {k : PV} (hk : RepP w I kv k) {β : Type} : ∀ (mes : List MapEntry) (es : List (PV × β)) (i : Nat) (r : Option Nat), mes.length = es.length →
    (∀ (j : Nat) (e : MapEntry) (e' : PV × β), mes[j]? = some e → es[j]? = some e' → RepP w I e.key e'.1) → findI kd ks k es = some r → Instr.findNow ty kv mes i = some (r.map fun j => (i + j, (mes.getD j default).val))
  | [], [], i, r, _, _, h => by simp only [findI, Option.some.injEq] at h; subst h; rfl
  | [], _ :: _, _, _, h, _, _ => by simp at h
  | _ :: _, [], _, _, h, _, _ => by simp at h
  | e :: mes, (k', v') :: es, i, r, hl, hr, h => by
    have h0 := hr 0 e (k', v') rfl rfl
    simp only [findI] at h
    unfold Instr.findNow
    split at h
    · rename_i he
      simp only [Option.some.injEq] at h
      subst h
      simp [same_now ht hu hkd hk h0 he]
    · rename_i he
      obtain ⟨r', h2, rfl⟩ := Option.map_eq_some_iff.1 h
      have := find_now ht hu hkd hk mes es (i + 1) r' (by simpa using hl) (fun j e e' h3 h4 => hr (j + 1) e e' (by simpa using h3) (by simpa using h4)) h2
      simp only [same_now ht hu hkd hk h0 he, this]
      cases r' with
      | none => rfl
      | some j => simp; omega
    · cases h

theorem find_key {I : Im} {kd : Nat} {ks : List Nat} {t : TypeId} (ht : keyT P kd ks t = true) {kv : Value} {k : PV} (hk : RepP w I kv k) {β : Type} (mes : Array MapEntry) (es : List (PV × β)) (r : Option Nat) (hl : mes.size = es.length)
    (hr : ∀ i, i < es.length → ∀ d, RepP w I (mes.getD i default).key (es.getD i (.nilp, d)).1) (h : findI kd ks k es = some r) : (Instr.findKey t kv mes.toList).run P w = .ok (r.map fun j => (j, (mes.getD j default).val)) w := by
  have hr' : ∀ (j : Nat) (e : MapEntry) (e' : PV × β), mes.toList[j]? = some e → es[j]? = some e' → RepP w I e.key e'.1 := by
    intro j e e' h1 h2
    have hlt := (List.getElem?_eq_some_iff.1 h2).1
    have h3 := hr j hlt e'.2
    rw [List.getD, h2] at h3
    have h4 : mes.getD j default = e := by
      rw [Array.getElem?_toList] at h1
      rw [Array.getD_eq_getD_getElem?, h1]; rfl
    rwa [h4] at h3
  have hg : ∀ j, (mes.toList.getD j default).val = (mes.getD j default).val := fun j => by rw [Array.getD_eq_getD_getElem?, List.getD, Array.getElem?_toList]
  obtain ⟨h1, h2⟩ := keyT_spec ht
  obtain ⟨ty, hu⟩ : ∃ ty, P.underlying t = some ty := by
    cases hu : P.underlying t with
    | some ty => exact ⟨ty, rfl⟩
    | none => simp [eqT, hu] at h1
  have hask := find_asking ht hk mes.toList es 0 r (by simpa using hl) hr' h
  simp only [Nat.zero_add, hg] at hask
  by_cases hk6 : kd = 6
  · have hn : Instr.findNow ty kv mes.toList 0 = none ∨ Instr.findNow ty kv mes.toList 0 = some (r.map fun j => (j, (mes.getD j default).val)) := by
      have h2 : aggB P t = some true := by rcases h2 with ⟨_, h⟩ | ⟨e, _⟩; exact h; exact absurd hk6 e
      cases hm : mes.toList with
      | nil =>
        right
        have : es = [] := List.eq_nil_of_length_eq_zero (by rw [← hl, ← Array.length_toList, hm]; rfl)
        subst this
        simp only [findI, Option.some.injEq] at h
        subst h; rfl
      | cons e l =>
        left
        have : Instr.sameNow ty kv e.key = none := by
          cases ty <;> simp [aggB, hu] at h2 <;> simp [Instr.sameNow]
        simp [Instr.findNow, this]
    rcases hn with hn | hn <;> simp only [Instr.findKey, Sem.run_bind, run_underlying hu, Result.andThen_ok, hn]
    · exact hask
    · rfl
  · have := find_now ht hu hk6 hk mes.toList es 0 r (by simpa using hl) hr' h
    simp only [Nat.zero_add, hg] at this
    simp only [Instr.findKey, Sem.run_bind, run_underlying hu, Result.andThen_ok, this, Sem.run_pure]

/-- A key of such a type may be a key. -/
theorem check_fields {m d : Nat} {I : Im} {em : Bool} {xs : Array Value} {ps : List PV} (hx : CellsP w I xs ps)
    (ih : ∀ {t : TypeId} {ks : List Nat}, eqT P m t = some ks → ∀ {x : Value} {a : List PV}, ValP w I P t x a → a.length = ks.length → (Instr.checkKey em d t x).run P w = .ok () w) :
    ∀ (fs : List Field) (l ks : List Nat), fs.foldl (eqF P m) (some l) = some ks → ks.length ≤ ps.length →
      (forIn fs PUnit.unit (fun f (_ : PUnit) => (do
        if f.name ≠ "_" then Instr.checkKey em d f.type (← part f.type xs f.offset)
        pure (ForInStep.yield PUnit.unit) : Sem (ForInStep PUnit)))).run P w = .ok PUnit.unit w
  | [], l, ks, h, _ => by simp
  | f :: fs, l, ks, h, hle => by
    rw [List.foldl_cons] at h
    cases hk : eqT P m f.type with
    | none => simp only [eqF, hk] at h; rw [eqF_none] at h; cases h
    | some kf =>
      by_cases hc : f.name ≠ "_" ∧ f.offset = l.length ∧ (P.info? f.type).map (·.size) = some kf.length ∧ 0 < kf.length
      · simp only [eqF, hk, if_pos hc] at h
        obtain ⟨hname, hoff, hsize, hpos⟩ := hc
        have hlen : ∀ (fs : List Field) (l ks : List Nat), fs.foldl (eqF P m) (some l) = some ks → l.length ≤ ks.length := by
          intro fs
          induction fs with
          | nil => intro l ks h; simp only [List.foldl_nil, Option.some.injEq] at h; rw [h]; exact Nat.le_refl _
          | cons f fs ih =>
            intro l ks h
            rw [List.foldl_cons] at h
            cases hz : eqF P m (some l) f with
            | none => rw [hz, eqF_none] at h; cases h
            | some l2 =>
              rw [hz] at h
              have h3 := ih _ _ h
              simp only [eqF] at hz
              split at hz
              · rename_i l3 kk e1 e2
                cases e1
                split at hz
                · simp only [Option.some.injEq] at hz
                  rw [← hz, List.length_append] at h3
                  omega
                · cases hz
              · cases hz
        have hl2 := hlen _ _ _ h
        rw [List.length_append] at hl2
        obtain ⟨ag, ha1, ha2⟩ := eqT_agg hk
        obtain ⟨x, p1, p2⟩ := part_rep (P := P) hx hsize ha1 ha2 (off := l.length) (by omega)
        have hrun := ih hk p2 (by rw [List.length_take, List.length_drop]; omega)
        have rest := check_fields hx ih fs (l ++ kf) ks h hle
        simp only [List.forIn_cons, Sem.run_bind, if_pos hname, hoff, p1, Result.andThen_ok, hrun, Sem.run_pure]
        exact rest
      · simp only [eqF, hk, if_neg hc] at h
        rw [eqF_none] at h; cases h

theorem eqT_check {I : Im} {em : Bool} : ∀ (m : Nat) {t : TypeId} {ks : List Nat}, eqT P m t = some ks → ∀ (d : Nat) {x : Value} {a : List PV}, ValP w I P t x a → a.length = ks.length → (Instr.checkKey em (m + d) t x).run P w = .ok () w
  | 0, _, _, h => by simp [eqT] at h
  | m + 1, t, ks, h => by
    intro d x a hx hl
    have hd : m + 1 + d = (m + d) + 1 := by omega
    rw [hd]
    simp only [eqT] at h
    unfold Instr.checkKey
    split at h
    · rename_i hu; simp [run_underlying hu]
    · rename_i q hu; simp [run_underlying hu]
    · rename_i hu; simp [run_underlying hu]
    · rename_i fs hu
      split at h
      · cases h
      · rename_i hst
        rw [ValP, if_pos (by simp [aggB, hu])] at hx
        obtain ⟨xs, rfl, hxs⟩ := hx
        have := check_fields (em := em) (d := m + d) hxs (fun {_ _} hk {_ _} hx hl => eqT_check m hk d hx hl) fs.toList [] ks h (by omega)
        simp only [Sem.run_bind, run_underlying hu, Result.andThen_ok, ← Array.forIn_toList]
        simp at this
        simp [this]
    · cases h
theorem key_val {I : Im} {kd : Nat} {ks : List Nat} {t : TypeId} (ht : keyT P kd ks t = true) {v : Value} {k : PV} (hk : RepP w I v k) (h : (kd = 6 ∧ ∃ cs, k = .agg cs ∧ cs.length = ks.length) ∨ (kd ≠ 6 ∧ ∀ cs, k ≠ .agg cs)) : ∃ ps, ValP w I P t v ps ∧ ps.length = ks.length := by
  obtain ⟨h1, h2⟩ := keyT_spec ht
  rcases h with ⟨rfl, cs, rfl, hl⟩ | ⟨hne, hag⟩
  · have h2 : aggB P t = some true := by rcases h2 with ⟨_, h⟩ | ⟨e, _⟩; exact h; exact absurd rfl e
    cases hk with
    | agg vs ps hl2 hr => exact ⟨cs, by rw [ValP, if_pos h2]; exact ⟨vs, rfl, hl2, hr⟩, hl⟩
  · have h2 : aggB P t = some false := by rcases h2 with ⟨e, _⟩ | ⟨_, h⟩; exact absurd e hne; exact h
    obtain ⟨ag, e1, e2⟩ := eqT_agg h1
    rw [h2] at e1
    cases e1
    exact ⟨[k], by rw [ValP, if_neg (by rw [h2]; simp)]; exact ⟨k, rfl, hk⟩, (e2 rfl).symm⟩

theorem keyOk_spec {kd : Nat} {ks : List Nat} {k : PV} (h : keyOk kd ks k = true) : (kd = 6 ∧ ∃ cs, k = .agg cs ∧ cs.length = ks.length) ∨ (kd ≠ 6 ∧ ∀ cs, k ≠ .agg cs) := by
  unfold keyOk at h
  split at h
  · rename_i cs
    simp only [Bool.and_eq_true, beq_iff_eq] at h
    exact .inl ⟨h.1, cs, rfl, h.2⟩
  · rename_i hne
    exact .inr ⟨by simpa using h, hne⟩

theorem keyOf_rep {v : Value} {d : DV} {k : PV} (h : RepD w K v d) (hk : keyOf d = some k) : RepP w K.im v k := by
  unfold keyOf at hk
  split at hk
  · simp only [Option.some.injEq] at hk; subst hk
    cases h with | p _ _ h => exact h
  · obtain ⟨ps, h1, rfl⟩ := Option.map_eq_some_iff.1 hk
    obtain ⟨e1, e2⟩ := asPs_spec h1
    cases h with
    | agg vs _ hl hr => exact .agg _ _ (by omega) (fun i hi => e2 w K i hi _ (hr i (by omega)))
  · cases hk

theorem keepStays (v : Value) (I : Im) {kd : Nat} {ks : List Nat} {p q : PV} {u : Value} (h1 : RepP w I u p) (h2 : RepP w I v q) (h : eqK kd ks p q = some true) : (Instr.keyThatStays v u).run P w = .ok u w := by
  obtain ⟨rfl, rfl⟩ := eqK_same h1 h2 h
  have hs : ∀ (ks : List Nat) (a b : List PV) (xs : List Value), eqL ks a b = some true → xs.length = a.length → (∀ i, i < a.length → RepP w I (xs.getD i undef) (a.getD i .nilp)) → ∀ n, (xs.zip xs).all (fun (x : Value × Value) => Instr.sameBits n x.1 x.2) = true := by
    intro ks
    induction ks with
    | nil =>
      intro a b xs h hl hr n
      have := (eqL_len h).1
      have : xs = [] := List.eq_nil_of_length_eq_zero (by simpa [hl] using this)
      subst this; rfl
    | cons k ks ih =>
      intro a b xs h hl hr n
      cases a with
      | nil => simp [eqL] at h
      | cons p a =>
        cases b with
        | nil => simp [eqL] at h
        | cons q b =>
          cases xs with
          | nil => simp at hl
          | cons x xs =>
            simp only [eqL] at h
            split at h
            · rename_i c1 c2 e1 e2
              simp only [Option.some.injEq, Bool.and_eq_true] at h
              obtain ⟨rfl, rfl⟩ := h
              have hx := hr 0 (by simp)
              simp only [List.getD_cons_zero] at hx
              have := ih a b xs e2 (by simpa using hl) (fun i hi => by simpa using hr (i + 1) (by simpa using hi)) n
              simp only [List.zip_cons_cons, List.all_cons, Bool.and_eq_true]
              refine ⟨?_, this⟩
              cases hx <;> simp [eqS] at e1 <;> first | (simp [Instr.sameBits]; done) | (simp only [Instr.sameBits]; rw [beq_toListBytes]; exact beq_self_eq_true _)
            · cases h
  have hb : Instr.sameBits 10000 u u = true := by
    have ht : ∃ n, 10000 = n + 1 := ⟨9999, rfl⟩
    obtain ⟨n, hn⟩ := ht
    rw [hn]
    unfold eqK at h
    split at h
    · split at h
      · cases h1 with
        | agg vs ps hl hr =>
          have := hs ks _ _ vs.toList h (by rw [Array.length_toList]; exact hl) (fun i hi => by rw [← getD_toList]; exact hr i hi) n
          simp only [Instr.sameBits, beq_self_eq_true, Bool.true_and]
          exact this
      · cases h
    · split at h
      · cases h
      · cases h
      · have := hs ks _ _ [u] h rfl (fun i hi => by have : i = 0 := by simpa using hi
                                                    subst this; exact h1) (n + 1)
        simpa using this
  simp only [Instr.keyThatStays, hb, if_true, Sem.run_pure]
theorem check_key {I : Im} {kd : Nat} {ks : List Nat} {t : TypeId} (ht : keyT P kd ks t = true) {v : Value} {k : PV} (hk : RepP w I v k) (h : keyOk kd ks k = true) (em : Bool) : (Instr.checkKey em 10000 t v).run P w = .ok () w := by
  obtain ⟨ps, h1, h2⟩ := key_val ht hk (keyOk_spec h)
  exact eqT_check 9 (keyT_spec ht).1 9991 h1 h2

/-- A map's entries as they stand, and what a search finds among them. -/
theorem run_lookup_at (hf : FRel w K a.tmps fr) {t kt e : TypeId} {m k : Operand} {k' : Opd} {kd : Nat} {ks : List Nat} {z : Value} {ok : Bool} (ho : o.op = .lookup t m k ok) (hu : P.underlying t = some (.map kt e)) (ht : keyT P kd ks kt = true)
    (hz : (P.info? e).bind (·.zero) = some z) (hk : chkX k k' = true) {key : PV} (hkey : keyOf (k'.ev fr) = some key) (hok : keyOk kd ks key = true) {β : Type} (mes : Array MapEntry) (es : List (PV × β))
    (hm : (a.eval m = .map none ∧ mes = #[]) ∨ ∃ r clk, a.eval m = .map (some r) ∧ w.heap[r]? = some (.map mes clk)) (hl : mes.size = es.length)
    (hr : ∀ i, i < es.length → ∀ d, RepP w K.im (mes.getD i default).key (es.getD i (.nilp, d)).1) {res : Option Nat} (h : findI kd ks key es = some res) :
    (execOp a.eval o).run P w = .ok (.value (if ok then .tuple #[(match res with | some i => (mes.getD i default).val | none => z), .bool res.isSome] else (match res with | some i => (mes.getD i default).val | none => z))) w := by
  have hkr := keyOf_rep (chkX_rep hk hf) hkey
  have hf1 := find_key (w := w) ht hkr mes es res hl hr h
  have hc1 := check_key (w := w) ht hkr hok mes.isEmpty
  obtain ⟨info, hi1, hi2⟩ := Option.bind_eq_some_iff.1 hz
  have hzv : (zeroValue e).run P w = .ok z w := by simp [zeroValue, typeInfo, hi1, hi2]
  rcases hm with ⟨hm, rfl⟩ | ⟨r, clk, hm, hh⟩
  · simp only [execOp, ho, Instr.lookup, Sem.run_bind, run_underlying hu, Result.andThen_ok, hm, Sem.run_pure, hc1, hf1]
    cases res with
    | none => cases ok <;> simp [hzv]
    | some i => cases ok <;> simp
  · have hg : (getObj r).run P w = .ok (.map mes clk) w := by simp [getObj, Sem.run, hh]
    simp only [execOp, ho, Instr.lookup, Sem.run_bind, run_underlying hu, Result.andThen_ok, hm, hg, Sem.run_pure, hc1, hf1]
    cases res with
    | none => cases ok <;> simp [hzv]
    | some i => cases ok <;> simp
end
end Go.Ev
