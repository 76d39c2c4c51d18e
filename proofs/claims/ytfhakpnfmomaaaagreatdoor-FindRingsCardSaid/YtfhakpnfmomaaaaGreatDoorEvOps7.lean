/- A part of an evaluator of closed runs, and of the proof that what it answers holds of the model. No conditions. -/
import Derived.Test.YtfhakpnfmomaaaaGreatDoorEvOps6
namespace Go.Ev
open Go
section
variable {P : Program} {o : Oper} {a : Act} {w : World} {K : Ctx} {fr : Frame} {st : Nat}

theorem rep_pair {v : Value} {d : DV} (h : RepD w K v d) (ok b : Bool) : RepD w K (if ok then .tuple #[v, .bool b] else v) (if ok then .tup [d, .p (.bool b)] else d) := by
  cases ok
  · exact h
  · refine .tup _ _ rfl (fun i hi => ?_)
    match i, hi with
    | 0, _ => exact h
    | 1, _ => exact .p _ _ (.bool b)
    | n + 2, hi => exact absurd hi (by simp)

theorem chkV_D {v : Value} {p : PV} (h : chkV v p = true) : RepD w K v (ofPV p) := repD_ofPV (chkV_rep h w K.im)

theorem run_lookupN (hi : SInv w K) (hf : FRel w K a.tmps fr) {t kt e : TypeId} {m k : Operand} {m' k' : Opd} {kd : Nat} {ks : List Nat} {zero : PV} {z : Value} {ok : Bool} (ho : o.op = .lookup t m k ok) (hu : P.underlying t = some (.map kt e)) (ht : keyT P kd ks kt = true)
    (hz : (P.info? e).bind (·.zero) = some z) (hc : chkV z zero = true) (hm : chkX m m' = true) (hk : chkX k k' = true) {key : PV} (hkey : keyOf (k'.ev fr) = some key) (hok : keyOk kd ks key = true) (h0 : m'.ev fr = .p .nilmap) :
    Runs P o a w K st (if ok then .tup [ofPV zero, .p (.bool false)] else ofPV zero) K.σ := by
  have hmr := chkX_rep hm hf
  rw [h0] at hmr
  have hv : a.eval m = .map none := by
    generalize a.eval m = v at hmr
    cases hmr with | p _ _ h => cases h; rfl
  have := run_lookup_at (w := w) (K := K) (β := PV) hf ho hu ht hz hk hkey hok #[] [] (.inl ⟨hv, rfl⟩) rfl (fun i h => absurd h (by simp)) (res := none) rfl
  exact .same hi this (rep_pair (chkV_D hc) ok false)

theorem run_lookupP (hi : SInv w K) (hf : FRel w K a.tmps fr) {t kt e : TypeId} {m k : Operand} {m' k' : Opd} {kd : Nat} {ks : List Nat} {zero : PV} {z : Value} {ok : Bool} (ho : o.op = .lookup t m k ok) (hu : P.underlying t = some (.map kt e)) (ht : keyT P kd ks kt = true)
    (hz : (P.info? e).bind (·.zero) = some z) (hc : chkV z zero = true) (hm : chkX m m' = true) (hk : chkX k k' = true) {key : PV} (hkey : keyOf (k'.ev fr) = some key) (hok : keyOk kd ks key = true) {es : List (PV × PV)} (h0 : m'.ev fr = .p (.imap es))
    {d : DV} (hd : (∃ i en, findI kd ks key es = some (some i) ∧ es[i]? = some en ∧ d = if ok then .tup [ofPV en.2, .p (.bool true)] else ofPV en.2) ∨ (findI kd ks key es = some none ∧ d = if ok then .tup [ofPV zero, .p (.bool false)] else ofPV zero)) :
    Runs P o a w K st d K.σ := by
  have hmr := chkX_rep hm hf
  rw [h0] at hmr
  generalize hv : a.eval m = v at hmr
  cases hmr with
  | p _ _ h =>
    cases h with
    | imap r mes clk _ hh hmm hl hk2 hv2 =>
      have hkeys : ∀ i, i < es.length → ∀ d, RepP w K.im (mes.getD i default).key (es.getD i (.nilp, d)).1 := fun i hi' d => by
        have := hk2 i hi'
        simp only [List.getD, List.getElem?_eq_getElem hi', Option.getD_some] at this ⊢
        exact this
      rcases hd with ⟨i, en, h1, h2, rfl⟩ | ⟨h1, rfl⟩
      · have hlt := (List.getElem?_eq_some_iff.1 h2).1
        have hrun := run_lookup_at (w := w) (K := K) hf ho hu ht hz hk hkey hok mes es (.inr ⟨r, clk, hv, hh⟩) hl hkeys h1
        refine .same hi hrun (rep_pair (repD_ofPV ?_) ok true)
        have := hv2 i hlt
        rwa [List.getD, h2] at this
      · have hrun := run_lookup_at (w := w) (K := K) hf ho hu ht hz hk hkey hok mes es (.inr ⟨r, clk, hv, hh⟩) hl hkeys h1
        exact .same hi hrun (rep_pair (chkV_D hc) ok false)

theorem run_lookupO (hi : SInv w K) (hf : FRel w K a.tmps fr) {t kt e : TypeId} {m k : Operand} {m' k' : Opd} {kd : Nat} {ks : List Nat} {zero : PV} {z : Value} {ok : Bool} (ho : o.op = .lookup t m k ok) (hu : P.underlying t = some (.map kt e)) (ht : keyT P kd ks kt = true)
    (hz : (P.info? e).bind (·.zero) = some z) (hc : chkV z zero = true) (hm : chkX m m' = true) (hk : chkX k k' = true) {key : PV} (hkey : keyOf (k'.ev fr) = some key) (hok : keyOk kd ks key = true) {r : Ref} (h0 : m'.ev fr = .omap r)
    {ro : Objs} (hro : ∀ r o, ro.get r = some o → K.σ.obj.get r = some o) {es : List (PV × DV)} {mu : Bool} (hg : ro.get r = some (.map es mu))
    {d : DV} (hd : (∃ i en, findI kd ks key es = some (some i) ∧ es[i]? = some en ∧ d = if ok then .tup [en.2, .p (.bool true)] else en.2) ∨ (findI kd ks key es = some none ∧ d = if ok then .tup [ofPV zero, .p (.bool false)] else ofPV zero)) :
    Runs P o a w K st d K.σ := by
  have hmr := chkX_rep hm hf
  rw [h0] at hmr
  generalize hv : a.eval m = v at hmr
  cases hmr with
  | omap b _ hus hr =>
    obtain ⟨_, b', mes, clk, hb, hh, hl, hk2, hv2, _⟩ := hi.obj _ _ _ _ (get_spec.1 (hro _ _ hg))
    rw [hr _ _ (hro _ _ hg)] at hb; cases hb
    have hkeys : ∀ i, i < es.length → ∀ d, RepP w K.im (mes.getD i default).key (es.getD i (.nilp, d)).1 := fun i hi' d => by
      have := hk2 i hi'
      simp only [List.getD, List.getElem?_eq_getElem hi', Option.getD_some] at this ⊢
      exact this
    rcases hd with ⟨i, en, h1, h2, rfl⟩ | ⟨h1, rfl⟩
    · have hlt := (List.getElem?_eq_some_iff.1 h2).1
      have hrun := run_lookup_at (w := w) (K := K) hf ho hu ht hz hk hkey hok mes es (.inr ⟨b, clk, hv, hh⟩) hl hkeys h1
      refine .same hi hrun (rep_pair ?_ ok true)
      have := hv2 i hlt
      rwa [List.getD, h2] at this
    · have hrun := run_lookup_at (w := w) (K := K) hf ho hu ht hz hk hkey hok mes es (.inr ⟨b, clk, hv, hh⟩) hl hkeys h1
      exact .same hi hrun (rep_pair (chkV_D hc) ok false)

/-- A map's entries are turned. -/
theorem upd_map (hi : SInv w K) {r : Ref} {es : List (PV × DV)} (hg : K.σ.obj.get r = some (.map es true)) {b : Nat} (hb : K.ι r.st = some b) {mes : Array MapEntry} {clk : Nat} (hh : w.heap[b]? = some (.map mes clk))
    (mes' : Array MapEntry) (clk' : Nat) (es' : List (PV × DV)) (bn1 : Nat → Nat) (hle : es.length ≤ es'.length) (hbn : ∀ i, i < es.length → bn1 i = K.bn r.st i) (hl : mes'.size = es'.length)
    (hk : ∀ i, i < es'.length → RepP w K.im (mes'.getD i default).key (es'.getD i (.nilp, .undef)).1) (hv : ∀ i, i < es'.length → RepD w K (mes'.getD i default).val (es'.getD i (.nilp, .undef)).2)
    (hborn : ∀ i, i < es'.length → (mes'.getD i default).born = bn1 i ∧ bn1 i < clk') (hdis : ∀ i j, i < j → j < es'.length → bn1 i ≠ bn1 j) :
    ∃ K', Ext w K { w with heap := w.heap.setIfInBounds b (.map mes' clk') } K' ∧ SInv { w with heap := w.heap.setIfInBounds b (.map mes' clk') } K' ∧ K'.σ = K.σ.set r (.map es' true) ∧ K'.used = K.used ∧ K'.bn r.st = bn1 := by
  have hat := get_spec.1 hg
  have hlt := block_lt hh
  have hself : (w.heap.setIfInBounds b (.map mes' clk'))[b]? = some (.map mes' clk') := by simp [hlt]
  have hne : ∀ k, k ≠ b → (w.heap.setIfInBounds b (.map mes' clk'))[k]? = w.heap[k]? := fun k hk => Array.getElem?_setIfInBounds_ne (Ne.symm hk)
  obtain ⟨e1, e2⟩ := set_obj (w1 := { w with heap := w.heap.setIfInBounds b (.map mes' clk') }) hi r.f r.s r.st (.map es true) (.map es' true) hat hle bn1 hbn (by simp) rfl rfl rfl (fun k hk => hne k (fun e => hk (e ▸ hb)))
    (by
      rintro b' o' (⟨f', s', st', sz', rows', h1, h2⟩ | h1)
      · rcases put_obj h1 with ⟨_, _, h⟩ | ⟨_, h⟩
        · simp at h
        · exact .inl ⟨_, _, _, _, _, h, h2⟩
      · exact .inr h1)
    (by
      rintro b' (⟨f', s', st', es2, h1, h2⟩ | h1)
      · rcases put_obj h1 with ⟨_, _, h⟩ | ⟨_, h⟩
        · simp only [Option.some.injEq, Prod.mk.injEq] at h
          exact .inl ⟨_, _, _, _, hat, by rw [h.1]; exact h2⟩
        · exact .inl ⟨_, _, _, _, h, h2⟩
      · exact .inr h1)
    (fun k o' v' hk hcell _ => by
      rw [hb] at hk; cases hk
      simp [World.cell?, hh] at hcell)
    (fun k es2 c hk _ hM => absurd (.inl ⟨_, _, _, _, hat, hk⟩) hM)
    (fun hx => ⟨b, mes', clk', hb, hself, hl, fun i h => (hk i h).keep hx.keep, fun i h => (hv i h).ext hx, fun i h => by simpa [Ctx.setObj] using hborn i h, fun i j h1 h2 => by simpa [Ctx.setObj] using hdis i j h1 h2⟩)
  exact ⟨_, e1, e2, rfl, rfl, by simp [Ctx.setObj]⟩
theorem getD_modify (mes : Array MapEntry) (i : Nat) (f : MapEntry → MapEntry) (j : Nat) : (mes.modify i f).getD j default = if i = j ∧ j < mes.size then f (mes.getD j default) else mes.getD j default := by
  by_cases hj : j < mes.size
  · by_cases hij : i = j
    · subst hij
      simp [Array.getD, hj, Array.getElem_modify]
    · simp [Array.getD, hj, hij, Array.getElem_modify]
  · simp [Array.getD, hj]
theorem getD_push (mes : Array MapEntry) (e : MapEntry) (j : Nat) : (mes.push e).getD j default = if j = mes.size then e else mes.getD j default := by
  by_cases hj : j < mes.size
  · have h1 : j < mes.size + 1 := by omega
    have h2 : j ≠ mes.size := by omega
    rw [if_neg h2]
    simp [Array.getD, hj, h1, Array.getElem_push]
  · by_cases hje : j = mes.size
    · subst hje; simp [Array.getD]
    · have h1 : ¬ j < mes.size + 1 := by omega
      simp [Array.getD, hj, h1, hje]

/-- What a map of one's own is, for a write. -/
theorem omap_inv (hi : SInv w K) {v : Value} {r : Ref} (h : RepD w K v (.omap r)) {es : List (PV × DV)} {mu : Bool} (hg : K.σ.obj.get r = some (.map es mu)) :
    ∃ b mes clk, v = .map (some b) ∧ K.ι r.st = some b ∧ w.heap[b]? = some (.map mes clk) ∧ mes.size = es.length ∧
      (∀ i, i < es.length → RepP w K.im (mes.getD i default).key (es.getD i (.nilp, .undef)).1) ∧ (∀ i, i < es.length → RepD w K (mes.getD i default).val (es.getD i (.nilp, .undef)).2) ∧
      (∀ i, i < es.length → (mes.getD i default).born = K.bn r.st i ∧ K.bn r.st i < clk) ∧ (∀ i j, i < j → j < es.length → K.bn r.st i ≠ K.bn r.st j) ∧
      ∀ i, i < es.length → ∀ d, RepP w K.im (mes.getD i default).key (es.getD i (.nilp, d)).1 := by
  cases h with
  | omap b _ hus hr =>
    obtain ⟨_, b', mes, clk, hb, hh, hl, hk2, hv2, h5, h6⟩ := hi.obj _ _ _ _ (get_spec.1 hg)
    rw [hr _ _ hg] at hb; cases hb
    refine ⟨b, mes, clk, rfl, hr _ _ hg, hh, hl, hk2, hv2, h5, h6, fun i hi' d => ?_⟩
    have := hk2 i hi'
    simp only [List.getD, List.getElem?_eq_getElem hi', Option.getD_some] at this ⊢
    exact this

theorem findI_spec {β : Type} {kd : Nat} {ks : List Nat} {k : PV} : ∀ {es : List (PV × β)} {i : Nat}, findI kd ks k es = some (some i) → ∃ e, es[i]? = some e ∧ eqK kd ks k e.1 = some true
  | [], _, h => by simp [findI] at h
  | (k', v') :: es, i, h => by
    simp only [findI] at h
    split at h
    · rename_i he
      simp only [Option.some.injEq] at h
      subst h
      exact ⟨(k', v'), rfl, he⟩
    · obtain ⟨r', h2, h3⟩ := Option.map_eq_some_iff.1 h
      obtain ⟨j, rfl, rfl⟩ := Option.map_eq_some_iff.1 h3
      obtain ⟨e, e1, e2⟩ := findI_spec h2
      exact ⟨e, by simpa using e1, e2⟩
    · cases h

theorem run_mapUpd (hi : SInv w K) (hf : FRel w K a.tmps fr) {t kt e : TypeId} {m k x : Operand} {m' k' x' : Opd} {kd : Nat} {ks : List Nat} (ho : o.op = .mapUpdate t m k x ∨ o.op = .insert t m k x) (hu : P.underlying t = some (.map kt e)) (ht : keyT P kd ks kt = true)
    (hm : chkX m m' = true) (hk : chkX k k' = true) (hx : chkX x x' = true) {key : PV} (hkey : keyOf (k'.ev fr) = some key) (hok : keyOk kd ks key = true) {r : Ref} (h0 : m'.ev fr = .omap r)
    {es : List (PV × DV)} (hg : K.σ.obj.get r = some (.map es true)) {es' : List (PV × DV)}
    (hd : (∃ i, findI kd ks key es = some (some i) ∧ es' = es.set i (key, x'.ev fr)) ∨ (findI kd ks key es = some none ∧ es' = es ++ [(key, x'.ev fr)])) :
    Runs P o a w K st (.tup []) (K.σ.set r (.map es' true)) := by
  have hmr := chkX_rep hm hf
  have hkr := keyOf_rep (chkX_rep hk hf) hkey
  have hxr := chkX_rep hx hf
  rw [h0] at hmr
  obtain ⟨b, mes, clk, hv, hb, hh, hl, hk2, hv2, h5, h6, hkeys⟩ := omap_inv hi hmr hg
  have hc1 := check_key (w := w) ht hkr hok false
  have hgo : (getObj b).run P w = .ok (.map mes clk) w := by simp [getObj, Sem.run, hh]
  have hso : ∀ o', (setObj b o').run P w = .ok () { w with heap := w.heap.setIfInBounds b o' } := fun o' => by simp [setObj, Sem.run, hh]
  have fin : ∀ mes' clk', (Instr.mapUpdate t (a.eval m) (a.eval k) (a.eval x)).run P w = .ok () { w with heap := w.heap.setIfInBounds b (.map mes' clk') } →
      (execOp a.eval o).run P w = .ok .skip { w with heap := w.heap.setIfInBounds b (.map mes' clk') } := by
    intro mes' clk' h
    rcases ho with ho | ho <;> simp only [execOp, ho, Sem.run_bind, h, Result.andThen_ok, Sem.run_pure]
  rcases hd with ⟨i, h1, rfl⟩ | ⟨h1, rfl⟩
  · have hf1 := find_key (w := w) ht hkr mes es (some i) hl hkeys h1
    obtain ⟨en, hen, heq⟩ := findI_spec h1
    have hlt := (List.getElem?_eq_some_iff.1 hen).1
    have hlt' : i < mes.size := by omega
    have hold := hk2 i hlt
    rw [List.getD, hen] at hold
    have hstay := keepStays (w := w) (P := P) _ K.im hkr hold heq
    have hget : ((mes[i]?).map (·.key)).getD (a.eval k) = (mes.getD i default).key := by simp [Array.getD, hlt']
    have hrun : (Instr.mapUpdate t (a.eval m) (a.eval k) (a.eval x)).run P w = .ok () { w with heap := w.heap.setIfInBounds b (.map (mes.modify i fun e => { e with key := a.eval k, val := a.eval x }) clk) } := by
      simp only [Instr.mapUpdate, Sem.run_bind, run_underlying hu, Result.andThen_ok, hv, hgo, hc1, hf1, Option.map_some, hget, hstay, hso]
    obtain ⟨K', k1, k2, k3, k4, k5⟩ := upd_map hi hg hb hh (mes.modify i fun e => { e with key := a.eval k, val := a.eval x }) clk (es.set i (key, x'.ev fr)) (K.bn r.st) (by simp) (fun _ _ => rfl) (by simp [hl])
      (fun j hj => by
        rw [List.length_set] at hj
        rw [getD_modify]
        by_cases hij : i = j
        · subst hij
          rw [if_pos ⟨rfl, hlt'⟩]
          simp [List.getD, hj]; exact hkr
        · rw [if_neg (fun h => hij h.1)]
          have := hk2 j hj
          simpa [List.getD, List.getElem?_set_ne hij] using this)
      (fun j hj => by
        rw [List.length_set] at hj
        rw [getD_modify]
        by_cases hij : i = j
        · subst hij
          rw [if_pos ⟨rfl, hlt'⟩]
          simp [List.getD, hj]; exact hxr
        · rw [if_neg (fun h => hij h.1)]
          have := hv2 j hj
          simpa [List.getD, List.getElem?_set_ne hij] using this)
      (fun j hj => by
        rw [List.length_set] at hj
        rw [getD_modify]
        split
        · exact h5 j hj
        · exact h5 j hj)
      (fun j j' h1 h2 => by rw [List.length_set] at h2; exact h6 j j' h1 h2)
    exact ⟨undef, _, K', .inr ⟨fin _ _ hrun, rfl⟩, k1, k2, k3, .tup _ _ rfl (fun i h => absurd h (by simp)), fun _ h => .inl (by rw [k4] at h; exact h)⟩
  · have hf1 := find_key (w := w) ht hkr mes es none hl hkeys h1
    have hrun : (Instr.mapUpdate t (a.eval m) (a.eval k) (a.eval x)).run P w = .ok () { w with heap := w.heap.setIfInBounds b (.map (mes.push { key := a.eval k, val := a.eval x, born := clk }) (clk + 1)) } := by
      simp only [Instr.mapUpdate, Sem.run_bind, run_underlying hu, Result.andThen_ok, hv, hgo, hc1, hf1, Option.map_none, hso]
    obtain ⟨K', k1, k2, k3, k4, k5⟩ := upd_map hi hg hb hh (mes.push { key := a.eval k, val := a.eval x, born := clk }) (clk + 1) (es ++ [(key, x'.ev fr)]) (fun j => if j = es.length then clk else K.bn r.st j) (by simp) (fun j hj => by show (if j = es.length then clk else K.bn r.st j) = _; rw [if_neg (by omega)]) (by simp [hl])
      (fun j hj => by
        rw [List.length_append] at hj
        rw [getD_push]
        by_cases hje : j = mes.size
        · rw [if_pos hje]
          have : j = es.length := by omega
          subst this
          simp [List.getD]; exact hkr
        · rw [if_neg hje]
          have hj' : j < es.length := by simp at hj; omega
          have := hk2 j hj'
          simpa [List.getD, List.getElem?_append_left hj'] using this)
      (fun j hj => by
        rw [List.length_append] at hj
        rw [getD_push]
        by_cases hje : j = mes.size
        · rw [if_pos hje]
          have : j = es.length := by omega
          subst this
          simp [List.getD]; exact hxr
        · rw [if_neg hje]
          have hj' : j < es.length := by simp at hj; omega
          have := hv2 j hj'
          simpa [List.getD, List.getElem?_append_left hj'] using this)
      (fun j hj => by
        rw [List.length_append] at hj
        rw [getD_push]
        by_cases hje : j = mes.size
        · show _ = (if j = es.length then clk else K.bn r.st j) ∧ (if j = es.length then clk else K.bn r.st j) < _
          rw [if_pos hje, if_pos (by omega)]
          exact ⟨rfl, by omega⟩
        · have hj' : j < es.length := by simp at hj; omega
          show _ = (if j = es.length then clk else K.bn r.st j) ∧ (if j = es.length then clk else K.bn r.st j) < _
          rw [if_neg hje, if_neg (by omega)]
          have := h5 j hj'
          exact ⟨this.1, by omega⟩)
      (fun i j hij hj => by
        rw [List.length_append] at hj
        have hi' : i < es.length := by simp at hj; omega
        show (if i = es.length then clk else K.bn r.st i) ≠ (if j = es.length then clk else K.bn r.st j)
        rw [if_neg (by omega)]
        by_cases hje : j = es.length
        · rw [if_pos hje]; have := (h5 i hi').2; omega
        · rw [if_neg hje]; exact h6 i j hij (by simp at hj; omega))
    exact ⟨undef, _, K', .inr ⟨fin _ _ hrun, rfl⟩, k1, k2, k3, .tup _ _ rfl (fun i h => absurd h (by simp)), fun _ h => .inl (by rw [k4] at h; exact h)⟩
theorem put_same {σ : Store} {f s : Nat} {e : Nat × Ob} (h : σ.obj f s = some e) : σ.put f s (some e) = σ := by
  cases σ with
  | mk nf c obj tok =>
    simp only [Store.put, Store.mk.injEq, true_and, and_true]
    funext f' s'
    by_cases h1 : f' = f
    · by_cases h2 : s' = s
      · subst h1; subst h2; simpa using h.symm
      · simp [h1, h2]
    · simp [h1]

theorem omap_used {v : Value} {r : Ref} (h : RepD w K v (.omap r)) : K.used r.st := by
  cases h with | omap b _ hus hr => exact hus

theorem run_mapEntry (hi : SInv w K) (hf : FRel w K a.tmps fr) {t kt e : TypeId} {m k : Operand} {m' k' : Opd} {kd : Nat} {ks : List Nat} {zero : PV} {z : Value} (ho : o.op = .mapEntry t m k) (hu : P.underlying t = some (.map kt e)) (ht : keyT P kd ks kt = true)
    (hz : (P.info? e).bind (·.zero) = some z) (hc : chkV z zero = true) (hm : chkX m m' = true) (hk : chkX k k' = true) {key : PV} (hkey : keyOf (k'.ev fr) = some key) (hok : keyOk kd ks key = true) {r : Ref} (h0 : m'.ev fr = .omap r)
    {es : List (PV × DV)} (hg : K.σ.obj.get r = some (.map es true)) {d : DV} {σ' : Store}
    (hd : (∃ i en, findI kd ks key es = some (some i) ∧ es[i]? = some en ∧ d = .tup [en.2, .ent r i] ∧ σ' = K.σ) ∨ (findI kd ks key es = some none ∧ d = .tup [ofPV zero, .ent r es.length] ∧ σ' = K.σ.set r (.map (es ++ [(key, ofPV zero)]) true))) :
    Runs P o a w K st d σ' := by
  have hmr := chkX_rep hm hf
  have hkr := keyOf_rep (chkX_rep hk hf) hkey
  rw [h0] at hmr
  have hus := omap_used hmr
  obtain ⟨b, mes, clk, hv, hb, hh, hl, hk2, hv2, h5, h6, hkeys⟩ := omap_inv hi hmr hg
  have hc1 := check_key (w := w) ht hkr hok false
  have hgo : (getObj b).run P w = .ok (.map mes clk) w := by simp [getObj, Sem.run, hh]
  have hso : ∀ o', (setObj b o').run P w = .ok () { w with heap := w.heap.setIfInBounds b o' } := fun o' => by simp [setObj, Sem.run, hh]
  obtain ⟨info, hi1, hi2⟩ := Option.bind_eq_some_iff.1 hz
  have hzv : (zeroValue e).run P w = .ok z w := by simp [zeroValue, typeInfo, hi1, hi2]
  have two : ∀ {w1 : World} {K1 : Ctx} {v : Value} {d1 : DV} {n i : Nat}, RepD w1 K1 v d1 → RepD w1 K1 (goInt n) (.ent r i) → RepD w1 K1 (.tuple #[v, goInt n]) (.tup [d1, .ent r i]) := by
    intro w1 K1 v d1 n i h1 h2
    refine .tup _ _ rfl (fun i hi => ?_)
    match i, hi with
    | 0, _ => exact h1
    | 1, _ => exact h2
    | n + 2, hi => exact absurd hi (by simp)
  rcases hd with ⟨i, en, h1, hen, rfl, rfl⟩ | ⟨h1, rfl, rfl⟩
  · have hf1 := find_key (w := w) ht hkr mes es (some i) hl hkeys h1
    obtain ⟨en', hen', heq⟩ := findI_spec h1
    rw [hen] at hen'; cases hen'
    have hlt := (List.getElem?_eq_some_iff.1 hen).1
    have hlt' : i < mes.size := by omega
    have hold := hk2 i hlt
    rw [List.getD, hen] at hold
    have hstay := keepStays (w := w) (P := P) _ K.im hkr hold heq
    have hget : ((mes[i]?).map (·.key)).getD (a.eval k) = (mes.getD i default).key := by simp [Array.getD, hlt']
    have hborn : ((mes[i]?).map (fun e => (e.born : Int))).getD 0 = ((mes.getD i default).born : Int) := by simp [Array.getD, hlt']
    have hrun : (Instr.mapEntry t (a.eval m) (a.eval k)).run P w = .ok (.tuple #[(mes.getD i default).val, goInt (mes.getD i default).born]) { w with heap := w.heap.setIfInBounds b (.map (mes.modify i fun e => { e with key := a.eval k }) clk) } := by
      simp only [Instr.mapEntry, Sem.run_bind, run_underlying hu, Result.andThen_ok, hv, hgo, hc1, hf1, Option.map_some, hget, hstay, hso, hborn, Sem.run_pure]
    obtain ⟨K', k1, k2, k3, k4, k5⟩ := upd_map hi hg hb hh (mes.modify i fun e => { e with key := a.eval k }) clk es (K.bn r.st) (Nat.le_refl _) (fun _ _ => rfl) (by simp [hl])
      (fun j hj => by
        rw [getD_modify]
        by_cases hij : i = j
        · subst hij
          rw [if_pos ⟨rfl, hlt'⟩]
          obtain ⟨e1, e2⟩ := eqK_same hkr hold heq
          show RepP w K.im (a.eval k) _
          rw [List.getD, hen, e1]
          exact hold
        · rw [if_neg (fun h => hij h.1)]
          exact hk2 j hj)
      (fun j hj => by
        rw [getD_modify]
        split
        · exact hv2 j hj
        · exact hv2 j hj)
      (fun j hj => by
        rw [getD_modify]
        split
        · exact h5 j hj
        · exact h5 j hj)
      h6
    have hv3 := hv2 i hlt
    rw [List.getD, hen] at hv3
    have hex : (execOp a.eval o).run P w = .ok (.value (.tuple #[(mes.getD i default).val, goInt (mes.getD i default).born])) { w with heap := w.heap.setIfInBounds b (.map (mes.modify i fun e => { e with key := a.eval k }) clk) } := by
      simp only [execOp, ho, Sem.run_bind, hrun, Result.andThen_ok, Sem.run_pure]
    refine ⟨_, _, K', .inl hex, k1, k2, ?_, two (hv3.ext k1) (.ent _ _ _ (k1.used _ hus) (fun es2 mu h => ?_)), fun _ h => .inl (by rw [k4] at h; exact h)⟩
    · rw [k3]; exact put_same (get_spec.1 hg)
    · rw [k3, Store.set, put_same (get_spec.1 hg), hg] at h
      cases h
      exact ⟨hlt, by rw [k5]; exact (h5 i hlt).1⟩
  · have hf1 := find_key (w := w) ht hkr mes es none hl hkeys h1
    have hrun : (Instr.mapEntry t (a.eval m) (a.eval k)).run P w = .ok (.tuple #[z, goInt clk]) { w with heap := w.heap.setIfInBounds b (.map (mes.push { key := a.eval k, val := z, born := clk }) (clk + 1)) } := by
      simp only [Instr.mapEntry, Sem.run_bind, run_underlying hu, Result.andThen_ok, hv, hgo, hc1, hf1, Option.map_none, hzv, hso, Sem.run_pure]
    obtain ⟨K', k1, k2, k3, k4, k5⟩ := upd_map hi hg hb hh (mes.push { key := a.eval k, val := z, born := clk }) (clk + 1) (es ++ [(key, ofPV zero)]) (fun j => if j = es.length then clk else K.bn r.st j) (by simp) (fun j hj => by show (if j = es.length then clk else K.bn r.st j) = _; rw [if_neg (by omega)]) (by simp [hl])
      (fun j hj => by
        rw [List.length_append] at hj
        rw [getD_push]
        by_cases hje : j = mes.size
        · rw [if_pos hje]
          have : j = es.length := by omega
          subst this
          simp [List.getD]; exact hkr
        · rw [if_neg hje]
          have hj' : j < es.length := by simp at hj; omega
          have := hk2 j hj'
          simpa [List.getD, List.getElem?_append_left hj'] using this)
      (fun j hj => by
        rw [List.length_append] at hj
        rw [getD_push]
        by_cases hje : j = mes.size
        · rw [if_pos hje]
          have : j = es.length := by omega
          subst this
          simp [List.getD]; exact chkV_D hc
        · rw [if_neg hje]
          have hj' : j < es.length := by simp at hj; omega
          have := hv2 j hj'
          simpa [List.getD, List.getElem?_append_left hj'] using this)
      (fun j hj => by
        rw [List.length_append] at hj
        rw [getD_push]
        by_cases hje : j = mes.size
        · show _ = (if j = es.length then clk else K.bn r.st j) ∧ (if j = es.length then clk else K.bn r.st j) < _
          rw [if_pos hje, if_pos (by omega)]
          exact ⟨rfl, by omega⟩
        · have hj' : j < es.length := by simp at hj; omega
          show _ = (if j = es.length then clk else K.bn r.st j) ∧ (if j = es.length then clk else K.bn r.st j) < _
          rw [if_neg hje, if_neg (by omega)]
          have := h5 j hj'
          exact ⟨this.1, by omega⟩)
      (fun i j hij hj => by
        rw [List.length_append] at hj
        have hi' : i < es.length := by simp at hj; omega
        show (if i = es.length then clk else K.bn r.st i) ≠ (if j = es.length then clk else K.bn r.st j)
        rw [if_neg (by omega)]
        by_cases hje : j = es.length
        · rw [if_pos hje]; have := (h5 i hi').2; omega
        · rw [if_neg hje]; exact h6 i j hij (by simp at hj; omega))
    have hex : (execOp a.eval o).run P w = .ok (.value (.tuple #[z, goInt clk])) { w with heap := w.heap.setIfInBounds b (.map (mes.push { key := a.eval k, val := z, born := clk }) (clk + 1)) } := by
      simp only [execOp, ho, Sem.run_bind, hrun, Result.andThen_ok, Sem.run_pure]
    refine ⟨_, _, K', .inl hex, k1, k2, k3, two ((chkV_D hc).ext k1) (.ent _ _ _ (k1.used _ hus) (fun es2 mu h => ?_)), fun _ h => .inl (by rw [k4] at h; exact h)⟩
    rw [k3, get_spec] at h
    rcases put_obj h with ⟨_, _, h⟩ | ⟨hn, _⟩
    · simp only [Option.some.injEq, Prod.mk.injEq, Ob.map.injEq, true_and] at h
      obtain ⟨rfl, _⟩ := h
      exact ⟨by simp, by rw [k5]; show clk = if es.length = es.length then clk else K.bn r.st es.length; rw [if_pos rfl]⟩
    · exact absurd ⟨rfl, rfl⟩ hn

theorem run_entryStore (hi : SInv w K) (hf : FRel w K a.tmps fr) {t : TypeId} {m s x : Operand} {m' s' x' : Opd} (ho : o.op = .entryStore t m s x) (hm : chkX m m' = true) (hs : chkX s s' = true) (hx : chkX x x' = true)
    {r : Ref} {i : Nat} (h0 : m'.ev fr = .omap r) (h1 : s'.ev fr = .ent r i) {es : List (PV × DV)} (hg : K.σ.obj.get r = some (.map es true)) {en : PV × DV} (hen : es[i]? = some en) :
    Runs P o a w K st (.tup []) (K.σ.set r (.map (es.set i (en.1, x'.ev fr)) true)) := by
  have hmr := chkX_rep hm hf
  have hsr := chkX_rep hs hf
  have hxr := chkX_rep hx hf
  rw [h0] at hmr
  rw [h1] at hsr
  obtain ⟨b, mes, clk, hv, hb, hh, hl, hk2, hv2, h5, h6, hkeys⟩ := omap_inv hi hmr hg
  have hgo : (getObj b).run P w = .ok (.map mes clk) w := by simp [getObj, Sem.run, hh]
  have hso : ∀ o', (setObj b o').run P w = .ok () { w with heap := w.heap.setIfInBounds b o' } := fun o' => by simp [setObj, Sem.run, hh]
  have hlt := (List.getElem?_eq_some_iff.1 hen).1
  have hlt' : i < mes.size := by omega
  obtain ⟨n, hsv, hn⟩ : ∃ n : Nat, a.eval s = goInt n ∧ n = K.bn r.st i := by
    generalize a.eval s = v at hsr
    cases hsr with
    | ent n _ _ hu hr => exact ⟨n, rfl, (hr _ _ hg).2⟩
  have hfind : mes.findIdx? (fun e => (e.born : Int) == (n : Int)) = some i := by
    rw [Array.findIdx?_eq_some_iff_getElem]
    have hb' : ∀ j (hj : j < mes.size), mes[j].born = K.bn r.st j := fun j hj => by
      have := (h5 j (by omega)).1
      simpa [Array.getD, hj] using this
    refine ⟨hlt', by rw [hb' i hlt', hn]; simp, fun j hj => ?_⟩
    rw [hb' j (by omega), hn]
    have := h6 j i hj hlt
    simp only [beq_iff_eq, Int.natCast_inj]
    simpa using this
  have hai : (asInt (goInt n)).run P w = .ok (n : Int) w := rfl
  have hrun : (Instr.entryStore t (a.eval m) (a.eval s) (a.eval x)).run P w = .ok () { w with heap := w.heap.setIfInBounds b (.map (mes.modify i fun e => { e with val := a.eval x }) clk) } := by
    simp only [Instr.entryStore, Sem.run_bind, Result.andThen_ok, hv, hgo, hsv, hai, hfind, hso]
  obtain ⟨K', k1, k2, k3, k4, k5⟩ := upd_map hi hg hb hh (mes.modify i fun e => { e with val := a.eval x }) clk (es.set i (en.1, x'.ev fr)) (K.bn r.st) (by simp) (fun _ _ => rfl) (by simp [hl])
    (fun j hj => by
      rw [List.length_set] at hj
      rw [getD_modify]
      by_cases hij : i = j
      · subst hij
        rw [if_pos ⟨rfl, hlt'⟩]
        have := hk2 i hlt
        rw [List.getD, hen] at this
        have e9 : (es.set i (en.1, x'.ev fr)).getD i (.nilp, .undef) = (en.1, x'.ev fr) := by simp [List.getD, hj]
        rw [e9]; exact this
      · rw [if_neg (fun h => hij h.1)]
        have := hk2 j hj
        simpa [List.getD, List.getElem?_set_ne hij] using this)
    (fun j hj => by
      rw [List.length_set] at hj
      rw [getD_modify]
      by_cases hij : i = j
      · subst hij
        rw [if_pos ⟨rfl, hlt'⟩]
        simp [List.getD, hj]; exact hxr
      · rw [if_neg (fun h => hij h.1)]
        have := hv2 j hj
        simpa [List.getD, List.getElem?_set_ne hij] using this)
    (fun j hj => by
      rw [List.length_set] at hj
      rw [getD_modify]
      split
      · exact h5 j hj
      · exact h5 j hj)
    (fun j j' h1 h2 => by rw [List.length_set] at h2; exact h6 j j' h1 h2)
  exact ⟨undef, _, K', .inr ⟨by simp only [execOp, ho, Sem.run_bind, hrun, Result.andThen_ok, Sem.run_pure], rfl⟩, k1, k2, k3, .tup _ _ rfl (fun i h => absurd h (by simp)), fun _ h => .inl (by rw [k4] at h; exact h)⟩
end
end Go.Ev
