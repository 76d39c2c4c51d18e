/- A part of an evaluator of closed runs, and of the proof that what it answers holds of the model. No conditions. -/
import Derived.Test.YtfhakpnfmomaaaaGreatDoorEvOps3
namespace Go.Ev
open Go
section
variable {P : Program} {o : Oper} {a : Act} {w : World} {K : Ctx} {fr : Frame} {st : Nat}

/-! ### Aggregates that are built -/
def CellsRep (w : World) (K : Ctx) (cs : Array Value) (ds : List DV) : Prop := cs.size = ds.length ∧ ∀ i, i < ds.length → RepD w K (cs.getD i undef) (ds.getD i .undef)

theorem foldl_set (off : Nat) : ∀ (l : List Value) (k : Nat) (cs : Array Value), off + k + l.length ≤ cs.size →
    ((l.zipIdx k).foldl (fun cs (x : Value × Nat) => cs.setIfInBounds (off + x.2) x.1) cs).size = cs.size ∧
    ∀ i, ((l.zipIdx k).foldl (fun cs (x : Value × Nat) => cs.setIfInBounds (off + x.2) x.1) cs).getD i undef = if off + k ≤ i ∧ i < off + k + l.length then l.getD (i - (off + k)) undef else cs.getD i undef
  | [], k, cs, _ => ⟨rfl, fun i => by simp; intro h1 h2; omega⟩
  | v :: l, k, cs, h => by
    simp only [List.length_cons] at h
    obtain ⟨h1, h2⟩ := foldl_set off l (k + 1) (cs.setIfInBounds (off + k) v) (by simp; omega)
    simp only [List.zipIdx_cons, List.foldl_cons]
    refine ⟨by rw [h1]; simp, fun i => ?_⟩
    rw [h2 i]
    by_cases hi : i = off + k
    · subst hi
      rw [if_neg (by omega), if_pos (by simp)]
      have : off + k < cs.size := by omega
      simp [Array.getD, this]
    · by_cases h3 : off + (k + 1) ≤ i ∧ i < off + (k + 1) + l.length
      · rw [if_pos h3, if_pos (by simp; omega)]
        obtain ⟨j, rfl⟩ : ∃ j, i = off + k + 1 + j := ⟨i - (off + k + 1), by omega⟩
        have e1 : off + k + 1 + j - (off + (k + 1)) = j := by omega
        have e2 : off + k + 1 + j - (off + k) = j + 1 := by omega
        rw [e1, e2, List.getD_cons_succ]
      · rw [if_neg h3, if_neg (by simp; omega)]
        have : (cs.setIfInBounds (off + k) v)[i]? = cs[i]? := Array.getElem?_setIfInBounds_ne (fun e => hi e.symm)
        simp only [Array.getD_eq_getD_getElem?, this]

theorem fold_cells (off : Nat) (v cs : Array Value) (h : off + v.size ≤ cs.size) :
    (v.zipIdx.foldl (fun cs (x : Value × Nat) => cs.setIfInBounds (off + x.2) x.1) cs).size = cs.size ∧
    ∀ i, (v.zipIdx.foldl (fun cs (x : Value × Nat) => cs.setIfInBounds (off + x.2) x.1) cs).getD i undef = if off ≤ i ∧ i < off + v.size then v.getD (i - off) undef else cs.getD i undef := by
  have := foldl_set off v.toList 0 cs (by simpa using h)
  rw [← Array.foldl_toList, Array.toList_zipIdx]
  simpa [getD_toList] using this

def chkParts (place : Nat → Option (Nat × Nat)) : List (Nat × Operand) → List (Nat × Nat × Opd) → Bool
  | [], [] => true
  | (i, x) :: l, (off, n, x') :: l' => (place i == some (off, n)) && chkX x x' && chkParts place l l'
  | _, _ => false

theorem fill_rep {place : Nat → Option (Nat × Nat)} (hf : FRel w K a.tmps fr) : ∀ (parts : List (Nat × Operand)) (parts' : List (Nat × Nat × Opd)) (cells : Array Value) (ds ds' : List DV),
    chkParts place parts parts' = true → CellsRep w K cells ds → fillAgg ds (evParts fr parts') = some ds' →
    ∃ cells', Instr.fill place cells (parts.map fun p => (p.1, a.eval p.2)) = some cells' ∧ CellsRep w K cells' ds'
  | [], [], cells, ds, ds', _, hc, h => by
    simp only [evParts, fillAgg, Option.some.injEq] at h
    subst h
    exact ⟨cells, rfl, hc⟩
  | [], _ :: _, _, _, _, h, _, _ => by simp [chkParts] at h
  | _ :: _, [], _, _, _, h, _, _ => by simp [chkParts] at h
  | (i, x) :: l, (off, n, x') :: l', cells, ds, ds', hk, hc, h => by
    simp only [chkParts, Bool.and_eq_true, beq_iff_eq] at hk
    obtain ⟨⟨h1, h2⟩, h3⟩ := hk
    simp only [evParts, fillAgg] at h
    split at h
    · rename_i xs hxs
      split at h
      · rename_i hcond
        obtain ⟨rfl, hle⟩ := hcond
        obtain ⟨k1, k2, k3⟩ := repD_cells (chkX_rep h2 hf) hxs
        have hle' : off + (a.eval x).cells.size ≤ cells.size := by rw [k1, hc.1]; exact hle
        obtain ⟨f1, f2⟩ := fold_cells off (a.eval x).cells cells hle'
        have hrep : CellsRep w K ((a.eval x).cells.zipIdx.foldl (fun cs (x : Value × Nat) => cs.setIfInBounds (off + x.2) x.1) cells) (splice ds off xs) := by
          refine ⟨by rw [f1, splice_length _ _ _ hle, hc.1], fun i hi => ?_⟩
          rw [splice_length _ _ _ hle] at hi
          rw [f2 i, splice_getD _ _ _ _ hle, k1]
          by_cases hin : off ≤ i ∧ i < off + xs.length
          · rw [if_pos hin, if_pos hin]; exact k2 _ (by omega)
          · rw [if_neg hin, if_neg hin]; exact hc.2 i hi
        obtain ⟨cells', e1, e2⟩ := fill_rep hf l l' _ _ ds' h3 hrep h
        refine ⟨cells', ?_, e2⟩
        simp only [List.map_cons, Instr.fill, h1]
        have hn : ¬ (((a.eval x).cells.size ≠ xs.length || off + (a.eval x).cells.size > cells.size) = true) := by
          simp only [k1, ne_eq, not_true, decide_false, Bool.false_or, decide_eq_true_eq]
          have := hc.1; omega
        rw [if_neg hn]
        exact e1
      · cases h
    · cases h

theorem chkL_cells {vs : Array Value} {ps : List PV} (h : chkL vs.toList ps = true) : CellsRep w K vs (ps.map .p) := by
  obtain ⟨h1, h2⟩ := chkL_rep h
  refine ⟨by simpa using h1, fun i hi => ?_⟩
  have hi' : i < ps.length := by simpa using hi
  have e : (ps.map DV.p).getD i .undef = .p (ps.getD i .nilp) := by simp [List.getD, List.getElem?_eq_getElem hi']
  rw [e, getD_toList]
  exact .p _ _ (h2 w K.im i hi')

/-- The places of a struct's fields. -/
def placesOf (P : Program) (fs : List Field) : Option (List (Nat × Nat)) := fs.mapM fun f => (P.info? f.type).map fun i => (f.offset, i.size)

theorem run_places {fs : List Field} {l : List (Nat × Nat)} (h : placesOf P fs = some l) (w : World) : (fs.mapM fun f => do pure (f.offset, ← sizeOf f.type) : Sem (List (Nat × Nat))).run P w = .ok l w := by
  induction fs generalizing l with
  | nil => simp [placesOf] at h; subst h; simp
  | cons f fs ih =>
    simp only [placesOf, List.mapM_cons, Option.bind_eq_bind, Option.bind_eq_some_iff, Option.pure_def, Option.some.injEq] at h
    obtain ⟨x, hx, l', hl, rfl⟩ := h
    obtain ⟨i, hi, rfl⟩ := Option.map_eq_some_iff.1 hx
    have := ih hl
    have hs := run_size (P := P) (t := f.type) (n := i.size) (by rw [hi]; rfl) w
    simp only [List.mapM_cons, Sem.run_bind, hs, Result.andThen_ok, Sem.run_pure, this]

theorem run_build (hi : SInv w K) (hf : FRel w K a.tmps fr) {t : TypeId} {parts : Array (Nat × Operand)} {parts' : List (Nat × Nat × Opd)} {zero : List PV} {z : Value} (ho : o.op = .build t parts)
    (hz : (P.info? t).bind (·.zero) = some z) (hc : chkL z.cells.toList zero = true) {place : Nat → Option (Nat × Nat)}
    (hu : (∃ fs pl, P.underlying t = some (.struct fs) ∧ placesOf P fs.toList = some pl ∧ place = fun i => pl[i]?) ∨ (∃ n e s, P.underlying t = some (.array n e) ∧ (P.info? e).map (·.size) = some s ∧ place = fun i => some (i * s, s)))
    (hp : chkParts place parts.toList parts' = true) {cs : List DV} (hd : fillAgg (zero.map .p) (evParts fr parts') = some cs) : Runs P o a w K st (.agg cs) K.σ := by
  obtain ⟨i, hi1, hi2⟩ := Option.bind_eq_some_iff.1 hz
  obtain ⟨cells, h1, h2, h3⟩ := fill_rep (place := place) hf parts.toList parts' z.cells _ cs hp (chkL_cells hc) hd
  refine .same hi (v := .agg cells) ?_ (.agg _ _ h2 h3)
  have e1 : (parts.map fun (i, x) => (i, a.eval x)).toList = parts.toList.map fun p => (p.1, a.eval p.2) := by simp
  rcases hu with ⟨fs, pl, hu, hpl, rfl⟩ | ⟨n, e, s, hu, hs, rfl⟩
  · have hpl' := run_places hpl w
    have e2 : (fs.mapM fun f => do pure (f.offset, ← sizeOf f.type) : Sem (Array (Nat × Nat))).run P w = .ok pl.toArray w := by
      rw [Array.mapM_eq_mapM_toList]
      show ((List.toArray <$> _ : Sem _)).run P w = _
      rw [map_eq_pure_bind, Sem.run_bind, hpl']
      rfl
    have e3 : (zeroValue t).run P w = .ok z w := by simp [zeroValue, typeInfo, hi1, hi2]
    simp only [execOp, ho, Instr.build, Sem.run_bind, e3, Result.andThen_ok, run_underlying hu, e2, e1, List.getElem?_toArray, h1, Sem.run_pure]
  · obtain ⟨i2, hi3, hi4⟩ := Option.map_eq_some_iff.1 hs
    have e3 : (zeroValue t).run P w = .ok z w := by simp [zeroValue, typeInfo, hi1, hi2]
    have e4 := run_size (P := P) (t := e) (n := s) (by rw [hi3]; exact congrArg some hi4) w
    simp only [execOp, ho, Instr.build, Sem.run_bind, e3, Result.andThen_ok, run_underlying hu, e4, e1, h1, Sem.run_pure]
/-- The world has grown; nothing of the store. -/
theorem grown {w1 : World} (hi : SInv w K) (hsz : w.heap.size ≤ w1.heap.size) (hos : w1.os = w.os) (hta : w1.tape = w.tape) (hou : w1.output = w.output) (hh : ∀ k, k < w.heap.size → w1.heap[k]? = w.heap[k]?) : Ext w K w1 K ∧ SInv w1 K := by
  have hx : Ext w K w1 K := ⟨hsz, hos, hta, hou, ⟨fun b o' v h1 h2 => ⟨(cell_of_heap (hh _ (cell_lt h1)) o').trans h1, h2⟩, fun r es c h1 h2 => ⟨(hh _ (block_lt h1)).trans h1, h2⟩, rfl⟩, rfl, rfl, fun _ h => h,
    fun r o' _ h => ⟨o', h, .refl _, rfl, rfl, fun _ _ => rfl⟩, fun _ _ h => h, fun b hb _ => hh b hb, fun r sz n _ h => ⟨n, h, Nat.le_refl _, fun _ => ⟨rfl, rfl⟩⟩, fun _ _ _ h => h, fun _ _ h => h⟩
  refine ⟨hx, ⟨fun f s st o h => ?_, fun f s st sz n h => ?_, hi.oo, hi.tt, hi.ot, hi.inj, hi.X⟩⟩
  · obtain ⟨h1, h2⟩ := hi.obj _ _ _ _ h
    exact ⟨h1, h2.ext hx rfl rfl (fun _ _ => rfl) (fun b hb => hh _ (hi.live_lt (.inl ⟨_, _, _, h⟩) hb))⟩
  · obtain ⟨h1, h2⟩ := hi.tok _ _ _ _ _ h
    refine ⟨h1, ?_⟩
    rcases h2 with h2 | ⟨b, cs, e, h2, h3, h4⟩
    · exact .inl h2
    · exact .inr ⟨b, cs, e, h2, (hh _ (block_lt h3)).trans h3, h4⟩

theorem grown_alloc (hi : SInv w K) (o : Obj) : Ext w K (w.alloc o) K ∧ SInv (w.alloc o) K :=
  grown hi (by rw [size_alloc]; omega) rfl rfl rfl (fun _ hk => heap_alloc hk)

def chkParts2 : List (Nat × Operand) → List (Nat × Opd) → Bool
  | [], [] => true
  | (i, x) :: l, (j, x') :: l' => i == j && chkX x x' && chkParts2 l l'
  | _, _ => false

def RowsRep (w : World) (K : Ctx) (s : Nat) (cs : Array Value) (rows : List (List DV)) : Prop :=
  cs.size = rows.length * s ∧ (∀ r ∈ rows, r.length = s) ∧ ∀ i j, i < rows.length → j < s → RepD w K (cs.getD (i * s + j) undef) ((rows.getD i []).getD j .undef) ∧ (cs.getD (i * s + j) undef).oneCell' = true

theorem fillRows_rep {s : Nat} (hf : FRel w K a.tmps fr) : ∀ (parts : List (Nat × Operand)) (parts' : List (Nat × Opd)) (cells : Array Value) (rows rows' : List (List DV)),
    chkParts2 parts parts' = true → RowsRep w K s cells rows → fillRows s rows (evParts2 fr parts') = some rows' →
    ∃ cells', Instr.fill (fun i => some (i * s, s)) cells (parts.map fun p => (p.1, a.eval p.2)) = some cells' ∧ RowsRep w K s cells' rows'
  | [], [], cells, rows, rows', _, hc, h => by
    simp only [evParts2, fillRows, Option.some.injEq] at h
    subst h
    exact ⟨cells, rfl, hc⟩
  | [], _ :: _, _, _, _, h, _, _ => by simp [chkParts2] at h
  | _ :: _, [], _, _, _, h, _, _ => by simp [chkParts2] at h
  | (i, x) :: l, (i', x') :: l', cells, rows, rows', hk, hc, h => by
    simp only [chkParts2, Bool.and_eq_true, beq_iff_eq] at hk
    obtain ⟨⟨rfl, h2⟩, h3⟩ := hk
    simp only [evParts2, fillRows] at h
    split at h
    · rename_i xs hxs
      split at h
      · rename_i hcond
        obtain ⟨rfl, hlt⟩ := hcond
        obtain ⟨k1, k2, k3⟩ := repD_cells (chkX_rep h2 hf) hxs
        obtain ⟨c1, c2, c3⟩ := hc
        have hmul : (i + 1) * xs.length ≤ rows.length * xs.length := Nat.mul_le_mul_right _ hlt
        rw [Nat.add_mul] at hmul
        obtain ⟨f1, f2⟩ := fold_cells (i * xs.length) (a.eval x).cells cells (by omega)
        have hrep : RowsRep w K xs.length ((a.eval x).cells.zipIdx.foldl (fun cs (y : Value × Nat) => cs.setIfInBounds (i * xs.length + y.2) y.1) cells) (rows.set i xs) := by
          refine ⟨by rw [f1, c1, List.length_set], fun r hr => ?_, fun p j hp hj => ?_⟩
          · rcases List.mem_or_eq_of_mem_set hr with h | rfl
            · exact c2 r h
            · rfl
          · rw [List.length_set] at hp
            rw [f2, k1]
            by_cases hpi : p = i
            · subst hpi
              have e2 : (rows.set p xs).getD p [] = xs := by simp [List.getD, hp]
              rw [if_pos (by omega), e2, show p * xs.length + j - p * xs.length = j by omega]
              exact ⟨k2 j hj, k3 _ (getD_mem (by omega))⟩
            · have e2 : (rows.set i xs).getD p [] = rows.getD p [] := by simp [List.getD, List.getElem?_set_ne (Ne.symm hpi)]
              have hfar : ¬ (i * xs.length ≤ p * xs.length + j ∧ p * xs.length + j < i * xs.length + xs.length) := by
                rcases Nat.lt_or_gt_of_ne hpi with h9 | h9
                · have : (p + 1) * xs.length ≤ i * xs.length := Nat.mul_le_mul_right _ h9
                  rw [Nat.add_mul] at this; omega
                · have : (i + 1) * xs.length ≤ p * xs.length := Nat.mul_le_mul_right _ h9
                  rw [Nat.add_mul] at this; omega
              rw [if_neg hfar, e2]
              exact c3 p j hp hj
        obtain ⟨cells', e1, e2⟩ := fillRows_rep hf l l' _ _ rows' h3 hrep h
        refine ⟨cells', ?_, e2⟩
        simp only [List.map_cons, Instr.fill]
        have hn : ¬ (((a.eval x).cells.size ≠ xs.length || i * xs.length + (a.eval x).cells.size > cells.size) = true) := by
          simp only [k1, ne_eq, not_true, decide_false, Bool.false_or, decide_eq_true_eq]
          omega
        rw [if_neg hn]
        exact e1
      · cases h
    · cases h

theorem zero_row {z : Value} {zero : List PV} (hc : chkL z.cells.toList zero = true) (n : Nat) :
    RowsRep w K zero.length ((Array.range (n * zero.length)).map (z.cells[· % z.cells.size]!)) (List.replicate n (zero.map .p)) := by
  obtain ⟨h1, h2⟩ := chkL_rep hc
  have hs : z.cells.size = zero.length := by simpa using h1
  refine ⟨by simp, fun r hr => by rw [(List.mem_replicate.1 hr).2]; simp, fun i j hi hj => ?_⟩
  rw [List.length_replicate] at hi
  have hlt := row_lt hi hj
  have e1 : ((Array.range (n * zero.length)).map (z.cells[· % z.cells.size]!)).getD (i * zero.length + j) undef = z.cells.getD j undef := by
    have h3 : j < z.cells.size := by omega
    have h4 : (i * zero.length + j) % z.cells.size = j := by rw [hs]; exact row_mod hj
    simp [Array.getD, hlt, h4, h3]
  have e2 : ((List.replicate n (zero.map DV.p)).getD i []).getD j .undef = .p (zero.getD j .nilp) := by
    have : (List.replicate n (zero.map DV.p)).getD i [] = zero.map DV.p := by simp [List.getD, hi]
    rw [this]; simp [List.getD, List.getElem?_eq_getElem hj]
  rw [e1, e2, getD_toList]
  exact ⟨.p _ _ (h2 w K.im j hj), chkL_one hc j hj⟩
/-- Rows of a new block, as an object of one's own. -/
theorem new_own (hi : SInv w K) (hold : Old w K) (F site s : Nat) (hst : ¬ K.used st) (t : TypeId) (cs : Array Value) (rows : List (List DV)) (cap : Nat) (hcap : rows.length ≤ cap) (hsz : cs.size = cap * s)
    (hl : ∀ r ∈ rows, r.length = s) (hr : ∀ i j, i < rows.length → j < s → RepD w K (cs.getD (i * s + j) undef) ((rows.getD i []).getD j .undef) ∧ (cs.getD (i * s + j) undef).oneCell' = true) :
    ∃ K', Ext w K (w.alloc (.cells cs t)) K' ∧ SInv (w.alloc (.cells cs t)) K' ∧ K'.σ = K.σ.put F site (some (st, .arr s rows true)) ∧
      RepD (w.alloc (.cells cs t)) K' (.slice (some ⟨w.heap.size, 0, none⟩) rows.length cap) (.own ⟨F, site, st⟩ 0 rows.length) ∧ (∀ x, K'.used x → K.used x ∨ (st ≤ x ∧ x < st + 16)) := by
  obtain ⟨hx, hs⟩ := new_obj hi hold F site st (.arr s rows true) cap hst (.cells cs t) (fun hx =>
    ⟨w.heap.size, cs, t, by simp [Ctx.newObj], heap_alloc_self, by simpa [Ctx.newObj] using hsz, by simpa [Ctx.newObj] using hcap, hl, fun i j h1 h2 => ⟨(hr i j h1 h2).1.ext hx, (hr i j h1 h2).2⟩⟩)
  refine ⟨_, hx, hs, rfl, ?_, fun x h => used_new (by omega) h⟩
  refine .own _ _ _ _ _ (.inl rfl) hcap (fun sz rws mu h => ?_)
  rw [get_spec] at h
  rcases put_obj h with ⟨_, _, h⟩ | ⟨hn, _⟩
  · simp only [Option.some.injEq, Prod.mk.injEq, Ob.arr.injEq, true_and] at h
    obtain ⟨rfl, rfl, rfl⟩ := h
    exact ⟨by simp, fun _ => by simp [Ctx.newObj], w.heap.size, by simp [Ctx.newObj], fun _ => by simp⟩
  · exact absurd ⟨rfl, rfl⟩ hn

theorem rows_pure {s : Nat} {cs : Array Value} {rows : List (List DV)} {rs : List (List PV)} (h : RowsRep w K s cs rows) (hr : asRows rows = some rs) :
    rs.length = rows.length ∧ (∀ r ∈ rs, r.length = s) ∧ ∀ i j, i < rs.length → j < s → RepP w K.im (cs.getD (i * s + j) undef) ((rs.getD i []).getD j .nilp) ∧ (cs.getD (i * s + j) undef).oneCell' = true := by
  obtain ⟨e1, e2⟩ := asRows_spec hr
  obtain ⟨h1, h2, h3⟩ := h
  have hlen : ∀ i, i < rs.length → (rs.getD i []).length = s := by
    intro i hi
    have h4 := (asPs_spec (e2 i hi)).1
    have hlt : i < rows.length := by omega
    have h5 : rows.getD i [] ∈ rows := by rw [List.getD, List.getElem?_eq_getElem hlt]; exact List.getElem_mem hlt
    rw [← h4]; exact h2 _ h5
  refine ⟨e1.symm, fun r hr => ?_, fun i j hi hj => ?_⟩
  · obtain ⟨i, hi, rfl⟩ := List.getElem_of_mem hr
    have := hlen i hi
    simpa [List.getD, List.getElem?_eq_getElem hi] using this
  · obtain ⟨h4, h5⟩ := h3 i j (by omega) hj
    exact ⟨(asPs_spec (e2 i hi)).2 w K j (by rw [hlen i hi]; exact hj) _ h4, h5⟩

theorem run_buildSl (hi : SInv w K) (hold : Old w K) (hf : FRel w K a.tmps fr) (F site : Nat) (hst : ¬ K.used st) {t e : TypeId} {len : Nat} {parts : Array (Nat × Operand)} {parts' : List (Nat × Opd)} {zero : List PV} {z : Value} (ho : o.op = .buildSlice t len parts)
    (hu : P.underlying t = some (.slice e)) (hz : (P.info? e).map (fun i => (i.size, i.zero)) = some (zero.length, some z)) (hc : chkL z.cells.toList zero = true) (hpos : 0 < zero.length) (hlim : len * zero.length ≤ 16777216)
    (hp : chkParts2 parts.toList parts' = true) {rows : List (List DV)} (hd : fillRows zero.length (List.replicate len (zero.map .p)) (evParts2 fr parts') = some rows) (kind : SlK) {d : DV} {σ' : Store}
    (hk : (len = 0 ∧ d = .p .emp ∧ σ' = K.σ) ∨ (0 < len ∧ kind = .own ∧ d = .own ⟨F, site, st⟩ 0 len ∧ σ' = K.σ.put F site (some (st, .arr zero.length rows true))) ∨
      (0 < len ∧ kind = .lin ∧ ∃ rs, asRows rows = some rs ∧ d = .lin rs ⟨F, site, st⟩ ∧ σ' = K.σ.putTok F site (some (st, zero.length, len))) ∨ (0 < len ∧ kind = .imm ∧ ∃ rs, asRows rows = some rs ∧ d = .p (.sl rs) ∧ σ' = K.σ)) :
    Runs P o a w K st d σ' := by
  obtain ⟨info, hi1, hi2⟩ := Option.map_eq_some_iff.1 hz
  simp only [Prod.mk.injEq] at hi2
  have hs := run_size (P := P) (t := e) (n := zero.length) (by rw [hi1]; exact congrArg some hi2.1) w
  have hzv : (zeroValue e).run P w = .ok z w := by simp [zeroValue, typeInfo, hi1, hi2.2]
  obtain ⟨cs, hfill, hrep⟩ := fillRows_rep hf parts.toList parts' _ _ rows hp (zero_row (w := w) (K := K) hc len) hd
  have hrl : rows.length = len := by
    have : ∀ (parts' : List (Nat × DV)) (rows rows' : List (List DV)), fillRows zero.length rows parts' = some rows' → rows'.length = rows.length := by
      intro ps
      induction ps with
      | nil => intro r r' h; simp only [fillRows, Option.some.injEq] at h; rw [h]
      | cons p ps ih =>
        intro r r' h
        obtain ⟨i, d⟩ := p
        simp only [fillRows] at h
        split at h
        · split at h
          · rw [ih _ _ h, List.length_set]
          · cases h
        · cases h
    rw [this _ _ _ hd, List.length_replicate]
  have e1 : (parts.map fun (i, x) => (i, a.eval x)).toList = parts.toList.map fun p => (p.1, a.eval p.2) := by simp
  have hrun : (execOp a.eval o).run P w = .ok (.value (.slice (some ⟨w.heap.size, 0, none⟩) len len)) (w.alloc (.cells cs e)) := by
    have hl : ¬ 16777216 < len * zero.length := by omega
    by_cases h0 : len * zero.length = 0
    · have hl0 : len = 0 := by
        rcases Nat.mul_eq_zero.1 h0 with h | h
        · exact h
        · omega
      subst hl0
      have hm0 : ∀ f : Nat → Value, (Array.range 0).map f = #[] := fun f => Array.eq_empty_of_size_eq_zero (by simp)
      rw [Nat.zero_mul, hm0] at hfill
      simp only [execOp, ho, Instr.buildSlice, Sem.run_bind, run_underlying hu, Result.andThen_ok, hs, Nat.reducePow, gt_iff_lt, h0, if_true, Sem.run_pure, e1, hm0, hfill]
      simp [newRow]
    · simp only [execOp, ho, Instr.buildSlice, Sem.run_bind, run_underlying hu, Result.andThen_ok, hs, Nat.reducePow, gt_iff_lt, hl, if_false, h0, Sem.run_pure, e1, hzv]
      simp [hfill, newRow]
  rcases hk with ⟨rfl, rfl, rfl⟩ | ⟨h0, rfl, rfl, rfl⟩ | ⟨h0, rfl, rs, hrs, rfl, rfl⟩ | ⟨h0, rfl, rs, hrs, rfl, rfl⟩
  · obtain ⟨g1, g2⟩ := grown_alloc hi (.cells cs e)
    exact ⟨_, _, K, .inl hrun, g1, g2, rfl, .p _ _ (.emp _), fun _ h => .inl h⟩
  · obtain ⟨K', k1, k2, k3, k4, k5⟩ := new_own hi hold F site zero.length hst e cs rows rows.length (Nat.le_refl _) hrep.1 hrep.2.1 hrep.2.2
    rw [hrl] at k4
    exact ⟨_, _, K', .inl hrun, k1, k2, k3, k4, k5⟩
  · obtain ⟨p1, p2, p3⟩ := rows_pure hrep hrs
    obtain ⟨K', k1, k2, k3, k4, k5⟩ := new_rows hi hold F site zero.length hst e rs rs.length (Nat.le_refl _) cs (by rw [p1]; exact hrep.1) p2 (w.alloc (.cells cs e)) rfl rfl rfl rfl (fun i j h1 h2 => (p3 i j h1 h2).1) (fun i j h1 h2 => (p3 i j h1 h2).2)
    rw [p1, hrl] at k3 k4
    exact ⟨_, _, K', .inl hrun, k1, k2, k3, k4, k5⟩
  · obtain ⟨p1, p2, p3⟩ := rows_pure hrep hrs
    obtain ⟨g1, g2⟩ := grown_alloc hi (.cells cs e)
    refine ⟨_, _, K, .inl hrun, g1, g2, rfl, .p _ _ ?_, fun _ h => .inl h⟩
    have hlen : rs.length = len := by omega
    rw [← hlen]
    refine .sl w.heap.size 0 rs.length zero.length rs (fun i j => cs.getD (i * zero.length + j) undef) p2 (fun i j h1 h2 => ⟨?_, fun hM => ?_⟩) (fun i j h1 h2 => (p3 i j h1 h2).2) (fun i j h1 h2 => (p3 i j h1 h2).1.keep g1.keep) (Nat.le_refl _)
    · rw [Nat.zero_add]
      exact cell_heap heap_alloc_self (by rw [hrep.1, ← p1]; exact row_lt h1 h2)
    · rcases hM with ⟨f', s', st', sz, rows', x1, x2⟩ | ⟨f', s', st', sz, n, x1, x2, _⟩ | x1
      · have := hi.live_lt (.inl ⟨_, _, _, x1⟩) x2; omega
      · have := hi.live_lt (.inr ⟨_, _, _, _, x1⟩) x2; omega
      · have := hold.X _ _ x1; omega
theorem run_makeSl (hi : SInv w K) (hold : Old w K) (hf : FRel w K a.tmps fr) (F site : Nat) (hst : ¬ K.used st) {t e : TypeId} {x y : Operand} {x' y' : Opd} {zero : List PV} {z : Value} {bytes : Nat} (ho : o.op = .makeSlice t x y)
    (hu : P.underlying t = some (.slice e)) (hz : (P.info? e).map (fun i => (i.size, i.bytes, i.zero)) = some (zero.length, bytes, some z)) (hc : chkL z.cells.toList zero = true) (hby : bytes ≤ 32768)
    (hx : chkX x x' = true) (hy : chkX y y' = true) {l c : Nat} (h1 : idx (x'.ev fr) = some l) (h2 : idx (y'.ev fr) = some c) (hlc : l ≤ c) (hlim : c ≤ 1000000) {d : DV} {σ' : Store}
    (hk : (d = .own ⟨F, site, st⟩ 0 l ∧ σ' = K.σ.put F site (some (st, .arr zero.length (List.replicate l (zero.map .p)) true))) ∨
      (d = .lin (List.replicate l zero) ⟨F, site, st⟩ ∧ σ' = K.σ.putTok F site (some (st, zero.length, l)))) :
    Runs P o a w K st d σ' := by
  obtain ⟨info, hi1, hi2⟩ := Option.map_eq_some_iff.1 hz
  simp only [Prod.mk.injEq] at hi2
  obtain ⟨kx, hxv⟩ := idx_inv (chkX_rep hx hf) h1
  obtain ⟨ky, hyv⟩ := idx_inv (chkX_rep hy hf) h2
  have hs := run_size (P := P) (t := e) (n := zero.length) (by rw [hi1]; exact congrArg some hi2.1) w
  have hzv : (zeroValue e).run P w = .ok z w := by simp [zeroValue, typeInfo, hi1, hi2.2.2]
  have hti : (typeInfo e).run P w = .ok info w := by simp [typeInfo, hi1]
  have wl : IntKind.i64.wrap (l : Int) = l := by rw [IntKind.wrap_i64]; omega
  have wc : IntKind.i64.wrap (c : Int) = c := by rw [IntKind.wrap_i64]; omega
  have hb : ¬ ((2 : Int) ^ 48 < (info.bytes : Int) * (c : Int)) := by
    rw [hi2.2.1]
    have : bytes * c ≤ 32768 * 1000000 := Nat.mul_le_mul hby hlim
    have h3 : (bytes : Int) * (c : Int) = ((bytes * c : Nat) : Int) := by rw [Int.natCast_mul]
    rw [h3]
    generalize bytes * c = q at this
    have h4 : (2 : Int) ^ 48 = 281474976710656 := by rfl
    rw [h4]
    omega
  obtain ⟨cs, hcs⟩ : ∃ cs, cs = (Array.range (c * zero.length)).map (z.cells[· % z.cells.size]!) := ⟨_, rfl⟩
  have hrep : RowsRep w K zero.length cs (List.replicate c (zero.map .p)) := by rw [hcs]; exact zero_row (w := w) (K := K) hc c
  have hrun : (execOp a.eval o).run P w = .ok (.value (.slice (some ⟨w.heap.size, 0, none⟩) l c)) (w.alloc (.cells cs e)) := by
    have hneg : ¬ ((c : Int) < 0) := by omega
    have hneg2 : ¬ ((l : Int) < 0) := by omega
    have hneg3 : ¬ ((l : Int) > (c : Int)) := by omega
    have hask : ∀ n w, (askRoom n).run P w = .ok () w := by
      intro n w
      unfold askRoom
      split <;> rfl
    have hai : ∀ k n w, (asInt (.int k n)).run P w = .ok n w := fun _ _ _ => rfl
    have hcond : ¬ (((decide ((c : Int) < 0) || decide ((info.bytes : Int) * (c : Int) > 2 ^ 48)) || decide ((l : Int) < 0) || decide ((l : Int) > (c : Int))) = true) := by
      simp only [Bool.or_eq_true, decide_eq_true_eq, hneg, hneg2, hneg3, or_false, false_or, gt_iff_lt]
      exact hb
    by_cases h0 : c * zero.length = 0
    · have hm0 : ∀ f : Nat → Value, (Array.range 0).map f = #[] := fun f => Array.eq_empty_of_size_eq_zero (by simp)
      rw [h0, hm0] at hcs
      simp only [execOp, ho, Instr.makeSlice, Sem.run_bind, run_underlying hu, Result.andThen_ok, hxv, hyv, hai, hti, wl, wc, hcond, Bool.false_eq_true, if_false, hask, Int.toNat_natCast, hs, h0, if_true, Sem.run_pure, hm0, newRow]
      rw [hcs]; rfl
    · simp only [execOp, ho, Instr.makeSlice, Sem.run_bind, run_underlying hu, Result.andThen_ok, hxv, hyv, hai, hti, wl, wc, hcond, Bool.false_eq_true, if_false, hask, Int.toNat_natCast, hs, h0, hzv, Sem.run_pure, newRow]
      rw [hcs]; rfl
  have hrl : ∀ i, i < l → (List.replicate c (zero.map DV.p)).getD i [] = (List.replicate l (zero.map DV.p)).getD i [] := fun i hi' => by
    have : i < c := by omega
    simp [List.getD, hi', this]
  rcases hk with ⟨rfl, rfl⟩ | ⟨rfl, rfl⟩
  · obtain ⟨K', k1, k2, k3, k4, k5⟩ := new_own hi hold F site zero.length hst e cs (List.replicate l (zero.map .p)) c (by simpa using hlc) (by simpa using hrep.1) (fun r hr => by rw [(List.mem_replicate.1 hr).2]; simp)
      (fun i j h3 h4 => by
        rw [List.length_replicate] at h3
        have := hrep.2.2 i j (by simp; omega) h4
        rwa [hrl i h3] at this)
    rw [List.length_replicate] at k4
    exact ⟨_, _, K', .inl hrun, k1, k2, k3, k4, k5⟩
  · have hr : ∀ i j, i < l → j < zero.length → RepP w K.im (cs.getD (i * zero.length + j) undef) (((List.replicate l zero).getD i []).getD j .nilp) ∧ (cs.getD (i * zero.length + j) undef).oneCell' = true := fun i j h3 h4 => by
      have := hrep.2.2 i j (by simp; omega) h4
      have e2 : ((List.replicate c (zero.map DV.p)).getD i []).getD j .undef = .p (zero.getD j .nilp) := by
        have : i < c := by omega
        have e3 : (List.replicate c (zero.map DV.p)).getD i [] = zero.map DV.p := by simp [List.getD, this]
        rw [e3]; simp [List.getD, List.getElem?_eq_getElem h4]
      rw [e2] at this
      have e4 : (List.replicate l zero).getD i [] = zero := by simp [List.getD, h3]
      rw [e4]
      obtain ⟨h5, h6⟩ := this
      generalize cs.getD (i * zero.length + j) undef = u at h5 h6
      cases h5 with | p _ _ h => exact ⟨h, h6⟩
    obtain ⟨K', k1, k2, k3, k4, k5⟩ := new_rows hi hold F site zero.length hst e (List.replicate l zero) c (by simpa using hlc) cs (by simpa using hrep.1) (fun r hr => by rw [(List.mem_replicate.1 hr).2]) (w.alloc (.cells cs e)) rfl rfl rfl rfl
      (fun i j h3 h4 => (hr i j (by simpa using h3) h4).1) (fun i j h3 h4 => (hr i j (by simpa using h3) h4).2)
    rw [List.length_replicate] at k3 k4
    exact ⟨_, _, K', .inl hrun, k1, k2, k3, k4, k5⟩

theorem run_makeMap (hi : SInv w K) (hold : Old w K) (F site : Nat) (hst : ¬ K.used st) {t : TypeId} (ho : o.op = .makeMap t none) :
    Runs P o a w K st (.omap ⟨F, site, st⟩) (K.σ.put F site (some (st, .map [] true))) := by
  obtain ⟨hx, hs⟩ := new_obj hi hold F site st (.map [] true) 0 hst (.map #[] 0) (fun hx =>
    ⟨w.heap.size, #[], 0, by simp [Ctx.newObj], heap_alloc_self, rfl, fun i h => absurd h (by simp), fun i h => absurd h (by simp), fun i h => absurd h (by simp), fun i j _ h => absurd h (by simp)⟩)
  refine ⟨_, _, _, .inl (by simp [execOp, ho, Instr.makeMap]; rfl), hx, hs, rfl, ?_, fun x h => used_new (by omega) h⟩
  exact .omap _ _ (.inl rfl) (fun es mu h => by simp [Ctx.newObj])
/-! ### Lengths, pieces, functions -/
theorem sl_inv {v : Value} {rows : List (List PV)} (h : RepP w K.im v (.sl rows)) : ∃ ad cap, v = .slice ad rows.length cap := by
  cases h with
  | sl0 a c => exact ⟨_, _, rfl⟩
  | sl b q c s' _ g => exact ⟨_, _, rfl⟩

theorem len_inv (hi : SInv w K) {v : Value} {d : DV} (hr : RepD w K v d) {ro : Objs} (hro : ∀ r o, ro.get r = some o → K.σ.obj.get r = some o) {k n : Nat} (hd : lenD ro k d = some n) :
    (k = 0 ∧ ∃ s, v = .string s ∧ s.size = n) ∨ (k = 1 ∧ ∃ ad cap, v = .slice ad n cap) ∨ (k = 2 ∧ ((v = .map none ∧ n = 0) ∨ ∃ r es clk, v = .map (some r) ∧ w.heap[r]? = some (.map es clk) ∧ es.size = n)) := by
  cases d with
  | p p =>
    cases hr with
    | p _ _ h =>
      cases p with
      | str l =>
        simp only [lenD] at hd
        split at hd
        · rename_i hk
          simp only [Option.some.injEq] at hd
          cases h with | str s _ h => exact .inl ⟨hk, s, rfl, by rw [← hd, ← h, size_data]⟩
        · cases hd
      | nilsl =>
        simp only [lenD] at hd
        split at hd
        · rename_i hk
          simp only [Option.some.injEq] at hd
          cases h; exact .inr (.inl ⟨hk, _, _, by rw [← hd]⟩)
        · cases hd
      | emp =>
        simp only [lenD] at hd
        split at hd
        · rename_i hk
          simp only [Option.some.injEq] at hd
          cases h; exact .inr (.inl ⟨hk, _, _, by rw [← hd]⟩)
        · cases hd
      | nilmap =>
        simp only [lenD] at hd
        split at hd
        · rename_i hk
          simp only [Option.some.injEq] at hd
          cases h; exact .inr (.inr ⟨hk, .inl ⟨rfl, hd.symm⟩⟩)
        · cases hd
      | sl rows =>
        simp only [lenD] at hd
        split at hd
        · rename_i hk
          simp only [Option.some.injEq] at hd
          obtain ⟨ad, cap, rfl⟩ := sl_inv h
          exact .inr (.inl ⟨hk, _, _, by rw [← hd]⟩)
        · cases hd
      | imap es =>
        simp only [lenD] at hd
        split at hd
        · rename_i hk
          simp only [Option.some.injEq] at hd
          cases h with | imap r es' clk _ hh hm hl => exact .inr (.inr ⟨hk, .inr ⟨r, es', clk, rfl, hh, by rw [hl, hd]⟩⟩)
        · cases hd
      | _ => simp [lenD] at hd
  | lin rows r =>
    simp only [lenD] at hd
    split at hd
    · rename_i hk
      simp only [Option.some.injEq] at hd
      cases hr with
      | lin _ _ _ h =>
        obtain ⟨ad, cap, rfl⟩ := sl_inv h
        exact .inr (.inl ⟨hk, _, _, by rw [← hd]⟩)
    · cases hd
  | own r off len =>
    simp only [lenD] at hd
    split at hd
    · rename_i hk
      simp only [Option.some.injEq] at hd
      cases hr with | own a cap => exact .inr (.inl ⟨hk, _, _, by rw [← hd]⟩)
    · cases hd
  | omap r =>
    simp only [lenD] at hd
    split at hd
    · rename_i es mu hg
      split at hd
      · rename_i hk
        simp only [Option.some.injEq] at hd
        cases hr with
        | omap b _ hu hr =>
          obtain ⟨_, b', mes, clk, e1, e2, e3, _⟩ := hi.obj _ _ _ _ (get_spec.1 (hro _ _ hg))
          have e4 := hr _ _ (hro _ _ hg)
          rw [e4] at e1; cases e1
          exact .inr (.inr ⟨hk, .inr ⟨b, mes, clk, rfl, e2, by rw [e3, hd]⟩⟩)
      · cases hd
    · cases hd
  | _ => simp [lenD] at hd

theorem run_len (hi : SInv w K) (hf : FRel w K a.tmps fr) {c : Call} {x : Operand} {x' : Opd} {t : TypeId} {ty : TypeDesc} {k : Nat} (ho : o.op = .call c) (hc : c.callee = .builtin .len) (ha : c.args = #[x]) (hat : c.argTypes = #[t])
    (hu : P.underlying t = some ty) (hk : (k = 0 ∧ ty = .string) ∨ (k = 1 ∧ ∃ e, ty = .slice e) ∨ (k = 2 ∧ ∃ q e, ty = .map q e)) (hx : chkX x x' = true) {ro : Objs} (hro : ∀ r o, ro.get r = some o → K.σ.obj.get r = some o)
    {n : Nat} (hd : lenD ro k (x'.ev fr) = some n) : Runs P o a w K st (.p (.int .i64 n)) K.σ := by
  refine .same hi (v := goInt n) ?_ (.p _ _ (.int _ _))
  rcases len_inv hi (chkX_rep hx hf) hro hd with ⟨rfl, s, hv, e⟩ | ⟨rfl, ad, cap, hv⟩ | ⟨rfl, ⟨hv, e⟩ | ⟨r, es, clk, hv, hh, e⟩⟩
  · have : ty = .string := by simpa using hk
    subst this
    simp [execOp, ho, resolve, hc, ha, hat, invoke, builtin, Builtin.len_, run_underlying hu, hv, e]
  · obtain ⟨e, rfl⟩ : ∃ e, ty = .slice e := by simpa using hk
    simp [execOp, ho, resolve, hc, ha, hat, invoke, builtin, Builtin.len_, run_underlying hu, hv]
  · obtain ⟨q, e', rfl⟩ : ∃ q e, ty = .map q e := by simpa using hk
    simp [execOp, ho, resolve, hc, ha, hat, invoke, builtin, Builtin.len_, run_underlying hu, hv, e]
  · obtain ⟨q, e', rfl⟩ : ∃ q e, ty = .map q e := by simpa using hk
    have hg : (getObj r).run P w = .ok (.map es clk) w := by simp [getObj, Sem.run, hh]
    simp [execOp, ho, resolve, hc, ha, hat, invoke, builtin, Builtin.len_, run_underlying hu, hv, hg, e]

theorem bound_inv {d : DV} {v : Value} (h : RepD w K v d) {n : Nat} (hd : idx d = some n) : ∃ k, v = .int k n := idx_inv h hd
def chkO : Option Operand → Option Opd → Bool
  | none, none => true
  | some x, some y => chkX x y
  | _, _ => false
/-- A bound of a piece. -/
theorem run_bound {x : Operand} {x' : Opd} (hf : FRel w K a.tmps fr) (hx : chkX x x' = true) {n m : Nat} {code : BoundsCode} (hd : idx (x'.ev fr) = some n) (hle : n ≤ m) : (Instr.sliceBound (a.eval x) m code).run P w = .ok n w := by
  obtain ⟨k, hv⟩ := idx_inv (chkX_rep hx hf) hd
  have h1 : (asIntOf (.int k (n : Int))).run P w = .ok (k, (n : Int)) w := rfl
  have h2 : (0 : Int) ≤ (n : Int) ∧ (n : Int) ≤ (m : Int) := by omega
  simp only [Instr.sliceBound, hv, Sem.run_bind, h1, Result.andThen_ok, h2, and_self, if_true, Sem.run_pure, Int.toNat_natCast]

theorem run_bounds (hf : FRel w K a.tmps fr) {b : Bool} {len cap l h : Nat} {lo hi : Option Operand} {lo' hi' : Option Opd} (hlo : chkO lo lo' = true) (hhi : chkO hi hi' = true) (h1 : boundOf fr 0 lo' = some l) (h2 : boundOf fr len hi' = some h) (hlh : l ≤ h) (hlen : h ≤ len) (hcap : len ≤ cap) :
    (Instr.sliceBounds b len cap (lo.map a.eval) (hi.map a.eval) none).run P w = .ok (l, h, cap) w := by
  unfold Instr.sliceBounds
  cases hi <;> cases hi' <;> simp only [chkO, Bool.false_eq_true] at hhi <;> cases lo <;> cases lo' <;> simp only [chkO, Bool.false_eq_true] at hlo <;> simp only [boundOf, Option.some.injEq] at h1 h2
  · subst h1; subst h2
    simp
  · subst h2
    simp only [Option.map_none, Option.map_some, Sem.run_bind, Sem.run_pure, Result.andThen_ok, Option.isSome_none, Bool.false_eq_true, if_false]
    rw [run_bound hf hlo h1 hlh]; rfl
  · subst h1
    simp only [Option.map_none, Option.map_some, Sem.run_bind, Sem.run_pure, Result.andThen_ok]
    rw [run_bound hf hhi h2 (by omega)]; rfl
  · simp only [Option.map_some, Sem.run_bind, Sem.run_pure, Result.andThen_ok, Option.isSome_none, Bool.false_eq_true, if_false]
    rw [run_bound hf hhi h2 (by omega)]
    simp only [Result.andThen_ok]
    rw [run_bound hf hlo h1 hlh]; rfl
theorem run_piece {t : TypeId} {x : Operand} {lo hi' mx : Option Operand} {ty : TypeDesc} {v : Value} (ho : o.op = .slice t x lo hi' mx) (hu : P.underlying t = some ty) (hty : ∀ n e, ty ≠ .array n e)
    (h : (Instr.slice t (a.eval x) (lo.map a.eval) (hi'.map a.eval) (mx.map a.eval)).run P w = .ok v w) : (execOp a.eval o).run P w = .ok (.value v) w := by
  have h2 : (Instr.sliceAt t (a.eval x) (lo.map a.eval) (hi'.map a.eval) (mx.map a.eval)).run P w = .ok v w := by
    simp only [Instr.sliceAt, Sem.run_bind, run_underlying hu, Result.andThen_ok]
    cases ty <;> first | exact h | exact absurd rfl (hty _ _)
  simp only [execOp, ho, Sem.run_bind, h2, Result.andThen_ok, Sem.run_pure]

theorem run_sliceStr (hi : SInv w K) (hf : FRel w K a.tmps fr) {t : TypeId} {x : Operand} {lo hi' : Option Operand} {x' : Opd} {lo' hi2 : Option Opd} (ho : o.op = .slice t x lo hi' none) (hu : P.underlying t = some .string) (hx : chkX x x' = true)
    (hlo : chkO lo lo' = true) (hhi : chkO hi' hi2 = true) {s : List UInt8} {l h : Nat} (h0 : x'.ev fr = .p (.str s)) (h1 : boundOf fr 0 lo' = some l) (h2 : boundOf fr s.length hi2 = some h) (hlh : l ≤ h) (hlen : h ≤ s.length) :
    Runs P o a w K st (.p (.str ((s.drop l).take (h - l)))) K.σ := by
  have hr := chkX_rep hx hf
  rw [h0] at hr
  obtain ⟨b, hv, rfl⟩ := hr.str_inv
  have hb : b.size = b.data.toList.length := by rw [size_data]
  rw [← hb] at h2 hlen
  have hbd := run_bounds (P := P) (w := w) (b := false) hf hlo hhi h1 h2 hlh hlen (Nat.le_refl b.size)
  refine .same hi (v := .string (b.extract l h)) (run_piece ho hu (fun _ _ => by simp) ?_) (.p _ _ (.str _ _ ?_))
  · simp only [Instr.slice, Sem.run_bind, run_underlying hu, Result.andThen_ok, hv, Option.map_none, Option.isSome_none, Bool.false_eq_true, if_false, hbd, Sem.run_pure]
  · simp [ByteArray.data_extract, List.extract_eq_take_drop]

theorem run_slice_cells (hf : FRel w K a.tmps fr) {t e : TypeId} {n : Nat} {x : Operand} {lo hi' : Option Operand} {lo' hi2 : Option Opd} (ho : o.op = .slice t x lo hi' none) (hu : P.underlying t = some (.slice e)) (hn : (P.info? e).map (·.size) = some n)
    (hlo : chkO lo lo' = true) (hhi : chkO hi' hi2 = true) {ad : Option Addr} {len cap l h : Nat} (hv : a.eval x = .slice ad len cap) (h1 : boundOf fr 0 lo' = some l) (h2 : boundOf fr len hi2 = some h) (hlh : l ≤ h) (hlen : h ≤ len) (hcap : len ≤ cap) :
    (execOp a.eval o).run P w = .ok (.value (.slice (if cap = l then ad else ad.map (·.add (l * n))) (h - l) (cap - l))) w := by
  have hbd := run_bounds (P := P) (w := w) (b := true) hf hlo hhi h1 h2 hlh hlen hcap
  refine run_piece ho hu (fun _ _ => by simp) ?_
  simp only [Instr.slice, Sem.run_bind, run_underlying hu, Result.andThen_ok, hv, Option.map_none, hbd, run_size hn, Sem.run_pure]

theorem run_sliceEmp (hi : SInv w K) (hf : FRel w K a.tmps fr) {t e : TypeId} {n : Nat} {x : Operand} {lo hi' : Option Operand} {x' : Opd} {lo' hi2 : Option Opd} (ho : o.op = .slice t x lo hi' none) (hu : P.underlying t = some (.slice e)) (hn : (P.info? e).map (·.size) = some n) (hx : chkX x x' = true)
    (hlo : chkO lo lo' = true) (hhi : chkO hi' hi2 = true) (h0 : x'.ev fr = .p .nilsl ∨ x'.ev fr = .p .emp) (h1 : boundOf fr 0 lo' = some 0) (h2 : boundOf fr 0 hi2 = some 0) :
    Runs P o a w K st (x'.ev fr) K.σ := by
  have hr := chkX_rep hx hf
  have hv : ∃ ad, a.eval x = .slice ad 0 0 := by
    generalize a.eval x = v at hr
    rcases h0 with h | h <;> rw [h] at hr <;> cases hr with
    | p _ _ hp => cases hp; exact ⟨_, rfl⟩
  obtain ⟨ad, hv⟩ := hv
  refine .same hi (v := a.eval x) ?_ hr
  rw [run_slice_cells hf ho hu hn hlo hhi hv h1 h2 (Nat.le_refl 0) (Nat.le_refl 0) (Nat.le_refl 0), hv]
  simp

/-- A piece of pure rows. -/
theorem rep_piece {v : Value} {rows : List (List PV)} {s l h : Nat} (hr : RepP w K.im v (.sl rows)) (hall : ∀ r ∈ rows, r.length = s) (hlh : l ≤ h) (hlen : h ≤ rows.length) :
    ∃ ad len cap, v = .slice ad len cap ∧ len = rows.length ∧ len ≤ cap ∧ RepP w K.im (.slice (if cap = l then ad else ad.map (·.add (l * s))) (h - l) (cap - l)) (.sl ((rows.drop l).take (h - l))) := by
  have hlen2 : ((rows.drop l).take (h - l)).length = h - l := by simp; omega
  have some_add : ∀ (ad : Addr) (c : Prop) [Decidable c] (k : Nat), ∃ ad', (if c then some ad else (some ad).map (·.add k)) = some ad' := fun ad c _ k => by
    by_cases hc : c <;> simp [hc]
  cases hr with
  | sl0 ad c =>
    have h0 : h = 0 := by simpa using hlen
    subst h0
    have hl0 : l = 0 := by omega
    subst hl0
    refine ⟨some ad, 0, c, rfl, rfl, Nat.zero_le _, ?_⟩
    simp only [List.drop_nil, List.take_nil, Nat.sub_zero, Nat.zero_mul]
    obtain ⟨ad', e⟩ := some_add ad (c = 0) 0
    rw [e]
    exact .sl0 _ _
  | sl b q c s' _ f hs hc ho hp hcap =>
    refine ⟨_, _, c, rfl, rfl, hcap, ?_⟩
    by_cases hz : h - l = 0
    · obtain ⟨ad', e⟩ := some_add ⟨b, q, none⟩ (c = l) (l * s)
      rw [hz, e]
      simp only [List.take_zero]
      exact .sl0 _ _
    · have hss : s' = s := by
        have hm := List.getElem_mem (show 0 < rows.length by omega)
        rw [← hs _ hm, hall _ hm]
      subst hss
      have hne : ¬ c = l := by omega
      rw [if_neg hne, Option.map_some, add_off]
      have hg : ∀ i, i < h - l → ((rows.drop l).take (h - l)).getD i [] = rows.getD (l + i) [] := fun i hi' => by
        simp [List.getD, hi', List.getElem?_drop]
      have key := RepP.sl (w := w) (I := K.im) b (q + l * s') (c - l) s' ((rows.drop l).take (h - l)) (fun i j => f (l + i) j)
        (fun r hr => hs r (List.mem_of_mem_drop (List.mem_of_mem_take hr)))
        (fun i j hi' hj => by
          rw [hlen2] at hi'
          have := hc (l + i) j (by omega) hj
          rwa [Nat.add_mul, ← Nat.add_assoc] at this)
        (fun i j hi' hj => ho (l + i) j (by rw [hlen2] at hi'; omega) hj)
        (fun i j hi' hj => by
          rw [hlen2] at hi'
          rw [hg i hi']
          exact hp (l + i) j (by omega) hj)
        (by rw [hlen2]; omega)
      rwa [hlen2] at key

theorem run_sliceSl (hi : SInv w K) (hf : FRel w K a.tmps fr) {t e : TypeId} {s : Nat} {x : Operand} {lo hi' : Option Operand} {x' : Opd} {lo' hi2 : Option Opd} (ho : o.op = .slice t x lo hi' none) (hu : P.underlying t = some (.slice e)) (hn : (P.info? e).map (·.size) = some s) (hx : chkX x x' = true)
    (hlo : chkO lo lo' = true) (hhi : chkO hi' hi2 = true) {rows : List (List PV)} {l h : Nat} (h0 : x'.ev fr = .p (.sl rows) ∨ ∃ r, x'.ev fr = .lin rows r) (h1 : boundOf fr 0 lo' = some l) (h2 : boundOf fr rows.length hi2 = some h) (hlh : l ≤ h) (hlen : h ≤ rows.length) (hall : allLen s rows = true) :
    Runs P o a w K st (.p (.sl ((rows.drop l).take (h - l)))) K.σ := by
  have hr := chkX_rep hx hf
  have hp : RepP w K.im (a.eval x) (.sl rows) := by
    generalize a.eval x = v at hr
    rcases h0 with h | ⟨r, h⟩ <;> rw [h] at hr
    · cases hr with | p _ _ hp => exact hp
    · cases hr with | lin _ _ _ hp => exact hp
  obtain ⟨ad, len, cap, hv, rfl, hcap, hrep⟩ := rep_piece (h := h) (l := l) hp (allLen_spec hall) hlh hlen
  exact .same hi (run_slice_cells hf ho hu hn hlo hhi hv h1 h2 hlh hlen hcap) (.p _ _ hrep)

theorem run_sliceOwn (hi : SInv w K) (hf : FRel w K a.tmps fr) {t e : TypeId} {s : Nat} {x : Operand} {lo hi' : Option Operand} {x' : Opd} {lo' hi2 : Option Opd} (ho : o.op = .slice t x lo hi' none) (hu : P.underlying t = some (.slice e)) (hn : (P.info? e).map (·.size) = some s) (hx : chkX x x' = true)
    (hlo : chkO lo lo' = true) (hhi : chkO hi' hi2 = true) {r : Ref} {off len l h : Nat} (h0 : x'.ev fr = .own r off len) (h1 : boundOf fr 0 lo' = some l) (h2 : boundOf fr len hi2 = some h) (hlh : l ≤ h) (hlen : h ≤ len)
    {ro : Objs} (hro : ∀ r o, ro.get r = some o → K.σ.obj.get r = some o) {rows : List (List DV)} {mu : Bool} (hg : ro.get r = some (.arr s rows mu)) :
    Runs P o a w K st (.own r (off + l) (h - l)) K.σ := by
  have hr := chkX_rep hx hf
  rw [h0] at hr
  generalize hv : a.eval x = v at hr
  cases hr with
  | own ad cap _ _ _ hus hcap hr =>
    have hrun := run_slice_cells (P := P) hf ho hu hn hlo hhi hv h1 h2 hlh hlen hcap
    obtain ⟨ad', e⟩ : ∃ ad', (if cap = l then some ad else (some ad).map (·.add (l * s))) = some ad' := by
      by_cases hc : cap = l <;> simp [hc]
    rw [e] at hrun
    refine .same hi hrun (.own _ _ _ _ _ hus (by omega) (fun sz rws mu' hgg => ?_))
    rw [hro _ _ hg] at hgg
    cases hgg
    obtain ⟨g1, g2, b, g3, g4⟩ := hr _ _ _ (hro _ _ hg)
    refine ⟨by omega, fun hz => ?_, b, g3, fun hpos => ?_⟩
    · have : off = 0 := by omega
      have := g2 this
      omega
    · have g5 := g4 (by omega)
      subst g5
      have hne : ¬ cap = l := by omega
      rw [if_neg hne, Option.map_some, add_off, Option.some.injEq] at e
      rw [← e, Nat.add_mul]
end
end Go.Ev
