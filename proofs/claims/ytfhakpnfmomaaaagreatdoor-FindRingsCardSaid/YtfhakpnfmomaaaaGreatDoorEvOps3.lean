/- A part of an evaluator of closed runs, and of the proof that what it answers holds of the model. No conditions. -/
import Derived.Test.YtfhakpnfmomaaaaGreatDoorEvOps2
namespace Go.Ev
open Go
section
variable {P : Program} {o : Oper} {a : Act} {w : World} {K : Ctx} {fr : Frame} {st : Nat}

theorem used_new {x st n : Nat} {U : Nat → Prop} (hn : 0 < n) (h : x = st ∨ U x) : U x ∨ (st ≤ x ∧ x < st + n) := by
  rcases h with rfl | h
  · exact .inr ⟨Nat.le_refl _, by omega⟩
  · exact .inl h

theorem cell_heap {b i : Nat} {cs : Array Value} {e : TypeId} {f : Nat × Nat} (h : w.heap[b]? = some (.cells cs e f)) (hi : i < cs.size) : w.cell? ⟨b, i, none⟩ = some (cs.getD i undef) := by
  simp [World.cell?, h, Array.getD, hi]

/-- A new row of pure rows, with what right there is to it. -/
theorem new_rows (hi : SInv w K) (hold : Old w K) (F site s : Nat) (hst : ¬ K.used st) (t : TypeId) (rows : List (List PV)) (cap : Nat) (hcap : rows.length ≤ cap) (cs : Array Value) (hsz : cs.size = cap * s) (hl : ∀ r ∈ rows, r.length = s)
    (w1 : World) (hw1 : w1.heap = w.heap.push (.cells cs t)) (hos : w1.os = w.os) (hta : w1.tape = w.tape) (hou : w1.output = w.output)
    (hr : ∀ i j, i < rows.length → j < s → RepP w K.im (cs.getD (i * s + j) undef) ((rows.getD i []).getD j .nilp)) (hone : ∀ i j, i < rows.length → j < s → (cs.getD (i * s + j) undef).oneCell' = true) :
    ∃ K', Ext w K w1 K' ∧ SInv w1 K' ∧ K'.σ = K.σ.putTok F site (some (st, s, rows.length)) ∧
      RepD w1 K' (.slice (some ⟨w.heap.size, 0, none⟩) rows.length cap) (.lin rows ⟨F, site, st⟩) ∧ (∀ x, K'.used x → K.used x ∨ (st ≤ x ∧ x < st + 16)) := by
  have hheap : w1.heap[w.heap.size]? = some (.cells cs t (0, 0)) := by rw [hw1]; simp
  have hold' : ∀ k, k < w.heap.size → w1.heap[k]? = w.heap[k]? := fun k hk => by rw [hw1, Array.getElem?_push, if_neg (by omega)]
  obtain ⟨e1, e2⟩ := new_tok (w1 := w1) hi hold F site st s rows.length cap hst (some w.heap.size) (by rw [hw1]; simp) hos hta hou hold'
    (.inr ⟨w.heap.size, cs, t, rfl, Nat.le_refl _, hheap, hsz, hcap⟩)
  refine ⟨_, e1, e2, rfl, ?_, fun x h => used_new (by omega) h⟩
  have hM : ∀ i j, i < rows.length → j < s → ¬ (K.newTok F site st s rows.length (some w.heap.size) cap).M w.heap.size (i * s + j) := by
    rintro i j hi' hj (⟨f', s', st', sz', rows', h1, h2⟩ | ⟨f', s', st', sz', n', h1, h2, h3⟩ | h1)
    · have hu := (hi.obj _ _ _ _ h1).1
      have hne : st' ≠ st := fun e => hst (e ▸ hu)
      simp only [Ctx.newTok, hne, if_false] at h2
      have := hi.live_lt (.inl ⟨_, _, _, h1⟩) h2
      omega
    · rcases put_tok h1 with ⟨_, _, h⟩ | ⟨_, h⟩
      · simp only [Option.some.injEq, Prod.mk.injEq] at h
        obtain ⟨_, rfl, rfl⟩ := h
        have : (i + 1) * s ≤ rows.length * s := Nat.mul_le_mul_right _ hi'
        rw [Nat.add_mul] at this
        omega
      · have hu := (hi.tok _ _ _ _ _ h).1
        have hne : st' ≠ st := fun e => hst (e ▸ hu)
        simp only [Ctx.newTok, hne, if_false] at h2
        have := hi.live_lt (.inr ⟨_, _, _, _, h⟩) h2
        omega
    · have := hold.X _ _ h1
      omega
  refine .lin _ _ _ ?_ (.inl rfl) (fun sz' n h => ?_)
  · by_cases h0 : rows.length = 0
    · have : rows = [] := List.eq_nil_of_length_eq_zero h0
      subst this
      exact .sl0 _ _
    · refine .sl w.heap.size 0 cap s rows (fun i j => cs.getD (i * s + j) undef) hl (fun i j hi' hj => ⟨?_, ?_⟩) hone (fun i j hi' hj => (hr i j hi' hj).keep e1.keep) hcap
      · rw [Nat.zero_add]
        refine cell_heap hheap ?_
        have : (i + 1) * s ≤ cap * s := Nat.mul_le_mul_right _ (by omega)
        rw [Nat.add_mul] at this
        omega
      · rw [Nat.zero_add]
        exact hM i j hi' hj
  · rw [right_spec] at h
    rcases put_tok h with ⟨_, _, h⟩ | ⟨hn, _⟩
    · simp only [Option.some.injEq, Prod.mk.injEq] at h
      obtain ⟨_, rfl, rfl⟩ := h
      exact ⟨Nat.le_refl _, hl, fun _ => .inr ⟨w.heap.size, by simp [Ctx.newTok], by simp [Ctx.newTok]⟩⟩
    · exact absurd ⟨rfl, rfl⟩ hn

/-- What is appended, as cells. -/
theorem asPs_spec : ∀ {ds : List DV} {ps : List PV}, asPs ds = some ps → ds.length = ps.length ∧ ∀ (w : World) (K : Ctx) i, i < ps.length → ∀ v, RepD w K v (ds.getD i .undef) → RepP w K.im v (ps.getD i .nilp)
  | [], _, h => by cases h; exact ⟨rfl, fun _ _ i hi => absurd hi (by simp)⟩
  | d :: ds, ps, h => by
    unfold asPs at h
    split at h
    · obtain ⟨qs, h1, rfl⟩ := Option.map_eq_some_iff.1 h
      obtain ⟨e1, e2⟩ := asPs_spec h1
      refine ⟨by simp [e1], fun w K i hi v hv => ?_⟩
      cases i with
      | zero => simp only [List.getD_cons_zero] at hv ⊢; cases hv with | p _ _ h => exact h
      | succ i => simp only [List.getD_cons_succ] at hv ⊢; exact e2 w K i (by simpa using hi) v hv
    · obtain ⟨qs, h1, rfl⟩ := Option.map_eq_some_iff.1 h
      obtain ⟨e1, e2⟩ := asPs_spec h1
      refine ⟨by simp [e1], fun w K i hi v hv => ?_⟩
      cases i with
      | zero => simp only [List.getD_cons_zero] at hv ⊢; cases hv with | lin _ _ _ h => exact h
      | succ i => simp only [List.getD_cons_succ] at hv ⊢; exact e2 w K i (by simpa using hi) v hv
    · cases h
theorem asRows_spec : ∀ {ds : List (List DV)} {ps : List (List PV)}, asRows ds = some ps → ds.length = ps.length ∧ ∀ i, i < ps.length → asPs (ds.getD i []) = some (ps.getD i [])
  | [], _, h => by cases h; exact ⟨rfl, fun i hi => absurd hi (by simp)⟩
  | d :: ds, ps, h => by
    unfold asRows at h
    split at h
    · rename_i r hr
      obtain ⟨qs, h1, rfl⟩ := Option.map_eq_some_iff.1 h
      obtain ⟨e1, e2⟩ := asRows_spec h1
      refine ⟨by simp [e1], fun i hi => ?_⟩
      cases i with
      | zero => simpa using hr
      | succ i => simpa using e2 i (by simpa using hi)
    · cases h
theorem allLen_spec {s : Nat} {rows : List (List PV)} (h : allLen s rows = true) : ∀ r ∈ rows, r.length = s := fun r hr => by
  have := List.all_eq_true.1 h r hr
  simpa using this

theorem repP_one {I : Im} {v : Value} {p : PV} (h : RepP w I v p) (hp : ∀ cs, p ≠ .agg cs) : v.oneCell' = true := by
  cases h <;> first | rfl | exact absurd rfl (hp _)

def Src (P : Program) (w : World) (K : Ctx) (s : Nat) (v : Value) (rows : List (List PV)) : Prop :=
  (∀ r ∈ rows, r.length = s) ∧ ∃ cs : Array Value, cs.size = rows.length * s ∧ (∀ w1, (Builtin.lenOf v).run P w1 = .ok rows.length w1) ∧ (∀ w1, w1.heap = w.heap → (Builtin.firstCells s rows.length v).run P w1 = .ok cs w1) ∧
    ∀ i j, i < rows.length → j < s → RepP w K.im (cs.getD (i * s + j) undef) ((rows.getD i []).getD j .nilp) ∧ (cs.getD (i * s + j) undef).oneCell' = true

/-- The cells of rows laid one behind the other. -/
theorem firstCells_at {b q n s : Nat} (f : Nat → Value) (hc : ∀ j, j < n * s → w.cell? ⟨b, q + j, none⟩ = some (f j)) (len cap : Nat) (w1 : World) (hw : w1.heap = w.heap) :
    (Builtin.firstCells s n (.slice (some ⟨b, q, none⟩) len cap)).run P w1 = .ok ((List.range (n * s)).map f).toArray w1 := by
  have := run_loadCells (P := P) w1 ⟨b, q, none⟩ (n * s) f (fun j hj => by rw [add_off, ← hc j hj]; simp [World.cell?, hw])
  simpa [Builtin.firstCells] using this
theorem firstCells_zero (s len cap : Nat) (a : Option Addr) (w1 : World) : (Builtin.firstCells s 0 (.slice a len cap)).run P w1 = .ok #[] w1 := by
  cases a with
  | none => simp [Builtin.firstCells]
  | some a => simp [Builtin.firstCells, loadCells, loadCellsFrom]

theorem div_lt {j n s : Nat} (h : j < n * s) : j / s < n := Nat.div_lt_of_lt_mul (by rwa [Nat.mul_comm] at h)
theorem mod_lt' {j n s : Nat} (h : j < n * s) : j % s < s := Nat.mod_lt _ (by
  rcases Nat.eq_zero_or_pos s with h0 | h0
  · subst h0; simp at h
  · exact h0)
theorem div_mod (j s : Nat) : j / s * s + j % s = j := Nat.div_add_mod' j s
theorem row_lt {i j n s : Nat} (hi : i < n) (hj : j < s) : i * s + j < n * s := by
  have : (i + 1) * s ≤ n * s := Nat.mul_le_mul_right _ hi
  rw [Nat.add_mul] at this
  omega
theorem row_div {i j s : Nat} (hj : j < s) : (i * s + j) / s = i := by
  rw [Nat.mul_comm, Nat.mul_add_div (by omega), Nat.div_eq_of_lt hj, Nat.add_zero]
theorem row_mod {i j s : Nat} (hj : j < s) : (i * s + j) % s = j := by
  rw [Nat.mul_comm, Nat.mul_add_mod, Nat.mod_eq_of_lt hj]

theorem src_sl {v : Value} {rows : List (List PV)} {s : Nat} (h : RepP w K.im v (.sl rows)) (hl : ∀ r ∈ rows, r.length = s) : Src P w K s v rows := by
  cases h with
  | sl0 a c =>
    exact ⟨hl, #[], by simp, by simp [Builtin.lenOf], fun w1 _ => firstCells_zero _ _ _ _ w1, fun i j hi => absurd hi (by simp)⟩
  | sl b q c s' _ g hs hc hone hp hcap =>
    by_cases h0 : rows.length = 0
    · have : rows = [] := List.eq_nil_of_length_eq_zero h0
      subst this
      exact ⟨hl, #[], by simp, by simp [Builtin.lenOf], fun w1 _ => firstCells_zero _ _ _ _ w1, fun i j hi => absurd hi (by simp)⟩
    · have hss : s' = s := by
        obtain ⟨r, hr⟩ := List.exists_mem_of_length_pos (by omega : 0 < rows.length)
        rw [← hs r hr, hl r hr]
      subst hss
      refine ⟨hl, _, ?_, by simp [Builtin.lenOf], firstCells_at (fun j => g (j / s') (j % s')) (fun j hj => ?_) _ _, fun i j hi hj => ?_⟩
      · simp
      · have := (hc (j / s') (j % s') (div_lt hj) (mod_lt' hj)).1
        rwa [Nat.add_assoc, div_mod] at this
      · have hlt := row_lt hi hj
        have e : ((List.range (rows.length * s')).map fun j => g (j / s') (j % s')).toArray.getD (i * s' + j) undef = g i j := by
          simp [Array.getD, hlt, row_div hj, row_mod hj]
        rw [e]
        exact ⟨hp i j hi hj, hone i j hi hj⟩

theorem src_of (hi : SInv w K) {v : Value} {d : DV} (hr : RepD w K v d) {ro : Objs} (hro : ∀ r o, ro.get r = some o → K.σ.obj.get r = some o) {s : Nat} {rows : List (List PV)} (hs : srcRows ro s d = some rows) : Src P w K s v rows := by
  unfold srcRows at hs
  split at hs
  · cases hs
    cases hr with
    | p _ _ h =>
      cases h with
      | nilsl =>
        exact ⟨by simp, #[], by simp, by simp [Builtin.lenOf], fun w1 _ => firstCells_zero _ _ _ _ w1, fun i j hi => absurd hi (by simp)⟩
  · cases hs
    cases hr with
    | p _ _ h =>
      cases h with
      | emp a =>
        exact ⟨by simp, #[], by simp, by simp [Builtin.lenOf], fun w1 _ => firstCells_zero _ _ _ _ w1, fun i j hi => absurd hi (by simp)⟩
  · split at hs
    · rename_i hall
      cases hs
      cases hr with | p _ _ h => exact src_sl h (allLen_spec hall)
    · cases hs
  · split at hs
    · rename_i hall
      cases hs
      cases hr with | lin _ _ _ h => exact src_sl h (allLen_spec hall)
    · cases hs
  · rename_i r off len
    split at hs
    · rename_i sz rws mu hg
      split at hs
      · rename_i hcond
        obtain ⟨rfl, hle⟩ := hcond
        have hsp := asRows_spec hs
        have hlen : rows.length = len := by
          have := hsp.1
          simp at this
          omega
        cases hr with
        | own ad cap _ _ _ hu hcap hr =>
          obtain ⟨_, _, b, hb, had⟩ := hr _ _ _ (hro _ _ hg)
          obtain ⟨_, b', cs, e, hb', hheap, hsz, hkap, hl, hrep⟩ := hi.obj _ _ _ _ (get_spec.1 (hro _ _ hg))
          rw [hb] at hb'; cases hb'
          have hrow : ∀ i, i < rows.length → asPs (rws.getD (off + i) []) = some (rows.getD i []) := by
            intro i hi'
            have h1 := hsp.2 i hi'
            have h2 : ((rws.drop off).take len).getD i [] = rws.getD (off + i) [] := by
              simp [List.getD, (by omega : i < len), List.getElem?_drop]
            rwa [h2] at h1
          have hlr : ∀ r ∈ rows, r.length = sz := by
            intro r hr'
            obtain ⟨i, hi', rfl⟩ := List.getElem_of_mem hr'
            have h1 := (asPs_spec (hrow i hi')).1
            have h2 : rws.getD (off + i) [] ∈ rws := by
              have h3 : off + i < rws.length := by omega
              rw [List.getD, List.getElem?_eq_getElem h3]
              exact List.getElem_mem h3
            have := hl _ h2
            rw [h1] at this
            simpa [List.getD, List.getElem?_eq_getElem hi'] using this
          by_cases h0 : len = 0
          · have : rows = [] := List.eq_nil_of_length_eq_zero (by omega)
            subst this
            exact ⟨hlr, #[], by simp, by simp [Builtin.lenOf, h0], fun w1 _ => firstCells_zero _ _ _ _ w1, fun i j hi => absurd hi (by simp)⟩
          · have had' := had (by omega)
            subst had'
            have hsize : (off + len) * sz ≤ K.κ r.st * sz := Nat.mul_le_mul_right _ (Nat.le_trans hle hkap)
            rw [Nat.add_mul] at hsize
            refine ⟨hlr, _, ?_, by simp [Builtin.lenOf, hlen], firstCells_at (fun j => cs.getD (off * sz + j) undef) (fun j hj => cell_heap hheap (by rw [hlen] at hj; omega)) _ _, fun i j hi' hj => ?_⟩
            · simp
            · have hlt := row_lt hi' hj
              have e1 : ((List.range (rows.length * sz)).map fun j => cs.getD (off * sz + j) undef).toArray.getD (i * sz + j) undef = cs.getD (off * sz + (i * sz + j)) undef := by
                simp [Array.getD, hlt]
              rw [e1, show off * sz + (i * sz + j) = (off + i) * sz + j by rw [Nat.add_mul]; omega]
              have h9 := hrep (off + i) j (by omega) hj
              have hjl : j < (rows.getD i []).length := by
                rw [List.getD, List.getElem?_eq_getElem hi']
                have := hlr _ (List.getElem_mem hi')
                simpa using (by omega : j < rows[i].length)
              exact ⟨(asPs_spec (hrow i hi')).2 _ _ j hjl _ h9.1, h9.2⟩
      · cases hs
    · cases hs
  · rename_i l
    split at hs
    · rename_i h1
      subst h1
      cases hs
      obtain ⟨b, rfl, rfl⟩ := hr.str_inv
      have hsz : (b.data.toList.map fun c : UInt8 => [PV.int .u8 c.toNat]).length = b.size := by rw [size_data]; simp
      refine ⟨by simp, b.data.map fun c => .int .u8 c.toNat, ?_, ?_, ?_, fun i j hi' hj => ?_⟩
      · rw [hsz]; simp
      · rw [hsz]; simp [Builtin.lenOf]
      · rw [hsz]; simp [Builtin.firstCells]
      · have : j = 0 := by omega
        subst this
        have hi2 : i < b.size := by rw [size_data]; simpa using hi'
        have hi3 : i < b.data.size := hi2
        have e1 : (b.data.map fun c => Value.int .u8 c.toNat).getD (i * 1 + 0) undef = .int .u8 b.data[i].toNat := by simp [Array.getD, hi2]
        have e2 : ((b.data.toList.map fun c : UInt8 => [PV.int .u8 c.toNat]).getD i []).getD 0 .nilp = .int .u8 b.data[i].toNat := by
          have h4 : (b.data.toList.map fun c : UInt8 => [PV.int .u8 c.toNat])[i]? = some [.int .u8 b.data[i].toNat] := by
            rw [List.getElem?_map, Array.getElem?_toList, Array.getElem?_eq_getElem hi3]; rfl
          have h5 : (b.data.toList.map fun c : UInt8 => [PV.int .u8 c.toNat]).getD i [] = [.int .u8 b.data[i].toNat] := by
            unfold List.getD; rw [h4]; rfl
          rw [h5]; rfl
        rw [e1, e2]
        exact ⟨.int _ _, rfl⟩
    · cases hs
  · cases hs
/-- A slice to which there is a right, as it stands behind a turn. -/
theorem lin_rep {w1 : World} {K1 : Ctx} (hi1 : SInv w1 K1) (r : Ref) (s b cap : Nat) (cs : Array Value) (e : TypeId) (rows : List (List PV)) (hright : K1.σ.right r = some (s, rows.length)) (hι : K1.ι r.st = some b) (hκ : K1.κ r.st = cap)
    (hheap : w1.heap[b]? = some (.cells cs e (0, 0))) (hsz : cs.size = cap * s) (hcap : rows.length ≤ cap) (hl : ∀ r ∈ rows, r.length = s)
    (hr : ∀ i j, i < rows.length → j < s → RepP w1 K1.im (cs.getD (i * s + j) undef) ((rows.getD i []).getD j .nilp) ∧ (cs.getD (i * s + j) undef).oneCell' = true) : RepD w1 K1 (.slice (some ⟨b, 0, none⟩) rows.length cap) (.lin rows r) := by
  have hat := right_spec.1 hright
  have hlive : Live K1 r.st := .inr ⟨_, _, _, _, hat⟩
  refine .lin _ _ _ ?_ (hi1.tok _ _ _ _ _ hat).1 (fun sz' n h => ?_)
  · by_cases h0 : rows.length = 0
    · have : rows = [] := List.eq_nil_of_length_eq_zero h0
      subst this
      exact .sl0 _ _
    · refine .sl b 0 cap s rows (fun i j => cs.getD (i * s + j) undef) hl (fun i j hi' hj => ⟨?_, ?_⟩) (fun i j hi' hj => (hr i j hi' hj).2) (fun i j hi' hj => (hr i j hi' hj).1) hcap
      · rw [Nat.zero_add]
        exact cell_heap hheap (by rw [hsz]; exact row_lt (by omega) hj)
      · rw [Nat.zero_add]
        rintro (⟨f', s', st', sz', rows', h1, h2⟩ | ⟨f', s', st', sz', n', h1, h2, h3⟩ | h1)
        · have := hi1.inj _ _ _ (.inl ⟨_, _, _, h1⟩) hlive h2 hι
          subst this
          exact hi1.ot _ _ _ _ _ _ _ h1 hat
        · have := hi1.inj _ _ _ (.inr ⟨_, _, _, _, h1⟩) hlive h2 hι
          subst this
          obtain ⟨e1, e2⟩ := hi1.tt _ _ _ _ _ _ _ h1 hat
          rw [e1, e2, hat] at h1
          simp only [Option.some.injEq, Prod.mk.injEq, true_and] at h1
          obtain ⟨rfl, rfl⟩ := h1
          have := row_lt hi' hj
          omega
        · exact (hi1.X _ _ (i * s + j) hlive hι).1 h1
  · rw [hright] at h
    cases h
    exact ⟨Nat.le_refl _, hl, fun _ => .inr ⟨b, hι, by rw [hκ]⟩⟩

/-! ### append -/
theorem rep_sl_inv {w : World} {I : Im} {v : Value} {rows : List (List PV)} (h : RepP w I v (.sl rows)) (hne : rows ≠ []) :
    ∃ b o c s : Nat, ∃ f : Nat → Nat → Value, (∀ r ∈ rows, r.length = s) ∧
      (∀ i j, i < rows.length → j < s → w.cell? ⟨b, o + i * s + j, none⟩ = some (f i j) ∧ ¬ I.M b (o + i * s + j)) ∧
      (∀ i j, i < rows.length → j < s → (f i j).oneCell' = true) ∧
      (∀ i j, i < rows.length → j < s → RepP w I (f i j) ((rows.getD i []).getD j .nilp)) ∧ rows.length ≤ c ∧ v = .slice (some ⟨b, o, none⟩) rows.length c := by
  cases h with
  | sl0 => exact absurd rfl hne
  | sl b o c s _ f h1 h2 h3 h4 h5 => exact ⟨b, o, c, s, f, h1, h2, h3, h4, h5, rfl⟩
theorem storeCells_nil (P : Program) (a : Addr) (w : World) : (storeCells a []).run P w = .ok () w := rfl
theorem run_append (hi : SInv w K) (hold : Old w K) (hf : FRel w K a.tmps fr) (F site s : Nat) (dyn : Bool) (_ : List Nat) (hst : ¬ K.used st) {c : Call} {x y : Operand} {x' y' : Opd} {t t2 e : TypeId} {z : Value} {bytes : Nat} {ty2 : TypeDesc}
    (ho : o.op = .call c) (hc : c.callee = .builtin .append) (ha : c.args = #[x, y]) (hat : c.argTypes = #[t, t2]) (hu : P.underlying t = some (.slice e)) (hu2 : P.underlying t2 = some ty2) (hni : ∀ k, ty2 ≠ .int k)
    (hinfo : (P.info? e).map (fun i => (i.size, i.bytes, i.zero)) = some (s, bytes, some z)) (hz : z.cells.size = s) (hby : bytes ≤ 32768) (hby0 : 0 < bytes)
    (hx : chkX x x' = true) (hy : chkX y y' = true) {ro : Objs} (hro : ∀ r o, ro.get r = some o → K.σ.obj.get r = some o) {ys : List (List PV)} (hys : srcRows ro s (y'.ev fr) = some ys) (hne : ys ≠ []) {d : DV} {σ' : Store}
    (hd : (∃ rows r, x'.ev fr = .lin rows r ∧ K.σ.right r = some (s, rows.length) ∧ rows.length + ys.length ≤ 4294967296 ∧ d = .lin (rows ++ ys) r ∧ σ' = K.σ.putTok r.f r.s (some (r.st, s, rows.length + ys.length))) ∨
      ((x'.ev fr = .p .nilsl ∨ x'.ev fr = .p .emp) ∧ ys.length ≤ 4294967296 ∧ d = .lin ys ⟨F, dynSite dyn site st, st⟩ ∧ σ' = K.σ.putTok F (dynSite dyn site st) (some (st, s, ys.length)))) : Runs P o a w K st d σ' := by
  have hrx := chkX_rep hx hf
  have hy00 : ys.length ≠ 0 := fun h => hne (List.eq_nil_of_length_eq_zero h)
  obtain ⟨hyl, cs, hcs, hlen, hfirst, hrep⟩ := src_of (P := P) hi (chkX_rep hy hf) hro hys
  obtain ⟨info, hi1, hi2⟩ := Option.map_eq_some_iff.1 hinfo
  simp only [Prod.mk.injEq] at hi2
  obtain ⟨hisz, hiby, hizero⟩ := hi2
  have hone : ∀ v ∈ cs.toList, v.oneCell' = true := by
    intro v hv
    obtain ⟨k, hk, rfl⟩ := List.getElem_of_mem hv
    have hk1 : k < cs.size := by simpa using hk
    have hk' : k < ys.length * s := by rw [← hcs]; exact hk1
    have h1 := (hrep (k / s) (k % s) (div_lt hk') (mod_lt' hk')).2
    rw [div_mod] at h1
    simpa [Array.getD, hk1] using h1
  have hmul : ∀ n, n ≤ 4294967296 → n * bytes ≤ 140737488355328 := fun n hn => Nat.le_trans (Nat.mul_le_mul hn hby) (by decide)
  -- the run, where it grows
  have grow : ∀ (n cap : Nat) (ad : Option Addr) (old : Array Value), a.eval x = .slice ad n cap → n ≤ cap → cap < n + ys.length → n + ys.length ≤ 4294967296 →
      (Builtin.firstCells s n (.slice ad n cap)).run P w.drew = .ok old w.drew → ∃ newCap, n + ys.length ≤ newCap ∧
      (execOp a.eval o).run P w = .ok (.value (.slice (some ⟨w.heap.size, 0, none⟩) (n + ys.length) newCap)) (w.drew.alloc (.cells (old ++ cs ++ Builtin.zeroCells z.cells (newCap - (n + ys.length))) e)) := by
    intro n cap ad old hv hle hlt hsm hold'
    refine ⟨grownCap w (n + ys.length) cap e, grownCap_ge _ _ _ _, ?_⟩
    have hf2 := hfirst w.drew rfl
    have hn : ¬ n + ys.length ≤ cap := by omega
    have h63 : ¬ (9223372036854775807 < (n : Int) + (ys.length : Int)) := by omega
    have hb0 : info.bytes ≠ 0 := by omega
    have h48 : ¬ Builtin.nextslicecap (n + ys.length) cap * info.bytes > 281474976710656 := by
      have := growslice_fits (need := n + ys.length) (old := cap) (bytes := bytes) (by omega) (hmul _ hsm)
      rw [hiby]; omega
    have hz2 : (match ty2 with | .int _ => true | _ => false) = false := by
      cases ty2 <;> first | rfl | exact absurd rfl (hni _)
    simp [execOp, ho, resolve, hc, ha, hat, invoke, builtin, Builtin.append_, run_underlying hu, run_underlying hu2, sizeOf, typeInfo, zeroValue, hi1, hisz, hizero, hv, hlen, hn, h63, hb0, h48, Question.forced, hold', hf2, newRow, grownCap]
  -- the new block, as rows
  have lay : ∀ (rows : List (List PV)) (old : Array Value) (newCap : Nat), old.size = rows.length * s → rows.length + ys.length ≤ newCap →
      (∀ r ∈ rows, r.length = s) → (∀ i j, i < rows.length → j < s → RepP w K.im (old.getD (i * s + j) undef) ((rows.getD i []).getD j .nilp) ∧ (old.getD (i * s + j) undef).oneCell' = true) →
      (old ++ cs ++ Builtin.zeroCells z.cells (newCap - (rows.length + ys.length))).size = newCap * s ∧ (∀ r ∈ rows ++ ys, r.length = s) ∧
      ∀ i j, i < (rows ++ ys).length → j < s → RepP w K.im ((old ++ cs ++ Builtin.zeroCells z.cells (newCap - (rows.length + ys.length))).getD (i * s + j) undef) (((rows ++ ys).getD i []).getD j .nilp) ∧
        ((old ++ cs ++ Builtin.zeroCells z.cells (newCap - (rows.length + ys.length))).getD (i * s + j) undef).oneCell' = true := by
    intro rows old newCap h1 h2 h3 h4
    refine ⟨?_, ?_, ?_⟩
    · simp only [Array.size_append, size_zeroCells, hz, h1, hcs, ← Nat.add_mul]
      congr 1
      omega
    · intro r hr
      rcases List.mem_append.1 hr with hr | hr
      · exact h3 r hr
      · exact hyl r hr
    · intro i j hi' hj
      rw [List.length_append] at hi'
      generalize Builtin.zeroCells z.cells (newCap - (rows.length + ys.length)) = zs
      by_cases hir : i < rows.length
      · have hlt := row_lt hir hj
        have e1 : (old ++ cs ++ zs).getD (i * s + j) undef = old.getD (i * s + j) undef := by
          rw [getD_toList, getD_toList]
          simp only [Array.toList_append, List.getD]
          rw [List.append_assoc, List.getElem?_append_left (by simpa [h1] using hlt)]
        have e2 : (rows ++ ys).getD i [] = rows.getD i [] := by simp [List.getD, List.getElem?_append_left hir]
        rw [e1, e2]
        exact h4 i j hir hj
      · have hiy : i - rows.length < ys.length := by omega
        have hlt := row_lt hiy hj
        have hge : rows.length * s ≤ i * s := Nat.mul_le_mul_right _ (by omega)
        have hsub : i * s + j - rows.length * s = (i - rows.length) * s + j := by rw [Nat.sub_mul]; omega
        have e1 : (old ++ cs ++ zs).getD (i * s + j) undef = cs.getD ((i - rows.length) * s + j) undef := by
          rw [getD_toList, getD_toList]
          simp only [Array.toList_append, List.getD]
          rw [List.append_assoc, List.getElem?_append_right (by simp [h1]; omega), List.getElem?_append_left (by simp [h1, hcs]; omega)]
          simp [h1, hsub]
        have e2 : (rows ++ ys).getD i [] = ys.getD (i - rows.length) [] := by simp [List.getD, List.getElem?_append_right (by omega : rows.length ≤ i)]
        rw [e1, e2]
        exact hrep _ _ hiy hj
  rcases hd with ⟨rows, r, h1, h2, h3, rfl, rfl⟩ | ⟨h1, h2, rfl, rfl⟩
  · rw [h1] at hrx
    generalize hv : a.eval x = v at hrx
    cases hrx with
    | lin _ _ _ hp hu' hr =>
      obtain ⟨_, hrl, hhdr⟩ := hr _ _ h2
      have hat' := right_spec.1 h2
      obtain ⟨hust, htok⟩ := hi.tok _ _ _ _ _ hat'
      obtain ⟨_, oc, hoc, _, holdf, holdr⟩ := src_sl (P := P) (s := s) hp hrl
      have hrowsys : (rows ++ ys).length = rows.length + ys.length := List.length_append
      have holdl := hold
      rcases hhdr rfl with ⟨hι, ad, hvv⟩ | ⟨b, hι, hvv⟩
      · -- nothing yet
        have h0 : rows.length = 0 := by
          rcases htok with ⟨_, h⟩ | ⟨b, _, _, h, _⟩
          · exact h
          · rw [hι] at h; cases h
        have hrows : rows = [] := List.eq_nil_of_length_eq_zero h0
        subst hrows
        by_cases hy0 : ys.length = 0
        · exact absurd hy0 hy00
        · obtain ⟨newCap, hge, hrun⟩ := grow 0 0 ad #[] (by rw [hv, hvv]) (Nat.le_refl _) (by omega) (by simpa using h3) (firstCells_zero _ _ _ _ _)
          obtain ⟨l1, l2, l3⟩ := lay [] #[] newCap (by simp) (by simpa using hge) (by simp) (fun i j hi' => absurd hi' (by simp))
          obtain ⟨e1, e2⟩ := use_tok (w1 := w.drew.alloc (.cells (#[] ++ cs ++ Builtin.zeroCells z.cells (newCap - (0 + ys.length))) e)) hi hold r.f r.s r.st s 0 ys.length w.heap.size newCap (by simpa using hat') (by omega)
            (by show w.heap.size ≤ (w.alloc _).heap.size; rw [size_alloc]; omega) rfl rfl rfl (fun k hk _ => heap_alloc (w := w) hk) (fun k o' v' hk => by rw [hι] at hk; cases hk) (.inr (Nat.le_refl _))
            ⟨_, _, heap_alloc_self (w := w), by simpa using l1, by omega⟩
          refine ⟨_, _, _, .inl hrun, e1, e2, by simp [Ctx.setTok], ?_, fun _ h => .inl h⟩
          have := lin_rep e2 r s w.heap.size newCap (#[] ++ cs ++ Builtin.zeroCells z.cells (newCap - (0 + ys.length))) e ([] ++ ys) (right_spec.2 (by simp [Ctx.setTok, Store.putTok])) (by simp [Ctx.setTok]) (by simp [Ctx.setTok]) (heap_alloc_self (w := w)) (by simpa using l1) (by simpa using hge) l2 (fun i j hi' hj => ⟨(l3 i j hi' hj).1.keep e1.keep, (l3 i j hi' hj).2⟩)
          simpa using this
      · rcases htok with ⟨h, _⟩ | ⟨b', cur, e', hb', hheap, hcur, hle⟩
        · rw [hι] at h; cases h
        · rw [hι] at hb'; cases hb'
          by_cases hy0 : ys.length = 0
          · exact absurd hy0 hy00
          · have hlow : rows.length * s ≤ cur.size := by rw [hcur]; exact Nat.mul_le_mul_right _ hle
            by_cases hroom : rows.length + ys.length ≤ K.κ r.st
            · -- in place
              have hfit : rows.length * s + cs.toList.length ≤ cur.size := by
                have e0 : cs.toList.length = ys.length * s := by rw [Array.length_toList]; exact hcs
                rw [e0, hcur, ← Nat.add_mul]; exact Nat.mul_le_mul_right _ hroom
              have hst' := run_storeCells_at P b (rows.length * s) e' cs.toList 0 cur w hheap (by simpa using hfit) hone
              simp only [Nat.add_zero] at hst'
              generalize hnew : (cur.toList.take (rows.length * s) ++ cs.toList ++ cur.toList.drop (rows.length * s + cs.toList.length)).toArray = new at hst'
              have hng : ∀ i, new.getD i undef = if rows.length * s ≤ i ∧ i < rows.length * s + cs.size then cs.getD (i - rows.length * s) undef else cur.getD i undef := by
                intro i
                rw [← hnew, over_getD cur _ _ hfit i]
                have e0 : cs.toList.length = cs.size := Array.length_toList
                rw [e0, ← getD_toList]
              have hns : new.size = K.κ r.st * s := by
                rw [← hnew, ← hcur]
                simp only [List.size_toArray, List.length_append, List.length_take, List.length_drop, Array.length_toList] at hfit ⊢
                omega
              have hadd : (⟨b, 0, none⟩ : Addr).add (rows.length * s) = ⟨b, rows.length * s, none⟩ := by rw [add_off, Nat.zero_add]
              have hrun : (execOp a.eval o).run P w = .ok (.value (.slice (some ⟨b, 0, none⟩) (rows.length + ys.length) (K.κ r.st))) (w.setRow b new) := by
                have hf2 := hfirst w rfl
                simp [execOp, ho, resolve, hc, ha, hat, invoke, builtin, Builtin.append_, run_underlying hu, run_underlying hu2, sizeOf, typeInfo, hi1, hisz, hv, hvv, hlen, hroom, hf2, hadd, hst']
              obtain ⟨e1, e2⟩ := use_tok (w1 := w.setRow b new) hi hold r.f r.s r.st s rows.length (rows.length + ys.length) b (K.κ r.st) hat' (by omega)
                (by rw [setRow_size]; exact Nat.le_refl _) rfl rfl rfl (fun k hk hne => setRow_heap_ne _ _ _ _ (fun h => hne (h ▸ hι)))
                (fun k o' v' hk hcell hlt => by
                  rw [hι] at hk; cases hk
                  have h5 : o' < cur.size := by omega
                  have h6 := cell_heap hheap h5
                  rw [h6] at hcell
                  have h7 := cell_heap (w := w.setRow b new) (setRow_heap w b cur new e' (0, 0) hheap) (i := o') (by rw [hns, ← hcur]; exact h5)
                  rw [h7, hng, if_neg (by omega)]
                  exact hcell) (.inl hι) ⟨_, _, setRow_heap w b cur new e' (0, 0) hheap, hns, hroom⟩
              refine ⟨_, _, _, .inl hrun, e1, e2, rfl, ?_, fun _ h => .inl h⟩
              have := lin_rep e2 r s b (K.κ r.st) new e' (rows ++ ys) (right_spec.2 (by simp [Ctx.setTok, Store.putTok])) (by simp [Ctx.setTok]) (by simp [Ctx.setTok]) (setRow_heap w b cur new e' (0, 0) hheap) hns (by simpa using hroom)
                (fun r' hr' => by exact (List.mem_append.1 hr').elim (hrl r') (hyl r')) (fun i j hi' hj => by
                  rw [hrowsys] at hi'
                  rw [hng]
                  by_cases hir : i < rows.length
                  · have hlt := row_lt hir hj
                    rw [if_neg (by omega)]
                    have e9 : (rows ++ ys).getD i [] = rows.getD i [] := by simp [List.getD, List.getElem?_append_left hir]
                    rw [e9]
                    -- the old cell, as the pure slice has it
                    rw [hvv] at hp
                    obtain ⟨b2, q2, c2, s2, g, hs2, hc2, ho2, hp2, hcap2, hveq⟩ := rep_sl_inv hp (by intro h; rw [h] at hir; simp at hir)
                    · simp only [Value.slice.injEq, Option.some.injEq, Addr.mk.injEq] at hveq
                      obtain ⟨⟨rfl, rfl, _⟩, _, rfl⟩ := hveq
                      have hs3 : s2 = s := by
                        have hm := List.getElem_mem hir
                        rw [← hs2 _ hm, hrl _ hm]
                      subst hs3
                      have h10 := (hc2 i j hir hj).1
                      rw [Nat.zero_add, cell_heap hheap (by omega)] at h10
                      simp only [Option.some.injEq] at h10
                      rw [h10]
                      exact ⟨(hp2 i j hir hj).keep e1.keep, ho2 i j hir hj⟩
                  · have hiy : i - rows.length < ys.length := by omega
                    have hlt := row_lt hiy hj
                    have hge : rows.length * s ≤ i * s := Nat.mul_le_mul_right _ (by omega)
                    have hsub : i * s + j - rows.length * s = (i - rows.length) * s + j := by rw [Nat.sub_mul]; omega
                    have hle2 : (i - rows.length) * s + rows.length * s = i * s := by rw [← Nat.add_mul]; congr 1; omega
                    rw [if_pos (by rw [hcs]; omega), hsub]
                    have e9 : (rows ++ ys).getD i [] = ys.getD (i - rows.length) [] := by simp [List.getD, List.getElem?_append_right (by omega : rows.length ≤ i)]
                    rw [e9]
                    exact ⟨(hrep _ _ hiy hj).1.keep e1.keep, (hrep _ _ hiy hj).2⟩)
              rwa [hrowsys] at this
            · -- a new block
              obtain ⟨newCap, hge, hrun⟩ := grow rows.length (K.κ r.st) (some ⟨b, 0, none⟩) oc (by rw [hv, hvv]) hle (by omega) h3 (by have := holdf w.drew rfl; rwa [hvv] at this)
              obtain ⟨l1, l2, l3⟩ := lay rows oc newCap hoc hge hrl holdr
              obtain ⟨e1, e2⟩ := use_tok (w1 := w.drew.alloc (.cells (oc ++ cs ++ Builtin.zeroCells z.cells (newCap - (rows.length + ys.length))) e)) hi hold r.f r.s r.st s rows.length (rows.length + ys.length) w.heap.size newCap hat' (by omega)
                (by show w.heap.size ≤ (w.alloc _).heap.size; rw [size_alloc]; omega) rfl rfl rfl (fun k hk _ => heap_alloc (w := w) hk) (fun k o' v' hk hcell _ => by
                  have := cell_lt hcell
                  rw [← hcell]; exact cell_of_heap (heap_alloc (w := w) this) o') (.inr (Nat.le_refl _))
                ⟨_, _, heap_alloc_self (w := w), l1, hge⟩
              refine ⟨_, _, _, .inl hrun, e1, e2, rfl, ?_, fun _ h => .inl h⟩
              have := lin_rep e2 r s w.heap.size newCap (oc ++ cs ++ Builtin.zeroCells z.cells (newCap - (rows.length + ys.length))) e (rows ++ ys) (right_spec.2 (by simp [Ctx.setTok, Store.putTok])) (by simp [Ctx.setTok]) (by simp [Ctx.setTok]) (heap_alloc_self (w := w)) l1 (by simpa using hge) l2 (fun i j hi' hj => ⟨(l3 i j hi' hj).1.keep e1.keep, (l3 i j hi' hj).2⟩)
              rwa [hrowsys] at this
  · -- an empty slice without room
    obtain ⟨ad, hv⟩ : ∃ ad, a.eval x = .slice ad 0 0 := by
      generalize a.eval x = v at hrx
      rcases h1 with h1 | h1 <;> rw [h1] at hrx <;> cases hrx with
      | p _ _ hp => cases hp; exact ⟨_, rfl⟩
    obtain ⟨newCap, hge, hrun⟩ := grow 0 0 ad #[] hv (Nat.le_refl _) (by omega) (by simpa using h2) (firstCells_zero _ _ _ _ _)
    obtain ⟨l1, l2, l3⟩ := lay [] #[] newCap (by simp) (by simpa using hge) (by simp) (fun i j hi' => absurd hi' (by simp))
    obtain ⟨K', e1, e2, e3, e4, e5⟩ := new_rows hi hold F (dynSite dyn site st) s hst e ([] ++ ys) newCap (by simpa using hge) _ l1 l2 (w.drew.alloc (.cells (#[] ++ cs ++ Builtin.zeroCells z.cells (newCap - (0 + ys.length))) e)) rfl rfl rfl rfl
      (fun i j hi' hj => (l3 i j hi' hj).1) (fun i j hi' hj => (l3 i j hi' hj).2)
    refine ⟨_, _, K', .inl hrun, e1, e2, by simpa using e3, by simpa using e4, e5⟩

theorem run_append0 (hi : SInv w K) (hf : FRel w K a.tmps fr) (s : Nat) {c : Call} {x y : Operand} {x' y' : Opd} {t t2 e : TypeId} {ty2 : TypeDesc}
    (ho : o.op = .call c) (hc : c.callee = .builtin .append) (ha : c.args = #[x, y]) (hat : c.argTypes = #[t, t2]) (hu : P.underlying t = some (.slice e)) (hu2 : P.underlying t2 = some ty2) (hni : ∀ k, ty2 ≠ .int k) (hinfo : (P.info? e).map (·.size) = some s)
    (hx : chkX x x' = true) (hy : chkX y y' = true) {ro : Objs} (hro : ∀ r o, ro.get r = some o → K.σ.obj.get r = some o) (hys : srcRows ro s (y'.ev fr) = some [])
    (hd : (∃ rows r, x'.ev fr = .lin rows r) ∨ (∃ r off len, x'.ev fr = .own r off len) ∨ x'.ev fr = .p .nilsl ∨ x'.ev fr = .p .emp ∨ ∃ rows, x'.ev fr = .p (.sl rows)) : Runs P o a w K st (x'.ev fr) K.σ := by
  have hrx := chkX_rep hx hf
  obtain ⟨_, cs, hcs, hlen, hfirst, _⟩ := src_of (P := P) hi (chkX_rep hy hf) hro hys
  obtain ⟨info, hi1, hisz⟩ := Option.map_eq_some_iff.1 hinfo
  have hc0 : cs = #[] := Array.eq_empty_of_size_eq_zero (by rw [hcs]; simp)
  have hf2 : (Builtin.firstCells s 0 (a.eval y)).run P w = .ok #[] w := by have := hfirst w rfl; rwa [hc0] at this
  have hl2 : ∀ w1, (Builtin.lenOf (a.eval y)).run P w1 = .ok 0 w1 := hlen
  have hz2 : (match ty2 with | .int _ => true | _ => false) = false := by
    cases ty2 <;> first | rfl | exact absurd rfl (hni _)
  have hsl : ∀ {v : Value} {rows : List (List PV)}, RepP w K.im v (.sl rows) → ∃ ad n cap, v = .slice ad n cap ∧ n ≤ cap := fun h => by
    cases h with
    | sl0 a c => exact ⟨_, _, _, rfl, Nat.zero_le _⟩
    | sl b q c s' _ g hs hc hone hp hcap => exact ⟨_, _, _, rfl, hcap⟩
  obtain ⟨ad, n, cap, hv, hle⟩ : ∃ ad n cap, a.eval x = .slice ad n cap ∧ n ≤ cap := by
    generalize a.eval x = v at hrx
    rcases hd with ⟨rows, r, h⟩ | ⟨r, off, len, h⟩ | h | h | ⟨rows, h⟩ <;> rw [h] at hrx
    · cases hrx with | lin _ _ _ hp => exact hsl hp
    · cases hrx with | own ad cap _ _ _ hu hcap => exact ⟨_, _, _, rfl, hcap⟩
    · cases hrx with | p _ _ hp => cases hp; exact ⟨_, _, _, rfl, Nat.le_refl _⟩
    · cases hrx with | p _ _ hp => cases hp; exact ⟨_, _, _, rfl, Nat.le_refl _⟩
    · cases hrx with | p _ _ hp => exact hsl hp
  refine .same hi (v := a.eval x) ?_ hrx
  cases ad <;> simp [execOp, ho, resolve, hc, ha, hat, invoke, builtin, Builtin.append_, run_underlying hu, run_underlying hu2, sizeOf, typeInfo, hi1, hisz, hv, hl2, hle, hf2, storeCells_nil] <;> rfl
end
end Go.Ev
