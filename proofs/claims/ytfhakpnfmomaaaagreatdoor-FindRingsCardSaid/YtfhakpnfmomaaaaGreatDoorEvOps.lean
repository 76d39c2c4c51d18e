/- A part of an evaluator of closed runs, and of the proof that what it answers holds of the model. No conditions. -/
import Derived.Test.YtfhakpnfmomaaaaGreatDoorEvTrans
import Derived.Laws.AppendOwn
import Derived.Laws.StructEq
import Derived.ChangeKeysEq
namespace Go.Ev
open Go

/-! ### Constants, operands -/
def chkC : Value → PV → Bool
  | .bool b, .bool c => b == c
  | .int k n, .int k' m => decide (k = k') && n == m
  | .string s, .str l => s.data.toList == l
  | .pointer none, .nilp => true
  | .slice none n c, .nilsl => n == 0 && c == 0
  | .map none, .nilmap => true
  | .nilIface, .nilif => true
  | .nilFunc, .nilfn => true
  | _, _ => false
theorem chkC_rep {v : Value} {p : PV} (h : chkC v p = true) (w : World) (I : Im) : RepP w I v p := by
  unfold chkC at h
  split at h
  · simp at h; subst h; exact .bool _
  · simp at h; obtain ⟨rfl, rfl⟩ := h; exact .int _ _
  · simp at h; exact .str _ _ h
  · exact .nilp
  · simp at h; obtain ⟨rfl, rfl⟩ := h; exact .nilsl
  · exact .nilmap
  · exact .nilif
  · exact .nilfn
  · cases h
def chkL : List Value → List PV → Bool
  | [], [] => true
  | v :: vs, p :: ps => chkC v p && chkL vs ps
  | _, _ => false
theorem chkL_rep : ∀ {vs : List Value} {ps : List PV}, chkL vs ps = true → vs.length = ps.length ∧ ∀ (w : World) (I : Im) i, i < ps.length → RepP w I (vs.getD i undef) (ps.getD i .nilp)
  | [], [], _ => ⟨rfl, fun _ _ i hi => absurd hi (by simp)⟩
  | [], _ :: _, h => by cases h
  | _ :: _, [], h => by cases h
  | v :: vs, p :: ps, h => by
    simp only [chkL, Bool.and_eq_true] at h
    obtain ⟨h1, h2⟩ := chkL_rep h.2
    refine ⟨by simp [h1], fun w I i hi => ?_⟩
    cases i with
    | zero => simpa using chkC_rep h.1 w I
    | succ i => simpa using h2 w I i (by simpa using hi)
theorem chkC_one {v : Value} {p : PV} (h : chkC v p = true) : v.oneCell' = true := by
  unfold chkC at h
  split at h <;> first | rfl | cases h
theorem chkL_one : ∀ {vs : List Value} {ps : List PV}, chkL vs ps = true → ∀ i, i < ps.length → (vs.getD i undef).oneCell' = true
  | [], [], _, i, hi => absurd hi (by simp)
  | [], _ :: _, h, _, _ => by cases h
  | _ :: _, [], h, _, _ => by cases h
  | v :: vs, p :: ps, h, i, hi => by
    simp only [chkL, Bool.and_eq_true] at h
    cases i with
    | zero => simpa using chkC_one h.1
    | succ i => simpa using chkL_one h.2 i (by simpa using hi)
def chkV : Value → PV → Bool
  | .agg cs, .agg ps => chkL cs.toList ps
  | v, p => chkC v p
theorem getD_toList (a : Array Value) (i : Nat) (d : Value) : a.getD i d = a.toList.getD i d := by
  simp [List.getD, Array.getD]
  split <;> simp_all
theorem chkV_rep {v : Value} {p : PV} (h : chkV v p = true) (w : World) (I : Im) : RepP w I v p := by
  unfold chkV at h
  split at h
  · obtain ⟨h1, h2⟩ := chkL_rep h
    exact .agg _ _ (by simpa using h1) (fun i hi => by rw [getD_toList]; exact h2 w I i hi)
  · exact chkC_rep h w I

theorem repD_ofPV {w : World} {K : Ctx} {v : Value} {p : PV} (h : RepP w K.im v p) : RepD w K v (ofPV p) := by
  cases h with
  | agg vs ps hl h =>
    refine .agg vs _ (by simpa using hl) (fun i hi => ?_)
    have hi' : i < ps.length := by simpa using hi
    have e : (ps.map DV.p).getD i .undef = .p (ps.getD i .nilp) := by simp [List.getD, List.getElem?_eq_getElem hi']
    rw [e]
    exact .p _ _ (h i hi')
  | bool b => exact .p _ _ (.bool b)
  | int k n => exact .p _ _ (.int k n)
  | str s l h => exact .p _ _ (.str s l h)
  | nilp => exact .p _ _ .nilp
  | nilsl => exact .p _ _ .nilsl
  | emp a => exact .p _ _ (.emp a)
  | nilmap => exact .p _ _ .nilmap
  | nilif => exact .p _ _ .nilif
  | nilfn => exact .p _ _ .nilfn
  | sl0 a c => exact .p _ _ (.sl0 a c)
  | sl b o c s rows v a1 a2 a3 a4 a5 => exact .p _ _ (.sl b o c s rows v a1 a2 a3 a4 a5)
  | ip b o off cells v a1 a2 a3 => exact .p _ _ (.ip b o off cells v a1 a2 a3)
  | imap r es clk ps a1 a2 a3 a4 a5 => exact .p _ _ (.imap r es clk ps a1 a2 a3 a4 a5)
  | iface t v p a1 => exact .p _ _ (.iface t v p a1)
  | clo f a b pa pb a1 a2 a3 a4 => exact .p _ _ (.clo f a b pa pb a1 a2 a3 a4)
  | gref g a a1 => exact .p _ _ (.gref g a a1)
  | sym g k n a1 => exact .p _ _ (.sym g k n a1)

def chkX : Operand → Opd → Bool
  | .tmp t, .t n => t == n
  | .const v, .c p => chkV v p
  | .func f, .fn g => f == g
  | _, _ => false
theorem chkX_rep {x : Operand} {y : Opd} (h : chkX x y = true) {w : World} {K : Ctx} {a : Act} {fr : Frame} (hf : FRel w K a.tmps fr) : RepD w K (a.eval x) (y.ev fr) := by
  unfold chkX at h
  split at h
  · simp at h; subst h; exact hf _
  · exact repD_ofPV (chkV_rep h _ _)
  · simp at h; subst h
    exact .p _ _ (.clo _ #[] #[] [] [] rfl rfl (fun i hi => absurd hi (by simp)) (fun i hi => absurd hi (by simp)))
  · cases h

/-! ### What an operation comes to -/
def Runs (P : Program) (o : Oper) (a : Act) (w : World) (K : Ctx) (st : Nat) (d : DV) (σ' : Store) : Prop :=
  ∃ v w' K', ((execOp a.eval o).run P w = .ok (.value v) w' ∨ ((execOp a.eval o).run P w = .ok .skip w' ∧ v = undef)) ∧
    Ext w K w' K' ∧ SInv w' K' ∧ K'.σ = σ' ∧ RepD w' K' v d ∧ (∀ x, K'.used x → K.used x ∨ (st ≤ x ∧ x < st + 16))

section
variable {P : Program} {o : Oper} {a : Act} {w : World} {K : Ctx} {fr : Frame} {st : Nat}

theorem Runs.same (hi : SInv w K) {v : Value} {d : DV} (h : (execOp a.eval o).run P w = .ok (.value v) w) (hd : RepD w K v d) : Runs P o a w K st d K.σ :=
  ⟨v, w, K, .inl h, .refl _ _, hi, rfl, hd, fun _ h => .inl h⟩

theorem run_mv (hi : SInv w K) (hf : FRel w K a.tmps fr) {x : Operand} {y : Opd} (ho : o.op = .move x ∨ o.op = .assign x) (hx : chkX x y = true) : Runs P o a w K st (y.ev fr) K.σ :=
  .same hi (v := a.eval x) (by rcases ho with ho | ho <;> simp [execOp, ho]) (chkX_rep hx hf)

theorem RepD.bool_inv {v : Value} {b : Bool} (h : RepD w K v (.p (.bool b))) : v = .bool b := by
  cases h with | p _ _ h => cases h; rfl
theorem RepD.int_inv {v : Value} {k : IntKind} {n : Int} (h : RepD w K v (.p (.int k n))) : v = .int k n := by
  cases h with | p _ _ h => cases h; rfl
theorem RepD.str_inv {v : Value} {l : List UInt8} (h : RepD w K v (.p (.str l))) : ∃ s, v = .string s ∧ s.data.toList = l := by
  cases h with | p _ _ h => cases h with | str s _ h => exact ⟨s, rfl, h⟩

theorem run_pick (hi : SInv w K) (hf : FRel w K a.tmps fr) {c x y : Operand} {c' x' y' : Opd} (ho : o.op = .pick c x y) (hc : chkX c c' = true) (hx : chkX x x' = true) (hy : chkX y y' = true)
    {t : Bool} (ht : c'.ev fr = .p (.bool t)) : Runs P o a w K st (if t then x'.ev fr else y'.ev fr) K.σ := by
  have h1 := chkX_rep hc hf
  rw [ht] at h1
  have h1 := h1.bool_inv
  have h2 := chkX_rep hx hf
  have h3 := chkX_rep hy hf
  refine .same hi (v := if t then a.eval x else a.eval y) (by simp [execOp, ho, h1, asBool]) ?_
  cases t
  · exact h3
  · exact h2

/-! ### New variables -/
theorem repD_one {v : Value} {d : DV} (h : RepD w K v d) (h1 : oneD d = true) : v.oneCell' = true ∧ v.cells = #[v] := by
  cases h with
  | undef => cases h1
  | p _ _ h => cases h <;> first | exact ⟨rfl, rfl⟩ | cases h1
  | agg => cases h1
  | tup => cases h1
  | lin v rows r h => cases h <;> exact ⟨rfl, rfl⟩
  | own => exact ⟨rfl, rfl⟩
  | mp => exact ⟨rfl, rfl⟩
  | omap => exact ⟨rfl, rfl⟩
  | clo => exact ⟨rfl, rfl⟩
  | iface => exact ⟨rfl, rfl⟩
  | ent => cases h1

/-- The cells of a value that may be laid. -/
theorem repD_cells {v : Value} {d : DV} (h : RepD w K v d) {cs : List DV} (hc : cellsOf d = some cs) :
    v.cells.size = cs.length ∧ (∀ j, j < cs.length → RepD w K (v.cells.getD j undef) (cs.getD j .undef)) ∧ ∀ x ∈ v.cells.toList, x.oneCell' = true := by
  have simple : oneD d = true → cs = [d] → v.cells.size = cs.length ∧ (∀ j, j < cs.length → RepD w K (v.cells.getD j undef) (cs.getD j .undef)) ∧ ∀ x ∈ v.cells.toList, x.oneCell' = true := by
    rintro h1 rfl
    obtain ⟨h2, h3⟩ := repD_one h h1
    rw [h3]
    refine ⟨rfl, fun j hj => ?_, fun x hx => ?_⟩
    · have : j = 0 := by simpa using hj
      subst this
      exact h
    · have : x = v := by simpa using hx
      rw [this]; exact h2
  unfold cellsOf at hc
  split at hc
  · rename_i ds
    split at hc
    · rename_i hall
      simp only [Option.some.injEq] at hc
      subst hc
      cases h with
      | agg vs _ hl hr =>
        refine ⟨hl, hr, fun x hx => ?_⟩
        obtain ⟨i, hi, rfl⟩ := List.getElem_of_mem hx
        have hi' : i < ds.length := by have : i < vs.size := by simpa [Value.cells] using hi
                                       omega
        have h1 := hr i hi'
        have h2 : oneD (ds.getD i .undef) = true := by
          rw [List.getD, List.getElem?_eq_getElem hi']
          exact List.all_eq_true.1 hall _ (List.getElem_mem hi')
        have h3 := (repD_one h1 h2).1
        have h4 : i < vs.size := by omega
        simpa [Value.cells, Array.getD, h4] using h3
    · cases hc
  · split at hc
    · rename_i h1
      simp only [Option.some.injEq] at hc
      exact simple h1 hc.symm
    · cases hc

theorem getD_mem {vs : Array Value} {j : Nat} (h : j < vs.size) : vs.getD j undef ∈ vs.toList := by
  simp [Array.getD, h]
/-- A new variable of some cells. -/
theorem new_var (hi : SInv w K) (hold : Old w K) (F site : Nat) (hst : ¬ K.used st) (t : TypeId) (vals : Array Value) (cs : List DV) (hl : vals.size = cs.length)
    (hr : ∀ j, j < cs.length → RepD w K (vals.getD j undef) (cs.getD j .undef)) (h1 : ∀ j, j < cs.length → (vals.getD j undef).oneCell' = true) :
    ∃ K', Ext w K (w.alloc (.cells vals t)) K' ∧ SInv (w.alloc (.cells vals t)) K' ∧ K'.σ = K.σ.put F site (some (st, .arr cs.length [cs] true)) ∧
      RepD (w.alloc (.cells vals t)) K' (.pointer (some ⟨w.heap.size, 0, none⟩)) (.mp ⟨F, site, st⟩ 0 0) ∧ (∀ x, K'.used x → K.used x ∨ (st ≤ x ∧ x < st + 16)) := by
  obtain ⟨hx, hs⟩ := new_obj hi hold F site st (.arr cs.length [cs] true) 1 hst (.cells vals t) (fun hx => by
    refine ⟨w.heap.size, vals, t, by simp [Ctx.newObj], heap_alloc_self, by simpa [Ctx.newObj] using hl, by simp [Ctx.newObj], by simp, fun i j h3 h2 => ?_⟩
    have : i = 0 := by simpa using h3
    subst this
    have h5 := (hr j h2).ext hx
    have h6 := h1 j h2
    simp only [Nat.zero_mul, Nat.zero_add]
    exact ⟨h5, h6⟩)
  refine ⟨_, hx, hs, rfl, ?_, fun x h => ?_⟩
  · refine .mp _ _ _ _ (.inl rfl) (fun sz rows mu h => ?_)
    rw [get_spec] at h
    exact ⟨w.heap.size, by simp [Ctx.newObj], by simp⟩
  · rcases h with rfl | h
    · exact .inr ⟨Nat.le_refl _, by omega⟩
    · exact .inl h

theorem run_alloc (hi : SInv w K) (hold : Old w K) (F site : Nat) (hst : ¬ K.used st) {t : TypeId} {zero : List PV} (ho : o.op = .alloc t) {z : Value} (hz : (P.info? t).bind (·.zero) = some z) (hc : chkL z.cells.toList zero = true) :
    Runs P o a w K st (.mp ⟨F, site, st⟩ 0 0) (K.σ.put F site (some (st, .arr zero.length [zero.map .p] true))) := by
  obtain ⟨h1, h2⟩ := chkL_rep hc
  obtain ⟨K', e1, e2, e3, e4, e5⟩ := new_var (w := w) (K := K) (st := st) hi hold F site hst t z.cells (zero.map .p) (by simpa using h1) (fun j hj => by
    have hj' : j < zero.length := by simpa using hj
    have e : (zero.map DV.p).getD j .undef = .p (zero.getD j .nilp) := by simp [List.getD, List.getElem?_eq_getElem hj']
    rw [e, getD_toList]
    exact .p _ _ (h2 w K.im j hj')) (fun j hj => by
    have hj' : j < zero.length := by simpa using hj
    rw [getD_toList]
    exact chkL_one hc j hj')
  refine ⟨_, _, K', .inl ?_, e1, e2, by simpa using e3, e4, e5⟩
  obtain ⟨i, hi1, hi2⟩ := Option.bind_eq_some_iff.1 hz
  simp [execOp, ho, Instr.alloc, zeroValue, typeInfo, hi1, hi2, newVar, newRow]

theorem run_box (hi : SInv w K) (hold : Old w K) (hf : FRel w K a.tmps fr) (F site : Nat) (hst : ¬ K.used st) {t : TypeId} {x : Operand} {y : Opd} (ho : o.op = .box t x) (hx : chkX x y = true) {cs : List DV} (hc : cellsOf (y.ev fr) = some cs) :
    Runs P o a w K st (.mp ⟨F, site, st⟩ 0 0) (K.σ.put F site (some (st, .arr cs.length [cs] true))) := by
  obtain ⟨h1, h2, h3⟩ := repD_cells (chkX_rep hx hf) hc
  obtain ⟨K', e1, e2, e3, e4, e5⟩ := new_var (w := w) (K := K) (st := st) hi hold F site hst t (a.eval x).cells cs h1 h2 (fun j hj => h3 _ (getD_mem (by omega)))
  exact ⟨_, _, K', .inl (by simp [execOp, ho, Instr.box, newVar, newRow]), e1, e2, e3, e4, e5⟩

/-! ### Reading -/
def aggB (P : Program) (t : TypeId) : Option Bool := (P.underlying t).map fun d => match d with | .struct _ | .array _ _ => true | _ => false
theorem run_isAgg {t : TypeId} {b : Bool} (h : aggB P t = some b) (w : World) : (isAgg t).run P w = .ok b w := by
  obtain ⟨d, h1, h2⟩ := Option.map_eq_some_iff.1 h
  simp only [isAgg, Sem.run_bind, run_underlying h1, Result.andThen_ok]
  cases d <;> simp_all
theorem run_size {t : TypeId} {n : Nat} (h : (P.info? t).map (·.size) = some n) (w : World) : (sizeOf t).run P w = .ok n w := by
  obtain ⟨i, h1, h2⟩ := Option.map_eq_some_iff.1 h
  simp [sizeOf, typeInfo, h1, h2]
theorem add_off (b o n : Nat) : (⟨b, o, none⟩ : Addr).add n = ⟨b, o + n, none⟩ := by unfold Addr.add; split <;> simp_all

/-- A value read out of cells. -/
theorem run_read {t : TypeId} {n : Nat} {ag : Bool} (hn : (P.info? t).map (·.size) = some n) (ha : aggB P t = some ag) {b o : Nat} (f : Nat → Value)
    (hc : ∀ j, j < (if ag then n else 1) → w.cell? ⟨b, o + j, none⟩ = some (f j)) :
    (loadVar t ⟨b, o, none⟩).run P w = .ok (if ag then .agg ((List.range n).map f).toArray else f 0) w := by
  cases ag with
  | true =>
    have := run_loadCells (P := P) w ⟨b, o, none⟩ n f (fun j hj => by rw [add_off]; exact hc j (by simpa using hj))
    simp [loadVar, run_isAgg ha, run_size hn, this]
  | false =>
    have := hc 0 (by simp)
    simp only [Nat.add_zero] at this
    simp [loadVar, run_isAgg ha, this]

theorem run_load (hi : SInv w K) (hf : FRel w K a.tmps fr) {t : TypeId} {x : Operand} {y : Opd} (ho : o.op = .load t x) (hx : chkX x y = true) {n : Nat} {ag : Bool}
    (hn : (P.info? t).map (·.size) = some n) (ha : aggB P t = some ag) {ro : Objs} (hro : ∀ r o, ro.get r = some o → K.σ.obj.get r = some o) {d : DV} (hd : loadAt ro n ag (y.ev fr) = some d) : Runs P o a w K st d K.σ := by
  have hr := chkX_rep hx hf
  unfold loadAt at hd
  split at hd
  · -- pure memory
    rename_i cells off hy
    rw [hy] at hr
    generalize hv : a.eval x = v at hr
    cases hr with
    | p _ _ hr =>
      cases hr with
      | ip b q _ _ f hc _ hp =>
        cases ag with
        | true =>
          simp only [if_true] at hd
          split at hd
          · rename_i hle
            simp only [Option.some.injEq] at hd
            subst hd
            have hrun := run_read (w := w) (b := b) (o := q + off) hn ha (fun j => f (off + j)) (fun j hj => by
              have hj' : j < n := by simpa using hj
              have := (hc (off + j) (by omega)).1
              rwa [show q + off + j = q + (off + j) by omega])
            refine .same hi (v := .agg ((List.range n).map fun j => f (off + j)).toArray) (by simp [execOp, ho, Instr.loadAt, Instr.sureAddr, hv, hrun]) ?_
            have hlen : (((cells.drop off).take n).map DV.p).length = n := by simp; omega
            refine .agg _ _ (by simp; omega) (fun i hi' => ?_)
            have hi2 : i < n := by omega
            have e1 : ((List.range n).map fun j => f (off + j)).toArray.getD i undef = f (off + i) := by simp [Array.getD, hi2]
            have e2 : (((cells.drop off).take n).map DV.p).getD i .undef = .p (cells.getD (off + i) .nilp) := by
              have h3 : off + i < cells.length := by omega
              simp [List.getD, hi2, List.getElem?_drop, List.getElem?_eq_getElem h3]
            rw [e1, e2]
            exact .p _ _ (hp _ (by omega))
          · cases hd
        | false =>
          simp only [Bool.false_eq_true, if_false] at hd
          obtain ⟨p, hp1, rfl⟩ := Option.map_eq_some_iff.1 hd
          have hlt := (List.getElem?_eq_some_iff.1 hp1).1
          have hrun := run_read (w := w) (b := b) (o := q + off) hn ha (fun j => f (off + j)) (fun j hj => by
            have hj' : j = 0 := by simpa using hj
            subst hj'
            exact (hc off hlt).1)
          refine .same hi (v := f off) (by simp [execOp, ho, Instr.loadAt, Instr.sureAddr, hv, hrun]) (.p _ _ ?_)
          have := hp off hlt
          rwa [List.getD, hp1] at this
  · -- an object
    rename_i r row off hy
    rw [hy] at hr
    generalize hv : a.eval x = v at hr
    cases hr with
    | mp ad _ _ _ hu hr =>
      split at hd
      · rename_i sz rows mu hget
        split at hd
        · rename_i cells hrow
          obtain ⟨b, hb, rfl⟩ := hr _ _ _ (hro _ _ hget)
          obtain ⟨_, b', cs, e, hb', hheap, hsz, hkap, hlen, hrep⟩ := hi.obj _ _ _ _ (get_spec.1 (hro _ _ hget))
          rw [hb] at hb'; cases hb'
          have hrl := (List.getElem?_eq_some_iff.1 hrow).1
          have hcl : cells.length = sz := hlen _ (List.mem_of_getElem? hrow)
          have hgd : rows.getD row [] = cells := by rw [List.getD, hrow]; rfl
          have hcell : ∀ j, off + j < sz → w.cell? ⟨b, row * sz + off + j, none⟩ = some (cs.getD (row * sz + (off + j)) undef) := by
            intro j hj
            have h1 : row * sz + (off + j) < cs.size := by
              have : (row + 1) * sz ≤ K.κ r.st * sz := Nat.mul_le_mul_right _ (Nat.lt_of_lt_of_le hrl hkap)
              rw [Nat.add_mul] at this
              omega
            rw [show row * sz + off + j = row * sz + (off + j) by omega]
            simp [World.cell?, hheap, Array.getD, h1]
          cases ag with
          | true =>
            simp only [if_true] at hd
            split at hd
            · rename_i hle
              simp only [Option.some.injEq] at hd
              subst hd
              have hrun := run_read (w := w) (b := b) (o := row * sz + off) hn ha (fun j => cs.getD (row * sz + (off + j)) undef) (fun j hj => by
                have hj' : j < n := by simpa using hj
                exact hcell j (by omega))
              refine .same hi (v := .agg ((List.range n).map fun j => cs.getD (row * sz + (off + j)) undef).toArray) (by simp [execOp, ho, Instr.loadAt, Instr.sureAddr, hv, hrun]) ?_
              refine .agg _ _ (by simp; omega) (fun i hi' => ?_)
              have hi2 : i < n := by simp at hi'; omega
              have e1 : ((List.range n).map fun j => cs.getD (row * sz + (off + j)) undef).toArray.getD i undef = cs.getD (row * sz + (off + i)) undef := by simp [Array.getD, hi2]
              have e2 : ((cells.drop off).take n).getD i .undef = cells.getD (off + i) .undef := by
                simp [List.getD, hi2, List.getElem?_drop]
              rw [e1, e2, ← hgd]
              exact (hrep row (off + i) hrl (by omega)).1
            · cases hd
          | false =>
            simp only [Bool.false_eq_true, if_false] at hd
            have hlt := (List.getElem?_eq_some_iff.1 hd).1
            have hrun := run_read (w := w) (b := b) (o := row * sz + off) hn ha (fun j => cs.getD (row * sz + (off + j)) undef) (fun j hj => by
              have hj' : j = 0 := by simpa using hj
              subst hj'
              exact hcell 0 (by omega))
            refine .same hi (v := cs.getD (row * sz + off) undef) (by simp [execOp, ho, Instr.loadAt, Instr.sureAddr, hv, hrun]) ?_
            have := (hrep row off hrl (by omega)).1
            rwa [hgd, List.getD, hd] at this
        · cases hd
      · cases hd
  · cases hd
end
end Go.Ev
