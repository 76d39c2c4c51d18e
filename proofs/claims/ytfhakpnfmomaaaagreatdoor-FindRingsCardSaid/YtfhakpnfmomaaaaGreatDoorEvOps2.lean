/- A part of an evaluator of closed runs, and of the proof that what it answers holds of the model. No conditions. -/
import Derived.Test.YtfhakpnfmomaaaaGreatDoorEvOps
import Derived.Lib.Strings
namespace Go.Ev
open Go
section
variable {P : Program} {o : Oper} {a : Act} {w : World} {K : Ctx} {fr : Frame} {st : Nat}

/-! ### Writing -/
theorem splice_length {α : Type} : ∀ (cs : List α) (n : Nat) (xs : List α), n + xs.length ≤ cs.length → (splice cs n xs).length = cs.length
  | cs, 0, xs, h => by simp [splice]; omega
  | [], n + 1, xs, h => by simp at h
  | c :: cs, n + 1, xs, h => by
    simp only [splice, List.length_cons] at h ⊢
    rw [splice_length cs n xs (by omega)]
theorem splice_getD {α : Type} (d : α) : ∀ (cs : List α) (n : Nat) (xs : List α), n + xs.length ≤ cs.length → ∀ i, (splice cs n xs).getD i d = if n ≤ i ∧ i < n + xs.length then xs.getD (i - n) d else cs.getD i d
  | cs, 0, xs, h, i => by
    simp only [splice, List.getD, Nat.zero_le, true_and, Nat.zero_add, Nat.sub_zero]
    by_cases hi : i < xs.length
    · simp [List.getElem?_append, hi]
    · simp only [List.getElem?_append, hi, if_false, List.getElem?_drop]
      congr 2
      omega
  | [], n + 1, xs, h, i => by simp at h
  | c :: cs, n + 1, xs, h, 0 => by simp [splice]
  | c :: cs, n + 1, xs, h, i + 1 => by
    have := splice_getD d cs n xs (by simp at h; omega) i
    simp only [splice, List.getD_cons_succ, this]
    by_cases h1 : n ≤ i ∧ i < n + xs.length
    · rw [if_pos h1, if_pos (by omega), show i + 1 - (n + 1) = i - n by omega]
    · rw [if_neg h1, if_neg (by omega)]

theorem setRow_heap_ne (w : World) (g : Nat) (cs : Array Value) (k : Nat) (h : k ≠ g) : (w.setRow g cs).heap[k]? = w.heap[k]? := by
  simp [World.setRow, Array.getElem?_modify, Ne.symm h]
theorem setRow_size (w : World) (g : Nat) (cs : Array Value) : (w.setRow g cs).heap.size = w.heap.size := by simp [World.setRow]

/-- Cells of one block laid over others. -/
theorem over_getD (cur : Array Value) (q : Nat) (vs : List Value) (h : q + vs.length ≤ cur.size) (i : Nat) :
    (cur.toList.take q ++ vs ++ cur.toList.drop (q + vs.length)).toArray.getD i undef = if q ≤ i ∧ i < q + vs.length then vs.getD (i - q) undef else cur.getD i undef := by
  rw [getD_toList, getD_toList]
  simp only [List.getD]
  have hq : q ≤ cur.size := by omega
  congr 1
  rw [List.append_assoc]
  by_cases h1 : i < q
  · rw [List.getElem?_append_left (by simp; omega), List.getElem?_take, if_pos h1, if_neg (by omega)]
  · rw [List.getElem?_append_right (by simp; omega), show (cur.toList.take q).length = q by simp; omega]
    by_cases h2 : i < q + vs.length
    · rw [if_pos (by omega), List.getElem?_append_left (by omega)]
    · rw [if_neg (by omega), List.getElem?_append_right (by omega), List.getElem?_drop, show q + vs.length + (i - q - vs.length) = i by omega]

theorem run_storeOp (hi : SInv w K) (hf : FRel w K a.tmps fr) {t : TypeId} {x y : Operand} {x' y' : Opd} (ho : o.op = .store t x y) (hx : chkX x x' = true) (hy : chkX y y' = true) {n : Nat}
    (hn : (P.info? t).map (·.size) = some n) {d : DV} {σ' : Store} (hd : storeAt K.σ n (x'.ev fr) (y'.ev fr) = some (d, σ')) : Runs P o a w K st d σ' := by
  have hr := chkX_rep hx hf
  have hr2 := chkX_rep hy hf
  unfold storeAt at hd
  split at hd
  · rename_i r row off hy'
    rw [hy'] at hr
    generalize hv : a.eval x = v at hr
    generalize hu : a.eval y = u at hr2
    cases hr with
    | mp ad _ _ _ hus hr =>
      split at hd
      · rename_i sz rows hget
        split at hd
        · rename_i cells hrow
          split at hd
          · rename_i xs hxs
            split at hd
            · rename_i hcond
              obtain ⟨hc1, hc2, hpos⟩ := hcond
              simp only [Option.some.injEq, Prod.mk.injEq] at hd
              obtain ⟨rfl, rfl⟩ := hd
              obtain ⟨b, hb, rfl⟩ := hr _ _ _ hget
              have hat := get_spec.1 hget
              obtain ⟨_, b', cs, e, hb', hheap, hsz, hkap, hlen, hrep⟩ := hi.obj _ _ _ _ hat
              rw [hb] at hb'; cases hb'
              have hrl := (List.getElem?_eq_some_iff.1 hrow).1
              have hcl : cells.length = sz := hlen _ (List.mem_of_getElem? hrow)
              have hgd : rows.getD row [] = cells := by rw [List.getD, hrow]; rfl
              obtain ⟨k1, k2, k3⟩ := repD_cells hr2 hxs
              have hmul : (row + 1) * sz ≤ K.κ r.st * sz := Nat.mul_le_mul_right _ (Nat.lt_of_lt_of_le hrl hkap)
              rw [Nat.add_mul, Nat.one_mul] at hmul
              have hul : u.cells.toList.length = n := by rw [Array.length_toList, k1, hc1]
              have hst := run_storeCells_at P b (row * sz + off) e u.cells.toList 0 cs w hheap (by omega) k3
              simp only [Nat.add_zero] at hst
              generalize hnew : (cs.toList.take (row * sz + off) ++ u.cells.toList ++ cs.toList.drop (row * sz + off + u.cells.toList.length)).toArray = new at hst
              have hng : ∀ i, new.getD i undef = if row * sz + off ≤ i ∧ i < row * sz + off + n then u.cells.getD (i - (row * sz + off)) undef else cs.getD i undef := by
                intro i
                rw [← hnew, over_getD cs _ _ (by omega) i, hul]
                simp only [getD_toList]
              have hns : new.size = cs.size := by
                rw [← hnew]
                simp only [List.size_toArray, List.length_append, List.length_take, List.length_drop, Array.length_toList]
                have : u.cells.size = n := by rw [k1, hc1]
                omega
              obtain ⟨e1, e2⟩ := set_obj (w1 := w.setRow b new) hi r.f r.s r.st (.arr sz rows true) (.arr sz (rows.set row (splice cells off xs)) true) hat (by simp [sameShape]) (K.bn r.st) (fun _ _ => rfl)
                (by rw [setRow_size]; exact Nat.le_refl _) rfl rfl rfl (fun k hk => setRow_heap_ne _ _ _ _ (fun e => hk (e ▸ hb)))
                (by
                  rintro b' o' (⟨f', s', st', sz', rows', h1, h2⟩ | h1)
                  · rcases put_obj h1 with ⟨_, _, h⟩ | ⟨_, h⟩
                    · simp only [Option.some.injEq, Prod.mk.injEq] at h
                      exact .inl ⟨_, _, _, _, _, hat, by rw [h.1]; exact h2⟩
                    · exact .inl ⟨_, _, _, _, _, h, h2⟩
                  · exact .inr h1)
                (by
                  rintro b' (⟨f', s', st', es, h1, h2⟩ | h1)
                  · rcases put_obj h1 with ⟨_, _, h⟩ | ⟨_, h⟩
                    · simp at h
                    · exact .inl ⟨_, _, _, _, h, h2⟩
                  · exact .inr h1)
                (fun k o' v' hk hcell hM => absurd (.inl ⟨_, _, _, _, _, hat, hk⟩) hM)
                (fun k es c hk hmap => by rw [hb] at hk; cases hk; rw [hheap] at hmap; cases hmap)
                (fun hx => by
                  refine ⟨b, new, e, hb, setRow_heap w b cs new e (0, 0) hheap, by rw [hns]; exact hsz, by rw [List.length_set]; exact hkap, ?_, ?_⟩
                  · intro r' hr'
                    rcases List.mem_or_eq_of_mem_set hr' with h | rfl
                    · exact hlen _ h
                    · rw [splice_length _ _ _ (by omega), hcl]
                  · intro i j hi' hj
                    have hi2 : i < rows.length := by simpa using hi'
                    rw [hng]
                    by_cases hir : i = row
                    · subst hir
                      have e2 : (rows.set i (splice cells off xs)).getD i [] = splice cells off xs := by simp [List.getD, hi2]
                      rw [e2, splice_getD _ _ _ _ (by omega)]
                      by_cases hin : off ≤ j ∧ j < off + xs.length
                      · rw [if_pos (by omega), if_pos hin, show i * sz + j - (i * sz + off) = j - off by omega]
                        exact ⟨(k2 (j - off) (by omega)).ext hx, k3 _ (getD_mem (by omega))⟩
                      · rw [if_neg (by omega), if_neg hin]
                        have h9 := hrep i j hi2 hj
                        rw [hgd] at h9
                        exact ⟨h9.1.ext hx, h9.2⟩
                    · have e2 : (rows.set row (splice cells off xs)).getD i [] = rows.getD i [] := by simp [List.getD, List.getElem?_set_ne (Ne.symm hir)]
                      have hfar : ¬ (row * sz + off ≤ i * sz + j ∧ i * sz + j < row * sz + off + n) := by
                        intro hh
                        rcases Nat.lt_or_gt_of_ne hir with hlt | hgt
                        · have : (i + 1) * sz ≤ row * sz := Nat.mul_le_mul_right _ hlt
                          rw [Nat.add_mul, Nat.one_mul] at this
                          omega
                        · have : (row + 1) * sz ≤ i * sz := Nat.mul_le_mul_right _ hgt
                          rw [Nat.add_mul, Nat.one_mul] at this
                          omega
                      rw [if_neg hfar, e2]
                      exact ⟨(hrep i j hi2 hj).1.ext hx, (hrep i j hi2 hj).2⟩)
              refine ⟨undef, _, _, .inr ⟨?_, rfl⟩, e1, e2, rfl, .tup #[] [] rfl (fun i hi => absurd hi (by simp)), fun _ h => .inl h⟩
              have hsz' : u.cells.size = n := by rw [k1, hc1]
              simp [execOp, ho, Instr.storeAt, Instr.sureAddr, hv, hu, storeVar, run_size hn, hsz', hst]
            · cases hd
          · cases hd
        · cases hd
      · cases hd
  · cases hd

/-! ### Addresses -/
theorem isNil_false {v : Value} {d : DV} (h : RepD w K v d) (hd : isNilD d = some false) : v ≠ .pointer none ∧ v ≠ .nilIface ∧ v ≠ .nilFunc ∧ v ≠ .map none ∧ ∀ n c, v ≠ .slice none n c := by
  unfold isNilD at hd
  split at hd <;> first
    | (cases hd; done)
    | (cases h with | p _ _ h => cases h <;> simp)
    | (cases h with | lin _ _ _ h => cases h <;> simp)
    | (cases h <;> simp)
theorem isNil_true {v : Value} {d : DV} (h : RepD w K v d) (hd : isNilD d = some true) : v = .pointer none ∨ v = .nilIface ∨ v = .nilFunc ∨ v = .map none ∨ v = .slice none 0 0 := by
  unfold isNilD at hd
  split at hd <;> first
    | (cases hd; done)
    | (cases h with | p _ _ h => cases h <;> simp)

theorem run_nilCheck (hi : SInv w K) (hf : FRel w K a.tmps fr) {x : Operand} {x' : Opd} (ho : o.op = .nilCheck x) (hx : chkX x x' = true) (hd : isNilD (x'.ev fr) = some false) : Runs P o a w K st (x'.ev fr) K.σ := by
  have hr := chkX_rep hx hf
  refine .same hi (v := a.eval x) ?_ hr
  generalize hv : a.eval x = v at hr
  have hn := isNil_false hr hd
  simp only [execOp, ho, hv]
  have hm : ∀ name first cap, v ≠ .func (.method name) first cap := by
    rintro name first cap rfl
    generalize x'.ev fr = d at hr hd
    cases hr with
    | p _ _ h => cases h
    | undef => cases hd
    | lin _ _ _ h => cases h
  split
  · exact absurd rfl hn.1
  · exact absurd rfl hn.2.1
  · exact absurd rfl hn.2.2.1
  · exact absurd rfl (hm _ _ _)
  · simp

def fieldB (P : Program) (t : TypeId) (k : Nat) : Option (Nat × Nat) :=
  match P.underlying t with
  | some (.struct fs) => match fs[k]? with
    | some f => (P.info? f.type).map fun i => (f.offset, i.size)
    | none => none
  | _ => none

theorem run_fieldAddr (hi : SInv w K) (hf : FRel w K a.tmps fr) {t : TypeId} {k : Nat} {x : Operand} {x' : Opd} (ho : o.op = .fieldAddr t x k) (hx : chkX x x' = true) {off n : Nat}
    (hk : fieldB P t k = some (off, n)) (hn : 0 < n) {d : DV}
    (hd : (∃ cells q, x'.ev fr = .p (.ip cells q) ∧ d = .p (.ip cells (q + off))) ∨ (∃ r row q, x'.ev fr = .mp r row q ∧ d = .mp r row (q + off))) : Runs P o a w K st d K.σ := by
  have hr := chkX_rep hx hf
  unfold fieldB at hk
  split at hk
  · rename_i fs hu
    split at hk
    · rename_i f hfk
      obtain ⟨i, hi1, hi2⟩ := Option.map_eq_some_iff.1 hk
      simp only [Prod.mk.injEq] at hi2
      obtain ⟨rfl, rfl⟩ := hi2
      have run : ∀ b q, a.eval x = .pointer (some ⟨b, q, none⟩) → (execOp a.eval o).run P w = .ok (.value (.pointer (some ⟨b, q + f.offset, none⟩))) w := by
        intro b q hv
        simp [execOp, ho, Instr.fieldAt, Instr.sureAddr, hv, run_underlying hu, hfk, fieldPlace, sizeOf, typeInfo, hi1, Nat.ne_of_gt hn, add_off]
      rcases hd with ⟨cells, q, h1, rfl⟩ | ⟨r, row, q, h1, rfl⟩
      · rw [h1] at hr
        generalize hv : a.eval x = v at hr
        cases hr with
        | p _ _ h =>
          cases h with
          | ip b p0 _ _ g hc hone hp =>
            refine .same hi (run b (p0 + q) hv) (.p _ _ ?_)
            rw [Nat.add_assoc]
            exact .ip b p0 _ cells g hc hone hp
      · rw [h1] at hr
        generalize hv : a.eval x = v at hr
        cases hr with
        | mp ad _ _ _ hus hr =>
          obtain ⟨b, q0, sp⟩ := ad
          -- the address is known only while the object is there
          cases hg : K.σ.obj.get r with
          | none =>
            cases sp with
            | none => exact .same hi (run b q0 hv) (.mp _ _ _ _ hus (fun sz rows mu h => by rw [hg] at h; cases h))
            | some s =>
              refine .same hi (v := .pointer (some ((⟨b, q0, some s⟩ : Addr).add f.offset))) ?_ (.mp _ _ _ _ hus (fun sz rows mu h => by rw [hg] at h; cases h))
              simp [execOp, ho, Instr.fieldAt, Instr.sureAddr, hv, run_underlying hu, hfk, fieldPlace, sizeOf, typeInfo, hi1, Nat.ne_of_gt hn]
          | some ob =>
            cases ob with
            | map es mu =>
              cases sp with
              | none => exact .same hi (run b q0 hv) (.mp _ _ _ _ hus (fun sz rows mu h => by rw [hg] at h; cases h))
              | some s =>
                refine .same hi (v := .pointer (some ((⟨b, q0, some s⟩ : Addr).add f.offset))) ?_ (.mp _ _ _ _ hus (fun sz rows mu h => by rw [hg] at h; cases h))
                simp [execOp, ho, Instr.fieldAt, Instr.sureAddr, hv, run_underlying hu, hfk, fieldPlace, sizeOf, typeInfo, hi1, Nat.ne_of_gt hn]
            | arr sz rows mu =>
              obtain ⟨b', hb, hab⟩ := hr _ _ _ hg
              rw [hab] at hv
              refine .same hi (run b' _ hv) (.mp _ _ _ _ hus (fun sz' rows' mu' h => ?_))
              rw [hg] at h; cases h
              exact ⟨b', hb, by rw [Nat.add_assoc]⟩
    · cases hk
  · cases hk

theorem idx_inv {v : Value} {d : DV} (h : RepD w K v d) {n : Nat} (hd : idx d = some n) : ∃ k, v = .int k n := by
  unfold idx at hd
  split at hd
  · rename_i k m
    simp only [Option.some.injEq] at hd
    subst hd
    exact ⟨k, h.int_inv⟩
  · cases hd

/-- A row of a slice of pure rows, as a pointer. -/
theorem row_ip {I : Im} {v : Value} {rows : List (List PV)} (h : RepP w I v (.sl rows)) {n : Nat} {row : List PV} (hr : rows[n]? = some row) :
    ∃ b o c, v = .slice (some ⟨b, o, none⟩) rows.length c ∧ RepP w I (.pointer (some ⟨b, o + n * row.length, none⟩)) (.ip row 0) := by
  have hn := (List.getElem?_eq_some_iff.1 hr).1
  cases h with
  | sl0 a c => simp at hn
  | sl b o c s _ g hs hc hone hp hcap =>
    have hl : row.length = s := hs _ (List.mem_of_getElem? hr)
    refine ⟨b, o, c, rfl, ?_⟩
    have := RepP.ip (w := w) (I := I) b (o + n * row.length) 0 row (fun j => g n j) (fun j hj => by rw [hl]; exact hc n j hn (by omega)) (fun j hj => hone n j hn (by omega)) (fun j hj => by
      have := hp n j hn (by omega)
      rwa [show rows.getD n [] = row by rw [List.getD, hr]; rfl] at this)
    simpa using this

def elemB (P : Program) (t : TypeId) : Option Nat :=
  match P.underlying t with
  | some (.slice e) => (P.info? e).map (·.size)
  | _ => none
theorem elemB_spec {t : TypeId} {s : Nat} (h : elemB P t = some s) : ∃ e, P.underlying t = some (.slice e) ∧ (P.info? e).map (·.size) = some s := by
  unfold elemB at h
  split at h
  · rename_i e hu; exact ⟨e, hu, h⟩
  · cases h

theorem run_indexSl (hi : SInv w K) (hf : FRel w K a.tmps fr) {t : TypeId} {x y : Operand} {x' y' : Opd} (ho : o.op = .indexAddr t x y) (hx : chkX x x' = true) (hy : chkX y y' = true) {s : Nat}
    (hs : elemB P t = some s) {n : Nat} (hn : idx (y'.ev fr) = some n) {d : DV}
    (hd : (∃ rows row, (x'.ev fr = .p (.sl rows) ∨ ∃ r, x'.ev fr = .lin rows r) ∧ rows[n]? = some row ∧ row.length = s ∧ d = .p (.ip row 0)) ∨
      (∃ r off len sz rows mu, x'.ev fr = .own r off len ∧ K.σ.obj.get r = some (.arr sz rows mu) ∧ n < len ∧ sz = s ∧ d = .mp r (off + n) 0)) : Runs P o a w K st d K.σ := by
  have hr := chkX_rep hx hf
  obtain ⟨k, hk⟩ := idx_inv (chkX_rep hy hf) hn
  obtain ⟨e, hu, hsz⟩ := elemB_spec hs
  have run : ∀ b q len cap, n < len → a.eval x = .slice (some ⟨b, q, none⟩) len cap → (execOp a.eval o).run P w = .ok (.value (.pointer (some ⟨b, q + n * s, none⟩))) w := by
    intro b q len cap hlt hv
    simp [execOp, ho, Instr.indexAt, hv, hk, asIntOf, run_underlying hu, run_size hsz, hlt, add_off]
  rcases hd with ⟨rows, row, h1, h2, h3, rfl⟩ | ⟨r, off, len, sz, rows, mu, h1, hg, hlt, rfl, rfl⟩
  · have hp : RepP w K.im (a.eval x) (.sl rows) := by
      rcases h1 with h1 | ⟨r, h1⟩
      · rw [h1] at hr
        generalize a.eval x = v at hr
        cases hr with | p _ _ h => exact h
      · rw [h1] at hr
        generalize a.eval x = v at hr
        cases hr with | lin _ _ _ h => exact h
    obtain ⟨b, q, c, hv, hip⟩ := row_ip hp h2
    rw [h3] at hip
    exact .same hi (run b q _ c (List.getElem?_eq_some_iff.1 h2).1 hv) (.p _ _ hip)
  · rw [h1] at hr
    generalize hv : a.eval x = v at hr
    cases hr with
    | own ad cap _ _ _ hus hcap hr =>
      obtain ⟨h4, _, b, hb, h5⟩ := hr _ _ _ hg
      have h6 := h5 (by omega)
      subst h6
      refine .same hi (run b _ _ cap hlt hv) (.mp _ _ _ _ hus (fun sz' rows' mu' h => ?_))
      rw [hg] at h; cases h
      exact ⟨b, hb, by rw [Nat.add_mul]; rfl⟩

def arrB (P : Program) (t : TypeId) : Option (Nat × Nat) :=
  match P.underlying t with
  | some (.array n e) => (P.info? e).map fun i => (n, i.size)
  | _ => none

theorem run_indexArr (hi : SInv w K) (hf : FRel w K a.tmps fr) {t : TypeId} {x y : Operand} {x' y' : Opd} (ho : o.op = .indexAddr t x y) (hx : chkX x x' = true) (hy : chkX y y' = true) {len s : Nat}
    (hs : arrB P t = some (len, s)) {n : Nat} (hn : idx (y'.ev fr) = some n) (hlt : n < len) {d : DV}
    (hd : (∃ cells q, x'.ev fr = .p (.ip cells q) ∧ d = .p (.ip cells (q + n * s))) ∨ (∃ r row q ob, x'.ev fr = .mp r row q ∧ K.σ.obj.get r = some ob ∧ (∃ sz rows mu, ob = .arr sz rows mu) ∧ d = .mp r row (q + n * s))) : Runs P o a w K st d K.σ := by
  have hr := chkX_rep hx hf
  obtain ⟨k, hk⟩ := idx_inv (chkX_rep hy hf) hn
  unfold arrB at hs
  split at hs
  · rename_i m e hu
    obtain ⟨i, hi1, hi2⟩ := Option.map_eq_some_iff.1 hs
    simp only [Prod.mk.injEq] at hi2
    obtain ⟨rfl, rfl⟩ := hi2
    have run : ∀ b q, a.eval x = .pointer (some ⟨b, q, none⟩) → (execOp a.eval o).run P w = .ok (.value (.pointer (some ⟨b, q + n * i.size, none⟩))) w := by
      intro b q hv
      simp [execOp, ho, Instr.indexAt, Instr.sureAddr, hv, hk, asIntOf, run_underlying hu, sizeOf, typeInfo, hi1, hlt, add_off]
    rcases hd with ⟨cells, q, h1, rfl⟩ | ⟨r, row, q, ob, h1, hg, ⟨sz, rows, mu, rfl⟩, rfl⟩
    · rw [h1] at hr
      generalize hv : a.eval x = v at hr
      cases hr with
      | p _ _ h =>
        cases h with
        | ip b p0 _ _ g hc hone hp =>
          refine .same hi (run b (p0 + q) hv) (.p _ _ ?_)
          rw [Nat.add_assoc]
          exact .ip b p0 _ cells g hc hone hp
    · rw [h1] at hr
      generalize hv : a.eval x = v at hr
      cases hr with
      | mp ad _ _ _ hus hr =>
        obtain ⟨b', hb, hab⟩ := hr _ _ _ hg
        cases hab
        refine .same hi (run b' _ hv) (.mp _ _ _ _ hus (fun sz' rows' mu' h => ?_))
        rw [hg] at h; cases h
        exact ⟨b', hb, by rw [Nat.add_assoc]⟩
  · cases hs

/-! ### Parts of values -/
theorem run_indexStr (hi : SInv w K) (hf : FRel w K a.tmps fr) {t : TypeId} {x y : Operand} {x' y' : Opd} (ho : o.op = .index t x y) (hx : chkX x x' = true) (hy : chkX y y' = true) (hu : P.underlying t = some .string)
    {n : Nat} (hn : idx (y'.ev fr) = some n) {l : List UInt8} (hl : x'.ev fr = .p (.str l)) {c : UInt8} (hc : l[n]? = some c) : Runs P o a w K st (.p (.int .u8 c.toNat)) K.σ := by
  have hr := chkX_rep hx hf
  rw [hl] at hr
  obtain ⟨k, hk⟩ := idx_inv (chkX_rep hy hf) hn
  obtain ⟨s, hs, rfl⟩ := hr.str_inv
  refine .same hi (v := .int .u8 c.toNat) ?_ (.p _ _ (.int _ _))
  have h1 : s[n]? = some c := by
    obtain ⟨hlt, he⟩ := List.getElem?_eq_some_iff.1 hc
    have hlt' : n < s.size := by simpa using hlt
    rw [getElem?_pos s n hlt']
    have he' : s.data[n] = c := by simpa using he
    exact congrArg some he'
  simp [execOp, ho, Instr.index, hs, hk, asIntOf, run_underlying hu, h1]

theorem repD_part {vs : Array Value} {cs : List DV} (h : RepD w K (.agg vs) (.agg cs)) (off n : Nat) (hle : off + n ≤ cs.length) :
    RepD w K (.agg (vs.extract off (off + n))) (.agg ((cs.drop off).take n)) := by
  cases h with
  | agg _ _ hl hr =>
    refine .agg _ _ (by simp; omega) (fun i hi => ?_)
    have hi2 : i < n := by simp at hi; omega
    have e1 : (vs.extract off (off + n)).getD i undef = vs.getD (off + i) undef := by
      have h1 : off + i < vs.size := by omega
      rw [getD_toList, getD_toList]
      simp only [List.getD, Array.toList_extract, List.extract_eq_take_drop]
      rw [List.getElem?_take, if_pos (by omega), List.getElem?_drop]
    have e2 : ((cs.drop off).take n).getD i .undef = cs.getD (off + i) .undef := by simp [List.getD, hi2, List.getElem?_drop]
    rw [e1, e2]
    exact hr _ (by omega)

theorem run_field (hi : SInv w K) (hf : FRel w K a.tmps fr) {t : TypeId} {k : Nat} {x : Operand} {x' : Opd} (ho : o.op = .field t x k) (hx : chkX x x' = true) {fs : Array Field} {f : Field} {n : Nat} {ag : Bool}
    (hu : P.underlying t = some (.struct fs)) (hk : fs[k]? = some f) (hn : (P.info? f.type).map (·.size) = some n) (ha : aggB P f.type = some ag) {cs : List DV} (hc : x'.ev fr = .agg cs) {d : DV}
    (hd : if ag then f.offset + n ≤ cs.length ∧ d = .agg ((cs.drop f.offset).take n) else cs[f.offset]? = some d) : Runs P o a w K st d K.σ := by
  have hr := chkX_rep hx hf
  rw [hc] at hr
  generalize hv : a.eval x = v at hr
  cases hr' : hr with
  | agg vs _ hl hrr =>
    cases ag with
    | true =>
      obtain ⟨h1, rfl⟩ := hd
      refine .same hi (v := .agg (vs.extract f.offset (f.offset + n))) ?_ (repD_part hr _ _ h1)
      simp [execOp, ho, Instr.field, hv, run_underlying hu, hk, part, asAgg, run_isAgg ha, run_size hn]
    | false =>
      simp only [Bool.false_eq_true, if_false] at hd
      have hlt := (List.getElem?_eq_some_iff.1 hd).1
      have hlt' : f.offset < vs.size := by omega
      refine .same hi (v := vs.getD f.offset undef) ?_ ?_
      · simp [execOp, ho, Instr.field, hv, run_underlying hu, hk, part, asAgg, run_isAgg ha, hlt', Array.getD]
      · have := hrr f.offset hlt
        rwa [List.getD, hd] at this

theorem run_extract (hi : SInv w K) (hf : FRel w K a.tmps fr) {x : Operand} {i : Nat} {x' : Opd} (ho : o.op = .extract x i) (hx : chkX x x' = true) {vs : List DV} (hv : x'.ev fr = .tup vs) {d : DV} (hd : vs[i]? = some d) : Runs P o a w K st d K.σ := by
  have hr := chkX_rep hx hf
  rw [hv] at hr
  generalize hv : a.eval x = v at hr
  cases hr with
  | tup us _ hl hr =>
    have hlt := (List.getElem?_eq_some_iff.1 hd).1
    have hlt' : i < us.size := by omega
    refine .same hi (v := us.getD i undef) ?_ ?_
    · simp [execOp, ho, Instr.extract, hv, hlt', Array.getD]
    · have := hr i hlt
      rwa [List.getD, hd] at this

theorem run_mkIface (hi : SInv w K) (hf : FRel w K a.tmps fr) {t : TypeId} {x : Operand} {x' : Opd} (ho : o.op = .makeInterface t x) (hx : chkX x x' = true) (hu : ∃ d, P.underlying t = some d ∧ ∀ ms, d ≠ .interface ms) {d : DV}
    (hd : (∃ v, x'.ev fr = .p v ∧ d = .p (.iface t v)) ∨ (∃ r q s, x'.ev fr = .mp r q s ∧ d = .iface t (.mp r q s))) : Runs P o a w K st d K.σ := by
  have hr := chkX_rep hx hf
  obtain ⟨ty, hty, hne⟩ := hu
  have run : (execOp a.eval o).run P w = .ok (.value (.iface t (a.eval x))) w := by
    simp only [execOp, ho, Instr.makeInterface, Sem.run_bind, run_underlying hty, Result.andThen_ok]
    cases ty <;> first | exact absurd rfl (hne _) | simp
  rcases hd with ⟨v, h1, rfl⟩ | ⟨r, q, s, h1, rfl⟩
  · rw [h1] at hr
    refine .same hi run ?_
    generalize a.eval x = u at hr
    cases hr with | p _ _ h => exact .p _ _ (.iface _ _ _ h)
  · rw [h1] at hr
    exact .same hi run (.iface _ _ _ hr)

/-! ### Arithmetic -/
theorem size_data (s : ByteArray) : s.size = s.data.toList.length := by
  show s.data.size = _
  simp
theorem run_binInt {op : BinOp} {k : IntKind} {x y : Int} {p : PV} (h : binInt op k x y = some p) (t : TypeId) (w : World) :
    ∃ v, (binOp op t (.int k x) (.int k y)).run P w = .ok v w ∧ ∀ I, RepP w I v p := by
  cases op with
  | quo =>
    simp only [binInt] at h
    split at h
    · cases h
    · rename_i hy
      simp only [Option.some.injEq] at h; subst h
      exact ⟨_, by simp only [binOp, Op.intDiv, ne_eq, not_true_eq_false, if_false]; rw [if_neg hy]; rfl, fun I => .int _ _⟩
  | rem =>
    simp only [binInt] at h
    split at h
    · cases h
    · rename_i hy
      simp only [Option.some.injEq] at h; subst h
      exact ⟨_, by simp only [binOp, Op.intDiv, ne_eq, not_true_eq_false, if_false]; rw [if_neg hy]; rfl, fun I => .int _ _⟩
  | shl => cases h
  | shr => cases h
  | add => cases h; exact ⟨_, by simp only [binOp, Op.intArith, ne_eq, not_true_eq_false, if_false]; rfl, fun I => .int _ _⟩
  | sub => cases h; exact ⟨_, by simp only [binOp, Op.intArith, ne_eq, not_true_eq_false, if_false]; rfl, fun I => .int _ _⟩
  | mul => cases h; exact ⟨_, by simp only [binOp, Op.intArith, ne_eq, not_true_eq_false, if_false]; rfl, fun I => .int _ _⟩
  | and => cases h; exact ⟨_, by simp only [binOp, Op.intBits, ne_eq, not_true_eq_false, if_false]; rfl, fun I => .int _ _⟩
  | or => cases h; exact ⟨_, by simp only [binOp, Op.intBits, ne_eq, not_true_eq_false, if_false]; rfl, fun I => .int _ _⟩
  | xor => cases h; exact ⟨_, by simp only [binOp, Op.intBits, ne_eq, not_true_eq_false, if_false]; rfl, fun I => .int _ _⟩
  | andNot => cases h; exact ⟨_, by simp only [binOp, Op.intBits, ne_eq, not_true_eq_false, if_false]; rfl, fun I => .int _ _⟩
  | eql => cases h; exact ⟨_, by simp only [binOp, Op.intCmp, ne_eq, not_true_eq_false, if_false]; rfl, fun I => .bool _⟩
  | neq => cases h; exact ⟨_, by simp only [binOp, Op.intCmp, ne_eq, not_true_eq_false, if_false]; rfl, fun I => .bool _⟩
  | lss => cases h; exact ⟨_, by simp only [binOp, Op.intCmp, ne_eq, not_true_eq_false, if_false]; rfl, fun I => .bool _⟩
  | leq => cases h; exact ⟨_, by simp only [binOp, Op.intCmp, ne_eq, not_true_eq_false, if_false]; rfl, fun I => .bool _⟩
  | gtr => cases h; exact ⟨_, by simp only [binOp, Op.intCmp, ne_eq, not_true_eq_false, if_false]; rfl, fun I => .bool _⟩
  | geq => cases h; exact ⟨_, by simp only [binOp, Op.intCmp, ne_eq, not_true_eq_false, if_false]; rfl, fun I => .bool _⟩

theorem run_binStr {op : BinOp} {x y : ByteArray} {p : PV} (h : binStr op x.data.toList y.data.toList = some p) (t : TypeId) (w : World) :
    ∃ v, (binOp op t (.string x) (.string y)).run P w = .ok v w ∧ ∀ I, RepP w I v p := by
  have e : ∀ s : ByteArray, s.toList = s.data.toList := Lib.toList_data
  unfold binStr at h
  split at h <;> first
    | (split at h
       · cases h
       · rename_i hle
         simp only [Option.some.injEq] at h; subst h
         have hle' : ¬ ((x.size + y.size : Nat) : Int) > IntKind.i64.max := by rw [size_data, size_data]; exact hle
         exact ⟨.string (x ++ y), by simp only [binOp, Op.stringOp]; rw [if_neg hle']; rfl, fun I => .str _ _ (by simp)⟩)
    | (simp only [Option.some.injEq] at h; subst h
       exact ⟨_, by simp only [binOp, Op.stringOp, e]; rfl, fun I => .bool _⟩)
    | cases h

theorem guard_int (op : BinOp) (t : TypeId) (x y : Operand) (k k' : IntKind) (m n : Int) : (eqGuard op t x y (.int k m) (.int k' n)).run P w = .ok () w := by
  cases op <;> rfl
theorem guard_str (op : BinOp) (t : TypeId) (x y : Operand) (m n : ByteArray) : (eqGuard op t x y (.string m) (.string n)).run P w = .ok () w := by
  cases op <;> rfl

theorem run_bin (hi : SInv w K) (hf : FRel w K a.tmps fr) {op : BinOp} {t t2 : TypeId} {x y : Operand} {x' y' : Opd} (ho : o.op = .binOp op t x y t2) (hx : chkX x x' = true) (hy : chkX y y' = true) {p q r : PV}
    (h1 : x'.ev fr = .p p) (h2 : y'.ev fr = .p q) (hr : binPV op p q = some r) : Runs P o a w K st (.p r) K.σ := by
  have hx := chkX_rep hx hf
  have hy := chkX_rep hy hf
  rw [h1] at hx
  rw [h2] at hy
  suffices ∃ v, (do eqGuard op t x y (a.eval x) (a.eval y); binOp op t (a.eval x) (a.eval y) : Sem Value).run P w = .ok v w ∧ ∀ I, RepP w I v r by
    obtain ⟨v, hrun, hrep⟩ := this
    refine .same hi (v := v) ?_ (.p _ _ (hrep _))
    simp only [execOp, ho, Sem.run_bind] at hrun ⊢
    rw [hrun]
    rfl
  unfold binPV at hr
  split at hr
  · rename_i k x0 k' y0
    have ex := hx.int_inv
    have ey := hy.int_inv
    rw [ex, ey]
    simp only [Sem.run_bind, guard_int, Result.andThen_ok]
    split at hr
    · split at hr
      · cases hr
      · rename_i hb
        simp only [Option.some.injEq] at hr; subst hr
        exact ⟨_, by simp only [binOp, Op.shift]; rw [if_neg hb]; rfl, fun I => .int _ _⟩
    · split at hr
      · cases hr
      · rename_i hb
        simp only [Option.some.injEq] at hr; subst hr
        exact ⟨_, by simp only [binOp, Op.shift]; rw [if_neg hb]; rfl, fun I => .int _ _⟩
    · split at hr
      · rename_i hk
        subst hk
        exact run_binInt hr t w
      · cases hr
  · obtain ⟨s1, e1, rfl⟩ := hx.str_inv
    obtain ⟨s2, e2, rfl⟩ := hy.str_inv
    rw [e1, e2]
    simp only [Sem.run_bind, guard_str, Result.andThen_ok]
    exact run_binStr hr t w
  · cases hr

theorem run_un (hi : SInv w K) (hf : FRel w K a.tmps fr) {op : UnOp} {t : TypeId} {x : Operand} {x' : Opd} (ho : o.op = .unOp op t x) (hx : chkX x x' = true) {p r : PV} (h1 : x'.ev fr = .p p) (hr : unPV op p = some r) : Runs P o a w K st (.p r) K.σ := by
  have hx := chkX_rep hx hf
  rw [h1] at hx
  unfold unPV at hr
  split at hr
  · simp only [Option.some.injEq] at hr; subst hr
    exact .same hi (by simp only [execOp, ho, hx.int_inv, Op.unary, Op.intArith]; rfl) (.p _ _ (.int _ _))
  · simp only [Option.some.injEq] at hr; subst hr
    exact .same hi (by simp only [execOp, ho, hx.int_inv, Op.unary, Op.intBits]; rfl) (.p _ _ (.int _ _))
  · simp only [Option.some.injEq] at hr; subst hr
    exact .same hi (by simp only [execOp, ho, hx.bool_inv, Op.unary]; rfl) (.p _ _ (.bool _))
  · cases hr

theorem run_conv (hi : SInv w K) (hf : FRel w K a.tmps fr) {s t : TypeId} {x : Operand} {x' : Opd} (ho : o.op = .convert s t x) (hx : chkX x x' = true) {j k : IntKind} {n : Int} (hs : ∃ d, P.underlying s = some d) (ht : P.underlying t = some (.int k))
    (h1 : x'.ev fr = .p (.int j n)) : Runs P o a w K st (.p (.int k (k.wrap n))) K.σ := by
  have hx := chkX_rep hx hf
  rw [h1] at hx
  obtain ⟨d, hs⟩ := hs
  refine .same hi (v := .int k (k.wrap n)) ?_ (.p _ _ (.int _ _))
  simp [execOp, ho, hx.int_inv, convert, run_underlying hs, run_underlying ht, Conv.intToInt]

theorem run_convStr (hi : SInv w K) (hf : FRel w K a.tmps fr) {s t : TypeId} {x : Operand} {x' : Opd} (ho : o.op = .convert s t x) (hx : chkX x x' = true) {l : List UInt8} (hs : P.underlying s = some .string) (ht : P.underlying t = some .string)
    (h1 : x'.ev fr = .p (.str l)) : Runs P o a w K st (x'.ev fr) K.σ := by
  have hx := chkX_rep hx hf
  have hx' := hx
  rw [h1] at hx'
  obtain ⟨b, e, _⟩ := hx'.str_inv
  refine .same hi (v := a.eval x) ?_ hx
  simp [execOp, ho, e, convert, run_underlying hs, run_underlying ht]

theorem run_minI (hi : SInv w K) (hf : FRel w K a.tmps fr) {c : Call} {x y : Operand} {x' y' : Opd} (ho : o.op = .call c) (hc : c.callee = .builtin .min) (ha : c.args = #[x, y]) (hx : chkX x x' = true) (hy : chkX y y' = true) {k : IntKind} {m n : Int}
    (h1 : x'.ev fr = .p (.int k m)) (h2 : y'.ev fr = .p (.int k n)) : Runs P o a w K st (.p (.int k (if n < m then n else m))) K.σ := by
  have hx := chkX_rep hx hf
  have hy := chkX_rep hy hf
  rw [h1] at hx; rw [h2] at hy
  refine .same hi (v := .int k (if n < m then n else m)) ?_ (.p _ _ (.int _ _))
  simp [execOp, ho, resolve, hc, ha, hx.int_inv, hy.int_inv, invoke, builtin, Builtin.min_, Builtin.min2]
theorem run_maxI (hi : SInv w K) (hf : FRel w K a.tmps fr) {c : Call} {x y : Operand} {x' y' : Opd} (ho : o.op = .call c) (hc : c.callee = .builtin .max) (ha : c.args = #[x, y]) (hx : chkX x x' = true) (hy : chkX y y' = true) {k : IntKind} {m n : Int}
    (h1 : x'.ev fr = .p (.int k m)) (h2 : y'.ev fr = .p (.int k n)) : Runs P o a w K st (.p (.int k (if n > m then n else m))) K.σ := by
  have hx := chkX_rep hx hf
  have hy := chkX_rep hy hf
  rw [h1] at hx; rw [h2] at hy
  refine .same hi (v := .int k (if n > m then n else m)) ?_ (.p _ _ (.int _ _))
  simp [execOp, ho, resolve, hc, ha, hx.int_inv, hy.int_inv, invoke, builtin, Builtin.max_, Builtin.max2]
end
end Go.Ev
