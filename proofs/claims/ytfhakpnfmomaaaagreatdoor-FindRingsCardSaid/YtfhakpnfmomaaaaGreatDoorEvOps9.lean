/- A part of an evaluator of closed runs, and of the proof that what it answers holds of the model. No conditions. -/
import Derived.Test.YtfhakpnfmomaaaaGreatDoorEvOps8
namespace Go.Ev
open Go
section
variable {P : Program} {o : Oper} {a : Act} {w : World} {K : Ctx} {fr : Frame} {st : Nat}

def chkXs : List Operand → List Opd → Bool
  | [], [] => true
  | x :: xs, y :: ys => chkX x y && chkXs xs ys
  | _, _ => false

theorem args_rep (hf : FRel w K a.tmps fr) : ∀ {xs : List Operand} {ys : List Opd}, chkXs xs ys = true → (xs.map a.eval).length = (evArgs fr ys).length ∧ ∀ i, i < (evArgs fr ys).length → RepD w K ((xs.map a.eval).getD i undef) ((evArgs fr ys).getD i .undef)
  | [], [], _ => ⟨rfl, fun i hi => absurd hi (by simp [evArgs])⟩
  | [], _ :: _, h => by simp [chkXs] at h
  | _ :: _, [], h => by simp [chkXs] at h
  | x :: xs, y :: ys, h => by
    simp only [chkXs, Bool.and_eq_true] at h
    obtain ⟨h1, h2⟩ := args_rep hf h.2
    refine ⟨by simp only [List.map_cons, List.length_cons, evArgs, h1], fun i hi => ?_⟩
    cases i with
    | zero => simpa [evArgs] using chkX_rep h.1 hf
    | succ i => simpa [evArgs] using h2 i (by simpa [evArgs] using hi)

theorem mapO_spec {α β : Type} {g : α → Option β} : ∀ {l : List α} {r : List β}, mapO g l = some r → l.length = r.length ∧ ∀ (i : Nat) (x : α), l[i]? = some x → ∃ y, g x = some y ∧ r[i]? = some y
  | [], _, h => by simp only [mapO, Option.some.injEq] at h; subst h; exact ⟨rfl, fun i x h => by simp at h⟩
  | x :: l, r, h => by
    simp only [mapO] at h
    split at h
    · rename_i b bs h1 h2
      simp only [Option.some.injEq] at h
      subst h
      obtain ⟨e1, e2⟩ := mapO_spec h2
      refine ⟨by simp [e1], fun i y hy => ?_⟩
      cases i with
      | zero => simp only [List.getElem?_cons_zero, Option.some.injEq] at hy; subst hy; exact ⟨b, h1, by simp⟩
      | succ i => simpa using e2 i y (by simpa using hy)
    · cases h

theorem keys_rep {vs : List Value} {ds : List DV} {ps : List PV} (hl : vs.length = ds.length) (hr : ∀ i, i < ds.length → RepD w K (vs.getD i undef) (ds.getD i .undef)) (h : mapO keyOf ds = some ps) :
    vs.length = ps.length ∧ ∀ i, i < ps.length → RepP w K.im (vs.getD i undef) (ps.getD i .nilp) := by
  obtain ⟨e1, e2⟩ := mapO_spec h
  refine ⟨by omega, fun i hi => ?_⟩
  have hi' : i < ds.length := by omega
  obtain ⟨y, h1, h2⟩ := e2 i (ds[i]) (List.getElem?_eq_getElem hi')
  have h3 := hr i hi'
  rw [List.getD, List.getD, List.getElem?_eq_getElem hi'] at h3
  have := keyOf_rep h3 h1
  rw [List.getD, List.getD, h2]
  exact this

theorem run_clo (hi : SInv w K) (hf : FRel w K a.tmps fr) {f : FuncId} {xs ys : Array Operand} {xs' ys' : List Opd} (ho : o.op = .makeFunc (.func f) xs ys) (hx : chkXs xs.toList xs' = true) (hy : chkXs ys.toList ys' = true) {d : DV}
    (hd : (∃ p q, mapO keyOf (evArgs fr xs') = some p ∧ mapO keyOf (evArgs fr ys') = some q ∧ d = .p (.clo f p q)) ∨ d = .clo f (evArgs fr xs') (evArgs fr ys')) : Runs P o a w K st d K.σ := by
  obtain ⟨h1, h2⟩ := args_rep hf hx
  obtain ⟨h3, h4⟩ := args_rep hf hy
  have hrun : (execOp a.eval o).run P w = .ok (.value (.func (.func f) (xs.map a.eval) (ys.map a.eval))) w := by simp [execOp, ho, Instr.makeFunc]
  refine .same hi hrun ?_
  have gx : ∀ (zs : Array Operand) i, (zs.map a.eval).getD i undef = (zs.toList.map a.eval).getD i undef := fun zs i => by rw [getD_toList, Array.toList_map]
  rcases hd with ⟨p, q, hp, hq, rfl⟩ | rfl
  · obtain ⟨k1, k2⟩ := keys_rep h1 h2 hp
    obtain ⟨k3, k4⟩ := keys_rep h3 h4 hq
    exact .p _ _ (.clo _ _ _ _ _ (by simpa using k1) (by simpa using k3) (fun i h => by rw [gx]; exact k2 i h) (fun i h => by rw [gx]; exact k4 i h))
  · exact .clo _ _ _ _ _ (by simpa using h1) (by simpa using h3) (fun i h => by rw [gx]; exact h2 i h) (fun i h => by rw [gx]; exact h4 i h)

theorem run_indexAgg (hi : SInv w K) (hf : FRel w K a.tmps fr) {t e : TypeId} {len s : Nat} {ag : Bool} {x y : Operand} {x' y' : Opd} (ho : o.op = .index t x y) (hu : P.underlying t = some (.array len e)) (hn : (P.info? e).map (·.size) = some s) (ha : aggB P e = some ag)
    (hx : chkX x x' = true) (hy : chkX y y' = true) {cs : List DV} {n : Nat} (h1 : x'.ev fr = .agg cs) (h2 : idx (y'.ev fr) = some n) (hlt : n < len) (hcs : cs.length = len * s) {d : DV}
    (hd : if ag then d = .agg ((cs.drop (n * s)).take s) else cs[n * s]? = some d) : Runs P o a w K st d K.σ := by
  have hr := chkX_rep hx hf
  rw [h1] at hr
  obtain ⟨k, hyv⟩ := idx_inv (chkX_rep hy hf) h2
  generalize hv : a.eval x = v at hr
  have hai : (asIntOf (.int k (n : Int))).run P w = .ok (k, (n : Int)) w := rfl
  have hb : (0 : Int) ≤ (n : Int) ∧ (n : Int) < (len : Int) := by omega
  have hmul : (n + 1) * s ≤ len * s := Nat.mul_le_mul_right _ hlt
  rw [Nat.add_mul] at hmul
  cases hr' : hr with
  | agg vs _ hl hrr =>
    cases ag with
    | true =>
      simp only [if_true] at hd
      subst hd
      refine .same hi (v := .agg (vs.extract (n * s) (n * s + s))) ?_ (repD_part hr _ _ (by omega))
      simp only [execOp, ho, Instr.index, Sem.run_bind, hyv, hai, Result.andThen_ok, run_underlying hu, hv, hb, and_self, if_true, run_size hn, Int.toNat_natCast, part, run_isAgg ha, Sem.run_pure]
    | false =>
      simp only [Bool.false_eq_true, if_false] at hd
      have h5 := (List.getElem?_eq_some_iff.1 hd).1
      have h6 : n * s < vs.size := by omega
      refine .same hi (v := vs.getD (n * s) undef) ?_ ?_
      · have h7 : vs[n * s]? = some (vs.getD (n * s) undef) := by simp [Array.getD, h6]
        simp only [execOp, ho, Instr.index, Sem.run_bind, hyv, hai, Result.andThen_ok, run_underlying hu, hv, hb, and_self, if_true, run_size hn, Int.toNat_natCast, part, run_isAgg ha, Bool.false_eq_true, if_false, h7, Sem.run_pure]
      · have := hrr (n * s) h5
        rwa [List.getD, hd] at this

theorem zero_cells {z : Value} {zero : List PV} (hc : chkL z.cells.toList zero = true) (n : Nat) : RowsRep w K zero.length (Builtin.zeroCells z.cells n) (List.replicate n (zero.map .p)) := by
  have : Builtin.zeroCells z.cells n = (Array.range (n * zero.length)).map (z.cells[· % z.cells.size]!) := by
    obtain ⟨h1, h2⟩ := chkL_rep hc
    have hs : z.cells.size = zero.length := by simpa using h1
    simp [Builtin.zeroCells, hs]
  rw [this]
  exact zero_row hc n

theorem run_clear (hi : SInv w K) (hf : FRel w K a.tmps fr) {c : Call} {x : Operand} {x' : Opd} {t e : TypeId} {zero : List PV} {z : Value} (ho : o.op = .call c) (hc : c.callee = .builtin .clear) (ha : c.args = #[x]) (hat : c.argTypes = #[t]) (hu : P.underlying t = some (.slice e))
    (hz : (P.info? e).bind (·.zero) = some z) (hcz : chkL z.cells.toList zero = true) (hx : chkX x x' = true) {r : Ref} {off len : Nat} (h0 : x'.ev fr = .own r off len) {rows : List (List DV)} (hg : K.σ.obj.get r = some (.arr zero.length rows true)) (hle : off + len ≤ rows.length) :
    Runs P o a w K st (.tup []) (K.σ.set r (.arr zero.length (rows.take off ++ List.replicate len (zero.map .p) ++ rows.drop (off + len)) true)) := by
  have hr := chkX_rep hx hf
  rw [h0] at hr
  generalize hv : a.eval x = v at hr
  obtain ⟨zl, zr⟩ := chkL_rep hcz
  have hzs : z.cells.size = zero.length := by simpa using zl
  cases hr with
  | own ad cap _ _ _ hus hcap hr =>
    obtain ⟨_, _, b, hb, had⟩ := hr _ _ _ hg
    have hat0 := get_spec.1 hg
    obtain ⟨_, b', cur, e', hb', hheap, hcur, hkap, hrl, hcell⟩ := hi.obj _ _ _ _ hat0
    rw [hb] at hb'; cases hb'
    have hsize : (off + len) * zero.length ≤ K.κ r.st * zero.length := Nat.mul_le_mul_right _ (Nat.le_trans hle hkap)
    rw [Nat.add_mul] at hsize
    obtain ⟨info, hi1, hi2⟩ := Option.bind_eq_some_iff.1 hz
    have hzv : (zeroValue e).run P w = .ok z w := by simp [zeroValue, typeInfo, hi1, hi2]
    by_cases hl0 : len = 0
    · subst hl0
      have e1 : rows.take off ++ List.replicate 0 (zero.map DV.p) ++ rows.drop (off + 0) = rows := by simp
      rw [e1, Store.set, put_same hat0]
      have hrun : (execOp a.eval o).run P w = .ok (.value (.tuple #[])) w := by
        simp [execOp, ho, resolve, hc, ha, hat, invoke, builtin, Builtin.clear_, run_underlying hu, hv]
      exact .same hi hrun (.tup _ _ rfl (fun i h => absurd h (by simp)))
    · have had := had (by omega)
      subst had
      obtain ⟨q1, q2, q3⟩ := zero_cells (w := w) (K := K) hcz len
      generalize hzc : Builtin.zeroCells z.cells len = zc at q1 q3
      rw [List.length_replicate] at q1
      have hone : ∀ v ∈ zc.toList, v.oneCell' = true := by
        intro v hv
        obtain ⟨k, hk, rfl⟩ := List.getElem_of_mem hv
        have hk1 : k < zc.size := by simpa using hk
        have hk' : k < len * zero.length := by omega
        have h1 := (q3 (k / zero.length) (k % zero.length) (by simpa using div_lt hk') (mod_lt' hk')).2
        rw [div_mod] at h1
        simpa [Array.getD, hk1] using h1
      have hzl : zc.toList.length = len * zero.length := by rw [Array.length_toList]; exact q1
      have hst := run_storeCells_at P b (off * zero.length) e' zc.toList 0 cur w hheap (by omega) hone
      simp only [Nat.add_zero] at hst
      generalize hnew : (cur.toList.take (off * zero.length) ++ zc.toList ++ cur.toList.drop (off * zero.length + zc.toList.length)).toArray = new at hst
      have hng : ∀ i, new.getD i undef = if off * zero.length ≤ i ∧ i < off * zero.length + len * zero.length then zc.getD (i - off * zero.length) undef else cur.getD i undef := by
        intro i
        rw [← hnew, over_getD cur _ _ (by omega) i, hzl, ← getD_toList]
      have hns : new.size = cur.size := by
        rw [← hnew]
        simp only [List.size_toArray, List.length_append, List.length_take, List.length_drop, Array.length_toList]
        omega
      have hrun : (execOp a.eval o).run P w = .ok (.value (.tuple #[])) (w.setRow b new) := by
        have hl0' : len ≠ 0 := hl0
        obtain ⟨m, rfl⟩ : ∃ m, len = m + 1 := ⟨len - 1, by omega⟩
        simp [execOp, ho, resolve, hc, ha, hat, invoke, builtin, Builtin.clear_, run_underlying hu, hv, hzv, hzc, hst]
      have hlen' : (rows.take off ++ List.replicate len (zero.map DV.p) ++ rows.drop (off + len)).length = rows.length := by simp; omega
      obtain ⟨e1, e2⟩ := set_obj (w1 := w.setRow b new) hi r.f r.s r.st (.arr zero.length rows true) (.arr zero.length (rows.take off ++ List.replicate len (zero.map .p) ++ rows.drop (off + len)) true) hat0 ⟨rfl, hlen'.symm⟩ (K.bn r.st) (fun _ _ => rfl)
        (by rw [setRow_size]; exact Nat.le_refl _) rfl rfl rfl (fun k hk => setRow_heap_ne _ _ _ _ (fun e => hk (e ▸ hb)))
        (by
          rintro b' o' (⟨f', s', st', sz', rows', h1, h2⟩ | h1)
          · rcases put_obj h1 with ⟨_, _, h⟩ | ⟨_, h⟩
            · simp only [Option.some.injEq, Prod.mk.injEq] at h
              exact .inl ⟨_, _, _, _, _, hat0, by rw [h.1]; exact h2⟩
            · exact .inl ⟨_, _, _, _, _, h, h2⟩
          · exact .inr h1)
        (by
          rintro b' (⟨f', s', st', es, h1, h2⟩ | h1)
          · rcases put_obj h1 with ⟨_, _, h⟩ | ⟨_, h⟩
            · simp at h
            · exact .inl ⟨_, _, _, _, h, h2⟩
          · exact .inr h1)
        (fun k o' v' hk hcell hM => absurd (.inl ⟨_, _, _, _, _, hat0, hk⟩) hM)
        (fun k es c hk hmap => by rw [hb] at hk; cases hk; rw [hheap] at hmap; cases hmap)
        (fun hx => by
          refine ⟨b, new, e', hb, setRow_heap w b cur new e' (0, 0) hheap, by rw [hns]; exact hcur, by rw [hlen']; exact hkap, ?_, ?_⟩
          · intro q hq
            rcases List.mem_append.1 hq with hq | hq
            · rcases List.mem_append.1 hq with hq | hq
              · exact hrl q (List.mem_of_mem_take hq)
              · rw [(List.mem_replicate.1 hq).2]; simp
            · exact hrl q (List.mem_of_mem_drop hq)
          · intro i j hi' hj
            rw [hlen'] at hi'
            rw [hng]
            have hlt := row_lt (n := rows.length) hi' hj
            by_cases h1 : i < off
            · have e9 : (rows.take off ++ List.replicate len (zero.map DV.p) ++ rows.drop (off + len)).getD i [] = rows.getD i [] := by
                rw [List.append_assoc]
                simp [List.getD, List.getElem?_append_left (show i < (rows.take off).length by simp; omega), h1]
              have h8 := row_lt h1 hj
              rw [if_neg (by omega), e9]
              exact ⟨(hcell i j hi' hj).1.ext hx, (hcell i j hi' hj).2⟩
            · by_cases h2 : i < off + len
              · obtain ⟨k, rfl⟩ : ∃ k, i = off + k := ⟨i - off, by omega⟩
                have hk : k < len := by omega
                have e9 : (rows.take off ++ List.replicate len (zero.map DV.p) ++ rows.drop (off + len)).getD (off + k) [] = (List.replicate len (zero.map DV.p)).getD k [] := by
                  have h7 : (rows.take off).length = off := by simp; omega
                  rw [List.append_assoc]
                  simp only [List.getD]
                  rw [List.getElem?_append_right (by omega), h7, List.getElem?_append_left (by simp; omega), show off + k - off = k by omega]
                have h8 := row_lt hk hj
                rw [Nat.add_mul, if_pos (by omega), e9, show off * zero.length + k * zero.length + j - off * zero.length = k * zero.length + j by omega]
                have h9 := q3 k j (by simpa using hk) hj
                exact ⟨h9.1.ext hx, h9.2⟩
              · have e9 : (rows.take off ++ List.replicate len (zero.map DV.p) ++ rows.drop (off + len)).getD i [] = rows.getD i [] := by
                  have h7 : (rows.take off ++ List.replicate len (zero.map DV.p)).length = off + len := by simp; omega
                  simp only [List.getD]
                  rw [List.getElem?_append_right (by omega), h7, List.getElem?_drop, show off + len + (i - (off + len)) = i by omega]
                have h8 : (off + len) * zero.length ≤ i * zero.length := Nat.mul_le_mul_right _ (by omega)
                rw [Nat.add_mul] at h8
                rw [if_neg (by omega), e9]
                exact ⟨(hcell i j hi' hj).1.ext hx, (hcell i j hi' hj).2⟩)
      exact ⟨_, _, _, .inl hrun, e1, e2, rfl, .tup _ _ rfl (fun i h => absurd h (by simp)), fun _ h => .inl h⟩
end
end Go.Ev
