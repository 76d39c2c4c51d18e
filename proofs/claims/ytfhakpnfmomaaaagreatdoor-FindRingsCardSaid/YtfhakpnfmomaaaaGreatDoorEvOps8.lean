/- A part of an evaluator of closed runs, and of the proof that what it answers holds of the model. No conditions. -/
import Derived.Test.YtfhakpnfmomaaaaGreatDoorEvOps7
namespace Go.Ev
open Go
section
variable {P : Program} {o : Oper} {a : Act} {w : World} {K : Ctx} {fr : Frame} {st : Nat}

/-- An object goes, another comes: at its block, or at a new one. -/
def Ctx.renew (K : Ctx) (f0 s0 f s st : Nat) (o : Ob) (b cap : Nat) : Ctx :=
  { K with σ := (K.σ.put f0 s0 none).put f s (some (st, o)), ι := fun x => if x = st then some b else K.ι x, κ := fun x => if x = st then cap else K.κ x, used := fun x => x = st ∨ K.used x }

theorem renew_obj {K : Ctx} {f0 s0 f s st : Nat} {o : Ob} {b cap f' s' st' : Nat} {o' : Ob} (h : (K.renew f0 s0 f s st o b cap).σ.obj f' s' = some (st', o')) :
    (st' = st ∧ o' = o ∧ f' = f ∧ s' = s) ∨ (¬ (f' = f ∧ s' = s) ∧ ¬ (f' = f0 ∧ s' = s0) ∧ K.σ.obj f' s' = some (st', o')) := by
  rcases put_obj h with ⟨h1, h2, h3⟩ | ⟨h1, h2⟩
  · simp only [Option.some.injEq, Prod.mk.injEq] at h3
    exact .inl ⟨h3.1.symm, h3.2.symm, h1, h2⟩
  · rcases put_obj h2 with ⟨_, _, h3⟩ | ⟨h3, h4⟩
    · cases h3
    · exact .inr ⟨h1, h3, h4⟩

theorem renew {w1 : World} (hi : SInv w K) (ho : Old w K) (f0 s0 st0 sz0 : Nat) (rows0 : List (List DV)) (hat : K.σ.obj f0 s0 = some (st0, .arr sz0 rows0 true)) (f s : Nat) (o1 : Ob) (b1 cap1 : Nat) (hst : ¬ K.used st)
    (hsz : w.heap.size ≤ w1.heap.size) (hos : w1.os = w.os) (hta : w1.tape = w.tape) (hou : w1.output = w.output) (hh : ∀ k, k < w.heap.size → K.ι st0 ≠ some k → w1.heap[k]? = w.heap[k]?)
    (hb : K.ι st0 = some b1 ∨ w.heap.size ≤ b1) (hm : ∃ sz rows, o1 = .arr sz rows true)
    (hrep : Ext w K w1 (K.renew f0 s0 f s st o1 b1 cap1) → ObRep w1 (K.renew f0 s0 f s st o1 b1 cap1) st o1) :
    Ext w K w1 (K.renew f0 s0 f s st o1 b1 cap1) ∧ SInv w1 (K.renew f0 s0 f s st o1 b1 cap1) := by
  have hne : ∀ {st'}, K.used st' → st' ≠ st := fun h e => hst (e ▸ h)
  have hl0 : Live K st0 := .inl ⟨_, _, _, hat⟩
  have hu0 := (hi.obj _ _ _ _ hat).1
  obtain ⟨sz1, rows1, rfl⟩ := hm
  generalize hK1 : K.renew f0 s0 f s st (.arr sz1 rows1 true) b1 cap1 = K1 at *
  have hι : ∀ {x}, x ≠ st → K1.ι x = K.ι x := fun h => by rw [← hK1]; simp [Ctx.renew, h]
  have hι1 : K1.ι st = some b1 := by rw [← hK1]; simp [Ctx.renew]
  have hκ : ∀ {x}, x ≠ st → K1.κ x = K.κ x := fun h => by rw [← hK1]; simp [Ctx.renew, h]
  have hobj : ∀ {f' s' st' o'}, K1.σ.obj f' s' = some (st', o') → (st' = st ∧ o' = .arr sz1 rows1 true ∧ f' = f ∧ s' = s) ∨ (¬ (f' = f ∧ s' = s) ∧ ¬ (f' = f0 ∧ s' = s0) ∧ K.σ.obj f' s' = some (st', o')) := fun h => renew_obj (by rw [hK1]; exact h)
  have htok : K1.σ.tok = K.σ.tok := by rw [← hK1]; rfl
  have hX : K1.X = K.X := by rw [← hK1]; rfl
  have hXM : K1.XM = K.XM := by rw [← hK1]; rfl
  have hused : ∀ {x}, K.used x → K1.used x := fun h => by rw [← hK1]; exact .inr h
  have husedst : K1.used st := by rw [← hK1]; exact .inl rfl
  have hG : K1.G = K.G := by rw [← hK1]; rfl
  have hbn : K1.bn = K.bn := by rw [← hK1]; rfl
  have hM : ∀ b o', b < w.heap.size → K1.M b o' → K.M b o' := by
    rintro b o' hb' (⟨f', s', st', sz, rows, h1, h2⟩ | ⟨f', s', st', sz, n, h1, h2, h3⟩ | h1)
    · rcases hobj h1 with ⟨rfl, _, _, _⟩ | ⟨_, _, h⟩
      · rw [hι1] at h2; cases h2
        rcases hb with hb | hb
        · exact .inl ⟨_, _, _, _, _, hat, hb⟩
        · omega
      · rw [hι (hne (hi.obj _ _ _ _ h).1)] at h2
        exact .inl ⟨_, _, _, _, _, h, h2⟩
    · rw [htok] at h1
      rw [hι (hne (hi.tok _ _ _ _ _ h1).1)] at h2
      exact .inr (.inl ⟨_, _, _, _, _, h1, h2, h3⟩)
    · rw [hX] at h1; exact .inr (.inr h1)
  have hMM : ∀ b, K1.MM b → K.MM b := by
    rintro b (⟨f', s', st', es, h1, h2⟩ | h1)
    · rcases hobj h1 with ⟨_, h, _⟩ | ⟨_, _, h⟩
      · cases h
      · rw [hι (hne (hi.obj _ _ _ _ h).1)] at h2
        exact .inl ⟨_, _, _, _, h, h2⟩
    · rw [hXM] at h1; exact .inr h1
  have hlive : ∀ {x}, Live K1 x → x = st ∨ (x ≠ st ∧ x ≠ st0 ∧ Live K x) := by
    rintro x (⟨f', s', o', h1⟩ | ⟨f', s', sz, n, h1⟩)
    · rcases hobj h1 with ⟨h, _⟩ | ⟨_, hn, h⟩
      · exact .inl h
      · refine .inr ⟨hne (hi.obj _ _ _ _ h).1, fun e => ?_, .inl ⟨_, _, _, h⟩⟩
        subst e
        exact hn (hi.oo _ _ _ _ _ _ _ h hat)
    · rw [htok] at h1
      refine .inr ⟨hne (hi.tok _ _ _ _ _ h1).1, fun e => ?_, .inr ⟨_, _, _, _, h1⟩⟩
      subst e
      exact hi.ot _ _ _ _ _ _ _ hat h1
  have hother : ∀ {x b}, Live K x → x ≠ st0 → K.ι x = some b → w1.heap[b]? = w.heap[b]? := fun l hn h =>
    hh _ (hi.live_lt l h) (fun h' => hn (hi.inj _ _ _ l hl0 h h'))
  have hx : Ext w K w1 K1 := by
    refine ⟨hsz, hos, hta, hou, ⟨?_, ?_, hG⟩, hX, hXM, fun x h => hused h, ?_, ?_, ?_, ?_, hM, fun b _ h => hMM b h⟩
    · intro b o' v h1 h2
      have hlt := cell_lt h1
      refine ⟨?_, fun h => h2 (hM b o' hlt h)⟩
      by_cases hb' : K.ι st0 = some b
      · exact absurd (.inl ⟨_, _, _, _, _, hat, hb'⟩) h2
      · exact (cell_of_heap (hh b hlt hb') o').trans h1
    · intro r es c h1 h2
      refine ⟨?_, fun h => h2 (hMM r h)⟩
      by_cases hb' : K.ι st0 = some r
      · obtain ⟨_, b', cs, e, e1, e2, _⟩ := hi.obj _ _ _ _ hat
        rw [hb'] at e1; cases e1
        rw [h1] at e2; cases e2
      · exact (hh r (block_lt h1) hb').trans h1
    · intro r o' hu h1
      rw [get_spec] at h1
      rcases hobj h1 with ⟨h, _⟩ | ⟨_, _, h⟩
      · exact absurd h (hne hu)
      · exact ⟨o', get_spec.2 h, .refl _, hι (hne hu), hκ (hne hu), fun _ _ => by rw [hbn]⟩
    · rintro b hb' ⟨x, hl, h2⟩
      rcases hlive hl with rfl | ⟨h3, _, h4⟩
      · rw [hι1] at h2; cases h2
        rcases hb with hb | hb
        · exact ⟨st0, hl0, hb⟩
        · omega
      · rw [hι h3] at h2
        exact ⟨x, h4, h2⟩
    · exact fun b hb' hl => hh b hb' (fun h => hl ⟨st0, hl0, h⟩)
    · intro r sz' n' hu h1
      rw [right_spec, htok] at h1
      exact ⟨n', right_spec.2 h1, Nat.le_refl _, fun _ => ⟨hι (hne hu), hκ (hne hu)⟩⟩
  refine ⟨hx, ?_⟩
  refine ⟨?_, ?_, ?_, ?_, ?_, ?_, ?_⟩
  · intro f' s' st' o' h1
    rcases hobj h1 with ⟨rfl, rfl, _, _⟩ | ⟨_, hn, h⟩
    · exact ⟨husedst, hrep hx⟩
    · obtain ⟨hu, hr⟩ := hi.obj _ _ _ _ h
      refine ⟨hused hu, hr.ext hx (hι (hne hu)) (hκ (hne hu)) (fun _ _ => by rw [hbn]) (fun b hb' => hother (.inl ⟨_, _, _, h⟩) (fun e => ?_) hb')⟩
      subst e
      exact hn (hi.oo _ _ _ _ _ _ _ h hat)
  · intro f' s' st' sz n h1
    rw [htok] at h1
    obtain ⟨hu, hr⟩ := hi.tok _ _ _ _ _ h1
    refine ⟨hused hu, ?_⟩
    rw [hι (hne hu), hκ (hne hu)]
    rcases hr with hr | ⟨b, cs, e, h2, h3, h4⟩
    · exact .inl hr
    · refine .inr ⟨b, cs, e, h2, (hother (.inr ⟨_, _, _, _, h1⟩) (fun e => ?_) h2).trans h3, h4⟩
      subst e
      exact hi.ot _ _ _ _ _ _ _ hat h1
  · intro f1 s1 f2 s2 st' o1 o2 h1 h2
    rcases hobj h1 with ⟨e1, _, a1, b1⟩ | ⟨_, _, h⟩ <;> rcases hobj h2 with ⟨e2, _, a2, b2⟩ | ⟨_, _, h'⟩
    · exact ⟨a1.trans a2.symm, b1.trans b2.symm⟩
    · exact absurd e1 (hne (hi.obj _ _ _ _ h').1)
    · exact absurd e2 (hne (hi.obj _ _ _ _ h).1)
    · exact hi.oo _ _ _ _ _ _ _ h h'
  · intro f1 s1 f2 s2 st' a1 a2 h1 h2
    rw [htok] at h1 h2
    exact hi.tt _ _ _ _ _ _ _ h1 h2
  · intro f1 s1 f2 s2 st' o1' a1 h1 h2
    rw [htok] at h2
    obtain ⟨x, y⟩ := a1
    rcases hobj h1 with ⟨e, _⟩ | ⟨_, _, h⟩
    · exact absurd e (hne (hi.tok _ _ _ _ _ h2).1)
    · exact hi.ot _ _ _ _ _ _ _ h h2
  · intro x y b l1 l2 h1 h2
    rcases hlive l1 with e1 | ⟨n1, m1, k1⟩ <;> rcases hlive l2 with e2 | ⟨n2, m2, k2⟩
    · rw [e1, e2]
    · rw [e1, hι1] at h1; cases h1
      rw [hι n2] at h2
      rcases hb with hb | hb
      · exact absurd (hi.inj _ _ _ k2 hl0 h2 hb) m2
      · have := hi.live_lt k2 h2; omega
    · rw [e2, hι1] at h2; cases h2
      rw [hι n1] at h1
      rcases hb with hb | hb
      · exact absurd (hi.inj _ _ _ k1 hl0 h1 hb) m1
      · have := hi.live_lt k1 h1; omega
    · rw [hι n1] at h1; rw [hι n2] at h2
      exact hi.inj _ _ _ k1 k2 h1 h2
  · intro x b o' l h
    rw [hX, hXM]
    rcases hlive l with rfl | ⟨n1, _, k1⟩
    · rw [hι1] at h; cases h
      rcases hb with hb | hb
      · exact hi.X _ _ _ hl0 hb
      · exact ⟨fun hX => by have := ho.X _ _ hX; omega, fun hX => by have := ho.XM _ hX; omega⟩
    · rw [hι n1] at h
      exact hi.X _ _ _ k1 h
/-! ### Appends to objects of one's own -/
/-- What is appended, as cells that may lead anywhere. -/
def SrcD (P : Program) (w : World) (K : Ctx) (s : Nat) (v : Value) (rows : List (List DV)) : Prop :=
  (∀ r ∈ rows, r.length = s) ∧ ∃ cs : Array Value, cs.size = rows.length * s ∧ (∀ w1, (Builtin.lenOf v).run P w1 = .ok rows.length w1) ∧ (∀ w1, w1.heap = w.heap → (Builtin.firstCells s rows.length v).run P w1 = .ok cs w1) ∧
    ∀ i j, i < rows.length → j < s → RepD w K (cs.getD (i * s + j) undef) ((rows.getD i []).getD j .undef) ∧ (cs.getD (i * s + j) undef).oneCell' = true

theorem srcD_of_pure {s : Nat} {v : Value} {rows : List (List PV)} (h : Src P w K s v rows) : SrcD P w K s v (rows.map fun r => r.map .p) := by
  obtain ⟨h1, cs, h2, h3, h4, h5⟩ := h
  refine ⟨fun r hr => ?_, cs, by simpa using h2, by simpa using h3, by simpa using h4, fun i j hi hj => ?_⟩
  · obtain ⟨q, hq, rfl⟩ := List.mem_map.1 hr
    simpa using h1 q hq
  · have hi' : i < rows.length := by simpa using hi
    obtain ⟨h6, h7⟩ := h5 i j hi' hj
    have hlen : (rows.getD i []).length = s := by
      rw [List.getD, List.getElem?_eq_getElem hi']; exact h1 _ (List.getElem_mem hi')
    have e : ((rows.map fun r => r.map DV.p).getD i []).getD j .undef = .p ((rows.getD i []).getD j .nilp) := by
      have e1 : (rows.map fun r => r.map DV.p).getD i [] = (rows.getD i []).map DV.p := by simp [List.getD, List.getElem?_eq_getElem hi']
      rw [e1]
      generalize rows.getD i [] = r at hlen
      have : j < r.length := by omega
      simp [List.getD, List.getElem?_eq_getElem this]
    rw [e]
    exact ⟨.p _ _ h6, h7⟩

theorem srcD_of (hi : SInv w K) {v : Value} {d : DV} (hr : RepD w K v d) {ro : Objs} (hro : ∀ r o, ro.get r = some o → K.σ.obj.get r = some o) {s : Nat} {rows : List (List DV)} (hs : srcRowsD ro s d = some rows) : SrcD P w K s v rows := by
  unfold srcRowsD at hs
  split at hs
  · rename_i r off len
    split at hs
    · rename_i sz rws mu hg
      split at hs
      · rename_i hcond
        obtain ⟨rfl, hle⟩ := hcond
        simp only [Option.some.injEq] at hs
        subst hs
        have hlen : ((rws.drop off).take len).length = len := by simp; omega
        cases hr with
        | own ad cap _ _ _ hu hcap hr =>
          obtain ⟨_, _, b, hb, had⟩ := hr _ _ _ (hro _ _ hg)
          obtain ⟨_, b', cs, e, hb', hheap, hsz, hkap, hl, hrep⟩ := hi.obj _ _ _ _ (get_spec.1 (hro _ _ hg))
          rw [hb] at hb'; cases hb'
          have hlr : ∀ q ∈ (rws.drop off).take len, q.length = sz := fun q hq => hl q (List.mem_of_mem_drop (List.mem_of_mem_take hq))
          by_cases h0 : len = 0
          · subst h0
            exact ⟨hlr, #[], by simp, by simp [Builtin.lenOf], fun w1 _ => firstCells_zero _ _ _ _ w1, fun i j hi => absurd hi (by simp)⟩
          · have had' := had (by omega)
            subst had'
            have hsize : (off + len) * sz ≤ K.κ r.st * sz := Nat.mul_le_mul_right _ (Nat.le_trans hle hkap)
            rw [Nat.add_mul] at hsize
            refine ⟨hlr, _, ?_, by simp [Builtin.lenOf]; omega, by rw [hlen]; exact firstCells_at (fun j => cs.getD (off * sz + j) undef) (fun j hj => cell_heap hheap (by omega)) _ _, fun i j hi' hj => ?_⟩
            · rw [hlen]; simp
            · rw [hlen] at hi'
              have hlt := row_lt hi' hj
              have e1 : ((List.range (len * sz)).map fun j => cs.getD (off * sz + j) undef).toArray.getD (i * sz + j) undef = cs.getD (off * sz + (i * sz + j)) undef := by
                simp [Array.getD, hlt]
              have e2 : ((rws.drop off).take len).getD i [] = rws.getD (off + i) [] := by simp [List.getD, hi', List.getElem?_drop]
              rw [e1, e2, show off * sz + (i * sz + j) = (off + i) * sz + j by rw [Nat.add_mul]; omega]
              exact hrep (off + i) j (by omega) hj
      · cases hs
    · cases hs
  · obtain ⟨rs, h1, rfl⟩ := Option.map_eq_some_iff.1 hs
    exact srcD_of_pure (src_of hi hr hro h1)

/-- The run of an append that needs a new block. -/
theorem append_grow {s : Nat} {c : Call} {x y : Operand} {t t2 e : TypeId} {z : Value} {bytes : Nat} {ty2 : TypeDesc}
    (ho : o.op = .call c) (hc : c.callee = .builtin .append) (ha : c.args = #[x, y]) (hat : c.argTypes = #[t, t2]) (hu : P.underlying t = some (.slice e)) (hu2 : P.underlying t2 = some ty2) (hni : ∀ k, ty2 ≠ .int k)
    (hinfo : (P.info? e).map (fun i => (i.size, i.bytes, i.zero)) = some (s, bytes, some z)) (hby : bytes ≤ 32768) (hby0 : 0 < bytes)
    {m : Nat} {cs : Array Value} (hlen : ∀ w1, (Builtin.lenOf (a.eval y)).run P w1 = .ok m w1) (hfirst : ∀ w1, w1.heap = w.heap → (Builtin.firstCells s m (a.eval y)).run P w1 = .ok cs w1)
    {n cap : Nat} {ad : Option Addr} {old : Array Value} (hv : a.eval x = .slice ad n cap) (_ : n ≤ cap) (hlt : cap < n + m) (hsm : n + m ≤ 4294967296) (hold : (Builtin.firstCells s n (.slice ad n cap)).run P w.drew = .ok old w.drew) :
    ∃ newCap, n + m ≤ newCap ∧ (execOp a.eval o).run P w = .ok (.value (.slice (some ⟨w.heap.size, 0, none⟩) (n + m) newCap)) (w.drew.alloc (.cells (old ++ cs ++ Builtin.zeroCells z.cells (newCap - (n + m))) e)) := by
  obtain ⟨info, hi1, hi2⟩ := Option.map_eq_some_iff.1 hinfo
  simp only [Prod.mk.injEq] at hi2
  obtain ⟨hisz, hiby, hizero⟩ := hi2
  have hmul : ∀ n, n ≤ 4294967296 → n * bytes ≤ 140737488355328 := fun n hn => Nat.le_trans (Nat.mul_le_mul hn hby) (by decide)
  refine ⟨grownCap w (n + m) cap e, grownCap_ge _ _ _ _, ?_⟩
  have hf2 := hfirst w.drew rfl
  have hn : ¬ n + m ≤ cap := by omega
  have h63 : ¬ (9223372036854775807 < (n : Int) + (m : Int)) := by omega
  have hb0 : info.bytes ≠ 0 := by omega
  have h48 : ¬ Builtin.nextslicecap (n + m) cap * info.bytes > 281474976710656 := by
    have := growslice_fits (need := n + m) (old := cap) (bytes := bytes) (by omega) (hmul _ hsm)
    rw [hiby]; omega
  have hz2 : (match ty2 with | .int _ => true | _ => false) = false := by
    cases ty2 <;> first | rfl | exact absurd rfl (hni _)
  simp [execOp, ho, resolve, hc, ha, hat, invoke, builtin, Builtin.append_, run_underlying hu, run_underlying hu2, sizeOf, typeInfo, zeroValue, hi1, hisz, hizero, hv, hlen, hn, h63, hb0, h48, Question.forced, hold, hf2, newRow, grownCap]
/-- Old rows, new rows, and what room is behind them. -/
theorem lay_rows {s m newCap : Nat} {old cs zs : Array Value} {rows ys : List (List DV)} (h1 : old.size = rows.length * s) (h0 : cs.size = ys.length * s) (hm : ys.length = m) (hz : zs.size = (newCap - (rows.length + m)) * s) (h2 : rows.length + m ≤ newCap) (h3 : ∀ r ∈ rows, r.length = s) (hy : ∀ r ∈ ys, r.length = s)
    (h4 : ∀ i j, i < rows.length → j < s → RepD w K (old.getD (i * s + j) undef) ((rows.getD i []).getD j .undef) ∧ (old.getD (i * s + j) undef).oneCell' = true)
    (h5 : ∀ i j, i < ys.length → j < s → RepD w K (cs.getD (i * s + j) undef) ((ys.getD i []).getD j .undef) ∧ (cs.getD (i * s + j) undef).oneCell' = true) :
    (old ++ cs ++ zs).size = newCap * s ∧ (∀ r ∈ rows ++ ys, r.length = s) ∧ (rows ++ ys).length = rows.length + m ∧
    ∀ i j, i < (rows ++ ys).length → j < s → RepD w K ((old ++ cs ++ zs).getD (i * s + j) undef) (((rows ++ ys).getD i []).getD j .undef) ∧ ((old ++ cs ++ zs).getD (i * s + j) undef).oneCell' = true := by
  subst hm
  refine ⟨?_, ?_, List.length_append, ?_⟩
  · simp only [Array.size_append, hz, h1, h0, ← Nat.add_mul]
    congr 1
    omega
  · intro r hr
    rcases List.mem_append.1 hr with hr | hr
    · exact h3 r hr
    · exact hy r hr
  · intro i j hi' hj
    rw [List.length_append] at hi'
    by_cases hir : i < rows.length
    · have hlt := row_lt hir hj
      have e1 : (old ++ cs ++ zs).getD (i * s + j) undef = old.getD (i * s + j) undef := by
        rw [getD_toList, getD_toList]
        simp only [Array.toList_append, List.getD]
        rw [List.append_assoc, List.getElem?_append_left (by simpa [h1] using hlt)]
      have e2 : (rows ++ ys).getD i [] = rows.getD i [] := by simp [List.getD, List.getElem?_append_left hir]
      rw [e1, e2]
      exact h4 i j hir hj
    · have hiy : i - rows.length < ys.length := by omega
      have hlt := row_lt hiy hj
      have hge : rows.length * s ≤ i * s := Nat.mul_le_mul_right _ (by omega)
      have hsub : i * s + j - rows.length * s = (i - rows.length) * s + j := by rw [Nat.sub_mul]; omega
      have e1 : (old ++ cs ++ zs).getD (i * s + j) undef = cs.getD ((i - rows.length) * s + j) undef := by
        rw [getD_toList, getD_toList]
        simp only [Array.toList_append, List.getD]
        rw [List.append_assoc, List.getElem?_append_right (by simp [h1]; omega), List.getElem?_append_left (by simp [h1, h0]; omega)]
        simp [h1, hsub]
      have e2 : (rows ++ ys).getD i [] = ys.getD (i - rows.length) [] := by simp [List.getD, List.getElem?_append_right (by omega : rows.length ≤ i)]
      rw [e1, e2]
      exact h5 _ _ hiy hj

theorem size_zeros {z : Value} {s n : Nat} (hz : z.cells.size = s) : (Builtin.zeroCells z.cells n).size = n * s := by rw [size_zeroCells, hz]

theorem run_appendO (hi : SInv w K) (hold : Old w K) (hf : FRel w K a.tmps fr) (F site s : Nat) (hst : ¬ K.used st) {c : Call} {x y : Operand} {x' y' : Opd} {t t2 e : TypeId} {z : Value} {bytes : Nat} {ty2 : TypeDesc}
    (ho : o.op = .call c) (hc : c.callee = .builtin .append) (ha : c.args = #[x, y]) (hat : c.argTypes = #[t, t2]) (hu : P.underlying t = some (.slice e)) (hu2 : P.underlying t2 = some ty2) (hni : ∀ k, ty2 ≠ .int k)
    (hinfo : (P.info? e).map (fun i => (i.size, i.bytes, i.zero)) = some (s, bytes, some z)) (hz : z.cells.size = s) (hby : bytes ≤ 32768) (hby0 : 0 < bytes)
    (hx : chkX x x' = true) (hy : chkX y y' = true) {ro : Objs} (hro : ∀ r o, ro.get r = some o → K.σ.obj.get r = some o) {ys : List (List DV)} (hys : srcRowsD ro s (y'.ev fr) = some ys) (hne : ys ≠ []) {d : DV} {σ' : Store}
    (hd : (∃ r len rows, x'.ev fr = .own r 0 len ∧ K.σ.obj.get r = some (.arr s rows true) ∧ 0 < len ∧ len = rows.length ∧ len + ys.length ≤ 4294967296 ∧ d = .own ⟨F, site, st⟩ 0 (len + ys.length) ∧
        σ' = (K.σ.put r.f r.s none).put F site (some (st, .arr s (rows ++ ys) true))) ∨
      ((x'.ev fr = .p .nilsl ∨ x'.ev fr = .p .emp) ∧ ys.length ≤ 4294967296 ∧ d = .own ⟨F, site, st⟩ 0 ys.length ∧ σ' = K.σ.put F site (some (st, .arr s ys true)))) : Runs P o a w K st d σ' := by
  have hrx := chkX_rep hx hf
  have hy00 : 0 < ys.length := List.length_pos_iff.2 hne
  obtain ⟨hyl, cs, hcs, hlen, hfirst, hrep⟩ := srcD_of (P := P) hi (chkX_rep hy hf) hro hys
  have hg := @append_grow P o a w s c x y t t2 e z bytes ty2 ho hc ha hat hu hu2 hni hinfo hby hby0 ys.length cs hlen hfirst
  rcases hd with ⟨r, len, rows, h1, h2, hpos, rfl, hsm, rfl, rfl⟩ | ⟨h1, h2, rfl, rfl⟩
  · rw [h1] at hrx
    generalize hv : a.eval x = v at hrx
    cases hrx with
    | own ad cap _ _ _ hus hcap hr =>
      obtain ⟨_, hκ, b, hb, had⟩ := hr _ _ _ h2
      have hκ := hκ rfl
      have had := had hpos
      rw [Nat.zero_mul] at had
      subst had
      have hat0 := get_spec.1 h2
      obtain ⟨_, b', cur, e', hb', hheap, hcur, hkap, hrl, hcell⟩ := hi.obj _ _ _ _ hat0
      rw [hb] at hb'; cases hb'
      by_cases hroom : rows.length + ys.length ≤ cap
      · -- in place
        have hfit : rows.length * s + cs.toList.length ≤ cur.size := by
          have e0 : cs.toList.length = ys.length * s := by rw [Array.length_toList]; exact hcs
          rw [e0, hcur, ← Nat.add_mul]; exact Nat.mul_le_mul_right _ (by omega)
        have hone : ∀ v ∈ cs.toList, v.oneCell' = true := by
          intro v hv
          obtain ⟨k, hk, rfl⟩ := List.getElem_of_mem hv
          have hk1 : k < cs.size := by simpa using hk
          have hk' : k < ys.length * s := by rw [← hcs]; exact hk1
          have h1 := (hrep (k / s) (k % s) (div_lt hk') (mod_lt' hk')).2
          rw [div_mod] at h1
          simpa [Array.getD, hk1] using h1
        have hst' := run_storeCells_at P b (rows.length * s) e' cs.toList 0 cur w hheap (by simpa using hfit) hone
        simp only [Nat.add_zero] at hst'
        generalize hnew : (cur.toList.take (rows.length * s) ++ cs.toList ++ cur.toList.drop (rows.length * s + cs.toList.length)).toArray = new at hst'
        have hng : ∀ i, new.getD i undef = if rows.length * s ≤ i ∧ i < rows.length * s + cs.size then cs.getD (i - rows.length * s) undef else cur.getD i undef := by
          intro i
          rw [← hnew, over_getD cur _ _ hfit i]
          have e0 : cs.toList.length = cs.size := Array.length_toList
          rw [e0, ← getD_toList]
        have hns : new.size = cur.size := by
          rw [← hnew]
          simp only [List.size_toArray, List.length_append, List.length_take, List.length_drop, Array.length_toList] at hfit ⊢
          omega
        have hadd : (⟨b, 0, none⟩ : Addr).add (rows.length * s) = ⟨b, rows.length * s, none⟩ := by rw [add_off, Nat.zero_add]
        have hrun : (execOp a.eval o).run P w = .ok (.value (.slice (some ⟨b, 0, none⟩) (rows.length + ys.length) cap)) (w.setRow b new) := by
          obtain ⟨info, hi1, hi2⟩ := Option.map_eq_some_iff.1 hinfo
          simp only [Prod.mk.injEq] at hi2
          obtain ⟨hisz, hiby, hizero⟩ := hi2
          have hf2 := hfirst w rfl
          simp [execOp, ho, resolve, hc, ha, hat, invoke, builtin, Builtin.append_, run_underlying hu, run_underlying hu2, sizeOf, typeInfo, hi1, hisz, hv, hlen, hroom, hf2, hadd, hst']
        obtain ⟨e1, e2⟩ := renew (w1 := w.setRow b new) hi hold r.f r.s r.st s rows hat0 F site (.arr s (rows ++ ys) true) b (K.κ r.st) hst
          (by rw [setRow_size]; exact Nat.le_refl _) rfl rfl rfl (fun k hk hne => setRow_heap_ne _ _ _ _ (fun h => hne (h ▸ hb))) (.inl hb) ⟨_, _, rfl⟩
          (fun hx => by
            refine ⟨b, new, e', by simp [Ctx.renew], setRow_heap w b cur new e' (0, 0) hheap, by rw [hns, hcur]; simp [Ctx.renew], by rw [List.length_append]; simp [Ctx.renew]; omega, ?_, fun i j hi' hj => ?_⟩
            · intro q hq
              rcases List.mem_append.1 hq with hq | hq
              · exact hrl q hq
              · exact hyl q hq
            · rw [List.length_append] at hi'
              rw [hng]
              by_cases hir : i < rows.length
              · have hlt := row_lt hir hj
                have e2 : (rows ++ ys).getD i [] = rows.getD i [] := by simp [List.getD, List.getElem?_append_left hir]
                rw [if_neg (by omega), e2]
                exact ⟨(hcell i j hir hj).1.ext hx, (hcell i j hir hj).2⟩
              · have hiy : i - rows.length < ys.length := by omega
                have hlt := row_lt hiy hj
                have hge : rows.length * s ≤ i * s := Nat.mul_le_mul_right _ (by omega)
                have hsub : i * s + j - rows.length * s = (i - rows.length) * s + j := by rw [Nat.sub_mul]; omega
                have hle2 : (i - rows.length) * s + rows.length * s = i * s := by rw [← Nat.add_mul]; congr 1; omega
                have e2 : (rows ++ ys).getD i [] = ys.getD (i - rows.length) [] := by simp [List.getD, List.getElem?_append_right (by omega : rows.length ≤ i)]
                rw [if_pos (by rw [hcs]; omega), hsub, e2]
                exact ⟨(hrep _ _ hiy hj).1.ext hx, (hrep _ _ hiy hj).2⟩)
        refine ⟨_, _, _, .inl hrun, e1, e2, rfl, ?_, fun x h => used_new (by omega) h⟩
        refine .own _ _ _ _ _ (.inl rfl) hroom (fun sz rws mu h => ?_)
        rw [get_spec] at h
        rcases put_obj h with ⟨_, _, h⟩ | ⟨hn, _⟩
        · simp only [Option.some.injEq, Prod.mk.injEq, Ob.arr.injEq, true_and] at h
          obtain ⟨rfl, rfl, rfl⟩ := h
          exact ⟨by simp, fun _ => by simp [Ctx.renew]; exact hκ, b, by simp [Ctx.renew], fun _ => by simp⟩
        · exact absurd ⟨rfl, rfl⟩ hn
      · -- a new block
        have hfc : (Builtin.firstCells s rows.length (.slice (some ⟨b, 0, none⟩) rows.length cap)).run P w.drew = .ok ((List.range (rows.length * s)).map fun j => cur.getD j undef).toArray w.drew :=
          firstCells_at (w := w) (fun j => cur.getD j undef) (fun j hj => by
            rw [Nat.zero_add]
            refine cell_heap hheap ?_
            have : rows.length * s ≤ K.κ r.st * s := Nat.mul_le_mul_right _ hkap
            omega) _ _ w.drew rfl
        obtain ⟨newCap, hge, hrun⟩ := hg hv hcap (by omega) hsm hfc
        obtain ⟨l1, l2, l3, l4⟩ := lay_rows (w := w) (K := K) (newCap := newCap) (old := ((List.range (rows.length * s)).map fun j => cur.getD j undef).toArray) (zs := Builtin.zeroCells z.cells (newCap - (rows.length + ys.length))) (by simp) hcs rfl (size_zeros hz) hge hrl hyl
          (fun i j hi' hj => by
            have hlt := row_lt hi' hj
            have e1 : ((List.range (rows.length * s)).map fun j => cur.getD j undef).toArray.getD (i * s + j) undef = cur.getD (i * s + j) undef := by simp [Array.getD, hlt]
            rw [e1]; exact hcell i j hi' hj) hrep
        obtain ⟨e1, e2⟩ := renew (w1 := w.drew.alloc (.cells (((List.range (rows.length * s)).map fun j => cur.getD j undef).toArray ++ cs ++ Builtin.zeroCells z.cells (newCap - (rows.length + ys.length))) e)) hi hold r.f r.s r.st s rows hat0 F site (.arr s (rows ++ ys) true) w.heap.size newCap hst
          (by show w.heap.size ≤ (w.alloc _).heap.size; rw [size_alloc]; omega) rfl rfl rfl (fun k hk _ => heap_alloc (w := w) hk) (.inr (Nat.le_refl _)) ⟨_, _, rfl⟩
          (fun hx => ⟨w.heap.size, _, e, by simp [Ctx.renew], heap_alloc_self (w := w), by rw [l1]; simp [Ctx.renew], by rw [l3]; simp [Ctx.renew]; exact hge, l2, fun i j h1 h2 => ⟨(l4 i j h1 h2).1.ext hx, (l4 i j h1 h2).2⟩⟩)
        refine ⟨_, _, _, .inl hrun, e1, e2, rfl, ?_, fun x h => used_new (by omega) h⟩
        refine .own _ _ _ _ _ (.inl rfl) hge (fun sz rws mu h => ?_)
        rw [get_spec] at h
        rcases put_obj h with ⟨_, _, h⟩ | ⟨hn, _⟩
        · simp only [Option.some.injEq, Prod.mk.injEq, Ob.arr.injEq, true_and] at h
          obtain ⟨rfl, rfl, rfl⟩ := h
          exact ⟨by simp, fun _ => by simp [Ctx.renew], w.heap.size, by simp [Ctx.renew], fun _ => by simp⟩
        · exact absurd ⟨rfl, rfl⟩ hn
  · obtain ⟨ad, hv⟩ : ∃ ad, a.eval x = .slice ad 0 0 := by
      generalize a.eval x = v at hrx
      rcases h1 with h1 | h1 <;> rw [h1] at hrx <;> cases hrx with
      | p _ _ hp => cases hp; exact ⟨_, rfl⟩
    obtain ⟨newCap, hge, hrun⟩ := hg hv (Nat.le_refl 0) (by omega) (by omega) (firstCells_zero _ _ _ _ _)
    obtain ⟨l1, l2, l3, l4⟩ := lay_rows (w := w) (K := K) (newCap := newCap) (old := #[]) (rows := []) (zs := Builtin.zeroCells z.cells (newCap - (0 + ys.length))) (by simp) hcs rfl (by simpa using size_zeros hz) (by simpa using hge) (by simp) hyl (fun i j hi' => absurd hi' (by simp)) hrep
    rw [List.nil_append] at l2 l3 l4
    obtain ⟨K', k1, k2, k3, k4, k5⟩ := new_own (w := w.drew) (K := K) (grown (w1 := w.drew) hi (Nat.le_refl _) rfl rfl rfl (fun _ _ => rfl)).2 ⟨hold.X, hold.XM⟩ F site s hst e _ ys newCap (by simpa using hge) l1 l2 (fun i j h1 h2 => ⟨(l4 i j h1 h2).1.ext (grown (w1 := w.drew) hi (Nat.le_refl _) rfl rfl rfl (fun _ _ => rfl)).1, (l4 i j h1 h2).2⟩)
    refine ⟨_, _, K', .inl hrun, ((grown (w1 := w.drew) hi (Nat.le_refl _) rfl rfl rfl (fun _ _ => rfl)).1).trans k1, k2, k3, ?_, k5⟩
    simpa using k4
end
end Go.Ev
