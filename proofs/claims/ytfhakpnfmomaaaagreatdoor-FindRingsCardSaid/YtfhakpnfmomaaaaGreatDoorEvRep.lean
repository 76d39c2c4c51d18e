/- A part of an evaluator of closed runs, and of the proof that what it answers holds of the model. No conditions. -/
import Derived.Test.YtfhakpnfmomaaaaGreatDoorEvCore
namespace Go.Ev
open Go

/-- What pure values must not stand on; where the sentinels of the globals lie. -/
structure Im where
  M : Nat → Nat → Prop
  MM : Nat → Prop
  G : Nat → Option Value

inductive RepP (w : World) (I : Im) : Value → PV → Prop
  | bool (b : Bool) : RepP w I (.bool b) (.bool b)
  | int (k : IntKind) (n : Int) : RepP w I (.int k n) (.int k n)
  | str (s : ByteArray) (l : List UInt8) (h : s.data.toList = l) : RepP w I (.string s) (.str l)
  | nilp : RepP w I (.pointer none) .nilp
  | nilsl : RepP w I (.slice none 0 0) .nilsl
  | emp (a : Addr) : RepP w I (.slice (some a) 0 0) .emp
  | nilmap : RepP w I (.map none) .nilmap
  | nilif : RepP w I .nilIface .nilif
  | nilfn : RepP w I .nilFunc .nilfn
  | agg (vs : Array Value) (ps : List PV) (hl : vs.size = ps.length) (h : ∀ i, i < ps.length → RepP w I (vs.getD i undef) (ps.getD i .nilp)) : RepP w I (.agg vs) (.agg ps)
  | sl0 (a : Addr) (c : Nat) : RepP w I (.slice (some a) 0 c) (.sl [])
  | sl (b o c s : Nat) (rows : List (List PV)) (v : Nat → Nat → Value) (hs : ∀ r ∈ rows, r.length = s)
      (hc : ∀ i j, i < rows.length → j < s → w.cell? ⟨b, o + i * s + j, none⟩ = some (v i j) ∧ ¬ I.M b (o + i * s + j))
      (ho : ∀ i j, i < rows.length → j < s → (v i j).oneCell' = true)
      (hr : ∀ i j, i < rows.length → j < s → RepP w I (v i j) ((rows.getD i []).getD j .nilp)) (hcap : rows.length ≤ c) :
      RepP w I (.slice (some ⟨b, o, none⟩) rows.length c) (.sl rows)
  | ip (b o off : Nat) (cells : List PV) (v : Nat → Value)
      (hc : ∀ j, j < cells.length → w.cell? ⟨b, o + j, none⟩ = some (v j) ∧ ¬ I.M b (o + j))
      (ho : ∀ j, j < cells.length → (v j).oneCell' = true)
      (hr : ∀ j, j < cells.length → RepP w I (v j) (cells.getD j .nilp)) :
      RepP w I (.pointer (some ⟨b, o + off, none⟩)) (.ip cells off)
  | imap (r : Nat) (es : Array MapEntry) (clk : Nat) (ps : List (PV × PV)) (h : w.heap[r]? = some (.map es clk)) (hm : ¬ I.MM r) (hl : es.size = ps.length)
      (hk : ∀ i, i < ps.length → RepP w I (es.getD i default).key (ps.getD i (.nilp, .nilp)).1)
      (hv : ∀ i, i < ps.length → RepP w I (es.getD i default).val (ps.getD i (.nilp, .nilp)).2) : RepP w I (.map (some r)) (.imap ps)
  | iface (t : Nat) (v : Value) (p : PV) (h : RepP w I v p) : RepP w I (.iface t v) (.iface t p)
  | clo (f : Nat) (a b : Array Value) (pa pb : List PV) (ha : a.size = pa.length) (hb : b.size = pb.length)
      (h1 : ∀ i, i < pa.length → RepP w I (a.getD i undef) (pa.getD i .nilp)) (h2 : ∀ i, i < pb.length → RepP w I (b.getD i undef) (pb.getD i .nilp)) :
      RepP w I (.func (.func f) a b) (.clo f pa pb)
  | gref (g : Nat) (a : Addr) (h : I.G g = some (.pointer (some a))) : RepP w I (.pointer (some a)) (.gref g)
  | sym (g : Nat) (k : IntKind) (n : Int) (h : I.G g = some (.int k n)) : RepP w I (.int k n) (.sym g)

/-- What a pure value stands on is still there in the second world, and still allowed. -/
structure Keeps (w : World) (I : Im) (w' : World) (I' : Im) : Prop where
  cell : ∀ b o v, w.cell? ⟨b, o, none⟩ = some v → ¬ I.M b o → w'.cell? ⟨b, o, none⟩ = some v ∧ ¬ I'.M b o
  map : ∀ r es c, w.heap[r]? = some (.map es c) → ¬ I.MM r → w'.heap[r]? = some (.map es c) ∧ ¬ I'.MM r
  G : I'.G = I.G

theorem Keeps.refl (w : World) (I : Im) : Keeps w I w I := ⟨fun _ _ _ h h' => ⟨h, h'⟩, fun _ _ _ h h' => ⟨h, h'⟩, rfl⟩
theorem Keeps.trans {w w' w'' : World} {I I' I'' : Im} (h : Keeps w I w' I') (k : Keeps w' I' w'' I'') : Keeps w I w'' I'' :=
  ⟨fun b o v h1 h2 => let ⟨h3, h4⟩ := h.cell b o v h1 h2; k.cell b o v h3 h4, fun r es c h1 h2 => let ⟨h3, h4⟩ := h.map r es c h1 h2; k.map r es c h3 h4, k.G.trans h.G⟩

theorem RepP.keep {w w' : World} {I I' : Im} (hk : Keeps w I w' I') {v : Value} {p : PV} (h : RepP w I v p) : RepP w' I' v p := by
  induction h with
  | bool b => exact .bool b
  | int k n => exact .int k n
  | str s l h => exact .str s l h
  | nilp => exact .nilp
  | nilsl => exact .nilsl
  | emp a => exact .emp a
  | nilmap => exact .nilmap
  | nilif => exact .nilif
  | nilfn => exact .nilfn
  | agg vs ps hl _ ih => exact .agg vs ps hl ih
  | sl0 a c => exact .sl0 a c
  | sl b o c s rows v hs hc ho _ hcap ih => exact .sl b o c s rows v hs (fun i j hi hj => hk.cell _ _ _ (hc i j hi hj).1 (hc i j hi hj).2) ho ih hcap
  | ip b o off cells v hc ho _ ih => exact .ip b o off cells v (fun j hj => hk.cell _ _ _ (hc j hj).1 (hc j hj).2) ho ih
  | imap r es clk ps h hm hl _ _ ihk ihv => exact .imap r es clk ps (hk.map _ _ _ h hm).1 (hk.map _ _ _ h hm).2 hl ihk ihv
  | iface t v p _ ih => exact .iface t v p ih
  | clo f a b pa pb ha hb _ _ ih1 ih2 => exact .clo f a b pa pb ha hb ih1 ih2
  | gref g a h => exact .gref g a (by rw [hk.G]; exact h)
  | sym g k n h => exact .sym g k n (by rw [hk.G]; exact h)

/-- What stands behind the store: where objects lie, how many rows an array has room for, which stamps are taken; what is forbidden; the globals. -/
structure Ctx where
  σ : Store
  ι : Nat → Option Nat
  κ : Nat → Nat
  bn : Nat → Nat → Nat
  used : Nat → Prop
  X : Nat → Nat → Prop
  XM : Nat → Prop
  G : Nat → Option Value

def Ctx.M (K : Ctx) (b o : Nat) : Prop :=
  (∃ f s st sz rows, K.σ.obj f s = some (st, .arr sz rows true) ∧ K.ι st = some b) ∨
  (∃ f s st sz n, K.σ.tok f s = some (st, sz, n) ∧ K.ι st = some b ∧ n * sz ≤ o) ∨ K.X b o
def Ctx.MM (K : Ctx) (b : Nat) : Prop := (∃ f s st es, K.σ.obj f s = some (st, .map es true) ∧ K.ι st = some b) ∨ K.XM b
def Ctx.im (K : Ctx) : Im := ⟨K.M, K.MM, K.G⟩

def Ob.mlen : Ob → Nat
  | .arr .. => 0
  | .map es _ => es.length

inductive RepD (w : World) (K : Ctx) : Value → DV → Prop
  | undef (v : Value) : RepD w K v .undef
  | p (v : Value) (p : PV) (h : RepP w K.im v p) : RepD w K v (.p p)
  | agg (vs : Array Value) (ds : List DV) (hl : vs.size = ds.length) (h : ∀ i, i < ds.length → RepD w K (vs.getD i undef) (ds.getD i .undef)) : RepD w K (.agg vs) (.agg ds)
  | tup (vs : Array Value) (ds : List DV) (hl : vs.size = ds.length) (h : ∀ i, i < ds.length → RepD w K (vs.getD i undef) (ds.getD i .undef)) : RepD w K (.tuple vs) (.tup ds)
  | lin (v : Value) (rows : List (List PV)) (r : Ref) (h : RepP w K.im v (.sl rows)) (hu : K.used r.st)
      (hr : ∀ sz n, K.σ.right r = some (sz, n) → rows.length ≤ n ∧ (∀ row ∈ rows, row.length = sz) ∧
        (n = rows.length → (K.ι r.st = none ∧ ∃ a, v = .slice a 0 0) ∨ ∃ b, K.ι r.st = some b ∧ v = .slice (some ⟨b, 0, none⟩) n (K.κ r.st))) : RepD w K v (.lin rows r)
  | own (a : Addr) (cap : Nat) (r : Ref) (off len : Nat) (hu : K.used r.st) (hcap : len ≤ cap)
      (hr : ∀ sz rows mu, K.σ.obj.get r = some (.arr sz rows mu) → off + len ≤ rows.length ∧ (off = 0 → cap ≤ K.κ r.st) ∧ ∃ b, K.ι r.st = some b ∧ (0 < len → a = ⟨b, off * sz, none⟩)) :
      RepD w K (.slice (some a) len cap) (.own r off len)
  | mp (a : Addr) (r : Ref) (row off : Nat) (hu : K.used r.st)
      (hr : ∀ sz rows mu, K.σ.obj.get r = some (.arr sz rows mu) → ∃ b, K.ι r.st = some b ∧ a = ⟨b, row * sz + off, none⟩) : RepD w K (.pointer (some a)) (.mp r row off)
  | omap (b : Nat) (r : Ref) (hu : K.used r.st) (hr : ∀ es mu, K.σ.obj.get r = some (.map es mu) → K.ι r.st = some b) : RepD w K (.map (some b)) (.omap r)
  | clo (f : Nat) (a b : Array Value) (da db : List DV) (ha : a.size = da.length) (hb : b.size = db.length)
      (h1 : ∀ i, i < da.length → RepD w K (a.getD i undef) (da.getD i .undef)) (h2 : ∀ i, i < db.length → RepD w K (b.getD i undef) (db.getD i .undef)) :
      RepD w K (.func (.func f) a b) (.clo f da db)
  | iface (t : Nat) (v : Value) (d : DV) (h : RepD w K v d) : RepD w K (.iface t v) (.iface t d)
  | ent (n : Nat) (r : Ref) (i : Nat) (hu : K.used r.st)
      (hr : ∀ es mu, K.σ.obj.get r = some (.map es mu) → i < es.length ∧ n = K.bn r.st i) :
      RepD w K (goInt n) (.ent r i)

/-- An entry of the store. -/
def Live (K : Ctx) (st : Nat) : Prop := (∃ f s o, K.σ.obj f s = some (st, o)) ∨ ∃ f s sz n, K.σ.tok f s = some (st, sz, n)

/-- A block that something of the store lies at. -/
def Ctx.LB (K : Ctx) (b : Nat) : Prop := ∃ st, Live K st ∧ K.ι st = some b

/-- The shape of an object that no write turns. -/
def sameShape : Ob → Ob → Prop
  | .arr sz rows _, .arr sz' rows' _ => sz = sz' ∧ rows.length = rows'.length
  | .map es _, .map es' _ => es.length ≤ es'.length
  | _, _ => False

structure Ext (w : World) (K : Ctx) (w' : World) (K' : Ctx) : Prop where
  size : w.heap.size ≤ w'.heap.size
  os : w'.os = w.os
  tape : w'.tape = w.tape
  output : w'.output = w.output
  keep : Keeps w K.im w' K'.im
  X : K'.X = K.X
  XM : K'.XM = K.XM
  used : ∀ st, K.used st → K'.used st
  obj : ∀ r o', K.used r.st → K'.σ.obj.get r = some o' → ∃ o, K.σ.obj.get r = some o ∧ sameShape o o' ∧ K'.ι r.st = K.ι r.st ∧ K'.κ r.st = K.κ r.st ∧ ∀ i, i < o.mlen → K'.bn r.st i = K.bn r.st i
  live : ∀ b, b < w.heap.size → K'.LB b → K.LB b
  same : ∀ b, b < w.heap.size → ¬ K.LB b → w'.heap[b]? = w.heap[b]?
  tok : ∀ r sz n', K.used r.st → K'.σ.right r = some (sz, n') → ∃ n, K.σ.right r = some (sz, n) ∧ n ≤ n' ∧ (n = n' → K'.ι r.st = K.ι r.st ∧ K'.κ r.st = K.κ r.st)
  fresh : ∀ b o, b < w.heap.size → K'.M b o → K.M b o
  freshM : ∀ b, b < w.heap.size → K'.MM b → K.MM b

theorem sameShape.refl (o : Ob) : sameShape o o := by cases o <;> simp [sameShape]
theorem sameShape.trans {a b c : Ob} (h : sameShape a b) (k : sameShape b c) : sameShape a c := by
  cases a <;> cases b <;> cases c <;> simp_all [sameShape]
  omega
theorem sameShape.mlen {a b : Ob} (h : sameShape a b) : a.mlen ≤ b.mlen := by
  cases a <;> cases b <;> simp_all [sameShape, Ob.mlen]

theorem Ext.refl (w : World) (K : Ctx) : Ext w K w K :=
  ⟨Nat.le_refl _, rfl, rfl, rfl, .refl _ _, rfl, rfl, fun _ h => h, fun _ o _ h => ⟨o, h, .refl o, rfl, rfl, fun _ _ => rfl⟩, fun _ _ h => h, fun _ _ _ => rfl, fun _ _ n _ h => ⟨n, h, Nat.le_refl _, fun _ => ⟨rfl, rfl⟩⟩, fun _ _ _ h => h, fun _ _ h => h⟩

theorem Ext.trans {w w' w'' : World} {K K' K'' : Ctx} (h : Ext w K w' K') (k : Ext w' K' w'' K'') : Ext w K w'' K'' where
  size := Nat.le_trans h.size k.size
  os := k.os.trans h.os
  tape := k.tape.trans h.tape
  output := k.output.trans h.output
  keep := h.keep.trans k.keep
  X := k.X.trans h.X
  XM := k.XM.trans h.XM
  used := fun st hu => k.used st (h.used st hu)
  obj := fun r o' hu ho => by
    obtain ⟨o1, h1, s1, e1, f1, g1⟩ := k.obj r o' (h.used _ hu) ho
    obtain ⟨o2, h2, s2, e2, f2, g2⟩ := h.obj r o1 hu h1
    exact ⟨o2, h2, s2.trans s1, e1.trans e2, f1.trans f2, fun i hi => (g1 i (Nat.lt_of_lt_of_le hi s2.mlen)).trans (g2 i hi)⟩
  live := fun b hb hl => h.live b hb (k.live b (Nat.lt_of_lt_of_le hb h.size) hl)
  same := fun b hb hl => (k.same b (Nat.lt_of_lt_of_le hb h.size) (fun x => hl (h.live b hb x))).trans (h.same b hb hl)
  tok := fun r sz n' hu ho => by
    obtain ⟨n1, h1, l1, e1⟩ := k.tok r sz n' (h.used _ hu) ho
    obtain ⟨n2, h2, l2, e2⟩ := h.tok r sz n1 hu h1
    refine ⟨n2, h2, Nat.le_trans l2 l1, fun e => ?_⟩
    have a : n1 = n' := by omega
    have b : n2 = n1 := by omega
    exact ⟨(e1 a).1.trans (e2 b).1, (e1 a).2.trans (e2 b).2⟩
  fresh := fun b o hb hm => h.fresh b o hb (k.fresh b o (Nat.lt_of_lt_of_le hb h.size) hm)
  freshM := fun b hb hm => h.freshM b hb (k.freshM b (Nat.lt_of_lt_of_le hb h.size) hm)

theorem RepD.ext {w w' : World} {K K' : Ctx} (hx : Ext w K w' K') {v : Value} {d : DV} (h : RepD w K v d) : RepD w' K' v d := by
  induction h with
  | undef v => exact .undef v
  | p v p h => exact .p v p (h.keep hx.keep)
  | agg vs ds hl _ ih => exact .agg vs ds hl ih
  | tup vs ds hl _ ih => exact .tup vs ds hl ih
  | lin v rows r h hu hr =>
    refine .lin v rows r (h.keep hx.keep) (hx.used _ hu) (fun sz n' hn => ?_)
    obtain ⟨n, h1, h2, h3⟩ := hx.tok r sz n' hu hn
    obtain ⟨a, b, c⟩ := hr sz n h1
    refine ⟨Nat.le_trans a h2, b, fun e => ?_⟩
    have hn : n = n' := by omega
    obtain ⟨e1, e2⟩ := h3 hn
    rw [e1, e2, ← hn]
    exact c (by omega)
  | own a cap r off len hu hcap hr =>
    refine .own a cap r off len (hx.used _ hu) hcap (fun sz rows mu ho => ?_)
    obtain ⟨o, h1, h2, h3, h7, _⟩ := hx.obj r _ hu ho
    cases o with
    | map es mu => exact absurd h2 (by simp [sameShape])
    | arr sz' rows' mu' =>
      obtain ⟨rfl, hl⟩ := h2
      obtain ⟨h4, h8, b, h5, h6⟩ := hr _ _ _ h1
      exact ⟨by omega, by rw [h7]; exact h8, b, h3.trans h5, h6⟩
  | mp a r row off hu hr =>
    refine .mp a r row off (hx.used _ hu) (fun sz rows mu ho => ?_)
    obtain ⟨o, h1, h2, h3, _⟩ := hx.obj r _ hu ho
    cases o with
    | map es mu => exact absurd h2 (by simp [sameShape])
    | arr sz' rows' mu' =>
      obtain ⟨rfl, hl⟩ := h2
      obtain ⟨b, h5, h6⟩ := hr _ _ _ h1
      exact ⟨b, h3.trans h5, h6⟩
  | omap b r hu hr =>
    refine .omap b r (hx.used _ hu) (fun es mu ho => ?_)
    obtain ⟨o, h1, h2, h3, _⟩ := hx.obj r _ hu ho
    cases o with
    | map es' mu' => exact h3.trans (hr _ _ h1)
    | arr sz' rows' mu' => exact absurd h2 (by simp [sameShape])
  | clo f a b da db ha hb _ _ ih1 ih2 => exact .clo f a b da db ha hb ih1 ih2
  | iface t v d _ ih => exact .iface t v d ih
  | ent n r i hu hr =>
    refine .ent n r i (hx.used _ hu) (fun es mu ho => ?_)
    obtain ⟨o, h1, h2, _, _, h3⟩ := hx.obj r _ hu ho
    cases o with
    | map es' mu' =>
      obtain ⟨h4, h5⟩ := hr _ _ h1
      have : es'.length ≤ es.length := h2
      exact ⟨by omega, h5.trans (h3 i h4).symm⟩
    | arr sz' rows' mu' => exact absurd h2 (by simp [sameShape])

def ObRep (w : World) (K : Ctx) (st : Nat) : Ob → Prop
  | .arr sz rows _ => ∃ b cs e, K.ι st = some b ∧ w.heap[b]? = some (.cells cs e (0, 0)) ∧ cs.size = K.κ st * sz ∧ rows.length ≤ K.κ st ∧ (∀ r ∈ rows, r.length = sz) ∧
      ∀ i j, i < rows.length → j < sz → RepD w K (cs.getD (i * sz + j) undef) ((rows.getD i []).getD j .undef) ∧ (cs.getD (i * sz + j) undef).oneCell' = true
  | .map es _ => ∃ b mes clk, K.ι st = some b ∧ w.heap[b]? = some (.map mes clk) ∧ mes.size = es.length ∧
      (∀ i, i < es.length → RepP w K.im (mes.getD i default).key (es.getD i (.nilp, .undef)).1) ∧
      (∀ i, i < es.length → RepD w K (mes.getD i default).val (es.getD i (.nilp, .undef)).2) ∧
      (∀ i, i < es.length → (mes.getD i default).born = K.bn st i ∧ K.bn st i < clk) ∧ ∀ i j, i < j → j < es.length → K.bn st i ≠ K.bn st j

structure SInv (w : World) (K : Ctx) : Prop where
  obj : ∀ f s st o, K.σ.obj f s = some (st, o) → K.used st ∧ ObRep w K st o
  tok : ∀ f s st sz n, K.σ.tok f s = some (st, sz, n) → K.used st ∧
    ((K.ι st = none ∧ n = 0) ∨ ∃ b cs e, K.ι st = some b ∧ w.heap[b]? = some (.cells cs e (0, 0)) ∧ cs.size = K.κ st * sz ∧ n ≤ K.κ st)
  oo : ∀ f s f' s' st o o', K.σ.obj f s = some (st, o) → K.σ.obj f' s' = some (st, o') → f = f' ∧ s = s'
  tt : ∀ f s f' s' st a a', K.σ.tok f s = some (st, a) → K.σ.tok f' s' = some (st, a') → f = f' ∧ s = s'
  ot : ∀ f s f' s' st o a, K.σ.obj f s = some (st, o) → K.σ.tok f' s' = some (st, a) → False
  inj : ∀ st st' b, Live K st → Live K st' → K.ι st = some b → K.ι st' = some b → st = st'
  X : ∀ st b o, Live K st → K.ι st = some b → ¬ K.X b o ∧ ¬ K.XM b

def FRel (w : World) (K : Ctx) (tm : Array Value) (fr : Frame) : Prop := ∀ t, RepD w K (tm.getD t undef) (fr.get t)

theorem FRel.ext {w w' : World} {K K' : Ctx} (hx : Ext w K w' K') {tm : Array Value} {fr : Frame} (h : FRel w K tm fr) : FRel w' K' tm fr := fun t => (h t).ext hx

end Go.Ev
