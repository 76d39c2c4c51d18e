/- A part of an evaluator of closed runs, and of the proof that what it answers holds of the model. No conditions. -/
import Derived.Test.YtfhakpnfmomaaaaGreatDoorEvOps9
namespace Go.Ev
open Go

theorem hide_less (σ : Objs) (f : Nat) (l : List Nat) (r : Ref) (o : Ob) (h : (σ.hide f l).get r = some o) : σ.get r = some o := by
  unfold Objs.hide at h
  split at h
  · exact h
  · rw [get_spec] at h
    split at h
    · cases h
    · exact get_spec.2 h

/-! ### What is checked of an operation, and what follows -/
section
variable (P : Program) (o : Oper)

def chkMv (x' : Opd) : Bool :=
  match o.op with
  | .move x => chkX x x'
  | .assign x => chkX x x'
  | _ => false
def chkPick (c' a' b' : Opd) : Bool :=
  match o.op with
  | .pick c x y => chkX c c' && chkX x a' && chkX y b'
  | _ => false
def chkZero (t : TypeId) (zero : List PV) : Bool :=
  match (P.info? t).bind (·.zero) with
  | some z => chkL z.cells.toList zero
  | none => false
def chkAlloc (zero : List PV) : Bool :=
  match o.op with
  | .alloc t => chkZero P t zero
  | _ => false
def chkBox (x' : Opd) : Bool :=
  match o.op with
  | .box _ x => chkX x x'
  | _ => false
def chkLoad (n : Nat) (ag : Bool) (x' : Opd) : Bool :=
  match o.op with
  | .load t x => chkX x x' && (P.info? t).map (·.size) == some n && aggB P t == some ag
  | _ => false
def chkStore (n : Nat) (x' y' : Opd) : Bool :=
  match o.op with
  | .store t x y => chkX x x' && chkX y y' && (P.info? t).map (·.size) == some n
  | _ => false
def chkNil (x' : Opd) : Bool :=
  match o.op with
  | .nilCheck x => chkX x x'
  | _ => false
def chkFieldAddr (off : Nat) (x' : Opd) : Bool :=
  match o.op with
  | .fieldAddr t x k => chkX x x' && (match fieldB P t k with | some (off', n) => off' == off && decide (0 < n) | none => false)
  | _ => false
def chkIndexSl (s : Nat) (x' y' : Opd) : Bool :=
  match o.op with
  | .indexAddr t x y => chkX x x' && chkX y y' && elemB P t == some s
  | _ => false
def chkIndexArr (len s : Nat) (x' y' : Opd) : Bool :=
  match o.op with
  | .indexAddr t x y => chkX x x' && chkX y y' && arrB P t == some (len, s)
  | _ => false
def chkIndexStr (x' y' : Opd) : Bool :=
  match o.op with
  | .index t x y => chkX x x' && chkX y y' && (match P.underlying t with | some .string => true | _ => false)
  | _ => false
def chkIndexAgg (len s : Nat) (ag : Bool) (x' y' : Opd) : Bool :=
  match o.op with
  | .index t x y => chkX x x' && chkX y y' && (match P.underlying t with | some (.array n e) => n == len && (P.info? e).map (·.size) == some s && aggB P e == some ag | _ => false)
  | _ => false
def chkField (off n : Nat) (ag : Bool) (x' : Opd) : Bool :=
  match o.op with
  | .field t x k => chkX x x' && (match P.underlying t with | some (.struct fs) => (match fs[k]? with | some f => f.offset == off && (P.info? f.type).map (·.size) == some n && aggB P f.type == some ag | none => false) | _ => false)
  | _ => false
def chkBin (op : BinOp) (x' y' : Opd) : Bool :=
  match o.op with
  | .binOp op' _ x y _ => op' == op && chkX x x' && chkX y y'
  | _ => false
def isConst : Operand → Bool
  | .const _ => true
  | _ => false
def chkEqv (neg : Bool) (kd : Nat) (ks : List Nat) (x' y' : Opd) : Bool :=
  match o.op with
  | .binOp op t x y _ => op == (if neg then .neq else .eql) && chkX x x' && chkX y y' &&
      (if kd = 0 then ks == [0] && (match P.underlying t with | some .bool => true | _ => false)
       else if kd = 6 then eqT P 9 t == some ks && (match P.underlying t with | some (.struct _) => true | _ => false) && !P.eqGuardType P.depth t
       else (match P.underlying t with | some ty => kindOf kd ty | none => false) && (isConst x || isConst y))
  | _ => false
def chkUn (op : UnOp) (x' : Opd) : Bool :=
  match o.op with
  | .unOp op' _ x => op' == op && chkX x x'
  | _ => false
def chkConv (k : IntKind) (x' : Opd) : Bool :=
  match o.op with
  | .convert s t x => chkX x x' && (P.underlying s).isSome && (match P.underlying t with | some (.int k') => k' == k | _ => false)
  | _ => false
def chkMin (b : Builtin) (x' y' : Opd) : Bool :=
  match o.op with
  | .call c => (match c.callee with | .builtin b' => b' == b | _ => false) && (match c.args.toList with | [x, y] => chkX x x' && chkX y y' | _ => false)
  | _ => false
def chkExtract (x' : Opd) (i : Nat) : Bool :=
  match o.op with
  | .extract x j => j == i && chkX x x'
  | _ => false
def chkMkIface (t : Nat) (x' : Opd) : Bool :=
  match o.op with
  | .makeInterface t' x => t' == t && chkX x x' && (match P.underlying t' with | some (.interface _) => false | some _ => true | none => false)
  | _ => false
def chkMakeMap : Bool :=
  match o.op with
  | .makeMap _ none => true
  | _ => false
def chkClo (f : Nat) (xs' ys' : List Opd) : Bool :=
  match o.op with
  | .makeFunc (.func g) xs ys => g == f && chkXs xs.toList xs' && chkXs ys.toList ys'
  | _ => false
def chkBuild (zero : List PV) (parts' : List (Nat × Nat × Opd)) : Bool :=
  match o.op with
  | .build t parts => chkZero P t zero && (match P.underlying t with
    | some (.struct fs) => (match placesOf P fs.toList with | some pl => chkParts (fun i => pl[i]?) parts.toList parts' | none => false)
    | some (.array _ e) => (match (P.info? e).map (·.size) with | some s => chkParts (fun i => some (i * s, s)) parts.toList parts' | none => false)
    | _ => false)
  | _ => false
def elemOf (t : TypeId) : Option TypeId :=
  match P.underlying t with
  | some (.slice e) => some e
  | _ => none
/-- A slice's elements: so many cells, such zeros, not too great. -/
def chkElem (e : TypeId) (zero : List PV) : Bool :=
  match P.info? e with
  | some i => i.size == zero.length && decide (i.bytes ≤ 32768) && decide (0 < i.bytes) && decide (0 < zero.length) && (match i.zero with | some z => chkL z.cells.toList zero | none => false)
  | none => false
def chkBuildSl (s : Nat) (zero : List PV) (len : Nat) (parts' : List (Nat × Opd)) : Bool :=
  match o.op with
  | .buildSlice t n parts => n == len && s == zero.length && decide (len * zero.length ≤ 16777216) && chkParts2 parts.toList parts' && (match elemOf P t with | some e => chkElem P e zero | none => false)
  | _ => false
def chkMakeSl (zero : List PV) (x' y' : Opd) : Bool :=
  match o.op with
  | .makeSlice t x y => chkX x x' && chkX y y' && (match elemOf P t with | some e => chkElem P e zero | none => false)
  | _ => false
def chkSliceSl (s : Nat) (x' : Opd) (lo' hi' mx' : Option Opd) : Bool :=
  match o.op with
  | .slice t x lo hi none => mx'.isNone && chkX x x' && chkO lo lo' && chkO hi hi' && elemB P t == some s
  | _ => false
def chkSliceStr (x' : Opd) (lo' hi' : Option Opd) : Bool :=
  match o.op with
  | .slice t x lo hi none => chkX x x' && chkO lo lo' && chkO hi hi' && (match P.underlying t with | some .string => true | _ => false)
  | _ => false
def chkLen (k : Nat) (x' : Opd) : Bool :=
  match o.op with
  | .call c => (match c.callee with | .builtin .len => true | _ => false) && (match c.args.toList, c.argTypes.toList with
    | [x], [t] => chkX x x' && (match P.underlying t with | some .string => k == 0 | some (.slice _) => k == 1 | some (.map _ _) => k == 2 | _ => false)
    | _, _ => false)
  | _ => false
def chkAppend (s : Nat) (x' y' : Opd) : Bool :=
  match o.op with
  | .call c => (match c.callee with | .builtin .append => true | _ => false) && (match c.args.toList, c.argTypes.toList with
    | [x, y], [t, t2] => chkX x x' && chkX y y' && (match P.underlying t2 with | some (.int _) => false | some _ => true | none => false) &&
        (match elemOf P t with
          | some e => (match P.info? e with
            | some i => i.size == s && decide (i.bytes ≤ 32768) && decide (0 < i.bytes) && (match i.zero with | some z => z.cells.size == s | none => false)
            | none => false)
          | none => false)
    | _, _ => false)
  | _ => false
def chkClear (zero : List PV) (x' : Opd) : Bool :=
  match o.op with
  | .call c => (match c.callee with | .builtin .clear => true | _ => false) && (match c.args.toList, c.argTypes.toList with
    | [x], [t] => chkX x x' && (match elemOf P t with | some e => chkZero P e zero | none => false)
    | _, _ => false)
  | _ => false
def chkZeroV (t : TypeId) (zero : PV) : Bool :=
  match (P.info? t).bind (·.zero) with
  | some z => chkV z zero
  | none => false
def chkLookup (kd : Nat) (ks : List Nat) (zero : PV) (ok : Bool) (m' k' : Opd) : Bool :=
  match o.op with
  | .lookup t m k ok' => ok' == ok && chkX m m' && chkX k k' && (match P.underlying t with | some (.map kt e) => keyT P kd ks kt && chkZeroV P e zero | _ => false)
  | _ => false
def chkMapUpd (kd : Nat) (ks : List Nat) (m' k' x' : Opd) : Bool :=
  match o.op with
  | .mapUpdate t m k x => chkX m m' && chkX k k' && chkX x x' && (match P.underlying t with | some (.map kt _) => keyT P kd ks kt | _ => false)
  | .insert t m k x => chkX m m' && chkX k k' && chkX x x' && (match P.underlying t with | some (.map kt _) => keyT P kd ks kt | _ => false)
  | _ => false
def chkMapEntry (kd : Nat) (ks : List Nat) (zero : PV) (m' k' : Opd) : Bool :=
  match o.op with
  | .mapEntry t m k => chkX m m' && chkX k k' && (match P.underlying t with | some (.map kt e) => keyT P kd ks kt && chkZeroV P e zero | _ => false)
  | _ => false
def chkEntryStore (m' s' x' : Opd) : Bool :=
  match o.op with
  | .entryStore _ m s x => chkX m m' && chkX s s' && chkX x x'
  | _ => false
end

section
variable {P : Program} {o : Oper} {a : Act} {w : World} {K : Ctx} {fr : Frame} {st F : Nat} {hide : List Nat} {R : Recs} {d : DV} {σ' : Store}

theorem snd_mv (hi : SInv w K) (hf : FRel w K a.tmps fr) {x' : Opd} (hc : chkMv o x' = true) (h : evOp R F st fr hide K.σ (.mv x') = some (d, σ')) : Runs P o a w K st d σ' := by
  simp only [evOp, Option.some.injEq, Prod.mk.injEq] at h
  obtain ⟨rfl, rfl⟩ := h
  unfold chkMv at hc
  split at hc
  · rename_i x ho; exact run_mv hi hf (.inl ho) hc
  · rename_i x ho; exact run_mv hi hf (.inr ho) hc
  · cases hc

theorem snd_pick (hi : SInv w K) (hf : FRel w K a.tmps fr) {c' a' b' : Opd} (hc : chkPick o c' a' b' = true) (h : evOp R F st fr hide K.σ (.pick c' a' b') = some (d, σ')) : Runs P o a w K st d σ' := by
  simp only [evOp] at h
  unfold chkPick at hc
  split at hc
  · rename_i c x y ho
    simp only [Bool.and_eq_true] at hc
    split at h
    · rename_i t ht
      simp only [Option.some.injEq, Prod.mk.injEq] at h
      obtain ⟨rfl, rfl⟩ := h
      exact run_pick hi hf ho hc.1.1 hc.1.2 hc.2 ht
    · cases h
  · cases hc

theorem chkZero_spec {t : TypeId} {zero : List PV} (h : chkZero P t zero = true) : ∃ z, (P.info? t).bind (·.zero) = some z ∧ chkL z.cells.toList zero = true := by
  unfold chkZero at h
  split at h
  · rename_i z hz; exact ⟨z, hz, h⟩
  · cases h

theorem snd_alloc (hi : SInv w K) (hold : Old w K) (hst : ¬ K.used st) {site : Nat} {zero : List PV} (hc : chkAlloc P o zero = true) (h : evOp R F st fr hide K.σ (.alloc site zero) = some (d, σ')) : Runs P o a w K st d σ' := by
  simp only [evOp, Option.some.injEq, Prod.mk.injEq] at h
  obtain ⟨rfl, rfl⟩ := h
  unfold chkAlloc at hc
  split at hc
  · rename_i t ho
    obtain ⟨z, h1, h2⟩ := chkZero_spec hc
    exact run_alloc hi hold F site hst ho h1 h2
  · cases hc

theorem snd_box (hi : SInv w K) (hold : Old w K) (hf : FRel w K a.tmps fr) (hst : ¬ K.used st) {site : Nat} {x' : Opd} (hc : chkBox o x' = true) (h : evOp R F st fr hide K.σ (.box site x') = some (d, σ')) : Runs P o a w K st d σ' := by
  simp only [evOp] at h
  obtain ⟨cs, h1, h2⟩ := Option.map_eq_some_iff.1 h
  simp only [Prod.mk.injEq] at h2
  obtain ⟨rfl, rfl⟩ := h2
  unfold chkBox at hc
  split at hc
  · rename_i t x ho; exact run_box hi hold hf F site hst ho hc h1
  · cases hc

theorem snd_load (hi : SInv w K) (hf : FRel w K a.tmps fr) {n : Nat} {ag : Bool} {x' : Opd} (hc : chkLoad P o n ag x' = true) (h : evOp R F st fr hide K.σ (.load n ag x') = some (d, σ')) : Runs P o a w K st d σ' := by
  simp only [evOp] at h
  obtain ⟨d', h1, h2⟩ := Option.map_eq_some_iff.1 h
  simp only [Prod.mk.injEq] at h2
  obtain ⟨rfl, rfl⟩ := h2
  unfold chkLoad at hc
  split at hc
  · rename_i t x ho
    simp only [Bool.and_eq_true, beq_iff_eq] at hc
    exact run_load hi hf ho hc.1.1 hc.1.2 hc.2 (hide_less _ _ _) h1
  · cases hc

theorem snd_store (hi : SInv w K) (hf : FRel w K a.tmps fr) {n : Nat} {x' y' : Opd} (hc : chkStore P o n x' y' = true) (h : evOp R F st fr hide K.σ (.store n x' y') = some (d, σ')) : Runs P o a w K st d σ' := by
  simp only [evOp] at h
  unfold chkStore at hc
  split at hc
  · rename_i t x y ho
    simp only [Bool.and_eq_true, beq_iff_eq] at hc
    exact run_storeOp hi hf ho hc.1.1 hc.1.2 hc.2 h
  · cases hc

theorem snd_nil (hi : SInv w K) (hf : FRel w K a.tmps fr) {x' : Opd} (hc : chkNil o x' = true) (h : evOp R F st fr hide K.σ (.nilCheck x') = some (d, σ')) : Runs P o a w K st d σ' := by
  simp only [evOp] at h
  split at h
  · rename_i hn
    simp only [Option.some.injEq, Prod.mk.injEq] at h
    obtain ⟨rfl, rfl⟩ := h
    unfold chkNil at hc
    split at hc
    · rename_i x ho; exact run_nilCheck hi hf ho hc hn
    · cases hc
  · cases h

theorem snd_fieldAddr (hi : SInv w K) (hf : FRel w K a.tmps fr) {off : Nat} {x' : Opd} (hc : chkFieldAddr P o off x' = true) (h : evOp R F st fr hide K.σ (.fieldAddr off x') = some (d, σ')) : Runs P o a w K st d σ' := by
  simp only [evOp] at h
  unfold chkFieldAddr at hc
  split at hc
  · rename_i t x k ho
    simp only [Bool.and_eq_true] at hc
    obtain ⟨h1, h2⟩ := hc
    split at h2
    · rename_i off' n hb
      simp only [Bool.and_eq_true, beq_iff_eq, decide_eq_true_eq] at h2
      obtain ⟨rfl, hn⟩ := h2
      split at h
      · rename_i cells q hx
        simp only [Option.some.injEq, Prod.mk.injEq] at h
        obtain ⟨rfl, rfl⟩ := h
        exact run_fieldAddr hi hf ho h1 hb hn (.inl ⟨_, _, hx, rfl⟩)
      · rename_i r row q hx
        simp only [Option.some.injEq, Prod.mk.injEq] at h
        obtain ⟨rfl, rfl⟩ := h
        exact run_fieldAddr hi hf ho h1 hb hn (.inr ⟨_, _, _, hx, rfl⟩)
      · cases h
    · cases h2
  · cases hc

theorem snd_indexSl (hi : SInv w K) (hf : FRel w K a.tmps fr) {s : Nat} {x' y' : Opd} (hc : chkIndexSl P o s x' y' = true) (h : evOp R F st fr hide K.σ (.indexSl s x' y') = some (d, σ')) : Runs P o a w K st d σ' := by
  simp only [evOp] at h
  unfold chkIndexSl at hc
  split at hc
  · rename_i t x y ho
    simp only [Bool.and_eq_true, beq_iff_eq] at hc
    obtain ⟨⟨h1, h2⟩, h3⟩ := hc
    split at h
    · rename_i n hn
      split at h
      · rename_i rows hx
        split at h
        · rename_i row hrow
          split at h
          · rename_i hl
            simp only [Option.some.injEq, Prod.mk.injEq] at h
            obtain ⟨rfl, rfl⟩ := h
            exact run_indexSl hi hf ho h1 h2 h3 hn (.inl ⟨_, _, .inl hx, hrow, hl, rfl⟩)
          · cases h
        · cases h
      · rename_i rows r hx
        split at h
        · rename_i row hrow
          split at h
          · rename_i hl
            simp only [Option.some.injEq, Prod.mk.injEq] at h
            obtain ⟨rfl, rfl⟩ := h
            exact run_indexSl hi hf ho h1 h2 h3 hn (.inl ⟨_, _, .inr ⟨_, hx⟩, hrow, hl, rfl⟩)
          · cases h
        · cases h
      · rename_i r off len hx
        split at h
        · rename_i sz rows mu hg
          split at h
          · rename_i hl
            simp only [Option.some.injEq, Prod.mk.injEq] at h
            obtain ⟨rfl, rfl⟩ := h
            exact run_indexSl hi hf ho h1 h2 h3 hn (.inr ⟨_, _, _, _, _, _, hx, hide_less _ _ _ _ _ hg, hl.1, hl.2, rfl⟩)
          · cases h
        · cases h
      · cases h
    · cases h
  · cases hc

theorem snd_indexStr (hi : SInv w K) (hf : FRel w K a.tmps fr) {x' y' : Opd} (hc : chkIndexStr P o x' y' = true) (h : evOp R F st fr hide K.σ (.indexStr x' y') = some (d, σ')) : Runs P o a w K st d σ' := by
  simp only [evOp] at h
  unfold chkIndexStr at hc
  split at hc
  · rename_i t x y ho
    simp only [Bool.and_eq_true] at hc
    obtain ⟨⟨h1, h2⟩, h3⟩ := hc
    split at h3
    · rename_i hu
      split at h
      · rename_i l n hx hy
        obtain ⟨c, e1, e2⟩ := Option.map_eq_some_iff.1 h
        simp only [Prod.mk.injEq] at e2
        obtain ⟨rfl, rfl⟩ := e2
        exact run_indexStr hi hf ho h1 h2 hu hy hx e1
      · cases h
    · cases h3
  · cases hc

theorem snd_indexAgg (hi : SInv w K) (hf : FRel w K a.tmps fr) {len s : Nat} {ag : Bool} {x' y' : Opd} (hc : chkIndexAgg P o len s ag x' y' = true) (h : evOp R F st fr hide K.σ (.indexAgg len s ag x' y') = some (d, σ')) : Runs P o a w K st d σ' := by
  simp only [evOp] at h
  unfold chkIndexAgg at hc
  split at hc
  · rename_i t x y ho
    simp only [Bool.and_eq_true] at hc
    obtain ⟨⟨h1, h2⟩, h3⟩ := hc
    split at h3
    · rename_i n e hu
      simp only [Bool.and_eq_true, beq_iff_eq] at h3
      obtain ⟨⟨rfl, h4⟩, h5⟩ := h3
      split at h
      · rename_i cs m hx hy
        split at h
        · rename_i hl
          cases ag with
          | true =>
            simp only [if_true, Option.some.injEq, Prod.mk.injEq] at h
            obtain ⟨rfl, rfl⟩ := h
            exact run_indexAgg hi hf ho hu h4 h5 h1 h2 hx hy hl.1 hl.2 (by simp)
          | false =>
            simp only [Bool.false_eq_true, if_false] at h
            obtain ⟨c, e1, e2⟩ := Option.map_eq_some_iff.1 h
            simp only [Prod.mk.injEq] at e2
            obtain ⟨rfl, rfl⟩ := e2
            exact run_indexAgg hi hf ho hu h4 h5 h1 h2 hx hy hl.1 hl.2 (by simpa using e1)
        · cases h
      · cases h
    · cases h3
  · cases hc

theorem snd_field (hi : SInv w K) (hf : FRel w K a.tmps fr) {off n : Nat} {ag : Bool} {x' : Opd} (hc : chkField P o off n ag x' = true) (h : evOp R F st fr hide K.σ (.field off n ag x') = some (d, σ')) : Runs P o a w K st d σ' := by
  simp only [evOp] at h
  unfold chkField at hc
  split at hc
  · rename_i t x k ho
    simp only [Bool.and_eq_true] at hc
    obtain ⟨h1, h2⟩ := hc
    split at h2
    · rename_i fs hu
      split at h2
      · rename_i f hk
        simp only [Bool.and_eq_true, beq_iff_eq] at h2
        obtain ⟨⟨rfl, h4⟩, h5⟩ := h2
        split at h
        · rename_i cs hx
          cases ag with
          | true =>
            simp only [if_true] at h
            split at h
            · rename_i hl
              simp only [Option.some.injEq, Prod.mk.injEq] at h
              obtain ⟨rfl, rfl⟩ := h
              exact run_field hi hf ho h1 hu hk h4 h5 hx (by simpa using hl)
            · cases h
          | false =>
            simp only [Bool.false_eq_true, if_false] at h
            obtain ⟨c, e1, e2⟩ := Option.map_eq_some_iff.1 h
            simp only [Prod.mk.injEq] at e2
            obtain ⟨rfl, rfl⟩ := e2
            exact run_field hi hf ho h1 hu hk h4 h5 hx (by simpa using e1)
        · cases h
      · cases h2
    · cases h2
  · cases hc
theorem snd_indexArr (hi : SInv w K) (hf : FRel w K a.tmps fr) {len s : Nat} {x' y' : Opd} (hc : chkIndexArr P o len s x' y' = true) (h : evOp R F st fr hide K.σ (.indexArr len s x' y') = some (d, σ')) : Runs P o a w K st d σ' := by
  simp only [evOp] at h
  unfold chkIndexArr at hc
  split at hc
  · rename_i t x y ho
    simp only [Bool.and_eq_true, beq_iff_eq] at hc
    obtain ⟨⟨h1, h2⟩, h3⟩ := hc
    split at h
    · rename_i n hn
      split at h
      · rename_i hlt
        split at h
        · rename_i cells q hx
          simp only [Option.some.injEq, Prod.mk.injEq] at h
          obtain ⟨rfl, rfl⟩ := h
          exact run_indexArr hi hf ho h1 h2 h3 hn hlt (.inl ⟨_, _, hx, rfl⟩)
        · rename_i r row q hx
          split at h
          · rename_i sz rows mu hg
            simp only [Option.some.injEq, Prod.mk.injEq] at h
            obtain ⟨rfl, rfl⟩ := h
            exact run_indexArr hi hf ho h1 h2 h3 hn hlt (.inr ⟨_, _, _, _, hx, hide_less _ _ _ _ _ hg, ⟨_, _, _, rfl⟩, rfl⟩)
          · cases h
        · cases h
      · cases h
    · cases h
  · cases hc

theorem snd_bin (hi : SInv w K) (hf : FRel w K a.tmps fr) {op : BinOp} {x' y' : Opd} (hc : chkBin o op x' y' = true) (h : evOp R F st fr hide K.σ (.bin op x' y') = some (d, σ')) : Runs P o a w K st d σ' := by
  simp only [evOp] at h
  unfold chkBin at hc
  split at hc
  · rename_i op' t x y t2 ho
    simp only [Bool.and_eq_true, beq_iff_eq] at hc
    obtain ⟨⟨rfl, h1⟩, h2⟩ := hc
    split at h
    · rename_i p q hx hy
      obtain ⟨r, e1, e2⟩ := Option.map_eq_some_iff.1 h
      simp only [Prod.mk.injEq] at e2
      obtain ⟨rfl, rfl⟩ := e2
      exact run_bin hi hf ho h1 h2 hx hy e1
    · cases h
  · cases hc

theorem isConst_spec {x : Operand} (h : isConst x = true) : ∃ c, x = .const c := by
  unfold isConst at h
  split at h
  · exact ⟨_, rfl⟩
  · cases h

theorem snd_eqv (hi : SInv w K) (hf : FRel w K a.tmps fr) {neg : Bool} {kd : Nat} {ks : List Nat} {x' y' : Opd} (hc : chkEqv P o neg kd ks x' y' = true) (h : evOp R F st fr hide K.σ (.eqv neg kd ks x' y') = some (d, σ')) : Runs P o a w K st d σ' := by
  simp only [evOp] at h
  obtain ⟨b, e1, e2⟩ := Option.map_eq_some_iff.1 h
  simp only [Prod.mk.injEq] at e2
  obtain ⟨rfl, rfl⟩ := e2
  unfold chkEqv at hc
  split at hc
  · rename_i op t x y t2 ho
    simp only [Bool.and_eq_true, beq_iff_eq] at hc
    obtain ⟨⟨⟨hop, h1⟩, h2⟩, h3⟩ := hc
    split at h3
    · rename_i hk
      subst hk
      simp only [Bool.and_eq_true, beq_iff_eq] at h3
      obtain ⟨rfl, h4⟩ := h3
      split at h4
      · rename_i hu; exact run_eqv0 hop hi hf ho h1 h2 e1 hu
      · cases h4
    · rename_i hk0
      split at h3
      · rename_i hk
        subst hk
        simp only [Bool.and_eq_true, beq_iff_eq, Bool.not_eq_true'] at h3
        obtain ⟨⟨h4, h5⟩, h6⟩ := h3
        split at h5
        · rename_i fs hu; exact run_eqv6 hop hi hf ho h1 h2 e1 (by decide) h4 hu h6
        · cases h5
      · rename_i hk6
        simp only [Bool.and_eq_true, Bool.or_eq_true] at h3
        obtain ⟨h4, h5⟩ := h3
        split at h4
        · rename_i ty hu
          exact run_eqvN hop hi hf ho h1 h2 e1 hk0 hk6 hu h4 (h5.imp isConst_spec isConst_spec)
        · cases h4
  · cases hc

theorem snd_un (hi : SInv w K) (hf : FRel w K a.tmps fr) {op : UnOp} {x' : Opd} (hc : chkUn o op x' = true) (h : evOp R F st fr hide K.σ (.un op x') = some (d, σ')) : Runs P o a w K st d σ' := by
  simp only [evOp] at h
  unfold chkUn at hc
  split at hc
  · rename_i op' t x ho
    simp only [Bool.and_eq_true, beq_iff_eq] at hc
    obtain ⟨rfl, h1⟩ := hc
    split at h
    · rename_i p hx
      obtain ⟨r, e1, e2⟩ := Option.map_eq_some_iff.1 h
      simp only [Prod.mk.injEq] at e2
      obtain ⟨rfl, rfl⟩ := e2
      exact run_un hi hf ho h1 hx e1
    · cases h
  · cases hc

theorem snd_conv (hi : SInv w K) (hf : FRel w K a.tmps fr) {k : IntKind} {x' : Opd} (hc : chkConv P o k x' = true) (h : evOp R F st fr hide K.σ (.conv k x') = some (d, σ')) : Runs P o a w K st d σ' := by
  simp only [evOp] at h
  unfold chkConv at hc
  split at hc
  · rename_i s t x ho
    simp only [Bool.and_eq_true] at hc
    obtain ⟨⟨h1, h2⟩, h3⟩ := hc
    split at h3
    · rename_i k' hu
      simp only [beq_iff_eq] at h3
      subst h3
      split at h
      · rename_i j n hx
        simp only [Option.some.injEq, Prod.mk.injEq] at h
        obtain ⟨rfl, rfl⟩ := h
        exact run_conv hi hf ho h1 (Option.isSome_iff_exists.1 h2) hu hx
      · cases h
    · cases h3
  · cases hc

theorem chkMin_spec {b : Builtin} {x' y' : Opd} (hc : chkMin o b x' y' = true) : ∃ c x y, o.op = .call c ∧ c.callee = .builtin b ∧ c.args = #[x, y] ∧ chkX x x' = true ∧ chkX y y' = true := by
  unfold chkMin at hc
  split at hc
  · rename_i c ho
    simp only [Bool.and_eq_true] at hc
    obtain ⟨h1, h2⟩ := hc
    split at h1
    · rename_i b' hb
      simp only [beq_iff_eq] at h1
      subst h1
      split at h2
      · rename_i x y hl
        simp only [Bool.and_eq_true] at h2
        exact ⟨c, x, y, ho, hb, Array.ext' (by rw [hl]), h2.1, h2.2⟩
      · cases h2
    · cases h1
  · cases hc

theorem snd_min (hi : SInv w K) (hf : FRel w K a.tmps fr) {x' y' : Opd} (hc : chkMin o .min x' y' = true) (h : evOp R F st fr hide K.σ (.minI x' y') = some (d, σ')) : Runs P o a w K st d σ' := by
  simp only [evOp] at h
  obtain ⟨c, x, y, ho, h1, h2, h3, h4⟩ := chkMin_spec hc
  split at h
  · rename_i k p k' q hx hy
    split at h
    · rename_i hk
      subst hk
      simp only [Option.some.injEq, Prod.mk.injEq] at h
      obtain ⟨rfl, rfl⟩ := h
      exact run_minI hi hf ho h1 h2 h3 h4 hx hy
    · cases h
  · cases h
theorem snd_max (hi : SInv w K) (hf : FRel w K a.tmps fr) {x' y' : Opd} (hc : chkMin o .max x' y' = true) (h : evOp R F st fr hide K.σ (.maxI x' y') = some (d, σ')) : Runs P o a w K st d σ' := by
  simp only [evOp] at h
  obtain ⟨c, x, y, ho, h1, h2, h3, h4⟩ := chkMin_spec hc
  split at h
  · rename_i k p k' q hx hy
    split at h
    · rename_i hk
      subst hk
      simp only [Option.some.injEq, Prod.mk.injEq] at h
      obtain ⟨rfl, rfl⟩ := h
      exact run_maxI hi hf ho h1 h2 h3 h4 hx hy
    · cases h
  · cases h

theorem snd_extract (hi : SInv w K) (hf : FRel w K a.tmps fr) {x' : Opd} {i : Nat} (hc : chkExtract o x' i = true) (h : evOp R F st fr hide K.σ (.extract x' i) = some (d, σ')) : Runs P o a w K st d σ' := by
  simp only [evOp] at h
  unfold chkExtract at hc
  split at hc
  · rename_i x j ho
    simp only [Bool.and_eq_true, beq_iff_eq] at hc
    obtain ⟨rfl, h1⟩ := hc
    split at h
    · rename_i vs hx
      obtain ⟨r, e1, e2⟩ := Option.map_eq_some_iff.1 h
      simp only [Prod.mk.injEq] at e2
      obtain ⟨rfl, rfl⟩ := e2
      exact run_extract hi hf ho h1 hx e1
    · cases h
  · cases hc

theorem snd_mkIface (hi : SInv w K) (hf : FRel w K a.tmps fr) {t : Nat} {x' : Opd} (hc : chkMkIface P o t x' = true) (h : evOp R F st fr hide K.σ (.mkIface t x') = some (d, σ')) : Runs P o a w K st d σ' := by
  simp only [evOp] at h
  unfold chkMkIface at hc
  split at hc
  · rename_i t' x ho
    simp only [Bool.and_eq_true, beq_iff_eq] at hc
    obtain ⟨⟨rfl, h1⟩, h2⟩ := hc
    have hu : ∃ d, P.underlying t' = some d ∧ ∀ ms, d ≠ .interface ms := by
      split at h2
      · cases h2
      · rename_i d hne hu; exact ⟨d, hu, fun ms e => hne ms e⟩
      · cases h2
    split at h
    · rename_i v hx
      simp only [Option.some.injEq, Prod.mk.injEq] at h
      obtain ⟨rfl, rfl⟩ := h
      exact run_mkIface hi hf ho h1 hu (.inl ⟨_, hx, rfl⟩)
    · rename_i r q s hx
      simp only [Option.some.injEq, Prod.mk.injEq] at h
      obtain ⟨rfl, rfl⟩ := h
      exact run_mkIface hi hf ho h1 hu (.inr ⟨_, _, _, hx, rfl⟩)
    · cases h
  · cases hc

theorem snd_makeMap (hi : SInv w K) (hold : Old w K) (hst : ¬ K.used st) {site : Nat} (hc : chkMakeMap o = true) (h : evOp R F st fr hide K.σ (.makeMap site) = some (d, σ')) : Runs P o a w K st d σ' := by
  simp only [evOp, Option.some.injEq, Prod.mk.injEq] at h
  obtain ⟨rfl, rfl⟩ := h
  unfold chkMakeMap at hc
  split at hc
  · rename_i t ho; exact run_makeMap hi hold F site hst ho
  · cases hc

theorem snd_clo (hi : SInv w K) (hf : FRel w K a.tmps fr) {f : Nat} {xs' ys' : List Opd} (hc : chkClo o f xs' ys' = true) (h : evOp R F st fr hide K.σ (.clo f xs' ys') = some (d, σ')) : Runs P o a w K st d σ' := by
  simp only [evOp] at h
  unfold chkClo at hc
  split at hc
  · rename_i g xs ys ho
    simp only [Bool.and_eq_true, beq_iff_eq] at hc
    obtain ⟨⟨rfl, h1⟩, h2⟩ := hc
    split at h
    · rename_i p q hp hq
      simp only [Option.some.injEq, Prod.mk.injEq] at h
      obtain ⟨rfl, rfl⟩ := h
      exact run_clo hi hf ho h1 h2 (.inl ⟨_, _, hp, hq, rfl⟩)
    · simp only [Option.some.injEq, Prod.mk.injEq] at h
      obtain ⟨rfl, rfl⟩ := h
      exact run_clo hi hf ho h1 h2 (.inr rfl)
  · cases hc
theorem snd_build (hi : SInv w K) (hf : FRel w K a.tmps fr) {zero : List PV} {parts' : List (Nat × Nat × Opd)} (hc : chkBuild P o zero parts' = true) (h : evOp R F st fr hide K.σ (.build zero parts') = some (d, σ')) : Runs P o a w K st d σ' := by
  simp only [evOp] at h
  obtain ⟨cs, e1, e2⟩ := Option.map_eq_some_iff.1 h
  simp only [Prod.mk.injEq] at e2
  obtain ⟨rfl, rfl⟩ := e2
  unfold chkBuild at hc
  split at hc
  · rename_i t parts ho
    simp only [Bool.and_eq_true] at hc
    obtain ⟨hz, h2⟩ := hc
    obtain ⟨z, z1, z2⟩ := chkZero_spec hz
    split at h2
    · rename_i fs hu
      split at h2
      · rename_i pl hpl; exact run_build hi hf ho z1 z2 (.inl ⟨fs, pl, hu, hpl, rfl⟩) h2 e1
      · cases h2
    · rename_i n e hu
      split at h2
      · rename_i s hs; exact run_build hi hf ho z1 z2 (.inr ⟨n, e, s, hu, hs, rfl⟩) h2 e1
      · cases h2
    · cases h2
  · cases hc

theorem elemOf_spec {t e : TypeId} (h : elemOf P t = some e) : P.underlying t = some (.slice e) := by
  unfold elemOf at h
  split at h
  · rename_i e' hu; simp only [Option.some.injEq] at h; rw [hu, h]
  · cases h
theorem chkElem_spec {e : TypeId} {zero : List PV} (h : chkElem P e zero = true) : ∃ z bytes, (P.info? e).map (fun i => (i.size, i.bytes, i.zero)) = some (zero.length, bytes, some z) ∧ bytes ≤ 32768 ∧ 0 < bytes ∧ 0 < zero.length ∧ chkL z.cells.toList zero = true := by
  unfold chkElem at h
  split at h
  · rename_i i hinf
    simp only [Bool.and_eq_true, beq_iff_eq, decide_eq_true_eq] at h
    obtain ⟨⟨⟨⟨h1, h2⟩, h3⟩, h4⟩, h5⟩ := h
    split at h5
    · rename_i z hz; exact ⟨z, i.bytes, by rw [hinf]; simp [h1, hz], h2, h3, h4, h5⟩
    · cases h5
  · cases h

theorem snd_buildSl (hi : SInv w K) (hold : Old w K) (hf : FRel w K a.tmps fr) (hst : ¬ K.used st) {kind : SlK} {site s len : Nat} {zero : List PV} {parts' : List (Nat × Opd)} (hc : chkBuildSl P o s zero len parts' = true) (h : evOp R F st fr hide K.σ (.buildSl kind site s zero len parts') = some (d, σ')) : Runs P o a w K st d σ' := by
  simp only [evOp] at h
  unfold chkBuildSl at hc
  split at hc
  · rename_i t n parts ho
    simp only [Bool.and_eq_true, beq_iff_eq, decide_eq_true_eq] at hc
    obtain ⟨⟨⟨⟨rfl, rfl⟩, hlim⟩, hp⟩, h2⟩ := hc
    split at h2
    · rename_i e he
      obtain ⟨z, bytes, hinf, hb1, hb2, hpos, hz⟩ := chkElem_spec h2
      have hinf2 : (P.info? e).map (fun i => (i.size, i.zero)) = some (zero.length, some z) := by
        obtain ⟨i, i1, i2⟩ := Option.map_eq_some_iff.1 hinf
        simp only [Prod.mk.injEq] at i2
        rw [i1]; simp [i2.1, i2.2.2]
      have run := @run_buildSl P o a w K fr st hi hold hf F site hst t e n parts parts' zero z ho (elemOf_spec he) hinf2 hz hpos hlim hp
      split at h
      · rename_i rows hrows
        split at h
        · rename_i h0
          simp only [Option.some.injEq, Prod.mk.injEq] at h
          obtain ⟨rfl, rfl⟩ := h
          exact run hrows kind (.inl ⟨h0, rfl, rfl⟩)
        · rename_i h0
          have h0' : 0 < n := by omega
          simp only [if_true] at h
          cases kind with
          | own =>
            simp only [Option.some.injEq, Prod.mk.injEq] at h
            obtain ⟨rfl, rfl⟩ := h
            exact run hrows .own (.inr (.inl ⟨h0', rfl, rfl, rfl⟩))
          | lin =>
            obtain ⟨rs, e1, e2⟩ := Option.map_eq_some_iff.1 h
            simp only [Prod.mk.injEq] at e2
            obtain ⟨rfl, rfl⟩ := e2
            exact run hrows .lin (.inr (.inr (.inl ⟨h0', rfl, rs, e1, rfl, rfl⟩)))
          | imm =>
            obtain ⟨rs, e1, e2⟩ := Option.map_eq_some_iff.1 h
            simp only [Prod.mk.injEq] at e2
            obtain ⟨rfl, rfl⟩ := e2
            exact run hrows .imm (.inr (.inr (.inr ⟨h0', rfl, rs, e1, rfl, rfl⟩)))
      · cases h
    · cases h2
  · cases hc

theorem snd_makeSl (hi : SInv w K) (hold : Old w K) (hf : FRel w K a.tmps fr) (hst : ¬ K.used st) {kind : SlK} {site : Nat} {zero : List PV} {x' y' : Opd} (hc : chkMakeSl P o zero x' y' = true) (h : evOp R F st fr hide K.σ (.makeSl kind site zero x' y') = some (d, σ')) : Runs P o a w K st d σ' := by
  simp only [evOp] at h
  unfold chkMakeSl at hc
  split at hc
  · rename_i t x y ho
    simp only [Bool.and_eq_true] at hc
    obtain ⟨⟨h1, h2⟩, h3⟩ := hc
    split at h3
    · rename_i e he
      obtain ⟨z, bytes, hinf, hb1, hb2, hpos, hz⟩ := chkElem_spec h3
      split at h
      · rename_i l c hl hcap
        split at h
        · rename_i hle
          have run := @run_makeSl P o a w K fr st hi hold hf F site hst t e x y x' y' zero z bytes ho (elemOf_spec he) hinf hz hb1 h1 h2 l c hl hcap hle.1 hle.2
          cases kind with
          | own =>
            simp only at h
            split at h
            · simp only [Option.some.injEq, Prod.mk.injEq] at h
              obtain ⟨rfl, rfl⟩ := h
              exact run (.inl ⟨rfl, rfl⟩)
            · cases h
          | lin =>
            simp only [Option.some.injEq, Prod.mk.injEq] at h
            obtain ⟨rfl, rfl⟩ := h
            exact run (.inr ⟨rfl, rfl⟩)
          | imm =>
            simp only [Option.some.injEq, Prod.mk.injEq] at h
            obtain ⟨rfl, rfl⟩ := h
            exact run (.inr ⟨rfl, rfl⟩)
        · cases h
      · cases h
    · cases h3
  · cases hc

theorem snd_sliceStr (hi : SInv w K) (hf : FRel w K a.tmps fr) {x' : Opd} {lo' hi' : Option Opd} (hc : chkSliceStr P o x' lo' hi' = true) (h : evOp R F st fr hide K.σ (.sliceStr x' lo' hi') = some (d, σ')) : Runs P o a w K st d σ' := by
  simp only [evOp] at h
  unfold chkSliceStr at hc
  split at hc
  · rename_i t x lo hi2 ho
    simp only [Bool.and_eq_true] at hc
    obtain ⟨⟨⟨h1, h2⟩, h3⟩, h4⟩ := hc
    split at h4
    · rename_i hu
      split at h
      · rename_i s hx
        split at h
        · rename_i l hh e1 e2
          split at h
          · rename_i hle
            simp only [Option.some.injEq, Prod.mk.injEq] at h
            obtain ⟨rfl, rfl⟩ := h
            exact run_sliceStr hi hf ho hu h1 h2 h3 hx e1 e2 hle.1 hle.2
          · cases h
        · cases h
      · cases h
    · cases h4
  · cases hc

theorem snd_len (hi : SInv w K) (hf : FRel w K a.tmps fr) {k : Nat} {x' : Opd} (hc : chkLen P o k x' = true) (h : evOp R F st fr hide K.σ (.len k x') = some (d, σ')) : Runs P o a w K st d σ' := by
  simp only [evOp] at h
  obtain ⟨n, e1, e2⟩ := Option.map_eq_some_iff.1 h
  simp only [Prod.mk.injEq] at e2
  obtain ⟨rfl, rfl⟩ := e2
  unfold chkLen at hc
  split at hc
  · rename_i c ho
    simp only [Bool.and_eq_true] at hc
    obtain ⟨h1, h2⟩ := hc
    split at h1
    · rename_i hcal
      split at h2
      · rename_i x t hx ht
        simp only [Bool.and_eq_true] at h2
        obtain ⟨h3, h4⟩ := h2
        have ha : c.args = #[x] := Array.ext' (by rw [hx])
        have hat : c.argTypes = #[t] := Array.ext' (by rw [ht])
        split at h4
        · rename_i hu; exact run_len hi hf ho hcal ha hat hu (.inl ⟨by simpa using h4, rfl⟩) h3 (hide_less _ _ _) e1
        · rename_i e hu; exact run_len hi hf ho hcal ha hat hu (.inr (.inl ⟨by simpa using h4, e, rfl⟩)) h3 (hide_less _ _ _) e1
        · rename_i q e hu; exact run_len hi hf ho hcal ha hat hu (.inr (.inr ⟨by simpa using h4, q, e, rfl⟩)) h3 (hide_less _ _ _) e1
        · cases h4
      · cases h2
    · cases h1
  · cases hc
end
end Go.Ev
