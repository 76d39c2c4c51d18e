/- A part of an evaluator of closed runs, and of the proof that what it answers holds of the model. No conditions. -/
import Derived.Below
namespace Go.Ev

/-- Pure values: deep, with what slices and pointers lead to inline; never written again. -/
inductive PV where
  | bool (b : Bool)
  | int (k : IntKind) (n : Int)
  | str (s : List UInt8)
  | nilp | nilsl | emp | nilmap | nilif | nilfn
  | agg (cs : List PV)
  | sl (rows : List (List PV))
  | ip (cells : List PV) (off : Nat)
  | imap (es : List (PV × PV))
  | iface (t : Nat) (v : PV)
  | clo (f : Nat) (first cap : List PV)
  | gref (g : Nat)
  | sym (g : Nat)
  deriving Inhabited

/-- The name of an object of the store: frame, site, stamp. -/
structure Ref where
  f : Nat
  s : Nat
  st : Nat
  deriving DecidableEq, Inhabited

/-- What a slot of a frame holds. -/
inductive DV where
  | undef
  | p (v : PV)
  | agg (cs : List DV)
  | tup (vs : List DV)
  | lin (rows : List (List PV)) (r : Ref)
  | own (r : Ref) (off len : Nat)
  | mp (r : Ref) (row off : Nat)
  | omap (r : Ref)
  | clo (f : Nat) (first cap : List DV)
  | iface (t : Nat) (v : DV)
  | new (ow : Bool) (sz : Nat) (rows : List (List PV))
  | ent (r : Ref) (i : Nat)
  deriving Inhabited

/-- Objects of the store: rows of cells (so many a row); a map. mu: it may be written. -/
inductive Ob where
  | arr (sz : Nat) (rows : List (List DV)) (mu : Bool)
  | map (es : List (PV × DV)) (mu : Bool)
  deriving Inhabited

abbrev Objs := Nat → Nat → Option (Nat × Ob)
def Objs.get (σ : Objs) (r : Ref) : Option Ob :=
  match σ r.f r.s with
  | some (st, o) => if st = r.st then some o else none
  | none => none
/-- Without some places of a frame. -/
def Objs.hide (σ : Objs) (f : Nat) : List Nat → Objs
  | [] => σ
  | l => fun f' s' => if f' = f ∧ l.contains s' then none else σ f' s'

/-- The store: the next frame, the next stamp, the objects, the rights to append (stamp, cells a row, how many rows). -/
structure Store where
  nf : Nat
  c : Nat
  obj : Objs
  tok : Nat → Nat → Option (Nat × Nat × Nat)

def Store.nil : Store := ⟨1, 0, fun _ _ => none, fun _ _ => none⟩
/-- Something is laid at a place, or goes from it. -/
def Store.put (σ : Store) (f s : Nat) (e : Option (Nat × Ob)) : Store :=
  { σ with obj := fun f' s' => if f' = f then (if s' = s then e else σ.obj f' s') else σ.obj f' s' }
def Store.putTok (σ : Store) (f s : Nat) (e : Option (Nat × Nat × Nat)) : Store :=
  { σ with tok := fun f' s' => if f' = f then (if s' = s then e else σ.tok f' s') else σ.tok f' s' }
def Store.set (σ : Store) (r : Ref) (o : Ob) : Store := σ.put r.f r.s (some (r.st, o))
/-- The right behind a name: cells a row, rows. -/
def Store.right (σ : Store) (r : Ref) : Option (Nat × Nat) :=
  match σ.tok r.f r.s with
  | some (st, sz, n) => if st = r.st then some (sz, n) else none
  | none => none

abbrev Frame := List (Nat × DV)
def Frame.get : Frame → Nat → DV
  | [], _ => .undef
  | (k, v) :: r, t => if k = t then v else Frame.get r t
def Frame.set : Frame → Nat → DV → Frame
  | [], t, d => [(t, d)]
  | (k, v) :: r, t, d => if t < k then (t, d) :: (k, v) :: r else if t = k then (t, d) :: r else (k, v) :: Frame.set r t d
def Frame.del (fr : Frame) (l : List Nat) : Frame := fr.filter fun e => !l.contains e.1

inductive Opd where
  | t (n : Nat)
  | c (v : PV)
  | fn (f : Nat)
  deriving Inhabited

/-- A pure value as a slot holds it. -/
def ofPV : PV → DV
  | .agg cs => .agg (cs.map .p)
  | v => .p v

def Opd.ev (fr : Frame) : Opd → DV
  | .t n => fr.get n
  | .c v => ofPV v
  | .fn f => .p (.clo f [] [])

inductive SlK where
  | imm | lin | own
  deriving DecidableEq, Inhabited

inductive Mode where
  | pure | ref
  deriving DecidableEq, Inhabited

/-- Operations. -/
inductive IR where
  | mv (x : Opd)
  | pick (c a b : Opd)
  | alloc (site : Nat) (zero : List PV)
  | box (site : Nat) (x : Opd)
  | load (n : Nat) (ag : Bool) (a : Opd)
  | gload (g : Nat) (v : PV)
  | store (n : Nat) (a x : Opd)
  | nilCheck (x : Opd)
  | fieldAddr (off : Nat) (x : Opd)
  | indexSl (s : Nat) (x i : Opd)
  | indexArr (len s : Nat) (x i : Opd)
  | indexStr (x i : Opd)
  | indexAgg (len s : Nat) (ag : Bool) (x i : Opd)
  | field (off n : Nat) (ag : Bool) (x : Opd)
  | bin (op : BinOp) (x y : Opd)
  | eqv (neg : Bool) (kd : Nat) (ks : List Nat) (x y : Opd)
  | un (op : UnOp) (x : Opd)
  | conv (k : IntKind) (x : Opd)
  | rune (x : Opd)
  | build (zero : List PV) (parts : List (Nat × Nat × Opd))
  | buildSl (kind : SlK) (site s : Nat) (zero : List PV) (len : Nat) (parts : List (Nat × Opd))
  | makeSl (kind : SlK) (site : Nat) (zero : List PV) (len cap : Opd)
  | sliceSl (s : Nat) (x : Opd) (lo hi mx : Option Opd)
  | sliceStr (x : Opd) (lo hi : Option Opd)
  | len (k : Nat) (x : Opd)
  | minI (x y : Opd)
  | maxI (x y : Opd)
  | append (site s : Nat) (dyn : Bool) (x y : Opd)
  | appendO (site s : Nat) (x y : Opd)
  | clear (zero : List PV) (x : Opd)
  | mapEntry (kd : Nat) (ks : List Nat) (zero : PV) (m k : Opd)
  | entryStore (m i v : Opd)
  | makeMap (site : Nat)
  | lookup (kd : Nat) (ks : List Nat) (zero : PV) (ok : Bool) (m k : Opd)
  | mapUpd (kd : Nat) (ks : List Nat) (m k v : Opd)
  | delete (m k : Opd)
  | extract (x : Opd) (i : Nat)
  | mkIface (t : Nat) (x : Opd)
  | assert (t : Nat) (zero : PV) (ok : Bool) (x : Opd)
  | clo (f : Nat) (first cap : List Opd)
  | call (m : Mode) (f : Nat) (args : List Opd) (sites : List (Nat × SlK))
  | callv (m : Mode) (fv : Opd) (args : List Opd) (sites : List (Nat × SlK))
  | boxI (x : Opd)
  | loadP (n : Nat) (ag : Bool) (a : Opd)
  | lenP (k : Nat) (x : Opd)

structure OpI where
  dst : Option Nat
  op : IR
  guard : Option (Nat × Bool)
  hide : List Nat

inductive ResI where
  | tmp (t : Nat)
  | cell (t n : Nat) (ag : Bool)

inductive C where
  | skip
  | ops (l : List OpI)
  | seq (a b : C)
  | cond (x : Opd) (a b : C)
  | block (id : Nat) (b : C)
  | loop (b : C)
  | exit (id : Nat)
  | ret
  | kill (b : C) (ts : List Nat) (sites : List Nat)
  | range (x : Opd) (ts : List Nat) (pre body : C)

structure Fn where
  nargs : Nat
  results : List ResI
  body : C

/-! ### Scalars -/
def asP : DV → Option PV
  | .p v => some v
  | _ => none
def asPs : List DV → Option (List PV)
  | [] => some []
  | d :: ds => match d with
    | .p v => (asPs ds).map (v :: ·)
    | .lin rows _ => (asPs ds).map (.sl rows :: ·)
    | _ => none
def asRows : List (List DV) → Option (List (List PV))
  | [] => some []
  | r :: rs => match asPs r with
    | some r' => (asRows rs).map (r' :: ·)
    | none => none

/-- A value that is held as a map's key, or as another value's whole. -/
def keyOf : DV → Option PV
  | .p v => some v
  | .agg cs => (asPs cs).map .agg
  | _ => none

def binInt (op : BinOp) (k : IntKind) (a b : Int) : Option PV :=
  match op with
  | .add => some (.int k (k.wrap (a + b)))
  | .sub => some (.int k (k.wrap (a - b)))
  | .mul => some (.int k (k.wrap (a * b)))
  | .quo => if b = 0 then none else some (.int k (k.wrap (a.tdiv b)))
  | .rem => if b = 0 then none else some (.int k (a.tmod b))
  | .and => some (.int k (k.wrap (BitVec.ofInt k.bits a &&& BitVec.ofInt k.bits b).toNat))
  | .or => some (.int k (k.wrap (BitVec.ofInt k.bits a ||| BitVec.ofInt k.bits b).toNat))
  | .xor => some (.int k (k.wrap (BitVec.ofInt k.bits a ^^^ BitVec.ofInt k.bits b).toNat))
  | .andNot => some (.int k (k.wrap (BitVec.ofInt k.bits a &&& ~~~ BitVec.ofInt k.bits b).toNat))
  | .eql => some (.bool (a == b))
  | .neq => some (.bool (a != b))
  | .lss => some (.bool (a < b))
  | .leq => some (.bool (a ≤ b))
  | .gtr => some (.bool (a > b))
  | .geq => some (.bool (a ≥ b))
  | _ => none

def binStr (op : BinOp) (x y : List UInt8) : Option PV :=
  match op with
  | .add => if ((x.length + y.length : Nat) : Int) > IntKind.i64.max then none else some (.str (x ++ y))
  | .eql => some (.bool (x == y))
  | .neq => some (.bool !(x == y))
  | .lss => some (.bool (Op.bytesLess x y))
  | .leq => some (.bool (Op.bytesLess x y || x == y))
  | .gtr => some (.bool !(Op.bytesLess x y || x == y))
  | .geq => some (.bool !(Op.bytesLess x y))
  | _ => none

def binPV (op : BinOp) (x y : PV) : Option PV :=
  match x, y with
  | .int k a, .int k' b =>
    match op with
    | .shl => if b < 0 then none else some (.int k (k.wrap (a * 2 ^ (min b.toNat k.bits))))
    | .shr => if b < 0 then none else some (.int k (a.fdiv (2 ^ (min b.toNat k.bits))))
    | op => if k = k' then binInt op k a b else none
  | .str a, .str b => binStr op a b
  | _, _ => none

/-- Equality of cells of such kinds (0: bool, 1: int, 2: string); whether something is nil, by kind (1: pointer, 2: interface, 3: slice, 4: map, 5: function). -/
def eqS : Nat → PV → PV → Option Bool
  | 0, .bool a, .bool b => some (a == b)
  | 1, .int k a, .int k' b => if k = k' then some (a == b) else none
  | 2, .str a, .str b => some (a == b)
  | _, _, _ => none
def eqL : List Nat → List PV → List PV → Option Bool
  | [], [], [] => some true
  | k :: ks, x :: xs, y :: ys => match eqS k x y, eqL ks xs ys with
    | some a, some b => some (a && b)
    | _, _ => none
  | _, _, _ => none
def isNilD : DV → Option Bool
  | .p .nilp | .p .nilif | .p .nilfn | .p .nilmap | .p .nilsl => some true
  | .p (.sl _) | .p .emp | .lin .. | .own .. | .p (.ip ..) | .p (.iface ..) | .p (.clo ..) | .p (.gref _) | .p (.imap _) | .mp .. | .omap _ | .clo .. | .iface .. => some false
  | _ => none
def nilK : Nat → DV → Option Bool
  | 1, .p .nilp => some true
  | 1, .p (.ip ..) | 1, .p (.gref _) | 1, .mp .. => some false
  | 2, .p .nilif => some true
  | 2, .p (.iface ..) | 2, .iface .. => some false
  | 3, .p .nilsl => some true
  | 3, .p (.sl _) | 3, .p .emp | 3, .lin .. | 3, .own .. => some false
  | 4, .p .nilmap => some true
  | 4, .p (.imap _) | 4, .omap _ => some false
  | 5, .p .nilfn => some true
  | 5, .p (.clo ..) | 5, .clo .. => some false
  | _, _ => none
def eqD (kd : Nat) (ks : List Nat) (x y : DV) : Option Bool :=
  if kd = 0 then (match x, y with
    | .p a, .p b => eqL ks [a] [b]
    | _, _ => none)
  else if kd = 6 then (match x, y with
    | .agg xs, .agg ys => match asPs xs, asPs ys with
      | some a, some b => eqL ks a b
      | _, _ => none
    | _, _ => none)
  else match nilK kd x, nilK kd y with
    | some true, b => b
    | some false, some true => some false
    | _, _ => none
/-- Equality of keys: 6: of aggregates. -/
def eqK (kd : Nat) (ks : List Nat) (a b : PV) : Option Bool :=
  if kd = 6 then (match a, b with
    | .agg x, .agg y => eqL ks x y
    | _, _ => none)
  else match a, b with
    | .agg _, _ => none
    | _, .agg _ => none
    | a, b => eqL ks [a] [b]

/-- Is a key of such kinds? -/
def keyOk (kd : Nat) (ks : List Nat) : PV → Bool
  | .agg cs => kd == 6 && cs.length == ks.length
  | _ => kd != 6
def unPV (op : UnOp) (x : PV) : Option PV :=
  match op, x with
  | .neg, .int k n => some (.int k (k.wrap (0 - n)))
  | .xor, .int k n => some (.int k (k.wrap (BitVec.ofInt k.bits (if k.signed then -1 else k.max) ^^^ BitVec.ofInt k.bits n).toNat))
  | .not, .bool b => some (.bool !b)
  | _, _ => none

/-- Is it the value of one cell, and known? -/
def oneD : DV → Bool
  | .p (.agg _) | .undef | .agg _ | .tup _ | .new .. | .ent .. => false
  | _ => true
def cellsOf (d : DV) : Option (List DV) :=
  match d with
  | .agg cs => if cs.all oneD then some cs else none
  | d => if oneD d then some [d] else none

/-- Cells laid over others from a place on. -/
def splice {α : Type} : List α → Nat → List α → List α
  | cs, 0, xs => xs ++ cs.drop xs.length
  | [], _ + 1, _ => []
  | c :: cs, n + 1, xs => c :: splice cs n xs

def fillAgg : List DV → List (Nat × Nat × DV) → Option (List DV)
  | cs, [] => some cs
  | cs, (off, n, d) :: rest => match cellsOf d with
    | some xs => if xs.length = n ∧ off + n ≤ cs.length then fillAgg (splice cs off xs) rest else none
    | none => none

def fillRows (s : Nat) : List (List DV) → List (Nat × DV) → Option (List (List DV))
  | rows, [] => some rows
  | rows, (i, d) :: rest => match cellsOf d with
    | some xs => if xs.length = s ∧ i < rows.length then fillRows s (rows.set i xs) rest else none
    | none => none

def evParts (fr : Frame) : List (Nat × Nat × Opd) → List (Nat × Nat × DV)
  | [] => []
  | (o, n, x) :: r => (o, n, x.ev fr) :: evParts fr r
def evParts2 (fr : Frame) : List (Nat × Opd) → List (Nat × DV)
  | [] => []
  | (o, x) :: r => (o, x.ev fr) :: evParts2 fr r

/-! ### What a slot leads to, as a pure value -/
def mapO {α β : Type} (g : α → Option β) : List α → Option (List β)
  | [] => some []
  | a :: l => match g a, mapO g l with
    | some b, some bs => some (b :: bs)
    | _, _ => none

def deepC (σ : Objs) : Nat → DV → Option PV
  | 0, _ => none
  | n + 1, d => match d with
    | .p v => some v
    | .lin rows _ => some (.sl rows)
    | .own r off len => match σ.get r with
      | some (.arr _ rows _) => if off + len ≤ rows.length then (mapO (mapO (deepC σ n)) ((rows.drop off).take len)).map .sl else none
      | _ => none
    | .mp r row off => match σ.get r with
      | some (.arr _ rows _) => match rows[row]? with
        | some cells => (mapO (deepC σ n) cells).map (.ip · off)
        | none => none
      | _ => none
    | .omap r => match σ.get r with
      | some (.map es _) => (mapO (fun e => (deepC σ n e.2).map fun v => (e.1, v)) es).map .imap
      | _ => none
    | .clo f a b => match mapO (deepC σ n) a, mapO (deepC σ n) b with
      | some a', some b' => some (.clo f a' b')
      | _, _ => none
    | .iface t v => (deepC σ n v).map (.iface t)
    | .agg cs => (mapO (deepC σ n) cs).map .agg
    | _ => none

/-- An argument, or a result's part, as a pure value. -/
def deepA (σ : Objs) (d : DV) : Option DV :=
  match d with
  | .agg cs => (mapO (deepC σ 9) cs).map fun l => .agg (l.map .p)
  | d => (deepC σ 9 d).map .p

/-- The objects that a slot leads to. -/
def reach (σ : Objs) : Nat → DV → List Ref
  | 0, _ => []
  | n + 1, d => match d with
    | .own r _ _ | .mp r _ _ => r :: (match σ.get r with
      | some (.arr _ rows _) => rows.flatMap fun row => row.flatMap (reach σ n)
      | _ => [])
    | .omap r => r :: (match σ.get r with
      | some (.map es _) => es.flatMap fun e => reach σ n e.2
      | _ => [])
    | .clo _ a b => a.flatMap (reach σ n) ++ b.flatMap (reach σ n)
    | .iface _ v => reach σ n v
    | .agg cs => cs.flatMap (reach σ n)
    | _ => []

/-! ### What a call hands back -/
def PV.scalar : PV → Bool
  | .bool _ | .int .. | .str _ | .nilp | .nilsl | .emp | .nilmap | .nilif | .nilfn | .gref _ | .sym _ => true
  | .iface _ (.gref _) => true
  | _ => false
def scalarD : DV → Bool
  | .p v => v.scalar
  | .new _ _ rows => rows.all fun r => r.all PV.scalar
  | _ => false
def scalarV : DV → Bool
  | .agg cs => cs.all scalarD
  | d => scalarD d
def scalarR : DV → Bool
  | .tup vs => vs.all scalarV
  | d => scalarV d

def expC (σ : Store) (d : DV) : Option (DV × List Ref) :=
  match d with
  | .lin rows r => match σ.right r with
    | some (sz, n) => if n = rows.length then some (.new false sz rows, [r]) else some (.p (.sl rows), [])
    | none => some (.p (.sl rows), [])
  | .own r off len => match σ.obj.get r with
    | some (.arr sz rows true) => if off = 0 ∧ len = rows.length ∧ 0 < len then (match asRows rows with
      | some rs => some (.new true sz rs, [r])
      | none => (deepC σ.obj 9 d).map fun v => (.p v, [])) else (deepC σ.obj 9 d).map fun v => (.p v, [])
    | _ => (deepC σ.obj 9 d).map fun v => (.p v, [])
  | .agg _ => none
  | d => (deepC σ.obj 9 d).map fun v => (.p v, [])
def expL (σ : Store) : List DV → Option (List DV × List Ref)
  | [] => some ([], [])
  | d :: ds => match expC σ d, expL σ ds with
    | some (d', r), some (ds', rs) => some (d' :: ds', r ++ rs)
    | _, _ => none
def expV (σ : Store) (d : DV) : Option (DV × List Ref) :=
  match d with
  | .agg cs => (expL σ cs).map fun x => (.agg x.1, x.2)
  | d => expC σ d
def expVs (σ : Store) : List DV → Option (List DV × List Ref)
  | [] => some ([], [])
  | d :: ds => match expV σ d, expVs σ ds with
    | some (d', r), some (ds', rs) => some (d' :: ds', r ++ rs)
    | _, _ => none
def nodupR : List Ref → Bool
  | [] => true
  | r :: l => !l.contains r && nodupR l
/-- What a pure call hands back: its own slices new, all else pure. -/
def exportD (σ : Store) (d : DV) : Option DV :=
  match d with
  | .tup vs => match expVs σ vs with
    | some (l, rs) => if nodupR rs then some (.tup l) else none
    | none => none
  | d => match expV σ d with
    | some (d', rs) => if nodupR rs then some d' else none
    | none => none

abbrev Sites := List (Nat × SlK)
/-- What came back, taken in: each new slice at its site. -/
def impC (F : Nat) (single : Bool) (d : DV) (ss : Sites) (st : Nat) (σ : Store) : Option (DV × Sites × Nat × Store) :=
  match d with
  | .new ow sz rows => match ss with
    | (_, .imm) :: r => some (.p (.sl rows), r, st, σ)
    | (site, k) :: r =>
      if k == .lin && !ow then some (.lin rows ⟨F, site, st⟩, r, st + 1, σ.putTok F site (some (st, sz, rows.length)))
      else if single && !rows.isEmpty && (ow || scalarD d) then some (.own ⟨F, site, st⟩ 0 rows.length, r, st + 1, σ.put F site (some (st, .arr sz (rows.map fun row => row.map .p) true)))
      else some (.p (.sl rows), r, st, σ)
    | [] => some (.p (.sl rows), [], st, σ)
  | d => some (d, ss, st, σ)
def impL (F : Nat) : List DV → Sites → Nat → Store → Option (List DV × Sites × Nat × Store)
  | [], ss, st, σ => some ([], ss, st, σ)
  | d :: ds, ss, st, σ => match impC F false d ss st σ with
    | some (d', ss, st, σ) => match impL F ds ss st σ with
      | some (ds', r) => some (d' :: ds', r)
      | none => none
    | none => none
def impV (F : Nat) (d : DV) (ss : Sites) (st : Nat) (σ : Store) : Option (DV × Sites × Nat × Store) :=
  match d with
  | .agg cs => (impL F cs ss st σ).map fun x => (.agg x.1, x.2)
  | d => impC F false d ss st σ
def impVs (F : Nat) : List DV → Sites → Nat → Store → Option (List DV × Sites × Nat × Store)
  | [], ss, st, σ => some ([], ss, st, σ)
  | d :: ds, ss, st, σ => match impV F d ss st σ with
    | some (d', ss, st, σ) => match impVs F ds ss st σ with
      | some (ds', r) => some (d' :: ds', r)
      | none => none
    | none => none
def importD (F : Nat) (d : DV) (ss : Sites) (st : Nat) (σ : Store) : Option (DV × Store) :=
  match d with
  | .tup vs => (impVs F vs ss st σ).map fun x => (.tup x.1, x.2.2.2)
  | .new ow sz rows => (impC F true (.new ow sz rows) ss st σ).map fun x => (x.1, x.2.2.2)
  | d => (impV F d ss st σ).map fun x => (x.1, x.2.2.2)

/-- Objects that may be written no more. -/
def freezeAll (σ : Store) : List Ref → Store
  | [] => σ
  | r :: l => freezeAll (match σ.obj.get r with
    | some (.arr sz rows _) => σ.set r (.arr sz rows false)
    | some (.map es _) => σ.set r (.map es false)
    | none => σ) l

/-! ### Operations -/
structure Recs where
  pure : Nat → List DV → Option DV
  ref : Nat → List DV → Store → Option (DV × Store)

/-- The place of an index. -/
def idx : DV → Option Nat
  | .p (.int _ (.ofNat n)) => some n
  | _ => none
def boundOf (fr : Frame) (dflt : Nat) : Option Opd → Option Nat
  | none => some dflt
  | some x => idx (x.ev fr)

def loadAt (σ : Objs) (n : Nat) (ag : Bool) (d : DV) : Option DV :=
  match d with
  | .p (.ip cells off) => if ag then (if off + n ≤ cells.length then some (.agg (((cells.drop off).take n).map .p)) else none) else (cells[off]?).map .p
  | .mp r row off => match σ.get r with
    | some (.arr _ rows _) => match rows[row]? with
      | some cells => if ag then (if off + n ≤ cells.length then some (.agg ((cells.drop off).take n)) else none) else cells[off]?
      | none => none
    | _ => none
  | _ => none

def storeAt (σ : Store) (n : Nat) (a x : DV) : Option (DV × Store) :=
  match a with
  | .mp r row off => match σ.obj.get r with
    | some (.arr sz rows true) => match rows[row]? with
      | some cells => match cellsOf x with
        | some xs => if xs.length = n ∧ off + n ≤ cells.length ∧ 0 < n then some (.tup [], σ.set r (.arr sz (rows.set row (splice cells off xs)) true)) else none
        | none => none
      | none => none
    | _ => none
  | _ => none

/-- The place of an entry. -/
def findI {β : Type} (kd : Nat) (ks : List Nat) (k : PV) : List (PV × β) → Option (Option Nat)
  | [] => some none
  | (k', _) :: es => match eqK kd ks k k' with
    | some true => some (some 0)
    | some false => (findI kd ks k es).map (·.map (· + 1))
    | none => none

/-- k: 0: a string, 1: a slice, 2: a map. -/
def lenD (σ : Objs) (k : Nat) : DV → Option Nat
  | .p (.str s) => if k = 0 then some s.length else none
  | .p .nilsl | .p .emp => if k = 1 then some 0 else none
  | .p .nilmap => if k = 2 then some 0 else none
  | .p (.sl rows) => if k = 1 then some rows.length else none
  | .p (.imap es) => if k = 2 then some es.length else none
  | .lin rows _ => if k = 1 then some rows.length else none
  | .own _ _ len => if k = 1 then some len else none
  | .omap r => match σ.get r with
    | some (.map es _) => if k = 2 then some es.length else none
    | _ => none
  | _ => none

/-- Are all rows so long? -/
def allLen (s : Nat) (rows : List (List PV)) : Bool := rows.all fun r => r.length == s

/-- The rows of what is appended. -/
def srcRows (σ : Objs) (s : Nat) : DV → Option (List (List PV))
  | .p .nilsl | .p .emp => some []
  | .p (.sl rows) => if allLen s rows then some rows else none
  | .lin rows _ => if allLen s rows then some rows else none
  | .own r off len => match σ.get r with
    | some (.arr sz rows _) => if sz = s ∧ off + len ≤ rows.length then asRows ((rows.drop off).take len) else none
    | _ => none
  | .p (.str l) => if s = 1 then some (l.map fun c => [.int .u8 c.toNat]) else none
  | _ => none

/-- The rows of what is appended to an object. -/
def srcRowsD (σ : Objs) (s : Nat) : DV → Option (List (List DV))
  | .own r off len => match σ.get r with
    | some (.arr sz rows _) => if sz = s ∧ off + len ≤ rows.length then some ((rows.drop off).take len) else none
    | _ => none
  | d => (srcRows σ s d).map fun rows => rows.map fun r => r.map .p

/-- A piece of a slice of pure rows; with nothing and no room: as nil. -/
def sliceRows (fr : Frame) (σ : Store) (s : Nat) (rows : List (List PV)) (lo hi mx : Option Opd) : Option (DV × Store) :=
  match boundOf fr 0 lo, boundOf fr rows.length hi with
  | some l, some h => if l ≤ h ∧ h ≤ rows.length ∧ allLen s rows then (match mx with
    | none => some (.p (.sl ((rows.drop l).take (h - l))), σ)
    | some m => if idx (m.ev fr) = some 0 ∧ h = 0 then some (.p .emp, σ) else none) else none
  | _, _ => none

def evArgs (fr : Frame) : List Opd → List DV
  | [] => []
  | x :: xs => x.ev fr :: evArgs fr xs

/-- A place of its own for each time, where a site makes many. -/
def dynSite (dyn : Bool) (site st : Nat) : Nat := if dyn then 4096 * (st + 1) + site else site

def pureCall (R : Recs) (F st : Nat) (hide : List Nat) (ro : Objs) (σ : Store) (f : Nat) (args : List DV) (ss : Sites) : Option (DV × Store) :=
  match mapO (deepA ro) args with
  | some as => match R.pure f as with
    | some d => if scalarR d then importD F d ss st σ
      else if (args.flatMap (reach ro 10)).any fun r => r.f == F && hide.contains r.s then none
      else importD F d ss st (freezeAll σ (args.flatMap (reach ro 10)))
    | none => none
  | none => none

def evOp (R : Recs) (F st : Nat) (fr : Frame) (hide : List Nat) (σ : Store) (o : IR) : Option (DV × Store) :=
  let ro := σ.obj.hide F hide
  match o with
  | .mv x => some (x.ev fr, σ)
  | .pick c a b => match c.ev fr with
    | .p (.bool t) => some (if t then a.ev fr else b.ev fr, σ)
    | _ => none
  | .alloc site zero => some (.mp ⟨F, site, st⟩ 0 0, σ.put F site (some (st, .arr zero.length [zero.map .p] true)))
  | .box site x => (cellsOf (x.ev fr)).map fun cs => (.mp ⟨F, site, st⟩ 0 0, σ.put F site (some (st, .arr cs.length [cs] true)))
  | .load n ag a => (loadAt ro n ag (a.ev fr)).map fun d => (d, σ)
  | .loadP n ag a => (loadAt (fun _ _ => none) n ag (a.ev fr)).map fun d => (d, σ)
  | .boxI x => ((cellsOf (x.ev fr)).bind asPs).map fun ps => (.p (.ip ps 0), σ)
  | .lenP k x => (lenD (fun _ _ => none) k (x.ev fr)).map fun (n : Nat) => (DV.p (.int .i64 (n : Int)), σ)
  | .gload _ v => some (.p v, σ)
  | .store n a x => storeAt σ n (a.ev fr) (x.ev fr)
  | .nilCheck x => match isNilD (x.ev fr) with
    | some false => some (x.ev fr, σ)
    | _ => none
  | .fieldAddr off x => match x.ev fr with
    | .p (.ip cells o) => some (.p (.ip cells (o + off)), σ)
    | .mp r row o => some (.mp r row (o + off), σ)
    | _ => none
  | .indexSl s x i => match idx (i.ev fr) with
    | some n => match x.ev fr with
      | .p (.sl rows) => match rows[n]? with
        | some row => if row.length = s then some (.p (.ip row 0), σ) else none
        | none => none
      | .lin rows _ => match rows[n]? with
        | some row => if row.length = s then some (.p (.ip row 0), σ) else none
        | none => none
      | .own r off len => match ro.get r with
        | some (.arr sz _ _) => if n < len ∧ sz = s then some (.mp r (off + n) 0, σ) else none
        | _ => none
      | _ => none
    | none => none
  | .indexArr len s x i => match idx (i.ev fr) with
    | some n => if n < len then (match x.ev fr with
      | .p (.ip cells o) => some (.p (.ip cells (o + n * s)), σ)
      | .mp r row o => match ro.get r with
        | some (.arr _ _ _) => some (.mp r row (o + n * s), σ)
        | _ => none
      | _ => none) else none
    | none => none
  | .indexStr x i => match x.ev fr, idx (i.ev fr) with
    | .p (.str s), some n => (s[n]?).map fun c => (.p (.int .u8 c.toNat), σ)
    | _, _ => none
  | .indexAgg len s ag x i => match x.ev fr, idx (i.ev fr) with
    | .agg cs, some n => if n < len ∧ cs.length = len * s then (if ag then some (.agg ((cs.drop (n * s)).take s), σ) else (cs[n * s]?).map fun d => (d, σ)) else none
    | _, _ => none
  | .field off n ag x => match x.ev fr with
    | .agg cs => if ag then (if off + n ≤ cs.length then some (.agg ((cs.drop off).take n), σ) else none) else (cs[off]?).map fun d => (d, σ)
    | _ => none
  | .bin op x y => match x.ev fr, y.ev fr with
    | .p a, .p b => (binPV op a b).map fun v => (.p v, σ)
    | _, _ => none
  | .eqv neg kd ks x y => (eqD kd ks (x.ev fr) (y.ev fr)).map fun b => (.p (.bool (if neg then !b else b)), σ)
  | .un op x => match x.ev fr with
    | .p a => (unPV op a).map fun v => (.p v, σ)
    | _ => none
  | .conv k x => match x.ev fr with
    | .p (.int _ n) => some (.p (.int k (k.wrap n)), σ)
    | _ => none
  | .rune x => match x.ev fr with
    | .p (.int _ (.ofNat n)) => if n < 128 then some (.p (.str [n.toUInt8]), σ) else none
    | _ => none
  | .build zero parts => (fillAgg (zero.map .p) (evParts fr parts)).map fun cs => (.agg cs, σ)
  | .buildSl kind site s zero len parts => match fillRows s (List.replicate len (zero.map .p)) (evParts2 fr parts) with
    | some rows => if len = 0 then some (.p .emp, σ) else if zero.length = s then (match kind with
      | .own => some (.own ⟨F, site, st⟩ 0 len, σ.put F site (some (st, .arr s rows true)))
      | .lin => (asRows rows).map fun rs => (.lin rs ⟨F, site, st⟩, σ.putTok F site (some (st, s, len)))
      | .imm => (asRows rows).map fun rs => (.p (.sl rs), σ)) else none
    | none => none
  | .makeSl kind site zero len cap => match idx (len.ev fr), idx (cap.ev fr) with
    | some l, some c => if l ≤ c ∧ c ≤ 1000000 then (match kind with
      | .own => if l = c then some (.own ⟨F, site, st⟩ 0 l, σ.put F site (some (st, .arr zero.length (List.replicate l (zero.map .p)) true))) else none
      | _ => some (.lin (List.replicate l zero) ⟨F, site, st⟩, σ.putTok F site (some (st, zero.length, l)))) else none
    | _, _ => none
  | .sliceSl s x lo hi mx => match x.ev fr with
    | .p .nilsl => match boundOf fr 0 lo, boundOf fr 0 hi, mx with
      | some 0, some 0, none => some (.p .nilsl, σ)
      | some 0, some 0, some m => if idx (m.ev fr) = some 0 then some (.p .nilsl, σ) else none
      | _, _, _ => none
    | .p .emp => match boundOf fr 0 lo, boundOf fr 0 hi, mx with
      | some 0, some 0, none => some (.p .emp, σ)
      | some 0, some 0, some m => if idx (m.ev fr) = some 0 then some (.p .emp, σ) else none
      | _, _, _ => none
    | .p (.sl rows) => sliceRows fr σ s rows lo hi mx
    | .lin rows _ => sliceRows fr σ s rows lo hi mx
    | .own r off len => match boundOf fr 0 lo, boundOf fr len hi, mx, ro.get r with
      | some l, some h, none, some (.arr sz _ _) => if l ≤ h ∧ h ≤ len ∧ sz = s then some (.own r (off + l) (h - l), σ) else none
      | _, _, _, _ => none
    | _ => none
  | .sliceStr x lo hi => match x.ev fr with
    | .p (.str s) => match boundOf fr 0 lo, boundOf fr s.length hi with
      | some l, some h => if l ≤ h ∧ h ≤ s.length then some (.p (.str ((s.drop l).take (h - l))), σ) else none
      | _, _ => none
    | _ => none
  | .len k x => (lenD ro k (x.ev fr)).map fun (n : Nat) => (DV.p (.int .i64 (n : Int)), σ)
  | .minI x y => match x.ev fr, y.ev fr with
    | .p (.int k a), .p (.int k' b) => if k = k' then some (.p (.int k (if b < a then b else a)), σ) else none
    | _, _ => none
  | .maxI x y => match x.ev fr, y.ev fr with
    | .p (.int k a), .p (.int k' b) => if k = k' then some (.p (.int k (if b > a then b else a)), σ) else none
    | _, _ => none
  | .append site s dyn x y => match srcRows ro s (y.ev fr) with
    | some [] => match x.ev fr with
      | .lin rows r => if r.f = F ∧ hide.contains r.s then none else some (.lin rows r, σ)
      | .p .nilsl => some (.p .nilsl, σ)
      | .p .emp => some (.p .emp, σ)
      | .p (.sl rows) => some (.p (.sl rows), σ)
      | _ => none
    | some ys => if ys.length ≤ 4294967296 then (match x.ev fr with
      | .lin rows r => if r.f = F ∧ hide.contains r.s then none else match σ.right r with
        | some (sz, n) => if n = rows.length ∧ sz = s ∧ n + ys.length ≤ 4294967296 then some (.lin (rows ++ ys) r, σ.putTok r.f r.s (some (r.st, s, n + ys.length))) else none
        | none => none
      | .p .nilsl => some (.lin ys ⟨F, dynSite dyn site st, st⟩, σ.putTok F (dynSite dyn site st) (some (st, s, ys.length)))
      | .p .emp => some (.lin ys ⟨F, dynSite dyn site st, st⟩, σ.putTok F (dynSite dyn site st) (some (st, s, ys.length)))
      | _ => none) else none
    | none => none
  | .appendO site s x y => match srcRowsD ro s (y.ev fr) with
    | some [] => match x.ev fr with
      | .own r off len => some (.own r off len, σ)
      | .p .nilsl => some (.p .nilsl, σ)
      | .p .emp => some (.p .emp, σ)
      | _ => none
    | some ys => if ys.length ≤ 4294967296 then (match x.ev fr with
      | .p .emp => some (.own ⟨F, site, st⟩ 0 ys.length, σ.put F site (some (st, .arr s ys true)))
      | .p .nilsl => some (.own ⟨F, site, st⟩ 0 ys.length, σ.put F site (some (st, .arr s ys true)))
      | .own r off len => if r.f = F ∧ hide.contains r.s then none else match σ.obj.get r with
        | some (.arr sz rows true) => if sz = s ∧ off = 0 ∧ 0 < len ∧ len = rows.length ∧ len + ys.length ≤ 4294967296 then
            some (.own ⟨F, site, st⟩ 0 (len + ys.length), (σ.put r.f r.s none).put F site (some (st, .arr s (rows ++ ys) true))) else none
        | _ => none
      | _ => none) else none
    | none => none
  | .clear zero x => match x.ev fr with
    | .own r off len => match σ.obj.get r with
      | some (.arr sz rows true) => if sz = zero.length ∧ off + len ≤ rows.length then
          some (.tup [], σ.set r (.arr sz (rows.take off ++ List.replicate len (zero.map .p) ++ rows.drop (off + len)) true)) else none
      | _ => none
    | _ => none
  | .mapEntry kd ks zero m k => match keyOf (k.ev fr), m.ev fr with
    | some key, .omap r => match σ.obj.get r with
      | some (.map es true) => if !keyOk kd ks key then none else match findI kd ks key es with
        | some (some i) => (es[i]?).map fun e => (.tup [e.2, .ent r i], σ)
        | some none => some (.tup [ofPV zero, .ent r es.length], σ.set r (.map (es ++ [(key, ofPV zero)]) true))
        | none => none
      | _ => none
    | _, _ => none
  | .entryStore m i v => match m.ev fr, i.ev fr with
    | .omap r, .ent r' i => if r = r' then (match σ.obj.get r with
      | some (.map es true) => (es[i]?).map fun e => (.tup [], σ.set r (.map (es.set i (e.1, v.ev fr)) true))
      | _ => none) else none
    | _, _ => none
  | .makeMap site => some (.omap ⟨F, site, st⟩, σ.put F site (some (st, .map [] true)))
  | .lookup kd ks zero ok m k => match keyOf (k.ev fr) with
    | some key => if keyOk kd ks key then (match m.ev fr with
      | .p .nilmap => some (if ok then .tup [ofPV zero, .p (.bool false)] else ofPV zero, σ)
      | .p (.imap es) => match findI kd ks key es with
        | some (some i) => (es[i]?).map fun e => (if ok then .tup [ofPV e.2, .p (.bool true)] else ofPV e.2, σ)
        | some none => some (if ok then .tup [ofPV zero, .p (.bool false)] else ofPV zero, σ)
        | none => none
      | .omap r => match ro.get r with
        | some (.map es _) => match findI kd ks key es with
          | some (some i) => (es[i]?).map fun e => (if ok then .tup [e.2, .p (.bool true)] else e.2, σ)
          | some none => some (if ok then .tup [ofPV zero, .p (.bool false)] else ofPV zero, σ)
          | none => none
        | _ => none
      | _ => none) else none
    | none => none
  | .mapUpd kd ks m k v => match keyOf (k.ev fr), m.ev fr with
    | some key, .omap r => match σ.obj.get r with
      | some (.map es true) => if !keyOk kd ks key then none else match findI kd ks key es with
        | some (some i) => some (.tup [], σ.set r (.map (es.set i (key, v.ev fr)) true))
        | some none => some (.tup [], σ.set r (.map (es ++ [(key, v.ev fr)]) true))
        | none => none
      | _ => none
    | _, _ => none
  | .delete _ _ => none
  | .extract x i => match x.ev fr with
    | .tup vs => (vs[i]?).map fun d => (d, σ)
    | _ => none
  | .mkIface t x => match x.ev fr with
    | .p v => some (.p (.iface t v), σ)
    | .mp r a b => some (.iface t (.mp r a b), σ)
    | _ => none
  | .assert t zero ok x => match x.ev fr with
    | .p (.iface u v) => if u = t then some (if ok then .tup [.p v, .p (.bool true)] else .p v, σ) else if ok then some (.tup [ofPV zero, .p (.bool false)], σ) else none
    | .p .nilif => if ok then some (.tup [ofPV zero, .p (.bool false)], σ) else none
    | _ => none
  | .clo f first cap => match mapO keyOf (evArgs fr first), mapO keyOf (evArgs fr cap) with
    | some a, some b => some (.p (.clo f a b), σ)
    | _, _ => some (.clo f (evArgs fr first) (evArgs fr cap), σ)
  | .call .pure f args ss => pureCall R F st hide ro σ f (evArgs fr args) ss
  | .call .ref f args _ => R.ref f (evArgs fr args) σ
  | .callv .pure fv args ss => match fv.ev fr with
    | .clo f a b => if f < 65536 then pureCall R F st hide ro σ f (a ++ evArgs fr args ++ b) ss else none
    | .p (.clo f a b) => if f < 65536 then pureCall R F st hide ro σ f (a.map ofPV ++ evArgs fr args ++ b.map ofPV) ss else none
    | _ => none
  | .callv .ref fv args _ => match fv.ev fr with
    | .clo f a b => if f < 65536 then R.ref f (a ++ evArgs fr args ++ b) σ else none
    | .p (.clo f a b) => if f < 65536 then R.ref f (a.map ofPV ++ evArgs fr args ++ b.map ofPV) σ else none
    | _ => none

def putD (fr : Frame) : Option Nat → DV → Frame
  | some t, d => fr.set t d
  | none, _ => fr

/-- One operation of a region: its place i, the region's first stamp c0. -/
def evStep (R : Recs) (F c0 i : Nat) (o : OpI) (fr : Frame) (σ : Store) : Option (Frame × Store) :=
  match o.guard with
  | none => (evOp R F (c0 + 16 * i) fr o.hide σ o.op).map fun x => (putD fr o.dst x.1, x.2)
  | some (j, b) => match fr.get j with
    | .p (.bool t) => if t = b then (evOp R F (c0 + 16 * i) fr o.hide σ o.op).map fun x => (putD fr o.dst x.1, x.2) else some (putD fr o.dst (.tup []), σ)
    | .tup [] => some (putD fr o.dst (.tup []), σ)
    | _ => none

def evOps (R : Recs) (F c0 : Nat) : Nat → List OpI → Frame → Store → Option (Frame × Store)
  | _, [], fr, σ => some (fr, σ)
  | i, o :: l, fr, σ => match evStep R F c0 i o fr σ with
    | some (fr, σ) => evOps R F c0 (i + 1) l fr σ
    | none => none

inductive Out where
  | normal
  | exit (id : Nat)
  | ret

def dropSites (σ : Store) (F : Nat) : List Nat → Store
  | [] => σ
  | s :: l => dropSites ((σ.put F s none).putTok F s none) F l

def initFrame : Nat → List DV → Frame
  | _, [] => []
  | i, d :: ds => (i, d) :: initFrame (i + 1) ds

def resOne (σ : Store) (fr : Frame) : ResI → Option DV
  | .tmp t => some (fr.get t)
  | .cell t n ag => loadAt σ.obj n ag (fr.get t)
def resAll (σ : Store) (fr : Frame) : List ResI → Option (List DV)
  | [] => some []
  | r :: l => match resOne σ fr r, resAll σ fr l with
    | some d, some ds => some (d :: ds)
    | _, _ => none
def resOf (σ : Store) (fr : Frame) (l : List ResI) : Option DV :=
  match resAll σ fr l with
  | some [d] => some d
  | some ds => some (.tup ds)
  | none => none

/-- The program: functions; and what is told of some without their text: pure, by reference. -/
structure Env where
  fn : Nat → Option Fn
  iter : Nat → Option Bool
  prim : Nat → Option (List DV → Option DV)
  primR : Nat → Option (List DV → Store → Option (DV × Store))

/-- A row as one value. -/
def oneV : List PV → PV
  | [v] => v
  | l => .agg l
def backVals (i : Nat) : List (List PV) → List (List PV)
  | [] => []
  | r :: rs => backVals (i + 1) rs ++ [[.int .i64 i, oneV r]]
/-- The rounds of a loop over a slice: each with its index, where it goes backward. -/
def rangeVals (E : Env) (d : DV) : Option (List (List PV)) :=
  match d with
  | .p (.clo f [] [.ip [v] 0]) => match E.iter f, v with
    | some back, .sl rows => if allLen 1 rows && decide (rows.length ≤ 1000000) then some (if back then backVals 0 rows else rows.map fun r => [oneV r]) else none
    | some _, .nilsl => some []
    | some _, .emp => some []
    | _, _ => none
  | _ => none
def setAll (fr : Frame) : List Nat → List PV → Frame
  | t :: ts, v :: vs => setAll (fr.set t (ofPV v)) ts vs
  | _, _ => fr

mutual
def evR (E : Env) : Nat → List Nat → C → C → Nat → Frame → List (List PV) → Store → Option (Out × Frame × Store)
  | 0, _, _, _, _, _, _, _ => none
  | _ + 1, _, _, _, _, fr, [], σ => some (.normal, fr, σ)
  | n + 1, ts, pre, body, F, fr, vs :: l, σ => match ev E n pre F (setAll fr ts vs) σ with
    | some (.normal, fr', σ) => match ev E n body F fr' σ with
      | some (.normal, _, σ) => evR E n ts pre body F fr l σ
      | _ => none
    | _ => none
def ev (E : Env) : Nat → C → Nat → Frame → Store → Option (Out × Frame × Store)
  | 0, _, _, _, _ => none
  | n + 1, c, F, fr, σ => match c with
    | .skip => some (.normal, fr, σ)
    | .ops l => (evOps ⟨callP E n, callR E n⟩ F σ.c 0 l fr { σ with c := σ.c + 16 * l.length }).map fun x => (.normal, x)
    | .seq a b => match ev E n a F fr σ with
      | some (.normal, fr, σ) => ev E n b F fr σ
      | r => r
    | .cond x a b => match x.ev fr with
      | .p (.bool t) => if t then ev E n a F fr σ else ev E n b F fr σ
      | _ => none
    | .block id b => match ev E n b F fr σ with
      | some (.exit id', fr, σ) => if id' = id then some (.normal, fr, σ) else some (.exit id', fr, σ)
      | r => r
    | .loop b => match ev E n b F fr σ with
      | some (.normal, fr, σ) => ev E n (.loop b) F fr σ
      | r => r
    | .range x ts pre body => match rangeVals E (x.ev fr) with
      | some l => if l.all (fun vs => vs.length == ts.length) then evR E n ts pre body F fr l σ else none
      | none => none
    | .exit id => some (.exit id, fr, σ)
    | .ret => some (.ret, fr, σ)
    | .kill b ts ss => match ev E n b F fr σ with
      | some (.normal, fr, σ) => some (.normal, fr.del ts, dropSites σ F ss)
      | r => r
def callP (E : Env) : Nat → Nat → List DV → Option DV
  | 0, _, _ => none
  | n + 1, f, args => match E.prim f with
    | some g => g args
    | none => match E.fn f with
      | some fn => if args.length = fn.nargs then (match ev E n fn.body 0 (initFrame 0 args) Store.nil with
        | some (.exit _, _, _) => none
        | some (_, fr, σ) => match resOf σ fr fn.results with
          | some d => exportD σ d
          | none => none
        | none => none) else none
      | none => none
def callR (E : Env) : Nat → Nat → List DV → Store → Option (DV × Store)
  | 0, _, _, _ => none
  | n + 1, f, args, σ => match E.primR f with
    | some g => g args σ
    | none => match E.fn f with
      | some fn => if args.length = fn.nargs then (match ev E n fn.body σ.nf (initFrame 0 args) { σ with nf := σ.nf + 1 } with
        | some (.exit _, _, _) => none
        | some (_, fr, σ) => (resOf σ fr fn.results).map fun d => (d, σ)
        | none => none) else none
      | none => none
end
end Go.Ev
