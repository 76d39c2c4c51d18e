/- A part of an evaluator of closed runs, and of the proof that what it answers holds of the model. No conditions. -/
import Derived.Test.YtfhakpnfmomaaaaGreatDoorEvOps4
namespace Go.Ev
open Go
section
variable {P : Program} {o : Oper} {a : Act} {w : World} {K : Ctx} {fr : Frame} {st : Nat}

/-! ### Equality -/
/-- A type of cells that may be compared, as the kinds of its cells; where a struct's fields lie one behind the other. -/
def eqT (P : Program) : Nat → TypeId → Option (List Nat)
  | 0, _ => none
  | m + 1, t => match P.underlying t with
    | some .bool => some [0]
    | some (.int _) => some [1]
    | some .string => some [2]
    | some (.struct fs) => if P.stoodInHeld t then none else
        fs.toList.foldl (fun acc f => match acc, eqT P m f.type with
          | some l, some ks => if f.name ≠ "_" ∧ f.offset = l.length ∧ (P.info? f.type).map (·.size) = some ks.length ∧ 0 < ks.length then some (l ++ ks) else none
          | _, _ => none) (some [])
    | _ => none

/-- A scalar's cell. -/
theorem eqS_rep {k : Nat} {x y : Value} {p q : PV} {I : Im} (hx : RepP w I x p) (hy : RepP w I y q) {b : Bool} (h : eqS k p q = some b) {t : TypeId} {ty : TypeDesc} (hu : P.underlying t = some ty)
    (hk : (k = 0 ∧ ty = .bool) ∨ (k = 1 ∧ ∃ q, ty = .int q) ∨ (k = 2 ∧ ty = .string)) (d : Nat) : (Op.equalIn (d + 1) t x y).run P w = .ok b w := by
  rcases hk with ⟨rfl, rfl⟩ | ⟨rfl, q, rfl⟩ | ⟨rfl, rfl⟩
  · cases hx <;> cases hy <;> simp [eqS] at h
    subst h
    exact run_equalIn_bool' w d t _ _ hu
  · cases hx <;> cases hy <;> simp [eqS] at h
    obtain ⟨rfl, rfl⟩ := h
    exact run_equalIn_int w d t _ _ _ _ hu
  · cases hx with
    | str s l e =>
      cases hy with
      | str s' l' e' =>
        simp only [eqS, Option.some.injEq] at h
        have := run_equalIn_string (P := P) w d t s s' hu
        rw [this, ← h, ← e, ← e', ByteArray.toList_eq, ByteArray.toList_eq]
      | _ => simp [eqS] at h
    | _ => simp [eqS] at h

theorem eqL_len : ∀ {ks : List Nat} {xs ys : List PV} {b : Bool}, eqL ks xs ys = some b → xs.length = ks.length ∧ ys.length = ks.length
  | [], [], [], _, _ => ⟨rfl, rfl⟩
  | [], [], _ :: _, _, h => by simp [eqL] at h
  | [], _ :: _, _, _, h => by simp [eqL] at h
  | _ :: _, [], _, _, h => by simp [eqL] at h
  | _ :: _, _ :: _, [], _, h => by simp [eqL] at h
  | k :: ks, x :: xs, y :: ys, b, h => by
    simp only [eqL] at h
    split at h
    · rename_i h1 h2
      obtain ⟨e1, e2⟩ := eqL_len h2
      exact ⟨by simp [e1], by simp [e2]⟩
    · cases h
theorem eqL_append : ∀ {k1 k2 : List Nat} {xs ys : List PV} {b : Bool}, eqL (k1 ++ k2) xs ys = some b → ∃ b1 b2, eqL k1 (xs.take k1.length) (ys.take k1.length) = some b1 ∧ eqL k2 (xs.drop k1.length) (ys.drop k1.length) = some b2 ∧ b = (b1 && b2)
  | [], k2, xs, ys, b, h => ⟨true, b, by simp [eqL], by simpa using h, by simp⟩
  | k :: k1, k2, [], ys, b, h => by simp [eqL] at h
  | k :: k1, k2, x :: xs, [], b, h => by simp [eqL] at h
  | k :: k1, k2, x :: xs, y :: ys, b, h => by
    simp only [List.cons_append, eqL] at h
    split at h
    · rename_i c1 c2 h1 h2
      obtain ⟨b1, b2, e1, e2, e3⟩ := eqL_append h2
      simp only [Option.some.injEq] at h
      refine ⟨c1 && b1, b2, ?_, by simpa using e2, by rw [← h, e3, Bool.and_assoc]⟩
      simp [eqL, h1, e1]
    · cases h

/-- Cells are such pure values. -/
def CellsP (w : World) (I : Im) (xs : Array Value) (ps : List PV) : Prop := xs.size = ps.length ∧ ∀ i, i < ps.length → RepP w I (xs.getD i undef) (ps.getD i .nilp)
/-- A value of so many cells. -/
def ValP (w : World) (I : Im) (P : Program) (t : TypeId) (v : Value) (ps : List PV) : Prop :=
  if aggB P t = some true then ∃ xs, v = .agg xs ∧ CellsP w I xs ps else ∃ p, ps = [p] ∧ RepP w I v p

theorem part_rep {t : TypeId} {I : Im} {xs : Array Value} {ps : List PV} (h : CellsP w I xs ps) {off n : Nat} (hn : (P.info? t).map (·.size) = some n) {ag : Bool} (ha : aggB P t = some ag) (h1 : ag = false → n = 1) (hle : off + n ≤ ps.length) :
    ∃ v, (part t xs off).run P w = .ok v w ∧ ValP w I P t v ((ps.drop off).take n) := by
  obtain ⟨h2, h3⟩ := h
  cases ag with
  | true =>
    refine ⟨.agg (xs.extract off (off + n)), by simp [part, run_isAgg ha, run_size hn], ?_⟩
    rw [ValP, if_pos ha]
    refine ⟨_, rfl, by simp; omega, fun i hi => ?_⟩
    have hi2 : i < n := by simp at hi; omega
    have e1 : (xs.extract off (off + n)).getD i undef = xs.getD (off + i) undef := by
      have h4 : off + i < xs.size := by omega
      have h5 : i < min (off + n) xs.size - off := by omega
      simp [Array.getD, h4, h5]
    have e2 : ((ps.drop off).take n).getD i .nilp = ps.getD (off + i) .nilp := by simp [List.getD, hi2, List.getElem?_drop]
    rw [e1, e2]
    exact h3 _ (by omega)
  | false =>
    have := h1 rfl
    subst this
    have h4 : off < xs.size := by omega
    refine ⟨xs.getD off undef, by simp [part, run_isAgg ha, Array.getD, h4], ?_⟩
    rw [ValP, if_neg (by rw [ha]; simp)]
    refine ⟨ps.getD off .nilp, ?_, h3 _ (by omega)⟩
    have h5 : off < ps.length := by omega
    rw [List.take_one, List.head?_drop, List.getElem?_eq_getElem h5]
    simp [List.getD, List.getElem?_eq_getElem h5]
theorem eqT_agg : ∀ {m : Nat} {t : TypeId} {ks : List Nat}, eqT P m t = some ks → ∃ ag, aggB P t = some ag ∧ (ag = false → ks.length = 1)
  | 0, _, _, h => by simp [eqT] at h
  | m + 1, t, ks, h => by
    simp only [eqT] at h
    split at h
    · rename_i hu; cases h; exact ⟨false, by simp [aggB, hu], fun _ => rfl⟩
    · rename_i hu; cases h; exact ⟨false, by simp [aggB, hu], fun _ => rfl⟩
    · rename_i hu; cases h; exact ⟨false, by simp [aggB, hu], fun _ => rfl⟩
    · rename_i fs hu; exact ⟨true, by simp [aggB, hu], fun h => by cases h⟩
    · cases h

def eqF (P : Program) (m : Nat) (acc : Option (List Nat)) (f : Field) : Option (List Nat) :=
  match acc, eqT P m f.type with
  | some l, some ks => if f.name ≠ "_" ∧ f.offset = l.length ∧ (P.info? f.type).map (·.size) = some ks.length ∧ 0 < ks.length then some (l ++ ks) else none
  | _, _ => none
theorem eqF_none (m : Nat) : ∀ fs : List Field, fs.foldl (eqF P m) none = none
  | [] => rfl
  | f :: fs => by simp only [List.foldl_cons, eqF]; exact eqF_none m fs

theorem eqT_fields {m d : Nat} {I : Im} {xs ys : Array Value} {ps qs : List PV} (hx : CellsP w I xs ps) (hy : CellsP w I ys qs)
    (ih : ∀ {t : TypeId} {ks : List Nat}, eqT P m t = some ks → ∀ {x y : Value} {a b : List PV} {r : Bool}, ValP w I P t x a → ValP w I P t y b → eqL ks a b = some r → (Op.equalIn d t x y).run P w = .ok r w) :
    ∀ (fs : List Field) (l ks : List Nat), fs.foldl (eqF P m) (some l) = some ks → ∃ rest, ks = l ++ rest ∧ ∀ r, eqL rest (ps.drop l.length) (qs.drop l.length) = some r → (Op.eqFields d xs ys fs).run P w = .ok r w
  | [], l, ks, h => by
    simp only [List.foldl_nil, Option.some.injEq] at h
    refine ⟨[], by simp [h], fun r hr => ?_⟩
    have := eqL_len hr
    generalize ps.drop l.length = a at hr this
    generalize qs.drop l.length = b at hr this
    obtain ⟨e1, e2⟩ := this
    have ea : a = [] := List.eq_nil_of_length_eq_zero e1
    have eb : b = [] := List.eq_nil_of_length_eq_zero e2
    subst ea; subst eb
    simp only [eqL, Option.some.injEq] at hr
    simp [Op.eqFields, ← hr]
  | f :: fs, l, ks, h => by
    rw [List.foldl_cons] at h
    cases hk : eqT P m f.type with
    | none => simp only [eqF, hk] at h; rw [eqF_none] at h; cases h
    | some kf =>
      by_cases hc : f.name ≠ "_" ∧ f.offset = l.length ∧ (P.info? f.type).map (·.size) = some kf.length ∧ 0 < kf.length
      · simp only [eqF, hk, if_pos hc] at h
        obtain ⟨hname, hoff, hsize, hpos⟩ := hc
        obtain ⟨rest, e1, e2⟩ := eqT_fields hx hy ih fs (l ++ kf) ks h
        refine ⟨kf ++ rest, by rw [e1, List.append_assoc], fun r hr => ?_⟩
        obtain ⟨b1, b2, h1, h2, h3⟩ := eqL_append hr
        obtain ⟨ag, ha1, ha2⟩ := eqT_agg hk
        have hl1 := eqL_len hr
        rw [List.length_drop, List.length_drop, List.length_append] at hl1
        by_cases hle : l.length + kf.length ≤ ps.length ∧ l.length + kf.length ≤ qs.length
        · obtain ⟨x, p1, p2⟩ := part_rep (P := P) hx hsize ha1 ha2 (off := l.length) hle.1
          obtain ⟨y, q1, q2⟩ := part_rep (P := P) hy hsize ha1 ha2 (off := l.length) hle.2
          have hrun := ih hk p2 q2 h1
          simp only [Op.eqFields, if_pos hname, Sem.run_bind, hoff, p1, q1, Result.andThen_ok, hrun, Sem.run_ite]
          cases b1 with
          | false => simp [h3]
          | true =>
            simp only [Bool.not_true, Bool.false_eq_true, if_false]
            rw [h3, Bool.true_and]
            refine e2 b2 ?_
            rw [List.length_append, ← List.drop_drop, ← List.drop_drop]
            exact h2
        · exfalso
          have := hl1.1; have := hl1.2
          omega
      · simp only [eqF, hk, if_neg hc] at h
        rw [eqF_none] at h; cases h

theorem eqT_run {I : Im} : ∀ (m : Nat) {t : TypeId} {ks : List Nat}, eqT P m t = some ks → ∀ (d : Nat) {x y : Value} {a b : List PV} {r : Bool}, ValP w I P t x a → ValP w I P t y b → eqL ks a b = some r → (Op.equalIn (m + d) t x y).run P w = .ok r w
  | 0, _, _, h => by simp [eqT] at h
  | m + 1, t, ks, h => by
    intro d x y a b r hx hy hr
    have hd : m + 1 + d = (m + d) + 1 := by omega
    rw [hd]
    have one : ∀ {k : Nat} {ty : TypeDesc}, P.underlying t = some ty → aggB P t = some false → ks = [k] → ((k = 0 ∧ ty = .bool) ∨ (k = 1 ∧ ∃ q, ty = .int q) ∨ (k = 2 ∧ ty = .string)) → (Op.equalIn ((m + d) + 1) t x y).run P w = .ok r w := by
      intro k ty hu hag hks hk
      subst hks
      rw [ValP, if_neg (by rw [hag]; simp)] at hx hy
      obtain ⟨p, rfl, hp⟩ := hx
      obtain ⟨q, rfl, hq⟩ := hy
      simp only [eqL] at hr
      split at hr
      · rename_i c1 c2 h1 h2
        simp only [Option.some.injEq] at hr h2
        subst h2
        rw [Bool.and_true] at hr
        subst hr
        exact eqS_rep hp hq h1 hu hk _
      · cases hr
    simp only [eqT] at h
    split at h
    · rename_i hu; simp only [Option.some.injEq] at h; exact one hu (by simp [aggB, hu]) h.symm (.inl ⟨rfl, rfl⟩)
    · rename_i q hu; simp only [Option.some.injEq] at h; exact one hu (by simp [aggB, hu]) h.symm (.inr (.inl ⟨rfl, _, rfl⟩))
    · rename_i hu; simp only [Option.some.injEq] at h; exact one hu (by simp [aggB, hu]) h.symm (.inr (.inr ⟨rfl, rfl⟩))
    · rename_i fs hu
      split at h
      · cases h
      · rename_i hst
        rw [ValP, if_pos (by simp [aggB, hu])] at hx hy
        obtain ⟨xs, rfl, hxs⟩ := hx
        obtain ⟨ys, rfl, hys⟩ := hy
        have hf : P.fieldsOf t = fs := by simp [Program.fieldsOf, hu]
        rw [run_equalIn_struct w (m + d) t xs ys (by rw [hf]; exact hu) (by simpa using hst), hf]
        obtain ⟨rest, e1, e2⟩ := eqT_fields (d := m + d) hxs hys (fun {_ _} hk {_ _ _ _ _} hx hy hr => eqT_run m hk d hx hy hr) fs.toList [] ks h
        rw [List.nil_append] at e1
        subst e1
        exact e2 r (by simpa using hr)
    · cases h
/-- What is nil, and what is not, by kind. -/
theorem nilK_inv {v : Value} {d : DV} (h : RepD w K v d) {kd : Nat} {b : Bool} (hd : nilK kd d = some b) :
    (kd = 1 ∧ ((b = true ∧ v = .pointer none) ∨ (b = false ∧ ∃ ad, v = .pointer (some ad)))) ∨ (kd = 2 ∧ ((b = true ∧ v = .nilIface) ∨ (b = false ∧ ∃ t u, v = .iface t u))) ∨
    (kd = 3 ∧ ((b = true ∧ v = .slice none 0 0) ∨ (b = false ∧ ∃ ad n c, v = .slice (some ad) n c))) ∨ (kd = 4 ∧ ((b = true ∧ v = .map none) ∨ (b = false ∧ ∃ r, v = .map (some r)))) ∨
    (kd = 5 ∧ ((b = true ∧ v = .nilFunc) ∨ (b = false ∧ ∃ f x y, v = .func f x y))) := by
  unfold nilK at hd
  split at hd <;> first
    | (cases hd; done)
    | (simp only [Option.some.injEq] at hd; subst hd; first
        | (cases h with | p _ _ h => cases h <;> simp)
        | (cases h with | lin _ _ _ h => cases h <;> simp)
        | (cases h <;> simp))

def kindOf (kd : Nat) : TypeDesc → Bool
  | .pointer _ => kd == 1
  | .interface _ => kd == 2
  | .slice _ => kd == 3
  | .map _ _ => kd == 4
  | .func _ _ _ => kd == 5
  | _ => false

theorem eqv_done {neg : Bool} {op : BinOp} (hi : SInv w K) {t yt : TypeId} {x y : Operand} (ho : o.op = .binOp op t x y yt) {b : Bool} (hop : op = if neg then .neq else .eql) (h1 : (eqGuard op t x y (a.eval x) (a.eval y)).run P w = .ok () w)
    (h2 : (Op.equal t (a.eval x) (a.eval y)).run P w = .ok b w) (h3 : ∀ k n, a.eval x ≠ .int k n) (h4 : ∀ s, a.eval x ≠ .string s) (h5 : ∀ k n, a.eval x ≠ .float k n) (h6 : ∀ k n m, a.eval x ≠ .complex k n m) : Runs P o a w K st (.p (.bool (if neg then !b else b))) K.σ := by
  have h7 : (binOp op t (a.eval x) (a.eval y)).run P w = .ok (.bool (if neg then !b else b)) w := by
    generalize a.eval x = vx at *
    generalize a.eval y = vy at *
    subst hop
    cases neg
    · cases vx <;> first | exact absurd rfl (h3 _ _) | exact absurd rfl (h4 _) | exact absurd rfl (h5 _ _) | exact absurd rfl (h6 _ _ _) | (simp only [Bool.false_eq_true, if_false, binOp, Sem.run_bind, h2, Result.andThen_ok, Sem.run_pure])
    · cases vx <;> first | exact absurd rfl (h3 _ _) | exact absurd rfl (h4 _) | exact absurd rfl (h5 _ _) | exact absurd rfl (h6 _ _ _) | (simp only [if_true, binOp, Sem.run_bind, h2, Result.andThen_ok, Sem.run_pure])
  exact .same hi (by simp only [execOp, ho, Sem.run_bind, h1, Result.andThen_ok, h7, Sem.run_pure]) (.p _ _ (.bool _))

theorem run_eqv0 {neg : Bool} {op : BinOp} (hop : op = if neg then .neq else .eql) (hi : SInv w K) (hf : FRel w K a.tmps fr) {t yt : TypeId} {x y : Operand} {x' y' : Opd} (ho : o.op = .binOp op t x y yt) (hx : chkX x x' = true) (hy : chkX y y' = true)
    {b : Bool} (hd : eqD 0 [0] (x'.ev fr) (y'.ev fr) = some b) (hu : P.underlying t = some .bool) : Runs P o a w K st (.p (.bool (if neg then !b else b))) K.σ := by
  have hrx := chkX_rep hx hf
  have hry := chkX_rep hy hf
  simp only [eqD, if_true] at hd
  split at hd
  · rename_i p q h1 h2
    rw [h1] at hrx; rw [h2] at hry
    simp only [eqL] at hd
    split at hd
    · rename_i c1 c2 hs hl
      simp only [Option.some.injEq] at hd hl
      subst hl
      rw [Bool.and_true] at hd
      subst hd
      generalize hxv : a.eval x = vx at hrx
      generalize hyv : a.eval y = vy at hry
      cases hrx with
      | p _ _ hp =>
        cases hry with
        | p _ _ hq =>
          have h9 := eqS_rep (w := w) hp hq hs hu (.inl ⟨rfl, rfl⟩) 9999
          have h10 : ∃ b1, vx = .bool b1 := by cases hp <;> cases hq <;> simp [eqS] at hs <;> exact ⟨_, rfl⟩
          obtain ⟨b1, rfl⟩ := h10
          refine eqv_done hi ho hop ?_ ?_ ?_ ?_ ?_ ?_ <;> rw [hxv] <;> try rw [hyv]
          · subst hop; cases neg <;> rfl
          · exact h9
          all_goals simp
    · cases hd
  · cases hd

theorem run_eqv6 {neg : Bool} {op : BinOp} (hop : op = if neg then .neq else .eql) (hi : SInv w K) (hf : FRel w K a.tmps fr) {t yt : TypeId} {x y : Operand} {x' y' : Opd} (ho : o.op = .binOp op t x y yt) (hx : chkX x x' = true) (hy : chkX y y' = true)
    {ks : List Nat} {b : Bool} (hd : eqD 6 ks (x'.ev fr) (y'.ev fr) = some b) {m : Nat} {fs : Array Field} (hm : m ≤ 10000) (hks : eqT P m t = some ks) (hu : P.underlying t = some (.struct fs)) (hg : P.eqGuardType P.depth t = false) :
    Runs P o a w K st (.p (.bool (if neg then !b else b))) K.σ := by
  have hrx := chkX_rep hx hf
  have hry := chkX_rep hy hf
  simp only [eqD, if_true, if_false, (by decide : ¬ (6 = 0))] at hd
  obtain ⟨d, hd'⟩ : ∃ d, 10000 = m + d := ⟨10000 - m, by omega⟩
  have hag : aggB P t = some true := by simp [aggB, hu]
  split at hd
  · rename_i xs ys h1 h2
    rw [h1] at hrx; rw [h2] at hry
    split at hd
    · rename_i p q h3 h4
      generalize hxv : a.eval x = vx at hrx
      generalize hyv : a.eval y = vy at hry
      cases hrx with
      | agg vs _ hl hr =>
        cases hry with
        | agg us _ hl2 hr2 =>
          obtain ⟨e1, e2⟩ := asPs_spec h3
          obtain ⟨e3, e4⟩ := asPs_spec h4
          have h9 := eqT_run (w := w) (I := K.im) m hks d (x := .agg vs) (y := .agg us) (a := p) (b := q) (r := b)
            (by rw [ValP, if_pos hag]; exact ⟨vs, rfl, by omega, fun i hi' => e2 w K i hi' _ (hr i (by omega))⟩)
            (by rw [ValP, if_pos hag]; exact ⟨us, rfl, by omega, fun i hi' => e4 w K i hi' _ (hr2 i (by omega))⟩) hd
          rw [← hd'] at h9
          refine eqv_done hi ho hop ?_ ?_ ?_ ?_ ?_ ?_ <;> rw [hxv] <;> try rw [hyv]
          · exact run_eqGuard_agg w op t x y vs us hg
          · exact h9
          all_goals simp
    · cases hd
  · cases hd

theorem run_eqvN {neg : Bool} {op : BinOp} (hop : op = if neg then .neq else .eql) (hi : SInv w K) (hf : FRel w K a.tmps fr) {t yt : TypeId} {x y : Operand} {x' y' : Opd} (ho : o.op = .binOp op t x y yt) (hx : chkX x x' = true) (hy : chkX y y' = true)
    {kd : Nat} {ks : List Nat} {b : Bool} (hd : eqD kd ks (x'.ev fr) (y'.ev fr) = some b) (h0 : kd ≠ 0) (h6 : kd ≠ 6) {ty : TypeDesc} (hu : P.underlying t = some ty) (hkind : kindOf kd ty = true) (hconst : (∃ c, x = .const c) ∨ ∃ c, y = .const c) :
    Runs P o a w K st (.p (.bool (if neg then !b else b))) K.σ := by
  have hrx := chkX_rep hx hf
  have hry := chkX_rep hy hf
  simp only [eqD, h0, h6, if_false] at hd
  have hguard : ∀ vx vy, a.eval x = vx → a.eval y = vy → (∀ xs ys, vx = .agg xs → vy = .agg ys → False) → (eqGuard op t x y (a.eval x) (a.eval y)).run P w = .ok () w := by
    intro vx vy e1 e2 e3
    rw [e1, e2]
    unfold eqGuard
    have hc : ((match x with | .const _ => true | _ => false) || (match y with | .const _ => true | _ => false)) = true := by
      rcases hconst with ⟨c, rfl⟩ | ⟨c, rfl⟩ <;> simp
    subst hop
    cases neg <;> cases vx <;> cases vy <;> first | rfl | exact (e3 _ _ rfl rfl).elim | (rcases hconst with ⟨c, rfl⟩ | ⟨c, rfl⟩ <;> simp)
  obtain ⟨bx, by', hbx, hby, hb⟩ : ∃ bx by', nilK kd (x'.ev fr) = some bx ∧ nilK kd (y'.ev fr) = some by' ∧ ((bx = true ∧ b = by') ∨ (bx = false ∧ by' = true ∧ b = false)) := by
    split at hd
    · rename_i h1
      exact ⟨true, b, h1, hd, .inl ⟨rfl, rfl⟩⟩
    · rename_i h1 h2
      exact ⟨false, true, h1, h2, .inr ⟨rfl, rfl, by simpa using hd.symm⟩⟩
    · cases hd
  have ix := nilK_inv hrx hbx
  have iy := nilK_inv hry hby
  have main : ∀ vx vy, a.eval x = vx → a.eval y = vy → (∀ xs ys, vx = .agg xs → vy = .agg ys → False) → (∀ d, (Op.equalIn (d + 1) t vx vy).run P w = .ok b w) → (∀ k n, vx ≠ .int k n) → (∀ s, vx ≠ .string s) → (∀ k n, vx ≠ .float k n) → (∀ k n m, vx ≠ .complex k n m) → Runs P o a w K st (.p (.bool (if neg then !b else b))) K.σ := by
    intro vx vy e1 e2 e3 e4 e5 e6 e7 e8
    subst e1; subst e2
    exact eqv_done hi ho hop (hguard _ _ rfl rfl e3) (e4 9999) e5 e6 e7 e8
  rcases ix with ⟨rfl, ix⟩ | ⟨rfl, ix⟩ | ⟨rfl, ix⟩ | ⟨rfl, ix⟩ | ⟨rfl, ix⟩ <;> rcases iy with ⟨hk, iy⟩ | ⟨hk, iy⟩ | ⟨hk, iy⟩ | ⟨hk, iy⟩ | ⟨hk, iy⟩ <;> cases hk <;> cases ty <;> simp only [kindOf, Nat.reduceBEq, Bool.false_eq_true] at hkind <;>
    rcases ix with ⟨rfl, ix⟩ | ⟨rfl, ix⟩ <;> rcases iy with ⟨rfl, iy⟩ | ⟨rfl, iy⟩ <;> simp only [Bool.true_eq_false, Bool.false_eq_true, false_and, and_false, or_false, false_or, true_and, and_self] at hb <;> subst hb
  all_goals
    (first | obtain ⟨_, _, _, ix⟩ := ix | obtain ⟨_, _, ix⟩ := ix | obtain ⟨_, ix⟩ := ix | skip)
  all_goals
    (first | obtain ⟨_, _, _, iy⟩ := iy | obtain ⟨_, _, iy⟩ := iy | obtain ⟨_, iy⟩ := iy | skip)
  all_goals
    exact main _ _ ix iy (by simp) (fun d => by simp only [Op.equalIn, Sem.run_bind, run_underlying hu, Result.andThen_ok, Sem.run_pure, Option.isNone_none, Option.isNone_some]) (by simp) (by simp) (by simp) (by simp)
end
end Go.Ev
