/- A part of an evaluator of closed runs, and of the proof that what it answers holds of the model. No conditions. -/
import Derived.Test.YtfhakpnfmomaaaaGreatDoorEvReg2
namespace Go.Ev
open Go

/-- A region, and what the evaluator has for it. -/
structure RegT (P : Program) (N : Nat) (ops : Array Oper) (draw : Bool) (l : List OpI) : Prop where
  len : l.length = ops.size
  op : ∀ (i : Nat) (o : Oper) (oi : OpI), ops[i]? = some o → l[i]? = some oi → (chkOpI P N ops o oi = true ∨ chkCallI N ops o oi = true) ∧ guardLt N oi = true
  turn : draw = true → P.follows .mixedOrders = true ∧ ∃ D, Ahead ops D ∧ ∀ k i, k < i → i < ops.size → k ∉ D i → ∀ R Fr c0, Turns R Fr c0 l k i

/-- Stamps in use lie below the counter. -/
def CBelow (K : Ctx) : Prop := ∀ x, K.used x → x < K.σ.c
/-- New stamps come from the counter. -/
def NewUsed (K K' : Ctx) : Prop := K.σ.c ≤ K'.σ.c ∧ ∀ x, K'.used x → K.used x ∨ (K.σ.c ≤ x ∧ x < K'.σ.c)
theorem NewUsed.refl (K : Ctx) : NewUsed K K := ⟨Nat.le_refl _, fun _ h => .inl h⟩
theorem NewUsed.trans {K K' K'' : Ctx} (h : NewUsed K K') (k : NewUsed K' K'') : NewUsed K K'' := by
  have h1 := h.1
  have k1 := k.1
  refine ⟨by omega, fun x hx => ?_⟩
  rcases k.2 x hx with h2 | h2
  · rcases h.2 x h2 with h3 | h3
    · exact .inl h3
    · exact .inr (by omega)
  · exact .inr (by omega)
theorem NewUsed.below {K K' : Ctx} (h : NewUsed K K') (hb : CBelow K) : CBelow K' := fun x hx => by
  have h1 := h.1
  rcases h.2 x hx with h2 | h2
  · have := hb x h2; omega
  · exact h2.2

/-- A list of code, run in turn. -/
def WL (F : Fence) (m : Nat) (P : Program) (Q : Exit → Act → World → Prop) : List Code → Act → World → Prop
  | [], a, w => Q .normal a w
  | x :: l, a, w => x.wpIn F m P (Exit.then (WL F m P Q l) Q) a w
theorem WL_one {F : Fence} {m : Nat} {P : Program} {Q : Exit → Act → World → Prop} {x : Code} {a : Act} {w : World} : WL F m P Q [x] a w ↔ x.wpIn F m P Q a w := by
  have e : Exit.then (WL F m P Q []) Q = Q := by funext e a w; cases e <;> rfl
  show x.wpIn F m P (Exit.then (WL F m P Q []) Q) a w ↔ _
  rw [e]
theorem WL_app {F : Fence} {m : Nat} {P : Program} {Q : Exit → Act → World → Prop} : ∀ (l r : List Code) {a : Act} {w : World}, WL F m P (Exit.then (WL F m P Q r) Q) l a w → WL F m P Q (l ++ r) a w
  | [], r, a, w, h => h
  | x :: l, r, a, w, h => by
    refine wpIn_mono h (fun e a w h => ?_)
    cases e with
    | normal => exact WL_app l r h
    | _ => exact h

/-- Code is run as the evaluator runs it: with so much fuel. -/
def CodeOK (GP : (Nat → Option Value) → Prop) (PF : Fence → Prop) (P : Program) (E : Env) (N : Nat) (xs : List Code) (c : C) (n : Nat) : Prop :=
  ∀ (F : Fence) (m : Nat) (Q : Exit → Act → World → Prop) (w : World) (K : Ctx) (ds : Nat) (a : Act) (fr : Frame) (Fr : Nat) (out : Out) (fr' : Frame) (σ' : Store), PF F → StR GP w K N ds a fr → CBelow K → ev E n c Fr fr K.σ = some (out, fr', σ') →
    (∀ a' w' K', StR GP w' K' N ds a' fr' → Ext w K w' K' → K'.σ = σ' → NewUsed K K' → Q out.exit' a' w') → WL F m P Q xs a w

section
variable {GP : (Nat → Option Value) → Prop} {P : Program} {E : Env} {N : Nat} {PF : Fence → Prop}

theorem reg_sound (hPF : ∀ F, PF F → Wide F) {n : Nat} (hpure : ∀ f as d, callP E n f as = some d → PureC GP P f as d) (href : ∀ f as σ d σ', callR E n f as σ = some (d, σ') → RefC GP P f as σ d σ') {id : Nat} {ops : Array Oper} {b : Bool} {l : List OpI} (hR : RegT P N ops b l) : CodeOK GP PF P E N [.region id ops b] (.ops l) (n + 1) := by
  intro F m Q w K ds a fr Fr out fr' σ' hF hS hB h hk
  simp only [ev] at h
  obtain ⟨⟨fr1, σ1⟩, h1, h2⟩ := Option.map_eq_some_iff.1 h
  simp only [Prod.mk.injEq] at h2
  obtain ⟨rfl, rfl, rfl⟩ := h2
  obtain ⟨K1, hK1⟩ : ∃ K1, K1 = { K with σ := { K.σ with c := K.σ.c + 16 * l.length } } := ⟨_, rfl⟩
  have hnf : ({ K.σ with nf := K.σ.nf, c := K.σ.c + 16 * l.length } : Store) = { K.σ with c := K.σ.c + 16 * l.length } := rfl
  have hcnt := hS.count K.σ.nf (K.σ.c + 16 * l.length)
  rw [hnf, ← hK1] at hcnt
  obtain ⟨hS1, hx1⟩ := hcnt
  have hσ1 : K1.σ = { K.σ with c := K.σ.c + 16 * l.length } := by rw [hK1]
  have hu1 : K1.used = K.used := by rw [hK1]
  have hcB : Cnt (K.σ.c + 16 * l.length) K1 := by
    refine ⟨by rw [hσ1]; exact Nat.le_refl _, fun x hx => ?_⟩
    rw [hu1] at hx
    have := hB x hx
    rw [hσ1]
    show x < K.σ.c + 16 * l.length
    omega
  have hstep : ∀ i oi, l[i]? = some oi → StepOK GP F m P ops Q N ds Fr ⟨callP E n, callR E n⟩ K.σ.c (K.σ.c + 16 * l.length) i oi := by
    intro i oi hoi
    have hi : i < ops.size := by rw [← hR.len]; exact (List.getElem?_eq_some_iff.1 hoi).1
    obtain ⟨hc, hg⟩ := hR.op i _ oi (Array.getElem?_eq_getElem hi) hoi
    have hgl : ∀ t b, oi.guard = some (t, b) → t < N := fun t b e => by unfold guardLt at hg; rw [e] at hg; simpa using hg
    rcases hc with hc | hc
    · exact stepOK_op (hPF F hF) (Array.getElem?_eq_getElem hi) hc hgl
    · exact stepOK_call (hPF F hF) hpure href (Array.getElem?_eq_getElem hi) hc hg
  rw [evOps_idx _ _ _ l l 0 _ _ rfl] at h1
  have hr0 : (List.range l.length).map (· + 0) = List.range ops.size := by simp [hR.len]
  rw [hr0, ← hσ1] at h1
  have hfree : Free K1 K.σ.c (K.σ.c + 16 * l.length) (List.range ops.size) := by
    intro i hi
    rw [List.mem_range, ← hR.len] at hi
    refine ⟨by omega, fun x x1 _ hu => ?_⟩
    rw [hu1] at hu
    have := hB x hu
    omega
  have fin : ∀ a' w' K', StR GP w' K' N ds a' fr1 → Ext w K1 w' K' → K'.σ = σ1 → Cnt (K.σ.c + 16 * l.length) K' → (∀ x, K'.used x → K1.used x ∨ (∃ i ∈ List.range ops.size, K.σ.c + 16 * i ≤ x ∧ x < K.σ.c + 16 * i + 16) ∨ K.σ.c + 16 * l.length ≤ x) → Q Out.normal.exit' a' w' := by
    intro a' w' K' k1 k2 k3 k4 k5
    refine hk a' w' K' k1 (hx1.trans k2) k3 ⟨by have := k4.1; omega, fun x hx => ?_⟩
    have hxc := k4.2 x hx
    rcases k5 x hx with h | ⟨i, _, h⟩ | h
    · rw [hu1] at h; exact .inl h
    · exact .inr (by omega)
    · exact .inr (by omega)
  rw [WL_one]
  cases b with
  | false =>
    refine wpIn_region ?_
    exact region_list hstep (List.range ops.size) List.nodup_range w K1 a fr fr1 σ1 hS1 hfree hcB h1 fin
  | true =>
    obtain ⟨hmix, D, hD, ht⟩ := hR.turn rfl
    refine wpIn_region_any hmix ?_
    obtain ⟨hSd, hxd⟩ := hS1.drew
    refine region_any hD hstep hR.len (fun k i hki hi hkD => ht k i hki hi hkD _ _ _) ops.size (Array.replicate ops.size false) (List.range ops.size) List.pairwise_lt_range ?_ (by simp) ?_ (by simp) _ K1 a fr fr1 σ1 hSd hfree hcB h1 (fun a' w' K' k1 k2 k3 k4 k5 => fin a' w' K' k1 (hxd.trans k2) k3 k4 k5)
    · intro j
      rw [List.mem_range]
      constructor
      · intro hj; exact ⟨hj, by simp [Array.getD, hj]⟩
      · exact fun h => h.1
    · intro i hi hl
      simp [Array.getD, hi] at hl

/-- Ranges over functions: what is told of them. -/
def RangeOK (GP : (Nat → Option Value) → Prop) (PF : Fence → Prop) (P : Program) (E : Env) (N : Nat) (RngT : Operand → Array Tmp → Code → Code → C → Prop) (n : Nat) : Prop := ∀ x ps assign body c, RngT x ps assign body c → CodeOK GP PF P E N [.rangeFunc x ps assign body] c n

/-- Code that does nothing. -/
def triv : Code → Bool
  | .skip => true
  | .label _ => true
  | .seq x y => triv x && triv y
  | _ => false

/-- Code, and what the evaluator has for it. -/
inductive TrC (P : Program) (N : Nat) (RngT : Operand → Array Tmp → Code → Code → C → Prop) : List Code → C → Prop
  | nil : TrC P N RngT [] .skip
  | skip (xs : List Code) (c : C) (h : TrC P N RngT xs c) : TrC P N RngT (.skip :: xs) c
  | label (l : Nat) (xs : List Code) (c : C) (h : TrC P N RngT xs c) : TrC P N RngT (.label l :: xs) c
  | unseq (x y : Code) (xs : List Code) (c : C) (h : TrC P N RngT (x :: y :: xs) c) : TrC P N RngT (.seq x y :: xs) c
  | region (id : Nat) (ops : Array Oper) (b : Bool) (l : List OpI) (h : RegT P N ops b l) : TrC P N RngT [.region id ops b] (.ops l)
  | cons (x : Code) (xs : List Code) (a b : C) (h1 : TrC P N RngT [x] a) (h2 : TrC P N RngT xs b) : TrC P N RngT (x :: xs) (.seq a b)
  | last (x : Code) (xs : List Code) (a : C) (h1 : TrC P N RngT [x] a) (h2 : ∀ y ∈ xs, triv y = true) : TrC P N RngT (x :: xs) a
  | cond (c : Operand) (c' : Opd) (x y : Code) (a b : C) (hc : chkX c c' = true) (h1 : TrC P N RngT [x] a) (h2 : TrC P N RngT [y] b) : TrC P N RngT [.cond c x y] (.cond c' a b)
  | block (id : Nat) (x : Code) (a : C) (h : TrC P N RngT [x] a) : TrC P N RngT [.block id x] (.block id a)
  | loop (x : Code) (a : C) (h : TrC P N RngT [x] a) : TrC P N RngT [.loop x] (.loop a)
  | exit (id : Nat) : TrC P N RngT [.exit id] (.exit id)
  | ret : TrC P N RngT [.ret] .ret
  | kill (xs : List Code) (a : C) (ts ss : List Nat) (h : TrC P N RngT xs a) : TrC P N RngT xs (.kill a ts ss)
  | pre (xs : List Code) (a : C) (ts ss : List Nat) (h : TrC P N RngT xs a) : TrC P N RngT xs (.seq (.kill .skip ts ss) a)
  | range (x : Operand) (ps : Array Tmp) (assign body : Code) (c : C) (h : RngT x ps assign body c) : TrC P N RngT [.rangeFunc x ps assign body] c

theorem triv_ok {F : Fence} {m : Nat} : ∀ (x : Code), triv x = true → ∀ {Q : Exit → Act → World → Prop} {a : Act} {w : World}, Q .normal a w → x.wpIn F m P Q a w
  | .skip, _, _, _, _, h => wpIn_skip h
  | .label _, _, _, _, _, h => wpIn_label h
  | .seq x y, ht, _, _, _, h => by
    simp only [triv, Bool.and_eq_true] at ht
    exact wpIn_seq (triv_ok x ht.1 (triv_ok y ht.2 h))
theorem triv_list {F : Fence} {m : Nat} {Q : Exit → Act → World → Prop} : ∀ (xs : List Code), (∀ y ∈ xs, triv y = true) → ∀ {a : Act} {w : World}, Q .normal a w → WL F m P Q xs a w
  | [], _, _, _, h => h
  | x :: xs, ht, _, _, h => triv_ok x (ht x (by simp)) (triv_list xs (fun y hy => ht y (by simp [hy])) h)

theorem kill_ok {w : World} {K : Ctx} {ds : Nat} {a : Act} {fr : Frame} (h : StR GP w K N ds a fr) (ts : List Nat) (F' : Nat) (ss : List Nat) :
    ∃ K', StR GP w K' N ds a (fr.del ts) ∧ Ext w K w K' ∧ K'.σ = dropSites K.σ F' ss ∧ NewUsed K K' := by
  obtain ⟨h1, h2⟩ := h.kill ts F' ss
  refine ⟨_, h1, h2, rfl, ?_, fun x hx => .inl hx⟩
  show K.σ.c ≤ (dropSites K.σ F' ss).c
  rw [(dropSites_obj F' ss K.σ).2.2.1]
  exact Nat.le_refl _

theorem least {p : Nat → Prop} (h : ∃ n, p n) : ∃ n, p n ∧ ∀ m, m < n → ¬ p m := by
  obtain ⟨n, hn⟩ := h
  induction n using Nat.strongRecOn with
  | _ n ih =>
    by_cases hx : ∃ m, m < n ∧ p m
    · obtain ⟨m, h1, h2⟩ := hx
      exact ih m h1 h2
    · exact ⟨n, hn, fun m h1 h2 => hx ⟨m, h1, h2⟩⟩

/-- CODE. -/
theorem code_sound (hPF : ∀ F, PF F → Wide F) {RngT : Operand → Array Tmp → Code → Code → C → Prop} (n : Nat) (hpure : ∀ m, m < n → ∀ f as d, callP E m f as = some d → PureC GP P f as d) (href : ∀ m, m < n → ∀ f as σ d σ', callR E m f as σ = some (d, σ') → RefC GP P f as σ d σ')
    (hrange : ∀ m, m ≤ n → RangeOK GP PF P E N RngT m) (hless : ∀ m, m < n → ∀ x c, TrC P N RngT x c → CodeOK GP PF P E N x c m) : ∀ x c, TrC P N RngT x c → CodeOK GP PF P E N x c n := by
  intro x c htr
  induction htr with
  | nil =>
    intro F m Q w K ds a fr Fr out fr' σ' hF hS hB h hk
    cases n with
    | zero => simp [ev] at h
    | succ n =>
      simp only [ev, Option.some.injEq, Prod.mk.injEq] at h
      obtain ⟨rfl, rfl, rfl⟩ := h
      exact hk a w K hS (.refl _ _) rfl (.refl _)
  | skip xs c h1 ih =>
    intro F m Q w K ds a fr Fr out fr' σ' hF hS hB h hk
    exact wpIn_skip (ih F m Q w K ds a fr Fr out fr' σ' hF hS hB h hk)
  | label l xs c h1 ih =>
    intro F m Q w K ds a fr Fr out fr' σ' hF hS hB h hk
    exact wpIn_label (ih F m Q w K ds a fr Fr out fr' σ' hF hS hB h hk)
  | unseq x y xs c h1 ih =>
    intro F m Q w K ds a fr Fr out fr' σ' hF hS hB h hk
    refine wpIn_seq (wpIn_mono (ih F m Q w K ds a fr Fr out fr' σ' hF hS hB h hk) (fun e a w h => ?_))
    cases e with
    | normal => exact h
    | _ => exact h
  | region id ops b l hR =>
    cases n with
    | zero => intro F m Q w K ds a fr Fr out fr' σ' hF hS hB h hk; simp [ev] at h
    | succ n => exact reg_sound hPF (hpure n (Nat.lt_succ_self _)) (href n (Nat.lt_succ_self _)) hR
  | cons x xs a b h1 h2 _ _ =>
    intro F m Q w K ds a' fr Fr out fr' σ' hF hS hB h hk
    cases n with
    | zero => simp [ev] at h
    | succ n =>
      simp only [ev] at h
      refine WL_app [x] xs ?_
      split at h
      · rename_i fr1 σ1 e1
        refine hless n (Nat.lt_succ_self _) [x] a h1 F m _ w K ds a' fr Fr .normal fr1 σ1 hF hS hB e1 (fun a1 w1 K1 k1 k2 k3 k4 => ?_)
        show WL F m P Q xs a1 w1
        refine hless n (Nat.lt_succ_self _) xs b h2 F m _ w1 K1 ds a1 fr1 Fr out fr' σ' hF k1 (k4.below hB) (by rw [k3]; exact h) (fun a2 w2 K2 j1 j2 j3 j4 => ?_)
        exact hk a2 w2 K2 j1 (k2.trans j2) j3 (k4.trans j4)
      · rename_i hne
        refine hless n (Nat.lt_succ_self _) [x] a h1 F m _ w K ds a' fr Fr out fr' σ' hF hS hB h (fun a1 w1 K1 k1 k2 k3 k4 => ?_)
        have := hk a1 w1 K1 k1 k2 k3 k4
        cases out with
        | normal => exact absurd h (hne fr' σ')
        | exit id => exact this
        | ret => exact this
  | last x xs a h1 h2 ih =>
    intro F m Q w K ds a' fr Fr out fr' σ' hF hS hB h hk
    refine WL_app [x] xs (ih F m _ w K ds a' fr Fr out fr' σ' hF hS hB h (fun a1 w1 K1 k1 k2 k3 k4 => ?_))
    have := hk a1 w1 K1 k1 k2 k3 k4
    cases out with
    | normal => exact triv_list xs h2 this
    | exit id => exact this
    | ret => exact this
  | cond c c' x y a b hc h1 h2 _ _ =>
    intro F m Q w K ds a' fr Fr out fr' σ' hF hS hB h hk
    rw [WL_one]
    cases n with
    | zero => simp [ev] at h
    | succ n =>
      simp only [ev] at h
      have hrep := chkX_rep hc hS.frame (w := w) (K := K)
      split at h
      · rename_i t ht
        rw [ht] at hrep
        refine wpIn_cond hrep.bool_inv ?_
        cases t with
        | true => exact WL_one.1 (hless n (Nat.lt_succ_self _) [x] a h1 F m Q w K ds a' fr Fr out fr' σ' hF hS hB h hk)
        | false => exact WL_one.1 (hless n (Nat.lt_succ_self _) [y] b h2 F m Q w K ds a' fr Fr out fr' σ' hF hS hB h hk)
      · cases h
  | block id x a h1 _ =>
    intro F m Q w K ds a' fr Fr out fr' σ' hF hS hB h hk
    rw [WL_one]
    cases n with
    | zero => simp [ev] at h
    | succ n =>
      simp only [ev] at h
      refine wpIn_block ?_
      split at h
      · rename_i id' fr1 σ1 e1
        split at h
        · rename_i hid
          simp only [Option.some.injEq, Prod.mk.injEq] at h
          obtain ⟨rfl, rfl, rfl⟩ := h
          refine WL_one.1 (hless n (Nat.lt_succ_self _) [x] a h1 F m _ w K ds a' fr Fr _ _ _ hF hS hB e1 (fun a1 w1 K1 k1 k2 k3 k4 => ?_))
          show Exit.inBlock id Q (.exit id') a1 w1
          simp only [Exit.inBlock, hid, if_true]
          exact hk a1 w1 K1 k1 k2 k3 k4
        · rename_i hid
          simp only [Option.some.injEq, Prod.mk.injEq] at h
          obtain ⟨rfl, rfl, rfl⟩ := h
          refine WL_one.1 (hless n (Nat.lt_succ_self _) [x] a h1 F m _ w K ds a' fr Fr _ _ _ hF hS hB e1 (fun a1 w1 K1 k1 k2 k3 k4 => ?_))
          show Exit.inBlock id Q (.exit id') a1 w1
          simp only [Exit.inBlock, hid, if_false]
          exact hk a1 w1 K1 k1 k2 k3 k4
      · rename_i hne
        refine WL_one.1 (hless n (Nat.lt_succ_self _) [x] a h1 F m _ w K ds a' fr Fr out fr' σ' hF hS hB h (fun a1 w1 K1 k1 k2 k3 k4 => ?_))
        have := hk a1 w1 K1 k1 k2 k3 k4
        cases out with
        | normal => exact this
        | exit id' => exact absurd h (hne id' fr' σ')
        | ret => exact this
  | loop x a h1 _ =>
    intro F m Q w K ds a' fr Fr out fr' σ' hF hS hB h hk
    rw [WL_one]
    let Inv : Nat → Act → World → Prop := fun k a1 w1 => ∃ K1 fr1, k ≤ n ∧ StR GP w1 K1 N ds a1 fr1 ∧ Ext w K w1 K1 ∧ NewUsed K K1 ∧ ev E k (.loop a) Fr fr1 K1.σ = some (out, fr', σ')
    open Classical in
    refine wpIn_loop (fun a1 w1 => ∃ k, Inv k a1 w1) (fun a1 w1 => if hx : ∃ k, Inv k a1 w1 then Classical.choose (least hx) else 0) ⟨n, K, fr, Nat.le_refl _, hS, .refl _ _, .refl _, h⟩ ?_
    intro a1 w1 hinv
    have hfind := Classical.choose_spec (least hinv)
    rw [dif_pos hinv]
    generalize Classical.choose (least hinv) = k at hfind
    obtain ⟨⟨K1, fr1, hkn, hS1, hx1, hu1, he⟩, _⟩ := hfind
    cases k with
    | zero => simp [ev] at he
    | succ k =>
      simp only [ev] at he
      split at he
      · rename_i fr2 σ2 e1
        refine WL_one.1 (hless k (by omega) [x] a h1 F m _ w1 K1 ds a1 fr1 Fr .normal fr2 σ2 hF hS1 (hu1.below hB) e1 (fun a2 w2 K2 k1 k2 k3 k4 => ?_))
        have hi2 : Inv k a2 w2 := ⟨K2, fr2, by omega, k1, hx1.trans k2, hu1.trans k4, by rw [k3]; exact he⟩
        refine ⟨⟨k, hi2⟩, ?_⟩
        rw [dif_pos ⟨k, hi2⟩]
        have hsp := Classical.choose_spec (least (p := fun k => Inv k a2 w2) ⟨k, hi2⟩)
        exact Nat.lt_succ_of_le (Nat.le_of_not_lt fun hlt => hsp.2 k hlt hi2)
      · rename_i hne
        refine WL_one.1 (hless k (by omega) [x] a h1 F m _ w1 K1 ds a1 fr1 Fr out fr' σ' hF hS1 (hu1.below hB) he (fun a2 w2 K2 k1 k2 k3 k4 => ?_))
        have := hk a2 w2 K2 k1 (hx1.trans k2) k3 (hu1.trans k4)
        cases out with
        | normal => exact absurd he (hne fr' σ')
        | exit id => exact this
        | ret => exact this
  | exit id =>
    intro F m Q w K ds a fr Fr out fr' σ' hF hS hB h hk
    rw [WL_one]
    cases n with
    | zero => simp [ev] at h
    | succ n =>
      simp only [ev, Option.some.injEq, Prod.mk.injEq] at h
      obtain ⟨rfl, rfl, rfl⟩ := h
      exact wpIn_exit (hk a w K hS (.refl _ _) rfl (.refl _))
  | ret =>
    intro F m Q w K ds a fr Fr out fr' σ' hF hS hB h hk
    rw [WL_one]
    cases n with
    | zero => simp [ev] at h
    | succ n =>
      simp only [ev, Option.some.injEq, Prod.mk.injEq] at h
      obtain ⟨rfl, rfl, rfl⟩ := h
      exact wpIn_ret (hk a w K hS (.refl _ _) rfl (.refl _))
  | kill xs a ts ss h1 _ =>
    intro F m Q w K ds a' fr Fr out fr' σ' hF hS hB h hk
    cases n with
    | zero => simp [ev] at h
    | succ n =>
      simp only [ev] at h
      split at h
      · rename_i fr1 σ1 e1
        simp only [Option.some.injEq, Prod.mk.injEq] at h
        obtain ⟨rfl, rfl, rfl⟩ := h
        refine hless n (Nat.lt_succ_self _) xs a h1 F m Q w K ds a' fr Fr .normal fr1 σ1 hF hS hB e1 (fun a1 w1 K1 k1 k2 k3 k4 => ?_)
        obtain ⟨K2, j1, j2, j3, j4⟩ := kill_ok k1 ts Fr ss
        exact hk a1 w1 K2 j1 (k2.trans j2) (by rw [j3, k3]) (k4.trans j4)
      · exact hless n (Nat.lt_succ_self _) xs a h1 F m Q w K ds a' fr Fr out fr' σ' hF hS hB h hk
  | pre xs a ts ss h1 _ =>
    intro F m Q w K ds a' fr Fr out fr' σ' hF hS hB h hk
    cases n with
    | zero => simp [ev] at h
    | succ n =>
      simp only [ev] at h
      cases n with
      | zero => simp [ev] at h
      | succ n =>
        have hkill : ∀ k, ev E (k + 1) (.kill .skip ts ss) Fr fr K.σ = (match ev E k .skip Fr fr K.σ with | some (.normal, fr, σ) => some (.normal, fr.del ts, dropSites σ Fr ss) | r => r) := fun k => by
          simp only [ev]
          cases ev E k C.skip Fr fr K.σ with
          | none => rfl
          | some r => obtain ⟨o, f, s⟩ := r; cases o <;> rfl
        rw [hkill] at h
        cases n with
        | zero => simp [ev] at h
        | succ n =>
          have hskip : ev E (n + 1) .skip Fr fr K.σ = some (.normal, fr, K.σ) := by simp only [ev]
          rw [hskip] at h
          simp only at h
          obtain ⟨K2, j1, j2, j3, j4⟩ := kill_ok hS ts Fr ss
          refine hless (n + 1 + 1) (Nat.lt_succ_self _) xs a h1 F m Q w K2 ds a' (fr.del ts) Fr out fr' σ' hF j1 (j4.below hB) (by rw [j3]; exact h) (fun a1 w1 K1 k1 k2 k3 k4 => ?_)
          exact hk a1 w1 K1 k1 (j2.trans k2) k3 (j4.trans k4)
  | range x ps assign body c hr => exact hrange n (Nat.le_refl _) x ps assign body c hr
end
end Go.Ev
