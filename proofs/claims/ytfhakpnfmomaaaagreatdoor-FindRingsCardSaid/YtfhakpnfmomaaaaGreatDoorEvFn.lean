/- A part of an evaluator of closed runs, and of the proof that what it answers holds of the model. No conditions. -/
import Derived.Test.YtfhakpnfmomaaaaGreatDoorEvSound
import Derived.Test.YtfhakpnfmomaaaaGreatDoorEvJunk
namespace Go.Ev
open Go

/-! ### What a function hands back -/
section
variable {P : Program} {w : World} {K : Ctx}

theorem read_at (hi : SInv w K) {t : TypeId} {v0 : Value} {d0 : DV} (hr : RepD w K v0 d0) {n : Nat} {ag : Bool} (hn : (P.info? t).map (·.size) = some n) (ha : aggB P t = some ag) {d : DV} (hd : loadAt K.σ.obj n ag d0 = some d) :
    ∃ ad v, v0 = .pointer (some ad) ∧ (loadVar t ad).run P w = .ok v w ∧ RepD w K v d := by
  unfold loadAt at hd
  split at hd
  · rename_i cells off
    cases hr with
    | p _ _ hr =>
      cases hr with
      | ip b q _ _ f hc _ hp =>
        cases ag with
        | true =>
          simp only [if_true] at hd
          split at hd
          · rename_i hle
            simp only [Option.some.injEq] at hd
            subst hd
            have hrun := run_read (w := w) (b := b) (o := q + off) hn ha (fun j => f (off + j)) (fun j hj => by
              have hj' : j < n := by simpa using hj
              have := (hc (off + j) (by omega)).1
              rwa [show q + off + j = q + (off + j) by omega])
            refine ⟨_, _, rfl, hrun, ?_⟩
            have hlen : (((cells.drop off).take n).map DV.p).length = n := by simp; omega
            refine .agg _ _ (by simp; omega) (fun i hi' => ?_)
            have hi2 : i < n := by omega
            have e1 : ((List.range n).map fun j => f (off + j)).toArray.getD i undef = f (off + i) := by simp [Array.getD, hi2]
            have e2 : (((cells.drop off).take n).map DV.p).getD i .undef = .p (cells.getD (off + i) .nilp) := by
              have h3 : off + i < cells.length := by omega
              simp [List.getD, hi2, List.getElem?_drop, List.getElem?_eq_getElem h3]
            rw [e1, e2]
            exact .p _ _ (hp _ (by omega))
          · cases hd
        | false =>
          simp only [Bool.false_eq_true, if_false] at hd
          obtain ⟨p, hp1, rfl⟩ := Option.map_eq_some_iff.1 hd
          have hlt := (List.getElem?_eq_some_iff.1 hp1).1
          have hrun := run_read (w := w) (b := b) (o := q + off) hn ha (fun j => f (off + j)) (fun j hj => by
            have hj' : j = 0 := by simpa using hj
            subst hj'
            exact (hc off hlt).1)
          refine ⟨_, _, rfl, hrun, .p _ _ ?_⟩
          have := hp off hlt
          rwa [List.getD, hp1] at this
  · rename_i r row off
    cases hr with
    | mp ad _ _ _ hu hr =>
      split at hd
      · rename_i sz rows mu hget
        split at hd
        · rename_i cells hrow
          obtain ⟨b, hb, rfl⟩ := hr _ _ _ hget
          obtain ⟨_, b', cs, e, hb', hheap, hsz, hkap, hlen, hrep⟩ := hi.obj _ _ _ _ (get_spec.1 hget)
          rw [hb] at hb'; cases hb'
          have hrl := (List.getElem?_eq_some_iff.1 hrow).1
          have hcl : cells.length = sz := hlen _ (List.mem_of_getElem? hrow)
          have hgd : rows.getD row [] = cells := by rw [List.getD, hrow]; rfl
          have hcell : ∀ j, off + j < sz → w.cell? ⟨b, row * sz + off + j, none⟩ = some (cs.getD (row * sz + (off + j)) undef) := by
            intro j hj
            have h1 : row * sz + (off + j) < cs.size := by
              have : (row + 1) * sz ≤ K.κ r.st * sz := Nat.mul_le_mul_right _ (Nat.lt_of_lt_of_le hrl hkap)
              rw [Nat.add_mul] at this
              omega
            rw [show row * sz + off + j = row * sz + (off + j) by omega]
            simp [World.cell?, hheap, Array.getD, h1]
          cases ag with
          | true =>
            simp only [if_true] at hd
            split at hd
            · rename_i hle
              simp only [Option.some.injEq] at hd
              subst hd
              have hrun := run_read (w := w) (b := b) (o := row * sz + off) hn ha (fun j => cs.getD (row * sz + (off + j)) undef) (fun j hj => by
                have hj' : j < n := by simpa using hj
                exact hcell j (by omega))
              refine ⟨_, _, rfl, hrun, .agg _ _ (by simp; omega) (fun i hi' => ?_)⟩
              have hi2 : i < n := by simp at hi'; omega
              have e1 : ((List.range n).map fun j => cs.getD (row * sz + (off + j)) undef).toArray.getD i undef = cs.getD (row * sz + (off + i)) undef := by simp [Array.getD, hi2]
              have e2 : ((cells.drop off).take n).getD i .undef = cells.getD (off + i) .undef := by
                simp [List.getD, hi2, List.getElem?_drop]
              rw [e1, e2, ← hgd]
              exact (hrep row (off + i) hrl (by omega)).1
            · cases hd
          | false =>
            simp only [Bool.false_eq_true, if_false] at hd
            have hlt := (List.getElem?_eq_some_iff.1 hd).1
            have hrun := run_read (w := w) (b := b) (o := row * sz + off) hn ha (fun j => cs.getD (row * sz + (off + j)) undef) (fun j hj => by
              have hj' : j = 0 := by simpa using hj
              subst hj'
              exact hcell 0 (by omega))
            refine ⟨_, _, rfl, hrun, ?_⟩
            have := (hrep row off hrl (by omega)).1
            rwa [hgd, List.getD, hd] at this
        · cases hd
      · cases hd
  · cases hd

def chkRes (P : Program) : ResultVar → ResI → Bool
  | .tmp t, .tmp t' => t == t'
  | .cell a t, .cell a' n ag => a == a' && ((P.info? t).map (·.size) == some n) && (aggB P t == some ag)
  | _, _ => false
def chkResL (P : Program) : List ResultVar → List ResI → Bool
  | [], [] => true
  | x :: xs, y :: ys => chkRes P x y && chkResL P xs ys
  | _, _ => false

theorem res_one (hi : SInv w K) {tm : Array Value} {fr : Frame} (hf : FRel w K tm fr) {x : ResultVar} {y : ResI} (hc : chkRes P x y = true) {d : DV} (h : resOne K.σ fr y = some d) :
    ∃ v, ((match x with | .tmp t => pure (tm.getD t undef) | .cell a t => do loadVar t (← asAddr (tm.getD a undef))) : Sem Value).run P w = .ok v w ∧ RepD w K v d := by
  cases x with
  | tmp t =>
    cases y with
    | tmp t' =>
      simp only [chkRes, beq_iff_eq] at hc
      subst hc
      simp only [resOne, Option.some.injEq] at h
      subst h
      exact ⟨_, rfl, hf t⟩
    | cell => cases hc
  | cell a t =>
    cases y with
    | tmp => cases hc
    | cell a' n ag =>
      simp only [chkRes, Bool.and_eq_true, beq_iff_eq] at hc
      obtain ⟨⟨rfl, hn⟩, ha⟩ := hc
      simp only [resOne] at h
      obtain ⟨ad, v, e1, e2, e3⟩ := read_at hi (hf a) hn ha h
      refine ⟨v, ?_, e3⟩
      simp only [e1, asAddr, Sem.run_bind, Sem.run_pure, Result.andThen]
      exact e2

theorem res_all (hi : SInv w K) {tm : Array Value} {fr : Frame} (hf : FRel w K tm fr) : ∀ {xs : List ResultVar} {ys : List ResI}, chkResL P xs ys = true → ∀ {ds : List DV}, resAll K.σ fr ys = some ds →
    ∃ vs : List Value, (xs.mapM (fun x => (match x with | .tmp t => pure (tm.getD t undef) | .cell a t => do loadVar t (← asAddr (tm.getD a undef)) : Sem Value))).run P w = .ok vs w ∧ LRep w K vs ds
  | [], [], _, ds, h => by
    simp only [resAll, Option.some.injEq] at h
    subst h
    exact ⟨[], by simp, rfl, fun i hi => absurd hi (by simp)⟩
  | [], _ :: _, hc, _, _ => by simp [chkResL] at hc
  | _ :: _, [], hc, _, _ => by simp [chkResL] at hc
  | x :: xs, y :: ys, hc, ds, h => by
    simp only [chkResL, Bool.and_eq_true] at hc
    simp only [resAll] at h
    split at h
    · rename_i d ds' e1 e2
      simp only [Option.some.injEq] at h
      subst h
      obtain ⟨v, r1, r2⟩ := res_one hi hf hc.1 e1
      obtain ⟨vs, r3, r4⟩ := res_all hi hf hc.2 e2
      refine ⟨v :: vs, ?_, by simp [r4.1], fun i hi' => ?_⟩
      · simp only [List.mapM_cons, Sem.run_bind, r1, Result.andThen_ok, r3, Sem.run_pure]
      · cases i with
        | zero => exact r2
        | succ i => have := r4.2 i (by simpa using hi'); simpa using this
    · cases h

theorem res_of (hi : SInv w K) {tm : Array Value} {fr : Frame} (hf : FRel w K tm fr) {mf : Func} {ys : List ResI} (hc : chkResL P mf.results.toList ys = true) {d : DV} (h : resOf K.σ fr ys = some d) :
    ∃ v, (results mf tm).run P w = .ok v w ∧ RepD w K v d := by
  have main : ∀ ds, resAll K.σ fr ys = some ds → ∃ vs : Array Value, vs.toList.length = ds.length ∧ (results mf tm).run P w = .ok (if h : vs.size = 1 then vs[0] else .tuple vs) w ∧ LRep w K vs.toList ds := by
    intro ds hds
    obtain ⟨vs, h1, h2⟩ := res_all hi hf hc hds
    refine ⟨vs.toArray, by simpa using h2.1, ?_, by simpa using h2⟩
    unfold results
    rw [Array.mapM_eq_mapM_toList]
    simp only [map_eq_pure_bind, bind_assoc, pure_bind, Sem.run_bind, Sem.run_pure]
    exact congrArg (fun r => Result.andThen r (fun (a : List Value) w' => Result.ok (if h : a.toArray.size = 1 then a.toArray[0] else Value.tuple a.toArray) w')) h1
  unfold resOf at h
  split at h
  · rename_i d1 hds
    simp only [Option.some.injEq] at h
    subst h
    obtain ⟨vs, hl, hrun, hr⟩ := main _ hds
    have h1 : vs.size = 1 := by simpa using hl
    rw [dif_pos h1] at hrun
    refine ⟨_, hrun, ?_⟩
    have := hr.2 0 (by simp)
    simpa [List.getD, h1] using this
  · rename_i ds hne hds
    simp only [Option.some.injEq] at h
    subst h
    obtain ⟨vs, hl, hrun, hr⟩ := main _ hds
    have h1 : ¬ vs.size = 1 := by
      intro h1
      have : ds.length = 1 := by rw [← hl]; simpa using h1
      match ds, this with
      | [x], _ => exact hne x rfl
    rw [dif_neg h1] at hrun
    exact ⟨_, hrun, .tup vs ds (by simpa using hl) (fun i hi' => by rw [getD_toList]; exact hr.2 i hi')⟩
  · cases h

/-! ### The frame of a call -/
theorem initFrame_get : ∀ (args : List DV) (k t : Nat), (initFrame k args).get t = if k ≤ t then args.getD (t - k) .undef else .undef
  | [], k, t => by simp [initFrame, Frame.get]
  | d :: ds, k, t => by
    simp only [initFrame, Frame.get, initFrame_get ds (k + 1) t]
    by_cases h1 : k = t
    · subst h1; simp
    · by_cases h2 : k ≤ t
      · have h3 : k + 1 ≤ t := by omega
        have h4 : t - k = (t - (k + 1)) + 1 := by omega
        simp [h1, h2, h3, h4]
      · have h3 : ¬ k + 1 ≤ t := by omega
        simp [h1, h2, h3]

theorem init_rel {args : List DV} {vs : Array Value} (h : LRep w K vs.toList args) (n : Nat) : FRel w K (vs ++ Array.replicate n undef) (initFrame 0 args) := by
  intro t
  rw [initFrame_get, if_pos (Nat.zero_le _), Nat.sub_zero]
  by_cases ht : t < args.length
  · have := h.2 t ht
    have hs : t < vs.size := by rw [← Array.length_toList, h.1]; exact ht
    rw [← getD_toList] at this
    have e : (vs ++ Array.replicate n undef).getD t undef = vs.getD t undef := by
      simp [Array.getD_eq_getD_getElem?, Array.getElem?_append_left hs]
    rw [e]; exact this
  · have e : args.getD t .undef = .undef := by rw [List.getD_eq_getElem?_getD, List.getElem?_eq_none (by omega)]; rfl
    rw [e]
    exact .undef _
end

/-- A function of the program, and what the evaluator has for it. -/
structure FnT (P : Program) (RngT : Nat → Operand → Array Tmp → Code → Code → C → Prop) (g : Nat) (fn : Fn) : Prop where
  out : ∃ (mf : Func) (c : Code), P.funcs[g]? = some mf ∧ mf.body = some c ∧ (mf.name == "runtime.NumGoroutine") = false ∧ fn.nargs ≤ mf.ntmps ∧ chkResL P mf.results.toList fn.results = true ∧ TrC P mf.ntmps (RngT mf.ntmps) [c] fn.body

theorem callsIn_round (F : Fence) (l : Option Nat) {n : Nat} {P : Program} {f : FuncId} {args : Array Value} {w : World} {R : Ending → World → Prop} : CallsIn { F with round := l } n P f args w R ↔ CallsIn F n P f args w R := Iff.rfl

theorem fnRuns {P : Program} {g : Nat} {mf : Func} {c : Code} (h1 : P.funcs[g]? = some mf) (h2 : mf.body = some c) (h3 : (mf.name == "runtime.NumGoroutine") = false) : FnRuns P g := by
  intro args w
  unfold callFunc
  rw [Sem.run_bind]
  have : (program).run P w = .ok P w := rfl
  rw [this]
  simp only [Result.andThen, h1]
  rw [if_neg (by rw [h3]; simp), h2]
  rfl

section
variable {GP : (Nat → Option Value) → Prop} {P : Program} {E : Env} {RngT : Nat → Operand → Array Tmp → Code → Code → C → Prop}

structure EnvT (GP : (Nat → Option Value) → Prop) (P : Program) (E : Env) (RngT : Nat → Operand → Array Tmp → Code → Code → C → Prop) : Prop where
  fn : ∀ f fn, E.fn f = some fn → FnT P RngT (f % 65536) fn
  prim : ∀ f g, E.prim f = some g → ∀ as d, g as = some d → PureC GP P f as d
  primR : ∀ f g, E.primR f = some g → ∀ as σ d σ', g as σ = some (d, σ') → RefC GP P f as σ d σ'

/-- Outside a round. -/
def WideN (F : Fence) : Prop := Wide F ∧ F.round = none
/-- No range. -/
def NoRng : Operand → Array Tmp → Code → Code → C → Prop := fun _ _ _ _ _ => False

theorem callP_step (hE : EnvT GP P E RngT) (n : Nat) (hcode : ∀ N x c, TrC P N (RngT N) x c → CodeOK GP WideN P E N x c n) : ∀ f as d, callP E (n + 1) f as = some d → PureC GP P f as d := by
  intro f as d h
  simp only [callP] at h
  split at h
  · rename_i g hg
    exact hE.prim f g hg as d h
  · split at h
    · rename_i fn hfn
      split at h
      · rename_i hlen
        obtain ⟨mf, c, h1, h2, h3, h4, h5, h6⟩ := (hE.fn f fn hfn).out
        refine ⟨fnRuns h1 h2 h3, ?_⟩
        intro F m w X XM G vs hgp hF hX hXM hargs
        have hF' : WideN { F with round := none } := ⟨⟨hF.fn, hF.depth⟩, rfl⟩
        rw [← callsIn_round F none]
        refine callsIn_of_wp_marks h1 h2 (hF.fn _) ?_
        have hsz : vs.size = fn.nargs := by rw [← Array.length_toList, hargs.1, hlen]
        have hS : StR GP w (Ctx.start X XM G) mf.ntmps w.heap.size { tmps := vs ++ Array.replicate (mf.ntmps - vs.size) undef, defers := [] } (initFrame 0 as) := by
          refine ⟨⟨?_, ?_, ?_, ?_, ?_, ?_, ?_⟩, ⟨hX, hXM⟩, init_rel hargs _, by simp; omega, trivial, Nat.le_refl _, hgp⟩
          · intro _ _ _ _ h; cases h
          · intro _ _ _ _ _ h; cases h
          · intro _ _ _ _ _ _ _ h; cases h
          · intro _ _ _ _ _ _ _ h; cases h
          · intro _ _ _ _ _ _ _ h; cases h
          · rintro _ _ _ (⟨_, _, _, h⟩ | ⟨_, _, _, _, h⟩) <;> cases h
          · rintro _ _ _ (⟨_, _, _, h⟩ | ⟨_, _, _, _, h⟩) <;> cases h
        have hnl : ∀ b, ¬ (Ctx.start X XM G).LB b := by
          rintro b ⟨x, (⟨_, _, _, h⟩ | ⟨_, _, _, _, h⟩), _⟩ <;> cases h
        have fin : ∀ out fr σ, (∀ id, out ≠ .exit id) → ev E n fn.body 0 (initFrame 0 as) Store.nil = some (out, fr, σ) → (match resOf σ fr fn.results with | some d => exportD σ d | none => none) = some d →
            c.wpIn { F with round := none } m P (bodyPostM { F with round := none } m P mf fun e w' => ∃ v I bs, e = .returned v ∧ Grown w w' ∧ RepXT w.heap.size w' I v d bs ∧ bs.Nodup ∧ (∀ b o, X b o → I.M b o) ∧ (∀ b, XM b → I.MM b) ∧ I.G = G) { tmps := vs ++ Array.replicate (mf.ntmps - vs.size) undef, defers := [] } w := by
          intro out fr σ hout he hres
          split at hres
          · rename_i d0 hd0
            refine WL_one.1 <| hcode mf.ntmps [c] fn.body h6 _ m _ w (Ctx.start X XM G) w.heap.size _ _ 0 out fr σ hF' hS (fun x hx => hx.elim) he (fun a' w' K' k1 k2 k3 k4 => ?_)
            have post : LeavesInM { F with round := none } m P mf a'.tmps (fun e w' => ∃ v I bs, e = .returned v ∧ Grown w w' ∧ RepXT w.heap.size w' I v d bs ∧ bs.Nodup ∧ (∀ b o, X b o → I.M b o) ∧ (∀ b, XM b → I.MM b) ∧ I.G = G) a'.defers .returning w' := by
              refine leaves_marks _ _ k1.defers (fun w2 hj => ?_)
              have k2 := k2.junk hj (Nat.le_refl _)
              have hi2 := k1.inv.junk hj
              have hgr : Grown w w2 := ⟨k2.size, k2.os, k2.tape, k2.output, fun b hb => k2.same b hb (hnl b)⟩
              obtain ⟨v, r1, r2⟩ := res_of hi2 (k1.frame.junk hj) h5 (d := d0) (by rw [k3]; exact hd0)
              obtain ⟨bs, x1, x2⟩ := export_sound (lo := w.heap.size) hi2 (fun b hb => by
                rcases Nat.lt_or_ge b w.heap.size with h | h
                · exact absurd (k2.live b h hb) (hnl b)
                · exact h) r2 (by rw [k3]; exact hres)
              exact ⟨v, r1, v, K'.imx, bs, rfl, hgr, x1, x2, fun b o h => .inr (by rw [k2.X]; exact h), fun b h => by show K'.XM b; rw [k2.XM]; exact h, k2.keep.G⟩
            cases out with
            | normal => exact post
            | exit id => exact absurd rfl (hout id)
            | ret => exact post
          · cases hres
        split at h
        · cases h
        · rename_i out fr σ hne he
          exact fin out fr σ (fun id e => hne id e) he h
        · cases h
      · cases h
    · cases h

theorem callR_step (hE : EnvT GP P E RngT) (n : Nat) (hcode : ∀ N x c, TrC P N (RngT N) x c → CodeOK GP WideN P E N x c n) : ∀ f as σ d σ', callR E (n + 1) f as σ = some (d, σ') → RefC GP P f as σ d σ' := by
  intro f as σ d σ' h
  simp only [callR] at h
  split at h
  · rename_i g hg
    exact hE.primR f g hg as σ d σ' h
  · split at h
    · rename_i fn hfn
      split at h
      · rename_i hlen
        obtain ⟨mf, c, h1, h2, h3, h4, h5, h6⟩ := (hE.fn f fn hfn).out
        refine ⟨fnRuns h1 h2 h3, ?_⟩
        intro F m w K vs hgp hF hi ho hσ hcnt hargs
        subst hσ
        have hF' : WideN { F with round := none } := ⟨⟨hF.fn, hF.depth⟩, rfl⟩
        rw [← callsIn_round F none]
        refine callsIn_of_wp_marks h1 h2 (hF.fn _) ?_
        have hsz : vs.size = fn.nargs := by rw [← Array.length_toList, hargs.1, hlen]
        have hS0 : StR GP w K mf.ntmps w.heap.size { tmps := vs ++ Array.replicate (mf.ntmps - vs.size) undef, defers := [] } (initFrame 0 as) := ⟨hi, ho, init_rel hargs _, by simp; omega, trivial, Nat.le_refl _, hgp⟩
        obtain ⟨hS, hx⟩ := hS0.count (K.σ.nf + 1) K.σ.c
        obtain ⟨K1, hK1⟩ : ∃ K1, K1 = { K with σ := { K.σ with nf := K.σ.nf + 1, c := K.σ.c } } := ⟨_, rfl⟩
        rw [← hK1] at hS hx
        have hσ1 : K1.σ = { K.σ with nf := K.σ.nf + 1 } := by rw [hK1]
        have hu1 : K1.used = K.used := by rw [hK1]
        have hc1 : K1.σ.c = K.σ.c := by rw [hK1]
        have fin : ∀ out fr σ1, (∀ id, out ≠ .exit id) → ev E n fn.body K.σ.nf (initFrame 0 as) { K.σ with nf := K.σ.nf + 1 } = some (out, fr, σ1) → (resOf σ1 fr fn.results).map (fun d => (d, σ1)) = some (d, σ') →
            c.wpIn { F with round := none } m P (bodyPostM { F with round := none } m P mf fun e w' => ∃ v K', e = .returned v ∧ Ext w K w' K' ∧ SInv w' K' ∧ K'.σ = σ' ∧ RepD w' K' v d ∧ K.σ.c ≤ σ'.c ∧ ∀ x, K'.used x → K.used x ∨ (K.σ.c ≤ x ∧ x < σ'.c)) { tmps := vs ++ Array.replicate (mf.ntmps - vs.size) undef, defers := [] } w := by
          intro out fr σ1 hout he hres
          obtain ⟨d0, hd0, e2⟩ := Option.map_eq_some_iff.1 hres
          simp only [Prod.mk.injEq] at e2
          obtain ⟨rfl, rfl⟩ := e2
          refine WL_one.1 <| hcode mf.ntmps [c] fn.body h6 _ m _ w K1 w.heap.size _ _ K.σ.nf out fr σ1 hF' hS (fun x hx => by rw [hu1] at hx; rw [hc1]; exact hcnt x hx) (by rw [hσ1]; exact he) (fun a' w' K' k1 k2 k3 k4 => ?_)
          have post : LeavesInM { F with round := none } m P mf a'.tmps (fun e w' => ∃ v K', e = .returned v ∧ Ext w K w' K' ∧ SInv w' K' ∧ K'.σ = σ1 ∧ RepD w' K' v d0 ∧ K.σ.c ≤ σ1.c ∧ ∀ x, K'.used x → K.used x ∨ (K.σ.c ≤ x ∧ x < σ1.c)) a'.defers .returning w' := by
            refine leaves_marks _ _ k1.defers (fun w2 hj => ?_)
            have hi2 := k1.inv.junk hj
            obtain ⟨v, r1, r2⟩ := res_of hi2 (k1.frame.junk hj) h5 (d := d0) (by rw [k3]; exact hd0)
            refine ⟨v, r1, v, K', rfl, hx.trans (k2.junk hj (Nat.le_refl _)), hi2, k3, r2, ?_, ?_⟩
            · have := k4.1; rw [hc1, k3] at this; exact this
            · intro x hxu
              have := k4.2 x hxu
              rw [hu1, hc1, k3] at this; exact this
          cases out with
          | normal => exact post
          | exit id => exact absurd rfl (hout id)
          | ret => exact post
        split at h
        · cases h
        · rename_i out fr σ1 hne he
          exact fin out fr σ1 (fun id e => hne id e) he h
        · cases h
      · cases h
    · cases h

/-- THE EVALUATOR IS SOUND: code, pure calls, calls by reference. -/
theorem eval_sound (hE : EnvT GP P E RngT) (hrange : ∀ n N, (∀ m, m < n → ∀ x c, TrC P N NoRng x c → CodeOK GP Wide P E N x c m) → RangeOK GP WideN P E N (RngT N) n) : ∀ n, (∀ N x c, TrC P N NoRng x c → CodeOK GP Wide P E N x c n) ∧ (∀ N x c, TrC P N (RngT N) x c → CodeOK GP WideN P E N x c n) ∧ (∀ f as d, callP E n f as = some d → PureC GP P f as d) ∧ ∀ f as σ d σ', callR E n f as σ = some (d, σ') → RefC GP P f as σ d σ' := by
  intro n
  induction n using Nat.strongRecOn with
  | _ n ih =>
    refine ⟨fun N x c ht => ?_, fun N x c ht => ?_, ?_, ?_⟩
    · exact code_sound (fun F h => h) n (fun m hm => (ih m hm).2.2.1) (fun m hm => (ih m hm).2.2.2) (fun m hm x ps assign body c h => h.elim) (fun m hm x c h => (ih m hm).1 N x c h) x c ht
    · refine code_sound (fun F h => h.1) n (fun m hm => (ih m hm).2.2.1) (fun m hm => (ih m hm).2.2.2) (fun m hm => ?_) (fun m hm x c h => (ih m hm).2.1 N x c h) x c ht
      exact hrange m N (fun k hk x c h => (ih k (by omega)).1 N x c h)
    · cases n with
      | zero => intro f as d h; simp [callP] at h
      | succ n => exact callP_step hE n (ih n (Nat.lt_succ_self _)).2.1
    · cases n with
      | zero => intro f as σ d σ' h; simp [callR] at h
      | succ n => exact callR_step hE n (ih n (Nat.lt_succ_self _)).2.1
end
end Go.Ev
