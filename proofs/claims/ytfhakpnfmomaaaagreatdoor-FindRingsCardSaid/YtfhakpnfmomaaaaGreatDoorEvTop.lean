/- A part of an evaluator of closed runs, and of the proof that what it answers holds of the model. No conditions. -/
import Derived.Test.YtfhakpnfmomaaaaGreatDoorEvKit
import Derived.Test.YtfhakpnfmomaaaaGreatDoorEvRange
namespace Go.Ev
open Go

def noRng : Operand → Array Tmp → Code → Code → C → Bool := fun _ _ _ _ _ => false
/-- A range, as it is checked. -/
def chkRng (P : Program) (N : Nat) (g : Operand) (ps : Array Tmp) (assign body : Code) (c : C) : Bool :=
  match c with
  | .range x' ts pre bdy => chkX g x' && ts == ps.toList && ts.all (fun t => decide (t < N)) && chkW P N noRng 100000 [assign] pre && chkW P N noRng 100000 [body] bdy
  | _ => false
theorem chkRng_spec {P : Program} (N : Nat) (g : Operand) (ps : Array Tmp) (assign body : Code) (c : C) (h : chkRng P N g ps assign body c = true) : RngT P N g ps assign body c := by
  unfold chkRng at h
  split at h
  · rename_i x' ts pre bdy
    simp only [Bool.and_eq_true, beq_iff_eq] at h
    obtain ⟨⟨⟨⟨h1, rfl⟩, h3⟩, h4⟩, h5⟩ := h
    exact ⟨x', pre, bdy, rfl, h1, fun t ht => by simpa using List.all_eq_true.1 h3 t ht, chkW_spec (fun _ _ _ _ _ h => by cases h) _ _ _ h4, chkW_spec (fun _ _ _ _ _ h => by cases h) _ _ _ h5⟩
  · cases h

/-- Is a function of the program what its text says? -/
def okFn (P : Program) (k : Nat) (fn : Fn) : Bool := chkFn P (chkRng P) (k % 65536) fn

/-- THE WHOLE: a pure call that the evaluator answers is a call of the program's that comes to that answer. -/
theorem eval_top {GP : (Nat → Option Value) → Prop} {P : Program} {fns : FT} {iters : Nat → Option Bool} {prim : Nat → Option (List DV → Option DV)} (hfn : FT.All (fun k fn => okFn P k fn = true) fns) (hit : ∀ gf back, iters gf = some back → IterC P gf back) (hprim : ∀ f g, prim f = some g → ∀ as d, g as = some d → PureC GP P f as d) (n f : Nat) (as : List DV) (d : DV)
    (h : callP ⟨fns.get, iters, prim, fun _ => none⟩ n f as = some d) : PureC GP P f as d := by
  have hE : EnvT GP P ⟨fns.get, iters, prim, fun _ => none⟩ (RngT P) := by
    refine ⟨fun f fn hf => ?_, hprim, fun f g hg => by simp at hg⟩
    exact chkFn_spec (fun N g ps as bd c h => chkRng_spec N g ps as bd c h) (FT.get_spec hfn hf)
  exact (eval_sound hE (fun n N hless => range_ok (E := ⟨fns.get, iters, prim, fun _ => none⟩) hit n hless) n).2.2.1 f as d h

/-- A LAW'S CALL: its arguments by symbols, or scalars; it answers a bool. -/
theorem law_calls {P : Program} {fns : FT} {iters : Nat → Option Bool} {prim : Nat → Option (List DV → Option DV)} (hfn : FT.All (fun k fn => okFn P k fn = true) fns) (hit : ∀ gf back, iters gf = some back → IterC P gf back) (G : Nat → Option Value)
    (hprim : ∀ f g, prim f = some g → ∀ as d, g as = some d → PureC (· = G) P f as d) (n f : Nat) (hf : f < 65536) (as : List PV) (vs : Array Value) (b : Bool)
    (h : (match callP ⟨fns.get, iters, prim, fun _ => none⟩ n f (as.map .p) with | some (.p (.bool c)) => c == b | _ => false) = true)
    (hl : vs.size = as.length) (hr : ∀ (w : World) (I : Im), I.G = G → ∀ i, i < as.length → RepP w I (vs.getD i undef) (as.getD i .nilp)) (w : World) :
    Calls P f vs w fun e w' => e = .returned (.bool b) ∧ Grown w w' := by
  have hd : callP ⟨fns.get, iters, prim, fun _ => none⟩ n f (as.map .p) = some (.p (.bool b)) := by
    revert h
    cases callP ⟨fns.get, iters, prim, fun _ => none⟩ n f (as.map .p) with
    | none => intro h; cases h
    | some d =>
      cases d with
      | p v =>
        cases v with
        | bool c => intro h; simp only [beq_iff_eq] at h; rw [h]
        | _ => intro h; cases h
      | _ => intro h; cases h
  obtain ⟨_, hc⟩ := eval_top hfn hit hprim n f (as.map .p) _ hd
  rw [Nat.mod_eq_of_lt hf] at hc
  have hW : Wide Fence.wide := ⟨fun _ => trivial, rfl⟩
  rw [← callsIn_wide (n := 0)]
  refine (hc Fence.wide 0 w (fun _ _ => False) (fun _ => False) G vs rfl hW (fun _ _ h => h.elim) (fun _ h => h.elim) ⟨by simpa using hl, fun i hi => ?_⟩).mono ?_
  · rw [List.length_map] at hi
    have e : (as.map DV.p).getD i .undef = .p (as.getD i .nilp) := by
      simp only [List.getD_eq_getElem?_getD, List.getElem?_map, List.getElem?_eq_getElem hi, Option.map_some, Option.getD_some]
    rw [e, ← getD_toList]
    exact .p _ _ (hr w _ rfl i hi)
  · rintro e w' ⟨v, I, bs, rfl, hg, hx, _⟩
    refine ⟨?_, hg⟩
    cases hx with
    | v v d bs hv =>
      cases hv with
      | c v d bs hcx =>
        cases hcx with
        | p v pv hp => cases hp with | bool b => rfl
end Go.Ev
