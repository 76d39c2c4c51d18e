/- The first examples of the chapter come to their end and answer true: by the evaluator; what is kept of that run. -/
import Derived.Test.YtfhakpnfmomaaaaGreatDoorSeatFs
import Derived.Test.YtfhakpnfmomaaaaGreatDoorSeatLaw
namespace Go.Proofs
open Go.Ev
/-- The first examples' run. -/
def runFirst : Bool := match callP ⟨fns.get, iters, fun _ => none, fun _ => none⟩ 3000 7 [] with | some (.p (.bool c)) => c == true | _ => false
set_option maxRecDepth 1000000
theorem run_first : runFirst = true := by decide +kernel
theorem first_ok (G : Nat → Option Value) : PureC (· = G) Tryz.prog 7 [] (.p (.bool true)) := by
  have h := run_first
  unfold runFirst at h
  have hd : callP ⟨fns.get, iters, fun _ => none, fun _ => none⟩ 3000 7 [] = some (.p (.bool true)) := by
    revert h
    cases callP ⟨fns.get, iters, fun _ => none, fun _ => none⟩ 3000 7 [] with
    | none => intro h; cases h
    | some d =>
      cases d with
      | p v =>
        cases v with
        | bool c => intro h; simp only [beq_iff_eq] at h; rw [h]
        | _ => intro h; cases h
      | _ => intro h; cases h
  exact eval_top fns_ok iters_ok (fun _ _ h => by cases h) 3000 7 [] (.p (.bool true)) hd
/-- What is kept of that run. -/
def memo (f : Nat) : Option (List DV → Option DV) := bif Nat.beq f 7 then some (fun l => match l with | [] => some (.p (.bool true)) | _ => none) else none
theorem memo_ok (G : Nat → Option Value) : ∀ f g, memo f = some g → ∀ l0 d, g l0 = some d → PureC (· = G) Tryz.prog f l0 d := by
  intro f g hf l0 d hd
  unfold memo at hf
  cases hb : Nat.beq f 7 with
  | false => rw [hb] at hf; cases hf
  | true =>
    rw [hb] at hf
    simp only [cond_true, Option.some.injEq] at hf
    subst hf
    have hf2 : f = 7 := Nat.eq_of_beq_eq_true hb
    subst hf2
    cases l0 with
    | nil => simp only [Option.some.injEq] at hd; subst hd; exact first_ok G
    | cons _ _ => cases hd
/-- What a law's run comes to. -/
def runs (T : List (Nat × Int × Int)) (f : Nat) (l0 : List PV) : Bool := match callP ⟨fns.get, iters, prims T memo, fun _ => none⟩ 3000 f (l0.map .p) with | some (.p (.bool c)) => c == true | _ => false
end Go.Proofs
