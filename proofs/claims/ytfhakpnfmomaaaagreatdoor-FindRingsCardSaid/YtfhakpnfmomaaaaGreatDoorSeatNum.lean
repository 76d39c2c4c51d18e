/- What the function Number answers, for every argument, is a number below its bound; it draws none of memory. -/
import Derived.Test.YtfhakpnfmomaaaaGreatDoorEvTop
import Derived.WalkKit
import Derived.Lib.Hide
import Derived.TacticsInMore
import Derived.Test.YtfhakpnfmomaaaaGreatDoorProg
namespace Go.Proofs
open Go.Ev
attribute [local go_sem] Oper.semAt_some

/-- rivuletworld.Number. -/
def num (r b : Int) : Int := if r.tmod b < 0 then r.tmod b + b else r.tmod b
theorem neg_lt_tmod (r b : Int) (hb : 0 < b) : -b < r.tmod b := by
  rcases Int.lt_or_le r 0 with h | h
  · have e : r.tmod b = -((-r).tmod b) := by rw [Int.neg_tmod, Int.neg_neg]
    have := Int.tmod_lt_of_pos (-r) hb
    omega
  · have := Int.tmod_nonneg b h
    omega
theorem num_bd (r b : Int) (hb : 0 < b) : 0 ≤ num r b ∧ num r b < b := by
  unfold num
  have h1 := Int.tmod_lt_of_pos r hb
  have h2 := neg_lt_tmod r b hb
  split <;> omega

set_option maxRecDepth 100000 in
set_option maxHeartbeats 2000000 in
theorem number_in (F : Fence) (n : Nat) (hfn : F.fn 8) (hro : F.round = none) (r b : Int) (hb0 : 0 < b) (hb1 : b ≤ 1000) (w : World) :
    CallsIn F n Tryz.prog 8 #[.int .i64 r, .int .i64 b] w fun e w' => e = .returned (.int .i64 (num r b)) ∧ w' = w := by
  have h1 := Int.tmod_lt_of_pos r hb0
  have h2 : -b < r.tmod b := neg_lt_tmod r b hb0
  by_cases hneg : r.tmod b < 0
  · have hnum : num r b = r.tmod b + b := by unfold num; rw [if_pos hneg]
    have Hn := Lib.hid hnum
    clear hnum
    refine callsIn_of_wp Tryz.func8 rfl hfn ?_ hro
    simp only [Tryz.ntmps8, List.size_toArray, List.length_cons, List.length_nil, Nat.reduceAdd, Nat.reduceSub, Array.replicate_succ, Array.replicate_zero, List.push_toArray, List.append_toArray, List.nil_append, List.cons_append]
    gi_wp2
    go_ret
    exact ⟨by rw [Hn.out]; rfl, rfl⟩
  · have hnum : num r b = r.tmod b := by unfold num; rw [if_neg hneg]
    have Hn := Lib.hid hnum
    clear hnum
    refine callsIn_of_wp Tryz.func8 rfl hfn ?_ hro
    simp only [Tryz.ntmps8, List.size_toArray, List.length_cons, List.length_nil, Nat.reduceAdd, Nat.reduceSub, Array.replicate_succ, Array.replicate_zero, List.push_toArray, List.append_toArray, List.nil_append, List.cons_append]
    gi_wp2
    go_ret
    exact ⟨by rw [Hn.out]; rfl, rfl⟩
end Go.Proofs
