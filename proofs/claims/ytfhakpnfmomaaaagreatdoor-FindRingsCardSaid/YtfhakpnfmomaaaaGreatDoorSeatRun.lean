/- For every rank the law FindRings runs to its end and answers true, by the evaluator. -/
import Derived.Test.YtfhakpnfmomaaaaGreatDoorSeatRun0
import Derived.Test.YtfhakpnfmomaaaaGreatDoorSeatRun1
import Derived.Test.YtfhakpnfmomaaaaGreatDoorSeatRun2
namespace Go.Proofs
open Go.Ev
theorem rings_calls (r : Int) (W : World) : Calls Tryz.prog 4 #[.int .i64 r] W fun e W' => e = .returned (.bool true) ∧ Go.Ev.Grown W W' := by
  have hb := num_bd r 3 (by omega)
  have key : ∀ c, num r 3 = c → runs [(0, 3, c)] 4 [.sym 0] = true → Calls Tryz.prog 4 #[.int .i64 r] W fun e W' => e = .returned (.bool true) ∧ Go.Ev.Grown W W' := by
    intro c hc hrun
    refine law_calls fns_ok iters_ok (fun i => if i = 0 then some (.int .i64 r) else none) (prims_ok (T := [(0, 3, c)]) (memo_ok _) (fun i b c' hm => ?_)) 3000 4 (by omega) [.sym 0] #[.int .i64 r] true hrun rfl (fun w I hG i hi => ?_) W
    · simp only [List.mem_singleton, Prod.mk.injEq] at hm
      obtain ⟨rfl, rfl, rfl⟩ := hm
      exact ⟨by omega, by omega, r, by simp, hc⟩
    · have : i = 0 := by simpa using hi
      subst this
      exact .sym 0 .i64 r (by rw [hG]; simp)
  rcases (by omega : num r 3 = 0 ∨ num r 3 = 1 ∨ num r 3 = 2) with h | h | h
  · exact key 0 h run0
  · exact key 1 h run1
  · exact key 2 h run2
end Go.Proofs
