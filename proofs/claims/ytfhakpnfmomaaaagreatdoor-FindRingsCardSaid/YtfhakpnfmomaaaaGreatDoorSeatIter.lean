/- The closures behind slices.Values and slices.Backward give the elements of their slice in order, each way, till told to stop. -/
import Derived.Test.YtfhakpnfmomaaaaGreatDoorEvRange
import Derived.RangeFuncBox
import Derived.Shelf.Abstract
import Derived.WalkKit
import Derived.Lib.Hide
import Derived.OwnWalkIn
import Derived.TacticsInMore
import Derived.LoopNIn
import Derived.LoopIn
import Derived.Test.YtfhakpnfmomaaaaGreatDoorProg
namespace Go.Proofs
open Go.RowKit Go.Shelf Go.Ev

attribute [local go_sem] Oper.semAt_some

set_option maxRecDepth 100000 in
set_option maxHeartbeats 2000000 in
theorem iter140_at (F : Fence) (n : Nat) (hfn : F.fn 140) (hro : F.round = none) (hn : 1 ≤ n) (l Bs Bo b off len cap : Nat) (vf : Nat → Value) (hmax : len ≤ 1000000) (hlen : 0 < len) (J : Nat → World → Prop)
    (hJ : ∀ k W, J k W → W.cell? ⟨Bs, Bo, none⟩ = some (.slice (some ⟨b, off, none⟩) len cap) ∧ ∀ j, j < len → W.cell? ⟨b, off + j, none⟩ = some (vf j))
    (hY : ∀ k W, J k W → k < len → YieldAt F (n - 1) Tryz.prog l #[vf k] W fun e W' => e = .returned (.bool true) ∧ J (k + 1) W') (W : World) (h0 : J 0 W) :
    CallsIn F n Tryz.prog 140 #[.func (.yield l) #[] #[], .pointer (some ⟨Bs, Bo, none⟩)] W fun e W' => (∃ v, e = .returned v) ∧ J len W' := by
  refine callsIn_of_wp Tryz.func140 rfl hfn ?_ hro
  simp only [Tryz.ntmps140, List.size_toArray, List.length_cons, List.length_nil, Nat.reduceAdd, Nat.reduceSub, Array.replicate_succ, Array.replicate_zero, List.push_toArray, List.append_toArray, List.nil_append, List.cons_append]
  have hBs := (hJ 0 W h0).1
  gi_wp2
  gi_loopw [7] (fun i wr => ∃ k : Nat, k ≤ len ∧ i = .int .i64 k ∧ J k wr) (fun i _ => len - (intOf i).toNat)
  case atStart => exact ⟨0, Nat.zero_le _, rfl, h0⟩
  case round =>
    obtain ⟨k, hk, rfl, hJs⟩ := hrel
    by_cases hlt : k < len
    · obtain ⟨fn, tmps, assign, body, hy, hR⟩ := hY k wr hJs hlt
      have hcx := (hJ k wr hJs).2 k hlt
      gi_wp2
      refine hR.mono ?_
      rintro e W3 ⟨rfl, hJ3⟩
      gi_wp2
      go_roundw
      case rel => exact ⟨k + 1, by omega, by simp, hJ3⟩
      case measure => simp [intOf]; omega
    · obtain rfl : k = len := by omega
      gi_wp2
      go_end0
      exact ⟨⟨_, rfl⟩, hJs⟩

set_option maxRecDepth 100000 in
set_option maxHeartbeats 2000000 in
theorem iter140_nil (F : Fence) (n : Nat) (hfn : F.fn 140) (hro : F.round = none) (l Bs Bo cap : Nat) (ad : Option Addr) (J : Nat → World → Prop) (W : World) (hBs : W.cell? ⟨Bs, Bo, none⟩ = some (.slice ad 0 cap)) (h0 : J 0 W) :
    CallsIn F n Tryz.prog 140 #[.func (.yield l) #[] #[], .pointer (some ⟨Bs, Bo, none⟩)] W fun e W' => (∃ v, e = .returned v) ∧ J 0 W' := by
  refine callsIn_of_wp Tryz.func140 rfl hfn ?_ hro
  simp only [Tryz.ntmps140, List.size_toArray, List.length_cons, List.length_nil, Nat.reduceAdd, Nat.reduceSub, Array.replicate_succ, Array.replicate_zero, List.push_toArray, List.append_toArray, List.nil_append, List.cons_append]
  gi_wp2
  gi_loopw [7] (fun i wr => i = .int .i64 0 ∧ J 0 wr) (fun _ _ => 0)
  case atStart => exact ⟨rfl, h0⟩
  case round =>
    obtain ⟨rfl, hJs⟩ := hrel
    gi_wp2
    go_end0
    exact ⟨⟨_, rfl⟩, hJs⟩

set_option maxRecDepth 100000 in
set_option maxHeartbeats 2000000 in
theorem iter185_at (F : Fence) (n : Nat) (hfn : F.fn 185) (hro : F.round = none) (hn : 1 ≤ n) (l Bs Bo b off len cap : Nat) (vf : Nat → Value) (hmax : len ≤ 1000000) (hlen : 0 < len) (J : Nat → World → Prop)
    (hJ : ∀ k W, J k W → W.cell? ⟨Bs, Bo, none⟩ = some (.slice (some ⟨b, off, none⟩) len cap) ∧ ∀ j, j < len → W.cell? ⟨b, off + j, none⟩ = some (vf j))
    (hY : ∀ k W, J k W → k < len → YieldAt F (n - 1) Tryz.prog l #[.int .i64 ((len - 1 - k : Nat) : Int), vf (len - 1 - k)] W fun e W' => e = .returned (.bool true) ∧ J (k + 1) W') (W : World) (h0 : J 0 W) :
    CallsIn F n Tryz.prog 185 #[.func (.yield l) #[] #[], .pointer (some ⟨Bs, Bo, none⟩)] W fun e W' => (∃ v, e = .returned v) ∧ J len W' := by
  refine callsIn_of_wp Tryz.func185 rfl hfn ?_ hro
  simp only [Tryz.ntmps185, List.size_toArray, List.length_cons, List.length_nil, Nat.reduceAdd, Nat.reduceSub, Array.replicate_succ, Array.replicate_zero, List.push_toArray, List.append_toArray, List.nil_append, List.cons_append]
  have hBs := (hJ 0 W h0).1
  gi_wp2
  clear hBs
  gi_loopw [3] (fun i wr => ∃ k : Nat, k ≤ len ∧ i = .int .i64 ((len : Int) - 1 - k) ∧ J k wr) (fun i _ => (intOf i + 1).toNat)
  case atStart => exact ⟨0, Nat.zero_le _, by simp, h0⟩
  case round =>
    obtain ⟨k, hk, rfl, hJs⟩ := hrel
    by_cases hlt : k < len
    · obtain ⟨j, hj⟩ : ∃ j, j = len - 1 - k := ⟨_, rfl⟩
      have hij : (len : Int) - 1 - k = (j : Int) := by omega
      have hjl : j < len := by omega
      rw [hij]
      obtain ⟨fn, tmps, assign, body, hy, hR⟩ := hY k wr hJs hlt
      rw [← hj] at hy
      have hBs := (hJ k wr hJs).1
      have hcx := (hJ k wr hJs).2 j hjl
      have hk1 : k + 1 ≤ len := hlt
      have Hj := Lib.hid hj
      have Hij := Lib.hid hij
      clear hj hij
      gi_wp2
      refine hR.mono ?_
      rintro e W3 ⟨rfl, hJ3⟩
      gi_wp2
      go_roundw
      case rel => exact ⟨k + 1, hk1, by have := Hij.out; congr 1; try omega, hJ3⟩
      case measure => have := Hij.out; simp [intOf]
    · obtain rfl : k = len := by omega
      have hend : (k : Int) - 1 - k = -1 := by omega
      rw [hend]
      gi_wp2
      go_end0
      exact ⟨⟨_, rfl⟩, hJs⟩

set_option maxRecDepth 100000 in
set_option maxHeartbeats 2000000 in
theorem iter185_nil (F : Fence) (n : Nat) (hfn : F.fn 185) (hro : F.round = none) (l Bs Bo cap : Nat) (ad : Option Addr) (J : Nat → World → Prop) (W : World) (hBs : W.cell? ⟨Bs, Bo, none⟩ = some (.slice ad 0 cap)) (h0 : J 0 W) :
    CallsIn F n Tryz.prog 185 #[.func (.yield l) #[] #[], .pointer (some ⟨Bs, Bo, none⟩)] W fun e W' => (∃ v, e = .returned v) ∧ J 0 W' := by
  refine callsIn_of_wp Tryz.func185 rfl hfn ?_ hro
  simp only [Tryz.ntmps185, List.size_toArray, List.length_cons, List.length_nil, Nat.reduceAdd, Nat.reduceSub, Array.replicate_succ, Array.replicate_zero, List.push_toArray, List.append_toArray, List.nil_append, List.cons_append]
  gi_wp2
  gi_loopw [3] (fun i wr => i = .int .i64 (-1) ∧ J 0 wr) (fun _ _ => 0)
  case atStart => exact ⟨by simp, h0⟩
  case round =>
    obtain ⟨rfl, hJs⟩ := hrel
    gi_wp2
    go_end0
    exact ⟨⟨_, rfl⟩, hJs⟩

theorem iter140 : IterC Tryz.prog 140 false := by
  refine ⟨fnRuns Tryz.func140 rfl (by kernel_rfl), ?_⟩
  intro F n l Bs Bo len cap ad vf J W hF hro hmax hJ hY h0
  by_cases hl : len = 0
  · subst hl
    exact iter140_nil F (n + 2) (hF.fn _) hro l Bs Bo cap ad J W (hJ 0 W h0).1 h0
  · obtain ⟨b, off, rfl, _⟩ := (hJ 0 W h0).2 0 (by omega)
    refine iter140_at F (n + 2) (hF.fn _) hro (by omega) l Bs Bo b off len cap vf hmax (by omega) J (fun k W h => ⟨(hJ k W h).1, fun j hj => ?_⟩) (fun k W h hk => hY k W h hk) W h0
    obtain ⟨b', off', e, h2⟩ := (hJ k W h).2 j hj
    cases e
    exact h2
theorem iter185 : IterC Tryz.prog 185 true := by
  refine ⟨fnRuns Tryz.func185 rfl (by kernel_rfl), ?_⟩
  intro F n l Bs Bo len cap ad vf J W hF hro hmax hJ hY h0
  by_cases hl : len = 0
  · subst hl
    exact iter185_nil F (n + 2) (hF.fn _) hro l Bs Bo cap ad J W (hJ 0 W h0).1 h0
  · obtain ⟨b, off, rfl, _⟩ := (hJ 0 W h0).2 0 (by omega)
    refine iter185_at F (n + 2) (hF.fn _) hro (by omega) l Bs Bo b off len cap vf hmax (by omega) J (fun k W h => ⟨(hJ k W h).1, fun j hj => ?_⟩) (fun k W h hk => hY k W h hk) W h0
    obtain ⟨b', off', e, h2⟩ := (hJ k W h).2 j hj
    cases e
    exact h2
end Go.Proofs
