/- A part of an evaluator of closed runs, and of the proof that what it answers holds of the model. No conditions. -/
import Derived.Test.YtfhakpnfmomaaaaGreatDoorEvTurn6
namespace Go.Ev
open Go

/-- Code, as it is checked. -/
def chkW (P : Program) (N : Nat) (rng : Operand → Array Tmp → Code → Code → C → Bool) : Nat → List Code → C → Bool
  | 0, _, _ => false
  | n + 1, xs, c => match c with
    | .kill a _ _ => chkW P N rng n xs a
    | .seq (.kill .skip _ _) a => chkW P N rng n xs a
    | c => match xs with
      | [] => match c with | .skip => true | _ => false
      | .skip :: r => chkW P N rng n r c
      | .label _ :: r => chkW P N rng n r c
      | .seq x y :: r => chkW P N rng n (x :: y :: r) c
      | x :: r => match c with
        | .seq a b => chkW P N rng n [x] a && chkW P N rng n r b
        | c => r.all triv && match x, c with
          | .region _ ops d, .ops l => chkReg P N ops d l
          | .cond k x y, .cond k' a b => chkX k k' && chkW P N rng n [x] a && chkW P N rng n [y] b
          | .block id x, .block id' a => id == id' && chkW P N rng n [x] a
          | .loop x, .loop a => chkW P N rng n [x] a
          | .exit id, .exit id' => id == id'
          | .ret, .ret => true
          | .rangeFunc g ps as bd, c => rng g ps as bd c
          | _, _ => false

theorem chkW_spec {P : Program} {N : Nat} {rng : Operand → Array Tmp → Code → Code → C → Bool} {RngT : Operand → Array Tmp → Code → Code → C → Prop} (hr : ∀ g ps as bd c, rng g ps as bd c = true → RngT g ps as bd c) :
    ∀ (n : Nat) (xs : List Code) (c : C), chkW P N rng n xs c = true → TrC P N RngT xs c
  | 0, _, _, h => by simp [chkW] at h
  | n + 1, xs, c, h => by
    have ih := chkW_spec (P := P) (N := N) hr n
    unfold chkW at h
    split at h
    · exact .kill _ _ _ _ (ih _ _ h)
    · exact .pre _ _ _ _ (ih _ _ h)
    · split at h
      · split at h
        · exact .nil
        · cases h
      · exact .skip _ _ (ih _ _ h)
      · exact .label _ _ _ (ih _ _ h)
      · exact .unseq _ _ _ _ (ih _ _ h)
      · split at h
        · simp only [Bool.and_eq_true] at h
          exact .cons _ _ _ _ (ih _ _ h.1) (ih _ _ h.2)
        · simp only [Bool.and_eq_true] at h
          obtain ⟨ht, h⟩ := h
          refine .last _ _ _ ?_ (fun y hy => List.all_eq_true.1 ht y hy)
          split at h
          · exact .region _ _ _ _ (chkReg_spec h)
          · simp only [Bool.and_eq_true] at h
            exact .cond _ _ _ _ _ _ h.1.1 (ih _ _ h.1.2) (ih _ _ h.2)
          · simp only [Bool.and_eq_true, beq_iff_eq] at h
            rw [← h.1]
            exact .block _ _ _ (ih _ _ h.2)
          · exact .loop _ _ (ih _ _ h)
          · simp only [beq_iff_eq] at h
            rw [← h]
            exact .exit _
          · exact .ret
          · exact .range _ _ _ _ _ (hr _ _ _ _ _ h)
          · cases h

/-- A function, as it is checked. -/
def chkFn (P : Program) (rng : Nat → Operand → Array Tmp → Code → Code → C → Bool) (g : Nat) (fn : Fn) : Bool :=
  match P.funcs[g]? with
  | some mf => match mf.body with
    | some c => !(mf.name == "runtime.NumGoroutine") && decide (fn.nargs ≤ mf.ntmps) && chkResL P mf.results.toList fn.results && chkW P mf.ntmps (rng mf.ntmps) 100000 [c] fn.body
    | none => false
  | none => false
theorem chkFn_spec {P : Program} {rng : Nat → Operand → Array Tmp → Code → Code → C → Bool} {RngT : Nat → Operand → Array Tmp → Code → Code → C → Prop} (hr : ∀ N g ps as bd c, rng N g ps as bd c = true → RngT N g ps as bd c) {g : Nat} {fn : Fn} (h : chkFn P rng g fn = true) : FnT P RngT g fn := by
  unfold chkFn at h
  split at h
  · rename_i mf h1
    split at h
    · rename_i c h2
      simp only [Bool.and_eq_true, Bool.not_eq_true', decide_eq_true_eq] at h
      obtain ⟨⟨⟨h3, h4⟩, h5⟩, h6⟩ := h
      exact ⟨mf, c, h1, h2, h3, h4, h5, chkW_spec (hr mf.ntmps) _ _ _ h6⟩
    · cases h
  · cases h

/-- Functions by their numbers. -/
inductive FT where
  | e
  | n (l : FT) (k : Nat) (f : Fn) (r : FT)
def FT.get : FT → Nat → Option Fn
  | .e, _ => none
  | .n l k f r, x => bif Nat.beq x k then some f else bif Nat.ble x k then l.get x else r.get x
inductive FT.All (p : Nat → Fn → Prop) : FT → Prop
  | e : FT.All p .e
  | n (l : FT) (k : Nat) (f : Fn) (r : FT) (h : p k f) (hl : FT.All p l) (hr : FT.All p r) : FT.All p (.n l k f r)
theorem FT.get_spec {p : Nat → Fn → Prop} {t : FT} (h : FT.All p t) {x : Nat} {f : Fn} (hg : t.get x = some f) : p x f := by
  induction h with
  | e => cases hg
  | n l k f' r hp _ _ ih1 ih2 =>
    simp only [FT.get] at hg
    cases hb : Nat.beq x k with
    | true =>
      rw [hb] at hg
      simp only [cond_true, Option.some.injEq] at hg
      subst hg
      have : x = k := Nat.eq_of_beq_eq_true hb
      rw [this]; exact hp
    | false =>
      rw [hb] at hg
      simp only [cond_false] at hg
      cases hl : Nat.ble x k with
      | true => rw [hl] at hg; exact ih1 hg
      | false => rw [hl] at hg; exact ih2 hg
end Go.Ev
