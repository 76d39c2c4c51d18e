/- A part of an evaluator of closed runs, and of the proof that what it answers holds of the model. No conditions. -/
import Derived.Test.YtfhakpnfmomaaaaGreatDoorEvC
namespace Go.Ev
open Go

theorem frame_set_comm : ∀ (fr : Frame) (t u : Nat) (d e : DV), t ≠ u → (fr.set t d).set u e = (fr.set u e).set t d
  | [], t, u, d, e, h => by
    simp only [Frame.set]
    by_cases h1 : u < t
    · have h2 : ¬ t < u := by omega
      have h3 : ¬ u = t := fun x => h x.symm
      simp [h1, h2, h]
    · have h2 : t < u := by omega
      have h3 : ¬ u = t := fun x => h x.symm
      simp [h1, h2, h3]
  | (k, v) :: r, t, u, d, e, h => by
    have ih := frame_set_comm r t u d e h
    have h' : ¬ u = t := fun x => h x.symm
    by_cases a : t < k <;> by_cases b : u < k <;> by_cases c : t = k <;> by_cases f : u = k <;> by_cases g : t < u <;> by_cases i : u < t <;> first
      | omega
      | (simp [Frame.set, a, b, c, f, g, i, h, h', ih]; done)
      | (subst c; simp [Frame.set, a, b, g, h]; done)
      | (subst f; simp [Frame.set, a, b, i, h']; done)
      | skip

theorem put_comm (σ : Store) {f s f' s' : Nat} (e e' : Option (Nat × Ob)) (h : ¬ (f = f' ∧ s = s')) : (σ.put f s e).put f' s' e' = (σ.put f' s' e').put f s e := by
  simp only [Store.put, Store.mk.injEq, true_and, and_true]
  funext x y
  by_cases h1 : x = f <;> by_cases h2 : x = f' <;> by_cases h3 : y = s <;> by_cases h4 : y = s' <;> simp [h1, h2, h3, h4] <;> (try (subst_vars; simp_all))
theorem putTok_comm (σ : Store) {f s f' s' : Nat} (e e' : Option (Nat × Nat × Nat)) (h : ¬ (f = f' ∧ s = s')) : (σ.putTok f s e).putTok f' s' e' = (σ.putTok f' s' e').putTok f s e := by
  simp only [Store.putTok, Store.mk.injEq, true_and]
  funext x y
  by_cases h1 : x = f <;> by_cases h2 : x = f' <;> by_cases h3 : y = s <;> by_cases h4 : y = s' <;> simp [h1, h2, h3, h4] <;> (try (subst_vars; simp_all))
theorem put_putTok (σ : Store) (f s f' s' : Nat) (e : Option (Nat × Ob)) (e' : Option (Nat × Nat × Nat)) : (σ.put f s e).putTok f' s' e' = (σ.putTok f' s' e').put f s e := rfl

/-- The slots that an operation looks at. -/
def Opd.slots : Opd → List Nat
  | .t n => [n]
  | _ => []
def optSlots : Option Opd → List Nat
  | some x => x.slots
  | none => []
def IR.slots : IR → List Nat
  | .boxI x | .loadP _ _ x | .lenP _ x | .mv x | .box _ x | .load _ _ x | .nilCheck x | .fieldAddr _ x | .field _ _ _ x | .un _ x | .conv _ x | .rune x | .len _ x | .clear _ x | .extract x _ | .mkIface _ x | .assert _ _ _ x => x.slots
  | .pick x y z | .entryStore x y z | .mapUpd _ _ x y z => x.slots ++ y.slots ++ z.slots
  | .alloc .. | .gload .. | .makeMap _ => []
  | .store _ x y | .indexSl _ x y | .indexArr _ _ x y | .indexStr x y | .indexAgg _ _ _ x y | .bin _ x y | .eqv _ _ _ x y | .makeSl _ _ _ x y | .minI x y | .maxI x y | .append _ _ _ x y | .appendO _ _ x y | .mapEntry _ _ _ x y | .lookup _ _ _ _ x y | .delete x y => x.slots ++ y.slots
  | .build _ l => l.flatMap fun p => p.2.2.slots
  | .buildSl _ _ _ _ _ l => l.flatMap fun p => p.2.slots
  | .sliceSl _ x a b c => x.slots ++ optSlots a ++ optSlots b ++ optSlots c
  | .sliceStr x a b => x.slots ++ optSlots a ++ optSlots b
  | .clo _ xs ys => (xs ++ ys).flatMap Opd.slots
  | .call _ _ xs _ => xs.flatMap Opd.slots
  | .callv _ f xs _ => f.slots ++ xs.flatMap Opd.slots

theorem opd_ev_set {fr : Frame} {t : Nat} {d : DV} {x : Opd} (h : t ∉ x.slots) : x.ev (fr.set t d) = x.ev fr := by
  cases x with
  | t n =>
    simp only [Opd.slots, List.mem_singleton] at h
    simp [Opd.ev, frame_get_set, h]
  | c v => rfl
  | fn f => rfl

/-- Two frames that agree on some slots. -/
def Agree (fr fr' : Frame) (l : List Nat) : Prop := ∀ t ∈ l, fr.get t = fr'.get t
theorem Agree.ev {fr fr' : Frame} {x : Opd} (h : Agree fr fr' x.slots) : x.ev fr = x.ev fr' := by
  cases x with
  | t n => exact h n (by simp [Opd.slots])
  | c v => rfl
  | fn f => rfl
theorem Agree.left {fr fr' : Frame} {a b : List Nat} (h : Agree fr fr' (a ++ b)) : Agree fr fr' a := fun t ht => h t (by simp [ht])
theorem Agree.right {fr fr' : Frame} {a b : List Nat} (h : Agree fr fr' (a ++ b)) : Agree fr fr' b := fun t ht => h t (by simp [ht])
theorem Agree.args {fr fr' : Frame} : ∀ {xs : List Opd}, Agree fr fr' (xs.flatMap Opd.slots) → evArgs fr xs = evArgs fr' xs
  | [], _ => rfl
  | x :: xs, h => by
    rw [List.flatMap_cons] at h
    simp only [evArgs, h.left.ev, h.right.args]
theorem Agree.parts {fr fr' : Frame} : ∀ {l : List (Nat × Nat × Opd)}, Agree fr fr' (l.flatMap fun p => p.2.2.slots) → evParts fr l = evParts fr' l
  | [], _ => rfl
  | (a, b, x) :: xs, h => by
    rw [List.flatMap_cons] at h
    simp only [evParts, h.left.ev, h.right.parts]
theorem Agree.parts2 {fr fr' : Frame} : ∀ {l : List (Nat × Opd)}, Agree fr fr' (l.flatMap fun p => p.2.slots) → evParts2 fr l = evParts2 fr' l
  | [], _ => rfl
  | (a, x) :: xs, h => by
    rw [List.flatMap_cons] at h
    simp only [evParts2, h.left.ev, h.right.parts2]
theorem Agree.bound {fr fr' : Frame} {x : Option Opd} (h : Agree fr fr' (optSlots x)) (n : Nat) : boundOf fr n x = boundOf fr' n x := by
  cases x with
  | none => rfl
  | some x => simp only [boundOf]; rw [Agree.ev h]

/-- What an operation comes to hangs on its slots alone. -/
theorem evOp_agree {R : Recs} {F st : Nat} {fr fr' : Frame} {hide : List Nat} {σ : Store} {ir : IR} (h : Agree fr fr' ir.slots) : evOp R F st fr hide σ ir = evOp R F st fr' hide σ ir := by
  cases ir <;> simp only [IR.slots] at h <;> simp only [evOp]
  case build zero l => rw [h.parts]
  case buildSl kind site s zero len l => rw [h.parts2]
  case clo f xs ys =>
    rw [List.flatMap_append] at h
    rw [h.left.args, h.right.args]
  case call m f xs ss => cases m <;> simp only <;> rw [h.args]
  case callv m f xs ss => cases m <;> simp only <;> rw [h.left.ev, h.right.args]
  case sliceSl s x a b c =>
    simp only [sliceRows, h.left.left.left.ev, h.left.left.right.bound, h.left.right.bound]
    cases c with
    | none => (repeat' split) <;> first | rfl | simp_all
    | some c =>
      simp only [optSlots] at h
      have hc : c.ev fr = c.ev fr' := h.right.ev
      generalize x.ev fr' = xv
      cases xv with
      | p v => cases v <;> first | rfl | (simp only []; (repeat' split) <;> first | rfl | simp_all)
      | _ => first | rfl | (simp only []; (repeat' split) <;> first | rfl | simp_all)
  case sliceStr x a b => simp only [h.left.left.ev, h.left.right.bound, h.right.bound]
  all_goals first
    | rfl
    | rw [h.ev]
    | (rw [h.left.ev, h.right.ev])
    | (rw [h.left.left.ev, h.left.right.ev, h.right.ev])
end Go.Ev
