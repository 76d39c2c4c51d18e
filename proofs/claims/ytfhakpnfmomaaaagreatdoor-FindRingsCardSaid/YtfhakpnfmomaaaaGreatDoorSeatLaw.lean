/- What the evaluator takes as given is so in this program: Number answers what its symbol stands for. -/
import Derived.Test.YtfhakpnfmomaaaaGreatDoorEvTop
import Derived.Test.YtfhakpnfmomaaaaGreatDoorSeatNum
import Derived.Test.YtfhakpnfmomaaaaGreatDoorSeatIter
import Derived.Below
import Derived.ChangeSame
import Derived.ProofKit
namespace Go.Proofs
open Go.Ev

/-- What is told of a law's numbers: by symbol and bound. -/
def findS : List (Nat × Int × Int) → Nat → Int → Option Int
  | [], _, _ => none
  | (i, b, c) :: l, j, x => if i = j ∧ b = x then some c else findS l j x
theorem findS_mem : ∀ {l : List (Nat × Int × Int)} {j : Nat} {x c : Int}, findS l j x = some c → (j, x, c) ∈ l
  | [], _, _, _, h => by cases h
  | (i, b, d) :: l, j, x, c, h => by
    simp only [findS] at h
    split at h
    · rename_i hc
      simp only [Option.some.injEq] at h
      rw [hc.1, hc.2, h]; simp
    · exact List.mem_cons_of_mem _ (findS_mem h)
/-- Number, where a law's own numbers go to it. -/
def numSym (T : List (Nat × Int × Int)) (args : List DV) : Option DV :=
  match args with
  | [.p (.sym i), .p (.int .i64 b)] => (findS T i b).map fun c => .p (.int .i64 c)
  | _ => none
/-- What is told of functions: Number, on symbols; and what M has of others. -/
def prims (T : List (Nat × Int × Int)) (M : Nat → Option (List DV → Option DV)) (f : Nat) : Option (List DV → Option DV) := bif Nat.beq f 131080 then some (numSym T) else M f

theorem prims_ok {G : Nat → Option Value} {T : List (Nat × Int × Int)} {M : Nat → Option (List DV → Option DV)} (hM : ∀ f g, M f = some g → ∀ l0 d, g l0 = some d → PureC (· = G) Tryz.prog f l0 d) (hT : ∀ i b c, (i, b, c) ∈ T → 0 < b ∧ b ≤ 1000 ∧ ∃ r, G i = some (.int .i64 r) ∧ num r b = c) :
    ∀ f g, prims T M f = some g → ∀ l0 d, g l0 = some d → PureC (· = G) Tryz.prog f l0 d := by
  intro f g hf l0 d hd
  unfold prims at hf
  cases hb : Nat.beq f 131080 with
  | false => rw [hb] at hf; exact hM f g hf l0 d hd
  | true =>
    rw [hb] at hf
    simp only [cond_true, Option.some.injEq] at hf
    subst hf
    have hf2 : f = 131080 := Nat.eq_of_beq_eq_true hb
    subst hf2
    unfold numSym at hd
    split at hd
    · rename_i i b
      obtain ⟨c, h1, rfl⟩ := Option.map_eq_some_iff.1 hd
      obtain ⟨h2, h3, r, h4, h5⟩ := hT i b c (findS_mem h1)
      refine ⟨fnRuns Tryz.func8 rfl (by kernel_rfl), ?_⟩
      intro F n w X XM G' vs hG hF hX hXM hargs
      subst hG
      have hv : vs = #[.int .i64 r, .int .i64 b] := by
        obtain ⟨hl, hr⟩ := hargs
        have a0 := hr 0 (by simp)
        have a1 := hr 1 (by simp)
        have hs : vs.size = 2 := by simpa using hl
        have e0 : vs.toList.getD 0 undef = .int .i64 r := by
          simp only [List.getD_cons_zero] at a0
          generalize vs.toList.getD 0 undef = v at a0
          cases a0 with
          | p _ _ hp =>
            cases hp with
            | sym _ k m hg =>
              have hg' : G' i = some (.int k m) := hg
              rw [h4] at hg'
              simpa using hg'.symm
        have e1 : vs.toList.getD 1 undef = .int .i64 b := by
          simp only [List.getD_cons_succ, List.getD_cons_zero] at a1
          exact a1.int_inv
        apply Array.ext
        · simpa using hs
        · intro k k1 k2
          match k, k1, k2 with
          | 0, k1, _ => rw [← getD_toList] at e0; simpa [Array.getD, k1] using e0
          | 1, k1, _ => rw [← getD_toList] at e1; simpa [Array.getD, k1] using e1
      subst hv
      have hF0 : Wide { F with round := none } := ⟨hF.fn, hF.depth⟩
      rw [← callsIn_round F none]
      refine (number_in { F with round := none } n (hF.fn _) rfl r b h2 h3 w).mono ?_
      rintro e w' ⟨rfl, rfl⟩
      refine ⟨.int .i64 (num r b), ⟨X, XM, G'⟩, [], rfl, ⟨Nat.le_refl _, rfl, rfl, rfl, fun _ _ => rfl⟩, ?_, List.nodup_nil, fun _ _ h => h, fun _ h => h, rfl⟩
      rw [h5]
      exact .v _ _ _ (.c _ _ _ (.p _ _ (.int _ _)))
    · cases hd

theorem below_of_grown {w w' : World} (h : Ev.Grown w w') : RowKit.Below w.heap.size w w' := ⟨h.os, h.tape, h.output, h.size, h.heap⟩

section
open Go.RowKit Go.WideShapes Go.ChangeShapes
variable {H : Type} {enc : TypeId × Value → H} {P : Program}
theorem post_of_below {f : Func} {s : ChangeSpec} {apart fresh handsOn again : Bool} {W W' : World} {args : Array Value} {v : Value} {ds gs : List (DataW H)} {before pa pv : List MemPlace}
    (hW : DataW.Whole enc P f.params.toList s.vars apart W args.toList ds gs before)
    (hres : ∀ (b : Nat) (sp : Nat → Bool) (hd : Bool), DataW.TrodAll enc P W' b sp hd f.resultTypes.toList (v.resultList f.resultTypes.size) (s.fn H (ds ++ gs)).results [])
    (hargs : ∀ sp : Nat → Bool, (∀ p ∈ before, sp p.block = true) → DataW.TrodAll enc P W' 0 sp true f.params.toList args.toList (s.fn H (ds ++ gs)).args pa)
    (hvars : ∀ sp : Nat → Bool, (∀ p ∈ before, sp p.block = true) → DataW.TrodVars enc P W' sp s.vars (s.fn H (ds ++ gs)).vars pv)
    (hps : before = pa ++ pv) (hb : Below W.heap.size W W')
    (hok : ∀ (j : Nat) (t : TypeId) (r : Value), f.resultTypes[j]? = some t → (v.resultList f.resultTypes.size)[j]? = some r → Value.okWide P W' .any 0 t r) :
    s.post enc P f apart fresh handsOn again W args v W' := by
  have hlt : ∀ p ∈ before, p.block < W.heap.size := fun p hp => hW.lt p hp
  have hold : ∀ p ∈ before, (fun b => decide (b < W.heap.size)) p.block = true := fun p hp => by simpa using hlt p hp
  refine ⟨ds, gs, before, [], pa, pv, hW, hres _ _ _, hargs _ hold, hvars _ hold, World.keptBut_mono (fun p hp => ⟨hp, ?_⟩) (hb.frame (· ∈ before)), fun _ => ?_⟩
  · rw [hps, List.mem_append] at hp
    exact Or.inr hp
  · obtain ⟨_, _, _, _, _, hz, hn⟩ := hW
    refine ⟨hok, _, _, ([] ++ pa) ++ pv, ⟨[] ++ pa, pv, trodAll_append (hargs _ (fun _ _ => rfl)) (hres _ _ _), hvars _ (fun _ _ => rfl), rfl, ?_, ?_⟩, ?_⟩
    · intro b off hp
      have hin : MemPlace.cell b off ∈ before := by rw [hps]; simpa using hp
      rw [hb.frozen (hlt _ hin)]
      exact hz b off hin
    · intro ha
      have := hn ha
      rw [hps] at this
      simpa using this
    · intro p hp _
      rw [hps]
      simpa using hp
end
end Go.Proofs
