/- A part of an evaluator of closed runs, and of the proof that what it answers holds of the model. No conditions. -/
import Derived.Test.YtfhakpnfmomaaaaGreatDoorEvFn
namespace Go.Ev
open Go

/-! ### Which operations may be turned about -/
def strip (σ : Objs) : Objs := fun f s => (σ f s).map fun e => (e.1, e.2.frz)
theorem get_strip (σ : Objs) (r : Ref) : (strip σ).get r = (σ.get r).map Ob.frz := by
  unfold Objs.get strip
  cases σ r.f r.s with
  | none => rfl
  | some e =>
    obtain ⟨st, o⟩ := e
    simp only [Option.map_some]
    split <;> rfl

theorem loadAt_strip (X : Objs) (n : Nat) (ag : Bool) (d : DV) : loadAt (strip X) n ag d = loadAt X n ag d := by
  unfold loadAt
  cases d with
  | mp r row off =>
    simp only [get_strip]
    cases X.get r with
    | none => rfl
    | some o => cases o <;> rfl
  | p v => cases v <;> rfl
  | _ => rfl
theorem lenD_strip (X : Objs) (k : Nat) (d : DV) : lenD (strip X) k d = lenD X k d := by
  unfold lenD
  cases d with
  | omap r =>
    simp only [get_strip]
    cases X.get r with
    | none => rfl
    | some o => cases o <;> rfl
  | p v => cases v <;> rfl
  | _ => rfl

/-- Whose value hangs not on the store. -/
def blind : IR → Bool
  | .mv _ | .pick .. | .nilCheck _ | .fieldAddr .. | .bin .. | .eqv .. | .un .. | .conv .. | .rune _ | .build .. | .field .. | .indexAgg .. | .indexStr .. | .minI .. | .maxI .. | .extract .. | .mkIface .. | .clo .. | .sliceStr .. | .gload .. | .assert .. | .boxI .. | .loadP .. | .lenP .. => true
  | .buildSl .imm .. => true
  | _ => false
/-- Who looks at objects. -/
def look : IR → Bool
  | .load .. | .indexSl .. | .indexArr .. | .len .. | .lookup .. | .sliceSl .. => true
  | _ => false

inductive Upd where
  | no
  | ob (e : Nat × Ob)
  | tk (e : Nat × Nat × Nat)
def Upd.app (F s : Nat) : Upd → Store → Store
  | .no, σ => σ
  | .ob e, σ => σ.put F s (some e)
  | .tk e, σ => σ.putTok F s (some e)
def appU (F : Nat) : List (Nat × Upd) → Store → Store
  | [], σ => σ
  | (s, u) :: l, σ => appU F l (u.app F s σ)

def siteOf : IR → Option Nat
  | .alloc s _ => some s
  | .box s _ => some s
  | .makeMap s => some s
  | .buildSl .own s .. => some s
  | .buildSl .lin s .. => some s
  | .makeSl _ s .. => some s
  | _ => none
def callSites : IR → Option Sites
  | .call .pure _ _ ss => some ss
  | .callv .pure _ _ ss => some ss
  | _ => none
def tokOnly : IR → Bool
  | .append .. => true
  | _ => false

section
variable {R : Recs} {F st : Nat} {fr : Frame} {hide : List Nat}

theorem evOp_blind {ir : IR} (h : blind ir = true) (σ : Store) : evOp R F st fr hide σ ir = ((evOp R F st fr [] Store.nil ir).map (·.1)).map fun d => (d, σ) := by
  cases ir
  case buildSl kind site s zero len parts =>
    cases kind <;> simp only [blind, Bool.false_eq_true] at h
    simp only [evOp]
    repeat' split
    all_goals first
      | rfl
      | (simp only [Option.map_map]; rfl)
  all_goals (simp only [blind, Bool.false_eq_true] at h)
  all_goals
    simp only [evOp]
    repeat' split
  all_goals first
    | rfl
    | (simp only [Option.map_map]; rfl)
    | simp_all

theorem look_reader {ir : IR} (h : look ir = true) : reader ir = true := by cases ir <;> first | rfl | cases h
theorem evOp_look {ir : IR} (h : look ir = true) (σ : Store) : evOp R F st fr hide σ ir = ((evOp R F st fr [] ⟨0, 0, strip (σ.obj.hide F hide), fun _ _ => none⟩ ir).map (·.1)).map fun d => (d, σ) := by
  rw [evOp_reader (look_reader h)]
  congr 1
  generalize σ.obj.hide F hide = X
  cases ir <;> simp only [look, Bool.false_eq_true] at h
  case load n ag a =>
    simp only [evOp, hide_nil, loadAt_strip, Option.map_map]
    rfl
  case indexSl s x i =>
    simp only [evOp, hide_nil]
    cases idx (i.ev fr) with
    | none => rfl
    | some n =>
      simp only
      cases x.ev fr with
      | own r off len =>
        simp only [get_strip]
        cases X.get r with
        | none => rfl
        | some o =>
          cases o with
          | arr sz rows mu => simp only [Option.map_some, Ob.frz]; split <;> rfl
          | map => rfl
      | p v =>
        cases v with
        | sl rows => simp only; cases rows[n]? with
          | none => rfl
          | some row => simp only; split <;> rfl
        | _ => rfl
      | lin rows r => simp only; cases rows[n]? with
        | none => rfl
        | some row => simp only; split <;> rfl
      | _ => rfl
  case indexArr len s x i =>
    simp only [evOp, hide_nil]
    cases idx (i.ev fr) with
    | none => rfl
    | some n =>
      simp only
      by_cases hn : n < len
      · rw [if_pos hn, if_pos hn]
        cases x.ev fr with
        | mp r row o =>
          simp only [get_strip]
          cases X.get r with
          | none => rfl
          | some o => cases o <;> rfl
        | p v => cases v <;> rfl
        | _ => rfl
      · rw [if_neg hn, if_neg hn]
  case len k x =>
    simp only [evOp, hide_nil, lenD_strip, Option.map_map]
    rfl
  case lookup kd ks zero ok m k =>
    simp only [evOp, hide_nil]
    cases keyOf (k.ev fr) with
    | none => rfl
    | some key =>
      simp only
      split
      · cases m.ev fr with
        | omap r =>
          simp only [get_strip]
          cases X.get r with
          | none => rfl
          | some o =>
            cases o with
            | arr => rfl
            | map es mu =>
              simp only [Option.map_some, Ob.frz]
              cases findI kd ks key es with
              | none => rfl
              | some y => cases y with
                | none => rfl
                | some i => simp only [Option.map_map]; rfl
        | p v =>
          cases v with
          | imap es => simp only; cases findI kd ks key es with
            | none => rfl
            | some y => cases y with
              | none => rfl
              | some i => simp only [Option.map_map]; rfl
          | _ => rfl
        | _ => rfl
      · rfl
  case sliceSl s x lo hi mx =>
    simp only [evOp, hide_nil, sliceRows]
    cases x.ev fr with
    | own r off len =>
      simp only [get_strip]
      cases boundOf fr 0 lo with
      | none => rfl
      | some l => cases boundOf fr len hi with
        | none => rfl
        | some h => cases mx with
          | some m => rfl
          | none =>
            cases X.get r with
            | none => rfl
            | some o =>
              cases o with
              | arr sz rows mu => simp only [Option.map_some, Ob.frz]; split <;> rfl
              | map => rfl
    | p v => cases v <;> first | rfl | (simp only []; (repeat' split) <;> first | rfl | simp_all)
    | lin rows r => simp only []; (repeat' split) <;> first | rfl | simp_all
    | _ => rfl

theorem evOp_site {ir : IR} {s : Nat} (h : siteOf ir = some s) : ∃ g : Option (DV × Upd), ∀ σ : Store, evOp R F st fr hide σ ir = g.map fun x => (x.1, x.2.app F s σ) := by
  cases ir <;> simp only [siteOf, reduceCtorEq] at h
  case alloc site zero =>
    simp only [Option.some.injEq] at h; subst h
    exact ⟨some (.mp ⟨F, site, st⟩ 0 0, .ob (st, .arr zero.length [zero.map .p] true)), fun σ => rfl⟩
  case box site x =>
    simp only [Option.some.injEq] at h; subst h
    exact ⟨(cellsOf (x.ev fr)).map fun cs => (.mp ⟨F, site, st⟩ 0 0, .ob (st, .arr cs.length [cs] true)), fun σ => by simp only [evOp, Option.map_map]; rfl⟩
  case makeMap site =>
    simp only [Option.some.injEq] at h; subst h
    exact ⟨some (.omap ⟨F, site, st⟩, .ob (st, .map [] true)), fun σ => rfl⟩
  case buildSl kind site sz zero len parts =>
    cases kind <;> simp only [reduceCtorEq, Option.some.injEq] at h <;> subst h
    · simp only [evOp]
      cases fillRows sz (List.replicate len (zero.map .p)) (evParts2 fr parts) with
      | none => exact ⟨none, fun σ => rfl⟩
      | some rows =>
        simp only
        by_cases h0 : len = 0
        · exact ⟨some (.p .emp, .no), fun σ => by rw [if_pos h0]; rfl⟩
        · by_cases h1 : zero.length = sz
          · exact ⟨(asRows rows).map fun rs => (.lin rs ⟨F, site, st⟩, .tk (st, sz, len)), fun σ => by rw [if_neg h0, if_pos h1, Option.map_map]; rfl⟩
          · exact ⟨none, fun σ => by rw [if_neg h0, if_neg h1]; rfl⟩
    · simp only [evOp]
      cases fillRows sz (List.replicate len (zero.map .p)) (evParts2 fr parts) with
      | none => exact ⟨none, fun σ => rfl⟩
      | some rows =>
        simp only
        by_cases h0 : len = 0
        · exact ⟨some (.p .emp, .no), fun σ => by rw [if_pos h0]; rfl⟩
        · by_cases h1 : zero.length = sz
          · exact ⟨some (.own ⟨F, site, st⟩ 0 len, .ob (st, .arr sz rows true)), fun σ => by rw [if_neg h0, if_pos h1]; rfl⟩
          · exact ⟨none, fun σ => by rw [if_neg h0, if_neg h1]; rfl⟩
  case makeSl kind site zero len cap =>
    simp only [Option.some.injEq] at h; subst h
    simp only [evOp]
    cases idx (len.ev fr) with
    | none => exact ⟨none, fun σ => rfl⟩
    | some l =>
      cases idx (cap.ev fr) with
      | none => exact ⟨none, fun σ => rfl⟩
      | some c =>
        simp only
        by_cases h1 : l ≤ c ∧ c ≤ 1000000
        · cases kind with
          | own =>
            by_cases h2 : l = c
            · exact ⟨some (.own ⟨F, site, st⟩ 0 l, .ob (st, .arr zero.length (List.replicate l (zero.map .p)) true)), fun σ => by rw [if_pos h1]; simp only; rw [if_pos h2]; rfl⟩
            · exact ⟨none, fun σ => by rw [if_pos h1]; simp only; rw [if_neg h2]; rfl⟩
          | imm => exact ⟨some (.lin (List.replicate l zero) ⟨F, site, st⟩, .tk (st, zero.length, l)), fun σ => by rw [if_pos h1]; rfl⟩
          | lin => exact ⟨some (.lin (List.replicate l zero) ⟨F, site, st⟩, .tk (st, zero.length, l)), fun σ => by rw [if_pos h1]; rfl⟩
        · exact ⟨none, fun σ => by rw [if_neg h1]; rfl⟩
end
end Go.Ev
