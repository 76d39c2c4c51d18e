/- A part of an evaluator of closed runs, and of the proof that what it answers holds of the model. No conditions. -/
import Derived.Test.YtfhakpnfmomaaaaGreatDoorEvCode
import Derived.RangeFuncLeaves
import Derived.RangeFuncNested
namespace Go.Ev
open Go

/-- From a block on, blocks that are neither rows of cells nor maps may have been turned; new ones laid. -/
structure Junk (B : Nat) (w w' : World) : Prop where
  size : w.heap.size ≤ w'.heap.size
  os : w'.os = w.os
  tape : w'.tape = w.tape
  output : w'.output = w.output
  old : ∀ k, k < B → w'.heap[k]? = w.heap[k]?
  cells : ∀ (k : Nat) (cs : Array Value) (e : TypeId) (f : Nat × Nat), w.heap[k]? = some (Obj.cells cs e f) → w'.heap[k]? = some (Obj.cells cs e f)
  map : ∀ (k : Nat) (es : Array MapEntry) (c : Nat), w.heap[k]? = some (Obj.map es c) → w'.heap[k]? = some (Obj.map es c)
theorem Junk.refl (B : Nat) (w : World) : Junk B w w := ⟨Nat.le_refl _, rfl, rfl, rfl, fun _ _ => rfl, fun _ _ _ _ h => h, fun _ _ _ h => h⟩
theorem Junk.trans {B : Nat} {a b c : World} (h : Junk B a b) (k : Junk B b c) : Junk B a c :=
  ⟨Nat.le_trans h.size k.size, k.os.trans h.os, k.tape.trans h.tape, k.output.trans h.output, fun i hi => (k.old i hi).trans (h.old i hi), fun i cs e f hi => k.cells i cs e f (h.cells i cs e f hi), fun i es c hi => k.map i es c (h.map i es c hi)⟩
theorem junk_alloc {B : Nat} {w : World} (hB : B ≤ w.heap.size) (o : Obj) : Junk B w (w.alloc o) :=
  ⟨by rw [size_alloc]; omega, rfl, rfl, rfl, fun k hk => heap_alloc (by omega), fun k cs e f h => by rw [heap_alloc (block_lt h)]; exact h, fun k es c h => by rw [heap_alloc (block_lt h)]; exact h⟩
theorem junk_put {B : Nat} {w : World} {l : Nat} {o o' : Obj} (hB : B ≤ l) (h : w.heap[l]? = some o) (hc : ∀ cs e f, o ≠ .cells cs e f) (hm : ∀ es c, o ≠ .map es c) : Junk B w (w.putObj l o') :=
  ⟨by simp, rfl, rfl, rfl, fun k hk => World.putObj_heap_other (by omega), fun k cs e f hk => by rw [World.putObj_heap_other (fun e' => ?_)]; exact hk; subst e'; rw [h] at hk; exact hc _ _ _ (by simpa using hk), fun k es c hk => by rw [World.putObj_heap_other (fun e' => ?_)]; exact hk; subst e'; rw [h] at hk; exact hm _ _ (by simpa using hk)⟩

theorem Junk.keeps {B : Nat} {w w' : World} (h : Junk B w w') (I : Im) : Keeps w I w' I := by
  refine ⟨fun b o v h1 h2 => ⟨?_, h2⟩, fun r es c h1 h2 => ⟨h.map r es c h1, h2⟩, rfl⟩
  unfold World.cell? at h1 ⊢
  split at h1
  · rename_i cs e f hb
    rw [h.cells _ _ _ _ hb]
    exact h1
  · cases h1
theorem RepD.junk {B : Nat} {w w' : World} {K : Ctx} (hj : Junk B w w') {v : Value} {d : DV} (h : RepD w K v d) : RepD w' K v d := by
  induction h with
  | undef v => exact .undef v
  | p v p h => exact .p v p (h.keep (hj.keeps _))
  | agg vs ds hl _ ih => exact .agg vs ds hl ih
  | tup vs ds hl _ ih => exact .tup vs ds hl ih
  | lin v rows r h hu hr => exact .lin v rows r (h.keep (hj.keeps _)) hu hr
  | own a cap r off len hu hcap hr => exact .own a cap r off len hu hcap hr
  | mp a r row off hu hr => exact .mp a r row off hu hr
  | omap b r hu hr => exact .omap b r hu hr
  | clo f a b da db ha hb _ _ ih1 ih2 => exact .clo f a b da db ha hb ih1 ih2
  | iface t v d _ ih => exact .iface t v d ih
  | ent n r i hu hr => exact .ent n r i hu hr
theorem SInv.junk {B : Nat} {w w' : World} {K : Ctx} (hj : Junk B w w') (hi : SInv w K) : SInv w' K := by
  refine ⟨fun f s st o h => ?_, fun f s st sz n h => ?_, hi.oo, hi.tt, hi.ot, hi.inj, hi.X⟩
  · obtain ⟨h1, h2⟩ := hi.obj _ _ _ _ h
    refine ⟨h1, ?_⟩
    cases o with
    | arr sz rows mu =>
      obtain ⟨b, cs, e, a1, a2, a3, a4, a5, a6⟩ := h2
      exact ⟨b, cs, e, a1, hj.cells _ _ _ _ a2, a3, a4, a5, fun i j hi' hj' => ⟨(a6 i j hi' hj').1.junk hj, (a6 i j hi' hj').2⟩⟩
    | map es mu =>
      obtain ⟨b, mes, clk, a1, a2, a3, a4, a5, a6, a7⟩ := h2
      exact ⟨b, mes, clk, a1, hj.map _ _ _ a2, a3, fun i hi' => (a4 i hi').keep (hj.keeps _), fun i hi' => (a5 i hi').junk hj, a6, a7⟩
  · obtain ⟨h1, h2⟩ := hi.tok _ _ _ _ _ h
    refine ⟨h1, h2.imp id (fun ⟨b, cs, e, a1, a2, a3⟩ => ⟨b, cs, e, a1, hj.cells _ _ _ _ a2, a3⟩)⟩
theorem Ext.junk {B : Nat} {w0 w w' : World} {K0 K : Ctx} (hx : Ext w0 K0 w K) (hj : Junk B w w') (hB : w0.heap.size ≤ B) : Ext w0 K0 w' K := by
  have hs : ∀ b, b < w0.heap.size → w'.heap[b]? = w.heap[b]? := fun b hb => hj.old b (by omega)
  refine ⟨Nat.le_trans hx.size hj.size, hj.os.trans hx.os, hj.tape.trans hx.tape, hj.output.trans hx.output, hx.keep.trans (hj.keeps _), hx.X, hx.XM, hx.used, hx.obj, hx.live, fun b hb hl => (hs b hb).trans (hx.same b hb hl), hx.tok, hx.fresh, hx.freshM⟩
theorem Old.junk {B : Nat} {w w' : World} {K : Ctx} (hj : Junk B w w') (h : Old w K) : Old w' K := ⟨fun b o hb => Nat.lt_of_lt_of_le (h.X b o hb) hj.size, fun b hb => Nat.lt_of_lt_of_le (h.XM b hb) hj.size⟩
theorem FRel.junk {B : Nat} {w w' : World} {K : Ctx} (hj : Junk B w w') {tm : Array Value} {fr : Frame} (h : FRel w K tm fr) : FRel w' K tm fr := fun t => (h t).junk hj

theorem marks_put {B D : Nat} {w : World} {o : Obj} : ∀ {l : List Deferred}, MarksOK B w l → (∀ d ∈ l, d ≠ { target := .collected D, args := #[] }) → MarksOK B (w.putObj D o) l
  | [], _, _ => trivial
  | d :: l, ⟨⟨D', h1, h2, h3, h4⟩, h5⟩, hn => by
    refine ⟨⟨D', h1, h2, ?_, h4⟩, marks_put h5 (fun d hd => hn d (by simp [hd]))⟩
    rw [World.putObj_heap_other]
    · exact h3
    · intro e; subst e; exact hn d (by simp) h1

/-- A function is left: the marks are taken off. -/
theorem leaves_marks {F : Fence} {n : Nat} {P : Program} {fn : Func} {tmps : Array Value} {R : Ending → World → Prop} {B : Nat} : ∀ (l : List Deferred) (w : World), MarksOK B w l → (∀ w', Junk B w w' → ∃ v, (results fn tmps).run P w' = .ok v w' ∧ R (.returned v) w') → LeavesInM F n P fn tmps R l .returning w
  | [], w, _, h => h w (.refl _ _)
  | d :: l, w, ⟨⟨D, h1, h2, h3, h4⟩, h5⟩, h => by
    refine ⟨by simp, .inl ⟨D, w.putObj D (.deferred none), by rw [h1], run_takeDeferred h3, ?_⟩⟩
    exact leaves_marks l _ (marks_put h5 h4) (fun w' hj => h w' ((junk_put h2 h3 (by simp) (by simp)).trans hj))
end Go.Ev
