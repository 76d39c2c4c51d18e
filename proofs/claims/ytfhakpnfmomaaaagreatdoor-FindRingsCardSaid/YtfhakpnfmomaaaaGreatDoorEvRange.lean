/- A part of an evaluator of closed runs, and of the proof that what it answers holds of the model. No conditions. -/
import Derived.Test.YtfhakpnfmomaaaaGreatDoorEvFn
namespace Go.Ev
open Go

/-! ### Loops over the functions that slices.Values and slices.Backward hand back -/
theorem wide_room {F : Fence} (h : Wide F) (n : Nat) : F.room n := fun d hd => by rw [h.depth] at hd; cases hd
theorem CallsIn.any {F : Fence} (h : Wide F) {n n' : Nat} {P : Program} {f : FuncId} {args : Array Value} {w : World} {R : Ending → World → Prop} (hc : CallsIn F n P f args w R) : CallsIn F n' P f args w R :=
  ⟨hc.1, fun cs _ => hc.2 cs (wide_room h _)⟩

/-- WHAT IS TOLD OF AN ITERATOR over a slice: its closure's number; does it go backward? -/
def IterC (P : Program) (gf : Nat) (back : Bool) : Prop :=
  FnRuns P gf ∧ ∀ (F : Fence) (n l Bs Bo len cap : Nat) (ad : Option Addr) (vf : Nat → Value) (J : Nat → World → Prop) (W : World), Wide F → F.round = none → len ≤ 1000000 →
    (∀ k W, J k W → W.cell? ⟨Bs, Bo, none⟩ = some (.slice ad len cap) ∧ ∀ j, j < len → ∃ b off, ad = some ⟨b, off, none⟩ ∧ W.cell? ⟨b, off + j, none⟩ = some (vf j)) →
    (∀ k W, J k W → k < len → YieldAt F (n + 1) P l (if back then #[.int .i64 ((len - 1 - k : Nat) : Int), vf (len - 1 - k)] else #[vf k]) W fun e W' => e = .returned (.bool true) ∧ J (k + 1) W') → J 0 W →
    CallsIn F (n + 2) P gf #[.func (.yield l) #[] #[], .pointer (some ⟨Bs, Bo, none⟩)] W fun e W' => (∃ v, e = .returned v) ∧ J len W'

section
variable {GP : (Nat → Option Value) → Prop} {P : Program} {E : Env} {N : Nat}

/-- A range, and what the evaluator has for it. -/
def RngT (P : Program) (N : Nat) (g : Operand) (ps : Array Tmp) (assign body : Code) (c : C) : Prop :=
  ∃ x' pre bdy, c = .range x' ps.toList pre bdy ∧ chkX g x' = true ∧ (∀ t ∈ ps.toList, t < N) ∧ TrC P N NoRng [assign] pre ∧ TrC P N NoRng [body] bdy

theorem StR.junk_put {w : World} {K : Ctx} {B : Nat} {a : Act} {fr : Frame} (h : StR GP w K N B a fr) {l : Nat} {o o' : Obj} (hB : B ≤ l) (hl : w.heap[l]? = some o) (hc : ∀ cs e f, o ≠ .cells cs e f) (hm : ∀ es c, o ≠ .map es c) (hd : ∀ x, o ≠ .deferred x) : StR GP (w.putObj l o') K N B a fr := by
  have hj : Junk B w (w.putObj l o') := Go.Ev.junk_put hB hl hc hm
  refine ⟨h.inv.junk hj, h.old.junk hj, h.frame.junk hj, h.size, ?_, Nat.le_trans h.base hj.size, h.gp⟩
  have go : ∀ {ds : List Deferred}, MarksOK B w ds → MarksOK B (w.putObj l o') ds := by
    intro ds
    induction ds with
    | nil => exact fun _ => trivial
    | cons d ds ih =>
      rintro ⟨⟨D, h1, h2, h3, h4⟩, h5⟩
      refine ⟨⟨D, h1, h2, ?_, h4⟩, ih h5⟩
      rw [World.putObj_heap_other]
      · exact h3
      · intro e; subst e; rw [hl] at h3; exact hd _ (by simpa using h3)
  exact go h.defers

theorem setAll_rel {w : World} {K : Ctx} : ∀ (ts : List Nat) (vs : List Value) (ps : List PV) (tm : Array Value) (fr : Frame), vs.length = ps.length → (∀ i, i < ps.length → RepP w K.im (vs.getD i undef) (ps.getD i .nilp)) → (∀ t ∈ ts, t < tm.size) → FRel w K tm fr →
    FRel w K ((ts.zip vs).foldl (fun t (p, v) => t.setIfInBounds p v) tm) (setAll fr ts ps) ∧ ((ts.zip vs).foldl (fun t (p, v) => t.setIfInBounds p v) tm).size = tm.size
  | [], _, _, tm, fr, _, _, _, h => ⟨by simpa [setAll] using h, by simp⟩
  | t :: ts, [], [], tm, fr, _, _, _, h => ⟨by simpa [setAll] using h, by simp⟩
  | t :: ts, [], p :: ps, tm, fr, hl, _, _, _ => by simp at hl
  | t :: ts, v :: vs, [], tm, fr, hl, _, _, _ => by simp at hl
  | t :: ts, v :: vs, p :: ps, tm, fr, hl, hr, ht, h => by
    have htm : t < tm.size := ht t (by simp)
    have h1 : FRel w K (tm.setIfInBounds t v) (fr.set t (ofPV p)) := by
      intro u
      rw [frame_get_set]
      by_cases hu : t = u
      · subst hu
        rw [if_pos rfl]
        have e : (tm.setIfInBounds t v).getD t undef = v := by simp [Array.getD, htm]
        rw [e]
        exact repD_ofPV (hr 0 (by simp))
      · rw [if_neg hu]
        have e : (tm.setIfInBounds t v).getD u undef = tm.getD u undef := by simp only [Array.getD_eq_getD_getElem?, Array.getElem?_setIfInBounds_ne hu]
        rw [e]; exact h u
    obtain ⟨i1, i2⟩ := setAll_rel ts vs ps (tm.setIfInBounds t v) (fr.set t (ofPV p)) (by simpa using hl) (fun i hi => by have := hr (i + 1) (by simpa using hi); simpa using this) (fun u hu => by rw [Array.size_setIfInBounds]; exact ht u (by simp [hu])) h1
    refine ⟨?_, ?_⟩
    · simpa [setAll] using i1
    · simpa using i2

theorem zip_toList (ps : Array Tmp) (vs : Array Value) (tm : Array Value) : (ps.zip vs).foldl (fun t (p, v) => t.setIfInBounds p v) tm = (ps.toList.zip vs.toList).foldl (fun t (p, v) => t.setIfInBounds p v) tm := by
  rw [← Array.foldl_toList, Array.toList_zip]

/-- ROUND BY ROUND: what the loop does at each of its values. -/
theorem range_core {F : Fence} (hF : Wide F) (hro : F.round = none) {m : Nat} {g : Operand} {ps : Array Tmp} {assign body : Code} {Q : Exit → Act → World → Prop} {w : World} {K0 : Ctx} {B : Nat} {a : Act} {fr : Frame} {Fr : Nat} {pre bdy : C} {n : Nat}
    (hS0 : StR GP w K0 N B a fr) (hB0 : CBelow K0) (hps : ∀ t ∈ ps.toList, t < N)
    (hpre : ∀ k, k < n → CodeOK GP Wide P E N [assign] pre k) (hbdy : ∀ k, k < n → CodeOK GP Wide P E N [body] bdy k)
    {gf : Nat} {pa : Addr} (hg : a.eval g = .func (.func gf) #[] #[.pointer (some pa)]) (hent : FnRuns P gf) (vals : List (List PV)) (σ' : Store) (hev : evR E n ps.toList pre bdy Fr fr vals K0.σ = some (.normal, fr, σ'))
    (argsOf : Nat → Array Value) (hargs : ∀ k, k < vals.length → (argsOf k).size = ps.size ∧ (argsOf k).toList.length = (vals.getD k []).length ∧ ∀ i, i < (vals.getD k []).length → RepP w K0.im ((argsOf k).toList.getD i undef) ((vals.getD k []).getD i .nilp))
    (hcall : ∀ (m l : Nat) (J : Nat → World → Prop) (W : World), (∀ k W, J k W → Keeps w K0.im W K0.im) →
      (∀ k W, J k W → k < vals.length → YieldAt F (m + 1) P l (argsOf k) W fun e W' => e = .returned (.bool true) ∧ J (k + 1) W') → J 0 W → CallsIn F (m + 2) P gf #[.func (.yield l) #[] #[], .pointer (some pa)] W fun e W' => (∃ v, e = .returned v) ∧ J vals.length W')
    (hk : ∀ a' w' K', StR GP w' K' N B a' fr → Ext w K0 w' K' → K'.σ = σ' → NewUsed K0 K' → Q .normal a' w') : (Code.rangeFunc g ps assign body).wpIn F m P Q a w := by
  refine wpIn_rangeFunc ?_
  intro fn hfn
  rw [hro]
  obtain ⟨rec, hrec⟩ : ∃ rec : LoopState → Option Code → Loop, rec = fun st pe => { state := st, pending := pe, fn, tmps := a.tmps, params := ps, assign, body, defers := w.heap.size } := ⟨_, rfl⟩
  obtain ⟨W1, hW1⟩ : ∃ W1, (w.alloc (.deferred (some []))).alloc (.loop (rec .ready none)) = W1 := ⟨_, rfl⟩
  have hL1 : W1.heap[w.heap.size + 1]? = some (.loop (rec .ready none)) := by
    rw [← hW1]; have := World.alloc_heap_new (w.alloc (.deferred (some []))) (.loop (rec .ready none)); rwa [World.size_alloc] at this
  have hD1 : W1.heap[w.heap.size]? = some (.deferred (some [])) := by
    rw [← hW1, heap_alloc (by rw [size_alloc]; omega)]; exact heap_alloc_self
  have hj1 : Junk w.heap.size w W1 := by
    rw [← hW1]; exact (junk_alloc (Nat.le_refl _) _).trans (junk_alloc (by rw [size_alloc]; omega) _)
  -- what stands between rounds
  let J : Nat → World → Prop := fun k W => ∃ K, SInv W K ∧ Old W K ∧ FRel W K a.tmps fr ∧ Ext w K0 W K ∧ NewUsed K0 K ∧ (∃ q, q ≤ n ∧ evR E q ps.toList pre bdy Fr fr (vals.drop k) K.σ = some (.normal, fr, σ')) ∧
    W.heap[w.heap.size + 1]? = some (.loop (rec .ready none)) ∧ W.heap[w.heap.size]? = some (.deferred (some [])) ∧ MarksOK B W a.defers
  have marksJ : ∀ {W W' : World} {ds : List Deferred}, (∀ k, k < w.heap.size → W'.heap[k]? = W.heap[k]?) → (∀ (k : Nat) (o : Option (List Deferred)), W.heap[k]? = some (Obj.deferred o) → W'.heap[k]? = some (Obj.deferred o)) → MarksOK B W ds → MarksOK B W' ds := by
    intro W W' ds _ h2
    induction ds with
    | nil => exact fun _ => trivial
    | cons d ds ih => rintro ⟨⟨D, h3, h4, h5, h6⟩, h7⟩; exact ⟨⟨D, h3, h4, h2 _ _ h5, h6⟩, ih h7⟩
  have hJ1 : J 0 W1 := by
    refine ⟨K0, hS0.inv.junk hj1, hS0.old.junk hj1, hS0.frame.junk hj1, (Ext.refl w K0).junk hj1 (Nat.le_refl _), .refl _, ⟨n, Nat.le_refl _, hev⟩, hL1, hD1, ?_⟩
    refine marksJ (W := w) (fun k hk => hj1.old k hk) (fun k o hk => ?_) hS0.defers
    rw [hj1.old k (block_lt hk)]; exact hk
  refine ⟨w.heap.size + 1, [{ target := .collected w.heap.size, args := #[] }], W1, { target := .fn (.func gf) #[.pointer (some pa)], args := #[.func (.yield (w.heap.size + 1)) #[] #[]] }, W1, gf,
    #[.func (.yield (w.heap.size + 1)) #[] #[]] ++ #[.pointer (some pa)], W1, ?_, ?_, ?_, ?_, fun h => (by rw [hF.depth] at h; cases h), ?_⟩
  · rw [← hW1, hrec]; exact run_enterLoop_outer _ _ _ _ _
  · simp only [resolve, hg]
    simp [go_sem]
  · intro f' _; exact hF.fn f'
  · have := hent (#[.func (.yield (w.heap.size + 1)) #[] #[]] ++ #[.pointer (some pa)]) W1
    simpa [invoke, go_sem] using this
  · refine CallsIn.any hF (n := 0 + 2) ((hcall 0 (w.heap.size + 1) J W1 ?_ ?_ hJ1).mono ?_)
    · rintro k W ⟨K, h1, h2, h3, h4, _⟩
      refine ⟨fun b o v hc hm => ⟨(h4.keep.cell b o v hc hm).1, hm⟩, fun r es c hh hm => ⟨(h4.keep.map r es c hh hm).1, hm⟩, rfl⟩
    · -- ONE ROUND
      rintro k W ⟨K, hi, hold, hfr, hx, hnu, ⟨q, hqn, hq⟩, hl, hd, hmk⟩ hklt
      obtain ⟨ha1, ha2, ha3⟩ := hargs k hklt
      have hdrop : vals.drop k = vals.getD k [] :: vals.drop (k + 1) := by
        rw [List.drop_eq_getElem_cons hklt, List.getD_eq_getElem?_getD, List.getElem?_eq_getElem hklt]; rfl
      rw [hdrop] at hq
      cases q with
      | zero => simp [evR] at hq
      | succ q =>
        simp only [evR] at hq
        split at hq
        · rename_i fr1 σ1 e1
          split at hq
          · rename_i fr2 σ2 e2
            have hy := run_yield (P := P) (args := argsOf k) hl (by rw [hrec]; exact ha1)
            rw [hrec] at hy
            refine ⟨fn, _, assign, body, hy, roundIn_of_wpIn hfn ?_⟩
            have hFl : Wide (F.inRound (w.heap.size + 1)) := ⟨hF.fn, hF.depth⟩
            have hset := setAll_rel (w := W) (K := K) ps.toList (argsOf k).toList (vals.getD k []) a.tmps fr ha2 (fun i hi' => (ha3 i hi').keep hx.keep) (fun t ht => by rw [hS0.size]; exact hps t ht) hfr
            have hSa : StR GP W K N w.heap.size { tmps := (ps.zip (argsOf k)).foldl (fun t (p, v) => t.setIfInBounds p v) a.tmps, defers := [] } (setAll fr ps.toList (vals.getD k [])) := by
              rw [zip_toList]
              exact ⟨hi, hold, hset.1, by rw [hset.2]; exact hS0.size, trivial, hx.size, by rw [show K.G = K0.G from hx.keep.G]; exact hS0.gp⟩
            refine WL_one.1 (hpre q (by omega) _ _ _ W K w.heap.size _ _ Fr .normal fr1 σ1 hFl hSa (hnu.below hB0) e1 (fun a1 Wa Ka s1 x1 c1 u1 => ?_))
            -- the round begins
            have hla : Wa.heap[w.heap.size + 1]? = some (.loop (rec .ready none)) := same_other hi x1 hl (by simp) (by simp)
            have hda : Wa.heap[w.heap.size]? = some (.deferred (some [])) := same_other hi x1 hd (by simp) (by simp)
            have hma := hmk.ext hi x1
            have hlta : w.heap.size + 1 < Wa.heap.size := block_lt hla
            refine ⟨_, run_beginRound hla (by rw [hrec]), ?_⟩
            have s2 := s1.junk_put (o' := .loop { rec .ready none with state := .busy }) (Nat.le_succ _) hla (by simp) (by simp) (by simp)
            have hjb : Junk w.heap.size Wa (Wa.putObj (w.heap.size + 1) (.loop { rec .ready none with state := .busy })) := junk_put (Nat.le_succ _) hla (by simp) (by simp)
            have hlb : (Wa.putObj (w.heap.size + 1) (.loop { rec .ready none with state := .busy })).heap[w.heap.size + 1]? = some (.loop { rec .ready none with state := .busy }) := World.putObj_heap_same hlta
            have hdb : (Wa.putObj (w.heap.size + 1) (.loop { rec .ready none with state := .busy })).heap[w.heap.size]? = some (.deferred (some [])) := (World.putObj_heap_other (by omega)).trans hda
            have hx2 := (hx.trans x1).junk hjb (Nat.le_refl _)
            have hmb := marks_loop (o' := .loop { rec .ready none with state := .busy }) hma hla
            revert s2 hjb hlb hdb hx2 hmb
            generalize Wa.putObj (w.heap.size + 1) (.loop { rec .ready none with state := .busy }) = Wb
            intro s2 hjb hlb hdb hx2 hmb
            refine WL_one.1 (hbdy q (by omega) _ _ _ Wb Ka w.heap.size _ _ Fr .normal fr2 σ2 hFl s2 ((hnu.trans u1).below hB0) (by rw [c1]; exact e2) (fun a2 Wc Kc s3 x3 c3 u3 => ?_))
            -- the round ends
            have hlc : Wc.heap[w.heap.size + 1]? = some (.loop { rec .ready none with state := .busy }) := same_other s2.inv x3 hlb (by simp) (by simp)
            have hdc : Wc.heap[w.heap.size]? = some (.deferred (some [])) := same_other s2.inv x3 hdb (by simp) (by simp)
            have hmc := hmb.ext s2.inv x3
            have hltc : w.heap.size + 1 < Wc.heap.size := block_lt hlc
            have her := run_endRound (P := P) none hlc
            refine ⟨_, _, her, rfl, ?_⟩
            have hjc : Junk w.heap.size Wc (Wc.putObj (w.heap.size + 1) (.loop { { rec .ready none with state := .busy } with state := if (none : Option Code).isNone then .ready else .done, pending := none })) := junk_put (Nat.le_succ _) hlc (by simp) (by simp)
            have hfrc : FRel Wb Ka a.tmps fr := (hfr.ext x1).junk hjb
            refine ⟨Kc, s3.inv.junk hjc, s3.old.junk hjc, (hfrc.ext x3).junk hjc, (hx2.trans x3).junk hjc (Nat.le_refl _), (hnu.trans u1).trans u3, ⟨q, by omega, by rw [c3]; exact hq⟩, ?_, (World.putObj_heap_other (by omega)).trans hdc, marks_loop hmc hlc⟩
            rw [World.putObj_heap_same hltc]
            rw [hrec]; rfl
          · cases hq
        · cases hq
    · -- BEHIND THE ITERATOR
      rintro e W2 ⟨⟨v, rfl⟩, K, hi, hold, hfr, hx, hnu, ⟨q, hqn, hq⟩, hl, hd, hmk⟩
      have hσ : K.σ = σ' := by
        rw [List.drop_eq_nil_of_le (Nat.le_refl _)] at hq
        cases q with
        | zero => simp [evR] at hq
        | succ q => simp only [evR, Option.some.injEq, Prod.mk.injEq, true_and] at hq; exact hq
      have hlt : w.heap.size + 1 < W2.heap.size := block_lt hl
      have hend := run_endLoop (P := P) hl (by rw [hrec]; simp)
      refine ⟨none, _, by rw [hrec] at hend; exact hend, ?_⟩
      have hj : Junk w.heap.size W2 (W2.putObj (w.heap.size + 1) (.loop { rec .ready none with state := .exhausted })) := junk_put (Nat.le_succ _) hl (by simp) (by simp)
      have hdd : (W2.putObj (w.heap.size + 1) (.loop { rec .ready none with state := .exhausted })).heap[w.heap.size]? = some (.deferred (some [])) := (World.putObj_heap_other (by omega)).trans hd
      have hmm := marks_loop (o' := .loop { rec .ready none with state := .exhausted }) hmk hl
      have fin := hk { a with defers := { target := .collected w.heap.size, args := #[] } :: a.defers } (W2.putObj (w.heap.size + 1) (.loop { rec .ready none with state := .exhausted })) K ⟨hi.junk hj, hold.junk hj, hfr.junk hj, hS0.size, ⟨⟨w.heap.size, rfl, hS0.base, hdd, fun d' hd' e => ?_⟩, hmm⟩, Nat.le_trans hS0.base (Nat.le_trans hx.size hj.size), by rw [show K.G = K0.G from hx.keep.G]; exact hS0.gp⟩ (hx.junk hj (Nat.le_refl _)) hσ hnu
      · rw [hrec] at fin; exact fin
      · -- the mark is a new one
        have := marks_lt hS0.defers d' hd'
        obtain ⟨D, e1, e2⟩ := this
        rw [e1] at e
        simp only [Deferred.mk.injEq, Target.collected.injEq] at e
        omega
where
  marks_loop {B : Nat} {W : World} {ds : List Deferred} {l : Nat} {r : Loop} {o' : Obj} (h : MarksOK B W ds) (hl : W.heap[l]? = some (.loop r)) : MarksOK B (W.putObj l o') ds := by
    induction ds with
    | nil => trivial
    | cons d ds ih =>
      obtain ⟨⟨D, h1, h2, h3, h4⟩, h5⟩ := h
      refine ⟨⟨D, h1, h2, ?_, h4⟩, ih h5⟩
      rw [World.putObj_heap_other]
      · exact h3
      · intro e; subst e; rw [hl] at h3; cases h3
  marks_lt {B : Nat} {W : World} {ds : List Deferred} (h : MarksOK B W ds) : ∀ d ∈ ds, ∃ D, d = { target := .collected D, args := #[] } ∧ D < W.heap.size := by
    induction ds with
    | nil => intro d hd; cases hd
    | cons d ds ih =>
      obtain ⟨⟨D, h1, h2, h3, h4⟩, h5⟩ := h
      intro d' hd'
      rcases List.mem_cons.1 hd' with rfl | hd'
      · exact ⟨D, h1, block_lt h3⟩
      · exact ih h5 d' hd'
end
end Go.Ev
namespace Go.Ev
open Go
section
variable {GP : (Nat → Option Value) → Prop} {P : Program} {E : Env} {N : Nat}

theorem evR_out {ts : List Nat} {pre bdy : C} {Fr : Nat} {fr : Frame} : ∀ (n : Nat) (l : List (List PV)) (σ : Store) (o : Out) (f : Frame) (s : Store), evR E n ts pre bdy Fr fr l σ = some (o, f, s) → o = .normal ∧ f = fr
  | 0, _, _, _, _, _, h => by simp [evR] at h
  | n + 1, [], σ, o, f, s, h => by
    simp only [evR, Option.some.injEq, Prod.mk.injEq] at h
    exact ⟨h.1.symm, h.2.1.symm⟩
  | n + 1, vs :: l, σ, o, f, s, h => by
    simp only [evR] at h
    split at h
    · split at h
      · exact evR_out n l _ o f s h
      · cases h
    · cases h

theorem backVals_spec : ∀ (rows : List (List PV)) (i : Nat), (backVals i rows).length = rows.length ∧ ∀ k, k < rows.length → (backVals i rows).getD k [] = [.int .i64 ((i + (rows.length - 1 - k) : Nat) : Int), oneV (rows.getD (rows.length - 1 - k) [])]
  | [], i => ⟨rfl, fun k hk => by simp at hk⟩
  | r :: rs, i => by
    obtain ⟨h1, h2⟩ := backVals_spec rs (i + 1)
    refine ⟨by simp [backVals, h1], fun k hk => ?_⟩
    simp only [backVals]
    by_cases hlt : k < rs.length
    · have e1 : (backVals (i + 1) rs ++ [[PV.int .i64 (i : Int), oneV r]]).getD k [] = (backVals (i + 1) rs).getD k [] := by
        simp only [List.getD_eq_getElem?_getD, List.getElem?_append_left (by rw [h1]; exact hlt : k < (backVals (i + 1) rs).length)]
      rw [e1, h2 k hlt]
      have e2 : (r :: rs).length - 1 - k = (rs.length - 1 - k) + 1 := by simp only [List.length_cons]; omega
      have e3 : i + 1 + (rs.length - 1 - k) = i + ((rs.length - 1 - k) + 1) := by omega
      rw [e2, e3]
      rfl
    · have hk' : k = rs.length := by simp only [List.length_cons] at hk; omega
      subst hk'
      have e1 : (backVals (i + 1) rs ++ [[PV.int .i64 (i : Int), oneV r]]).getD rs.length [] = [PV.int .i64 (i : Int), oneV r] := by
        simp only [List.getD_eq_getElem?_getD, List.getElem?_append_right (by rw [h1]; exact Nat.le_refl _ : (backVals (i + 1) rs).length ≤ rs.length), h1, Nat.sub_self]
        rfl
      rw [e1]
      have e2 : (r :: rs).length - 1 - rs.length = 0 := by simp
      rw [e2]
      simp

theorem range_ok (hIter : ∀ gf back, E.iter gf = some back → IterC P gf back) (n : Nat) (hless : ∀ m, m < n → ∀ x c, TrC P N NoRng x c → CodeOK GP Wide P E N x c m) : RangeOK GP WideN P E N (RngT P N) n := by
  rintro g ps assign body c ⟨x', pre, bdy, rfl, hx, hps, hpre, hbdy⟩
  intro F m Q w K B a fr Fr out fr' σ' hF hS hB h hk
  rw [WL_one]
  cases n with
  | zero => simp [ev] at h
  | succ n =>
    simp only [ev] at h
    split at h
    · rename_i l hl
      split at h
      · rename_i hall
        obtain ⟨rfl, rfl⟩ := evR_out n l K.σ out fr' σ' h
        have hrep := chkX_rep hx hS.frame (w := w) (K := K)
        unfold rangeVals at hl
        split at hl
        · rename_i gf v hxe
          rw [hxe] at hrep
          -- the closure
          generalize hev : a.eval g = gv at hrep
          cases hrep with
          | p _ _ hp =>
            cases hp with
            | clo _ va vb _ _ hsa hsb h1 h2 =>
              have hva : va = #[] := Array.eq_empty_of_size_eq_zero hsa
              subst hva
              have hb1 : vb.size = 1 := hsb
              have hvb : vb = #[vb.getD 0 undef] := by
                apply Array.ext
                · simpa using hb1
                · intro i hi1 hi2
                  have : i = 0 := by omega
                  subst this
                  simp [Array.getD, hb1]
              have hip := h2 0 (by simp)
              simp only [List.getD_cons_zero] at hip
              rw [hvb] at hev
              generalize vb.getD 0 undef = v0 at hev hip
              cases hip with
              | ip b0 o0 _ _ f0 hc0 ho0 hr0 =>
                have hc00 := hc0 0 (by simp)
                have hr00 := hr0 0 (by simp)
                simp only [List.getD_cons_zero] at hr00
                simp only [Nat.add_zero] at hc00 hev
                -- the slice
                have go : ∀ (back : Bool) (ad : Option Addr) (len cap : Nat) (vf : Nat → Value), E.iter gf = some back → len = l.length → len ≤ 1000000 → f0 0 = .slice ad len cap →
                    (∀ j, j < len → ∃ b off, ad = some ⟨b, off, none⟩ ∧ w.cell? ⟨b, off + j, none⟩ = some (vf j) ∧ ¬ K.M b (off + j)) →
                    (∀ k, k < len → (l.getD k []).length = (if back then 2 else 1) ∧ ∀ i, i < (l.getD k []).length → RepP w K.im ((if back then [Value.int .i64 ((len - 1 - k : Nat) : Int), vf (len - 1 - k)] else [vf k]).getD i undef) ((l.getD k []).getD i .nilp)) →
                    (Code.rangeFunc g ps assign body).wpIn F m P Q a w := by
                  intro back ad len cap vf hb hlen hmax hsv hcell hval
                  obtain ⟨hent, hit⟩ := hIter gf back hb
                  refine range_core hF.1 hF.2 hS hB hps (fun k hk => hless k (by omega) _ _ hpre) (fun k hk => hless k (by omega) _ _ hbdy) hev hent l σ' h (fun k => if back then #[.int .i64 ((len - 1 - k : Nat) : Int), vf (len - 1 - k)] else #[vf k]) ?_ ?_ hk
                  · intro k hkl
                    obtain ⟨h3, h4⟩ := hval k (by omega)
                    have hts := List.all_eq_true.1 hall (l.getD k []) (by rw [List.getD_eq_getElem?_getD, List.getElem?_eq_getElem hkl]; exact List.getElem_mem _)
                    simp only [beq_iff_eq, Array.length_toList] at hts
                    cases back with
                    | true => exact ⟨by simp only [if_true] at h3 ⊢; rw [← hts, h3]; rfl, by simp only [if_true] at h3 ⊢; rw [h3]; rfl, fun i hi => by have := h4 i hi; simpa using this⟩
                    | false => exact ⟨by simp only [Bool.false_eq_true, if_false] at h3 ⊢; rw [← hts, h3]; rfl, by simp only [Bool.false_eq_true, if_false] at h3 ⊢; rw [h3]; rfl, fun i hi => by have := h4 i hi; simpa using this⟩
                  · intro m' l' J W hJk hY h0
                    rw [← hlen] at hY ⊢
                    exact hit F m' l' b0 o0 len cap ad vf J W hF.1 hF.2 hmax (fun k W' hJ => by
                      have hkp := hJk k W' hJ
                      refine ⟨?_, fun j hj => ?_⟩
                      · rw [← hsv]; exact (hkp.cell _ _ _ hc00.1 hc00.2).1
                      · obtain ⟨b, off, e1, e2, e3⟩ := hcell j hj
                        exact ⟨b, off, e1, (hkp.cell _ _ _ e2 e3).1⟩) hY h0
                split at hl
                · rename_i back rows hb
                  split at hl
                  · rename_i hchk
                    simp only [Bool.and_eq_true, decide_eq_true_eq] at hchk
                    have hw := allLen_spec hchk.1
                    simp only [Option.some.injEq] at hl
                    have hlen : rows.length = l.length := by
                      rw [← hl]; cases back with
                      | true => exact (backVals_spec rows 0).1.symm
                      | false => simp
                    have row1 : ∀ i, i < rows.length → ∃ x, rows.getD i [] = [x] := by
                      intro i hi
                      have := hw (rows.getD i []) (by rw [List.getD_eq_getElem?_getD, List.getElem?_eq_getElem hi]; exact List.getElem_mem _)
                      match rows.getD i [], this with
                      | [x], _ => exact ⟨x, rfl⟩
                    have vals : ∀ (vf : Nat → Value), (∀ j, j < rows.length → RepP w K.im (vf j) ((rows.getD j []).getD 0 .nilp)) → ∀ k, k < rows.length → (l.getD k []).length = (if back then 2 else 1) ∧ ∀ i, i < (l.getD k []).length → RepP w K.im ((if back then [Value.int .i64 ((rows.length - 1 - k : Nat) : Int), vf (rows.length - 1 - k)] else [vf k]).getD i undef) ((l.getD k []).getD i .nilp) := by
                      intro vf hvf k hk
                      cases back with
                      | true =>
                        simp only [if_true] at hl ⊢
                        rw [← hl, (backVals_spec rows 0).2 k hk]
                        refine ⟨rfl, fun i hi => ?_⟩
                        have hlt : rows.length - 1 - k < rows.length := by omega
                        match i, hi with
                        | 0, _ =>
                          simp only [List.getD_cons_zero, Nat.zero_add]
                          exact .int _ _
                        | 1, _ =>
                          simp only [List.getD_cons_succ, List.getD_cons_zero]
                          have := hvf _ hlt
                          obtain ⟨x, hx1⟩ := row1 _ hlt
                          rw [hx1] at this ⊢
                          exact this
                      | false =>
                        simp only [Bool.false_eq_true, if_false] at hl ⊢
                        have e : l.getD k [] = [oneV (rows.getD k [])] := by
                          rw [← hl]
                          simp only [List.getD_eq_getElem?_getD, List.getElem?_map, List.getElem?_eq_getElem hk, Option.map_some, Option.getD_some]
                        rw [e]
                        refine ⟨rfl, fun i hi => ?_⟩
                        match i, hi with
                        | 0, _ =>
                          simp only [List.getD_cons_zero]
                          have := hvf _ hk
                          obtain ⟨x, hx1⟩ := row1 _ hk
                          rw [hx1] at this ⊢
                          exact this
                    generalize hq : PV.sl rows = q at hr00
                    generalize hsv : f0 0 = sv at hr00
                    cases hr00 with
                    | sl0 ad c =>
                      cases hq
                      exact go back (some ad) 0 c (fun _ => undef) hb (by simpa using hlen) (by omega) hsv (fun j hj => by omega) (fun k hk => by omega)
                    | sl b o c s rows' f hs hc ho hr hcap =>
                      cases hq
                      have hs1 : ∀ j, j < rows.length → s = 1 := by
                        intro j hj
                        have hm : rows.getD j [] ∈ rows := by rw [List.getD_eq_getElem?_getD, List.getElem?_eq_getElem hj]; exact List.getElem_mem _
                        exact (hs _ hm).symm.trans (hw _ hm)
                      refine go back (some ⟨b, o, none⟩) rows.length c (fun j => f j 0) hb hlen hchk.2 hsv (fun j hj => ⟨b, o, rfl, ?_⟩) (vals _ (fun j hj => hr j 0 hj (by rw [hs1 j hj]; omega)))
                      have := hc j 0 hj (by rw [hs1 j hj]; omega)
                      rw [hs1 j hj, Nat.mul_one, Nat.add_zero] at this
                      exact this
                    | _ => cases hq
                  · cases hl
                · rename_i back hb
                  simp only [Option.some.injEq] at hl
                  subst hl
                  generalize hsv : f0 0 = sv at hr00
                  cases hr00 with
                  | nilsl => exact go back none 0 0 (fun _ => undef) hb rfl (by omega) hsv (fun j hj => by omega) (fun k hk => by omega)
                · rename_i back hb
                  simp only [Option.some.injEq] at hl
                  subst hl
                  generalize hsv : f0 0 = sv at hr00
                  cases hr00 with
                  | emp ad => exact go back (some ad) 0 0 (fun _ => undef) hb rfl (by omega) hsv (fun j hj => by omega) (fun k hk => by omega)
                · cases hl
        · cases hl
      · cases h
    · cases h
end
end Go.Ev
