/- A part of an evaluator of closed runs, and of the proof that what it answers holds of the model. No conditions. -/
import Derived.Test.YtfhakpnfmomaaaaGreatDoorEvSnd2
namespace Go.Ev
open Go

def chkMvS (P : Program) (o : Oper) (x' : Opd) : Bool :=
  match o.op with
  | .convert s t x => chkX x x' && (match P.underlying s, P.underlying t with | some .string, some .string => true | _, _ => false)
  | _ => false
/-- An integer as a string: of one byte. -/
def chkRune (P : Program) (o : Oper) (x' : Opd) : Bool :=
  match o.op with
  | .convert s t x => chkX x x' && (P.underlying s).isSome && (match P.underlying t with | some .string => true | _ => false)
  | _ => false
/-- Is a value of strings alone? Else a conversion of strings could be another one. -/
def chkIR (P : Program) (o : Oper) : IR → Bool
  | .mv x => chkMv o x
  | .pick c x y => chkPick o c x y
  | .alloc _ zero => chkAlloc P o zero
  | .box _ x => chkBox o x
  | .load n ag x => chkLoad P o n ag x
  | .store n x y => chkStore P o n x y
  | .nilCheck x => chkNil o x
  | .fieldAddr off x => chkFieldAddr P o off x
  | .indexSl s x y => chkIndexSl P o s x y
  | .indexArr len s x y => chkIndexArr P o len s x y
  | .indexStr x y => chkIndexStr P o x y
  | .indexAgg len s ag x y => chkIndexAgg P o len s ag x y
  | .field off n ag x => chkField P o off n ag x
  | .bin op x y => chkBin o op x y
  | .eqv neg kd ks x y => chkEqv P o neg kd ks x y
  | .un op x => chkUn o op x
  | .conv k x => chkConv P o k x
  | .build zero parts => chkBuild P o zero parts
  | .buildSl _ _ s zero len parts => chkBuildSl P o s zero len parts
  | .makeSl _ _ zero x y => chkMakeSl P o zero x y
  | .sliceSl s x lo hi mx => chkSliceSl P o s x lo hi mx
  | .sliceStr x lo hi => chkSliceStr P o x lo hi
  | .len k x => chkLen P o k x
  | .minI x y => chkMin o .min x y
  | .maxI x y => chkMin o .max x y
  | .append _ s _ x y => chkAppend P o s x y
  | .appendO _ s x y => chkAppend P o s x y
  | .clear zero x => chkClear P o zero x
  | .mapEntry kd ks zero m k => chkMapEntry P o kd ks zero m k
  | .entryStore m s x => chkEntryStore o m s x
  | .makeMap _ => chkMakeMap o
  | .lookup kd ks zero ok m k => chkLookup P o kd ks zero ok m k
  | .mapUpd kd ks m k x => chkMapUpd P o kd ks m k x
  | .extract x i => chkExtract o x i
  | .mkIface t x => chkMkIface P o t x
  | .clo f xs ys => chkClo o f xs ys
  | .boxI x => chkBox o x
  | .loadP n ag x => chkLoad P o n ag x
  | .lenP k x => chkLen P o k x
  | .rune x => chkRune P o x
  | .gload .. | .delete .. | .assert .. | .call .. | .callv .. => false

section
variable {P : Program} {o : Oper} {a : Act} {w : World} {K : Ctx} {fr : Frame} {st F : Nat} {hide : List Nat} {R : Recs} {d : DV} {σ' : Store}

/-- AN OPERATION THAT IS NO CALL: what the evaluator answers is what the model comes to. -/
theorem encode_small {n : Nat} (hn : n < 128) : (Utf8.encode (Int.ofNat n)).data.toList = [n.toUInt8] := by
  have h : ∀ n, n < 128 → (Utf8.encode (Int.ofNat n)).data.toList = [n.toUInt8] := by decide +kernel
  exact h n hn
theorem run_und {t : TypeId} {ty : TypeDesc} (h : P.underlying t = some ty) (w : World) : (underlying t).run P w = .ok ty w := by simp [underlying, h]
theorem op_sound (hi : SInv w K) (hold : Old w K) (hf : FRel w K a.tmps fr) (hst : ¬ K.used st) {ir : IR} (hc : chkIR P o ir = true) (h : evOp R F st fr hide K.σ ir = some (d, σ')) : Runs P o a w K st d σ' := by
  cases ir with
  | mv x => exact snd_mv hi hf hc h
  | pick c x y => exact snd_pick hi hf hc h
  | alloc site zero => exact snd_alloc hi hold hst hc h
  | box site x => exact snd_box hi hold hf hst hc h
  | gload g v => cases hc
  | load n ag x => exact snd_load hi hf hc h
  | store n x y => exact snd_store hi hf hc h
  | nilCheck x => exact snd_nil hi hf hc h
  | fieldAddr off x => exact snd_fieldAddr hi hf hc h
  | indexSl s x y => exact snd_indexSl hi hf hc h
  | indexArr len s x y => exact snd_indexArr hi hf hc h
  | indexStr x y => exact snd_indexStr hi hf hc h
  | indexAgg len s ag x y => exact snd_indexAgg hi hf hc h
  | field off n ag x => exact snd_field hi hf hc h
  | bin op x y => exact snd_bin hi hf hc h
  | eqv neg kd ks x y => exact snd_eqv hi hf hc h
  | un op x => exact snd_un hi hf hc h
  | conv k x => exact snd_conv hi hf hc h
  | rune x =>
    simp only [evOp] at h
    change chkRune P o x = true at hc
    unfold chkRune at hc
    split at hc
    · rename_i s t y ho
      simp only [Bool.and_eq_true] at hc
      obtain ⟨⟨h1, h2⟩, h3⟩ := hc
      split at h3
      · rename_i hu
        split at h
        · rename_i k n hx
          split at h
          · rename_i hn
            simp only [Option.some.injEq, Prod.mk.injEq] at h
            obtain ⟨rfl, rfl⟩ := h
            have hr := chkX_rep h1 hf
            rw [hx] at hr
            have hv := hr.int_inv
            obtain ⟨ds, hs⟩ := Option.isSome_iff_exists.1 h2
            refine .same hi (v := .string (Utf8.encode (Int.ofNat n))) ?_ (.p _ _ (.str _ _ (encode_small hn)))
            simp only [execOp, ho, hv, convert]
            rw [Sem.run_bind, Sem.run_bind, run_und hs]
            simp only [Result.andThen, Sem.run_bind, run_und hu]
            cases ds <;> rfl
          · cases h
        · cases h
      · cases h3
    · cases hc
  | boxI x =>
    simp only [evOp] at h
    obtain ⟨ps, h1, h2⟩ := Option.map_eq_some_iff.1 h
    simp only [Prod.mk.injEq] at h2
    obtain ⟨rfl, rfl⟩ := h2
    obtain ⟨cs, h3, h4⟩ := Option.bind_eq_some_iff.1 h1
    change chkBox o x = true at hc
    unfold chkBox at hc
    split at hc
    · rename_i t y ho
      obtain ⟨c1, c2, c3⟩ := repD_cells (chkX_rep hc hf) h3
      obtain ⟨l1, l2⟩ := asPs_spec h4
      obtain ⟨g1, g2⟩ := grown_alloc hi (.cells (a.eval y).cells t)
      refine ⟨.pointer (some ⟨w.heap.size, 0, none⟩), _, K, .inl (by simp [execOp, ho, Instr.box, newVar, newRow]), g1, g2, rfl, .p _ _ ?_, fun x hx => .inl hx⟩
      refine .ip w.heap.size 0 0 ps (fun j => (a.eval y).cells.getD j undef) (fun j hj => ⟨?_, ?_⟩) (fun j hj => c3 _ (getD_mem (by omega))) (fun j hj => (l2 w K j hj _ (c2 j (by omega))).keep g1.keep)
      · rw [Nat.zero_add]
        exact cell_heap heap_alloc_self (by omega)
      · intro hm
        have h5 : w.heap.size < w.heap.size := by
          rcases hm with ⟨f, s, st, sz, rows, h1, h2⟩ | ⟨f, s, st, sz, n, h1, h2, _⟩ | h1
          · exact hi.live_lt (.inl ⟨_, _, _, h1⟩) h2
          · exact hi.live_lt (.inr ⟨_, _, _, _, h1⟩) h2
          · exact hold.X _ _ h1
        omega
    · cases hc
  | loadP n ag x =>
    simp only [evOp] at h
    obtain ⟨d', h1, h2⟩ := Option.map_eq_some_iff.1 h
    simp only [Prod.mk.injEq] at h2
    obtain ⟨rfl, rfl⟩ := h2
    change chkLoad P o n ag x = true at hc
    unfold chkLoad at hc
    split at hc
    · rename_i t y ho
      simp only [Bool.and_eq_true, beq_iff_eq] at hc
      exact run_load hi hf ho hc.1.1 hc.1.2 hc.2 (fun r o hh => by simp [Objs.get] at hh) h1
    · cases hc
  | lenP k x =>
    simp only [evOp] at h
    obtain ⟨n, e1, e2⟩ := Option.map_eq_some_iff.1 h
    have e3 : lenD K.σ.obj k (x.ev fr) = some n := by
      revert e1
      unfold lenD
      cases x.ev fr with
      | omap r => intro e1; simp [Objs.get] at e1
      | p v => cases v <;> exact fun e1 => e1
      | _ => exact fun e1 => e1
    refine snd_len (hide := []) (R := R) (F := F) (st := st) hi hf hc ?_
    simp only [evOp, Objs.hide, e3]
    exact congrArg some e2
  | build zero parts => exact snd_build hi hf hc h
  | buildSl kind site s zero len parts => exact snd_buildSl hi hold hf hst hc h
  | makeSl kind site zero x y => exact snd_makeSl hi hold hf hst hc h
  | sliceSl s x lo hi mx => exact snd_sliceSl (by assumption) hf hc h
  | sliceStr x lo hi => exact snd_sliceStr (by assumption) hf hc h
  | len k x => exact snd_len hi hf hc h
  | minI x y => exact snd_min hi hf hc h
  | maxI x y => exact snd_max hi hf hc h
  | append site s dyn x y => exact snd_append hi hold hf hst hc h
  | appendO site s x y => exact snd_appendO hi hold hf hst hc h
  | clear zero x => exact snd_clear hi hf hc h
  | mapEntry kd ks zero m k => exact snd_mapEntry hi hf hc h
  | entryStore m s x => exact snd_entryStore hi hf hc h
  | makeMap site => exact snd_makeMap hi hold hst hc h
  | lookup kd ks zero ok m k => exact snd_lookup hi hf hc h
  | mapUpd kd ks m k x => exact snd_mapUpd hi hf hc h
  | delete m k => cases hc
  | extract x i => exact snd_extract hi hf hc h
  | mkIface t x => exact snd_mkIface hi hf hc h
  | assert t zero ok x => cases hc
  | clo f xs ys => exact snd_clo hi hf hc h
  | call m f args ss => cases hc
  | callv m fv args ss => cases hc
end
end Go.Ev
