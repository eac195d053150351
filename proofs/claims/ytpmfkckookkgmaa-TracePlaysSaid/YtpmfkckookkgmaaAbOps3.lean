/-
  Structs, arrays and slices that are made of parts; slices of slices.
-/
import Derived.Test.YtpmfkckookkgmaaAbOps2
set_option linter.unusedSimpArgs false
set_option linter.unusedVariables false
namespace Go.Ab
open Go Go.RowKit

theorem foldl_set (off : Nat) : ∀ (vs : List Value) (k : Nat) (C : Array Value), off + k + vs.length ≤ C.size →
    ((vs.zipIdx k).foldl (fun cs p => cs.setIfInBounds (off + p.2) p.1) C).toList = C.toList.take (off + k) ++ vs ++ C.toList.drop (off + k + vs.length)
  | [], k, C, h => by simp
  | v :: vs, k, C, h => by
    simp only [List.zipIdx_cons, List.foldl_cons]
    rw [foldl_set off vs (k + 1) _ (by simp at h ⊢; omega)]
    have e := list_seg_step C.toList (off + k) v vs (by simp at h ⊢; omega)
    simpa [Array.toList_setIfInBounds, Nat.add_assoc, Nat.add_comm 1] using e

section
variable {P : Program} {B : Nat} {w0 : World} {G : Gh} {st : St} {w : World} {n : Nat} {env : Env} {a : Act}

theorem fill_rel (he : EnvRel G n env a) (place : Nat → Option (Nat × Nat)) : ∀ {ops : List (Nat × Operand)} {ps : List (Nat × Nat × X)} {zs cs : List V} {Z : Array Value}, parts1 n place ops = some ps → CRel G zs Z.toList →
    fillV zs (ps.map fun p => (p.1, p.2.1, p.2.2.ev env)) = some cs → ∃ C, Instr.fill place Z (ops.map fun p => (p.1, a.eval p.2)) = some C ∧ CRel G cs C.toList
  | [], ps, zs, cs, Z, hp, hz, hf => by
    cases hp
    cases hf
    exact ⟨Z, rfl, hz⟩
  | (i, o) :: ops, ps, zs, cs, Z, hp, hz, hf => by
    simp only [parts1] at hp
    split at hp
    · rename_i off sz x xs h1 h2 h3
      cases hp
      simp only [List.map_cons, fillV] at hf
      split at hf
      · rename_i vs hvs
        split at hf
        · rename_i hb
          have hc := (ofX_rel he h2).cells hvs
          have hvl : (a.eval o).cells.size = sz := by have := hc.length; simp at this; omega
          have hZ : Z.size = zs.length := by have := hz.length; simpa using this
          have hsp : CRel G (spliceV zs off vs) ((a.eval o).cells.zipIdx.foldl (fun cs p => cs.setIfInBounds (off + p.2) p.1) Z).toList := by
            have := foldl_set off (a.eval o).cells.toList 0 Z (by simp; omega)
            have h2 : (a.eval o).cells.zipIdx.foldl (fun cs p => cs.setIfInBounds (off + p.2) p.1) Z = ((a.eval o).cells.toList.zipIdx 0).foldl (fun cs p => cs.setIfInBounds (off + p.2) p.1) Z := by
              rw [← Array.foldl_toList, Array.toList_zipIdx]
            rw [h2, this]
            have := hz.splice hc off
            simpa [spliceX] using this
          obtain ⟨C, k1, k2⟩ := fill_rel he place h3 hsp hf
          refine ⟨C, ?_, k2⟩
          simp only [List.map_cons, Instr.fill, h1, hvl]
          rw [if_neg (by simp; omega)]
          exact k1
        · cases hf
      · cases hf
    · cases hp

theorem zeroOf_rel {t : TypeId} {zs : List V} (h : zeroOf P t = some zs) : ∃ i z, P.info? t = some i ∧ i.zero = some z ∧ CRel G zs z.cells.toList := by
  obtain ⟨z, h1, h2⟩ := Option.bind_eq_some_iff.1 h
  obtain ⟨i, h3, h4⟩ := Option.bind_eq_some_iff.1 h1
  exact ⟨i, z, h3, h4, ofCells_rel h2⟩

theorem run_mapM_places : ∀ (fs : List Field), (fs.all fun (f : Field) => (szOf P f.type).isSome) = true →
    (fs.mapM fun (f : Field) => (do pure (f.offset, ← sizeOf f.type) : Sem (Nat × Nat))).run P w = .ok (fs.map fun (f : Field) => (f.offset, (szOf P f.type).getD 0)) w
  | [], _ => by simp
  | f :: fs, h => by
    simp only [List.all_cons, Bool.and_eq_true] at h
    obtain ⟨s, hs⟩ := Option.isSome_iff_exists.1 h.1
    have ih := run_mapM_places fs h.2
    simp only [List.mapM_cons, Sem.run_bind, run_sizeOf hs, Result.andThen_ok, Sem.run_pure, ih, List.map_cons, hs, Option.getD_some]

theorem build_struct (he : EnvRel G n env a) {t : TypeId} {fs : Array Field} {zs cs : List V} {ops : Array (Nat × Operand)} {ps : List (Nat × Nat × X)} (hz : zeroOf P t = some zs) (hu : P.underlying t = some (.struct fs))
    (hall : (fs.toList.all fun f => (szOf P f.type).isSome) = true) (hp : parts1 n (fun i => (fs[i]?).bind fun f => (szOf P f.type).map fun s => (f.offset, s)) ops.toList = some ps)
    (hf : fillV zs (ps.map fun p => (p.1, p.2.1, p.2.2.ev env)) = some cs) :
    ∃ C, (Instr.build t (ops.map fun (i, x) => (i, a.eval x))).run P w = .ok (.agg C) w ∧ VRel G (.agg cs) (.agg C) := by
  obtain ⟨i, z, h1, h2, h3⟩ := zeroOf_rel (G := G) hz
  obtain ⟨C, h4, h5⟩ := fill_rel he _ hp h3 hf
  refine ⟨C, ?_, by simpa using VRel.agg_of h5⟩
  have hpl := run_mapM_places (P := P) (w := w) fs.toList hall
  have hplace : (fun (x : Nat) => (fs.toList.map fun (f : Field) => (f.offset, (szOf P f.type).getD 0)).toArray[x]?) = (fun (i : Nat) => (fs[i]?).bind fun (f : Field) => (szOf P f.type).map fun s => (f.offset, s)) := by
    funext x
    simp only [List.getElem?_toArray, List.getElem?_map, Array.getElem?_toList]
    cases hx : fs[x]? with
    | none => rfl
    | some f =>
      have hm : f ∈ fs.toList := by
        have := Array.getElem?_eq_some_iff.1 hx
        obtain ⟨hlt, rfl⟩ := this
        simp
      obtain ⟨s, hs⟩ := Option.isSome_iff_exists.1 (List.all_eq_true.1 hall f hm)
      simp [hs]
  simp only [Instr.build, Sem.run_bind, run_zeroValue h1 h2, Result.andThen_ok, run_underlying hu, Array.mapM_eq_mapM_toList, Sem.run_map, hpl, hplace]
  have : (ops.map fun (i, x) => (i, a.eval x)).toList = ops.toList.map fun p => (p.1, a.eval p.2) := by simp
  rw [this, h4]
  simp

theorem build_array (he : EnvRel G n env a) {t e : TypeId} {len s : Nat} {zs cs : List V} {ops : Array (Nat × Operand)} {ps : List (Nat × Nat × X)} (hz : zeroOf P t = some zs) (hu : P.underlying t = some (.array len e))
    (hs : szOf P e = some s) (hp : parts1 n (fun i => some (i * s, s)) ops.toList = some ps)
    (hf : fillV zs (ps.map fun p => (p.1, p.2.1, p.2.2.ev env)) = some cs) :
    ∃ C, (Instr.build t (ops.map fun (i, x) => (i, a.eval x))).run P w = .ok (.agg C) w ∧ VRel G (.agg cs) (.agg C) := by
  obtain ⟨i, z, h1, h2, h3⟩ := zeroOf_rel (G := G) hz
  obtain ⟨C, h4, h5⟩ := fill_rel he _ hp h3 hf
  refine ⟨C, ?_, by simpa using VRel.agg_of h5⟩
  simp only [Instr.build, Sem.run_bind, run_zeroValue h1 h2, Result.andThen_ok, run_underlying hu, run_sizeOf hs]
  have : (ops.map fun (i, x) => (i, a.eval x)).toList = ops.toList.map fun p => (p.1, a.eval p.2) := by simp
  rw [this, h4]
  simp

/-- So many zero elements, as the machine lays them. -/
def zerosX (z : Array Value) (k : Nat) : Array Value := (Array.range k).map fun i => z[i % z.size]!

theorem length_repV (z : List V) : ∀ k, (repV z k).length = k * z.length
  | 0 => by simp [repV]
  | k + 1 => by simp [repV, length_repV z k, Nat.add_mul, Nat.add_comm]

theorem getD_repV (z : List V) (hz : 0 < z.length) : ∀ (k i : Nat), i < k * z.length → (repV z k).getD i .junk = z.getD (i % z.length) .junk
  | 0, i, h => by simp at h
  | k + 1, i, h => by
    simp only [repV]
    by_cases hi : i < z.length
    · rw [List.getD_eq_getElem?_getD, List.getElem?_append_left hi, Nat.mod_eq_of_lt hi, List.getD_eq_getElem?_getD]
    · rw [List.getD_eq_getElem?_getD, List.getElem?_append_right (by omega), ← List.getD_eq_getElem?_getD, getD_repV z hz k (i - z.length) (by rw [Nat.add_mul] at h; omega)]
      rw [← Nat.mod_eq_sub_mod (by omega)]

theorem zerosX_rel {zs : List V} {z : Array Value} (hz : CRel G zs z.toList) (k : Nat) : CRel G (repV zs k) (zerosX z (k * z.size)).toList := by
  have hl : z.size = zs.length := by have := hz.length; simpa using this
  have hget : ∀ i, i < k * z.size → 0 < z.size → (zerosX z (k * z.size)).toList.getD i undef = z.toList.getD (i % z.size) undef := fun i hi h0 => by
    have hm : i % z.size < z.size := Nat.mod_lt _ h0
    simp only [zerosX, Array.toList_map, Array.toList_range, List.getD_eq_getElem?_getD, List.getElem?_map, List.getElem?_range hi, Option.map_some, Option.getD_some, Array.getElem?_toList]
    rw [getElem!_pos z _ hm, Array.getElem?_eq_getElem hm]
    rfl
  have h0 : ∀ i, i < (repV zs k).length → 0 < z.size := fun i hi => by
    rw [length_repV] at hi
    rcases Nat.eq_zero_or_pos z.size with h | h
    · rw [← hl, h, Nat.mul_zero] at hi; omega
    · exact h
  refine CRel.mk (by rw [length_repV]; simp [zerosX, hl]) (fun i hi => ?_) (fun i hi => ?_)
  · have := h0 i hi
    rw [length_repV] at hi
    rw [hget i (by rw [hl]; exact hi) this, getD_repV zs (by omega) k i hi, hl]
    exact hz.val _ (Nat.mod_lt _ (by omega))
  · have := h0 i hi
    rw [length_repV] at hi
    rw [hget i (by rw [hl]; exact hi) this]
    exact hz.one _ (by rw [← hl]; exact Nat.mod_lt _ this)

theorem buildSlice_run (he : EnvRel G n env a) {t e : TypeId} {len s : Nat} {zs cs : List V} {ops : Array (Nat × Operand)} {ps : List (Nat × Nat × X)} (hz : zeroOf P e = some zs) (hu : P.underlying t = some (.slice e))
    (hs : szOf P e = some s) (hzl : zs.length = s) (hbig : len * s ≤ 16777216) (hp : parts1 n (fun i => some (i * s, s)) ops.toList = some ps)
    (hf : fillV (repV zs len) (ps.map fun p => (p.1, p.2.1, p.2.2.ev env)) = some cs) :
    ∃ C, (Instr.buildSlice t len (ops.map fun (i, x) => (i, a.eval x))).run P w = .ok (.slice (some ⟨w.heap.size, 0, none⟩) len len) (w.alloc (.cells C e)) ∧ CRel G cs C.toList := by
  obtain ⟨i, z, h1, h2, h3⟩ := zeroOf_rel (G := G) hz
  have hzs : z.cells.size = s := by have := h3.length; simp at this; omega
  have key : ∀ zz : Array Value, (len * s = 0 → True) → (len * s ≠ 0 → zz = z.cells) → CRel G (repV zs len) ((Array.range (len * s)).map fun i => zz[i % zz.size]!).toList := by
    intro zz _ hzz
    by_cases h0 : len * s = 0
    · have : (repV zs len).length = 0 := by rw [length_repV, hzl, h0]
      rw [List.eq_nil_of_length_eq_zero this, h0]
      simpa using CRel.nil
    · rw [hzz h0]
      have := zerosX_rel h3 len
      rwa [hzs] at this
  obtain ⟨C, h4, h5⟩ := fill_rel he _ hp (key (if len * s = 0 then #[] else z.cells) (fun _ => trivial) (fun h => by rw [if_neg h])) hf
  refine ⟨C, ?_, h5⟩
  have hto : (ops.map fun (i, x) => (i, a.eval x)).toList = ops.toList.map fun p => (p.1, a.eval p.2) := by simp
  simp only [Instr.buildSlice, Sem.run_bind, run_underlying hu, Result.andThen_ok, run_sizeOf hs]
  rw [if_neg (by omega)]
  by_cases h0 : len * s = 0
  · simp only [h0, if_true] at h4 ⊢
    simp only [Sem.run_bind, Sem.run_pure, Result.andThen_ok, hto, h4, newRow, run_newObj_alloc]
  · simp only [h0, if_false] at h4 ⊢
    simp only [Sem.run_bind, run_zeroValue h1 h2, Sem.run_pure, Result.andThen_ok, hto, h4, newRow, run_newObj_alloc]

/-- Bounds of a slice. -/
def ORel (G : Gh) (env : Env) (a : Act) (x : Option X) (o : Option Operand) : Prop :=
  match x, o with
  | none, none => True
  | some x, some o => VRel G (x.ev env) (a.eval o)
  | _, _ => False

theorem ofXo_rel (he : EnvRel G n env a) {o : Option Operand} {x : Option X} (h : ofXo n o = some x) : ORel G env a x o := by
  cases o with
  | none => cases h; trivial
  | some o =>
    obtain ⟨y, h1, h2⟩ := Option.map_eq_some_iff.1 h
    cases h2
    exact ofX_rel he h1

theorem run_sliceBound' {k : IntKind} {i : Int} {y c : Nat} (h0 : 0 ≤ i) (hc : i.toNat = c) (h : c ≤ y) (code : BoundsCode) : (Instr.sliceBound (.int k i) y code).run P w = .ok c w := by
  have : i ≤ (y : Int) := by omega
  rw [run_sliceBound (P := P) w k i y code h0 this, hc]

theorem bounds_run {lo hi : Option X} {ol oh : Option Operand} (hl : ORel G env a lo ol) (hh : ORel G env a hi oh) {len cap l h : Nat} (hb : bounds env len lo hi = some (l, h)) (hcap : len ≤ cap) (sl : Bool) :
    (Instr.sliceBounds sl len cap (ol.map a.eval) (oh.map a.eval) none).run P w = .ok (l, h, cap) w ∧ l ≤ h ∧ h ≤ len := by
  unfold bounds at hb
  split at hb <;> try (cases hb; done)
  rename_i h' l' hb1 hb2
  split at hb <;> cases hb
  rename_i hle
  refine ⟨?_, hle⟩
  have e1 : (match oh.map a.eval with | some v => Instr.sliceBound v cap (if sl then .sliceAcap else .sliceAlen) | none => pure len : Sem Nat).run P w = .ok h w := by
    cases hi with
    | none =>
      cases oh with
      | none => cases hb1; rfl
      | some o => exact hh.elim
    | some x =>
      cases oh with
      | none => exact hh.elim
      | some o =>
        obtain ⟨k, i, e, i0, ic⟩ := natOf_rel hh hb1
        simp only [Option.map_some, e]
        exact run_sliceBound' i0 ic (by omega) _
  have e2 : (match ol.map a.eval with | some v => Instr.sliceBound v h .sliceB | none => pure 0 : Sem Nat).run P w = .ok l w := by
    cases lo with
    | none =>
      cases ol with
      | none => cases hb2; rfl
      | some o => exact hl.elim
    | some x =>
      cases ol with
      | none => exact hl.elim
      | some o =>
        obtain ⟨k, i, e, i0, ic⟩ := natOf_rel hl hb2
        simp only [Option.map_some, e]
        exact run_sliceBound' i0 ic (by omega) _
  unfold Instr.sliceBounds
  cases hoh : oh.map a.eval with
  | none =>
    rw [hoh] at e1
    simp only [Sem.run_pure] at e1
    cases e1
    cases hol : ol.map a.eval with
    | none => rw [hol] at e2; simp only [Sem.run_pure] at e2; cases e2; simp
    | some v => rw [hol] at e2; simp [e2]
  | some u =>
    rw [hoh] at e1
    cases hol : ol.map a.eval with
    | none => rw [hol] at e2; simp only [Sem.run_pure] at e2; cases e2; simp [e1]
    | some v => rw [hol] at e2; simp [e1, e2]
end
end Go.Ab
