/-
  Each operation that changes nothing gives what the small language says: the first part: numbers, tests, addresses, reading.
-/
import Derived.Test.YtpmfkckookkgmaaAbOps0
set_option linter.unusedSimpArgs false
set_option linter.unusedVariables false
namespace Go.Ab
open Go Go.RowKit

theorem run_value {P : Program} {s : Sem Value} {w w' : World} {x : Value} (h : s.run P w = .ok x w') : ((do pure (Next.value (← s))) : Sem Next).run P w = .ok (.value x) w' := by
  simp [h]

theorem run_isAgg {P : Program} {t : TypeId} {ag : Bool} (h : isAg P t = some ag) (w : World) : (isAgg t).run P w = .ok ag w := by
  unfold isAg at h
  cases hu : P.underlying t with
  | none => rw [hu] at h; cases h
  | some d =>
    rw [hu] at h
    cases h
    simp only [isAgg, Sem.run_bind, run_underlying hu, Result.andThen_ok]
    cases d <;> rfl

theorem run_sizeOf {P : Program} {t : TypeId} {s : Nat} (h : szOf P t = some s) (w : World) : (sizeOf t).run P w = .ok s w := by
  unfold szOf at h
  cases hu : P.info? t with
  | none => rw [hu] at h; cases h
  | some i =>
    rw [hu] at h
    cases h
    simp [sizeOf, typeInfo, hu]

theorem run_zeroValue {P : Program} {t : TypeId} {i : TypeInfo} {z : Value} (hi : P.info? t = some i) (hz : i.zero = some z) (w : World) : (zeroValue t).run P w = .ok z w := by
  simp [zeroValue, typeInfo, hi, hz]

theorem packOf_some {P : Program} {t : TypeId} {p : Bool × Nat} (h : packOf P t = some p) : isAg P t = some p.1 ∧ (p.1 = true → szOf P t = some p.2) ∧ (p.1 = false → p.2 = 1) := by
  unfold packOf at h
  split at h
  · rename_i s h1 h2
    cases h
    exact ⟨h1, fun _ => h2, fun e => absurd e (by simp)⟩
  · rename_i h1
    cases h
    exact ⟨h1, fun e => absurd e (by simp), fun _ => rfl⟩
  · cases h

theorem add_lit (b o n : Nat) : Addr.add ⟨b, o, none⟩ n = ⟨b, o + n, none⟩ := Addr.add_lit b o n

theorem run_loadVar {P : Program} {t : TypeId} {p : Bool × Nat} (hp : packOf P t = some p) {w : World} {b o : Nat} {xs : List Value} (hl : xs.length = p.2)
    (hx : ∀ j x, xs[j]? = some x → w.cell? ⟨b, o + j, none⟩ = some x) :
    (loadVar t ⟨b, o, none⟩).run P w = .ok (if p.1 = true then .agg xs.toArray else xs.getD 0 undef) w := by
  obtain ⟨h1, h2, h3⟩ := packOf_some hp
  simp only [loadVar, Sem.run_bind, run_isAgg h1, Result.andThen_ok]
  cases hag : p.1 with
  | true =>
    simp only [if_true, Sem.run_bind, run_sizeOf (h2 hag), Result.andThen_ok]
    have := run_loadCells_list (P := P) w ⟨b, o, none⟩ xs (fun j v hv => by rw [add_lit]; exact hx j v hv)
    rw [hl] at this
    simp [this]
  | false =>
    simp only [Bool.false_eq_true, if_false]
    have h1' := h3 hag
    rw [h1'] at hl
    match xs, hl with
    | [x], _ =>
      have := hx 0 x rfl
      simp only [Nat.add_zero] at this
      simp [this]

theorem run_part {P : Program} {t : TypeId} {p : Bool × Nat} (hp : packOf P t = some p) {w : World} {C : Array Value} {off : Nat} (hl : off + p.2 ≤ C.size) :
    (part t C off).run P w = .ok (if p.1 = true then .agg ((C.toList.drop off).take p.2).toArray else C.getD off undef) w := by
  obtain ⟨h1, h2, h3⟩ := packOf_some hp
  simp only [part, Sem.run_bind, run_isAgg h1, Result.andThen_ok]
  cases hag : p.1 with
  | true =>
    simp only [if_true, Sem.run_bind, run_sizeOf (h2 hag), Result.andThen_ok, Sem.run_pure]
    congr 2
    apply Array.ext'
    simp [Array.toList_extract, List.extract_eq_take_drop]
  | false =>
    have h1' := h3 hag
    have : C[off]? = some (C.getD off undef) := by
      rw [Array.getD_eq_getD_getElem?, Array.getElem?_eq_getElem (by omega)]; rfl
    simp only [Bool.false_eq_true, if_false, this, Sem.run_pure]

section
variable {P : Program} {B : Nat} {w0 : World} {G : Gh} {st : St} {w : World} {n : Nat} {env : Env} {a : Act}

/-- A pointer's cells. -/
theorem ldCells_rel (h : StRel B w0 G st w) {v : V} {x : Value} (hv : VRel G v x) {sz : Nat} {c : List V} (hc : ldCells st sz v = some c) :
    ∃ b o xs, x = .pointer (some ⟨b, o, none⟩) ∧ CRel G c xs ∧ xs.length = sz ∧ ∀ j y, xs[j]? = some y → w.cell? ⟨b, o + j, none⟩ = some y := by
  cases hv with
  | ptr id o b l m hι =>
    obtain ⟨xs, h1, h2, h3⟩ := seg_cells h hc hι
    exact ⟨b, o, xs, rfl, h1, h2, h3⟩
  | eptr cs b o f hp hw h1 =>
    obtain ⟨h2, rfl⟩ := segOf_some hc
    obtain ⟨xs, k1, k2, k3, k4⟩ := pm_cells h hp hw h1
    refine ⟨b, o, (xs.drop 0).take sz, rfl, (k1.drop 0).take sz, by simp; omega, fun j y hy => ?_⟩
    have hj : j < sz := by
      have := (List.getElem?_eq_some_iff.1 hy).1
      simp at this
      omega
    rw [List.getElem?_take, if_pos hj, List.drop_zero] at hy
    exact k4 j y hy
  | _ => cases hc

theorem pack_rel {l : List V} {v : V} {xs : List Value} {p : Bool × Nat} (hc : CRel G l xs) (hp : packV p.1 l = some v) : VRel G v (if p.1 = true then .agg xs.toArray else xs.getD 0 undef) := by
  have := packV_rel hc hp
  cases hag : p.1 with
  | true => rw [hag] at this; simpa using this
  | false =>
    rw [hag] at this
    simp only [Bool.false_eq_true, if_false] at this ⊢
    obtain ⟨x, rfl, hx⟩ := this
    exact hx

theorem load_sound (h : StRel B w0 G st w) {t : TypeId} {p : Bool × Nat} (hp : packOf P t = some p) {v u : V} {x : Value} (hv : VRel G v x) (hl : (ldCells st p.2 v).bind (packV p.1) = some u) :
    ∃ y, (Instr.loadAt t x).run P w = .ok y w ∧ VRel G u y := by
  obtain ⟨c, hc, hpk⟩ := Option.bind_eq_some_iff.1 hl
  obtain ⟨b, o, xs, rfl, h1, h2, h3⟩ := ldCells_rel h hv hc
  refine ⟨_, ?_, pack_rel (p := p) h1 hpk⟩
  simp only [Instr.loadAt, Instr.sureAddr, Sem.run_bind, Sem.run_pure, Result.andThen_ok]
  exact run_loadVar hp h2 h3

theorem fld_sound {cs : List V} {x : Value} (hv : VRel G (.agg cs) x) {t : TypeId} {p : Bool × Nat} (hp : packOf P t = some p) {off : Nat} {u : V} (hl : (segOf cs off p.2).bind (packV p.1) = some u) :
    ∃ C y, x = .agg C ∧ (part t C off).run P w = .ok y w ∧ VRel G u y := by
  obtain ⟨c, hc, hpk⟩ := Option.bind_eq_some_iff.1 hl
  obtain ⟨C, rfl, hC⟩ := hv.agg_inv
  obtain ⟨h1, rfl⟩ := segOf_some hc
  have hsz : C.size = cs.length := by rw [← hC.length]; simp
  refine ⟨C, _, rfl, run_part hp (by omega), ?_⟩
  have := pack_rel (p := p) ((hC.drop off).take p.2) hpk
  cases hag : p.1 with
  | true => rw [hag] at this; simpa using this
  | false =>
    rw [hag] at this
    simp only [Bool.false_eq_true, if_false] at this ⊢
    have h1' := (packOf_some hp).2.2 hag
    rw [getD_take _ _ _ _ (by omega), getD_drop, Nat.add_zero, ← getD_toList] at this
    exact this

theorem fldA_rel {v u : V} {x : Value} (hv : VRel G v x) {off : Nat} (h : fldAV off v = some u) : ∃ b o, x = .pointer (some ⟨b, o, none⟩) ∧ VRel G u (.pointer (some ⟨b, o + off, none⟩)) := by
  cases hv with
  | ptr id o b l m hι => cases h; exact ⟨b, o, rfl, .ptr _ _ _ _ _ hι⟩
  | eptr cs b o f hp hw h1 =>
    cases h
    refine ⟨b, o, rfl, .eptr (cs.drop off) b (o + off) (fun i => f (off + i)) (fun i hi => ?_) (fun i hi => ?_) (fun i hi => ?_)⟩ <;> rw [List.length_drop] at hi
    · rw [Nat.add_assoc]; exact hp _ (by omega)
    · rw [getD_drop]; exact hw _ (by omega)
    · exact h1 _ (by omega)
  | _ => cases h

theorem natOf_rel {v : V} {x : Value} (hv : VRel G v x) {k : Nat} (h : natOf v = some k) : ∃ kd : IntKind, ∃ i : Int, x = .int kd i ∧ 0 ≤ i ∧ i.toNat = k := by
  cases hv with
  | int kd i =>
    simp only [natOf] at h
    split at h
    · cases h; exact ⟨kd, i, rfl, ‹_›, rfl⟩
    · cases h
  | _ => cases h
end
end Go.Ab
