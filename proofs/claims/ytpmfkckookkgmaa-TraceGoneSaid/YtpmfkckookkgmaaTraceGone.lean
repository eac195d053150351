/- What a peer was asked for may be asked of another one when it is gone: TraceGone returns true for every input. No condition. -/
import Derived.Test.YtpmfkckookkgmaaTopT
import Derived.Test.YtpmfkckookkgmaaAbLaw21C
set_option linter.unusedVariables false
set_option linter.unusedSimpArgs false
namespace Go.Proofs.Ytpmfkckookkgmaa
open Go Go.Ab Go.ChangeShapes Go.WideShapes Go.ChangeAt Go.RowKit

set_option maxRecDepth 100000 in
theorem traceGone_lifted (os : Os) (started : os.Started) (H : Type) (enc : TypeId × Value → H) :
    ReturnsInHanded {} Try.checked os 11 .any (Rows.traceGoneSpec.pre6 enc Try.prog Try.f11 Rows.traceGoneRow.domain false) (Rows.traceGoneSpec.post enc Try.prog Try.f11 false true false false) := by
  refine returnsInHanded_of_change (C := Try.checked) own started (by kernel_rfl) Try.func11
    (ChangeSpec.witness6 (enc := enc) (C := Try.checked) false ⟨#[], #[.slice none 0 0], []⟩ 8 (by kernel_rfl) (by kernel_rfl) (by kernel_rfl) (by kernel_rfl)) ?_
  intro W base args ds gs before hval0 hW hcnd _
  have hval : ∀ (j : Nat) t v, Try.f11.params[j]? = some t → args[j]? = some v → Value.okWide Try.prog W .any base t v := hval0
  have hW' := hW
  obtain ⟨p, q, hA0, hV, rfl, hfz, hnd⟩ := hW
  have hA : DataW.TrodAll enc Try.prog W 0 (fun _ => true) true Try.f11.params.toList args.toList ds p := hA0
  rw [Try.params11] at hA hval
  obtain ⟨v0, vs0, d0, ds0, p0, q0, hargs, rfl, rfl, h0, r0⟩ := trodAll_cons hA
  obtain ⟨rfl, rfl, rfl⟩ := trodAll_nil r0
  obtain rfl : args = #[v0] := by cases args; simp_all
  obtain ⟨rfl, rfl⟩ := trodVars_none hV
  have hok0 := hval 0 43 v0 rfl rfl
  have lt0 : ∀ x ∈ p0, x.block < W.heap.size := by obtain ⟨m, hm⟩ := h0; exact DataW.trod_lt m _ _ _ hm
  obtain ⟨a0, len0, cap0, rfl⟩ := okWide_slice Try.underlying43 hok0
  obtain ⟨l0, hll0, rel0⟩ : ∃ l, l.length = len0 ∧ VRel (Gh.all W) (.sl .any (rowsOf e8 l) l.length) (.slice a0 len0 cap0) := by
    obtain ⟨fuel, hf⟩ := h0
    exact open_rows (d := 6) e8 (sz := 1) (by omega) (fun _ => rfl) Try.underlying43 (by kernel_rfl) (by kernel_rfl) (shape_byte Try.underlying5) hf (slice_spot Try.underlying43 hok0)
  clear hA0 hval0
  refine (calls_of_acalls (spec11 okTrace okLaw21 (fun _ => none) .any l0) (xs := [.slice a0 len0 cap0]) ⟨rfl, fun i hi => by
    match i, hi with
    | 0, _ => exact rel0⟩).mono fun e W' ⟨he, bel⟩ => ?_
  subst he
  exact ⟨_, rfl, _, _, _, [], _, [], hW', trodAll_mk1 (shut_bool Try.underlying4 _), (trodAll_cons_mk (Below.trod laidOut (by kernel_rfl) (of_decide_eq_true (by kernel_rfl)) h0 bel lt0) trodAll_mk0), rfl, bel.frame _, fun h => by cases h⟩

theorem traceGone_holds : Rows.TraceGoneSaid :=
  OpenClaim.holds_of_wide 11 Try.f11 rfl rfl rfl rfl rfl rfl rfl ⟨rfl, rfl, rfl, rfl, rfl⟩ rfl rfl rfl rfl rfl (by kernel_rfl) Try.func11 (by kernel_rfl)
    (of_decide_eq_true (by kernel_rfl)) (by unfold Func.isWrapper; first | (rw [if_pos (by decide +kernel)]; kernel_rfl) | (rw [if_neg (by decide +kernel)]; exact ⟨rfl, rfl⟩))
    (fun os started H enc _ => traceGone_lifted os started H enc)
#print axioms traceGone_holds
end Go.Proofs.Ytpmfkckookkgmaa
