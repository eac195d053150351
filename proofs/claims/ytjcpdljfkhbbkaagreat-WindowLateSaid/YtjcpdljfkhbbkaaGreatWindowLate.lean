/- Of several who are asked at unlike ticks the least number of those that are late is told, one at a time; who is dropped is not told again: WindowLate returns true for every input. No condition. -/
import Derived.Test.YtjcpdljfkhbbkaaGreatTopS
import Derived.Test.YtjcpdljfkhbbkaaGreatW10
set_option linter.unusedVariables false
set_option linter.unusedSimpArgs false
namespace Go.Proofs.YtjcpdljfkhbbkaaGreat
open Go Go.Ab Go.ChangeShapes Go.WideShapes Go.ChangeAt Go.RowKit

set_option maxRecDepth 100000 in
theorem windowLate_lifted (os : Os) (started : os.Started) (H : Type) (enc : TypeId × Value → H) :
    ReturnsInHanded {} Tryz.checked os 7 .any (Rows.windowLateSpec.pre6 enc Tryz.prog Tryz.f7 Rows.windowLateRow.domain false) (Rows.windowLateSpec.post enc Tryz.prog Tryz.f7 false true false false) := by
  refine returnsInHanded_of_change (C := Tryz.checked) own started (by kernel_rfl) Tryz.func7
    (ChangeSpec.witness6 (enc := enc) (C := Tryz.checked) false ⟨#[], #[.slice none 0 0, .int .i64 0], []⟩ 8 (by kernel_rfl) (by kernel_rfl) (by kernel_rfl) (by kernel_rfl)) ?_
  intro W base args ds gs before hval0 hW hcnd _
  have hval : ∀ (j : Nat) t v, Tryz.f7.params[j]? = some t → args[j]? = some v → Value.okWide Tryz.prog W .any base t v := hval0
  have hW' := hW
  obtain ⟨p, q, hA0, hV, rfl, hfz, hnd⟩ := hW
  have hA : DataW.TrodAll enc Tryz.prog W 0 (fun _ => true) true Tryz.f7.params.toList args.toList ds p := hA0
  rw [Tryz.params7] at hA hval
  obtain ⟨v0, vs0, d0, ds0, p0, q0, hargs, rfl, rfl, h0, r0⟩ := trodAll_cons hA
  obtain ⟨v1, vs1, d1, ds1, p1, q1, rfl, rfl, rfl, h1, r1⟩ := trodAll_cons r0
  obtain ⟨rfl, rfl, rfl⟩ := trodAll_nil r1
  obtain rfl : args = #[v0, v1] := by cases args; simp_all
  obtain ⟨rfl, rfl⟩ := trodVars_none hV
  have hok0 := hval 0 22 v0 rfl rfl
  have lt0 : ∀ x ∈ p0, x.block < W.heap.size := by obtain ⟨m, hm⟩ := h0; exact DataW.trod_lt m _ _ _ hm
  have hok1 := hval 1 3 v1 rfl rfl
  have lt1 : ∀ x ∈ p1, x.block < W.heap.size := by obtain ⟨m, hm⟩ := h1; exact DataW.trod_lt m _ _ _ hm
  obtain ⟨a0, len0, cap0, rfl⟩ := okWide_slice Tryz.underlying22 hok0
  obtain ⟨l0, hll0, rel0⟩ : ∃ l, l.length = len0 ∧ VRel (Gh.all W) (.sl .any (rowsOf e1 l) l.length) (.slice a0 len0 cap0) := by
    obtain ⟨fuel, hf⟩ := h0
    exact open_rows (d := 6) e1 (sz := 1) (by omega) (fun _ => rfl) Tryz.underlying22 (by kernel_rfl) (by kernel_rfl) (shape_one Tryz.underlying3) hf (slice_spot Tryz.underlying22 hok0)
  obtain ⟨n1, rfl, wf1⟩ : ∃ n, v1 = .int .i64 n ∧ (Lit.int .i64 n).wf = true := by
    obtain ⟨n, e, _, _, w⟩ := open_int Tryz.underlying3 hok1 h1
    exact ⟨n, e, w⟩
  have rel1 : VRel (Gh.all W) (.int .i64 n1) (.int .i64 n1) := .int _ _
  clear hA0 hval0
  refine (calls_of_acalls ((spec295 okLaw18 cloneC sortC (fun _ => none) (l := l0) (.inl ⟨.any, rfl⟩) n1).mono fun _ _ h => h.1) (xs := [.slice a0 len0 cap0, .int .i64 n1]) ⟨rfl, fun i hi => by
    match i, hi with
    | 0, _ => exact rel0
    | 1, _ => exact rel1⟩).mono fun e W' ⟨he, bel⟩ => ?_
  subst he
  exact ⟨_, rfl, _, _, _, [], _, [], hW', trodAll_mk1 (shut_bool Tryz.underlying4 _), (trodAll_cons_mk (Below.trod laidOut (by kernel_rfl) (of_decide_eq_true (by kernel_rfl)) h0 bel lt0) (trodAll_cons_mk (Below.trod laidOut (by kernel_rfl) (of_decide_eq_true (by kernel_rfl)) h1 bel lt1) trodAll_mk0)), rfl, bel.frame _, fun h => by cases h⟩

theorem windowLate_j1 : (Rows.windowLateRow.inPlace == Tryz.pinned.checked.prog.inPlace 7) = true := by kernel_rfl
theorem windowLate_j2 : (Rows.windowLateRow.unfollowed == Tryz.pinned.checked.prog.unfollowed 7) = true := by kernel_rfl
theorem windowLate_j3 : (Rows.windowLateRow.recurses == Tryz.pinned.checked.prog.recurses 7) = true := by kernel_rfl
theorem windowLate_j4 : (Rows.windowLateRow.named == Tryz.pinned.checked.prog.varsNamed 7) = true := by kernel_rfl
theorem windowLate_holds : Rows.WindowLateSaid :=
  OpenClaim.holds_of_wide 7 Tryz.f7 rfl rfl rfl rfl rfl rfl rfl ⟨rfl, rfl, rfl, rfl, rfl⟩ rfl rfl rfl rfl rfl (by kernel_rfl) Tryz.func7 (by unfold joinedFacts; rw [windowLate_j1, windowLate_j2, windowLate_j3, windowLate_j4]; kernel_rfl)
    (of_decide_eq_true (by kernel_rfl)) (by unfold Func.isWrapper; first | (rw [if_pos (by decide +kernel)]; kernel_rfl) | (rw [if_neg (by decide +kernel)]; exact ⟨rfl, rfl⟩))
    (fun os started H enc _ => windowLate_lifted os started H enc)
#print axioms windowLate_holds
end Go.Proofs.YtjcpdljfkhbbkaaGreat
