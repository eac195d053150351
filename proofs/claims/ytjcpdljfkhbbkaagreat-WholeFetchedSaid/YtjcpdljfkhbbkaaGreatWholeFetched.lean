/- The blocks of a line, asked of several as the window tells, which come in any order, or not at all, so that others are asked, are all there in the end, and are followed: WholeFetched returns true for every input. No condition. -/
import Derived.Test.YtjcpdljfkhbbkaaGreatTopS
import Derived.Test.YtjcpdljfkhbbkaaGreatZ10
set_option linter.unusedVariables false
set_option linter.unusedSimpArgs false
namespace Go.Proofs.YtjcpdljfkhbbkaaGreat
open Go Go.Ab Go.ChangeShapes Go.WideShapes Go.ChangeAt Go.RowKit

set_option maxRecDepth 100000 in
theorem wholeFetched_lifted (os : Os) (started : os.Started) (H : Type) (enc : TypeId × Value → H) :
    ReturnsInHanded {} Tryz.checked os 4 .any (Rows.wholeFetchedSpec.pre6 enc Tryz.prog Tryz.f4 Rows.wholeFetchedRow.domain false) (Rows.wholeFetchedSpec.post enc Tryz.prog Tryz.f4 false true false false) := by
  refine returnsInHanded_of_change (C := Tryz.checked) own started (by kernel_rfl) Tryz.func4
    (ChangeSpec.witness6 (enc := enc) (C := Tryz.checked) false ⟨#[], #[.int .i64 0, .int .i64 0, .slice none 0 0], []⟩ 8 (by kernel_rfl) (by kernel_rfl) (by kernel_rfl) (by kernel_rfl)) ?_
  intro W base args ds gs before hval0 hW hcnd _
  have hval : ∀ (j : Nat) t v, Tryz.f4.params[j]? = some t → args[j]? = some v → Value.okWide Tryz.prog W .any base t v := hval0
  have hW' := hW
  obtain ⟨p, q, hA0, hV, rfl, hfz, hnd⟩ := hW
  have hA : DataW.TrodAll enc Tryz.prog W 0 (fun _ => true) true Tryz.f4.params.toList args.toList ds p := hA0
  rw [Tryz.params4] at hA hval
  obtain ⟨v0, vs0, d0, ds0, p0, q0, hargs, rfl, rfl, h0, r0⟩ := trodAll_cons hA
  obtain ⟨v1, vs1, d1, ds1, p1, q1, rfl, rfl, rfl, h1, r1⟩ := trodAll_cons r0
  obtain ⟨v2, vs2, d2, ds2, p2, q2, rfl, rfl, rfl, h2, r2⟩ := trodAll_cons r1
  obtain ⟨rfl, rfl, rfl⟩ := trodAll_nil r2
  obtain rfl : args = #[v0, v1, v2] := by cases args; simp_all
  obtain ⟨rfl, rfl⟩ := trodVars_none hV
  have hok0 := hval 0 3 v0 rfl rfl
  have lt0 : ∀ x ∈ p0, x.block < W.heap.size := by obtain ⟨m, hm⟩ := h0; exact DataW.trod_lt m _ _ _ hm
  have hok1 := hval 1 3 v1 rfl rfl
  have lt1 : ∀ x ∈ p1, x.block < W.heap.size := by obtain ⟨m, hm⟩ := h1; exact DataW.trod_lt m _ _ _ hm
  have hok2 := hval 2 22 v2 rfl rfl
  have lt2 : ∀ x ∈ p2, x.block < W.heap.size := by obtain ⟨m, hm⟩ := h2; exact DataW.trod_lt m _ _ _ hm
  obtain ⟨n0, rfl, wf0⟩ : ∃ n, v0 = .int .i64 n ∧ (Lit.int .i64 n).wf = true := by
    obtain ⟨n, e, _, _, w⟩ := open_int Tryz.underlying3 hok0 h0
    exact ⟨n, e, w⟩
  have rel0 : VRel (Gh.all W) (.int .i64 n0) (.int .i64 n0) := .int _ _
  obtain ⟨n1, rfl, wf1⟩ : ∃ n, v1 = .int .i64 n ∧ (Lit.int .i64 n).wf = true := by
    obtain ⟨n, e, _, _, w⟩ := open_int Tryz.underlying3 hok1 h1
    exact ⟨n, e, w⟩
  have rel1 : VRel (Gh.all W) (.int .i64 n1) (.int .i64 n1) := .int _ _
  obtain ⟨a2, len2, cap2, rfl⟩ := okWide_slice Tryz.underlying22 hok2
  obtain ⟨l2, hll2, rel2⟩ : ∃ l, l.length = len2 ∧ VRel (Gh.all W) (.sl .any (rowsOf e1 l) l.length) (.slice a2 len2 cap2) := by
    obtain ⟨fuel, hf⟩ := h2
    exact open_rows (d := 6) e1 (sz := 1) (by omega) (fun _ => rfl) Tryz.underlying22 (by kernel_rfl) (by kernel_rfl) (shape_one Tryz.underlying3) hf (slice_spot Tryz.underlying22 hok2)
  clear hA0 hval0
  refine (calls_of_acalls (spec301 okTopF cloneC sortC (fun _ => none) n0 n1 (picks := l2) (.inl ⟨.any, rfl⟩)) (xs := [.int .i64 n0, .int .i64 n1, .slice a2 len2 cap2]) ⟨rfl, fun i hi => by
    match i, hi with
    | 0, _ => exact rel0
    | 1, _ => exact rel1
    | 2, _ => exact rel2⟩).mono fun e W' ⟨he, bel⟩ => ?_
  subst he
  exact ⟨_, rfl, _, _, _, [], _, [], hW', trodAll_mk1 (shut_bool Tryz.underlying4 _), (trodAll_cons_mk (Below.trod laidOut (by kernel_rfl) (of_decide_eq_true (by kernel_rfl)) h0 bel lt0) (trodAll_cons_mk (Below.trod laidOut (by kernel_rfl) (of_decide_eq_true (by kernel_rfl)) h1 bel lt1) (trodAll_cons_mk (Below.trod laidOut (by kernel_rfl) (of_decide_eq_true (by kernel_rfl)) h2 bel lt2) trodAll_mk0))), rfl, bel.frame _, fun h => by cases h⟩

theorem wholeFetched_j1 : (Rows.wholeFetchedRow.inPlace == Tryz.pinned.checked.prog.inPlace 4) = true := by kernel_rfl
theorem wholeFetched_j2 : (Rows.wholeFetchedRow.unfollowed == Tryz.pinned.checked.prog.unfollowed 4) = true := by kernel_rfl
theorem wholeFetched_j3 : (Rows.wholeFetchedRow.recurses == Tryz.pinned.checked.prog.recurses 4) = true := by kernel_rfl
theorem wholeFetched_j4 : (Rows.wholeFetchedRow.named == Tryz.pinned.checked.prog.varsNamed 4) = true := by kernel_rfl
theorem wholeFetched_holds : Rows.WholeFetchedSaid :=
  OpenClaim.holds_of_wide 4 Tryz.f4 rfl rfl rfl rfl rfl rfl rfl ⟨rfl, rfl, rfl, rfl, rfl⟩ rfl rfl rfl rfl rfl (by kernel_rfl) Tryz.func4 (by unfold joinedFacts; rw [wholeFetched_j1, wholeFetched_j2, wholeFetched_j3, wholeFetched_j4]; kernel_rfl)
    (of_decide_eq_true (by kernel_rfl)) (by unfold Func.isWrapper; first | (rw [if_pos (by decide +kernel)]; kernel_rfl) | (rw [if_neg (by decide +kernel)]; exact ⟨rfl, rfl⟩))
    (fun os started H enc _ => wholeFetched_lifted os started H enc)
#print axioms wholeFetched_holds
end Go.Proofs.YtjcpdljfkhbbkaaGreat
