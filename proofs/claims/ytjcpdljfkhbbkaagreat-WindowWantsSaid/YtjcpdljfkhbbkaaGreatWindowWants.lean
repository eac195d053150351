/- Of any tree, with any bodies there, and any blocks asked for: those for which somebody may be asked are the lowest on the way to their best header that are neither there nor asked for, no more than may be: WindowWants returns true for every input. No condition. -/
import Derived.Test.YtjcpdljfkhbbkaaGreatTopQ
import Derived.Test.YtjcpdljfkhbbkaaGreatX10
set_option linter.unusedVariables false
set_option linter.unusedSimpArgs false
namespace Go.Proofs.YtjcpdljfkhbbkaaGreat
open Go Go.Ab Go.ChangeShapes Go.WideShapes Go.ChangeAt Go.RowKit

set_option maxRecDepth 100000 in
theorem windowWants_lifted (os : Os) (started : os.Started) (H : Type) (enc : TypeId × Value → H) :
    ReturnsInHanded {} Tryz.checked os 10 .any (Rows.windowWantsSpec.pre6 enc Tryz.prog Tryz.f10 Rows.windowWantsRow.domain false) (Rows.windowWantsSpec.post enc Tryz.prog Tryz.f10 false true false false) := by
  refine returnsInHanded_of_change (C := Tryz.checked) own started (by kernel_rfl) Tryz.func10
    (ChangeSpec.witness6 (enc := enc) (C := Tryz.checked) false ⟨#[], #[.slice none 0 0, .slice none 0 0, .slice none 0 0], []⟩ 8 (by kernel_rfl) (by kernel_rfl) (by kernel_rfl) (by kernel_rfl)) ?_
  intro W base args ds gs before hval0 hW hcnd _
  have hval : ∀ (j : Nat) t v, Tryz.f10.params[j]? = some t → args[j]? = some v → Value.okWide Tryz.prog W .any base t v := hval0
  have hW' := hW
  obtain ⟨p, q, hA0, hV, rfl, hfz, hnd⟩ := hW
  have hA : DataW.TrodAll enc Tryz.prog W 0 (fun _ => true) true Tryz.f10.params.toList args.toList ds p := hA0
  rw [Tryz.params10] at hA hval
  obtain ⟨v0, vs0, d0, ds0, p0, q0, hargs, rfl, rfl, h0, r0⟩ := trodAll_cons hA
  obtain ⟨v1, vs1, d1, ds1, p1, q1, rfl, rfl, rfl, h1, r1⟩ := trodAll_cons r0
  obtain ⟨v2, vs2, d2, ds2, p2, q2, rfl, rfl, rfl, h2, r2⟩ := trodAll_cons r1
  obtain ⟨rfl, rfl, rfl⟩ := trodAll_nil r2
  obtain rfl : args = #[v0, v1, v2] := by cases args; simp_all
  obtain ⟨rfl, rfl⟩ := trodVars_none hV
  have hok0 := hval 0 22 v0 rfl rfl
  have lt0 : ∀ x ∈ p0, x.block < W.heap.size := by obtain ⟨m, hm⟩ := h0; exact DataW.trod_lt m _ _ _ hm
  have hok1 := hval 1 22 v1 rfl rfl
  have lt1 : ∀ x ∈ p1, x.block < W.heap.size := by obtain ⟨m, hm⟩ := h1; exact DataW.trod_lt m _ _ _ hm
  have hok2 := hval 2 91 v2 rfl rfl
  have lt2 : ∀ x ∈ p2, x.block < W.heap.size := by obtain ⟨m, hm⟩ := h2; exact DataW.trod_lt m _ _ _ hm
  obtain ⟨a0, len0, cap0, rfl⟩ := okWide_slice Tryz.underlying22 hok0
  obtain ⟨l0, hll0, rel0⟩ : ∃ l, l.length = len0 ∧ VRel (Gh.all W) (.sl .any (rowsOf e1 l) l.length) (.slice a0 len0 cap0) := by
    obtain ⟨fuel, hf⟩ := h0
    exact open_rows (d := 6) e1 (sz := 1) (by omega) (fun _ => rfl) Tryz.underlying22 (by kernel_rfl) (by kernel_rfl) (shape_one Tryz.underlying3) hf (slice_spot Tryz.underlying22 hok0)
  obtain ⟨a1, len1, cap1, rfl⟩ := okWide_slice Tryz.underlying22 hok1
  obtain ⟨l1, hll1, rel1⟩ : ∃ l, l.length = len1 ∧ VRel (Gh.all W) (.sl .any (rowsOf e1 l) l.length) (.slice a1 len1 cap1) := by
    obtain ⟨fuel, hf⟩ := h1
    exact open_rows (d := 6) e1 (sz := 1) (by omega) (fun _ => rfl) Tryz.underlying22 (by kernel_rfl) (by kernel_rfl) (shape_one Tryz.underlying3) hf (slice_spot Tryz.underlying22 hok1)
  obtain ⟨a2, len2, cap2, rfl⟩ := okWide_slice Tryz.underlying91 hok2
  obtain ⟨l2, hll2, rel2⟩ : ∃ l, l.length = len2 ∧ VRel (Gh.all W) (.sl .any (rowsOf e2 l) l.length) (.slice a2 len2 cap2) := by
    obtain ⟨fuel, hf⟩ := h2
    exact open_rows (d := 6) e2 (sz := 2) (by omega) (fun _ => rfl) Tryz.underlying91 (by kernel_rfl) (by kernel_rfl) (shape_two) hf (slice_spot Tryz.underlying91 hok2)
  clear hA0 hval0
  refine (calls_of_acalls ((spec299 okLaw18 cloneC (fun _ => none) (ps := l0) (bo := l1) (ask := l2) (.inl ⟨.any, rfl⟩) (.inl ⟨.any, rfl⟩) (.inl ⟨.any, rfl⟩)).mono fun _ _ h => h.1) (xs := [.slice a0 len0 cap0, .slice a1 len1 cap1, .slice a2 len2 cap2]) ⟨rfl, fun i hi => by
    match i, hi with
    | 0, _ => exact rel0
    | 1, _ => exact rel1
    | 2, _ => exact rel2⟩).mono fun e W' ⟨he, bel⟩ => ?_
  subst he
  exact ⟨_, rfl, _, _, _, [], _, [], hW', trodAll_mk1 (shut_bool Tryz.underlying4 _), (trodAll_cons_mk (Below.trod laidOut (by kernel_rfl) (of_decide_eq_true (by kernel_rfl)) h0 bel lt0) (trodAll_cons_mk (Below.trod laidOut (by kernel_rfl) (of_decide_eq_true (by kernel_rfl)) h1 bel lt1) (trodAll_cons_mk (Below.trod laidOut (by kernel_rfl) (of_decide_eq_true (by kernel_rfl)) h2 bel lt2) trodAll_mk0))), rfl, bel.frame _, fun h => by cases h⟩

theorem windowWants_j1 : (Rows.windowWantsRow.inPlace == Tryz.pinned.checked.prog.inPlace 10) = true := by kernel_rfl
theorem windowWants_j2 : (Rows.windowWantsRow.unfollowed == Tryz.pinned.checked.prog.unfollowed 10) = true := by kernel_rfl
theorem windowWants_j3 : (Rows.windowWantsRow.recurses == Tryz.pinned.checked.prog.recurses 10) = true := by kernel_rfl
theorem windowWants_j4 : (Rows.windowWantsRow.named == Tryz.pinned.checked.prog.varsNamed 10) = true := by kernel_rfl
theorem windowWants_holds : Rows.WindowWantsSaid :=
  OpenClaim.holds_of_wide 10 Tryz.f10 rfl rfl rfl rfl rfl rfl rfl ⟨rfl, rfl, rfl, rfl, rfl⟩ rfl rfl rfl rfl rfl (by kernel_rfl) Tryz.func10 (by unfold joinedFacts; rw [windowWants_j1, windowWants_j2, windowWants_j3, windowWants_j4]; kernel_rfl)
    (of_decide_eq_true (by kernel_rfl)) (by unfold Func.isWrapper; first | (rw [if_pos (by decide +kernel)]; kernel_rfl) | (rw [if_neg (by decide +kernel)]; exact ⟨rfl, rfl⟩))
    (fun os started H enc _ => windowWants_lifted os started H enc)
#print axioms windowWants_holds
end Go.Proofs.YtjcpdljfkhbbkaaGreat
