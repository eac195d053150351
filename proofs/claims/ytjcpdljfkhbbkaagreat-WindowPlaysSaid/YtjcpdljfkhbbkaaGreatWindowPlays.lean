/- Whatever is asked, comes, is dropped and looked for: who is asked for what, who is late, and how long it may take, is as the reference tells it, row by row: WindowPlays returns true for every input. No condition. -/
import Derived.Test.YtjcpdljfkhbbkaaGreatTopP
import Derived.Test.YtjcpdljfkhbbkaaGreatV10
set_option linter.unusedVariables false
set_option linter.unusedSimpArgs false
namespace Go.Proofs.YtjcpdljfkhbbkaaGreat
open Go Go.Ab Go.ChangeShapes Go.WideShapes Go.ChangeAt Go.RowKit

set_option maxRecDepth 100000 in
theorem windowPlays_lifted (os : Os) (started : os.Started) (H : Type) (enc : TypeId × Value → H) :
    ReturnsInHanded {} Tryz.checked os 8 .any (Rows.windowPlaysSpec.pre6 enc Tryz.prog Tryz.f8 Rows.windowPlaysRow.domain false) (Rows.windowPlaysSpec.post enc Tryz.prog Tryz.f8 false true false false) := by
  refine returnsInHanded_of_change (C := Tryz.checked) own started (by kernel_rfl) Tryz.func8
    (ChangeSpec.witness6 (enc := enc) (C := Tryz.checked) false ⟨#[], #[.slice none 0 0], []⟩ 8 (by kernel_rfl) (by kernel_rfl) (by kernel_rfl) (by kernel_rfl)) ?_
  intro W base args ds gs before hval0 hW hcnd _
  have hval : ∀ (j : Nat) t v, Tryz.f8.params[j]? = some t → args[j]? = some v → Value.okWide Tryz.prog W .any base t v := hval0
  have hW' := hW
  obtain ⟨p, q, hA0, hV, rfl, hfz, hnd⟩ := hW
  have hA : DataW.TrodAll enc Tryz.prog W 0 (fun _ => true) true Tryz.f8.params.toList args.toList ds p := hA0
  rw [Tryz.params8] at hA hval
  obtain ⟨v0, vs0, d0, ds0, p0, q0, hargs, rfl, rfl, h0, r0⟩ := trodAll_cons hA
  obtain ⟨rfl, rfl, rfl⟩ := trodAll_nil r0
  obtain rfl : args = #[v0] := by cases args; simp_all
  obtain ⟨rfl, rfl⟩ := trodVars_none hV
  have hok0 := hval 0 83 v0 rfl rfl
  have lt0 : ∀ x ∈ p0, x.block < W.heap.size := by obtain ⟨m, hm⟩ := h0; exact DataW.trod_lt m _ _ _ hm
  obtain ⟨a0, len0, cap0, rfl⟩ := okWide_slice Tryz.underlying83 hok0
  obtain ⟨l0, hll0, rel0⟩ : ∃ l, l.length = len0 ∧ VRel (Gh.all W) (.sl .any (rowsOf e4 l) l.length) (.slice a0 len0 cap0) := by
    obtain ⟨fuel, hf⟩ := h0
    exact open_rows (d := 6) e4 (sz := 4) (by omega) (fun _ => rfl) Tryz.underlying83 (by kernel_rfl) (by kernel_rfl) (shape_op) hf (slice_spot Tryz.underlying83 hok0)
  clear hA0 hval0
  refine (calls_of_acalls ((spec297 okLaw18b cloneC sortC (fun _ => none) (l := l0) (.inl ⟨.any, rfl⟩)).mono fun _ _ h => h.1) (xs := [.slice a0 len0 cap0]) ⟨rfl, fun i hi => by
    match i, hi with
    | 0, _ => exact rel0⟩).mono fun e W' ⟨he, bel⟩ => ?_
  subst he
  exact ⟨_, rfl, _, _, _, [], _, [], hW', trodAll_mk1 (shut_bool Tryz.underlying4 _), (trodAll_cons_mk (Below.trod laidOut (by kernel_rfl) (of_decide_eq_true (by kernel_rfl)) h0 bel lt0) trodAll_mk0), rfl, bel.frame _, fun h => by cases h⟩

theorem windowPlays_j1 : (Rows.windowPlaysRow.inPlace == Tryz.pinned.checked.prog.inPlace 8) = true := by kernel_rfl
theorem windowPlays_j2 : (Rows.windowPlaysRow.unfollowed == Tryz.pinned.checked.prog.unfollowed 8) = true := by kernel_rfl
theorem windowPlays_j3 : (Rows.windowPlaysRow.recurses == Tryz.pinned.checked.prog.recurses 8) = true := by kernel_rfl
theorem windowPlays_j4 : (Rows.windowPlaysRow.named == Tryz.pinned.checked.prog.varsNamed 8) = true := by kernel_rfl
theorem windowPlays_holds : Rows.WindowPlaysSaid :=
  OpenClaim.holds_of_wide 8 Tryz.f8 rfl rfl rfl rfl rfl rfl rfl ⟨rfl, rfl, rfl, rfl, rfl⟩ rfl rfl rfl rfl rfl (by kernel_rfl) Tryz.func8 (by unfold joinedFacts; rw [windowPlays_j1, windowPlays_j2, windowPlays_j3, windowPlays_j4]; kernel_rfl)
    (of_decide_eq_true (by kernel_rfl)) (by unfold Func.isWrapper; first | (rw [if_pos (by decide +kernel)]; kernel_rfl) | (rw [if_neg (by decide +kernel)]; exact ⟨rfl, rfl⟩))
    (fun os started H enc _ => windowPlays_lifted os started H enc)
#print axioms windowPlays_holds
end Go.Proofs.YtjcpdljfkhbbkaaGreat
