/- Of two lines, whose blocks come in turns, however many of each at a time, the one with more work is followed at each step, and the coins are those of a chain to which that line alone came: WholeTurns returns true for every input. No condition. -/
import Derived.Test.YtjcpdljfkhbbkaaGreatTopT
import Derived.Test.YtjcpdljfkhbbkaaGreatT9
set_option linter.unusedVariables false
set_option linter.unusedSimpArgs false
namespace Go.Proofs.YtjcpdljfkhbbkaaGreat
open Go Go.Ab Go.ChangeShapes Go.WideShapes Go.ChangeAt Go.RowKit

set_option maxRecDepth 100000 in
theorem wholeTurns_lifted (os : Os) (started : os.Started) (H : Type) (enc : TypeId × Value → H) :
    ReturnsInHanded {} Tryz.checked os 3 .any (Rows.wholeTurnsSpec.pre6 enc Tryz.prog Tryz.f3 Rows.wholeTurnsRow.domain false) (Rows.wholeTurnsSpec.post enc Tryz.prog Tryz.f3 false true false false) := by
  refine returnsInHanded_of_change (C := Tryz.checked) own started (by kernel_rfl) Tryz.func3
    (ChangeSpec.witness6 (enc := enc) (C := Tryz.checked) false ⟨#[], #[.slice none 0 0], []⟩ 8 (by kernel_rfl) (by kernel_rfl) (by kernel_rfl) (by kernel_rfl)) ?_
  intro W base args ds gs before hval0 hW hcnd _
  have hval : ∀ (j : Nat) t v, Tryz.f3.params[j]? = some t → args[j]? = some v → Value.okWide Tryz.prog W .any base t v := hval0
  have hW' := hW
  obtain ⟨p, q, hA0, hV, rfl, hfz, hnd⟩ := hW
  have hA : DataW.TrodAll enc Tryz.prog W 0 (fun _ => true) true Tryz.f3.params.toList args.toList ds p := hA0
  rw [Tryz.params3] at hA hval
  obtain ⟨v0, vs0, d0, ds0, p0, q0, hargs, rfl, rfl, h0, r0⟩ := trodAll_cons hA
  obtain ⟨rfl, rfl, rfl⟩ := trodAll_nil r0
  obtain rfl : args = #[v0] := by cases args; simp_all
  obtain ⟨rfl, rfl⟩ := trodVars_none hV
  have hok0 := hval 0 22 v0 rfl rfl
  have lt0 : ∀ x ∈ p0, x.block < W.heap.size := by obtain ⟨m, hm⟩ := h0; exact DataW.trod_lt m _ _ _ hm
  obtain ⟨a0, len0, cap0, rfl⟩ := okWide_slice Tryz.underlying22 hok0
  obtain ⟨l0, hll0, rel0⟩ : ∃ l, l.length = len0 ∧ VRel (Gh.all W) (.sl .any (rowsOf e1 l) l.length) (.slice a0 len0 cap0) := by
    obtain ⟨fuel, hf⟩ := h0
    exact open_rows (d := 6) e1 (sz := 1) (by omega) (fun _ => rfl) Tryz.underlying22 (by kernel_rfl) (by kernel_rfl) (shape_one Tryz.underlying3) hf (slice_spot Tryz.underlying22 hok0)
  clear hA0 hval0
  refine (calls_of_acalls (spec302 okTopT okEqual cloneC (fun _ => none) (turns := l0) (.inl ⟨.any, rfl⟩)) (xs := [.slice a0 len0 cap0]) ⟨rfl, fun i hi => by
    match i, hi with
    | 0, _ => exact rel0⟩).mono fun e W' ⟨he, bel⟩ => ?_
  subst he
  exact ⟨_, rfl, _, _, _, [], _, [], hW', trodAll_mk1 (shut_bool Tryz.underlying4 _), (trodAll_cons_mk (Below.trod laidOut (by kernel_rfl) (of_decide_eq_true (by kernel_rfl)) h0 bel lt0) trodAll_mk0), rfl, bel.frame _, fun h => by cases h⟩

theorem wholeTurns_j1 : (Rows.wholeTurnsRow.inPlace == Tryz.pinned.checked.prog.inPlace 3) = true := by kernel_rfl
theorem wholeTurns_j2 : (Rows.wholeTurnsRow.unfollowed == Tryz.pinned.checked.prog.unfollowed 3) = true := by kernel_rfl
theorem wholeTurns_j3 : (Rows.wholeTurnsRow.recurses == Tryz.pinned.checked.prog.recurses 3) = true := by kernel_rfl
theorem wholeTurns_j4 : (Rows.wholeTurnsRow.named == Tryz.pinned.checked.prog.varsNamed 3) = true := by kernel_rfl
theorem wholeTurns_holds : Rows.WholeTurnsSaid :=
  OpenClaim.holds_of_wide 3 Tryz.f3 rfl rfl rfl rfl rfl rfl rfl ⟨rfl, rfl, rfl, rfl, rfl⟩ rfl rfl rfl rfl rfl (by kernel_rfl) Tryz.func3 (by unfold joinedFacts; rw [wholeTurns_j1, wholeTurns_j2, wholeTurns_j3, wholeTurns_j4]; kernel_rfl)
    (of_decide_eq_true (by kernel_rfl)) (by unfold Func.isWrapper; first | (rw [if_pos (by decide +kernel)]; kernel_rfl) | (rw [if_neg (by decide +kernel)]; exact ⟨rfl, rfl⟩))
    (fun os started H enc _ => wholeTurns_lifted os started H enc)
#print axioms wholeTurns_holds
end Go.Proofs.YtjcpdljfkhbbkaaGreat
