/-
  BanSmall: the walk.
-/
import Derived.Test.YtpmfkckookkgmaaWBan5
set_option linter.unusedVariables false
set_option linter.unusedSimpArgs false
namespace Go.Proofs.Ytpmfkckookkgmaa
open Go Go.Ab

abbrev Ops3 := List (Int × Int × Int)
def cells3 (l : Ops3) : List V := l.flatMap fun r => [V.int .i64 r.1, V.int .i64 r.2.1, V.int .i64 r.2.2]

theorem cells3_length : ∀ l : Ops3, (cells3 l).length = l.length * 3
  | [] => rfl
  | r :: l => by
    have := cells3_length l
    simp only [cells3, List.flatMap_cons, List.length_append, List.length_cons, List.length_nil] at this ⊢
    omega

theorem cells3_drop : ∀ (i : Nat) (l : Ops3), (cells3 l).drop (i * 3) = cells3 (l.drop i)
  | 0, l => by simp
  | i + 1, [] => by simp [cells3]
  | i + 1, r :: l => by
    have := cells3_drop i l
    rw [show (i + 1) * 3 = i * 3 + 1 + 1 + 1 by omega]
    simp only [cells3, List.flatMap_cons, List.cons_append, List.nil_append, List.drop_succ_cons] at this ⊢
    exact this

theorem cells3_at (l : Ops3) {i : Nat} (h : i < l.length) : ((cells3 l).drop (i * 3)).take 3 = [V.int .i64 l[i].1, V.int .i64 l[i].2.1, V.int .i64 l[i].2.2] := by
  rw [cells3_drop, List.drop_eq_getElem_cons h]
  rfl

theorem seg3 (l : Ops3) {i : Nat} (h : i < l.length) : segOf ((cells3 l).drop (i * 3)) 0 3 = some [V.int .i64 l[i].1, V.int .i64 l[i].2.1, V.int .i64 l[i].2.2] := by
  have hl := cells3_length l
  unfold segOf
  rw [if_pos (by rw [List.length_drop]; omega), List.drop_zero, cells3_at l h]

/-- BanSmall -/
theorem spec3 (st : St) (k0 : SK) (l : Ops3) : ACalls Try.prog 3 [.sl k0 (cells3 l) l.length] st fun v st' => v = .bool true := by
  refine shows_call mixedP comp3 (by simp [c3]) ?_
  simp [c3]
  refine (spec12 st).mono ?_
  rintro v st0 ⟨rfl, rfl⟩
  simp
  by_cases h200 : (200 : Int) < l.length
  · simp [h200]
    exact ⟨_, sub_self _⟩
  · simp [h200]
    intro tid htid
    simp
    refine vc_loopJ (fun k env' st' => ∃ i rows, i ≤ l.length ∧ k = l.length - i ∧ env' 16 = .int .i64 (i : Nat) ∧ rows.length ≤ 32 ∧ Sep [Tab tid rows] st') l.length ⟨0, [], by omega, by omega, rfl, by simp, tab_new (L := []) trivial htid⟩ ?_
    rintro J hJ k env' st1 hsame ⟨i, rows, hi, rfl, h16, hrl, S1⟩
    have h3 : env' 3 = .ptr (some (tid, 0)) := hsame 3 (by decide)
    have h14 : env' 14 = .sl k0 (cells3 l) l.length := hsame 14 (by decide)
    have h15 : env' 15 = .int .i64 l.length := hsame 15 (by decide)
    clear hsame
    have w2 : IntKind.i64.wrap ((i : Int) + 1) = (i : Int) + 1 := wrap64 (by omega) (by omega)
    by_cases hlt : i < l.length
    · have hsg := seg3 l hlt
      simp [h3, h14, h15, h16, hlt, hsg]
      intro oid hoid
      simp [storeS, spliceV, hoid, h3]
      have S2 := (S1.new hoid (.cells [V.int .i64 l[i].1, V.int .i64 l[i].2.1, V.int .i64 l[i].2.2])).swap
      generalize hst2 : st1.upd oid (.cells [V.int .i64 l[i].1, V.int .i64 l[i].2.1, V.int .i64 l[i].2.2]) = st2 at S2
      have o2 := S2.swap.get
      refine (spec13 (tab_of S2)).mono ?_
      rintro v st2' ⟨rfl, rfl⟩
      simp [St.seg, segOf, o2, h3]
      refine (ban_call S2 hrl l[i].2.1 l[i].2.2).mono ?_
      rintro v st3 ⟨rfl, S3⟩
      have o3 := S3.swap.get
      simp [St.seg, segOf, o3, h3]
      refine (spec15 (tab_of S3) l[i].2.1).mono ?_
      rintro v st3' ⟨rfl, rfl⟩
      simp [h3]
      refine (spec13 (tab_of S3)).mono ?_
      rintro v st3' ⟨rfl, rfl⟩
      have hl2 := banM_length hrl l[i].2.1 l[i].2.2
      have hl3 : ¬ ((32 : Int) < (banM rows l[i].2.1 l[i].2.2).length) := by omega
      simp [hl3]
      rcases banM_until (rows := rows) l[i].2.1 l[i].2.2 with ⟨x, hx, hux⟩ | ⟨hn, hfull⟩
      · have hux' : ¬ x < l[i].2.2 := by omega
        simp [hx, hux', St.seg, segOf, o3, h16, w2]
        refine Round.mk (l.length - (i + 1)) _ (by omega) (sub_self _) (hJ _ _ _ ⟨i + 1, _, by omega, rfl, ?_, hl2, S3.swap.drop⟩)

        simp
      · have h32 : ((rows.length : Int) == 32) = true := by simp; omega
        simp [hn, h32, h16, w2]
        refine Round.mk (l.length - (i + 1)) _ (by omega) (sub_self _) (hJ _ _ _ ⟨i + 1, _, by omega, rfl, ?_, hl2, S3.swap.drop⟩)

        simp
    · simp [h3, h14, h15, h16, hlt]
      exact ⟨_, sub_self _⟩
end Go.Proofs.Ytpmfkckookkgmaa
