/-
  The walks of BanApart and BanSwept.
-/
import Derived.Test.YtpmfkckookkgmaaAbLawBan
import Derived.Test.YtpmfkckookkgmaaAbBanP
set_option linter.unusedVariables false
set_option linter.unusedSimpArgs false
namespace Go.Ab
open Go
section
variable {P : Program} {F : Fn}

def apartM (a : Int) (l : List (Int × Int × Int)) : Rows2 := l.foldl (fun rows o => if o.1 = 0 ∧ o.2.1 ≠ a then banM rows o.2.1 o.2.2 else rows) []
theorem apartM_snoc (a : Int) (l : List (Int × Int × Int)) (o : Int × Int × Int) : apartM a (l ++ [o]) = if o.1 = 0 ∧ o.2.1 ≠ a then banM (apartM a l) o.2.1 o.2.2 else apartM a l := by simp [apartM]
theorem apartM_len (a : Int) (l : List (Int × Int × Int)) : (apartM a l).length ≤ l.length := by
  have key : ∀ (l : List (Int × Int × Int)) (rows : Rows2), (l.foldl (fun rows o => if o.1 = 0 ∧ o.2.1 ≠ a then banM rows o.2.1 o.2.2 else rows) rows).length ≤ rows.length + l.length := by
    intro l
    induction l with
    | nil => intro rows; simp
    | cons o l ih =>
      intro rows
      simp only [List.foldl_cons]
      have := ih (if o.1 = 0 ∧ o.2.1 ≠ a then banM rows o.2.1 o.2.2 else rows)
      have h2 : (if o.1 = 0 ∧ o.2.1 ≠ a then banM rows o.2.1 o.2.2 else rows).length ≤ rows.length + 1 := by
        split
        · exact ban_grows _ _ _
        · omega
      simp only [List.length_cons]
      omega
  have := key l []
  simpa [apartM] using this

/-- BanApart -/
theorem spec4 (ok : OkBan P F) (ol : OkLaw17 P F) (st : St) (k0 : SK) (a u : Int) (l : List (Int × Int × Int)) : ACalls P (F 4) [.sl k0 (rowsOf e3 l) l.length, .int .i64 a, .int .i64 u] st fun v st' => v = .bool true := by
  refine shows_call ol.mixed ol.h4 (by simp [k4]) ?_
  simp [k4]
  refine (spec12 ok ol st).mono ?_
  rintro v st0 ⟨rfl, rfl⟩
  simp
  by_cases h31 : (31 : Int) < l.length
  · simp [h31]
    exact ⟨_, sub_self _⟩
  · simp [h31]
    intro ta hta
    simp
    have S0 := tab_new (L := []) (st := st0) (tid := ta) trivial hta
    intro tb htb
    simp
    have S1 := tab_new S0 htb
    refine (ban_call ok S1 (by simp) a u).mono ?_
    rintro v st2 ⟨rfl, S2⟩
    rw [banM_nil] at S2
    simp
    refine vc_loopJ (fun k env' st' => ∃ i, i ≤ l.length ∧ k = l.length - i ∧ env' 29 = .int .i64 (i : Nat) ∧ Sep [Tab tb ((a, u) :: apartM a (l.take i)), Tab ta (apartM a (l.take i))] st') l.length ⟨0, by omega, by omega, rfl, S2⟩ ?_
    rintro J hJ k env' st3 hsame ⟨i, hi, rfl, h29, S3⟩
    have g0 : env' 0 = .sl k0 (rowsOf e3 l) l.length := hsame.get 0 rfl
    have g1 : env' 1 = .int .i64 a := hsame.get 1 rfl
    have g2 : env' 2 = .int .i64 u := hsame.get 2 rfl
    have g7 : env' 7 = .ptr (some (ta, 0)) := hsame.get 7 rfl
    have g8 : env' 8 = .ptr (some (tb, 0)) := hsame.get 8 rfl
    have g27 : env' 27 = .sl k0 (rowsOf e3 l) l.length := hsame.get 27 rfl
    have g28 : env' 28 = .int .i64 l.length := hsame.get 28 rfl
    clear hsame
    have w2 : IntKind.i64.wrap ((i : Int) + 1) = (i : Int) + 1 := wrap64 (by omega) (by omega)
    by_cases hlt : i < l.length
    · have hsg := rowsOf_eptr e3_len l hlt
      simp [g1, g7, g8, g27, g28, h29, hlt, hsg, e3]
      intro oid hoid
      have S4 := S3.new hoid (.cells [.int .i64 l[i].1, .int .i64 l[i].2.1, .int .i64 l[i].2.2])
      have hlen := apartM_len a (l.take i)
      have hlt2 : (apartM a (l.take i)).length ≤ i := Nat.le_trans hlen (by simp; omega)
      have hsn : apartM a (l.take (i + 1)) = if l[i].1 = 0 ∧ l[i].2.1 ≠ a then banM (apartM a (l.take i)) l[i].2.1 l[i].2.2 else apartM a (l.take i) := by
        rw [List.take_succ_eq_append_getElem hlt, apartM_snoc]
      simp [storeS, spliceV, St.seg, segOf, g1]
      by_cases hk : l[i].1 = 0
      · by_cases ha : l[i].2.1 = a
        · simp [hk, ha, g1, h29, w2, St.seg, segOf]
          refine Round.mk (l.length - (i + 1)) _ (by omega) (sub_self _) (hJ _ _ _ ⟨i + 1, by omega, rfl, by simp, ?_⟩)
          rw [hsn, if_neg (by simp [ha])]
          rw [ha] at S4
          rw [← hk]
          exact S4.drop
        · have hac : (l[i].2.1 != a) = true := by simp [ha]
          rw [if_pos ⟨hk, ha⟩] at hsn
          simp [hk, ha, hac, g1, g7, St.seg, segOf]
          have S5 := (Sep.swap (Sep.tail (fun r hr => Sep.swap hr) S4))
          rw [hk] at S5
          refine (ban_call ok S5 (by omega) l[i].2.1 l[i].2.2).mono ?_
          rintro v st5 ⟨rfl, S6⟩
          have o6 := S6.swap.get
          simp [g8, St.seg, segOf, o6]
          have S7 := Sep.swap (Sep.tail (fun r hr => Sep.swap hr) S6)
          refine (ban_call ok S7 (by simp; omega) l[i].2.1 l[i].2.2).mono ?_
          rintro v st7 ⟨rfl, S8⟩
          rw [ban_beside ha (by omega)] at S8
          simp [h29, w2]
          refine Round.mk (l.length - (i + 1)) _ (by omega) (sub_self _) (hJ _ _ _ ⟨i + 1, by omega, rfl, by simp, ?_⟩)
          rw [hsn]
          exact Sep.tail (fun r hr => (Sep.swap hr).drop) S8
      · have hkc : (l[i].1 == 0) = false := by simp [hk]
        simp [hk, hkc, g1, h29, w2, St.seg, segOf]
        refine Round.mk (l.length - (i + 1)) _ (by omega) (sub_self _) (hJ _ _ _ ⟨i + 1, by omega, rfl, by simp, ?_⟩)
        rw [hsn, if_neg (by simp [hk])]
        exact S4.drop
    · have : i = l.length := by omega
      subst this
      rw [List.take_length] at S3
      have hrl : (apartM a l).length ≤ 31 := Nat.le_trans (apartM_len a l) (by omega)
      obtain ⟨A, hA⟩ : ∃ A, A = apartM a l := ⟨_, rfl⟩
      rw [← hA] at S3 hrl
      have Tb := tab_of S3
      have Ta := tab_of S3.swap
      simp [g0, g1, g8, g27, g28, h29]
      refine (spec15 ok Tb a).mono ?_
      rintro v st4 ⟨rfl, rfl⟩
      rw [until_head]
      simp [g0]
      refine vc_loopJ (fun k env' st' => ∃ i, i ≤ l.length ∧ k = l.length - i ∧ env' 60 = .int .i64 (i : Nat) ∧ Sep [Tab tb ((a, u) :: A), Tab ta A] st') l.length ⟨0, by omega, by omega, rfl, S3⟩ ?_
      rintro J hJ k env2 st5 hsame ⟨i, hi, rfl, h60, S5⟩
      have q1 : env2 1 = .int .i64 a := (hsame.get 1 rfl).trans g1
      have q2 : env2 2 = .int .i64 u := (hsame.get 2 rfl).trans g2
      have q7 : env2 7 = .ptr (some (ta, 0)) := (hsame.get 7 rfl).trans g7
      have q8 : env2 8 = .ptr (some (tb, 0)) := (hsame.get 8 rfl).trans g8
      have q11 : env2 11 = .int .i64 u := hsame.get 11 rfl
      have q12 : env2 12 = .bool true := hsame.get 12 rfl
      have q58 : env2 58 = .sl k0 (rowsOf e3 l) l.length := hsame.get 58 rfl
      have q59 : env2 59 = .int .i64 l.length := hsame.get 59 rfl
      clear hsame
      have w3 : IntKind.i64.wrap ((i : Int) + 1) = (i : Int) + 1 := wrap64 (by omega) (by omega)
      by_cases hlt : i < l.length
      · have hsg := rowsOf_eptr e3_len l hlt
        simp [q58, q59, h60, hlt, hsg, e3]
        intro oid hoid
        have S6 := S5.new hoid (.cells [.int .i64 l[i].1, .int .i64 l[i].2.1, .int .i64 l[i].2.2])
        simp [storeS, spliceV, St.seg, segOf, q1]
        by_cases ha : l[i].2.1 = a
        · simp [ha, q1, h60, w3, St.seg, segOf]
          refine Round.mk (l.length - (i + 1)) _ (by omega) (sub_self _) (hJ _ _ _ ⟨i + 1, by omega, rfl, by simp, ?_⟩)
          rw [ha] at S6
          exact S6.drop
        · have hac : (l[i].2.1 == a) = false := by simp [ha]
          have S7 := Sep.swap S6
          have S8 := Sep.swap (Sep.tail (fun r hr => Sep.swap hr) S6)
          simp [ha, hac, q1, q7, St.seg, segOf]
          refine (spec15 ok (tab_of S8) l[i].2.1).mono ?_
          rintro v st8 ⟨rfl, rfl⟩
          simp [q8, St.seg, segOf]
          refine (spec15 ok (tab_of S7) l[i].2.1).mono ?_
          rintro v st8 ⟨rfl, rfl⟩
          rw [until_beside ha]
          simp [h60, w3, eqK]
          refine Round.mk (l.length - (i + 1)) _ (by omega) (sub_self _) (hJ _ _ _ ⟨i + 1, by omega, rfl, by simp, ?_⟩)
          exact S6.drop
      · simp [q2, q7, q8, q11, q12, q58, q59, h60, hlt]
        refine (spec13 ok (tab_of S5)).mono ?_
        rintro v st8 ⟨rfl, rfl⟩
        simp [q7]
        refine (spec13 ok (tab_of S5.swap)).mono ?_
        rintro v st8 ⟨rfl, rfl⟩
        have w4 : IntKind.i64.wrap ((A.length : Int) + 1) = (A.length : Int) + 1 := wrap64 (by omega) (by omega)
        simp [w4]
        exact ⟨_, sub_self _⟩
end
end Go.Ab
