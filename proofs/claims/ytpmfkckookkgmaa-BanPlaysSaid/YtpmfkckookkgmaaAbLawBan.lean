/-
  The walks of the statements of ban.
-/
import Derived.Test.YtpmfkckookkgmaaAbBanB
import Derived.Test.YtpmfkckookkgmaaAbCoLaw17
import Derived.Test.YtpmfkckookkgmaaAbSlice
set_option linter.unusedVariables false
set_option linter.unusedSimpArgs false
namespace Go.Ab
open Go
section
variable {P : Program} {F : Fn}
theorem hb0 : banM [] 7 10 = [(7, 10)] := by simp [banM, findAt, putM]
theorem hu1 : untilM [(7, 10)] 7 = some 10 := by simp [untilM, findAt, List.findIdx?_cons]
theorem hb1 : bannedM [(7, 10)] 7 9 = true := by simp [bannedM, hu1]
theorem hb2 : bannedM [(7, 10)] 7 10 = false := by simp [bannedM, hu1]
theorem hb3 : bannedM [(7, 10)] 8 0 = false := by simp [bannedM, untilM, findAt, List.findIdx?_cons]

/-- bans -/
theorem spec12 (ok : OkBan P F) (ol : OkLaw17 P F) (st : St) : ACalls P (F 12) [] st fun v st' => v = .bool true ∧ st' = st := by
  refine shows_call ol.mixed ol.h12 (by simp [k12]) ?_
  simp [k12]
  intro tid htid
  simp
  refine (ban_call ok (tab_new (Sep.start st) htid) (by simp) 7 10).mono ?_
  rintro v st1 ⟨rfl, S1⟩
  rw [hb0] at S1
  have T1 := tab_of S1
  have hw := S1.drop.was
  simp
  refine (spec15 ok T1 7).mono ?_
  rintro v st2 ⟨rfl, rfl⟩
  simp [hu1]
  refine (spec17 ok T1 7 9).mono ?_
  rintro v st2 ⟨rfl, rfl⟩
  simp [hb1]
  refine (spec17 ok T1 7 10).mono ?_
  rintro v st2 ⟨rfl, rfl⟩
  simp [hb2]
  refine (spec17 ok T1 8 0).mono ?_
  rintro v st2 ⟨rfl, rfl⟩
  simp [hb3]
  refine (spec13 ok T1).mono ?_
  rintro v st2 ⟨rfl, rfl⟩
  simp
  exact hw
/-- BanSmall -/
theorem spec3 (ok : OkBan P F) (ol : OkLaw17 P F) (st : St) (k0 : SK) (l : List (Int × Int × Int)) : ACalls P (F 3) [.sl k0 (rowsOf e3 l) l.length] st fun v st' => v = .bool true := by
  refine shows_call ol.mixed ol.h3 (by simp [k3]) ?_
  simp [k3]
  refine (spec12 ok ol st).mono ?_
  rintro v st0 ⟨rfl, rfl⟩
  simp
  by_cases h200 : (200 : Int) < l.length
  · simp [h200]
    exact ⟨_, sub_self _⟩
  · simp [h200]
    intro tid htid
    simp
    refine vc_loopJ (fun k env' st' => ∃ i rows, i ≤ l.length ∧ k = l.length - i ∧ env' 16 = .int .i64 (i : Nat) ∧ rows.length ≤ 32 ∧ Sep [Tab tid rows] st') l.length ⟨0, [], by omega, by omega, rfl, by simp, tab_new (L := []) trivial htid⟩ ?_
    rintro J hJ k env' st1 hsame ⟨i, rows, hi, rfl, h16, hrl, S1⟩
    have h3 : env' 3 = .ptr (some (tid, 0)) := hsame.get 3 rfl
    have h14 : env' 14 = .sl k0 (rowsOf e3 l) l.length := hsame.get 14 rfl
    have h15 : env' 15 = .int .i64 l.length := hsame.get 15 rfl
    clear hsame
    have w2 : IntKind.i64.wrap ((i : Int) + 1) = (i : Int) + 1 := wrap64 (by omega) (by omega)
    by_cases hlt : i < l.length
    · have hsg := rowsOf_eptr e3_len l hlt
      simp [h3, h14, h15, h16, hlt, hsg, e3]
      intro oid hoid
      simp [storeS, spliceV, hoid, h3]
      have S2 := (S1.new hoid (.cells [V.int .i64 l[i].1, V.int .i64 l[i].2.1, V.int .i64 l[i].2.2])).swap
      generalize hst2 : st1.upd oid (.cells [V.int .i64 l[i].1, V.int .i64 l[i].2.1, V.int .i64 l[i].2.2]) = st2 at S2
      have o2 := S2.swap.get
      refine (spec13 ok (tab_of S2)).mono ?_
      rintro v st2' ⟨rfl, rfl⟩
      simp [St.seg, segOf, o2, h3]
      refine (ban_call ok S2 hrl l[i].2.1 l[i].2.2).mono ?_
      rintro v st3 ⟨rfl, S3⟩
      have o3 := S3.swap.get
      simp [St.seg, segOf, o3, h3]
      refine (spec15 ok (tab_of S3) l[i].2.1).mono ?_
      rintro v st3' ⟨rfl, rfl⟩
      simp [h3]
      refine (spec13 ok (tab_of S3)).mono ?_
      rintro v st3' ⟨rfl, rfl⟩
      have hl2 := banM_length hrl l[i].2.1 l[i].2.2
      have hl3 : ¬ ((32 : Int) < (banM rows l[i].2.1 l[i].2.2).length) := by omega
      simp [hl3]
      rcases banM_until (rows := rows) l[i].2.1 l[i].2.2 with ⟨x, hx, hux⟩ | ⟨hn, hfull⟩
      · have hux' : ¬ x < l[i].2.2 := by omega
        simp [hx, hux', St.seg, segOf, o3, h16, w2]
        refine Round.mk (l.length - (i + 1)) _ (by omega) (sub_self _) (hJ _ _ _ ⟨i + 1, _, by omega, rfl, ?_, hl2, S3.swap.drop⟩)

        simp
      · have h32 : ((rows.length : Int) == 32) = true := by simp; omega
        simp [hn, h32, h16, w2]
        refine Round.mk (l.length - (i + 1)) _ (by omega) (sub_self _) (hJ _ _ _ ⟨i + 1, _, by omega, rfl, ?_, hl2, S3.swap.drop⟩)

        simp
    · simp [h3, h14, h15, h16, hlt]
      exact ⟨_, sub_self _⟩

theorem banM_nil (a u : Int) : banM [] a u = [(a, u)] := by simp [banM, findAt, putM]
theorem banM_one (a u m : Int) : banM [(a, m)] a u = [(a, max u m)] := by simp [banM, findAt, List.findIdx?_cons]
theorem untilM_one (a m : Int) : untilM [(a, m)] a = some m := by simp [untilM, findAt, List.findIdx?_cons]
theorem untilM_nil (a : Int) : untilM [] a = none := by simp [untilM, findAt]

/-- BanLonger -/
theorem spec6 (ok : OkBan P F) (ol : OkLaw17 P F) (st : St) (k0 : SK) (a now : Int) (l : List Int) : ACalls P (F 6) [.int .i64 a, .sl k0 (rowsOf e1 l) l.length, .int .i64 now] st fun v st' => v = .bool true := by
  refine shows_call ol.mixed ol.h6 (by simp [k6]) ?_
  simp [k6]
  refine (spec12 ok ol st).mono ?_
  rintro v st0 ⟨rfl, rfl⟩
  simp
  by_cases h100 : (100 : Int) < l.length
  · simp [h100]
    exact ⟨_, sub_self _⟩
  · by_cases h0 : l = []
    · subst h0
      simp
      exact ⟨_, sub_self _⟩
    · have hpos : 0 < l.length := List.length_pos_iff.2 h0
      have hne : ((l.length : Int) == 0) = false := by simp; exact h0
      have hsg0 := rowsOf_eptr e1_len l hpos
      simp only [Nat.zero_mul, List.drop_zero] at hsg0
      simp [h100, hne, hpos]
      intro tid htid
      simp [hpos, hsg0, e1]
      refine vc_loopJ (fun k env' st' => ∃ i most, i ≤ l.length ∧ k = l.length - i ∧ env' 31 = .int .i64 (i : Nat) ∧ env' 8 = .int .i64 most ∧ (i = 0 → most = l[0]) ∧ Sep [Tab tid (if i = 0 then [] else [(a, most)])] st') l.length ⟨0, l[0], by omega, by omega, rfl, rfl, fun _ => rfl, tab_new (L := []) trivial htid⟩ ?_
      rintro J hJ k env' st1 hsame ⟨i, most, hi, rfl, h31, h8, hm0, S1⟩
      have e0 : env' 0 = .int .i64 a := hsame.get 0 rfl
      have e2 : env' 2 = .int .i64 now := hsame.get 2 rfl
      have e7 : env' 7 = .ptr (some (tid, 0)) := hsame.get 7 rfl
      have e29 : env' 29 = .sl k0 (rowsOf e1 l) l.length := hsame.get 29 rfl
      have e30 : env' 30 = .int .i64 l.length := hsame.get 30 rfl
      clear hsame
      have w2 : IntKind.i64.wrap ((i : Int) + 1) = (i : Int) + 1 := wrap64 (by omega) (by omega)
      by_cases hlt : i < l.length
      · have hsg := rowsOf_eptr e1_len l hlt
        rw [Nat.mul_one] at hsg
        simp [e0, e7, e29, e30, h31, hlt, hsg, e1]
        refine (ban_call ok S1 (by split <;> simp) a l[i]).mono ?_
        rintro v st3 ⟨rfl, S3⟩
        have hb : banM (if i = 0 then [] else [(a, most)]) a l[i] = [(a, max most l[i])] := by
          split
          · rename_i h
            subst h
            rw [banM_nil, hm0 rfl, Int.max_self]
          · rw [banM_one, Int.max_comm]
        rw [hb] at S3
        simp [e0, e7, h8, foldV, max2V]
        refine (spec15 ok (tab_of S3) a).mono ?_
        rintro v st3' ⟨rfl, rfl⟩
        simp [untilM_one, e7]
        refine (spec13 ok (tab_of S3)).mono ?_
        rintro v st3' ⟨rfl, rfl⟩
        simp [h31, w2]
        refine Round.mk (l.length - (i + 1)) _ (by omega) (sub_self _) (hJ _ _ _ ⟨i + 1, max most l[i], by omega, rfl, by simp, by simp, by simp, ?_⟩)
        simpa using S3
      · have : i = l.length := by omega
        subst this
        rw [if_neg (by omega)] at S1
        simp [e0, e2, e7, e29, e30, h31]
        refine (spec17 ok (tab_of S1) a now).mono ?_
        rintro v st3 ⟨rfl, rfl⟩
        have hbn : bannedM [(a, most)] a now = decide (now < most) := by simp [bannedM, untilM_one]
        simp [hbn, e2, e7]
        refine (sweep_call ok S1 now).mono ?_
        rintro v st4 ⟨rfl, S4⟩
        simp [e0, e7]
        by_cases hlt2 : now < most
        · have hf : [(a, most)].filter (keepP now) = [(a, most)] := by simp [keepP, hlt2]
          rw [hf] at S4
          refine (spec15 ok (tab_of S4) a).mono ?_
          rintro v st5 ⟨rfl, rfl⟩
          simp [untilM_one, hlt2, e0, e2, e7, h8, eqK]
          refine (spec17 ok (tab_of S4) a now).mono ?_
          rintro v st5 ⟨rfl, rfl⟩
          simp [hbn, hlt2, eqK]
          exact ⟨_, sub_self _⟩
        · have hf : [(a, most)].filter (keepP now) = [] := by simp [keepP, hlt2] <;> omega
          rw [hf] at S4
          refine (spec15 ok (tab_of S4) a).mono ?_
          rintro v st5 ⟨rfl, rfl⟩
          simp [untilM_nil, hlt2, e0, e2, e7, h8, eqK]
          refine (spec17 ok (tab_of S4) a now).mono ?_
          rintro v st5 ⟨rfl, rfl⟩
          simp [bannedM, untilM_nil, hlt2, eqK]
          exact ⟨_, sub_self _⟩
end
end Go.Ab
