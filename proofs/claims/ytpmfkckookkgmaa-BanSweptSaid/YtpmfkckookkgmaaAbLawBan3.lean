/-
  The walk of BanSwept.
-/
import Derived.Test.YtpmfkckookkgmaaAbLawBan2
set_option linter.unusedVariables false
set_option linter.unusedSimpArgs false
set_option maxRecDepth 10000
namespace Go.Ab
open Go
section
variable {P : Program} {F : Fn}

theorem keptM_snoc (rows : Rows2) (now : Int) (l : List (Int × Int × Int)) (o : Int × Int × Int) : keptM rows now (l ++ [o]) = if bannedM rows o.2.1 now = true then keptM rows now l ++ [o.2.1] else keptM rows now l := by
  unfold keptM
  rw [List.filter_append]
  cases h : bannedM rows o.2.1 now <;> simp [h]

/-- BanSwept -/
theorem spec7 (ok : OkBan P F) (ol : OkLaw17 P F) (st : St) (k0 : SK) (now : Int) (l : List (Int × Int × Int)) : ACalls P (F 7) [.sl k0 (rowsOf e3 l) l.length, .int .i64 now] st fun v st' => v = .bool true := by
  refine shows_call ol.mixed ol.h7 (by simp [k7]) ?_
  simp [k7]
  refine (spec12 ok ol st).mono ?_
  rintro v st0 ⟨rfl, rfl⟩
  simp
  by_cases h60 : (60 : Int) < l.length
  · simp [h60]
    exact ⟨_, sub_self _⟩
  · simp [h60]
    intro tid htid
    simp
    -- the bans
    refine vc_loopJ (fun k env' st' => ∃ i, i ≤ l.length ∧ k = l.length - i ∧ env' 26 = .int .i64 (i : Nat) ∧ Sep [Tab tid (bansM (l.take i))] st') l.length ⟨0, by omega, by omega, rfl, tab_new (L := []) trivial htid⟩ ?_
    rintro J hJ k env' st3 hsame ⟨i, hi, rfl, h26, S3⟩
    have g0 : env' 0 = .sl k0 (rowsOf e3 l) l.length := hsame.get 0 rfl
    have g1 : env' 1 = .int .i64 now := hsame.get 1 rfl
    have g5 : env' 5 = .ptr (some (tid, 0)) := hsame.get 5 rfl
    have g24 : env' 24 = .sl k0 (rowsOf e3 l) l.length := hsame.get 24 rfl
    have g25 : env' 25 = .int .i64 l.length := hsame.get 25 rfl
    clear hsame
    have w2 : IntKind.i64.wrap ((i : Int) + 1) = (i : Int) + 1 := wrap64 (by omega) (by omega)
    by_cases hlt : i < l.length
    · have hsg := rowsOf_eptr e3_len l hlt
      simp [g1, g5, g24, g25, h26, hlt, hsg, e3]
      intro oid hoid
      have S4 := (S3.new hoid (.cells [.int .i64 l[i].1, .int .i64 l[i].2.1, .int .i64 l[i].2.2])).swap
      have hrl := (bansM_all (l.take i)).2.1
      simp [storeS, spliceV, St.seg, segOf, g5]
      refine (ban_call ok S4 hrl l[i].2.1 l[i].2.2).mono ?_
      rintro v st5 ⟨rfl, S5⟩
      simp [h26, w2]
      refine Round.mk (l.length - (i + 1)) _ (by omega) (sub_self _) (hJ _ _ _ ⟨i + 1, by omega, rfl, by simp, ?_⟩)
      rw [List.take_succ_eq_append_getElem hlt, bansM_snoc]
      exact S5.swap.drop
    · have : i = l.length := by omega
      subst this
      rw [List.take_length] at S3
      clear hJ w2
      obtain ⟨hu, hrl, hin⟩ := bansM_all l
      have hke := kept_enough l now
      obtain ⟨A, hA⟩ : ∃ A, A = bansM l := ⟨_, rfl⟩
      rw [← hA] at S3 hu hrl hin hke
      simp [g0, g24, g25, h26]
      -- who is banned
      refine vc_loopJ (fun k env' st' => ∃ i s, i ≤ l.length ∧ k = l.length - i ∧ env' 38 = .int .i64 (i : Nat) ∧ env' 8 = s ∧ Sep [Tab tid A, Sl 1 e1 s (keptM A now (l.take i))] st') l.length ⟨0, _, by omega, by omega, rfl, rfl, (Sep.slNil S3).swap⟩ ?_
      rintro J hJ k env2 st5 hsame ⟨i, s, hi, rfl, h38, h8, S5⟩
      have q0 : env2 0 = .sl k0 (rowsOf e3 l) l.length := (hsame.get 0 rfl).trans g0
      have q1 : env2 1 = .int .i64 now := (hsame.get 1 rfl).trans g1
      have q5 : env2 5 = .ptr (some (tid, 0)) := (hsame.get 5 rfl).trans g5
      have q36 : env2 36 = .sl k0 (rowsOf e3 l) l.length := hsame.get 36 rfl
      have q37 : env2 37 = .int .i64 l.length := hsame.get 37 rfl
      clear hsame
      have w3 : IntKind.i64.wrap ((i : Int) + 1) = (i : Int) + 1 := wrap64 (by omega) (by omega)
      by_cases hlt : i < l.length
      · have hsg := rowsOf_eptr e3_len l hlt
        simp [q36, q37, h38, hlt, hsg, e3]
        intro oid hoid
        have S6 := (S5.new hoid (.cells [.int .i64 l[i].1, .int .i64 l[i].2.1, .int .i64 l[i].2.2])).swap
        simp [storeS, spliceV, St.seg, segOf, q1, q5]
        refine (spec17 ok (tab_of S6) l[i].2.1 now).mono ?_
        rintro v st7 ⟨rfl, rfl⟩
        have hsn : keptM A now (l.take (i + 1)) = if bannedM A l[i].2.1 now = true then keptM A now (l.take i) ++ [l[i].2.1] else keptM A now (l.take i) := by
          rw [List.take_succ_eq_append_getElem hlt, keptM_snoc]
        cases hb : bannedM A l[i].2.1 now with
        | false =>
          rw [hb] at hsn
          simp [h38, w3]
          refine Round.mk (l.length - (i + 1)) _ (by omega) (sub_self _) (hJ _ _ _ ⟨i + 1, s, by omega, rfl, by simp, by simp [h8], ?_⟩)
          rw [hsn, if_neg (by simp)]
          exact S6.swap.drop
        | true =>
          rw [hb, if_pos rfl] at hsn
          have S7 : Sep [Sl 1 e1 s (keptM A now (l.take i)), Tab tid A] (st5.upd oid (.cells [.int .i64 l[i].1, .int .i64 l[i].2.1, .int .i64 l[i].2.2])) := S6.swap.drop.swap
          have hkl : (keptM A now (l.take i)).length ≤ i := by
            unfold keptM
            rw [List.length_map]
            exact Nat.le_trans (List.length_filter_le _ _) (by simp; omega)
          simp [h8, St.seg, segOf, fillV, spliceV, repV, elems]
          refine Sep.app1 e1_len (by omega) S7 (a := l[i].2.1) rfl (by omega) ?_
          intro s' st' S8
          simp [h38, w3]
          refine Round.mk (l.length - (i + 1)) _ (by omega) (sub_self _) (hJ _ _ _ ⟨i + 1, s', by omega, rfl, by simp, by simp, ?_⟩)
          rw [hsn]
          exact S8.swap
      · have : i = l.length := by omega
        subst this
        rw [List.take_length] at S5
        clear hJ w3
        simp [q0, q1, q5, q36, q37, h38]
        refine (sweep_call ok S5 now).mono ?_
        rintro v st6 ⟨rfl, S6⟩
        simp [q5]
        refine (spec13 ok (tab_of S6)).mono ?_
        rintro v st6' ⟨rfl, rfl⟩
        simp [q1, q5]
        refine (sweep_call ok S6 now).mono ?_
        rintro v st7 ⟨rfl, S7⟩
        rw [filter_again] at S7
        simp [q0]
        -- all are looked at again
        refine vc_loopJ (fun k env' st' => ∃ i, i ≤ l.length ∧ k = l.length - i ∧ env' 59 = .int .i64 (i : Nat) ∧ Sep [Tab tid (A.filter (keepP now)), Sl 1 e1 s (keptM A now l)] st') l.length ⟨0, by omega, by omega, rfl, S7⟩ ?_
        rintro J hJ k env3 st8 hsame ⟨i, hi, rfl, h59, S8⟩
        have r1 : env3 1 = .int .i64 now := (hsame.get 1 rfl).trans q1
        have r5 : env3 5 = .ptr (some (tid, 0)) := (hsame.get 5 rfl).trans q5
        have r8 : env3 8 = s := (hsame.get 8 rfl).trans h8
        have r11 : env3 11 = .int .i64 (A.filter (keepP now)).length := hsame.get 11 rfl
        have r57 : env3 57 = .sl k0 (rowsOf e3 l) l.length := hsame.get 57 rfl
        have r58 : env3 58 = .int .i64 l.length := hsame.get 58 rfl
        clear hsame
        have hlenS := (S8.swap.rd e1_len).len
        by_cases hlt : i < l.length
        · have w4 : IntKind.i64.wrap ((i : Int) + 1) = (i : Int) + 1 := wrap64 (by omega) (by omega)
          have hsg := rowsOf_eptr e3_len l hlt
          simp [r57, r58, h59, hlt, hsg, e3]
          intro oid hoid
          have S9 := (S8.new hoid (.cells [.int .i64 l[i].1, .int .i64 l[i].2.1, .int .i64 l[i].2.2])).swap
          simp [storeS, spliceV, St.seg, segOf, r1, r5]
          refine (spec15 ok (tab_of S9) l[i].2.1).mono ?_
          rintro v st10 ⟨rfl, rfl⟩
          rw [until_filter hu]
          simp [r8, hlenS]
          refine vc_loopJ (fun k env' st' => ∃ j, j ≤ (keptM A now l).length ∧ k = (keptM A now l).length - j ∧ env' 71 = .int .i64 (j : Nat) ∧ env' 16 = .bool (decide (l[i].2.1 ∈ (keptM A now l).take j)) ∧
            Sep [Tab tid (A.filter (keepP now)), pt oid (.cells [.int .i64 l[i].1, .int .i64 l[i].2.1, .int .i64 l[i].2.2]), Sl 1 e1 s (keptM A now l)] st') (keptM A now l).length ⟨0, by omega, by omega, rfl, by simp, S9⟩ ?_
          rintro J2 hJ2 k env4 st11 hsame ⟨j, hj, rfl, h71, h16, S11⟩
          have t1 : env4 1 = .int .i64 now := (hsame.get 1 rfl).trans r1
          have t5 : env4 5 = .ptr (some (tid, 0)) := (hsame.get 5 rfl).trans r5
          have t13 : env4 13 = .ptr (some (oid, 0)) := hsame.get 13 rfl
          have t15 : env4 15 = .bool (if bannedM A l[i].2.1 now = true then untilM A l[i].2.1 else none).isSome := hsame.get 15 rfl
          have t59 : env4 59 = .int .i64 i := (hsame.get 59 rfl).trans h59
          have t69 : env4 69 = s := hsame.get 69 rfl
          have t70 : env4 70 = .int .i64 (keptM A now l).length := hsame.get 70 rfl
          clear hsame
          have S12 := S11.swap
          have o12 := S12.get
          have w5 : IntKind.i64.wrap ((j : Int) + 1) = (j : Int) + 1 := wrap64 (by omega) (by
            have : (keptM A now l).length ≤ l.length := by
              unfold keptM
              rw [List.length_map]
              exact List.length_filter_le _ _
            omega)
          by_cases hjl : j < (keptM A now l).length
          · obtain ⟨p, hp1, hp2⟩ := (Sep.rd e1_len (Sep.swap S12.drop)).idx e1_len hjl .i64
            simp [t13, t69, t70, h71, hjl, hp1, hp2, h16, e1]
            have hin2 : decide (l[i].2.1 ∈ (keptM A now l).take (j + 1)) = (decide (l[i].2.1 ∈ (keptM A now l).take j) || ((keptM A now l)[j] == l[i].2.1)) := by
              rw [List.take_succ_eq_append_getElem hjl, Bool.eq_iff_iff]
              simp only [List.mem_append, List.mem_singleton, Bool.or_eq_true, decide_eq_true_eq, beq_iff_eq]
              constructor <;> (rintro (h | h)) <;> first | exact .inl h | exact .inr h.symm
            cases hd : decide (l[i].2.1 ∈ (keptM A now l).take j) with
            | true =>
              simp [h71, w5]
              refine Round.mk ((keptM A now l).length - (j + 1)) _ (by omega) (sub_self _) (hJ2 _ _ _ ⟨j + 1, by omega, rfl, by simp, ?_, S11⟩)
              rw [hin2, hd]
              simp
            | false =>
              simp [h71, w5, t13, St.seg, segOf, o12]
              refine Round.mk ((keptM A now l).length - (j + 1)) _ (by omega) (sub_self _) (hJ2 _ _ _ ⟨j + 1, by omega, rfl, by simp, ?_, S11⟩)
              rw [hin2, hd]
              simp
          · have : j = (keptM A now l).length := by omega
            subst this
            have hfound : decide (l[i].2.1 ∈ (keptM A now l).take (keptM A now l).length) = bannedM A l[i].2.1 now := by
              rw [List.take_length, Bool.eq_iff_iff, decide_eq_true_iff]
              exact kept_iff A now _ l ⟨l[i], List.getElem_mem _, rfl⟩
            rw [hfound] at h16
            have hsome : (if bannedM A l[i].2.1 now = true then untilM A l[i].2.1 else none).isSome = bannedM A l[i].2.1 now := by
              cases hb : bannedM A l[i].2.1 now with
              | false => simp
              | true =>
                unfold bannedM at hb
                cases hu2 : untilM A l[i].2.1 with
                | none => rw [hu2] at hb; simp at hb
                | some x => simp
            rw [hsome] at t15
            simp [t1, t5, t13, t15, t69, t70, h71, h16, eqK, St.seg, segOf, o12]
            refine (spec17 ok (tab_of S11) l[i].2.1 now).mono ?_
            rintro v st12 ⟨rfl, rfl⟩
            rw [banned_filter hu]
            simp [h16, eqK, t59, w4]
            exact Round.mk (l.length - (i + 1)) _ (by omega) (sub_self _) (hJ _ _ _ ⟨i + 1, by omega, rfl, by simp, S12.drop⟩)
        · simp [r5, r8, r11, r57, r58, h59, hlt]
          refine (spec13 ok (tab_of S8)).mono ?_
          rintro v st9 ⟨rfl, rfl⟩
          simp [r8, r11, hlenS, hke]
          exact ⟨_, sub_self _⟩
end
end Go.Ab
