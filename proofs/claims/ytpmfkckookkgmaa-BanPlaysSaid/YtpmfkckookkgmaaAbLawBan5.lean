/-
  The walk of BanPlays.
-/
import Derived.Test.YtpmfkckookkgmaaAbLawBan4
set_option linter.unusedVariables false
set_option linter.unusedSimpArgs false
set_option maxRecDepth 10000
namespace Go.Ab
open Go
section
variable {P : Program} {F : Fn}

/-- BanPlays -/
theorem spec5 (ok : OkBan P F) (ol : OkLaw17 P F) (st : St) (k0 : SK) (l : List (Int × Int × Int)) (qa qn : Int) : ACalls P (F 5) [.sl k0 (rowsOf e3 l) l.length, .agg [.int .i64 qa, .int .i64 qn]] st fun v st' => v = .bool true := by
  refine shows_call ol.mixed ol.h5 (by simp [k5]) ?_
  simp [k5]
  intro pid hpid
  simp
  refine (spec12 ok ol _).mono ?_
  rintro v st0 ⟨rfl, rfl⟩
  simp
  by_cases h120 : (120 : Int) < l.length
  · simp [h120]
    exact ⟨_, sub_self _⟩
  · simp [h120]
    have S0 : Sep [pt pid (.cells [.int .i64 qa, .int .i64 qn])] (st.upd pid (.cells [.int .i64 qa, .int .i64 qn])) := Sep.new (L := []) trivial hpid _
    intro tid htid
    simp
    have S1 := (Sep.slNil (sz := 2) (f := e2) (tab_new S0 htid)).swap
    refine vc_loopJ (fun k env' st' => ∃ i s, i ≤ l.length ∧ k = l.length - i ∧ env' 32 = .int .i64 (i : Nat) ∧ env' 6 = s ∧ Sep [Tab tid (playM (l.take i)), Sl 2 e2 s (playM (l.take i)), pt pid (.cells [.int .i64 qa, .int .i64 qn])] st') l.length ⟨0, _, by omega, by omega, rfl, rfl, S1⟩ ?_
    rintro J hJ k env' st3 hsame ⟨i, s, hi, rfl, h32, h6, S3⟩
    have g0 : env' 0 = .sl k0 (rowsOf e3 l) l.length := hsame.get 0 rfl
    have g3 : env' 3 = .ptr (some (pid, 0)) := hsame.get 3 rfl
    have g5 : env' 5 = .ptr (some (tid, 0)) := hsame.get 5 rfl
    have g30 : env' 30 = .sl k0 (rowsOf e3 l) l.length := hsame.get 30 rfl
    have g31 : env' 31 = .int .i64 l.length := hsame.get 31 rfl
    clear hsame
    have w2 : IntKind.i64.wrap ((i : Int) + 1) = (i : Int) + 1 := wrap64 (by omega) (by omega)
    obtain ⟨hu, hrl⟩ := play_all (l.take i)
    by_cases hlt : i < l.length
    · have hsg := rowsOf_eptr e3_len l hlt
      have hsn : playM (l.take (i + 1)) = stepM (playM (l.take i)) l[i] := by rw [List.take_succ_eq_append_getElem hlt, playM_snoc]
      obtain ⟨A, hA⟩ : ∃ A, A = playM (l.take i) := ⟨_, rfl⟩
      rw [← hA] at S3 hu hrl hsn
      simp [g30, g31, h32, hlt, hsg, e3]
      intro oid hoid
      have S4 := (S3.new hoid (.cells [.int .i64 l[i].1, .int .i64 l[i].2.1, .int .i64 l[i].2.2])).swap
      simp [storeS, spliceV, St.seg, segOf]
      by_cases hk : l[i].1 = 1
      · -- a sweep
        have hst : stepM A l[i] = A.filter (keepP l[i].2.2) := by simp [stepM, hk]
        simp [hk, g5, St.seg, segOf]
        rw [hk] at S4
        refine (sweep_call ok S4 l[i].2.2).mono ?_
        rintro v st5 ⟨rfl, S5⟩
        have S5' : Sep [Tab tid (A.filter (keepP l[i].2.2)), Sl 2 e2 s A, pt oid (.cells [.int .i64 1, .int .i64 l[i].2.1, .int .i64 l[i].2.2]), pt pid (.cells [.int .i64 qa, .int .i64 qn])] st5 := Sep.tail (fun r hr => hr.swap) S5
        have hlenS := ((Sep.rd e2_len S5'.swap)).len
        simp [h6, hlenS]
        refine vc_loopJ (fun k env' st' => ∃ j s2, j ≤ A.length ∧ k = A.length - j ∧ env' 44 = .int .i64 (j : Nat) ∧ env' 9 = s2 ∧
          Sep [Sl 2 e2 s2 ((A.take j).filter (keepP l[i].2.2)), Sl 2 e2 s A, pt oid (.cells [.int .i64 1, .int .i64 l[i].2.1, .int .i64 l[i].2.2]), Tab tid (A.filter (keepP l[i].2.2)), pt pid (.cells [.int .i64 qa, .int .i64 qn])] st') A.length
          ⟨0, _, by omega, by omega, rfl, rfl, by
            have h1 : Sep [Sl 2 e2 s A, pt oid (.cells [.int .i64 1, .int .i64 l[i].2.1, .int .i64 l[i].2.2]), Tab tid (A.filter (keepP l[i].2.2)), pt pid (.cells [.int .i64 qa, .int .i64 qn])] st5 := Sep.tail (fun r hr => hr.swap) S5'.swap
            exact Sep.slNil h1⟩ ?_
        rintro J2 hJ2 k env2 st6 hsame ⟨j, s2, hj, rfl, h44, h9, S6⟩
        have q8 : env2 8 = .ptr (some (oid, 0)) := hsame.get 8 rfl
        have q32 : env2 32 = .int .i64 i := (hsame.get 32 rfl).trans h32
        have q5 : env2 5 = .ptr (some (tid, 0)) := (hsame.get 5 rfl).trans g5
        have q42 : env2 42 = s := hsame.get 42 rfl
        have q43 : env2 43 = .int .i64 A.length := hsame.get 43 rfl
        clear hsame
        have w3 : IntKind.i64.wrap ((j : Int) + 1) = (j : Int) + 1 := wrap64 (by omega) (by omega)
        by_cases hjl : j < A.length
        · obtain ⟨p, hp1, hp2⟩ := (Sep.rd e2_len S6.swap).idx e2_len hjl .i64
          simp [q42, q43, h44, hjl, hp1, hp2, e2]
          intro bid hbid
          have S7 := S6.new hbid (.cells [.int .i64 A[j].1, .int .i64 A[j].2])
          have o6 := (Sep.pull 2 _ S6).get
          have n6 := ne_id o6 hbid
          simp [storeS, spliceV, St.seg, segOf, idxArrV, q8, o6, n6]
          have hsn2 : (A.take (j + 1)).filter (keepP l[i].2.2) = (A.take j).filter (keepP l[i].2.2) ++ (if l[i].2.2 < A[j].2 then [A[j]] else []) := by
            rw [List.take_succ_eq_append_getElem hjl, List.filter_append]
            by_cases hc : l[i].2.2 < A[j].2 <;> simp [keepP, hc]
          by_cases hc : l[i].2.2 < A[j].2
          · rw [if_pos hc] at hsn2
            simp [hc, h9, St.seg, segOf, fillV, spliceV, repV, elems]
            have hfl : ((A.take j).filter (keepP l[i].2.2)).length ≤ 32 := Nat.le_trans (List.length_filter_le _ _) (by simp; omega)
            refine Sep.app1 e2_len (by omega) S7.swap (a := A[j]) rfl (by omega) ?_
            intro s' st' S8
            simp [h44, w3]
            refine Round.mk (A.length - (j + 1)) _ (by omega) (sub_self _) (hJ2 _ _ _ ⟨j + 1, s', by omega, rfl, by simp, by simp, ?_⟩)
            rw [hsn2]
            exact Sep.tail (fun r hr => hr.drop) S8
          · rw [if_neg hc, List.append_nil] at hsn2
            simp [hc, h44, w3]
            refine Round.mk (A.length - (j + 1)) _ (by omega) (sub_self _) (hJ2 _ _ _ ⟨j + 1, s2, by omega, rfl, by simp, by simp [h9], ?_⟩)
            rw [hsn2]
            exact S7.drop
        · have : j = A.length := by omega
          subst this
          rw [List.take_length] at S6
          have S7 : Sep [Tab tid (A.filter (keepP l[i].2.2)), Sl 2 e2 s2 (A.filter (keepP l[i].2.2)), pt pid (.cells [.int .i64 qa, .int .i64 qn])] st6 := by
            have h1 := Sep.pull 3 _ S6
            exact Sep.tail (fun r hr => Sep.tail (fun r hr => hr.drop.drop) hr) h1
          have hlen2 := (Sep.rd e2_len S7.swap).len
          simp [q5, q42, q43, h44, h9]
          refine (spec13 ok (tab_of S7)).mono ?_
          rintro v st8 ⟨rfl, rfl⟩
          simp [hlen2, q32, w2]
          refine Round.mk (l.length - (i + 1)) _ (by omega) (sub_self _) (hJ _ _ _ ⟨i + 1, s2, by omega, rfl, by simp, by simp, ?_⟩)
          rw [hsn, hst]
          exact S7
      · -- a ban
        have hst : stepM A l[i] = banM A l[i].2.1 l[i].2.2 := by simp [stepM, hk]
        have hk' : (l[i].1 == 1) = false := by simp [hk]
        simp [hk', g5, St.seg, segOf]
        refine (ban_call ok S4 hrl l[i].2.1 l[i].2.2).mono ?_
        rintro v st5 ⟨rfl, S5⟩
        have S5' : Sep [Sl 2 e2 s A, pt oid (.cells [.int .i64 l[i].1, .int .i64 l[i].2.1, .int .i64 l[i].2.2]), Tab tid (banM A l[i].2.1 l[i].2.2), pt pid (.cells [.int .i64 qa, .int .i64 qn])] st5 := by
          have h1 := Sep.pull 2 _ S5
          exact Sep.tail (fun r hr => hr.swap) h1
        have hlenS := (Sep.rd e2_len S5').len
        simp [h6, hlenS]
        refine vc_loopJ (fun k env' st' => ∃ j, j ≤ A.length ∧ k = A.length - j ∧ env' 66 = .int .i64 (j : Nat) ∧ env' 12 = .bool ((A.take j).any fun r => r.1 == l[i].2.1) ∧
          Sep [Sl 2 e2 s (turnTo (updM l[i].2.1 l[i].2.2) A j), pt oid (.cells [.int .i64 l[i].1, .int .i64 l[i].2.1, .int .i64 l[i].2.2]), Tab tid (banM A l[i].2.1 l[i].2.2), pt pid (.cells [.int .i64 qa, .int .i64 qn])] st') A.length
          ⟨0, by omega, by omega, rfl, rfl, by rw [turnTo_zero]; exact S5'⟩ ?_
        rintro J2 hJ2 k env2 st6 hsame ⟨j, hj, rfl, h66, h12, S6⟩
        have q5 : env2 5 = .ptr (some (tid, 0)) := (hsame.get 5 rfl).trans g5
        have q6 : env2 6 = s := (hsame.get 6 rfl).trans h6
        have q8 : env2 8 = .ptr (some (oid, 0)) := hsame.get 8 rfl
        have q32 : env2 32 = .int .i64 i := (hsame.get 32 rfl).trans h32
        have q64 : env2 64 = s := hsame.get 64 rfl
        have q65 : env2 65 = .int .i64 A.length := hsame.get 65 rfl
        clear hsame
        have w3 : IntKind.i64.wrap ((j : Int) + 1) = (j : Int) + 1 := wrap64 (by omega) (by omega)
        have ho0 : segOf [V.int .i64 l[i].1, .int .i64 l[i].2.1, .int .i64 l[i].2.2] 1 1 = some [V.int .i64 l[i].2.1] := rfl
        have ho1 : segOf [V.int .i64 l[i].1, .int .i64 l[i].2.1, .int .i64 l[i].2.2] 2 1 = some [V.int .i64 l[i].2.2] := rfl
        by_cases hjl : j < A.length
        · have hjl' : j < (turnTo (updM l[i].2.1 l[i].2.2) A j).length := by simpa using hjl
          have hget := turnTo_get (g := updM l[i].2.1 l[i].2.2) hjl
          have hsucc := turnTo_succ (g := updM l[i].2.1 l[i].2.2) hjl
          have hany : (A.take (j + 1)).any (fun r => r.1 == l[i].2.1) = ((A.take j).any (fun r => r.1 == l[i].2.1) || (A[j].1 == l[i].2.1)) := by
            rw [List.take_succ_eq_append_getElem hjl, List.any_append]
            simp
          obtain ⟨R, hR⟩ : ∃ R, R = turnTo (updM l[i].2.1 l[i].2.2) A j := ⟨_, rfl⟩
          have hRl : R.length = A.length := by rw [hR]; simp
          simp only [← hR] at S6 hjl' hget hsucc
          obtain ⟨sid, spare, rfl, hsp, S7⟩ := Sep.slObj S6 (by intro e; rw [e] at hRl; simp at hRl; omega)
          have o7 := S7.get
          have o8 := S7.swap.get
          have hp0 : segOf (rowsOf e2 R ++ spare) (j * 2) 1 = some [V.int .i64 A[j].1] := by
            have := rowsOf_part e2_len R spare (i := j) (o := 0) (n := 1) hjl' (by omega)
            rw [Nat.add_zero, hget] at this
            exact this
          have hp1 : segOf (rowsOf e2 R ++ spare) (j * 2 + 1) 1 = some [V.int .i64 A[j].2] := by
            have := rowsOf_part e2_len R spare (i := j) (o := 1) (n := 1) hjl' (by omega)
            rw [hget] at this
            exact this
          have hlt3 : (j : Int) < R.length := by omega
          simp [q6, q8, q64, q65, h66, hjl, hlt3, idxArrV, St.seg, o7, o8, hp0, hp1, ho0, ho1]
          by_cases hm : A[j].1 = l[i].2.1
          · have hst8 : storeS st6 1 (.ptr (some (sid, j * 2 + 1))) (.int .i64 (max A[j].2 l[i].2.2)) = some (st6.upd sid (.cells (rowsOf e2 (R.set j (A[j].1, max A[j].2 l[i].2.2)) ++ spare))) := by
              have hc := rowsOf_length e2_len R
              rw [store_pt (sz := 1) (cs := rowsOf e2 R ++ spare) (vs := [V.int .i64 (max A[j].2 l[i].2.2)]) o7 rfl rfl (by simp [hc]; omega),
                rowsOf_splice e2_len R spare (i := j) (o := 1) hjl' (by simp) (a := (A[j].1, max A[j].2 l[i].2.2)) (by rw [hget]; rfl)]
            simp [hm, q6, q8, h66, hlt3, idxArrV, St.seg, o7, o8, hp1, ho1, foldV, max2V]
            simp only [hm] at hst8
            simp [hst8, h66, w3]
            refine Round.mk (A.length - (j + 1)) _ (by omega) (sub_self _) (hJ2 _ _ _ ⟨j + 1, by omega, rfl, by simp, ?_, ?_⟩)
            · rw [hany]
              simp [hm]
            · rw [hsucc]
              have e1 : updM l[i].2.1 l[i].2.2 A[j] = (l[i].2.1, max A[j].2 l[i].2.2) := by simp [updM, hm]
              rw [e1]
              have := Sep.ofObj (f := e2) (l := R.set j (l[i].2.1, max A[j].2 l[i].2.2)) (S7.set _) hsp
              simpa using this
          · have hm' : (A[j].1 == l[i].2.1) = false := by simp [hm]
            simp [hm', h66, w3]
            refine Round.mk (A.length - (j + 1)) _ (by omega) (sub_self _) (hJ2 _ _ _ ⟨j + 1, by omega, rfl, by simp, ?_, ?_⟩)
            · rw [hany, hm']
              simp [h12]
            · rw [hsucc]
              have e1 : updM l[i].2.1 l[i].2.2 A[j] = R[j] := by rw [hget]; simp [updM, hm]
              rw [e1, List.set_getElem_self]
              exact S6
        · have : j = A.length := by omega
          subst this
          rw [List.take_length, known_find] at h12
          rw [turnTo_all] at S6
          simp [q64, q65, h66, h12]
          cases hf : findAt A l[i].2.1 with
          | some i1 =>
            rw [map_known hu hf] at S6
            have S7 : Sep [Tab tid (banM A l[i].2.1 l[i].2.2), Sl 2 e2 s (banM A l[i].2.1 l[i].2.2), pt pid (.cells [.int .i64 qa, .int .i64 qn])] st6 := by
              exact Sep.tail (fun r hr => Sep.tail (fun r hr => hr.drop) hr) (Sep.pull 2 _ S6)
            have hlen2 := (Sep.rd e2_len S6).len
            have hbl := banM_length hrl l[i].2.1 l[i].2.2
            have hb32 : ¬ (32 : Int) < (banM A l[i].2.1 l[i].2.2).length := by omega
            simp [q5, q6, hlen2, hb32]
            refine (spec13 ok (tab_of S7)).mono ?_
            rintro v st8 ⟨rfl, rfl⟩
            simp [q6, hlen2, q32, w2]
            exact Round.mk (l.length - (i + 1)) _ (by omega) (sub_self _) (hJ _ _ _ ⟨i + 1, s, by omega, rfl, by simp, by simp [q6], by rw [hsn, hst]; exact S7⟩)
          | none =>
            have hbn : banM A l[i].2.1 l[i].2.2 = putM A l[i].2.1 l[i].2.2 := by simp [banM, hf]
            rw [map_unknown hf] at S6
            have o6 := S6.swap.get
            simp [q6, q8, St.seg, o6, ho0, ho1, fillV, spliceV, repV, elems]
            refine Sep.app1 e2_len (by omega) S6 (a := (l[i].2.1, l[i].2.2)) rfl (by omega) ?_
            intro s' st' S8
            have hlen8 := (Sep.rd e2_len S8).len
            have hput : putM A l[i].2.1 l[i].2.2 = if (A ++ [(l[i].2.1, l[i].2.2)]).length ≤ 32 then A ++ [(l[i].2.1, l[i].2.2)] else (A ++ [(l[i].2.1, l[i].2.2)]).eraseIdx (firstMin (A ++ [(l[i].2.1, l[i].2.2)]) (A ++ [(l[i].2.1, l[i].2.2)]).length) := rfl
            obtain ⟨R, hR⟩ : ∃ R, R = A ++ [(l[i].2.1, l[i].2.2)] := ⟨_, rfl⟩
            have hRl : R.length = A.length + 1 := by rw [hR]; simp
            rw [← hR] at S8 hlen8 hput
            rw [hput] at hbn
            simp [hlen8]
            by_cases h32' : R.length ≤ 32
            · rw [if_pos h32'] at hbn
              have h33 : ¬ (32 : Int) < R.length := by omega
              have S9 : Sep [Tab tid R, Sl 2 e2 s' R, pt pid (.cells [.int .i64 qa, .int .i64 qn])] st' := by
                rw [hbn] at S8
                exact Sep.tail (fun r hr => Sep.tail (fun r hr => hr.drop) hr) (Sep.pull 2 _ S8)
              simp [h33, q5]
              refine (spec13 ok (tab_of S9)).mono ?_
              rintro v st8 ⟨rfl, rfl⟩
              simp [hlen8, q32, w2]
              exact Round.mk (l.length - (i + 1)) _ (by omega) (sub_self _) (hJ _ _ _ ⟨i + 1, s', by omega, rfl, by simp, by simp, by rw [hsn, hst, hbn]; exact S9⟩)
            · rw [if_neg h32'] at hbn
              have h33 : (32 : Int) < R.length := by omega
              rw [hbn] at S8
              simp [h33, hlen8]
              refine vc_loopJ (fun k env' st' => ∃ j, j ≤ R.length ∧ k = R.length - j ∧ env' 105 = .int .i64 (j : Nat) ∧ env' 14 = .int .i64 (firstMin R j : Nat) ∧
                Sep [Sl 2 e2 s' R, Tab tid (R.eraseIdx (firstMin R R.length)), pt pid (.cells [.int .i64 qa, .int .i64 qn])] st') R.length
                ⟨0, by omega, by omega, rfl, rfl, Sep.tail (fun r hr => hr.drop) S8⟩ ?_
              rintro J3 hJ3 k env3 st9 hsame ⟨j, hj, rfl, h105, h14, S9⟩
              have t5 : env3 5 = .ptr (some (tid, 0)) := (hsame.get 5 rfl).trans q5
              have t6 : env3 6 = s' := hsame.get 6 rfl
              have t32 : env3 32 = .int .i64 i := (hsame.get 32 rfl).trans q32
              have t103 : env3 103 = s' := hsame.get 103 rfl
              have t104 : env3 104 = .int .i64 R.length := hsame.get 104 rfl
              clear hsame
              have hfl := firstMin_lt R j (by omega) hj
              have w4 : IntKind.i64.wrap ((j : Int) + 1) = (j : Int) + 1 := wrap64 (by omega) (by omega)
              have w5 : IntKind.i64.wrap ((firstMin R j : Int) + 1) = (firstMin R j : Int) + 1 := wrap64 (by omega) (by omega)
              obtain ⟨sid, spare, rfl, hsp, S10⟩ := Sep.slObj S9 (by intro e; rw [e] at hRl; simp at hRl)
              have o10 := S10.get
              by_cases hjl : j < R.length
              · have hrow : segOf (rowsOf e2 R ++ spare) (j * 2) 2 = some [V.int .i64 R[j].1, .int .i64 R[j].2] := rowsOf_seg e2_len R spare hjl
                have hp1 : segOf (rowsOf e2 R ++ spare) (firstMin R j * 2 + 1) 1 = some [V.int .i64 (R[firstMin R j]'hfl).2] := rowsOf_part e2_len R spare (i := firstMin R j) (o := 1) (n := 1) hfl (by omega)
                have hb1 : segOf [V.int .i64 R[j].1, .int .i64 R[j].2] 1 1 = some [V.int .i64 R[j].2] := rfl
                simp [t103, t104, h105, hjl, St.seg, o10, hrow]
                intro bid hbid
                have n10 := ne_id o10 hbid
                have hfl3 : (firstMin R j : Int) < R.length := by omega
                have S11 := S9.new hbid (.cells [.int .i64 R[j].1, .int .i64 R[j].2])
                simp [storeS, spliceV, idxArrV, t6, h14, St.seg, o10, n10, hb1, hfl3, hp1, hfl]
                have hfs := firstMin_succ R j
                rw [set_getD R hjl, set_getD R hfl] at hfs
                by_cases hcmp : R[j].2 < (R[firstMin R j]'hfl).2
                · rw [if_pos hcmp] at hfs
                  simp [hcmp, h105, w4]
                  exact Round.mk (R.length - (j + 1)) _ (by omega) (sub_self _) (hJ3 _ _ _ ⟨j + 1, by omega, rfl, by simp, by simp [hfs], S11.drop⟩)
                · rw [if_neg hcmp] at hfs
                  simp [hcmp, h105, w4]
                  exact Round.mk (R.length - (j + 1)) _ (by omega) (sub_self _) (hJ3 _ _ _ ⟨j + 1, by omega, rfl, by simp, by simp [hfs, h14], S11.drop⟩)
              · have : j = R.length := by omega
                subst this
                obtain ⟨m, hm⟩ : ∃ m, m = firstMin R R.length := ⟨_, rfl⟩
                rw [← hm] at h14 hfl w5 S10
                have hml : m ≤ R.length := by omega
                have hml2 : m + 1 ≤ R.length := by omega
                have hel1 := elems_seg e2_len (l := R) o10 (i := 0) (n := m) (by omega)
                simp only [Nat.zero_mul, List.drop_zero] at hel1
                simp [t103, t104, h105, t6, h14, w5, slV, bounds, hml, hml2, fillV, repV]
                rw [hel1]
                refine Sep.appx (b := 16) e2_len (by omega) (Sep.slxFull S10) (m := R.take m) (by simp; omega) ?_
                intro s1 st11 S11
                have hel2 := elems_seg e2_len (l := R) (S11.swap.get) (i := m + 1) (n := R.length - (m + 1)) (by omega)
                rw [List.take_of_length_le (l := R.drop (m + 1)) (by simp)] at hel2
                simp only [runDK_ap, runD_x, step_app, X.ev, env_put_some, env_upd]
                simp [hel2]
                rw [show R.length - (m + 1) = (R.drop (m + 1)).length by simp]
                refine Sep.appx (b := 16) e2_len (by omega) S11 (m := R.drop (m + 1)) (by simp; omega) ?_
                intro s2 st12 S12
                have hee : [] ++ R.take m ++ R.drop (m + 1) = R.eraseIdx m := by rw [List.nil_append, List.eraseIdx_eq_take_drop_succ]
                rw [hee] at S12
                have S13 : Sep [Tab tid (R.eraseIdx m), Sl 2 e2 s2 (R.eraseIdx m), pt pid (.cells [.int .i64 qa, .int .i64 qn])] st12 := by
                  have h1 := Sep.head (fun h hh => Slx.sl hh) S12
                  exact Sep.tail (fun r hr => Sep.tail (fun r hr => hr.drop) hr) (Sep.pull 2 _ h1)
                have hlen13 := (Sep.rd e2_len S13.swap).len
                simp [t5]
                refine (spec13 ok (tab_of S13)).mono ?_
                rintro v st8 ⟨rfl, rfl⟩
                simp [hlen13, t32, w2]
                exact Round.mk (l.length - (i + 1)) _ (by omega) (sub_self _) (hJ _ _ _ ⟨i + 1, s2, by omega, rfl, by simp, by simp, by rw [hsn, hst, hbn, ← hm]; exact S13⟩)
    · have : i = l.length := by omega
      subst this
      rw [List.take_length] at S3 hu hrl
      clear hJ w2
      obtain ⟨A, hA⟩ : ∃ A, A = playM l := ⟨_, rfl⟩
      rw [← hA] at S3 hu hrl
      have o3 := (Sep.pull 2 _ S3).get
      simp [g30, g31, h32, h6, g3, idxArrV, St.seg, segOf, o3, fillV, spliceV, repV, elems]
      refine Sep.appz1 e2_len S3.swap (a := (qa, 0)) rfl (by omega) ?_
      intro st4 S4
      obtain ⟨B, hB⟩ : ∃ B, B = A ++ [(qa, 0)] := ⟨_, rfl⟩
      have hBl : B.length = A.length + 1 := by rw [hB]; simp
      rw [← hB, ← hBl]
      simp
      refine vc_loopJ (fun k env' st' => ∃ i, i ≤ B.length ∧ k = B.length - i ∧ env' 142 = .int .i64 (i : Nat) ∧ Sep [Rd 2 e2 s A, Tab tid A, pt pid (.cells [.int .i64 qa, .int .i64 qn])] st') B.length ⟨0, by omega, by omega, rfl, S4⟩ ?_
      rintro J hJ k env2 st5 hsame ⟨i, hi, rfl, h142, S5⟩
      have q3 : env2 3 = .ptr (some (pid, 0)) := (hsame.get 3 rfl).trans g3
      have q5 : env2 5 = .ptr (some (tid, 0)) := (hsame.get 5 rfl).trans g5
      have q6 : env2 6 = s := (hsame.get 6 rfl).trans h6
      have q140 : env2 140 = .sl .some (rowsOf e2 B) B.length := hsame.get 140 rfl
      have q141 : env2 141 = .int .i64 B.length := hsame.get 141 rfl
      clear hsame
      have w3 : IntKind.i64.wrap ((i : Int) + 1) = (i : Int) + 1 := wrap64 (by omega) (by omega)
      by_cases hil : i < B.length
      · have hsg := rowsOf_eptr e2_len B hil
        simp [q140, q141, h142, hil, hsg, e2]
        intro bid hbid
        have S6 := S5.new hbid (.cells [.int .i64 B[i].1, .int .i64 B[i].2])
        have S7 := Sep.pull 2 _ S6
        simp [storeS, spliceV, idxArrV, St.seg, segOf, q5]
        refine (spec15 ok (tab_of S7) B[i].1).mono ?_
        rintro v st7 ⟨rfl, rfl⟩
        have hlenS := (Sep.rdOf (Sep.pull 1 _ S6)).len
        simp [q6, hlenS]
        refine vc_loopJ (fun k env' st' => ∃ j, j ≤ A.length ∧ k = A.length - j ∧ env' 154 = .int .i64 (j : Nat) ∧ env' 21 = .int .i64 (((A.take j).foldl (fun w x => if x.1 = B[i].1 then some x.2 else w) none).getD 0) ∧
          env' 22 = .bool ((A.take j).foldl (fun w x => if x.1 = B[i].1 then some x.2 else w) none).isSome ∧
          Sep [pt bid (.cells [.int .i64 B[i].1, .int .i64 B[i].2]), Rd 2 e2 s A, Tab tid A, pt pid (.cells [.int .i64 qa, .int .i64 qn])] st') A.length ⟨0, by omega, by omega, rfl, rfl, rfl, S6⟩ ?_
        rintro J2 hJ2 k env3 st8 hsame ⟨j, hj, rfl, h154, h21, h22, S8⟩
        have t3 : env3 3 = .ptr (some (pid, 0)) := (hsame.get 3 rfl).trans q3
        have t5 : env3 5 = .ptr (some (tid, 0)) := (hsame.get 5 rfl).trans q5
        have t18 : env3 18 = .ptr (some (bid, 0)) := hsame.get 18 rfl
        have t19 : env3 19 = .int .i64 ((untilM A B[i].1).getD 0) := hsame.get 19 rfl
        have t20 : env3 20 = .bool (untilM A B[i].1).isSome := hsame.get 20 rfl
        have t142 : env3 142 = .int .i64 i := (hsame.get 142 rfl).trans h142
        have t152 : env3 152 = s := hsame.get 152 rfl
        have t153 : env3 153 = .int .i64 A.length := hsame.get 153 rfl
        clear hsame
        have o8 := S8.get
        have w4 : IntKind.i64.wrap ((j : Int) + 1) = (j : Int) + 1 := wrap64 (by omega) (by omega)
        by_cases hjl : j < A.length
        · obtain ⟨p, hp1, hp2⟩ := (Sep.rdOf S8.swap).idx e2_len hjl .i64
          have hfs : (A.take (j + 1)).foldl (fun w x => if x.1 = B[i].1 then some x.2 else w) none = if A[j].1 = B[i].1 then some A[j].2 else (A.take j).foldl (fun w x => if x.1 = B[i].1 then some x.2 else w) none := by
            rw [List.take_succ_eq_append_getElem hjl, List.foldl_append]
            rfl
          simp [t152, t153, h154, hjl, hp1, hp2, e2]
          intro cid hcid
          have n8 := ne_id o8 hcid
          have S9 := S8.new hcid (.cells [.int .i64 A[j].1, .int .i64 A[j].2])
          simp [storeS, spliceV, idxArrV, St.seg, segOf, t18, o8, n8]
          by_cases hm : A[j].1 = B[i].1
          · rw [if_pos hm] at hfs
            simp [hm, h154, w4, idxArrV, St.seg, segOf]
            rw [hm] at S9
            exact Round.mk (A.length - (j + 1)) _ (by omega) (sub_self _) (hJ2 _ _ _ ⟨j + 1, by omega, rfl, by simp, by simp [hfs], by simp [hfs], S9.drop⟩)
          · rw [if_neg hm] at hfs
            have hm' : (A[j].1 == B[i].1) = false := by simp [hm]
            simp [hm, hm', h154, w4]
            exact Round.mk (A.length - (j + 1)) _ (by omega) (sub_self _) (hJ2 _ _ _ ⟨j + 1, by omega, rfl, by simp, by simp [hfs, h21], by simp [hfs, h22], S9.drop⟩)
        · have : j = A.length := by omega
          subst this
          rw [List.take_length, want_until none hu, Option.or_none] at h21 h22
          have S9 := Sep.pull 2 _ S8
          have o9 := (Sep.pull 3 _ S8).get
          simp [t3, t5, t18, t19, t20, t152, t153, h154, h21, h22, eqK, idxArrV, St.seg, segOf, o8, o9]
          refine (spec17 ok (tab_of S9) B[i].1 qn).mono ?_
          rintro v st10 ⟨rfl, rfl⟩
          unfold bannedM
          cases hun : untilM A B[i].1 with
          | none =>
            rw [hun] at h21 h22
            simp [h21, h22, eqK, t142, w3]
            exact Round.mk (B.length - (i + 1)) _ (by omega) (sub_self _) (hJ _ _ _ ⟨i + 1, by omega, rfl, by simp, S8.drop⟩)
          | some u1 =>
            rw [hun] at h21 h22
            simp [h21, h22, t3, idxArrV, St.seg, segOf, o9, eqK, t142, w3]
            exact Round.mk (B.length - (i + 1)) _ (by omega) (sub_self _) (hJ _ _ _ ⟨i + 1, by omega, rfl, by simp, S8.drop⟩)
      · simp [q140, q141, h142, hil]
        exact ⟨_, sub_self _⟩
end
end Go.Ab
