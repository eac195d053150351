/-
  Book.ask.
-/
import Derived.Test.YtpmfkckookkgmaaAbTraceA
set_option linter.unusedVariables false
set_option linter.unusedSimpArgs false
set_option maxRecDepth 10000
namespace Go.Ab
open Go
section
variable {P : Program} {F : Fn}

/-- The entries that were seen. -/
def flagged {α : Type} (l : List (α × Bool)) : List α := (l.filter (·.2)).map (·.1)
theorem flagged_set {α : Type} {l : List (α × Bool)} {i : Nat} (hi : i < l.length) (hf : l[i].2 = false) : (flagged (l.set i (l[i].1, true))).Perm (flagged l ++ [l[i].1]) := by
  have e : l = l.take i ++ l[i] :: l.drop (i + 1) := by rw [← List.drop_eq_getElem_cons hi, List.take_append_drop]
  have e2 : l.set i (l[i].1, true) = l.take i ++ (l[i].1, true) :: l.drop (i + 1) := List.set_eq_take_append_cons_drop.trans (if_pos hi)
  have h1 : flagged (l.set i (l[i].1, true)) = flagged (l.take i) ++ l[i].1 :: flagged (l.drop (i + 1)) := by rw [e2]; simp [flagged]
  have h2 : flagged l = flagged (l.take i) ++ flagged (l.drop (i + 1)) := by
    refine (congrArg flagged e).trans ?_
    simp only [flagged, List.filter_append, List.filter_cons, hf, Bool.false_eq_true, if_false, List.map_append]
  rw [h1, h2, List.append_assoc]
  exact List.Perm.append_left _ (List.perm_append_comm (l₁ := [l[i].1]))
theorem flagged_all {α : Type} {l : List (α × Bool)} (h : ∀ x ∈ l, x.2 = true) : flagged l = l.map (·.1) := by
  unfold flagged
  rw [List.filter_eq_self.2 h]
theorem flagged_mem {α : Type} {l : List (α × Bool)} {x : α} (h : x ∈ flagged l) : (x, true) ∈ l := by
  obtain ⟨p, hp, rfl⟩ := List.mem_map.1 h
  obtain ⟨h1, h2⟩ := List.mem_filter.1 hp
  have : p = (p.1, true) := by rw [← h2]
  rw [← this]; exact h1

/-- The error's number of names that are asked for: 6 none, 5 one is doubled or waited for, 3 too many. -/
def askE (waits : Id → Bool) (n : Nat) (names : List Id) : Int :=
  if names = [] then 6 else if names.Nodup ∧ ∀ x ∈ names, waits x = false then (if n + names.length > 16 then 3 else 0) else 5
def askP (waits : Id → Bool) (asked names : List Id) : List Id := if askE waits asked.length names = 0 then asked ++ names else asked

def waitsM (qs : List PR3) (x : Id) : Bool := qs.any fun q => decide (x ∈ q.1.asked)

theorem idCells (x : Id) : (eId x).take 32 = eId x := by rw [← eId_len x, List.take_length]
theorem segId (x : Id) : segOf (eId x) 0 32 = some (eId x) := by
  unfold segOf
  rw [if_pos (by rw [eId_len]; omega), List.drop_zero, idCells]

theorem store_all {st : St} {id : Nat} {zs vs : List V} {v : V} {sz : Nat} (hz : zs.length = sz) (hv : v.cells? = some vs) (hl : vs.length = sz) : storeS (st.upd id (.cells zs)) sz (.ptr (some (id, 0))) v = some (st.upd id (.cells vs)) := by
  have h1 : (st.upd id (.cells zs)) id = some (.cells zs) := by simp
  have hd : zs.drop vs.length = [] := List.drop_eq_nil_of_le (by omega)
  simp only [storeS, h1, hv]
  rw [if_pos ⟨hl, by omega⟩]
  simp [spliceV, hd]

theorem book_at (bid mid : Nat) (as bs : List PR3) (q : PR3) (L : List Asn) : (BookL bid mid (as ++ q :: bs) ++ L).Perm
    (pt q.2.1 (.cells (pcells q.1 q.2.2)) :: MapSet q.2.2 q.1.asked :: (pt bid (.cells [.map (some mid)]) :: pt mid (.mp (peerM (as ++ q :: bs))) :: (as.flatMap peerL ++ bs.flatMap peerL ++ L))) := by
  have h1 : BookL bid mid (as ++ q :: bs) ++ L = ([pt bid (.cells [.map (some mid)]), pt mid (.mp (peerM (as ++ q :: bs)))] ++ as.flatMap peerL) ++ (peerL q ++ (bs.flatMap peerL ++ L)) := by
    simp [BookL]
  rw [h1]
  have h2 := List.perm_append_comm_assoc ([pt bid (.cells [.map (some mid)]), pt mid (.mp (peerM (as ++ q :: bs)))] ++ as.flatMap peerL) (peerL q) (bs.flatMap peerL ++ L)
  refine h2.trans ?_
  simp [peerL]

theorem peerM_same {as bs : List PR3} {q q' : PR3} (h1 : q'.1.id = q.1.id) (h2 : q'.2 = q.2) : peerM (as ++ q' :: bs) = peerM (as ++ q :: bs) := by
  simp [peerM, encM, h1, h2]

def encF (fl : List (Id × Bool)) : List ((V × V) × Bool) := fl.map fun p => ((kId p.1, V.bool true), p.2)
theorem encF_map (fl : List (Id × Bool)) : (encF fl).map (·.1) = setM (fl.map (·.1)) := by
  simp [encF, setM, encM, Function.comp_def]

theorem nodup_take {l : List Id} {i : Nat} (h : i < l.length) (hn : (l.take i).Nodup) (hx : l[i] ∉ l.take i) : (l.take (i + 1)).Nodup := by
  rw [List.take_succ_eq_append_getElem h, List.nodup_append]
  exact ⟨hn, by simp, fun a ha b hb e => by simp at hb; subst hb; exact hx (e ▸ ha)⟩
theorem not_nodup {l : List Id} {i : Nat} (h : i < l.length) (hx : l[i] ∈ l.take i) : ¬ l.Nodup := by
  intro hn
  rw [← List.take_append_drop i l, List.nodup_append] at hn
  exact hn.2.2 _ hx _ (by rw [List.drop_eq_getElem_cons h]; exact List.mem_cons_self) rfl

/-- Book.ask -/
theorem spec34 (ok : OkTrace P F) {st : St} {bid mid : Nat} {as bs : List PR3} {q : PR3} {ns : V} {names : List Id} {L : List Asn} (h : Sep (BookL bid mid (as ++ q :: bs) ++ (Rd 32 eId ns names :: L)) st) (hn : names.length ≤ 100000) (hq : q.1.asked.length ≤ 100000) :
    ACalls P (F 34) [.ptr (some (bid, 0)), .ptr (some (q.2.1, 0)), ns] st fun v st' => v = .int .i64 (askE (waitsM (as ++ q :: bs)) q.1.asked.length names) ∧
      Sep (BookL bid mid (as ++ ({ q.1 with asked := askP (waitsM (as ++ q :: bs)) q.1.asked names }, q.2) :: bs) ++ (Rd 32 eId ns names :: L)) st' := by
  have rdn : ∀ {L' : List Asn} {st' : St}, Sep L' st' → Rd 32 eId ns names ∈ L' → Rd 32 eId ns names st' := fun hs hm => by
    obtain ⟨h', k1, k2⟩ := hs.memA hm
    exact k2.sub k1
  have R0 := rdn h (by simp)
  refine shows_call ok.mixed ok.h34 (by simp [k34]) ?_
  simp [k34, R0.len]
  by_cases h0 : names = []
  · subst h0
    simp
    have e : askP (waitsM (as ++ q :: bs)) q.1.asked [] = q.1.asked := by simp [askP, askE]
    exact ⟨_, sub_self _, by simp [askE], by rw [e]; exact h⟩
  · have hpos : 0 < names.length := List.length_pos_iff.2 h0
    have hz : ((names.length : Int) == 0) = false := by simp; exact h0
    simp [hz, h0]
    intro fid hfid
    have S0 : Sep (MapSet fid [] :: (BookL bid mid (as ++ q :: bs) ++ (Rd 32 eId ns names :: L))) (st.upd fid (.mp [])) := (h.new hfid (.mp [])).head fun h hh => ⟨[], List.Perm.refl _, hh⟩
    simp [R0.len]
    refine vc_loopJ (fun k env' st' => ∃ i, i ≤ names.length ∧ k = names.length - i ∧ env' 17 = .int .i64 (i : Nat) ∧ (names.take i).Nodup ∧ (∀ x ∈ names.take i, waitsM (as ++ q :: bs) x = false) ∧
      Sep (MapSet fid (names.take i) :: (BookL bid mid (as ++ q :: bs) ++ (Rd 32 eId ns names :: L))) st') names.length ⟨0, by omega, by omega, rfl, by simp, by simp, S0⟩ ?_
    rintro J hJ k env' st1 hsame ⟨i, hi, rfl, h17, hnd, hw, S1⟩
    have g0 : env' 0 = .ptr (some (bid, 0)) := hsame.get 0 rfl
    have g1 : env' 1 = .ptr (some (q.2.1, 0)) := hsame.get 1 rfl
    have g7 : env' 7 = .map (some fid) := hsame.get 7 rfl
    have g15 : env' 15 = ns := hsame.get 15 rfl
    have g16 : env' 16 = .int .i64 names.length := hsame.get 16 rfl
    clear hsame
    have w2 : IntKind.i64.wrap ((i : Int) + 1) = (i : Int) + 1 := wrap64 (by omega) (by omega)
    by_cases hlt : i < names.length
    · obtain ⟨p, hp1, hp2⟩ := (rdn S1 (by simp)).idx eId_len hlt .i64
      simp [g15, g16, h17, hlt, hp1, hp2]
      intro xid hxid
      have S2 := S1.new hxid (.cells (eId names[i]))
      have hst : ∀ zs : List V, zs.length = 32 → storeS (st1.upd xid (.cells zs)) 32 (.ptr (some (xid, 0))) (.agg (eId names[i])) = some (st1.upd xid (.cells (eId names[i]))) := fun zs hz => store_all hz rfl (eId_len _)
      have hsg := segId names[i]
      have hlk := (S2.setOf (aid := fid) (keys := names.take i) (by simp)).look names[i]
      simp [hst, g7, St.seg, hsg, hlk]
      have ends5 : askE (waitsM (as ++ q :: bs)) q.1.asked.length names = 5 → vc P (.seq (.ops [⟨some 6, .mv (.k (.int .i64 5)), none⟩]) .ret) (endK [.t 6] fun v st' => v = .int .i64 (askE (waitsM (as ++ q :: bs)) q.1.asked.length names) ∧
          Sep (BookL bid mid (as ++ ({ q.1 with asked := askP (waitsM (as ++ q :: bs)) q.1.asked names }, q.2) :: bs) ++ (Rd 32 eId ns names :: L)) st') env' (st1.upd xid (.cells (eId names[i]))) → True := fun _ _ => trivial
      clear ends5
      by_cases hx : names[i] ∈ names.take i
      · have he : askE (waitsM (as ++ q :: bs)) q.1.asked.length names = 5 := by
          have := not_nodup hlt hx
          simp [askE, h0, this]
        have hp : askP (waitsM (as ++ q :: bs)) q.1.asked names = q.1.asked := by simp [askP, he]
        simp [hx]
        exact ⟨_, sub_self _, he.symm, by rw [hp]; exact S2.drop.drop⟩
      · simp [hx, g0, St.seg, hsg]
        have S3 : Sep (BookL bid mid (as ++ q :: bs) ++ (MapSet fid (names.take i) :: pt xid (.cells (eId names[i])) :: Rd 32 eId ns names :: L)) (st1.upd xid (.cells (eId names[i]))) := by
          refine Sep.perm ?_ S2
          exact ((List.Perm.swap _ _ _).trans (List.Perm.cons _ List.perm_middle.symm)).trans List.perm_middle.symm
        refine (spec37 ok S3 names[i]).mono ?_
        rintro v st4 ⟨rfl, S4⟩
        have S5 : Sep (MapSet fid (names.take i) :: pt xid (.cells (eId names[i])) :: (BookL bid mid (as ++ q :: bs) ++ (Rd 32 eId ns names :: L))) st4 :=
          Sep.perm (List.perm_middle.trans (List.Perm.cons _ List.perm_middle)) S4
        have ox := S5.swap.get
        have hwe : ((as ++ q :: bs).any fun q => decide (names[i] ∈ q.1.asked)) = waitsM (as ++ q :: bs) names[i] := rfl
        rw [hwe]
        cases hwx : waitsM (as ++ q :: bs) names[i] with
        | true =>
          have he : askE (waitsM (as ++ q :: bs)) q.1.asked.length names = 5 := by
            have : ¬ ∀ x ∈ names, waitsM (as ++ q :: bs) x = false := fun h => by
              have := h _ (List.getElem_mem hlt)
              rw [hwx] at this
              cases this
            unfold askE
            rw [if_neg h0, if_neg (fun h => this h.2)]
          have hp : askP (waitsM (as ++ q :: bs)) q.1.asked names = q.1.asked := by simp [askP, he]
          simp
          exact ⟨_, sub_self _, he.symm, by rw [hp]; exact S5.drop.drop⟩
        | false =>
          obtain ⟨st6, hm, S6⟩ := S5.mset names[i]
          simp [g7, St.seg, ox, hsg, hm, h17, w2]
          have hadd : addK (names.take i) names[i] = names.take (i + 1) := by
            rw [addK, if_neg hx, List.take_succ_eq_append_getElem hlt]
          rw [hadd] at S6
          refine Round.mk (names.length - (i + 1)) _ (by omega) (sub_self _) (hJ _ _ _ ⟨i + 1, by omega, rfl, by simp, nodup_take hlt hnd hx, ?_, Sep.tail (fun r hr => hr.drop) S6⟩)
          intro x hx2
          rw [List.take_succ_eq_append_getElem hlt, List.mem_append, List.mem_singleton] at hx2
          rcases hx2 with h | rfl
          · exact hw x h
          · exact hwx
    · have : i = names.length := by omega
      subst this
      rw [List.take_length] at hnd hw S1
      clear hJ w2
      have S2 : Sep (pt q.2.1 (.cells (pcells q.1 q.2.2)) :: MapSet q.2.2 q.1.asked :: MapSet fid names :: (pt bid (.cells [.map (some mid)]) :: pt mid (.mp (peerM (as ++ q :: bs))) :: (as.flatMap peerL ++ bs.flatMap peerL ++ (Rd 32 eId ns names :: L)))) st1 := by
        refine Sep.perm ?_ S1
        refine (List.Perm.cons _ (book_at bid mid as bs q _)).trans ?_
        exact (List.Perm.swap _ _ _).trans (List.Perm.cons _ (List.Perm.swap _ _ _))
      have oq := S2.get
      simp only [pcells] at oq
      have hla := (S2.setOf (aid := q.2.2) (keys := q.1.asked) (by simp)).len
      have hlf := (S2.setOf (aid := fid) (keys := names) (by simp)).len
      have hsg6 : segOf [V.bool false, .bool q.1.s1, .bool q.1.s2, .bool false, .bool q.1.h1, .bool q.1.h2, .map (some q.2.2)] 6 1 = some [V.map (some q.2.2)] := rfl
      have w3 : IntKind.i64.wrap ((q.1.asked.length : Int) + names.length) = (q.1.asked.length : Int) + names.length := wrap64 (by omega) (by omega)
      simp [g1, g7, g15, g16, h17, St.seg, oq, hsg6, hla, hlf, w3]
      have hE : askE (waitsM (as ++ q :: bs)) q.1.asked.length names = if q.1.asked.length + names.length > 16 then 3 else 0 := by
        unfold askE
        rw [if_neg h0, if_pos ⟨hnd, hw⟩]
      by_cases h16 : (16 : Int) < q.1.asked.length + names.length
      · have h16' : q.1.asked.length + names.length > 16 := by omega
        rw [if_pos h16'] at hE
        have hp : askP (waitsM (as ++ q :: bs)) q.1.asked names = q.1.asked := by simp [askP, hE]
        simp [h16]
        exact ⟨_, sub_self _, hE.symm, by rw [hp]; exact S1.drop⟩
      · have h16' : ¬ q.1.asked.length + names.length > 16 := by omega
        rw [if_neg h16'] at hE
        have hp : askP (waitsM (as ++ q :: bs)) q.1.asked names = q.1.asked ++ names := by simp [askP, hE]
        simp [h16, g7]
        obtain ⟨ks, hks⟩ := (Sep.pull 2 _ S2 : Sep (MapSet fid names :: _) st1).ex
        obtain ⟨hperm, S3⟩ := hks.pure
        refine Sep.rng S3 ?_
        intro it st4 S4
        simp
        refine vc_loopJ (fun k env' st' => ∃ fl last, k = unseen (encF fl) ∧ fl.map (·.1) = ks ∧
          Sep (Going fid it (encF fl) last :: MapSet q.2.2 (q.1.asked ++ flagged fl) :: pt q.2.1 (.cells (pcells q.1 q.2.2)) :: (pt bid (.cells [.map (some mid)]) :: pt mid (.mp (peerM (as ++ q :: bs))) :: (as.flatMap peerL ++ bs.flatMap peerL ++ (Rd 32 eId ns names :: L)))) st')
          (unseen (encF (ks.map fun k => (k, false)))) ⟨ks.map fun k => (k, false), none, rfl, by simp [Function.comp_def], ?_⟩ ?_
        · have e1 : flagged (ks.map fun k => (k, false)) = [] := by simp [flagged]
          rw [e1, List.append_nil]
          have e2 : encF (ks.map fun k => (k, false)) = (setM ks).map fun e => (e, false) := by simp [encF, setM, encM, Function.comp_def]
          rw [e2]
          exact Sep.tail (fun r hr => hr.swap) S4
        · rintro J hJ k env2 st5 hsame ⟨fl, last, rfl, hfl, S5⟩
          have q1 : env2 1 = .ptr (some (q.2.1, 0)) := (hsame.get 1 rfl).trans g1
          have q42 : env2 42 = .ptr (some (it, 0)) := hsame.get 42 rfl
          clear hsame
          have hfk : ∀ x ∈ fl.map (·.1), x ∉ q.1.asked := fun x hx hm => by
            rw [hfl] at hx
            have h1 := hw x (hperm.mem_iff.1 hx)
            have : waitsM (as ++ q :: bs) x = true := by
              unfold waitsM
              rw [List.any_eq_true]
              exact ⟨q, by simp, by simpa using hm⟩
            rw [h1] at this
            cases this
          have hnk : (fl.map (·.1)).Nodup := by rw [hfl]; exact hperm.nodup_iff.2 hnd
          simp [q42]
          refine Sep.next S5 ?_ ?_
          · intro hall
            simp
            refine ⟨_, sub_self _, hE.symm, ?_⟩
            have hfa : flagged fl = ks := by
              rw [flagged_all, hfl]
              intro p hp
              have := hall ((kId p.1, V.bool true), p.2) (List.mem_map.2 ⟨p, hp, rfl⟩)
              exact this
            rw [hfa] at S5
            rw [hp]
            refine Sep.perm (book_at bid mid as bs ({ q.1 with asked := q.1.asked ++ names }, q.2) _).symm ?_
            rw [peerM_same (q := q) (q' := ({ q.1 with asked := q.1.asked ++ names }, q.2)) rfl rfl]
            refine Sep.swap (Sep.head (fun h hh => ?_) S5.drop)
            obtain ⟨k2, hk2, hh2⟩ := hh
            exact ⟨k2, hk2.trans (List.Perm.append_left _ hperm), hh2⟩
          · intro i hi hf st6 S6
            obtain ⟨hi2, hent⟩ := S6.ent
            have hif : i < fl.length := by simpa [encF] using hi
            have hfi : fl[i].2 = false := by simpa [encF] using hf
            simp [encF] at hent
            have hset : (encF fl).set i ((encF fl)[i].1, true) = encF (fl.set i (fl[i].1, true)) := by
              simp [encF, List.map_set]
            simp [q42, hent, kId]
            intro xid hxid
            have S7 := S6.new hxid (.cells (eId fl[i].1))
            have hst : ∀ zs : List V, zs.length = 32 → storeS (st6.upd xid (.cells zs)) 32 (.ptr (some (xid, 0))) (.agg (eId fl[i].1)) = some (st6.upd xid (.cells (eId fl[i].1))) := fun zs hz => store_all hz rfl (eId_len _)
            have hsg := segId fl[i].1
            have oq7 := (Sep.pull 3 _ S7).get
            simp only [pcells] at oq7
            have oq6 := (Sep.pull 2 _ S6).get
            simp only [pcells] at oq6
            have n6 := ne_id oq6 hxid
            obtain ⟨st8, hm, S8⟩ := (Sep.pull 2 _ S7 : Sep (MapSet q.2.2 (q.1.asked ++ flagged fl) :: _) _).mset fl[i].1
            simp [hst, q1, St.seg, n6, oq6, hsg6, hsg, hm]
            have hnew : fl[i].1 ∉ q.1.asked ++ flagged fl := by
              intro hm
              rcases List.mem_append.1 hm with h | h
              · exact hfk _ (List.mem_map.2 ⟨fl[i], List.getElem_mem _, rfl⟩) h
              · have h1 := flagged_mem h
                obtain ⟨j, hj, e⟩ := List.getElem_of_mem h1
                have hne : i ≠ j := fun e' => by
                  subst e'
                  rw [e] at hfi
                  cases hfi
                have hp := List.pairwise_iff_getElem.1 hnk
                have e2 : fl[j].1 = fl[i].1 := by rw [e]
                rcases Nat.lt_or_gt_of_ne hne with hlt | hlt
                · have := hp i j (by simpa using hif) (by simpa using hj) hlt
                  simp only [List.getElem_map] at this
                  exact this e2.symm
                · have := hp j i (by simpa using hj) (by simpa using hif) hlt
                  simp only [List.getElem_map] at this
                  exact this e2
            refine Round.mk (unseen (encF (fl.set i (fl[i].1, true)))) _ ?_ (sub_self _) (hJ _ _ _ ⟨fl.set i (fl[i].1, true), some i, rfl, ?_, ?_⟩)
            · rw [← hset]
              exact unseen_set hi hf _
            · rw [← hfl]
              apply List.ext_getElem
              · simp
              · intro j q1 q2
                simp only [List.getElem_map, List.getElem_set]
                split
                · rename_i e; subst e; rfl
                · rfl
            · rw [hset] at S8
              have S9 := Sep.tail (fun r hr => hr.drop) S8
              refine Sep.swap (Sep.head (fun h hh => ?_) S9)
              obtain ⟨k2, hk2, hh2⟩ := hh
              refine ⟨k2, hk2.trans ?_, hh2⟩
              rw [addK, if_neg hnew, List.append_assoc]
              exact List.Perm.append_left _ (flagged_set hif hfi).symm
end
end Go.Ab
