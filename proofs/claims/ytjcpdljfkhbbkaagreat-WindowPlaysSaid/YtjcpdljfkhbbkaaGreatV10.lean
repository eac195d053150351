import Derived.Test.YtjcpdljfkhbbkaaGreatV9
import Derived.Test.YtjcpdljfkhbbkaaGreatV7
import Derived.Test.YtjcpdljfkhbbkaaGreatV5
import Derived.Test.YtjcpdljfkhbbkaaGreatV6
import Derived.Test.YtjcpdljfkhbbkaaGreatV8
import Derived.Test.YtjcpdljfkhbbkaaGreatV4
import Derived.Deep.Slices
import Derived.OpenShut
set_option linter.unusedSimpArgs false
set_option linter.unusedVariables false
set_option maxRecDepth 10000
namespace Go.Ab
open Go Go.RowKit
def lateB (sl now : Int) (x : Fl) : Bool := decide (limM sl ≤ IntKind.i64.wrap (now - x.2))
structure LateIs (es : List (Int × Fl)) (sl now p : Int) (b : Bool) : Prop where
  no : b = false → p = 0 ∧ ∀ e ∈ es, lateB sl now e.2 = false
  yes : b = true → (∃ e ∈ es, lateB sl now e.2 = true ∧ e.2.1 = p) ∧ ∀ e ∈ es, lateB sl now e.2 = true → p ≤ e.2.1
theorem LateIs.perm {es es' : List (Int × Fl)} {sl now p : Int} {b : Bool} (h : LateIs es sl now p b) (hp : es.Perm es') : LateIs es' sl now p b :=
  ⟨fun hb => ⟨(h.no hb).1, fun e he => (h.no hb).2 e (hp.mem_iff.2 he)⟩, fun hb => by
    obtain ⟨⟨e, he, h1⟩, h2⟩ := h.yes hb
    exact ⟨⟨e, hp.mem_iff.1 he, h1⟩, fun e he => h2 e (hp.mem_iff.2 he)⟩⟩
theorem LateIs.nil (sl now : Int) : LateIs [] sl now 0 false := ⟨fun _ => ⟨rfl, fun e he => by cases he⟩, fun h => by cases h⟩
theorem LateIs.more {es : List (Int × Fl)} {sl now p : Int} {b : Bool} (h : LateIs es sl now p b) (x : Int × Fl) :
    LateIs (es ++ [x]) sl now (if (lateB sl now x.2 && (!b || decide (x.2.1 < p))) = true then x.2.1 else p) (b || lateB sl now x.2) := by
  cases hl : lateB sl now x.2 with
  | false =>
    simp only [Bool.false_and, Bool.false_eq_true, if_false, Bool.or_false]
    refine ⟨fun hb => ⟨(h.no hb).1, fun e he => ?_⟩, fun hb => ?_⟩
    · rcases List.mem_append.1 he with he | he
      · exact (h.no hb).2 e he
      · rw [List.mem_singleton.1 he]; exact hl
    · obtain ⟨⟨e, he, h1⟩, h2⟩ := h.yes hb
      refine ⟨⟨e, List.mem_append_left _ he, h1⟩, fun e he hle => ?_⟩
      rcases List.mem_append.1 he with he | he
      · exact h2 e he hle
      · rw [List.mem_singleton.1 he, hl] at hle; cases hle
  | true =>
    simp only [Bool.true_and, Bool.or_true]
    refine ⟨fun hb => (by cases hb), fun _ => ?_⟩
    cases hb : b with
    | false =>
      simp only [Bool.not_false, Bool.true_or, if_true]
      refine ⟨⟨x, by simp, hl, rfl⟩, fun e he hle => ?_⟩
      rcases List.mem_append.1 he with he | he
      · have := (h.no hb).2 e he
        rw [this] at hle; cases hle
      · rw [List.mem_singleton.1 he]; exact Int.le_refl _
    | true =>
      simp only [Bool.not_true, Bool.false_or, decide_eq_true_eq]
      obtain ⟨⟨e0, he0, h1, h1'⟩, h2⟩ := h.yes hb
      by_cases hlt : x.2.1 < p
      · rw [if_pos hlt]
        refine ⟨⟨x, by simp, hl, rfl⟩, fun e he hle => ?_⟩
        rcases List.mem_append.1 he with he | he
        · have := h2 e he hle
          omega
        · rw [List.mem_singleton.1 he]; exact Int.le_refl _
      · rw [if_neg hlt]
        refine ⟨⟨e0, List.mem_append_left _ he0, h1, h1'⟩, fun e he hle => ?_⟩
        rcases List.mem_append.1 he with he | he
        · exact h2 e he hle
        · rw [List.mem_singleton.1 he]; omega
def LateOut (v6 v7 : V) (es : List (Int × Fl)) (sl now : Int) (R : Prop) : Prop := ∃ p b, v6 = .int .i64 p ∧ v7 = .bool b ∧ LateIs es sl now p b ∧ R
section
variable {P : Program} {F : Fn}
set_option maxHeartbeats 4000000 in
theorem spec288 (ok : OkWindow P F) {st : St} {t : Nat} {es : Fls} {sl : Int} {L : List Asn} (h : WinS t es sl L st) (now : Int) (hs : 0 ≤ sl ∧ sl ≤ 3) :
    ACalls P (F 288) [.ptr (some (t, 0)), .int .i64 now] st fun v st' => ∃ p b, v = .tup [.int .i64 p, .bool b] ∧ LateIs es sl now p b ∧ WinS t es (if b = true then min (sl + 1) 3 else sl) L st' := by
  refine shows_call ok.mixed ok.h288 (by simp [k288]) ?_
  simp only [k288]
  obtain ⟨mo, h0, S⟩ := h
  have hseg : ∀ mv : V, segOf [mv, V.int .i64 sl] 0 1 = some [mv] := fun _ => rfl
  have hseg1 : ∀ mv : V, segOf [mv, V.int .i64 sl] 1 1 = some [.int .i64 sl] := fun _ => rfl
  have w1 : IntKind.i64.wrap (sl + 1) = sl + 1 := wrap64 (by omega) (by omega)
  have hmin : foldV min2V (V.int .i64 (sl + 1)) [V.int .i64 3] = some (.int .i64 (min (sl + 1) 3)) := by
    simp only [foldV, min2V, if_true, Option.bind_some]
    congr 2
    split <;> omega
  cases mo with
  | none =>
    have o := S.get
    have he : es = [] := h0 rfl
    subst he
    simp [St.seg, o, hseg, rngMapS]
    intro it hit
    have S := S.new hit (.mit none 0 [] 0)
    generalize st.upd it _ = st2 at S ⊢
    refine vc_joinB (M := fun env' st' => env' 6 = .int .i64 0 ∧ env' 7 = .bool false ∧ Sep (pt t (.cells [.map none, .int .i64 sl]) :: L) st') ?_ ?_
    · refine vc_loopJ (fun c env' st' => c = 0 ∧ env' 6 = .int .i64 0 ∧ env' 7 = .bool false ∧ Sep (pt it (.mit none 0 [] 0) :: pt t (.cells [.map none, .int .i64 sl]) :: L) st') 0 ⟨rfl, by simp, by simp, S⟩ ?_
      rintro J hJ c env' st3 hsame ⟨rfl, h6, h7, S⟩
      have g14 := (hsame.get 14 rfl).trans (by simp : _ = V.ptr (some (it, 0)))
      clear hsame
      have oi := S.get
      simp [g14, nextMapS, oi, h6, h7]
      exact S.drop
    · rintro env' st3 hsame ⟨h6, h7, S⟩
      have g13 := (hsame.get 13 rfl).trans (by simp : _ = V.map none)
      clear hsame
      refine frzP_one (v := .map none) (st' := st3) (by rw [g13]; rfl) ?_
      simp [h6, h7]
      exact ⟨st3, sub_self _, LateIs.nil sl now, none, fun _ => rfl, S⟩
  | some m =>
    have o := S.get
    simp [St.seg, o, hseg]
    refine Sep.rng S.swap ?_
    intro it st2 S
    rw [encG_start] at S
    simp
    refine vc_joinB (M := fun env' st' => LateOut (env' 6) (env' 7) es sl now (∃ fl last, fl.map (·.1) = es ∧ Sep (Going m it (encG kInt vFl fl) last :: pt t (.cells [.map (some m), .int .i64 sl]) :: L) st')) ?_ ?_
    · refine vc_loopJ (fun c env' st' => ∃ fl last p b, c = unseen (encG kInt vFl fl) ∧ fl.map (·.1) = es ∧ env' 6 = .int .i64 p ∧ env' 7 = .bool b ∧ LateIs (flg fl) sl now p b ∧ Sep (Going m it (encG kInt vFl fl) last :: pt t (.cells [.map (some m), .int .i64 sl]) :: L) st') (unseen (encG kInt vFl (es.map fun x => (x, false))))
        ⟨_, none, 0, false, rfl, by simp [Function.comp_def], by simp, by simp, by rw [flg_none]; exact LateIs.nil sl now, S⟩ ?_
      rintro J hJ c env' st3 hsame ⟨fl, last, p, b, rfl, hfl, h6, h7, hla, S⟩
      have g0 := (hsame.get 0 rfl).trans (by simp : _ = V.ptr (some (t, 0)))
      have g1 := (hsame.get 1 rfl).trans (by simp : _ = V.int .i64 now)
      have g14 := (hsame.get 14 rfl).trans (by simp : _ = V.ptr (some (it, 0)))
      clear hsame
      simp [g14]
      refine Sep.next S ?_ ?_
      · intro hall
        have := flg_all (encG_all kInt vFl hall)
        rw [this, hfl] at hla
        simp
        exact ⟨p, b, h6, h7, hla, fl, hfl, last, S⟩
      · intro i hi hf st4 S
        have hi' : i < fl.length := by rw [← encG_len kInt vFl]; exact hi
        rw [encG_set kInt vFl fl hi' hi] at S
        obtain ⟨hi2, hent⟩ := S.ent
        have hfi : fl[i].2 = false := by simpa [encG] using hf
        obtain ⟨x, hx⟩ : ∃ x, x = fl[i].1 := ⟨_, rfl⟩
        simp [encG, ← hx] at hent
        simp [g14, hent]
        intro i9 h9
        have key : storeS (st4.upd i9 (.cells [.int .i64 0, .int .i64 0])) 2 (.ptr (some (i9, 0))) (vFl x.2) = some (st4.upd i9 (.cells (eFl x.2))) := by
          rw [store_pt (sz := 2) (o := 0) (vs := eFl x.2) (St.upd_same _ _ _) rfl rfl (by simp)]
          simp [spliceV, eFl]
        have hf0 : segOf (eFl x.2) 0 1 = some [.int .i64 x.2.1] := rfl
        have hf1 : segOf (eFl x.2) 1 1 = some [.int .i64 x.2.2] := rfl
        have S := S.new h9 (.cells (eFl x.2))
        have hun := unseen_set hi hf ((encG kInt vFl fl)[i].1)
        rw [encG_set kInt vFl fl hi' hi] at hun
        have hpm := flg_set hi' hfi
        have hmore : LateIs (flg (fl.set i (fl[i].1, true))) sl now _ _ := (hla.more x).perm (by rw [hx]; exact hpm.symm)
        simp [key]
        generalize st4.upd i9 _ = st5 at S ⊢
        have o9 := S.get
        have ot := S.drop.drop.get
        have hlim := spec279 ok ot hs
        have next : ∀ (p' : Int) (b' : Bool), LateIs (flg (fl.set i (fl[i].1, true))) sl now p' b' → ∀ env2 : Env, env2 6 = .int .i64 p' → env2 7 = .bool b' → J (unseen (encG kInt vFl (fl.set i (fl[i].1, true)))) env2 st5 := fun p' b' hl env2 e6 e7 =>
          hJ _ _ _ ⟨_, some i, p', b', rfl, by rw [fst_set hi', hfl], e6, e7, hl, S.drop⟩
        simp [g0, g1, St.seg, o9, hf1]
        refine ⟨_, hlim, ?_⟩
        cases hlb : lateB sl now x.2 with
        | false =>
          rw [hlb] at hmore
          simp at hmore
          have hge : decide (IntKind.i64.wrap (now - x.2.2) ≥ limM sl) = false := hlb
          simp [hge]
          exact Round.mk _ _ hun (sub_self _) (next p b hmore _ (by simp [h6]) (by simp [h7]))
        | true =>
          rw [hlb] at hmore
          simp at hmore
          have hge : decide (IntKind.i64.wrap (now - x.2.2) ≥ limM sl) = true := hlb
          cases hb : b with
          | false =>
            subst hb
            simp at hmore
            simp [hge, h7, St.seg, o9, hf0]
            exact Round.mk _ _ hun (sub_self _) (next _ true hmore _ (by simp) (by simp))
          | true =>
            subst hb
            simp at hmore
            by_cases hlt : x.2.1 < p
            · rw [if_pos hlt] at hmore
              simp [hge, h6, h7, St.seg, o9, hf0, hlt]
              exact Round.mk _ _ hun (sub_self _) (next _ true hmore _ (by simp) (by simp))
            · rw [if_neg hlt] at hmore
              simp [hge, h6, h7, St.seg, o9, hf0, hlt]
              exact Round.mk _ _ hun (sub_self _) (next _ true hmore _ (by simp [h6]) (by simp [h7]))
    · rintro env' st3 hsame ⟨p, b, h6, h7, hla, fl, last, hfl, S⟩
      have g13 := (hsame.get 13 rfl).trans (by simp : _ = V.map (some m))
      have g0 := (hsame.get 0 rfl).trans (by simp : _ = V.ptr (some (t, 0)))
      clear hsame
      obtain ⟨hfz, S⟩ := S.gone
      refine frzP_one (by rw [g13]; exact hfz) ?_
      rw [encG_map, hfl] at S ⊢
      generalize st3.upd m _ = st4 at S ⊢
      have ot := S.drop.get
      cases b with
      | false =>
        simp [h6, h7]
        exact ⟨st4, sub_self _, hla, some m, (fun e => by cases e), S.swap⟩
      | true =>
        have hst := store_pt (sz := 1) (o := 1) ot (v := .int .i64 (min (sl + 1) 3)) (vs := [.int .i64 (min (sl + 1) 3)]) rfl rfl (by simp)
        rw [show spliceV [V.map (some m), V.int .i64 sl] 1 [V.int .i64 (min (sl + 1) 3)] = [.map (some m), .int .i64 (min (sl + 1) 3)] from rfl] at hst
        simp [h6, h7, g0, St.seg, ot, hseg1, w1, hmin, hst]
        exact ⟨_, sub_self _, hla, some m, fun e => (by cases e), S.swap.set _⟩
end
theorem erase_map {α β : Type} (f : α → β) : ∀ (l : List α) (i : Nat), (l.map f).eraseIdx i = (l.eraseIdx i).map f
  | [], _ => rfl
  | _ :: _, 0 => rfl
  | x :: l, i + 1 => by simp [List.eraseIdx, erase_map f l i]
theorem getD_erase {α : Type} (l : List α) (i j : Nat) (d : α) : (l.eraseIdx i).getD j d = if j < i then l.getD j d else l.getD (j + 1) d := by
  simp only [List.getD_eq_getElem?_getD, List.getElem?_eraseIdx]
  split <;> rfl
theorem Sep.gdel {m it i : Nat} {l : List ((V × V) × Bool)} {L : List Asn} {st : St} (h : Sep (Going m it l (some i) :: L) st) (hi : i < l.length) {kk : KK} {k : V} (hk : isKey kk k = true) (hf : mfindI kk k (l.map (·.1)) 0 = some (some i)) :
    ∃ st', mdelS st kk (.map (some m)) k = some st' ∧ Sep (Going m it (l.eraseIdx i) none :: L) st' := by
  obtain ⟨a, r, k1, k2, ⟨bs, clk, since, seen, stp, g1, g2, g3, g4, g5, g6, g7, g8, g9⟩, k4⟩ := h
  have e1 := k2 _ _ (add_some g1)
  have hne : m ≠ it := fun e => by rw [e, g2] at g1; cases g1
  refine ⟨st.upd m (.mpi ((l.map (·.1)).eraseIdx i) (bs.eraseIdx i) clk), by simp [mdelS, hk, e1, hf], a.upd m (.mpi ((l.map (·.1)).eraseIdx i) (bs.eraseIdx i) clk), r, k1.upd (k1.some g1) _, fun j o e => ?_, ⟨bs.eraseIdx i, clk, since, seen, stp, ?_, ?_, ?_, ?_, ?_, g6, g7, ?_, fun j e => by cases e⟩, k4⟩
  · rw [upd_add] at e
    by_cases ej : j = m
    · simpa [ej] using e
    · simp only [st_upd, ej, if_false] at e ⊢
      exact k2 j o e
  · rw [St.upd_same, erase_map]
  · simp [St.upd, hne.symm, g2]
  · rw [List.length_eraseIdx, List.length_eraseIdx, g3]
  · exact g4.sublist (List.eraseIdx_sublist _ _)
  · exact fun b hb => g5 b (List.eraseIdx_subset hb)
  · intro j hj
    have hj' : j < l.length - 1 := by
      rw [List.length_eraseIdx, if_pos hi] at hj
      exact hj
    rw [getD_erase, List.getElem_eraseIdx]
    by_cases hji : j < i
    · rw [if_pos hji]
      simp only [hji, dif_pos]
      exact g8 j (by omega)
    · rw [if_neg hji]
      simp only [hji, dif_neg, not_false_eq_true]
      exact g8 (j + 1) (by omega)
theorem mfindI_at {K A : Type} [DecidableEq K] {ek : K → V} {ev : A → V} {kk : KK} (hk : Keyed ek kk) : ∀ (l : List (K × A)) (i n : Nat) (hi : i < l.length), (l.map (·.1)).Nodup → mfindI kk (ek l[i].1) (encM ek ev l) n = some (some (n + i))
  | [], i, n, hi, _ => by simp at hi
  | p :: l, 0, n, hi, _ => by simp [mfindI, encM, hk.eq]
  | p :: l, i + 1, n, hi, hn => by
    rw [List.map_cons, List.nodup_cons] at hn
    have hlt : i < l.length := by simpa using hi
    have ih := mfindI_at hk (ev := ev) l i (n + 1) hlt hn.2
    have hne : l[i].1 ≠ p.1 := fun e => hn.1 (List.mem_map.2 ⟨l[i], List.getElem_mem _, e⟩)
    simp only [encM, List.map_cons, mfindI, hk.eq, List.getElem_cons_succ, hne, decide_false] at ih ⊢
    rw [ih]
    congr 2
    omega
theorem unseen_erase (l : List ((V × V) × Bool)) (i : Nat) : unseen (l.eraseIdx i) ≤ unseen l := (List.eraseIdx_sublist l i).countP_le
theorem encG_erase {K A : Type} [DecidableEq K] (ek : K → V) (ev : A → V) (fl : List ((K × A) × Bool)) (i : Nat) : (encG ek ev fl).eraseIdx i = encG ek ev (fl.eraseIdx i) := erase_map _ fl i
structure Dropped (es : Fls) (p : Int) (fl : List ((Int × Fl) × Bool)) (R : List (Int × Fl)) : Prop where
  left : fl.map (·.1) = es.filter fun e => decide (e ∉ R)
  out : ∀ e ∈ R, e ∈ es ∧ e.2.1 = p
  nd : R.Nodup
  seen : ∀ x ∈ fl, x.2 = true → x.1.2.1 ≠ p
theorem nodup_length {α : Type} [DecidableEq α] : ∀ {l m : List α}, l.Nodup → (∀ e ∈ l, e ∈ m) → l.length ≤ m.length
  | [], _, _, _ => Nat.zero_le _
  | x :: l, m, h, hs => by
    rw [List.nodup_cons] at h
    have hx := hs x (by simp)
    have := nodup_length (m := m.erase x) h.2 fun e he => (List.mem_erase_of_ne (fun e' : e = x => h.1 (e' ▸ he))).2 (hs e (by simp [he]))
    rw [List.length_erase_of_mem hx] at this
    have := List.length_pos_of_mem hx
    simp only [List.length_cons]
    omega
theorem erase_filter {α : Type} [DecidableEq α] : ∀ {l : List α}, l.Nodup → ∀ (i : Nat) (hi : i < l.length), l.eraseIdx i = l.filter fun e => decide (e ≠ l[i])
  | x :: l, h, 0, _ => by
    rw [List.nodup_cons] at h
    have : l.filter (fun e => decide (e ≠ x)) = l := List.filter_eq_self.2 fun a ha => decide_eq_true fun e => h.1 (e ▸ ha)
    simp only [List.eraseIdx_cons_zero, List.getElem_cons_zero, List.filter_cons]
    rw [this]
    simp
  | x :: l, h, i + 1, hi => by
    rw [List.nodup_cons] at h
    have hlt : i < l.length := by simpa using hi
    have hx : x ≠ l[i] := fun e => h.1 (e ▸ List.getElem_mem hlt)
    rw [List.eraseIdx_cons_succ, erase_filter h.2 i hlt]
    simp [hx]
theorem nodup_unmap {α β : Type} (f : α → β) : ∀ {l : List α}, (l.map f).Nodup → l.Nodup
  | [], _ => .nil
  | x :: l, h => by
    rw [List.map_cons, List.nodup_cons] at h
    exact List.nodup_cons.2 ⟨fun hm => h.1 (List.mem_map.2 ⟨x, hm, rfl⟩), nodup_unmap f h.2⟩
theorem nodup_of_keys {es : Fls} (h : (es.map (·.1)).Nodup) : es.Nodup := nodup_unmap _ h
theorem Dropped.fin {es : Fls} {p : Int} {fl : List ((Int × Fl) × Bool)} {R : List (Int × Fl)} (h : Dropped es p fl R) (hn : (es.map (·.1)).Nodup) (hall : ∀ x ∈ fl, x.2 = true) :
    fl.map (·.1) = es.filter (fun e => e.2.1 != p) ∧ (R.map (·.1)).Perm ((es.filter fun e => e.2.1 == p).map (·.1)) := by
  have key : ∀ e ∈ es, (e ∈ R ↔ e.2.1 = p) := fun e he => by
    refine ⟨fun hr => (h.out e hr).2, fun hp => ?_⟩
    apply Classical.byContradiction
    intro hr
    have : e ∈ fl.map (·.1) := by
      rw [h.left, List.mem_filter]
      exact ⟨he, by simpa using hr⟩
    obtain ⟨x, hx, rfl⟩ := List.mem_map.1 this
    exact h.seen x hx (hall x hx) hp
  refine ⟨?_, List.Perm.map _ ((List.perm_ext_iff_of_nodup h.nd ((nodup_of_keys hn).filter _)).2 fun e => ?_)⟩
  · rw [h.left]
    refine List.filter_congr fun e he => ?_
    rw [Bool.eq_iff_iff]
    simp [key e he]
  · rw [List.mem_filter]
    refine ⟨fun hr => ⟨(h.out e hr).1, by simpa using (h.out e hr).2⟩, fun ⟨he, hp⟩ => (key e he).2 (by simpa using hp)⟩
section
variable {P : Program} {F : Fn}
set_option maxHeartbeats 4000000 in
theorem spec285 (ok : OkWindow P F) (oks : SortC P (F 286)) {st : St} {t : Nat} {es : Fls} {sl : Int} {L : List Asn} (h : WinS t es sl L st) (hn : (es.map (·.1)).Nodup) (p : Int) (hl : es.length ≤ 1000) :
    ACalls P (F 285) [.ptr (some (t, 0)), .int .i64 p] st fun v st' => ∃ l, l.Perm ((es.filter fun e => e.2.1 == p).map (·.1)) ∧ l.Pairwise (· ≤ ·) ∧ WinS t (es.filter fun e => e.2.1 != p) sl (Slx 1 e1 v l :: L) st' := by
  refine shows_call ok.mixed ok.h285 (by simp [k285]) ?_
  simp only [k285]
  obtain ⟨mo, h0, S⟩ := h
  have hseg : ∀ mv : V, segOf [mv, V.int .i64 sl] 0 1 = some [mv] := fun _ => rfl
  cases mo with
  | none =>
    have o := S.get
    have he : es = [] := h0 rfl
    subst he
    simp [St.seg, o, hseg, rngMapS]
    intro it hit
    have S := S.new hit (.mit none 0 [] 0)
    generalize st.upd it _ = st2 at S ⊢
    refine vc_joinB (M := fun env' st' => env' 5 = .sl .nil [] 0 ∧ Sep (pt t (.cells [.map none, .int .i64 sl]) :: L) st') ?_ ?_
    · refine vc_loopJ (fun c env' st' => c = 0 ∧ env' 5 = .sl .nil [] 0 ∧ Sep (pt it (.mit none 0 [] 0) :: pt t (.cells [.map none, .int .i64 sl]) :: L) st') 0 ⟨rfl, by simp, S⟩ ?_
      rintro J hJ c env' st3 hsame ⟨rfl, h5, S⟩
      have g12 := (hsame.get 12 rfl).trans (by simp : _ = V.ptr (some (it, 0)))
      clear hsame
      have oi := S.get
      simp [g12, nextMapS, oi, h5]
      exact S.drop
    · rintro env' st3 hsame ⟨h5, S⟩
      have g11 := (hsame.get 11 rfl).trans (by simp : _ = V.map none)
      clear hsame
      refine frzP_one (v := .map none) (st' := st3) (by rw [g11]; rfl) ?_
      have S : Sep (Slx 1 e1 (.sl .nil [] 0) [] :: pt t (.cells [.map none, .int .i64 sl]) :: L) st3 := S.slxNil
      simp [h5]
      refine (oks.use S (fun _ => rfl) (by simp)).mono ?_
      rintro v st4 ⟨l', h1, h2, S⟩
      have : l' = [] := List.perm_nil.1 h1
      subst this
      simp
      exact ⟨st4, sub_self _, none, fun _ => rfl, by rw [h5]; exact S.swap⟩
  | some m =>
    have o := S.get
    simp [St.seg, o, hseg]
    refine Sep.rng S.swap ?_
    intro it st2 S
    rw [encG_start] at S
    simp
    refine vc_joinB (M := fun env' st' => ∃ fl last R, (∀ x ∈ fl, x.2 = true) ∧ Dropped es p fl R ∧ (R = [] → env' 5 = .sl .nil [] 0) ∧ Sep (Going m it (encG kInt vFl fl) last :: Slx 1 e1 (env' 5) (R.map (·.1)) :: pt t (.cells [.map (some m), .int .i64 sl]) :: L) st') ?_ ?_
    · refine vc_loopJ (fun c env' st' => ∃ fl last R, c = unseen (encG kInt vFl fl) ∧ Dropped es p fl R ∧ (R = [] → env' 5 = .sl .nil [] 0) ∧ Sep (Going m it (encG kInt vFl fl) last :: Slx 1 e1 (env' 5) (R.map (·.1)) :: pt t (.cells [.map (some m), .int .i64 sl]) :: L) st') (unseen (encG kInt vFl (es.map fun x => (x, false))))
        ⟨_, none, [], rfl, ⟨by rw [List.map_map]; exact (List.map_id es).trans (List.filter_eq_self.2 (by simp)).symm, by simp, .nil, by simp⟩, by simp, by
          have S2 : Sep (Going m it (encG kInt vFl (es.map fun x => (x, false))) none :: Slx 1 e1 (.sl .nil [] 0) [] :: pt t (.cells [.map (some m), .int .i64 sl]) :: L) st2 := S.tail fun r h => h.slxNil
          simpa using S2⟩ ?_
      rintro J hJ c env' st3 hsame ⟨fl, last, R, rfl, hD, hn5, S⟩
      have g0 := (hsame.get 0 rfl).trans (by simp : _ = V.ptr (some (t, 0)))
      have g1 := (hsame.get 1 rfl).trans (by simp : _ = V.int .i64 p)
      have g12 := (hsame.get 12 rfl).trans (by simp : _ = V.ptr (some (it, 0)))
      clear hsame
      simp [g12]
      refine Sep.next S ?_ ?_
      · intro hall
        have := encG_all kInt vFl hall
        simp
        exact ⟨fl, fun a b c hm => absurd (this _ hm) (by simp), last, R, hD, hn5, S⟩
      · intro i hi hf st4 S
        have hi' : i < fl.length := by rw [← encG_len kInt vFl]; exact hi
        rw [encG_set kInt vFl fl hi' hi] at S
        obtain ⟨hi2, hent⟩ := S.ent
        have hfi : fl[i].2 = false := by simpa [encG] using hf
        obtain ⟨x, hx⟩ : ∃ x, x = fl[i].1 := ⟨_, rfl⟩
        simp [encG, ← hx] at hent
        simp [g12, hent]
        intro i7 h7
        have key : storeS (st4.upd i7 (.cells [.int .i64 0, .int .i64 0])) 2 (.ptr (some (i7, 0))) (vFl x.2) = some (st4.upd i7 (.cells (eFl x.2))) := by
          rw [store_pt (sz := 2) (o := 0) (vs := eFl x.2) (St.upd_same _ _ _) rfl rfl (by simp)]
          simp [spliceV, eFl]
        have hf0 : segOf (eFl x.2) 0 1 = some [.int .i64 x.2.1] := rfl
        have S := S.new h7 (.cells (eFl x.2))
        have hun := unseen_set hi hf ((encG kInt vFl fl)[i].1)
        rw [encG_set kInt vFl fl hi' hi] at hun
        simp [key]
        generalize st4.upd i7 _ = st5 at S ⊢
        have o7 := S.get
        have S := S.drop
        obtain ⟨fl2, hfl2⟩ : ∃ fl2, fl2 = fl.set i (fl[i].1, true) := ⟨_, rfl⟩
        rw [← hfl2] at S hun
        have hfst : fl2.map (·.1) = fl.map (·.1) := by rw [hfl2, fst_set hi']
        have hlen2 : fl2.length = fl.length := by rw [hfl2, List.length_set]
        have hget2 : ∀ h, fl2[i]'h = (x, true) := fun h => by subst hfl2; rw [List.getElem_set_self, ← hx]
        have hxmem : x ∈ fl.map (·.1) := List.mem_map.2 ⟨fl[i], List.getElem_mem _, hx.symm⟩
        have hxes : x ∈ es ∧ x ∉ R := by
          rw [hD.left, List.mem_filter] at hxmem
          exact ⟨hxmem.1, by simpa using hxmem.2⟩
        have hnfl : ((fl.map (·.1)).map (·.1)).Nodup := by
          rw [hD.left]
          exact (List.filter_sublist.map _).nodup hn
        have seen2 : ∀ y ∈ fl2, y.2 = true → y.1 ≠ x → y.1.2.1 ≠ p := fun y hy hyt hne => by
          rw [hfl2] at hy
          rcases List.mem_or_eq_of_mem_set hy with h | h
          · exact hD.seen y h hyt
          · rw [h, ← hx] at hne; exact absurd rfl hne
        by_cases hp : x.2.1 = p
        · have hel : elems st5 1 (.sl .full [.int .i64 x.1] 1) = some (rowsOf e1 [x.1], 1) := by simp [elems, e1]
          have hfb : fillV (repV [V.int .i64 0] 1) [(0, 1, V.int .i64 x.1)] = some [.int .i64 x.1] := rfl
          have hRl : (R.map (·.1)).length ≤ 1000 := by
            rw [List.length_map]
            exact Nat.le_trans (nodup_length hD.nd fun e he => (hD.out e he).1) hl
          simp [g1, St.seg, o7, hf0, hp, kInt, hfb, hel]
          refine Sep.appx' (b := 8) e1_len (by omega) (S.pull 1) [x.1] (by simp) rfl (by simp only [List.length_singleton]; omega) ?_
          intro s' st6 S
          have S : Sep (Going m it (encG kInt vFl fl2) (some i) :: Slx 1 e1 s' ((R ++ [x]).map (·.1)) :: pt t (.cells [.map (some m), .int .i64 sl]) :: L) st6 := by
            have := Sep.swap S
            rw [List.map_append]
            exact this
          have ot := S.drop.drop.get
          have hmf : mfindI .int (V.int .i64 x.1) ((encG kInt vFl fl2).map (·.1)) 0 = some (some i) := by
            rw [encG_map]
            have hi3 : i < (fl2.map (·.1)).length := by rw [List.length_map, hlen2]; exact hi'
            have := mfindI_at keyed_int (ev := vFl) (fl2.map (·.1)) i 0 hi3 (by rw [hfst]; exact hnfl)
            rw [List.getElem_map, hget2, Nat.zero_add] at this
            exact this
          obtain ⟨st7, hdel, S⟩ := S.gdel (by rw [encG_len, hlen2]; exact hi') (kk := .int) (k := V.int .i64 x.1) rfl hmf
          rw [encG_erase] at S
          simp [g0, St.seg, ot, hseg, hdel]
          refine Round.mk (unseen (encG kInt vFl (fl2.eraseIdx i))) _ ?_ (sub_self _) (hJ _ _ _ ⟨fl2.eraseIdx i, none, R ++ [x], rfl, ⟨?_, ?_, ?_, ?_⟩, by simp, by simpa using S⟩)
          · have := unseen_erase (encG kInt vFl fl2) i
            rw [encG_erase] at this
            omega
          · rw [← erase_map, hfst]
            have hi3 : i < (fl.map (·.1)).length := by rw [List.length_map]; exact hi'
            have hndl : (fl.map (·.1)).Nodup := nodup_unmap _ hnfl
            rw [erase_filter hndl i hi3, List.getElem_map, ← hx, hD.left, List.filter_filter]
            refine List.filter_congr fun e he => ?_
            rw [Bool.eq_iff_iff]
            simp
            constructor
            · rintro ⟨h1, h2⟩
              exact ⟨h2, h1⟩
            · rintro ⟨h1, h2⟩
              exact ⟨h2, h1⟩
          · intro e he
            rcases List.mem_append.1 he with he | he
            · exact hD.out e he
            · rw [List.mem_singleton.1 he]; exact ⟨hxes.1, hp⟩
          · rw [List.nodup_append]
            exact ⟨hD.nd, by simp, fun a ha c hc e => by rw [List.mem_singleton.1 hc] at e; exact hxes.2 (e ▸ ha)⟩
          · intro y hy hyt
            refine seen2 y (List.eraseIdx_subset hy) hyt fun e => ?_
            have hndl : (fl2.map (·.1)).Nodup := by rw [hfst]; exact nodup_unmap _ hnfl
            have hi3 : i < (fl2.map (·.1)).length := by rw [List.length_map, hlen2]; exact hi'
            have hm : x ∈ (fl2.map (·.1)).eraseIdx i := by
              rw [erase_map]
              exact List.mem_map.2 ⟨y, hy, e⟩
            rw [erase_filter hndl i hi3, List.getElem_map, hget2] at hm
            simp at hm
        · have hpb : (x.2.1 == p) = false := beq_eq_false_iff_ne.2 hp
          simp [g1, St.seg, o7, hf0, hpb]
          refine Round.mk _ _ hun (sub_self _) (hJ _ _ _ ⟨fl2, some i, R, rfl, ⟨by rw [hfst]; exact hD.left, hD.out, hD.nd, ?_⟩, by simpa using hn5, by simpa using S⟩)
          intro y hy hyt
          by_cases e : y.1 = x
          · rw [e]; exact hp
          · exact seen2 y hy hyt e
    · rintro env' st3 hsame ⟨fl, last, R, hall, hD, hn5, S⟩
      have g11 := (hsame.get 11 rfl).trans (by simp : _ = V.map (some m))
      clear hsame
      obtain ⟨hfz, S⟩ := S.gone
      obtain ⟨f1, f2⟩ := hD.fin hn hall
      refine frzP_one (by rw [g11]; exact hfz) ?_
      rw [encG_map, f1] at S ⊢
      generalize st3.upd m _ = st4 at S ⊢
      have S := S.swap
      have hRl : (R.map (·.1)).length ≤ 1000 := by
        rw [List.length_map]
        exact Nat.le_trans (nodup_length hD.nd fun e he => (hD.out e he).1) hl
      simp
      refine (oks.use S (fun e => hn5 (by simpa using e)) (by omega)).mono ?_
      rintro v st5 ⟨l', h1, h2, S⟩
      simp
      exact ⟨st5, sub_self _, l', h1.trans f2, h2, some m, (fun e => by cases e), (S.pull 2).tail fun r h => h.swap⟩
end
end Go.Ab
set_option linter.unusedSimpArgs false
set_option linter.unusedVariables false
set_option maxRecDepth 10000
namespace Go.Ab
open Go Go.RowKit
section
variable {P : Program} {F : Fn}
set_option maxHeartbeats 8000000 in
theorem spec292 (ok : OkLaw18 P F) (hc : CloneC P (F 256)) (st : St) (w : Wf (w18M [0, 1]).1) (h3 : (w18M [0, 1]).1.length = 3) (hw : wantM (w18C (w18M [0, 1]).1) [] 1 2 = [1, 2]) :
    ACalls P (F 292) [] st fun v st' => v = .bool true ∧ st' = st := by
  have okw := ok.toOkWindow
  have okc := okw.toOkChain
  have oki := okc.toOkLocate.toOkIndexZ.toOkIndex
  refine shows_call ok.mixed ok.h292 (by simp [k292]) ?_
  simp only [k292]
  have f1 : fillV (repV [V.int .i64 0] 2) [(0, 1, .int .i64 0), (1, 1, .int .i64 1)] = some [.int .i64 0, .int .i64 1] := rfl
  have eqp : ∀ c, eqK .ptr (V.ptr (some (c, 0))) (V.ptr none) = some false := fun _ => rfl
  simp [f1]
  refine (spec291 ok hc st (s := .sl .full [.int .i64 0, .int .i64 1] 2) (ps := [0, 1]) (.inl ⟨.full, rfl⟩) (by simp)).mono ?_
  rintro v st1 ⟨cid, s', rfl, S⟩
  obtain ⟨mo, tid, bid, uid, R, -⟩ := chGrow (P := P) (S.pull 1)
  have T : TreeR tid w18R (w18M [0, 1]).1 st1 := R.tree w.neNil
  have ot := R.top
  simp [eqp, St.seg, ot, cseg0]
  refine (spec159 oki T).mono ?_
  rintro v st2 ⟨rfl, rfl⟩
  simp [h3]
  intro i3 hi3
  have W : WinS i3 [] 0 (ChA cid (w18C (w18M [0, 1]).1) :: [Was st]) (st2.upd i3 (.cells [.map none, .int .i64 0])) := WinS.start ((S.drop).new hi3 _)
  generalize st2.upd i3 _ = st3 at W ⊢
  clear R T ot S
  simp
  refine (spec289 okw W w (by show (w18M [0, 1]).1.length ≤ 16384; rw [h3]; decide) (by simp) 1 2).mono ?_
  intro v st4 W
  rw [hw] at W
  have rd := Sep.rd e1_len (W.rest.head fun h hh => hh.sl)
  have hln := rd.len
  obtain ⟨r1, r2, r3, r4⟩ := rd.row e1_len (i := 0) (by simp)
  simp at r1 hln
  simp [hln, r1, r3, e1]
  refine (spec283 okw W 1 1 5 (by simp)).mono ?_
  rintro v st5 ⟨rfl, W⟩
  have a1 : askM [] 1 1 = 0 := by decide
  have a2 : askT [] 1 1 5 = [(1, (1, 5))] := by decide
  have a3 : askM [(1, (1, 5))] 1 2 = 5 := by decide
  have a4 : askT [(1, (1, 5))] 1 2 5 = [(1, (1, 5))] := by decide
  rw [a2] at W
  rw [a1]
  simp
  refine (spec283 okw W 1 2 5 (by simp)).mono ?_
  rintro v st6 ⟨rfl, W⟩
  rw [a4] at W
  rw [a3]
  simp
  refine (spec282 okw W 1).mono ?_
  rintro v st7 ⟨rfl, rfl⟩
  have a5 : (((lk 1 [((1 : Int), ((1 : Int), (5 : Int)))]).map (·.1)).getD 0) = 1 := by decide
  have a6 : (lk 1 [((1 : Int), ((1 : Int), (5 : Int)))]).isSome = true := by decide
  rw [a5, a6]
  simp
  refine (spec288 okw W 24 (by decide)).mono ?_
  rintro v st8 ⟨p, b, rfl, hL, W⟩
  have hb : b = false := by
    cases b with
    | false => rfl
    | true =>
      obtain ⟨⟨e, h1, h2, -⟩, -⟩ := hL.yes rfl
      rw [List.mem_singleton.1 h1] at h2
      exact absurd h2 (by decide)
  subst hb
  simp
  refine (spec288 okw W 25 (by decide)).mono ?_
  rintro v st9 ⟨q, b, rfl, hL2, W⟩
  have hb : b = true := by
    cases b with
    | true => rfl
    | false =>
      have := (hL2.no rfl).2 (1, (1, 5)) (by simp)
      exact absurd this (by decide)
  subst hb
  have hq : q = 1 := by
    obtain ⟨⟨e, h1, -, h2⟩, -⟩ := hL2.yes rfl
    rw [List.mem_singleton.1 h1] at h2
    exact h2.symm
  subst hq
  simp
  refine (spec280 okw W).mono ?_
  rintro v st10 ⟨rfl, rfl⟩
  simp
  refine (spec281 okw W 1 (by simp)).mono ?_
  rintro v st11 ⟨rfl, W⟩
  have a7 : countM [((1 : Int), ((1 : Int), (5 : Int)))] 1 = 1 := by decide
  rw [a7]
  obtain ⟨mv, om⟩ := W.at
  simp
  refine (spec279 okw om (by decide)).mono ?_
  rintro v st12 ⟨rfl, rfl⟩
  have a8 : limM 1 = 40 := by decide
  have a9 : limM (if true = true then min ((if false = true then min ((0 : Int) + 1) 3 else 0) + 1) 3 else if false = true then min ((0 : Int) + 1) 3 else 0) = 40 := by decide
  rw [a9]
  simp
  exact W.rest.was' (st0 := st) (by simp)
end
end Go.Ab
set_option linter.unusedSimpArgs false
set_option linter.unusedVariables false
set_option maxRecDepth 10000
namespace Go.Ab
open Go Go.RowKit
theorem w18_want : wantM (w18C [w18g, w18n1, w18n2]) [] 1 2 = [1, 2] := by
  have w := w18_wf2
  have p1 : par [w18g, w18n1, w18n2] 1 = 0 := rfl
  have p2 : par [w18g, w18n1, w18n2] 2 = 1 := rfl
  have i0 : inI [w18g, w18n1, w18n2] 0 = 0 := rfl
  have i1 : inI [w18g, w18n1, w18n2] 1 = 1 := rfl
  have i2 : inI [w18g, w18n1, w18n2] 2 = 2 := rfl
  have c0 : clI [w18g, w18n1, w18n2] 0 = 0 := rfl
  have c2 : clI [w18g, w18n1, w18n2] 2 = 2 := rfl
  have hlen : [w18g, w18n1, w18n2].length = 3 := rfl
  have hf : (nd [w18g, w18n1, w18n2] 2).failed = false := rfl
  have hC : ∀ l, (w18C l).l = l := fun l => rfl
  have hT : ∀ l, (w18C l).tip = 0 := fun l => rfl
  have hh : ∀ l i, hasM (w18C l) i = decide (i = 0) := fun l i => by
    show ((lk i [((0 : Int), w18G)]).isSome) = _
    rw [lk_cons]
    by_cases h : i = 0 <;> simp [h, lk]
  generalize hl : [w18g, w18n1, w18n2] = l at *
  have h0 : hgt l 0 = 0 := w.hgt_zero
  have h1 : hgt l 1 = 1 := by rw [w.hgt_par (by omega) (by omega), p1, h0]
  have h2 : hgt l 2 = 2 := by rw [w.hgt_par (by omega) (by omega), p2, h1]
  have a0 : anc l 0 0 = 0 := by unfold anc; rw [h0]; rfl
  have a20 : anc l 2 0 = 0 := by
    unfold anc
    rw [h2]
    show upN l 0 (par l (par l 2)) = 0
    rw [p2, p1]; rfl
  have a21 : anc l 2 1 = 1 := by
    unfold anc
    rw [h2]
    show upN l 0 (par l 2) = 1
    rw [p2]; rfl
  have a22 : anc l 2 2 = 2 := by unfold anc; rw [h2]; rfl
  have m : meetM l 0 2 = 0 := by
    unfold meetM
    rw [h0, h2]
    show meetGo l 0 (anc l 0 0) (anc l 2 0) = 0
    rw [a0]; rfl
  have hon : onB l ((0 : Nat) : Int) ((2 : Nat) : Int) = true := by
    rw [onB_nat (by omega) (by omega), h0, h2, a20]; rfl
  have hw : wayI l ((0 : Nat) : Int) 2 = [1, 2] := by
    unfold wayI
    rw [if_pos (show onB l ((0 : Nat) : Int) 2 = true from hon)]
    show wayM l 0 2 = _
    unfold wayM
    rw [h0, h2]
    show [((anc l 2 1 : Nat) : Int), ((anc l 2 2 : Nat) : Int)] = [1, 2]
    rw [a21, a22]; rfl
  have n0 : (nd l 0).height = 0 := by rw [nd_hgt_eq (by omega), h0]
  have n1 : (nd l 1).height = 1 := by rw [nd_hgt_eq (by omega), h1]
  have n2 : (nd l 2).height = 2 := by rw [nd_hgt_eq (by omega), h2]
  unfold wantM
  rw [hC, hT, i2, hf, hlen, if_neg (by decide), i0, n0, c0, c2, m, hw]
  have hcm : countM [] 1 = 0 := rfl
  rw [hcm]
  rw [wantGo, hC, i1, n1, if_neg (by decide), hh, if_pos (by decide), wantGo, hC, i2, n2, if_neg (by decide), hh, if_pos (by decide), wantGo]
  rfl
section
variable {P : Program} {F : Fn}
theorem wants_true (ok : OkLaw18 P F) (hc : CloneC P (F 256)) (st : St) : ACalls P (F 292) [] st fun v st' => v = .bool true ∧ st' = st :=
  spec292 ok hc st (by rw [w18_all]; exact w18_wf2) (by rw [w18_all]; rfl) (by rw [w18_all]; exact w18_want)
end
end Go.Ab
set_option linter.unusedSimpArgs false
set_option linter.unusedVariables false
set_option maxRecDepth 10000
namespace Go.Ab
open Go Go.RowKit
section
variable {P : Program} {F : Fn}
end
end Go.Ab
set_option linter.unusedSimpArgs false
set_option linter.unusedVariables false
set_option maxRecDepth 10000
namespace Go.Ab
open Go Go.RowKit
theorem asc_of {l : List Int} (h : l.Pairwise (· ≤ ·)) (hn : l.Nodup) : l.Pairwise (· < ·) := by
  have := List.pairwise_and_iff.2 ⟨h, hn⟩
  exact this.imp fun {a b} h => by
    have h1 := h.1
    have h2 := h.2
    omega
theorem nodup_inj {α : Type} {l : List α} (h : l.Nodup) {i j : Nat} (hi : i < l.length) (hj : j < l.length) (e : l[i] = l[j]) : i = j := by
  have hp := List.pairwise_iff_getElem.1 h
  rcases Nat.lt_trichotomy i j with hlt | rfl | hlt
  · exact absurd e (hp i j hi hj hlt)
  · rfl
  · exact absurd e.symm (hp j i hj hi hlt)
def LateFrom (es : Fls) (sl now q w : Int) : Prop :=
  (w = -1 ∧ ∀ e ∈ es, q ≤ e.2.1 → lateB sl now e.2 = false) ∨
  (q ≤ w ∧ (∃ e ∈ es, lateB sl now e.2 = true ∧ e.2.1 = w) ∧ ∀ e ∈ es, q ≤ e.2.1 → lateB sl now e.2 = true → w ≤ e.2.1)
theorem LateFrom.start {es : Fls} {sl now n : Int} (h : ∀ e ∈ es, e.2.1 < n) : LateFrom es sl now n (-1) := .inl ⟨rfl, fun e he hq => by
  have := h e he
  omega⟩
theorem count_pos {es : Fls} {q : Int} : 0 < countM es q ↔ ∃ e ∈ es, e.2.1 = q := by
  unfold countM
  rw [List.countP_pos_iff]
  simp
theorem LateFrom.step {es : Fls} {sl now q w s : Int} (h : LateFrom es sl now (q + 1) w) (hs : ∀ e ∈ es, e.2.1 = q → e.2 = (q, s)) :
    LateFrom es sl now q (if 0 < countM es q ∧ lateB sl now (q, s) = true then q else w) := by
  by_cases hc : 0 < countM es q ∧ lateB sl now (q, s) = true
  · rw [if_pos hc]
    obtain ⟨e, he, hq⟩ := count_pos.1 hc.1
    exact .inr ⟨Int.le_refl _, ⟨e, he, by rw [hs e he hq]; exact hc.2, hq⟩, fun e he h1 _ => h1⟩
  · rw [if_neg hc]
    have hno : ∀ e ∈ es, e.2.1 = q → lateB sl now e.2 = false := fun e he hq => by
      cases hl : lateB sl now e.2 with
      | false => rfl
      | true => exact absurd ⟨count_pos.2 ⟨e, he, hq⟩, by rw [← hs e he hq]; exact hl⟩ hc
    rcases h with ⟨h1, h2⟩ | ⟨h1, h2, h3⟩
    · refine .inl ⟨h1, fun e he hq => ?_⟩
      by_cases hq' : e.2.1 = q
      · exact hno e he hq'
      · exact h2 e he (by omega)
    · refine .inr ⟨by omega, h2, fun e he hq hl => ?_⟩
      by_cases hq' : e.2.1 = q
      · rw [hno e he hq'] at hl; cases hl
      · exact h3 e he (by omega) hl
theorem LateFrom.fin {es : Fls} {sl now w p : Int} {b : Bool} (h : LateFrom es sl now 0 w) (hL : LateIs es sl now p b) (h0 : ∀ e ∈ es, 0 ≤ e.2.1) : b = decide (0 ≤ w) ∧ (b = true → p = w) := by
  rcases h with ⟨h1, h2⟩ | ⟨h1, ⟨e, he, h2, h2'⟩, h3⟩
  · have : b = false := by
      cases b with
      | false => rfl
      | true =>
        obtain ⟨⟨e, he, hl, -⟩, -⟩ := hL.yes rfl
        rw [h2 e he (h0 e he)] at hl; cases hl
    subst this
    subst h1
    exact ⟨rfl, fun h => by cases h⟩
  · have : b = true := by
      cases b with
      | true => rfl
      | false =>
        have := (hL.no rfl).2 e he
        rw [h2] at this; cases this
    subst this
    obtain ⟨⟨e', he', hl', hp'⟩, hmin⟩ := hL.yes rfl
    refine ⟨by simp [h1], fun _ => ?_⟩
    have a := hmin e he h2
    have b := h3 e' he' (h0 e' he') hl'
    omega
structure LateT (s : List Int) (k : Nat) (es : Fls) : Prop where
  row : ∀ e ∈ es, ∃ q : Nat, q < k ∧ e = (100 + (q : Int), ((q : Int), s.getD q 0))
  nd : (es.map (·.1)).Nodup
theorem LateT.nil (s : List Int) : LateT s 0 [] := ⟨fun e he => (by cases he), List.nodup_nil⟩
theorem lk_none_of {K A : Type} [DecidableEq K] {k : K} : ∀ {l : List (K × A)}, (∀ e ∈ l, e.1 ≠ k) → lk k l = none
  | [], _ => rfl
  | p :: l, h => by
    unfold lk
    rw [List.lookup_cons]
    have : (k == p.1) = false := by
      have := h p (by simp)
      simpa using fun e => this e.symm
    rw [this]
    exact lk_none_of fun e he => h e (by simp [he])
theorem LateT.count {s : List Int} {k : Nat} {es : Fls} (h : LateT s k es) : countM es k = 0 := by
  unfold countM
  rw [List.countP_eq_zero]
  intro e he
  obtain ⟨q, hq, rfl⟩ := h.row e he
  simp
  omega
theorem LateT.more {s : List Int} {k : Nat} {es : Fls} (h : LateT s k es) : askM es (100 + (k : Int)) k = 0 ∧ LateT s (k + 1) (askT es (100 + (k : Int)) k (s.getD k 0)) ∧ (askT es (100 + (k : Int)) k (s.getD k 0)).length = es.length + 1 := by
  have hl : lk (100 + (k : Int)) es = none := lk_none_of fun e he => by
    obtain ⟨q, hq, rfl⟩ := h.row e he
    show 100 + (q : Int) ≠ _
    omega
  have h0 : askM es (100 + (k : Int)) k = 0 := by
    unfold askM
    rw [hl, h.count]
    simp
  refine ⟨h0, ?_, by rw [askT, if_pos h0]; simp⟩
  rw [askT, if_pos h0]
  refine ⟨fun e he => ?_, ?_⟩
  · rcases List.mem_append.1 he with he | he
    · obtain ⟨q, hq, rfl⟩ := h.row e he
      exact ⟨q, by omega, rfl⟩
    · rw [List.mem_singleton.1 he]
      exact ⟨k, by omega, rfl⟩
  · rw [List.map_append, List.nodup_append]
    refine ⟨h.nd, by simp, fun a ha b hb => ?_⟩
    rw [List.map_cons, List.map_nil, List.mem_singleton] at hb
    subst hb
    obtain ⟨e, he, rfl⟩ := List.mem_map.1 ha
    obtain ⟨q, hq, rfl⟩ := h.row e he
    show 100 + (q : Int) ≠ _
    omega
theorem LateT.sub {s : List Int} {k : Nat} {es : Fls} (h : LateT s k es) (p : Int) : LateT s k (es.filter fun e => e.2.1 != p) :=
  ⟨fun e he => h.row e (List.mem_filter.1 he).1, (List.filter_sublist.map _).nodup h.nd⟩
theorem LateT.one {s : List Int} {k : Nat} {es : Fls} (h : LateT s k es) {e : Int × Fl} (he : e ∈ es) : (es.filter fun x => x.2.1 == e.2.1).length = 1 ∧ (es.filter fun x => x.2.1 != e.2.1).length + 1 = es.length := by
  have h1 : (es.filter fun x => x.2.1 == e.2.1).length = 1 := by
    have hn : (es.filter fun x => x.2.1 == e.2.1).Nodup := (nodup_of_keys h.nd).filter _
    have hall : ∀ x ∈ es.filter fun x => x.2.1 == e.2.1, x = e := fun x hx => by
      obtain ⟨hx1, hx2⟩ := List.mem_filter.1 hx
      obtain ⟨q, -, rfl⟩ := h.row x hx1
      obtain ⟨r, -, rfl⟩ := h.row e he
      have : (q : Int) = r := by simpa using hx2
      rw [this, show q = r by omega]
    have hm : e ∈ es.filter fun x => x.2.1 == e.2.1 := List.mem_filter.2 ⟨he, by simp⟩
    generalize es.filter (fun x => x.2.1 == e.2.1) = l at hn hall hm
    match l, hn, hall, hm with
    | [x], _, _, _ => rfl
    | x :: y :: l, hn, hall, _ =>
      have hx := hall x (by simp)
      have hy := hall y (by simp)
      rw [hx, hy] at hn
      simp at hn
  refine ⟨h1, ?_⟩
  have := List.length_eq_countP_add_countP (fun x : Int × Fl => x.2.1 == e.2.1) (l := es)
  rw [List.countP_eq_length_filter, List.countP_eq_length_filter, h1] at this
  have e2 : (es.filter fun x => !(x.2.1 == e.2.1)) = es.filter fun x => x.2.1 != e.2.1 := rfl
  simp only [Bool.not_eq_true, Bool.decide_eq_false] at this
  rw [e2] at this
  omega
section
variable {P : Program} {F : Fn}
end
end Go.Ab
set_option linter.unusedVariables false
namespace Go.Ab
open Go
def k298 (F : Fn) : PF := PF.mk 5 0 [(.t 1)] (.seq (.ops [(PO.mk (some 1) (.mv (.k (.int .i64 0))) none)]) (.seq (.ops [(PO.mk (some 2) (.load false 1 (.t 0)) none), (PO.mk (some 3) (.bin .shl (.k (.int .i64 20)) (.t 2)) none), (PO.mk (some 4) (.min [(.k (.int .i64 160)), (.t 3)]) none), (PO.mk (some 1) (.mv (.t 4)) none)]) .ret))
structure OkLaw18b (P : Program) (F : Fn) : Prop where
  mixed : P.follows .mixedOrders = true
  toOkLaw18 : OkLaw18 P F
  h298 : compFn P ⟨[], [], [], [], []⟩ (F 298) = some (k298 F)
  ok298 : okFn P (F 298) = true
end Go.Ab
set_option linter.unusedSimpArgs false
set_option linter.unusedVariables false
namespace Go.Ab
open Go Go.RowKit
theorem condB_joinB {P : Program} {v : V} {a b rest : PC} {id : Nat} {Q : Ex → Env → St → Prop} {env : Env} {st : St} (M : Env → St → Prop)
    (h : condB P v a b (blkK id (unrK M Q)) env st) (k : ∀ env' st', Same (a.writes ++ b.writes) env env' → M env' st' → vc P rest Q env' st') : condB P v a b (blkK id (seqK P rest Q)) env st := by
  unfold condB at h ⊢
  cases v <;> simp only at h ⊢
  case bool t =>
    cases t
    · simp only [Bool.false_eq_true, if_false] at h ⊢
      exact vc_joinB M h fun env' st' hs hm => k env' st' (fun t ht => hs t fun h => ht (List.mem_append_right _ h)) hm
    · simp only [if_true] at h ⊢
      exact vc_joinB M h fun env' st' hs hm => k env' st' (fun t ht => hs t fun h => ht (List.mem_append_left _ h)) hm
theorem condB_cut {P : Program} {v : V} {a b rest : PC} {Q : Ex → Env → St → Prop} {env : Env} {st : St} (M : Env → St → Prop)
    (h : condB P v a b (fun e env' st' => match e with | .normal => M env' st' | e => Q e env' st') env st) (k : ∀ env' st', M env' st' → vc P rest Q env' st') : condB P v a b (seqK P rest Q) env st := by
  unfold condB at h ⊢
  cases v <;> simp only at h ⊢
  case bool t =>
    have key : ∀ c, vc P c (fun e env' st' => match e with | .normal => M env' st' | e => Q e env' st') env st → vc P c (seqK P rest Q) env st := fun c h =>
      vc_frame c _ _ env st (fun e env' st' _ h => by cases e <;> first | exact k _ _ h | exact h) h
    cases t
    · simp only [Bool.false_eq_true, if_false] at h ⊢
      exact key _ h
    · simp only [if_true] at h ⊢
      exact key _ h
end Go.Ab
set_option linter.unusedSimpArgs false
set_option linter.unusedVariables false
set_option maxRecDepth 10000
namespace Go.Ab
open Go Go.RowKit
abbrev Op4 := Int × Int × Int × Int
def e4 (o : Op4) : List V := [.int .i64 o.1, .int .i64 o.2.1, .int .i64 o.2.2.1, .int .i64 o.2.2.2]
theorem e4_len (o : Op4) : (e4 o).length = 4 := rfl
theorem aDel_filter (k : Int) : ∀ l : Fls, (l.map (·.1)).Nodup → aDel k l = l.filter fun e => e.1 != k
  | [], _ => rfl
  | e :: l, h => by
    rw [List.map_cons, List.nodup_cons] at h
    rw [aDel, List.filter_cons]
    by_cases hk : k = e.1
    · subst hk
      rw [if_pos rfl, if_neg (by simp)]
      symm
      rw [List.filter_eq_self]
      intro a ha
      have : a.1 ≠ e.1 := fun h2 => h.1 (h2 ▸ List.mem_map.2 ⟨a, ha, rfl⟩)
      simpa using this
    · have : (e.1 != k) = true := by simpa using fun h2 => hk h2.symm
      rw [if_neg hk, if_pos this, aDel_filter k l h.2]
theorem lk_mem : ∀ {l : Fls}, (l.map (·.1)).Nodup → ∀ {e : Int × Fl}, e ∈ l → lk e.1 l = some e.2
  | a :: l, h, e, he => by
    rw [List.map_cons, List.nodup_cons] at h
    unfold lk
    rw [List.lookup_cons]
    rcases List.mem_cons.1 he with rfl | he
    · simp
    · have : (e.1 == a.1) = false := by
        refine beq_eq_false_iff_ne.2 fun h2 => h.1 (h2 ▸ List.mem_map.2 ⟨e, he, rfl⟩)
      rw [this]
      exact lk_mem h.2 he
theorem lk_snoc (i : Int) (x : Int × Fl) : ∀ l : Fls, (lk i (l ++ [x])).isSome = ((lk i l).isSome || (x.1 == i))
  | [] => by
    unfold lk
    rw [List.nil_append, List.lookup_cons]
    by_cases h : i = x.1
    · simp [h]
    · have h1 : (i == x.1) = false := beq_eq_false_iff_ne.2 h
      have h2 : (x.1 == i) = false := beq_eq_false_iff_ne.2 fun e => h e.symm
      simp [h1, h2]
  | a :: l => by
    have ih := lk_snoc i x l
    unfold lk at ih ⊢
    rw [List.cons_append, List.lookup_cons, List.lookup_cons]
    by_cases h : i = a.1
    · simp [h]
    · have h1 : (i == a.1) = false := beq_eq_false_iff_ne.2 h
      simp only [h1]
      exact ih
theorem count_snoc (p : Int) (x : Int × Fl) (l : Fls) : countM (l ++ [x]) p = countM l p + if x.2.1 = p then 1 else 0 := by
  unfold countM
  rw [List.countP_append, List.countP_singleton]
  by_cases h : x.2.1 = p <;> simp [h]
theorem LateIs.uniq {es : List (Int × Fl)} {sl now p p' : Int} {b b' : Bool} (h : LateIs es sl now p b) (k : LateIs es sl now p' b') : b = b' ∧ p = p' := by
  cases b with
  | false =>
    have hn := h.no rfl
    cases b' with
    | false => exact ⟨rfl, by rw [hn.1, (k.no rfl).1]⟩
    | true =>
      obtain ⟨⟨e, he, h1, -⟩, -⟩ := k.yes rfl
      rw [hn.2 e he] at h1; cases h1
  | true =>
    obtain ⟨⟨e, he, h1, h2⟩, h3⟩ := h.yes rfl
    cases b' with
    | false =>
      rw [(k.no rfl).2 e he] at h1; cases h1
    | true =>
      obtain ⟨⟨e', he', k1, k2⟩, k3⟩ := k.yes rfl
      have a := h3 e' he' k1
      have c := k3 e he h1
      exact ⟨rfl, by omega⟩
theorem askT_len (es : Fls) (i p now : Int) : (askT es i p now).length ≤ es.length + 1 := by
  unfold askT
  split <;> simp
theorem askT_nodup {es : Fls} (h : (es.map (·.1)).Nodup) (i p now : Int) : ((askT es i p now).map (·.1)).Nodup := by
  unfold askT
  split
  · next h0 =>
    rw [List.map_append, List.nodup_append]
    refine ⟨h, by simp, fun a ha b hb e => ?_⟩
    rw [List.map_cons, List.map_nil, List.mem_singleton] at hb
    rw [hb] at e
    obtain ⟨x, hx, rfl⟩ := List.mem_map.1 ha
    have := lk_mem h hx
    rw [e] at this
    unfold askM at h0
    rw [if_pos (by rw [this]; rfl)] at h0
    cases h0
  · exact h
theorem e3_fill (i p s : Int) : fillV [V.int .i64 0, V.int .i64 0, V.int .i64 0] [(0, 1, V.int .i64 i), (1, 1, V.int .i64 p), (2, 1, V.int .i64 s)] = some (e3 (i, p, s)) := rfl
theorem e3_fill2 (r : Int × Fl) : fillV (repV [V.int .i64 0, V.int .i64 0, V.int .i64 0] 1) [(0, 3, .agg (e3 r))] = some (e3 r) := rfl
theorem e3_elems (st : St) (r : Int × Fl) : elems st 3 (.sl .full (e3 r) 1) = some (rowsOf e3 [r], 1) := by simp [elems, e3, rowsOf]
def playSl (kd oi sl : Int) (l : Fls) : Int := if kd = 1 ∧ (lk oi l).isSome = true then max 0 (sl - 1) else sl
theorem take_lk_none {es : Fls} (h : (es.map (·.1)).Nodup) {j : Nat} (hj : j < es.length) : (lk es[j].1 (es.take j)).isSome = false := by
  rw [lk_none_of (fun e he => ?_)]
  · rfl
  · obtain ⟨k, hk, rfl⟩ := List.mem_iff_getElem.1 he
    rw [List.length_take] at hk
    rw [List.getElem_take]
    intro e
    have := nodup_inj h (i := k) (j := j) (by rw [List.length_map]; omega) (by rw [List.length_map]; omega) (by rw [List.getElem_map, List.getElem_map]; exact e)
    omega
theorem gotT_le {es : Fls} {sl i : Int} (h1 : 0 ≤ sl) (h2 : sl ≤ 3) : 0 ≤ gotT es sl i ∧ gotT es sl i ≤ 3 := by
  unfold gotT
  split <;> omega
section
variable {P : Program} {F : Fn}
theorem spec298 (ok : OkLaw18b P F) {st : St} {i : Nat} {sl : Int} (h : st i = some (.cells [.int .i64 sl])) (hs : 0 ≤ sl ∧ sl ≤ 3) : ACalls P (F 298) [.ptr (some (i, 0))] st fun v st' => v = .int .i64 (limM sl) ∧ st' = st := by
  refine shows_call ok.mixed ok.h298 (by simp [k298]) ?_
  simp only [k298]
  have hseg : segOf [V.int .i64 sl] 0 1 = some [.int .i64 sl] := rfl
  have hm : foldV min2V (V.int .i64 160) [V.int .i64 (20 * 2 ^ sl.toNat)] = some (.int .i64 (limM sl)) := by
    simp only [foldV, min2V, if_true, Option.bind_some, limM]
    congr 2
    split <;> omega
  simp [St.seg, h, hseg, shl20 hs, hm]
theorem still_callv {x : X} {l : List X} {f : FuncId} {cap : List V} {v : V} {env : Env} {st : St} {K : V → St → Prop} (hx : x.ev env = .func f cap) (hok : okFn P f = true)
    (h : ACalls P f (l.map (fun x => X.ev env x) ++ cap) st fun v' st' => v' = v ∧ st' = st) (hk : K v st) : stillV P (.callv x l) env st K := by
  show (match x.ev env with | .func f cap => okFn P f = true ∧ ∃ v, ACalls P f (l.map (fun x => X.ev env x) ++ cap) st (fun v' st' => v' = v ∧ st' = st) ∧ K v st | _ => False)
  rw [hx]
  exact ⟨hok, v, h, hk⟩
theorem row3_store {st : St} {i : Nat} (r : Int × Fl) : storeS (st.upd i (.cells [.int .i64 0, .int .i64 0, .int .i64 0])) 3 (.ptr (some (i, 0))) (.agg (e3 r)) = some (st.upd i (.cells (e3 r))) := by
  rw [store_pt (sz := 3) (o := 0) (vs := e3 r) (St.upd_same _ _ _) rfl rfl (by simp)]
  simp [spliceV, e3]
theorem row4_store {st : St} {i : Nat} (r : Op4) : storeS (st.upd i (.cells [.int .i64 0, .int .i64 0, .int .i64 0, .int .i64 0])) 4 (.ptr (some (i, 0))) (.agg (e4 r)) = some (st.upd i (.cells (e4 r))) := by
  rw [store_pt (sz := 4) (o := 0) (vs := e4 r) (St.upd_same _ _ _) rfl rfl (by simp)]
  simp [spliceV, e4]
theorem s30 (r : Int × Fl) : segOf (e3 r) 0 1 = some [.int .i64 r.1] := rfl
theorem s31 (r : Int × Fl) : segOf (e3 r) 1 1 = some [.int .i64 r.2.1] := rfl
theorem s32 (r : Int × Fl) : segOf (e3 r) 2 1 = some [.int .i64 r.2.2] := rfl
theorem s3all (r : Int × Fl) : segOf (e3 r) 0 3 = some (e3 r) := rfl
theorem s40 (r : Op4) : segOf (e4 r) 0 1 = some [.int .i64 r.1] := rfl
theorem s41 (r : Op4) : segOf (e4 r) 1 1 = some [.int .i64 r.2.1] := rfl
theorem s42 (r : Op4) : segOf (e4 r) 2 1 = some [.int .i64 r.2.2.1] := rfl
theorem s43 (r : Op4) : segOf (e4 r) 3 1 = some [.int .i64 r.2.2.2] := rfl
def PlayL (i8 i5 : Nat) (o : Op4) (sl : Int) (rv : V) (es : Fls) (st1 : St) : List Asn := [pt i8 (.cells (e4 o)), pt i5 (.cells [.int .i64 sl]), Slx 3 e3 rv es, Was st1]
set_option maxHeartbeats 32000000 in
theorem spec297 (okb : OkLaw18b P F) (hc : CloneC P (F 256)) (oks : SortC P (F 286)) (st : St) {s : V} {l : List Op4} (hr : Rd 4 e4 s l st) : ACalls P (F 297) [s] st fun v st' => v = .bool true ∧ st' = st := by
  have ok := okb.toOkLaw18
  have okw := ok.toOkWindow
  refine shows_call ok.mixed ok.h297 (by simp [k297]) ?_
  simp only [k297]
  have eqb : ∀ b, eqK .bool (V.bool b) (V.bool b) = some true := fun b => by cases b <;> rfl
  simp
  refine (wants_true ok hc st).mono ?_
  rintro v st1 ⟨rfl, rfl⟩
  have hlen := hr.len
  by_cases c1 : 100 < l.length
  · have c1' : 100 < (l.length : Int) := by omega
    simp [hlen, c1']
  have c1' : ¬ 100 < (l.length : Int) := by omega
  simp [hlen, c1']
  intro i3 hi3
  have W : WinS i3 [] 0 [Was st1] (st1.upd i3 (.cells [.map none, .int .i64 0])) := WinS.start ((Sep.start st1).new hi3 _)
  generalize st1.upd i3 _ = st2 at W ⊢
  simp
  intro i5 hi5
  have W : WinS i3 [] 0 [pt i5 (.cells [.int .i64 0]), Was st1] (st2.upd i5 (.cells [.int .i64 0])) := W.new hi5 _
  have hst : storeS (st2.upd i5 (.cells [.int .i64 0])) 1 (.ptr (some (i5, 0))) (.int .i64 0) = some (st2.upd i5 (.cells [.int .i64 0])) := by
    rw [store_pt (sz := 1) (o := 0) (vs := [.int .i64 0]) (St.upd_same _ _ _) rfl rfl (by simp)]
    simp [spliceV]
  simp [hst, hlen]
  generalize st2.upd i5 _ = st3 at W ⊢
  have W : WinS i3 [] 0 (pt i5 (.cells [.int .i64 0]) :: Slx 3 e3 (.sl .nil [] 0) [] :: [Was st1]) st3 := W.tail fun r h => h.tail fun r h => Sep.slxNil h
  refine vc_joinB (M := fun env' st' => St.sub st1 st') ?_ ?_
  · refine vc_loopJ (fun n env' st' => ∃ (i : Nat) (es : Fls) (sl : Int), i ≤ l.length ∧ n = l.length - i ∧ env' 43 = .int .i64 (i : Nat) ∧ es.length ≤ i ∧ (es.map (·.1)).Nodup ∧ 0 ≤ sl ∧ sl ≤ 3 ∧ WinS i3 es sl (pt i5 (.cells [.int .i64 sl]) :: Slx 3 e3 (env' 4) es :: [Was st1]) st') l.length
      ⟨0, [], 0, by omega, by omega, by simp, by simp, .nil, by omega, by omega, by simpa using W⟩ ?_
    clear W
    rintro J hJ n env st4 hsame ⟨i, es, sl, hi, rfl, h43, hel, hnd, hs1, hs2, W⟩
    have g3 := (hsame.get 3 rfl).trans (by simp : _ = V.ptr (some (i3, 0)))
    have g5 := (hsame.get 5 rfl).trans (by simp : _ = V.ptr (some (i5, 0)))
    have g6 := (hsame.get 6 rfl).trans (by simp : _ = V.func (F 298) [.ptr (some (i5, 0))])
    have g41 := (hsame.get 41 rfl).trans (by simp : _ = s)
    have g42 := (hsame.get 42 rfl).trans (by simp : _ = V.int .i64 (l.length : Int))
    clear hsame
    obtain ⟨rv, hrv⟩ : ∃ rv, rv = env 4 := ⟨_, rfl⟩
    rw [← hrv] at W
    by_cases hlt : i < l.length
    · obtain ⟨r1, r2, r3, r4⟩ := (hr.sub (W.rest.was' (st0 := st1) (by simp))).row e4_len hlt
      obtain ⟨o, ho⟩ : ∃ o, o = l[i] := ⟨_, rfl⟩
      rw [← ho] at r3
      have w1 : IntKind.i64.wrap ((i : Int) + 1) = (i : Int) + 1 := wrap64 (by omega) (by omega)
      simp [g41, g42, h43, hlt, r1, r3]
      intro i8 hi8
      have W : WinS i3 es sl (PlayL i8 i5 o sl rv es st1) (st4.upd i8 (.cells (e4 o))) := W.new hi8 _
      simp [row4_store]
      generalize st4.upd i8 _ = st5 at W ⊢
      have o8 := W.rest.get
      obtain ⟨kd, oi, op, on⟩ := o
      by_cases c2 : on < -1099511627776
      · simp [St.seg, o8, s43, c2]
        exact W.rest.was' (st0 := st1) (by simp [PlayL])
      by_cases c3 : 1099511627776 < on
      · simp [St.seg, o8, s43, c2, c3]
        exact W.rest.was' (st0 := st1) (by simp [PlayL])
      simp [St.seg, o8, s43, s40, c2, c3]
      refine condB_joinB (M := fun env' st' => ∃ (es' : Fls) (sl' : Int), es'.length ≤ i + 1 ∧ (es'.map (·.1)).Nodup ∧ 0 ≤ sl' ∧ sl' ≤ 3 ∧ WinS i3 es' sl' (pt i5 (.cells [.int .i64 sl']) :: Slx 3 e3 (env' 9) es' :: [Was st1]) st') ?_ ?_
      · have W : WinS i3 es sl (Slx 3 e3 (.sl .nil [] 0) [] :: PlayL i8 i5 (kd, oi, op, on) sl rv es st1) st5 := by
          obtain ⟨mo, h0, S⟩ := W
          exact WinS.back h0 (Sep.slxNil S)
        have o8' := fun {st : St} {L : List Asn} (W : WinS i3 es sl (L ++ PlayL i8 i5 (kd, oi, op, on) sl rv es st1) st) => W.rest.mem (i := i8) (o := .cells (e4 (kd, oi, op, on))) (by simp [PlayL])
        by_cases k0 : kd = 0
        · subst k0
          have hlr := (Sep.rd e3_len ((W.rest.pull 3).head fun h hh => hh.sl)).len
          have W : WinS i3 es sl (PlayL i8 i5 (0, oi, op, on) sl rv es st1) st5 := W.tail fun r h => h.drop
          simp [← hrv, hlr]
          refine vc_joinB (M := fun env' st' => env' 10 = .int .i64 0 ∧ env' 11 = .int .i64 (countM es op : Nat) ∧ WinS i3 es sl (PlayL i8 i5 (0, oi, op, on) sl rv es st1) st') ?_ ?_
          · refine vc_loopJ (fun n env' st' => ∃ j : Nat, j ≤ es.length ∧ n = es.length - j ∧ env' 62 = .int .i64 (j : Nat) ∧ env' 11 = .int .i64 (countM (es.take j) op : Nat) ∧ WinS i3 es sl (PlayL i8 i5 (0, oi, op, on) sl rv es st1) st') es.length
              ⟨0, by omega, by omega, by simp, by simp [countM], W⟩ ?_
            clear W
            rintro J2 hJ2 n env2 st6 hsame ⟨j, hj, rfl, h62, h11, W⟩
            have g8 := (hsame.get 8 rfl).trans (by simp : _ = V.ptr (some (i8, 0)))
            have g10 := (hsame.get 10 rfl).trans (by simp : _ = V.int .i64 0)
            have g60 := (hsame.get 60 rfl).trans (by simp [← hrv] : _ = rv)
            have g61 := (hsame.get 61 rfl).trans (by simp : _ = V.int .i64 (es.length : Int))
            clear hsame
            by_cases hjl : j < es.length
            · have w2 : IntKind.i64.wrap ((j : Int) + 1) = (j : Int) + 1 := wrap64 (by omega) (by omega)
              obtain ⟨r1, r2, r3, r4⟩ := (Sep.rd e3_len ((W.rest.pull 2).head fun h hh => hh.sl)).row e3_len hjl
              obtain ⟨x, hx⟩ : ∃ x, x = es[j] := ⟨_, rfl⟩
              rw [← hx] at r3
              have hcs := count_snoc op x (es.take j)
              rw [hx, ← List.take_succ_eq_append_getElem hjl, ← hx] at hcs
              have hcl : countM (es.take j) op ≤ j := Nat.le_trans List.countP_le_length (by rw [List.length_take]; omega)
              have w3 : IntKind.i64.wrap ((countM (es.take j) op : Int) + 1) = (countM (es.take j) op : Int) + 1 := wrap64 (by omega) (by omega)
              simp [g60, g61, h62, hjl, r1, r3]
              intro i13 h13
              have W := W.new h13 (.cells (e3 x))
              simp [row3_store]
              generalize st6.upd i13 _ = st7 at W ⊢
              have o13 := W.rest.get
              have o8 := W.rest.drop.get
              by_cases hp : x.2.1 = op
              · rw [if_pos hp] at hcs
                simp [St.seg, o13, o8, s31, s42, g8, hp, h11, w3, h62, w2]
                exact Round.mk (es.length - (j + 1)) _ (by omega) (sub_self _) (hJ2 _ _ _ ⟨j + 1, by omega, rfl, by simp, by simp [hcs], W.tail fun r h => h.drop⟩)
              · rw [if_neg hp] at hcs
                have hpb : (x.2.1 == op) = false := beq_eq_false_iff_ne.2 hp
                simp [St.seg, o13, o8, s31, s42, g8, hpb, h62, w2]
                exact Round.mk (es.length - (j + 1)) _ (by omega) (sub_self _) (hJ2 _ _ _ ⟨j + 1, by omega, rfl, by simp, by simp [hcs, h11], W.tail fun r h => h.drop⟩)
            · have : j = es.length := by omega
              subst this
              rw [List.take_length] at h11
              simp [g61, h62]
              exact ⟨g10, h11, W⟩
          clear W
          rintro env2 st6 hsame ⟨h10, h11, W⟩
          have g3 := (hsame.get 3 rfl).trans (by simp [g3] : _ = V.ptr (some (i3, 0)))
          have g4 := (hsame.get 4 rfl).trans (by simp [← hrv] : _ = rv)
          have g8 := (hsame.get 8 rfl).trans (by simp : _ = V.ptr (some (i8, 0)))
          clear hsame
          obtain ⟨w0, hw0⟩ : ∃ w0 : Int, w0 = if 16 ≤ countM es op then 3 else 0 := ⟨_, rfl⟩
          refine vc_cut (M := fun env' st' => env' 3 = .ptr (some (i3, 0)) ∧ env' 4 = rv ∧ env' 8 = .ptr (some (i8, 0)) ∧ env' 10 = .int .i64 w0 ∧ st' = st6) ?_ ?_
          · by_cases c16 : 16 ≤ countM es op
            · have c16' : 16 ≤ (countM es op : Int) := by omega
              rw [if_pos c16] at hw0
              simp [h11, c16, c16', g3, g4, g8, hw0]
            · have c16' : ¬ 16 ≤ (countM es op : Int) := by omega
              rw [if_neg c16] at hw0
              simp [h11, c16, c16', g3, g4, g8, h10, hw0]
          clear g3 g4 g8 h10 h11
          rintro env3 st7 ⟨g3, g4, g8, h10, rfl⟩
          have hlr := (Sep.rd e3_len ((W.rest.pull 2).head fun h hh => hh.sl)).len
          simp [g4, hlr]
          refine vc_joinB (M := fun env' st' => env' 10 = .int .i64 (askM es oi op) ∧ WinS i3 es sl (PlayL i8 i5 (0, oi, op, on) sl rv es st1) st') ?_ ?_
          · refine vc_loopJ (fun n env' st' => ∃ j : Nat, j ≤ es.length ∧ n = es.length - j ∧ env' 78 = .int .i64 (j : Nat) ∧ env' 10 = .int .i64 (if (lk oi (es.take j)).isSome = true then 5 else w0) ∧ WinS i3 es sl (PlayL i8 i5 (0, oi, op, on) sl rv es st1) st') es.length
              ⟨0, by omega, by omega, by simp, by simp [h10, lk], W⟩ ?_
            clear W
            rintro J2 hJ2 n env2 st6 hsame ⟨j, hj, rfl, h78, h10, W⟩
            have g8 := (hsame.get 8 rfl).trans (by simp [g8] : _ = V.ptr (some (i8, 0)))
            have g76 := (hsame.get 76 rfl).trans (by simp [g4] : _ = rv)
            have g77 := (hsame.get 77 rfl).trans (by simp : _ = V.int .i64 (es.length : Int))
            clear hsame
            by_cases hjl : j < es.length
            · have w2 : IntKind.i64.wrap ((j : Int) + 1) = (j : Int) + 1 := wrap64 (by omega) (by omega)
              obtain ⟨r1, r2, r3, r4⟩ := (Sep.rd e3_len ((W.rest.pull 2).head fun h hh => hh.sl)).row e3_len hjl
              obtain ⟨x, hx⟩ : ∃ x, x = es[j] := ⟨_, rfl⟩
              rw [← hx] at r3
              have hcs := lk_snoc oi x (es.take j)
              rw [hx, ← List.take_succ_eq_append_getElem hjl, ← hx] at hcs
              simp [g76, g77, h78, hjl, r1, r3]
              intro i13 h13
              have W := W.new h13 (.cells (e3 x))
              simp [row3_store]
              generalize st6.upd i13 _ = st7 at W ⊢
              have o13 := W.rest.get
              have o8 := W.rest.drop.get
              by_cases hp : x.1 = oi
              · have hpb : (x.1 == oi) = true := beq_iff_eq.2 hp
                rw [hpb, Bool.or_true] at hcs
                simp [St.seg, o13, o8, s30, s41, g8, hp, h78, w2]
                exact Round.mk (es.length - (j + 1)) _ (by omega) (sub_self _) (hJ2 _ _ _ ⟨j + 1, by omega, rfl, by simp, by simp [hcs], W.tail fun r h => h.drop⟩)
              · have hpb : (x.1 == oi) = false := beq_eq_false_iff_ne.2 hp
                rw [hpb, Bool.or_false] at hcs
                simp [St.seg, o13, o8, s30, s41, g8, hpb, h78, w2]
                exact Round.mk (es.length - (j + 1)) _ (by omega) (sub_self _) (hJ2 _ _ _ ⟨j + 1, by omega, rfl, by simp, by simp [hcs, h10], W.tail fun r h => h.drop⟩)
            · have : j = es.length := by omega
              subst this
              rw [List.take_length] at h10
              simp [g77, h78]
              exact ⟨by rw [h10, hw0]; rfl, W⟩
          clear W hlr h10
          rintro env2 st6 hsame ⟨h10, W⟩
          have g3 := (hsame.get 3 rfl).trans (by simp [g3] : _ = V.ptr (some (i3, 0)))
          have g4 := (hsame.get 4 rfl).trans (by simp [g4] : _ = rv)
          have g8 := (hsame.get 8 rfl).trans (by simp [g8] : _ = V.ptr (some (i8, 0)))
          clear hsame
          have o8 := W.rest.get
          simp [St.seg, o8, s41, s42, s43, g3, g8]
          refine (spec283 okw W oi op on (by omega)).mono ?_
          clear W o8
          rintro v st8 ⟨rfl, W⟩
          have o8 := W.rest.get
          have hTl := askT_len es oi op on
          have hTn := askT_nodup hnd oi op on
          by_cases ha : askM es oi op = 0
          · have hT : askT es oi op on = es ++ [(oi, op, on)] := by rw [askT, if_pos ha]
            have W : WinS i3 (askT es oi op on) sl (Slx 3 e3 rv es :: pt i8 (.cells (e4 (0, oi, op, on))) :: pt i5 (.cells [.int .i64 sl]) :: [Was st1]) st8 := W.tail fun r h => h.pull 2
            simp [h10, ha, g4, St.seg, o8, s41, s42, s43, g8, e3_fill, e3_fill2, e3_elems]
            obtain ⟨mo, h0, S⟩ := W.front
            refine Sep.appx' (b := 24) e3_len (by omega) S [(oi, op, on)] rfl rfl (by simp only [List.length_singleton]; omega) ?_
            intro s' st9 S
            rw [← hT] at S
            have W := WinS.back h0 S
            simp
            exact ⟨askT es oi op on, by omega, hTn, sl, hs1, hs2, W.tail fun r h => h.swap.drop.swap⟩
          · have hT : askT es oi op on = es := by rw [askT, if_neg ha]
            have hab : (askM es oi op == 0) = false := beq_eq_false_iff_ne.2 ha
            rw [hT] at W
            simp [h10, hab, g4]
            exact ⟨es, by omega, hnd, sl, hs1, hs2, W.tail fun r h => h.drop⟩
        have b0 : (kd == 0) = false := beq_eq_false_iff_ne.2 k0
        rw [b0]
        simp
        refine condB_cut (M := fun env' st' => env' 110 = .bool (decide (kd = 1 ∨ kd = 3)) ∧ env' 3 = .ptr (some (i3, 0)) ∧ env' 4 = rv ∧ env' 5 = .ptr (some (i5, 0)) ∧ env' 6 = .func (F 298) [.ptr (some (i5, 0))] ∧ env' 8 = .ptr (some (i8, 0)) ∧ env' 9 = .sl .nil [] 0 ∧ env' 56 = .int .i64 kd ∧ st' = st5) ?_ ?_
        · by_cases k1 : kd = 1
          · subst k1
            simp [g3, g5, g6, ← hrv]
          · have b1 : (kd == 1) = false := beq_eq_false_iff_ne.2 k1
            rw [b1]
            by_cases k3 : kd = 3
            · subst k3
              simp [g3, g5, g6, ← hrv]
            · have b3 : (kd == 3) = false := beq_eq_false_iff_ne.2 k3
              simp [b3, k1, k3, g3, g5, g6, ← hrv]
        clear g3 g5 g6 o8
        rintro env2 st6 ⟨h110, g3, g4, g5, g6, g8, g9, g56, rfl⟩
        have hlr := (Sep.rd e3_len ((W.rest.pull 3).head fun h hh => hh.sl)).len
        by_cases k13 : kd = 1 ∨ kd = 3
        · simp [h110, k13, g4, hlr]
          refine vc_joinB (M := fun env' st' => WinS i3 es sl (Slx 3 e3 (env' 9) (es.filter fun e => e.1 != oi) :: PlayL i8 i5 (kd, oi, op, on) (playSl kd oi sl es) rv es st1) st') ?_ ?_
          · refine vc_loopJ (fun n env' st' => ∃ j : Nat, j ≤ es.length ∧ n = es.length - j ∧ env' 115 = .int .i64 (j : Nat) ∧ WinS i3 es sl (Slx 3 e3 (env' 9) ((es.take j).filter fun e => e.1 != oi) :: PlayL i8 i5 (kd, oi, op, on) (playSl kd oi sl (es.take j)) rv es st1) st') es.length
              ⟨0, by omega, by omega, by simp, by simpa [g9, playSl, lk] using W⟩ ?_
            clear W
            rintro J2 hJ2 n env3 st7 hsame ⟨j, hj, rfl, h115, W⟩
            have g5 := (hsame.get 5 rfl).trans (by simp [g5] : _ = V.ptr (some (i5, 0)))
            have g8 := (hsame.get 8 rfl).trans (by simp [g8] : _ = V.ptr (some (i8, 0)))
            have g113 := (hsame.get 113 rfl).trans (by simp [g4] : _ = rv)
            have g114 := (hsame.get 114 rfl).trans (by simp : _ = V.int .i64 (es.length : Int))
            clear hsame
            by_cases hjl : j < es.length
            · have w2 : IntKind.i64.wrap ((j : Int) + 1) = (j : Int) + 1 := wrap64 (by omega) (by omega)
              obtain ⟨r1, r2, r3, r4⟩ := (Sep.rd e3_len ((W.rest.pull 3).head fun h hh => hh.sl)).row e3_len hjl
              obtain ⟨x, hx⟩ : ∃ x, x = es[j] := ⟨_, rfl⟩
              rw [← hx] at r3
              have hcs := lk_snoc oi x (es.take j)
              have hft : (es.take j ++ [x]).filter (fun e => e.1 != oi) = (es.take j).filter (fun e => e.1 != oi) ++ if x.1 = oi then [] else [x] := by
                rw [List.filter_append]
                by_cases h : x.1 = oi <;> simp [h]
              rw [hx, ← List.take_succ_eq_append_getElem hjl, ← hx] at hcs hft
              have hfl : ((es.take j).filter fun e => e.1 != oi).length ≤ 100 := Nat.le_trans (List.length_filter_le _ _) (by rw [List.length_take]; omega)
              simp [g113, g114, h115, hjl, r1, r3]
              intro i17 h17
              have W := W.new h17 (.cells (e3 x))
              simp [row3_store]
              generalize st7.upd i17 _ = st8 at W ⊢
              have o17 := W.rest.get
              have o8 := W.rest.drop.drop.get
              have o5 := W.rest.drop.drop.drop.get
              have W := W.tail fun r h => h.drop
              by_cases hp : x.1 = oi
              · have hpb : (x.1 == oi) = true := beq_iff_eq.2 hp
                rw [hpb, Bool.or_true] at hcs
                rw [if_pos hp, List.append_nil] at hft
                rw [← hft] at W
                have hno : (lk oi (es.take j)).isSome = false := by
                  rw [← hp, hx]
                  exact take_lk_none hnd hjl
                have hsl1 : playSl kd oi sl (es.take j) = sl := by unfold playSl; rw [hno, if_neg (by simp)]
                rw [hsl1] at W o5
                by_cases k1 : kd = 1
                · have hsl2 : playSl kd oi sl (es.take (j + 1)) = max 0 (sl - 1) := by unfold playSl; rw [hcs, if_pos ⟨k1, rfl⟩]
                  have w3 : IntKind.i64.wrap (sl - 1) = sl - 1 := wrap64 (by omega) (by omega)
                  have hmax : foldV max2V (V.int .i64 0) [V.int .i64 (sl - 1)] = some (.int .i64 (max 0 (sl - 1))) := by
                    simp only [foldV, max2V, if_true, Option.bind_some]
                    congr 2
                    split <;> omega
                  have hs5 : segOf [V.int .i64 sl] 0 1 = some [.int .i64 sl] := rfl
                  have hst5 := store_pt (sz := 1) (o := 0) o5 (v := .int .i64 (max 0 (sl - 1))) (vs := [.int .i64 (max 0 (sl - 1))]) rfl rfl (by simp)
                  rw [show spliceV [V.int .i64 sl] 0 [V.int .i64 (max 0 (sl - 1))] = [.int .i64 (max 0 (sl - 1))] from rfl] at hst5
                  have W : WinS i3 es sl (pt i5 (.cells [.int .i64 sl]) :: Slx 3 e3 (env3 9) ((es.take (j + 1)).filter fun e => e.1 != oi) :: pt i8 (.cells (e4 (kd, oi, op, on))) :: Slx 3 e3 rv es :: [Was st1]) st8 := W.tail fun r h => h.pull 2
                  obtain ⟨mo, h0, S⟩ := W.front
                  have W := WinS.back h0 (S.set (.cells [.int .i64 (max 0 (sl - 1))]))
                  have Wz : WinS i3 es sl (Slx 3 e3 (env3 9) ((es.take (j + 1)).filter fun e => e.1 != oi) :: PlayL i8 i5 (kd, oi, op, on) (max 0 (sl - 1)) rv es st1) (st8.upd i5 (.cells [.int .i64 (max 0 (sl - 1))])) := W.tail fun r h => h.swap.tail fun r h => h.swap
                  subst k1
                  simp [St.seg, o17, o8, o5, s30, s40, s41, g8, g5, hp, hs5, w3, hmax, hst5, h115, w2]
                  exact Round.mk (es.length - (j + 1)) _ (by omega) (sub_self _) (hJ2 _ _ _ ⟨j + 1, by omega, rfl, by simp, by rw [hsl2]; simpa using Wz⟩)
                · have hsl2 : playSl kd oi sl (es.take (j + 1)) = sl := by unfold playSl; rw [if_neg fun h => k1 h.1]
                  have b1 : (kd == 1) = false := beq_eq_false_iff_ne.2 k1
                  simp [St.seg, o17, o8, s30, s40, s41, g8, hp, b1, h115, w2]
                  exact Round.mk (es.length - (j + 1)) _ (by omega) (sub_self _) (hJ2 _ _ _ ⟨j + 1, by omega, rfl, by simp, by rw [hsl2]; simpa using W⟩)
              · have hpb : (x.1 == oi) = false := beq_eq_false_iff_ne.2 hp
                have hpn : (x.1 != oi) = true := by simp [bne, hpb]
                rw [hpb, Bool.or_false] at hcs
                rw [if_neg hp] at hft
                have hsl2 : playSl kd oi sl (es.take (j + 1)) = playSl kd oi sl (es.take j) := by unfold playSl; rw [hcs]
                simp [St.seg, o17, o8, s30, s41, s3all, g8, hpn, hpb, hp, e3_fill2, e3_elems]
                obtain ⟨mo, h0, S⟩ := W.front
                refine Sep.appx' (b := 24) e3_len (by omega) S [x] rfl rfl (Nat.le_trans (Nat.mul_le_mul_right 24 (Nat.succ_le_succ hfl)) (by decide)) ?_
                intro s' st9 S
                rw [← hft, ← hsl2] at S
                have W := WinS.back h0 S
                simp [h115, w2]
                exact Round.mk (es.length - (j + 1)) _ (by omega) (sub_self _) (hJ2 _ _ _ ⟨j + 1, by omega, rfl, by simp, by simpa using W⟩)
            · have : j = es.length := by omega
              subst this
              rw [List.take_length] at W
              simp [g114, h115]
              exact W
          clear W hlr
          rintro env3 st7 hsame W
          have g3 := (hsame.get 3 rfl).trans (by simp [g3] : _ = V.ptr (some (i3, 0)))
          have g8 := (hsame.get 8 rfl).trans (by simp [g8] : _ = V.ptr (some (i8, 0)))
          clear hsame
          have o8 := W.rest.drop.get
          have hfn : ((es.filter fun e => e.1 != oi).map (·.1)).Nodup := (List.filter_sublist.map _).nodup hnd
          have hfl : (es.filter fun e => e.1 != oi).length ≤ es.length := List.length_filter_le _ _
          have hdel := aDel_filter oi es hnd
          by_cases k1 : kd = 1
          · have hpl : gotT es sl oi = playSl kd oi sl es := by
              unfold gotT playSl
              by_cases h : (lk oi es).isSome = true
              · rw [if_pos h, if_pos ⟨k1, h⟩]
              · rw [if_neg h, if_neg fun e => h e.2]
            have hb := gotT_le hs1 hs2 (es := es) (i := oi)
            rw [hpl] at hb
            subst k1
            simp [St.seg, o8, s40, s41, g3, g8]
            refine (spec284 okw W oi ⟨hs1, hs2⟩).mono ?_
            intro v st8 W
            rw [hdel, hpl] at W
            simp
            exact ⟨es.filter fun e => e.1 != oi, by omega, hfn, playSl 1 oi sl es, hb.1, hb.2, W.tail fun r h => (h.pull 2).tail fun r h => h.tail fun r h => h.drop.drop⟩
          · have hpl : playSl kd oi sl es = sl := by unfold playSl; rw [if_neg fun h => k1 h.1]
            have b1 : (kd == 1) = false := beq_eq_false_iff_ne.2 k1
            rw [hpl] at W
            simp [St.seg, o8, s40, s41, g3, g8, b1]
            refine (spec287 okw W oi).mono ?_
            intro v st8 W
            rw [hdel] at W
            simp
            exact ⟨es.filter fun e => e.1 != oi, by omega, hfn, sl, hs1, hs2, W.tail fun r h => (h.pull 2).tail fun r h => h.tail fun r h => h.drop.drop⟩
        simp [h110, k13, g56]
        by_cases k2 : kd = 2
        · subst k2
          have o8 := W.rest.drop.get
          simp [St.seg, o8, s42, g3, g8]
          refine (spec285 okw oks W hnd op (by omega)).mono ?_
          clear W o8
          rintro vd st7 ⟨l', hperm, hsort, W⟩
          have hfn : ((es.filter fun e => e.2.1 != op).map (·.1)).Nodup := (List.filter_sublist.map _).nodup hnd
          have hfl : (es.filter fun e => e.2.1 != op).length ≤ es.length := List.length_filter_le _ _
          have hqn : ((es.filter fun e => e.2.1 == op).map (·.1)).Nodup := (List.filter_sublist.map _).nodup hnd
          have hasc := asc_of hsort (hperm.nodup_iff.2 hqn)
          have hll : l'.length = countM es op := by rw [hperm.length_eq, List.length_map]; unfold countM; rw [List.countP_eq_length_filter]
          have hcl : countM es op ≤ es.length := List.countP_le_length
          simp [g4, hlr]
          refine vc_joinB (M := fun env' st' => env' 19 = .int .i64 (countM es op : Nat) ∧ WinS i3 (es.filter fun e => e.2.1 != op) sl (Slx 3 e3 (env' 9) (es.filter fun e => e.2.1 != op) :: Slx 1 e1 vd l' :: PlayL i8 i5 (2, oi, op, on) sl rv es st1) st') ?_ ?_
          · refine vc_loopJ (fun n env' st' => ∃ j : Nat, j ≤ es.length ∧ n = es.length - j ∧ env' 151 = .int .i64 (j : Nat) ∧ env' 19 = .int .i64 (countM (es.take j) op : Nat) ∧ WinS i3 (es.filter fun e => e.2.1 != op) sl (Slx 3 e3 (env' 9) ((es.take j).filter fun e => e.2.1 != op) :: Slx 1 e1 vd l' :: PlayL i8 i5 (2, oi, op, on) sl rv es st1) st') es.length
              ⟨0, by omega, by omega, by simp, by simp [countM], by
                have W := W.tail fun r h => h.swap
                simpa [g9] using W⟩ ?_
            clear W
            rintro J2 hJ2 n env3 st8 hsame ⟨j, hj, rfl, h151, h19, W⟩
            have g8 := (hsame.get 8 rfl).trans (by simp [g8] : _ = V.ptr (some (i8, 0)))
            have g18 := (hsame.get 18 rfl).trans (by simp : _ = vd)
            have g149 := (hsame.get 149 rfl).trans (by simp [g4] : _ = rv)
            have g150 := (hsame.get 150 rfl).trans (by simp : _ = V.int .i64 (es.length : Int))
            clear hsame
            by_cases hjl : j < es.length
            · have w2 : IntKind.i64.wrap ((j : Int) + 1) = (j : Int) + 1 := wrap64 (by omega) (by omega)
              obtain ⟨r1, r2, r3, r4⟩ := (Sep.rd e3_len ((W.rest.pull 4).head fun h hh => hh.sl)).row e3_len hjl
              obtain ⟨x, hx⟩ : ∃ x, x = es[j] := ⟨_, rfl⟩
              rw [← hx] at r3
              have hxm : x ∈ es := hx ▸ List.getElem_mem hjl
              have hcs := count_snoc op x (es.take j)
              have hft : (es.take j ++ [x]).filter (fun e => e.2.1 != op) = (es.take j).filter (fun e => e.2.1 != op) ++ if x.2.1 = op then [] else [x] := by
                rw [List.filter_append]
                by_cases h : x.2.1 = op <;> simp [h]
              rw [hx, ← List.take_succ_eq_append_getElem hjl, ← hx] at hcs hft
              have hfl2 : ((es.take j).filter fun e => e.2.1 != op).length ≤ 100 := Nat.le_trans (List.length_filter_le _ _) (by rw [List.length_take]; omega)
              have hcl : countM (es.take j) op ≤ j := Nat.le_trans List.countP_le_length (by rw [List.length_take]; omega)
              simp [g149, g150, h151, hjl, r1, r3]
              intro i21 h21
              have W := W.new h21 (.cells (e3 x))
              simp [row3_store]
              generalize st8.upd i21 _ = st9 at W ⊢
              have o21 := W.rest.get
              have o8 := W.rest.drop.drop.drop.get
              by_cases hp : x.2.1 = op
              · rw [if_pos hp] at hcs
                rw [if_pos hp, List.append_nil] at hft
                rw [← hft] at W
                have w3 : IntKind.i64.wrap ((countM (es.take j) op : Int) + 1) = (countM (es.take j) op : Int) + 1 := wrap64 (by omega) (by omega)
                have hxl : x.1 ∈ l' := by
                  rw [hperm.mem_iff]
                  exact List.mem_map.2 ⟨x, List.mem_filter.2 ⟨hxm, by simp [hp]⟩, rfl⟩
                have rd := Sep.rd e1_len (W.rest.drop.drop.head fun h hh => hh.sl)
                simp [St.seg, o21, o8, s31, s42, g8, hp, h19, w3, g18, rd.len]
                refine vc_joinB (M := fun env' st' => env' 22 = .bool true ∧ st' = st9) ?_ ?_
                · refine vc_loopJ (fun n env' st' => ∃ k : Nat, k ≤ l'.length ∧ n = l'.length - k ∧ env' 168 = .int .i64 (k : Nat) ∧ env' 22 = .bool (decide (x.1 ∈ l'.take k)) ∧ st' = st9) l'.length
                    ⟨0, by omega, by omega, by simp, by simp, rfl⟩ ?_
                  rintro J3 hJ3 n env4 st10 hsame ⟨k, hk, rfl, h168, h22, rfl⟩
                  have g18 := (hsame.get 18 rfl).trans (by simp [g18] : _ = vd)
                  have g21 := (hsame.get 21 rfl).trans (by simp : _ = V.ptr (some (i21, 0)))
                  have g166 := (hsame.get 166 rfl).trans (by simp [g18] : _ = vd)
                  have g167 := (hsame.get 167 rfl).trans (by simp : _ = V.int .i64 (l'.length : Int))
                  clear hsame
                  by_cases hkl : k < l'.length
                  · have w4 : IntKind.i64.wrap ((k : Int) + 1) = (k : Int) + 1 := wrap64 (by omega) (by omega)
                    obtain ⟨t1, t2, t3, t4⟩ := rd.row e1_len hkl
                    obtain ⟨y, hy⟩ : ∃ y, y = l'[k] := ⟨_, rfl⟩
                    rw [← hy] at t3
                    have htk : (decide (x.1 ∈ l'.take (k + 1))) = (decide (x.1 ∈ l'.take k) || (y == x.1)) := by
                      rw [List.take_succ_eq_append_getElem hkl, ← hy, Bool.eq_iff_iff]
                      simp
                      constructor
                      · rintro (h | h)
                        · exact .inl h
                        · exact .inr h.symm
                      · rintro (h | h)
                        · exact .inl h
                        · exact .inr h.symm
                    have hlook : ∀ (Q : Prop), (0 < k → ∃ z, (idxSlV 1 vd (.int .i64 ((k : Int) - 1)) = some (rowP 1 vd (k - 1)) ∧ ldCells st10 1 (rowP 1 vd (k - 1)) = some (e1 z)) ∧ ¬ y ≤ z) := fun Q h0 => by
                      have hk1 : k - 1 < l'.length := by omega
                      obtain ⟨q1, q2, q3, q4⟩ := rd.row e1_len hk1
                      refine ⟨l'[k - 1], ⟨?_, q3⟩, ?_⟩
                      · rw [← q1]
                        congr 2
                        omega
                      · have := List.pairwise_iff_getElem.1 hasc (k - 1) k hk1 hkl (by omega)
                        rw [← hy] at this
                        omega
                    by_cases hin : x.1 ∈ l'.take k
                    · simp only [hin, decide_true, Bool.true_or] at htk h22
                      by_cases hk0 : 0 < k
                      · obtain ⟨z, ⟨q1, q3⟩, q5⟩ := hlook True hk0
                        have hk0' : 0 < (k : Int) := by omega
                        have w5 : IntKind.i64.wrap ((k : Int) - 1) = (k : Int) - 1 := wrap64 (by omega) (by omega)
                        simp [g166, g167, g18, g21, h168, h22, hkl, t1, t3, e1, hk0, hk0', w5, q1, q3, q5, w4]
                        exact Round.mk (l'.length - (k + 1)) _ (by omega) (sub_self _) (hJ3 _ _ _ ⟨k + 1, by omega, rfl, by simp, by simp [htk], rfl⟩)
                      · have hk0' : ¬ 0 < (k : Int) := by omega
                        simp [g166, g167, g18, g21, h168, h22, hkl, t1, t3, e1, hk0, hk0', w4]
                        exact Round.mk (l'.length - (k + 1)) _ (by omega) (sub_self _) (hJ3 _ _ _ ⟨k + 1, by omega, rfl, by simp, by simp [htk], rfl⟩)
                    · simp only [hin, decide_false, Bool.false_or] at htk h22
                      by_cases hk0 : 0 < k
                      · obtain ⟨z, ⟨q1, q3⟩, q5⟩ := hlook True hk0
                        have hk0' : 0 < (k : Int) := by omega
                        have w5 : IntKind.i64.wrap ((k : Int) - 1) = (k : Int) - 1 := wrap64 (by omega) (by omega)
                        simp [g166, g167, g18, g21, h168, h22, hkl, t1, t3, e1, St.seg, o21, s30, hk0, hk0', w5, q1, q3, q5, w4]
                        exact Round.mk (l'.length - (k + 1)) _ (by omega) (sub_self _) (hJ3 _ _ _ ⟨k + 1, by omega, rfl, by simp, by simp [htk], rfl⟩)
                      · have hk0' : ¬ 0 < (k : Int) := by omega
                        simp [g166, g167, g18, g21, h168, h22, hkl, t1, t3, e1, St.seg, o21, s30, hk0, hk0', w4]
                        exact Round.mk (l'.length - (k + 1)) _ (by omega) (sub_self _) (hJ3 _ _ _ ⟨k + 1, by omega, rfl, by simp, by simp [htk], rfl⟩)
                  · have : k = l'.length := by omega
                    subst this
                    rw [List.take_length] at h22
                    simp only [hxl, decide_true] at h22
                    simp [g167, h168]
                    exact h22
                rintro env4 st10 hsame ⟨h22, rfl⟩
                have g151 := (hsame.get 151 rfl).trans (by simp [h151] : _ = V.int .i64 (j : Int))
                have g9' := (hsame.get 9 rfl).trans (by simp : _ = env3 9)
                have g19 := (hsame.get 19 rfl).trans (by simp : _ = V.int .i64 ((countM (es.take j) op : Int) + 1))
                clear hsame
                simp [h22, g151, w2]
                exact Round.mk (es.length - (j + 1)) _ (by omega) (sub_self _) (hJ2 _ _ _ ⟨j + 1, by omega, rfl, by simp, by simp [g19, hcs], by simpa [g9'] using W.tail fun r h => h.drop⟩)
              · have hpb : (x.2.1 == op) = false := beq_eq_false_iff_ne.2 hp
                have hpn : (x.2.1 != op) = true := by simp [bne, hpb]
                rw [if_neg hp] at hft hcs
                have W := W.tail fun r h => h.drop
                simp [St.seg, o21, o8, s31, s42, s3all, g8, hpn, hpb, hp, e3_fill2, e3_elems]
                obtain ⟨mo, h0, S⟩ := W.front
                refine Sep.appx' (b := 24) e3_len (by omega) S [x] rfl rfl (Nat.le_trans (Nat.mul_le_mul_right 24 (Nat.succ_le_succ hfl2)) (by decide)) ?_
                intro s' st10 S
                rw [← hft] at S
                have W := WinS.back h0 S
                simp [h151, w2]
                exact Round.mk (es.length - (j + 1)) _ (by omega) (sub_self _) (hJ2 _ _ _ ⟨j + 1, by omega, rfl, by simp, by simp [h19, hcs], by simpa using W⟩)
            · have : j = es.length := by omega
              subst this
              rw [List.take_length] at W h19
              simp [g150, h151]
              exact ⟨h19, W⟩
          clear W
          rintro env3 st8 hsame ⟨h19, W⟩
          have g18 := (hsame.get 18 rfl).trans (by simp : _ = vd)
          clear hsame
          have rd := Sep.rd e1_len (W.rest.drop.head fun h hh => hh.sl)
          have hlv := rd.len
          rw [hll] at hlv
          simp [h19, g18, hlv]
          exact ⟨es.filter fun e => e.2.1 != op, by omega, hfn, sl, hs1, hs2, W.tail fun r h => (h.pull 3).tail fun r h => h.tail fun r h => h.drop.drop.drop⟩
        have b2 : (kd == 2) = false := beq_eq_false_iff_ne.2 k2
        simp [b2, g56]
        by_cases k4 : kd = 4
        · subst k4
          simp [g4, hlr]
          refine vc_joinB (M := fun env' st' => ∃ (p : Int) (b : Bool), env' 25 = .int .i64 p ∧ env' 26 = .bool b ∧ LateIs es sl on p b ∧ WinS i3 es sl (PlayL i8 i5 (4, oi, op, on) sl rv es st1) st') ?_ ?_
          · refine vc_loopJ (fun n env' st' => ∃ (j : Nat) (p : Int) (b : Bool), j ≤ es.length ∧ n = es.length - j ∧ env' 203 = .int .i64 (j : Nat) ∧ env' 25 = .int .i64 p ∧ env' 26 = .bool b ∧ LateIs (es.take j) sl on p b ∧ WinS i3 es sl (PlayL i8 i5 (4, oi, op, on) sl rv es st1) st') es.length
              ⟨0, 0, false, by omega, by omega, by simp, by simp, by simp, LateIs.nil sl on, W.tail fun r h => h.drop⟩ ?_
            clear W
            rintro J2 hJ2 n env3 st7 hsame ⟨j, p, b, hj, rfl, h203, h25, h26, hL, W⟩
            have g5 := (hsame.get 5 rfl).trans (by simp [g5] : _ = V.ptr (some (i5, 0)))
            have g6 := (hsame.get 6 rfl).trans (by simp [g6] : _ = V.func (F 298) [.ptr (some (i5, 0))])
            have g8 := (hsame.get 8 rfl).trans (by simp [g8] : _ = V.ptr (some (i8, 0)))
            have g201 := (hsame.get 201 rfl).trans (by simp [g4] : _ = rv)
            have g202 := (hsame.get 202 rfl).trans (by simp : _ = V.int .i64 (es.length : Int))
            clear hsame
            by_cases hjl : j < es.length
            · have w2 : IntKind.i64.wrap ((j : Int) + 1) = (j : Int) + 1 := wrap64 (by omega) (by omega)
              obtain ⟨r1, r2, r3, r4⟩ := (Sep.rd e3_len ((W.rest.pull 2).head fun h hh => hh.sl)).row e3_len hjl
              obtain ⟨x, hx⟩ : ∃ x, x = es[j] := ⟨_, rfl⟩
              rw [← hx] at r3
              have hL2 := hL.more x
              rw [hx, ← List.take_succ_eq_append_getElem hjl, ← hx] at hL2
              simp [g201, g202, h203, hjl, r1, r3]
              intro i28 h28
              have W := W.new h28 (.cells (e3 x))
              simp [row3_store]
              generalize st7.upd i28 _ = st8 at W ⊢
              have o28 := W.rest.get
              have o8 := W.rest.drop.get
              have o5 := W.rest.drop.drop.get
              have hcv := spec298 okb o5 ⟨hs1, hs2⟩
              simp [St.seg, o28, o8, s31, s32, s43, g8, g6]
              refine still_callv (f := F 298) (cap := [.ptr (some (i5, 0))]) (v := .int .i64 (limM sl)) (by simp) okb.ok298 (by simpa using hcv) ?_
              by_cases d : limM sl ≤ IntKind.i64.wrap (on - x.2.2)
              · have hla : lateB sl on x.2 = true := by simpa [lateB] using d
                rw [hla] at hL2
                cases b with
                | false =>
                  simp at hL2
                  simp [d, h26, St.seg, o28, s31, h203, w2]
                  exact Round.mk (es.length - (j + 1)) _ (by omega) (sub_self _) (hJ2 _ _ _ ⟨j + 1, x.2.1, true, by omega, rfl, by simp, by simp, by simp, hL2, W.tail fun r h => h.drop⟩)
                | true =>
                  by_cases d2 : x.2.1 < p
                  · simp [d2] at hL2
                    simp [d, d2, h25, h26, St.seg, o28, s31, h203, w2]
                    exact Round.mk (es.length - (j + 1)) _ (by omega) (sub_self _) (hJ2 _ _ _ ⟨j + 1, x.2.1, true, by omega, rfl, by simp, by simp, by simp, hL2, W.tail fun r h => h.drop⟩)
                  · simp [d2] at hL2
                    simp [d, d2, h25, h26, St.seg, o28, s31, h203, w2]
                    exact Round.mk (es.length - (j + 1)) _ (by omega) (sub_self _) (hJ2 _ _ _ ⟨j + 1, p, true, by omega, rfl, by simp, by simp [h25], by simp [h26], hL2, W.tail fun r h => h.drop⟩)
              · have hla : lateB sl on x.2 = false := by simpa [lateB] using d
                rw [hla] at hL2
                simp at hL2
                simp [d, h25, h26, h203, w2]
                exact Round.mk (es.length - (j + 1)) _ (by omega) (sub_self _) (hJ2 _ _ _ ⟨j + 1, p, b, by omega, rfl, by simp, by simp [h25], by simp [h26], hL2, W.tail fun r h => h.drop⟩)
            · have : j = es.length := by omega
              subst this
              rw [List.take_length] at hL
              simp [g202, h203]
              cases b with
              | false => exact ⟨p, h25, .inl ⟨h26, hL, W⟩⟩
              | true => exact ⟨p, h25, .inr ⟨h26, hL, W⟩⟩
          clear W
          rintro env3 st7 hsame ⟨p, b, h25, h26, hL, W⟩
          have g3 := (hsame.get 3 rfl).trans (by simp [g3] : _ = V.ptr (some (i3, 0)))
          have g4 := (hsame.get 4 rfl).trans (by simp [g4] : _ = rv)
          have g5 := (hsame.get 5 rfl).trans (by simp [g5] : _ = V.ptr (some (i5, 0)))
          have g8 := (hsame.get 8 rfl).trans (by simp [g8] : _ = V.ptr (some (i8, 0)))
          clear hsame
          have o8 := W.rest.get
          simp [St.seg, o8, s43, g3, g8]
          refine (spec288 okw W on ⟨hs1, hs2⟩).mono ?_
          clear W o8
          rintro v st8 ⟨p', b', rfl, hL', W⟩
          obtain ⟨rfl, rfl⟩ := hL.uniq hL'
          have w3 : IntKind.i64.wrap (sl + 1) = sl + 1 := wrap64 (by omega) (by omega)
          have hmin : foldV min2V (V.int .i64 3) [V.int .i64 (sl + 1)] = some (.int .i64 (min (sl + 1) 3)) := by
            simp only [foldV, min2V, if_true, Option.bind_some]
            congr 2
            split <;> omega
          cases b with
          | false =>
            simp at W
            simp [h25, h26, g4, eqb]
            exact ⟨es, by omega, hnd, sl, hs1, hs2, W.tail fun r h => h.drop⟩
          | true =>
            simp at W
            have o5 := W.rest.drop.get
            have hs5 : segOf [V.int .i64 sl] 0 1 = some [.int .i64 sl] := rfl
            have hst5 := store_pt (sz := 1) (o := 0) o5 (v := .int .i64 (min (sl + 1) 3)) (vs := [.int .i64 (min (sl + 1) 3)]) rfl rfl (by simp)
            rw [show spliceV [V.int .i64 sl] 0 [V.int .i64 (min (sl + 1) 3)] = [.int .i64 (min (sl + 1) 3)] from rfl] at hst5
            have W : WinS i3 es (min (sl + 1) 3) (pt i5 (.cells [.int .i64 sl]) :: pt i8 (.cells (e4 (4, oi, op, on))) :: Slx 3 e3 rv es :: [Was st1]) st8 := W.tail fun r h => h.swap
            obtain ⟨mo, h0, S⟩ := W.front
            have W := WinS.back h0 (S.set (.cells [.int .i64 (min (sl + 1) 3)]))
            simp [h25, h26, g4, g5, eqb, St.seg, o5, hs5, w3, hmin, hst5]
            exact ⟨es, by omega, hnd, min (sl + 1) 3, by omega, by omega, W.tail fun r h => h.tail fun r h => h.drop⟩
        have b4 : (kd == 4) = false := beq_eq_false_iff_ne.2 k4
        simp [b4, g4]
        exact ⟨es, by omega, hnd, sl, hs1, hs2, W.tail fun r h => h.drop.drop⟩
      · clear W
        rintro env2 st6 hsame ⟨es', sl', hel', hnd', t1, t2, W⟩
        have g3 := (hsame.get 3 rfl).trans (by simp [g3] : _ = V.ptr (some (i3, 0)))
        have g5 := (hsame.get 5 rfl).trans (by simp [g5] : _ = V.ptr (some (i5, 0)))
        have g6 := (hsame.get 6 rfl).trans (by simp [g6] : _ = V.func (F 298) [.ptr (some (i5, 0))])
        have g43 := (hsame.get 43 rfl).trans (by simp [h43] : _ = V.int .i64 (i : Int))
        clear hsame
        obtain ⟨rv', hrv'⟩ : ∃ rv', rv' = env2 9 := ⟨_, rfl⟩
        rw [← hrv'] at W
        have hlr := (Sep.rd e3_len (W.rest.drop.head fun h hh => hh.sl)).len
        simp [g3, ← hrv']
        refine (spec280 okw W).mono ?_
        rintro v st7 ⟨rfl, rfl⟩
        obtain ⟨mv, om⟩ := W.at
        simp [hlr, g3, g6]
        refine (spec279 okw om ⟨t1, t2⟩).mono ?_
        rintro v st8 ⟨rfl, rfl⟩
        have hcv := spec298 okb W.rest.get ⟨t1, t2⟩
        have hok := okb.ok298
        simp [g6]
        refine ⟨hok, hcv.mono ?_⟩
        rintro v st9 ⟨rfl, rfl⟩
        simp [hlr]
        refine vc_loopJ (fun n env' st' => ∃ j : Nat, j ≤ es'.length ∧ n = es'.length - j ∧ env' 260 = .int .i64 (j : Nat) ∧ WinS i3 es' sl' (pt i5 (.cells [.int .i64 sl']) :: Slx 3 e3 rv' es' :: [Was st1]) st') es'.length
          ⟨0, by omega, by omega, by simp, W⟩ ?_
        clear W hlr om hcv
        rintro J2 hJ2 n env3 st10 hsame ⟨j, hj, rfl, h260, W⟩
        have g3 := (hsame.get 3 rfl).trans (by simp [g3] : _ = V.ptr (some (i3, 0)))
        have g4 := (hsame.get 4 rfl).trans (by simp [← hrv'] : _ = rv')
        have g43 := (hsame.get 43 rfl).trans (by simp [g43] : _ = V.int .i64 (i : Int))
        have g258 := (hsame.get 258 rfl).trans (by simp [← hrv'] : _ = rv')
        have g259 := (hsame.get 259 rfl).trans (by simp : _ = V.int .i64 (es'.length : Int))
        clear hsame
        by_cases hjl : j < es'.length
        · have w2 : IntKind.i64.wrap ((j : Int) + 1) = (j : Int) + 1 := wrap64 (by omega) (by omega)
          obtain ⟨r1, r2, r3, r4⟩ := (Sep.rd e3_len (W.rest.drop.head fun h hh => hh.sl)).row e3_len hjl
          obtain ⟨x, hx⟩ : ∃ x, x = es'[j] := ⟨_, rfl⟩
          rw [← hx] at r3
          have hlk := lk_mem hnd' (e := x) (hx ▸ List.getElem_mem hjl)
          simp [g258, g259, h260, hjl, r1, r3]
          intro i32 h32
          have W := W.new h32 (.cells (e3 x))
          simp [row3_store]
          generalize st10.upd i32 _ = st11 at W ⊢
          have o32 := W.rest.get
          simp [St.seg, o32, s30, s31, g3]
          refine (spec282 okw W x.1).mono ?_
          rintro v st12 ⟨rfl, rfl⟩
          rw [hlk]
          simp [St.seg, o32, s30, s31, h260, w2]
          exact Round.mk (es'.length - (j + 1)) _ (by omega) (sub_self _) (hJ2 _ _ _ ⟨j + 1, by omega, rfl, by simp, W.tail fun r h => h.drop⟩)
        · have : j = es'.length := by omega
          subst this
          simp [g258, g259, h260, g43, w1]
          exact Round.mk (l.length - (i + 1)) _ (by omega) (sub_self _) (hJ _ _ _ ⟨i + 1, es', sl', by omega, rfl, by simp, by omega, hnd', t1, t2, by simpa [g4] using W⟩)
    · have : i = l.length := by omega
      subst this
      simp [g42, h43]
      exact W.rest.was' (st0 := st1) (by simp)
  · rintro env' st4 hsame hsub
    simp
    exact hsub
end
end Go.Ab
set_option linter.unusedSimpArgs false
set_option linter.unusedVariables false
namespace Go.Ab
open Go Go.RowKit
def Gh.all (w : World) : Gh := { ι := fun _ => none, pm := fun b o => if b < w.heap.size then w.cell? ⟨b, o, none⟩ else none, N := 0, fresh := fun _ _ => rfl }
theorem stRel_all (w : World) : StRel w.heap.size w (Gh.all w) (fun _ => none) w := by
  refine ⟨Below.refl _ _, Nat.le_refl _, fun id b x h => (by cases h), fun b o v h => ?_, fun id ob h => (by cases h), fun id id' b x x' h => absurd rfl h⟩
  simp only [Gh.all] at h
  split at h
  · exact h
  · cases h
theorem calls_of_acalls {P : Program} {f : FuncId} {args : List V} {w : World} {xs : List Value} (h : ACalls P f args (fun _ => none) fun v _ => v = .bool true) (ha : LRel (Gh.all w) args xs) :
    Calls P f xs.toArray w fun e w' => e = .returned (.bool true) ∧ Below w.heap.size w w' := by
  refine (h (fun _ => none) (fun _ => .inl rfl) w.heap.size w (Gh.all w) w xs (by rw [St.add_none]; exact stRel_all w) ha).mono ?_
  rintro e w' ⟨v, x, G', st', rfl, h1, h2, h3, h4, rfl⟩
  cases h2
  exact ⟨rfl, h4.below⟩
end Go.Ab
set_option linter.unusedSimpArgs false
set_option linter.unusedVariables false
namespace Go.Ab
open Go Go.RowKit Go.ChangeShapes Go.WideShapes Go.Deep
def ofCellV : Value → V
  | .bool b => .bool b
  | .int k n => .int k n
  | .string s => .str s
  | _ => .junk
theorem ofCellV_rel (G : Gh) (x : Value) : VRel G (ofCellV x) x := by
  cases x <;> first | exact .bool _ | exact .int _ _ | exact .str _ | exact .junk _
def plainCell : Value → Bool
  | .bool _ | .int .. | .string _ | .slice .. => true
  | _ => false
theorem plainCell_one {x : Value} (h : plainCell x = true) : x.oneCell' = true := by
  cases x <;> first | rfl | cases h
def plainTy (P : Program) : Nat → TypeId → Option Nat
  | 0, _ => none
  | d + 1, t =>
    match P.underlying t with
    | some (.int _) | some .bool | some .string | some (.slice _) => some 1
    | some (.struct fs) => (flatFs P (plainTy P d) fs.toList 0).bind fun n => if P.cellsOf t = n then some n else none
    | some (.array len e) => (plainTy P d e).bind fun m => if P.cellsOf e = m ∧ P.cellsOf t = len * m then some (len * m) else none
    | _ => none
inductive Shape (P : Program) : TypeId → List V → Prop
  | int {t : TypeId} {k : IntKind} (hu : P.underlying t = some (.int k)) (n : Int) (hw : (Lit.int k n).wf = true) : Shape P t [.int k n]
  | bool {t : TypeId} (hu : P.underlying t = some .bool) (b : Bool) : Shape P t [.bool b]
  | str {t : TypeId} (hu : P.underlying t = some .string) (s : ByteArray) : Shape P t [.str s]
  | hole {t e : TypeId} (hu : P.underlying t = some (.slice e)) : Shape P t [.junk]
  | struct {t : TypeId} {fs : Array Field} (hu : P.underlying t = some (.struct fs)) (vs : List V) (h : ∀ (i : Nat) (f : Field), fs[i]? = some f → Shape P f.type ((vs.drop f.offset).take (P.cellsOf f.type))) : Shape P t vs
  | array {t : TypeId} {n : Nat} {e : TypeId} (hu : P.underlying t = some (.array n e)) (vs : List V) (h : ∀ i, i < n → Shape P e ((vs.drop (i * P.cellsOf e)).take (P.cellsOf e))) : Shape P t vs
section
variable {P : Program} {t : TypeId} {vs : List V}
theorem shape_field {fs : Array Field} (hu : P.underlying t = some (.struct fs)) (h : Shape P t vs) (i : Nat) (f : Field) (hf : fs[i]? = some f) : Shape P f.type ((vs.drop f.offset).take (P.cellsOf f.type)) := by
  cases h with
  | struct hu' _ h => rw [hu] at hu'; cases hu'; exact h i f hf
  | int hu' | bool hu' | str hu' | hole hu' | array hu' => rw [hu] at hu'; cases hu'
theorem shape_elem {n : Nat} {e : TypeId} (hu : P.underlying t = some (.array n e)) (h : Shape P t vs) (i : Nat) (hi : i < n) : Shape P e ((vs.drop (i * P.cellsOf e)).take (P.cellsOf e)) := by
  cases h with
  | array hu' _ h => rw [hu] at hu'; cases hu'; exact h i hi
  | int hu' | bool hu' | str hu' | hole hu' | struct hu' => rw [hu] at hu'; cases hu'
theorem take_one {o c : Nat} {x : V} (h : (vs.drop o).take c = [x]) : vs[o]? = some x := by
  have := congrArg (fun m => m[0]?) h
  simp only [List.getElem?_take, List.getElem?_drop, List.getElem?_cons_zero, Nat.add_zero] at this
  split at this
  · exact this
  · cases this
theorem shape_int {k : IntKind} {o c : Nat} (hu : P.underlying t = some (.int k)) (h : Shape P t ((vs.drop o).take c)) : ∃ n, vs[o]? = some (.int k n) ∧ (Lit.int k n).wf = true := by
  generalize hx : (vs.drop o).take c = x at h
  cases h with
  | int hu' n hw => rw [hu] at hu'; cases hu'; exact ⟨n, take_one hx, hw⟩
  | bool hu' | str hu' | hole hu' | struct hu' | array hu' => rw [hu] at hu'; cases hu'
end
section
variable {H : Type} {enc : TypeId × Value → H} {P : Program} {w : World} {base : Nat} {spare : Nat → Bool} {held : Bool}
theorem flatFs_cover {g : TypeId → Option Nat} {Q : Nat → Prop} : ∀ (fs : List Field) (n0 n : Nat), flatFs P g fs n0 = some n → (∀ f ∈ fs, ∀ m, g f.type = some m → P.cellsOf f.type = m → ∀ j, j < m → Q (f.offset + j)) → ∀ j, n0 ≤ j → j < n → Q j
  | [], n0, n, h, _, j, h1, h2 => by
    simp only [flatFs, Option.some.injEq] at h
    omega
  | f :: fs, n0, n, h, hq, j, h1, h2 => by
    simp only [flatFs] at h
    split at h <;> try (cases h; done)
    rename_i hc
    obtain ⟨m, hm, h⟩ := Option.bind_eq_some_iff.1 h
    split at h <;> try (cases h; done)
    rename_i hsz
    have hcm : P.cellsOf f.type = m := by
      unfold szOf at hsz
      simp only [Program.cellsOf, hsz, Option.getD_some]
    have hoff : f.offset = n0 := by
      simp at hc
      exact hc.2
    by_cases hj : j < n0 + m
    · have := hq f (by simp) m hm hcm (j - n0) (by omega)
      rwa [hoff, show n0 + (j - n0) = j by omega] at this
    · exact flatFs_cover fs (n0 + m) n h (fun f hf => hq f (by simp [hf])) j (by omega) h2
theorem trod_plain : ∀ (d : Nat) (t : TypeId) (m : Nat), plainTy P d t = some m → ∀ {fuel : Nat} {cs : List Value} {x : DataW H × List MemPlace}, DataW.trod enc P w base spare held fuel t cs = some x →
    cs.length = m ∧ (∀ j, j < m → plainCell (cs.getD j undef) = true) ∧ Shape P t (cs.map ofCellV)
  | 0, t, m, hp, fuel, cs, x, h => by cases hp
  | d + 1, t, m, hp, fuel, cs, x, h => by
    simp only [plainTy] at hp
    split at hp
    · rename_i k hu
      cases hp
      obtain ⟨n, rfl, _, hwf⟩ := DataW.trod_int hu h
      refine ⟨rfl, fun j hj => ?_, .int hu n hwf⟩
      have : j = 0 := by omega
      subst this
      rfl
    · rename_i hu
      cases hp
      obtain ⟨b, rfl, _⟩ := DataW.trod_bool hu h
      refine ⟨rfl, fun j hj => ?_, .bool hu b⟩
      have : j = 0 := by omega
      subst this
      rfl
    · rename_i hu
      cases hp
      obtain ⟨s, rfl, _⟩ := DataW.trod_string hu h
      refine ⟨rfl, fun j hj => ?_, .str hu s⟩
      have : j = 0 := by omega
      subst this
      rfl
    · rename_i e hu
      cases hp
      obtain ⟨ao, len, cap, rfl⟩ : ∃ ao len cap, cs = [.slice ao len cap] := by
        rcases open_slice hu h with ⟨h0, _⟩ | ⟨a, len', cap', m, n, D, Pl, hcs, _⟩
        · exact ⟨_, _, _, h0⟩
        · exact ⟨_, _, _, hcs⟩
      refine ⟨rfl, fun j hj => ?_, .hole hu⟩
      have : j = 0 := by omega
      subst this
      rfl
    · rename_i fs hu
      obtain ⟨n, hf, hp⟩ := Option.bind_eq_some_iff.1 hp
      split at hp <;> cases hp
      rename_i hcm
      obtain ⟨xs, n', _, _, hlen, hxl, hg⟩ := DataW.trod_struct hu h
      have sub : ∀ (i : Nat) (f : Field), fs[i]? = some f → ∃ y, DataW.trod enc P w base spare held n' f.type ((cs.drop f.offset).take (P.cellsOf f.type)) = some y := fun i f hi => by
        have hlt : i < fs.size := (Array.getElem?_eq_some_iff.1 hi).1
        exact ⟨_, (hg i f hi).trans (List.getElem?_eq_getElem (by omega))⟩
      have inf : ∀ (i : Nat) (f : Field), fs[i]? = some f → ∃ m, plainTy P d f.type = some m := by
        have key : ∀ (l : List Field) (n0 n : Nat), flatFs P (plainTy P d) l n0 = some n → ∀ f ∈ l, ∃ m, plainTy P d f.type = some m := by
          intro l
          induction l with
          | nil => intro n0 n h f hf; cases hf
          | cons g l ih =>
            intro n0 n h f hf
            simp only [flatFs] at h
            split at h <;> try (cases h; done)
            obtain ⟨m, hm, h⟩ := Option.bind_eq_some_iff.1 h
            split at h <;> try (cases h; done)
            rcases List.mem_cons.1 hf with rfl | hf
            · exact ⟨m, hm⟩
            · exact ih _ _ h f hf
        intro i f hi
        exact key _ _ _ hf f (Array.mem_toList_iff.2 (Array.mem_of_getElem? hi))
      refine ⟨hlen.trans hcm, fun j hj => ?_, .struct hu _ fun i f hi => ?_⟩
      · refine flatFs_cover (P := P) (Q := fun j => plainCell (cs.getD j undef) = true) _ _ _ hf (fun f hf' m' hm' hcm' j hj => ?_) j (Nat.zero_le _) hj
        obtain ⟨i, hi⟩ := List.getElem?_of_mem hf'
        obtain ⟨y, hy⟩ := sub i f (by simpa using hi)
        obtain ⟨h1, h2, _⟩ := trod_plain d f.type m' hm' hy
        have := h2 j hj
        rw [List.length_take, List.length_drop, hcm'] at h1
        simp only [List.getD_eq_getElem?_getD, List.getElem?_take, List.getElem?_drop, hcm', if_pos hj] at this ⊢
        exact this
      · obtain ⟨m', hm'⟩ := inf i f hi
        obtain ⟨y, hy⟩ := sub i f hi
        have := (trod_plain d f.type m' hm' hy).2.2
        rwa [List.map_take, List.map_drop] at this
    · rename_i len e hu
      obtain ⟨m', hm', hp⟩ := Option.bind_eq_some_iff.1 hp
      split at hp <;> cases hp
      rename_i hc
      obtain ⟨hc1, hc2⟩ := hc
      obtain ⟨xs, n', _, _, hlen, hxl, hg⟩ := DataW.trod_array hu h
      have sub : ∀ i, i < len → ∃ y, DataW.trod enc P w base spare held n' e ((cs.drop (i * P.cellsOf e)).take (P.cellsOf e)) = some y := fun i hi => ⟨_, (hg i hi).trans (List.getElem?_eq_getElem (by omega))⟩
      refine ⟨hlen.trans hc2, fun j hj => ?_, .array hu _ fun i hi => ?_⟩
      · have hm0 : 0 < m' := by
          rcases Nat.eq_zero_or_pos m' with h0 | h0
          · subst h0; simp at hj
          · exact h0
        have hi : j / m' < len := (Nat.div_lt_iff_lt_mul hm0).2 hj
        obtain ⟨y, hy⟩ := sub _ hi
        have := (trod_plain d e m' hm' hy).2.1 (j % m') (Nat.mod_lt _ hm0)
        simp only [List.getD_eq_getElem?_getD, List.getElem?_take, List.getElem?_drop, hc1, if_pos (Nat.mod_lt _ hm0)] at this ⊢
        rwa [show j / m' * m' + j % m' = j by rw [Nat.mul_comm]; exact Nat.div_add_mod j m'] at this
      · obtain ⟨y, hy⟩ := sub i hi
        have := (trod_plain d e m' hm' hy).2.2
        rwa [List.map_take, List.map_drop] at this
    · cases hp
theorem choose_list {α : Type} {Q : Nat → α → Prop} : ∀ n : Nat, (∀ i, i < n → ∃ r, Q i r) → ∃ l : List α, l.length = n ∧ ∀ i (hi : i < l.length), Q i l[i]
  | 0, _ => ⟨[], rfl, fun i hi => by simp at hi⟩
  | n + 1, h => by
    obtain ⟨l, h1, h2⟩ := choose_list n fun i hi => h i (by omega)
    obtain ⟨r, hr⟩ := h n (by omega)
    refine ⟨l ++ [r], by simp [h1], fun i hi => ?_⟩
    by_cases e : i < l.length
    · rw [List.getElem_append_left e]
      exact h2 i e
    · have : i = n := by simp at hi; omega
      subst this
      rw [List.getElem_append_right (by omega)]
      simpa [h1] using hr
theorem rowsOf_at {α : Type} {f : α → List V} {sz : Nat} (hf : ∀ a, (f a).length = sz) : ∀ (l : List α) (i j : Nat) (hi : i < l.length), j < sz → (rowsOf f l).getD (i * sz + j) .junk = (f l[i]).getD j .junk
  | [], i, j, hi, hj => by simp at hi
  | a :: l, 0, j, hi, hj => by
    simp only [rowsOf, List.flatMap_cons, Nat.zero_mul, Nat.zero_add, List.getElem_cons_zero, List.getD_eq_getElem?_getD]
    rw [List.getElem?_append_left (by rw [hf]; exact hj)]
  | a :: l, i + 1, j, hi, hj => by
    have ih := rowsOf_at hf l i j (by simpa using hi) hj
    have e : (i + 1) * sz + j = (f a).length + (i * sz + j) := by rw [hf, Nat.succ_mul]; omega
    simp only [rowsOf, List.flatMap_cons, List.getElem_cons_succ, List.getD_eq_getElem?_getD] at ih ⊢
    rw [e, List.getElem?_append_right (by omega), Nat.add_sub_cancel_left]
    exact ih
theorem open_rows {α : Type} (f : α → List V) {sz d : Nat} (hsz : 0 < sz) (hf : ∀ a, (f a).length = sz) {t e : TypeId} (ht : P.underlying t = some (.slice e)) (hp : plainTy P d e = some sz) (hc : P.cellsOf e = sz) (hdec : ∀ vs, vs.length = sz → Shape P e vs → ∃ a, vs = f a)
    {fuel : Nat} {ao : Option Addr} {len cap : Nat} {x : DataW H × List MemPlace} (h : DataW.trod enc P w base spare held fuel t [.slice ao len cap] = some x) (hspot : ∀ a, ao = some a → a.spot = none) :
    ∃ l : List α, l.length = len ∧ VRel (Gh.all w) (.sl .any (rowsOf f l) l.length) (.slice ao len cap) := by
  rcases open_slice ht h with ⟨h0, _⟩ | ⟨a, len', cap', m, n, D, Pl, hcs, hb, hl, hm, hmm, hx, hi⟩
  · simp only [List.cons.injEq, Value.slice.injEq, and_true] at h0
    obtain ⟨rfl, rfl, rfl⟩ := h0
    exact ⟨[], rfl, .slnil _ (.inr rfl)⟩
  · simp only [List.cons.injEq, Value.slice.injEq, and_true] at hcs
    obtain ⟨rfl, rfl, rfl⟩ := hcs
    have hs := hspot a rfl
    obtain ⟨b, o, sp⟩ := a
    simp only at hs
    subst hs
    have hlm : len ≤ m := by rw [hmm]; split <;> omega
    have row : ∀ i, i < len → ∃ r : α, ∀ j, j < sz → ∃ y, w.cell? ⟨b, o + (i * sz + j), none⟩ = some y ∧ VRel (Gh.all w) ((f r).getD j .junk) y ∧ y.oneCell' = true := fun i hil => by
      obtain ⟨cs', h1, h2⟩ := hi i (by omega)
      obtain ⟨k1, k2, k3⟩ := trod_plain d e sz hp h2
      obtain ⟨r, hr⟩ := hdec _ (by simpa using k1) k3
      obtain ⟨_, hcl, hat⟩ := World.cells?_some h1
      refine ⟨r, fun j hj => ⟨cs'.getD j undef, ?_, ?_, plainCell_one (k2 j hj)⟩⟩
      · have := hat j (by omega)
        rw [hc, add_lit, add_lit] at this
        rw [show o + (i * sz + j) = o + i * sz + j by omega]
        have hlt : j < cs'.length := by omega
        rw [List.getD_eq_getElem?_getD, List.getElem?_eq_getElem hlt]
        rw [List.getElem?_eq_getElem hlt] at this
        simpa using this
      · rw [← hr]
        have hlt : j < cs'.length := by omega
        simp only [List.getD_eq_getElem?_getD, List.getElem?_map, List.getElem?_eq_getElem hlt, Option.map_some, Option.getD_some]
        exact ofCellV_rel _ _
    obtain ⟨l, hll, hrow⟩ := choose_list len row
    have cell : ∀ i, i < (rowsOf f l).length → ∃ y, (w.cell? ⟨b, o + i, none⟩).getD undef = y ∧ w.cell? ⟨b, o + i, none⟩ = some y ∧ VRel (Gh.all w) ((rowsOf f l).getD i .junk) y ∧ y.oneCell' = true := fun i hil => by
      rw [rowsOf_length hf] at hil
      have hq : i / sz < l.length := (Nat.div_lt_iff_lt_mul hsz).2 hil
      obtain ⟨y, h1, h2, h3⟩ := hrow (i / sz) hq (i % sz) (Nat.mod_lt _ hsz)
      have e : i / sz * sz + i % sz = i := by rw [Nat.mul_comm]; exact Nat.div_add_mod i sz
      have hg := rowsOf_at hf l (i / sz) (i % sz) hq (Nat.mod_lt _ hsz)
      rw [e] at hg h1
      exact ⟨y, by rw [h1]; rfl, h1, by rw [hg]; exact h2, h3⟩
    refine ⟨l, hll, ?_⟩
    rw [hll]
    refine .sl .any _ len b o cap (by simp) hl (fun e => by cases e) (fun i => (w.cell? ⟨b, o + i, none⟩).getD undef) (fun i hil => ?_) (fun i hil => ?_) (fun i hil => ?_) <;> obtain ⟨y, q1, q2, q3, q4⟩ := cell i hil
    · rw [q1]
      simp only [Gh.all]
      rw [if_pos (block_of_cell q2), q2]
    · rw [q1]; exact q3
    · rw [q1]; exact q4
theorem slice_spot {t e : TypeId} {r : Reach} {b0 : Nat} (ht : P.underlying t = some (.slice e)) {a : Option Addr} {len cap : Nat} (h : Value.okWide P w r b0 t (.slice a len cap)) : ∀ x, a = some x → x.spot = none := by
  rintro x rfl
  simp only [Value.okWide, ht, Cell.okWide, Cell.ok] at h
  exact h.2.2.2.1
theorem shape_byte {t : TypeId} (hu : P.underlying t = some (.int .u8)) (vs : List V) (hl : vs.length = 1) (h : Shape P t vs) : ∃ b : UInt8, vs = e8 b := by
  cases h with
  | int hu' n hw =>
    rw [hu] at hu'; cases hu'
    have hb : 0 ≤ n ∧ n ≤ 255 := by
      simp [Lit.wf] at hw
      exact hw
    refine ⟨UInt8.ofNat n.toNat, ?_⟩
    have : n.toNat % 256 = n.toNat := Nat.mod_eq_of_lt (by omega)
    simp [e8, this]
    omega
  | bool hu' | str hu' | hole hu' | struct hu' | array hu' => rw [hu] at hu'; cases hu'
end
end Go.Ab
set_option linter.unusedSimpArgs false
set_option linter.unusedVariables false
namespace Go.Ab
open Go Go.RowKit Go.ChangeShapes Go.WideShapes Go.Deep
section
variable {H : Type} {enc : TypeId × Value → H} {P : Program} {w : World} {base : Nat} {spare : Nat → Bool} {held : Bool}
end
end Go.Ab
set_option linter.unusedSimpArgs false
set_option linter.unusedVariables false
namespace Go.Ab
open Go Go.RowKit Go.ChangeShapes Go.WideShapes Go.Deep
section
variable {P : Program} {t : TypeId} {vs : List V}
def fldAt (fs : Array Field) (i : Nat) : Option (Nat × TypeId) := (fs[i]?).map fun f => (f.offset, f.type)
theorem shape_at {fs : Array Field} (hu : P.underlying t = some (.struct fs)) (h : Shape P t vs) {i o : Nat} {ty : TypeId} (e : fldAt fs i = some (o, ty)) : Shape P ty ((vs.drop o).take (P.cellsOf ty)) := by
  unfold fldAt at e
  cases hf : fs[i]? with
  | none => rw [hf] at e; cases e
  | some f =>
    rw [hf] at e
    have e := Option.some.inj e
    have h1 : f.offset = o := congrArg Prod.fst e
    have h2 : f.type = ty := congrArg Prod.snd e
    have := shape_field hu h i f hf
    rw [h1, h2] at this
    exact this
theorem shape_u32 (hu : P.underlying t = some (.int .u32)) (h : Shape P t vs) : ∃ x : W32, vs = [w32 x] := by
  cases h with
  | int hu' n hw =>
    rw [hu] at hu'; cases hu'
    have hb : 0 ≤ n ∧ n ≤ 4294967295 := by
      simp [Lit.wf] at hw
      exact hw
    refine ⟨BitVec.ofNat 32 n.toNat, ?_⟩
    have : (BitVec.ofNat 32 n.toNat).toNat = n.toNat := by rw [BitVec.toNat_ofNat]; exact Nat.mod_eq_of_lt (by omega)
    rw [w32, this]
    congr 2
    omega
  | bool hu' | str hu' | hole hu' | struct hu' | array hu' => rw [hu] at hu'; cases hu'
theorem shape_i64 (hu : P.underlying t = some (.int .i64)) (h : Shape P t vs) : ∃ x : Int, vs = [.int .i64 x] := by
  cases h with
  | int hu' n hw => rw [hu] at hu'; cases hu'; exact ⟨n, rfl⟩
  | bool hu' | str hu' | hole hu' | struct hu' | array hu' => rw [hu] at hu'; cases hu'
theorem shape_b (hu : P.underlying t = some .bool) (h : Shape P t vs) : ∃ x : Bool, vs = [.bool x] := by
  cases h with
  | bool hu' b => exact ⟨b, rfl⟩
  | int hu' | str hu' | hole hu' | struct hu' | array hu' => rw [hu] at hu'; cases hu'
theorem shape_id {tb : TypeId} (hu : P.underlying t = some (.array 32 tb)) (hb : P.underlying tb = some (.int .u8)) (cb : P.cellsOf tb = 1) (hl : vs.length = 32) (h : Shape P t vs) : ∃ x : Id, vs = eId x := by
  have row : ∀ i, i < 32 → ∃ b : UInt8, (vs.drop i).take 1 = e8 b := fun i hi => by
    have := shape_elem hu h i hi
    rw [cb, Nat.mul_one] at this
    exact shape_byte hb _ (by simp; omega) this
  obtain ⟨l, hll, hr⟩ := choose_list 32 row
  refine ⟨⟨⟨l⟩, hll⟩, ?_⟩
  have e : eId ⟨⟨l⟩, hll⟩ = l.map w8 := by rw [eId_rows, rows_e8]; rfl
  rw [e]
  apply List.ext_getElem
  · simp [hl, hll]
  · intro i h1 h2
    have hi : i < l.length := by simpa using h2
    have := hr i hi
    rw [List.drop_eq_getElem_cons h1] at this
    simp only [List.take_succ_cons, List.take_zero, e8] at this
    rw [List.getElem_map]
    exact (List.cons.inj this).1
theorem cut1 (vs : List V) (n : Nat) : vs = vs.take n ++ vs.drop n := (List.take_append_drop n vs).symm
structure HdrTy (P : Program) (t tw ti tb : TypeId) : Prop where
  flds : ∃ fs, P.underlying t = some (.struct fs) ∧ fldAt fs 0 = some (0, tw) ∧ fldAt fs 1 = some (1, ti) ∧ fldAt fs 2 = some (33, ti) ∧ fldAt fs 3 = some (65, tw) ∧ fldAt fs 4 = some (66, tw) ∧ fldAt fs 5 = some (67, tw)
  uw : P.underlying tw = some (.int .u32)
  ui : P.underlying ti = some (.array 32 tb)
  ub : P.underlying tb = some (.int .u8)
  cw : P.cellsOf tw = 1
  ci : P.cellsOf ti = 32
  cb : P.cellsOf tb = 1
theorem shape_hdr {tw ti tb : TypeId} (T : HdrTy P t tw ti tb) (hl : vs.length = 68) (h : Shape P t vs) : ∃ x : Hdr, vs = eHdr x := by
  obtain ⟨fs, hu, e0, e1, e2, e3, e4, e5⟩ := T.flds
  have s0 := shape_at hu h e0
  have s1 := shape_at hu h e1
  have s2 := shape_at hu h e2
  have s3 := shape_at hu h e3
  have s4 := shape_at hu h e4
  have s5 := shape_at hu h e5
  rw [T.cw] at s0 s3 s4 s5
  rw [T.ci] at s1 s2
  obtain ⟨v, h0⟩ := shape_u32 T.uw s0
  obtain ⟨p, h1⟩ := shape_id T.ui T.ub T.cb (by simp; omega) s1
  obtain ⟨q, h2⟩ := shape_id T.ui T.ub T.cb (by simp; omega) s2
  obtain ⟨a, h3⟩ := shape_u32 T.uw s3
  obtain ⟨b, h4⟩ := shape_u32 T.uw s4
  obtain ⟨c, h5⟩ := shape_u32 T.uw s5
  refine ⟨⟨v, p, q, a, b, c⟩, ?_⟩
  have d5 : vs.drop 67 = [w32 c] := by rw [← h5, List.take_of_length_le (by simp; omega)]
  have d4 : vs.drop 66 = w32 b :: [w32 c] := by rw [cut1 (vs.drop 66) 1, h4, List.drop_drop, d5]; rfl
  have d3 : vs.drop 65 = w32 a :: [w32 b, w32 c] := by rw [cut1 (vs.drop 65) 1, h3, List.drop_drop, d4]; rfl
  have d2 : vs.drop 33 = eId q ++ [w32 a, w32 b, w32 c] := by rw [cut1 (vs.drop 33) 32, h2, List.drop_drop, d3]
  have d1 : vs.drop 1 = eId p ++ (eId q ++ [w32 a, w32 b, w32 c]) := by rw [cut1 (vs.drop 1) 32, h1, List.drop_drop, d2]
  rw [cut1 vs 1, d1]
  rw [List.drop_zero] at h0
  rw [h0]
  rfl
structure OpTy (P : Program) (t ti tl tw tb th : TypeId) : Prop where
  flds : ∃ fs, P.underlying t = some (.struct fs) ∧ fldAt fs 0 = some (0, ti) ∧ fldAt fs 1 = some (1, ti) ∧ fldAt fs 2 = some (2, ti) ∧ fldAt fs 3 = some (3, ti) ∧ fldAt fs 4 = some (4, tl) ∧ fldAt fs 5 = some (5, tw) ∧ fldAt fs 6 = some (6, tb) ∧ fldAt fs 7 = some (7, th)
  ui : P.underlying ti = some (.int .i64)
  ul : P.underlying tl = some (.int .i64)
  uw : P.underlying tw = some (.int .u32)
  ub : P.underlying tb = some .bool
  ci : P.cellsOf ti = 1
  cl : P.cellsOf tl = 1
  cw : P.cellsOf tw = 1
  cb : P.cellsOf tb = 1
  ch : P.cellsOf th = 68
theorem shape_op {ti tl tw tb th ta tu : TypeId} (T : OpTy P t ti tl tw tb th) (H : HdrTy P th tw ta tu) (vs : List V) (hl : vs.length = 75) (h : Shape P t vs) : ∃ o : OpM, vs = eOp o := by
  obtain ⟨fs, hu, e0, e1, e2, e3, e4, e5, e6, e7⟩ := T.flds
  have s0 := shape_at hu h e0
  have s1 := shape_at hu h e1
  have s2 := shape_at hu h e2
  have s3 := shape_at hu h e3
  have s4 := shape_at hu h e4
  have s5 := shape_at hu h e5
  have s6 := shape_at hu h e6
  have s7 := shape_at hu h e7
  rw [T.ci] at s0 s1 s2 s3
  rw [T.cl] at s4
  rw [T.cw] at s5
  rw [T.cb] at s6
  rw [T.ch] at s7
  obtain ⟨a0, h0⟩ := shape_i64 T.ui s0
  obtain ⟨a1, h1⟩ := shape_i64 T.ui s1
  obtain ⟨a2, h2⟩ := shape_i64 T.ui s2
  obtain ⟨a3, h3⟩ := shape_i64 T.ui s3
  obtain ⟨a4, h4⟩ := shape_i64 T.ul s4
  obtain ⟨a5, h5⟩ := shape_u32 T.uw s5
  obtain ⟨a6, h6⟩ := shape_b T.ub s6
  obtain ⟨g, h7⟩ := shape_hdr H (by simp; omega) s7
  refine ⟨⟨a0, a1, a2, a3, a4, a5, a6, g⟩, ?_⟩
  have d7 : vs.drop 7 = eHdr g := by rw [← h7, List.take_of_length_le (by simp; omega)]
  have d6 : vs.drop 6 = .bool a6 :: eHdr g := by rw [cut1 (vs.drop 6) 1, h6, List.drop_drop, d7]; rfl
  have d5 : vs.drop 5 = w32 a5 :: .bool a6 :: eHdr g := by rw [cut1 (vs.drop 5) 1, h5, List.drop_drop, d6]; rfl
  have d4 : vs.drop 4 = .int .i64 a4 :: w32 a5 :: .bool a6 :: eHdr g := by rw [cut1 (vs.drop 4) 1, h4, List.drop_drop, d5]; rfl
  have d3 : vs.drop 3 = .int .i64 a3 :: .int .i64 a4 :: w32 a5 :: .bool a6 :: eHdr g := by rw [cut1 (vs.drop 3) 1, h3, List.drop_drop, d4]; rfl
  have d2 : vs.drop 2 = .int .i64 a2 :: .int .i64 a3 :: .int .i64 a4 :: w32 a5 :: .bool a6 :: eHdr g := by rw [cut1 (vs.drop 2) 1, h2, List.drop_drop, d3]; rfl
  have d1 : vs.drop 1 = .int .i64 a1 :: .int .i64 a2 :: .int .i64 a3 :: .int .i64 a4 :: w32 a5 :: .bool a6 :: eHdr g := by rw [cut1 (vs.drop 1) 1, h1, List.drop_drop, d2]; rfl
  rw [cut1 vs 1, d1]
  rw [List.drop_zero] at h0
  rw [h0]
  rfl
end
end Go.Ab
set_option linter.unusedSimpArgs false
set_option linter.unusedVariables false
namespace Go.Ab
open Go Go.RowKit Go.ChangeShapes Go.WideShapes Go.Deep
section
variable {H : Type} {enc : TypeId × Value → H} {P : Program} {w : World} {base : Nat} {spare : Nat → Bool} {held : Bool}
end
end Go.Ab
