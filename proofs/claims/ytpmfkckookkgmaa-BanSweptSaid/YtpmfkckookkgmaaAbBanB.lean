/-
  What a ban and a sweep do to a list of rows.
-/
import Derived.Test.YtpmfkckookkgmaaAbBanA
set_option linter.unusedVariables false
set_option linter.unusedSimpArgs false
namespace Go.Ab
open Go
section
variable {P : Program} {F : Fn}

theorem Tab.sub {tid : Nat} {rows : Rows2} {h st : St} (ht : Tab tid rows h) (hs : St.sub h st) : Tab tid rows st := by
  obtain ⟨hl, s, h1, h2⟩ := ht
  refine ⟨hl, s, hs _ _ h1, ?_⟩
  rcases h2 with h2 | ⟨sid, spare, e, h3, h4⟩
  · exact .inl h2
  · exact .inr ⟨sid, spare, e, hs _ _ h3, h4⟩

theorem tab_of {tid : Nat} {rows : Rows2} {L : List Asn} {st : St} (h : Sep (Tab tid rows :: L) st) : Tab tid rows st := by
  obtain ⟨h', h1, h2⟩ := h.part
  exact h2.sub h1

theorem tab_new {tid : Nat} {L : List Asn} {st : St} (h : Sep L st) (hid : st tid = none) : Sep (Tab tid [] :: L) (st.upd tid (.cells [.sl .nil [] 0])) :=
  (h.new hid _).head fun h hh => ⟨by simp, _, hh, .inl ⟨rfl, rfl⟩⟩

theorem ban_call (ok : OkBan P F) {tid : Nat} {rows : Rows2} {L : List Asn} {st : St} (h : Sep (Tab tid rows :: L) st) (hl : rows.length ≤ 32) (a u : Int) :
    ACalls P (F 14) [.ptr (some (tid, 0)), .int .i64 a, .int .i64 u] st fun v st' => v = .tup [] ∧ Sep (Tab tid (banM rows a u) :: L) st' :=
  (Sep.call h fun h hh => spec14 ok hl hh a u).mono fun v s hs => hs.pure


theorem findAt_none {rows : Rows2} {a : Int} : findAt rows a = none ↔ ∀ r ∈ rows, r.1 ≠ a := by
  simp [findAt, List.findIdx?_eq_none_iff]

theorem untilM_some {rows : Rows2} {a x : Int} (h : untilM rows a = some x) : (a, x) ∈ rows := by
  unfold untilM at h
  split at h <;> cases h
  rename_i i hf
  obtain ⟨hi, h1⟩ := findAt_lt hf
  rw [set_getD rows hi]
  have := List.getElem_mem hi
  rw [← h1]
  exact this

theorem untilM_none {rows : Rows2} {a : Int} : untilM rows a = none ↔ ∀ r ∈ rows, r.1 ≠ a := by
  rw [← findAt_none]
  unfold untilM
  split <;> simp_all

theorem putM_length {rows : Rows2} (h : rows.length ≤ 32) (a u : Int) : (putM rows a u).length ≤ 32 := by
  unfold putM
  split
  · assumption
  · rw [List.length_eraseIdx_of_lt (firstMin_lt _ _ (by simp) (Nat.le_refl _))]
    simp
    omega

theorem banM_length {rows : Rows2} (h : rows.length ≤ 32) (a u : Int) : (banM rows a u).length ≤ 32 := by
  unfold banM
  split
  · simpa using h
  · exact putM_length h a u

theorem putM_mem {rows : Rows2} {a u : Int} {r : Int × Int} (h : r ∈ putM rows a u) : r ∈ rows ∨ r = (a, u) := by
  unfold putM at h
  split at h
  · simpa using h
  · simpa using List.mem_of_mem_eraseIdx h

/-- Who has been banned is banned for as long at least; unless there was no room. -/
theorem banM_until {rows : Rows2} (a u : Int) : (∃ x, untilM (banM rows a u) a = some x ∧ u ≤ x) ∨ (untilM (banM rows a u) a = none ∧ 32 ≤ rows.length) := by
  cases hf : findAt rows a with
  | some i =>
    obtain ⟨hi, h1⟩ := findAt_lt hf
    left
    have hb : banM rows a u = rows.set i (rows[i].1, max u rows[i].2) := by simp [banM, hf, hi]
    have hf2 : findAt (rows.set i (rows[i].1, max u rows[i].2)) a = some i := by
      unfold findAt at hf ⊢
      rw [List.findIdx?_eq_some_iff_getElem] at hf ⊢
      obtain ⟨k1, k2, k3⟩ := hf
      refine ⟨by simpa using hi, by simpa using h1, fun j hj => ?_⟩
      have := k3 j hj
      rw [List.getElem_set_ne (by omega)]
      exact this
    refine ⟨max u rows[i].2, ?_, by omega⟩
    rw [hb]
    simp [untilM, hf2, hi]
  | none =>
    have hb : banM rows a u = putM rows a u := by simp [banM, hf]
    rw [hb]
    cases hu : untilM (putM rows a u) a with
    | some x =>
      left
      refine ⟨x, rfl, ?_⟩
      rcases putM_mem (untilM_some hu) with h | h
      · exact absurd rfl (findAt_none.1 hf _ h)
      · cases h; omega
    | none =>
      right
      refine ⟨rfl, ?_⟩
      rw [untilM_none] at hu
      unfold putM at hu
      split at hu
      · exact absurd rfl (hu (a, u) (by simp))
      · rename_i h
        simp at h
        omega

def keepP (x : Int) (r : Int × Int) : Bool := decide (x < r.2)

theorem splice_set {R : Rows2} {l : List V} {i : Nat} (hi : i < R.length) (r : Int × Int) : spliceV (cells2 R ++ l) (i * 2) [V.int .i64 r.1, V.int .i64 r.2] = cells2 (R.set i r) ++ l := by
  have hc := cells2_length R
  have e : R.set i r = R.take i ++ r :: R.drop (i + 1) := List.set_eq_take_append_cons_drop.trans (if_pos hi)
  unfold spliceV
  rw [List.take_append_of_le_length (by omega), cells2_take, show i * 2 + [V.int IntKind.i64 r.1, V.int .i64 r.2].length = (i + 1) * 2 by simp; omega, List.drop_append_of_le_length (by omega), cells2_drop, e]
  simp [cells2]

theorem splice_clear {R : Rows2} {l : List V} {i : Nat} (hi : i ≤ R.length) : spliceV (cells2 R ++ l) (i * 2) (repV [V.int .i64 0, V.int .i64 0] (R.length - i)) = cells2 (R.take i) ++ (repV [V.int .i64 0, V.int .i64 0] (R.length - i) ++ l) := by
  have hc := cells2_length R
  unfold spliceV
  have e3 : i * 2 + (repV [V.int .i64 0, V.int .i64 0] (R.length - i)).length = (cells2 R).length := by
    rw [hc, length_repV]; simp; omega
  rw [List.take_append_of_le_length (by omega), cells2_take, e3, List.drop_left, List.append_assoc]

/-- slices.DeleteFunc by Sweep's closure. -/
theorem spec30 (ok : OkBan P F) {st : St} {s : V} {rows : Rows2} (hl : rows.length ≤ 40) (hs : TabL st s rows) {bid : Nat} {x : Int} (hb : st bid = some (.cells [.int .i64 x])) :
    ACalls P (F 30) [s, .func (F 31) [.ptr (some (bid, 0))]] st fun v st' => TabL st' v (rows.filter (keepP x)) ∧ ((v = s ∧ st' = st) ∨ ∃ sid n c, s = .hsl sid 0 2 n ∧ st' = st.upd sid c) := by
  refine shows_call ok.mixed ok.h30 (by simp [k30]) ?_
  simp [k30]
  refine (index_spec ok (rows := rows) hl hs (fun r => decide (r.2 ≤ x)) ok.ok31 (fun r => spec31 ok st bid _ _ x hb)).mono ?_
  rintro v st' ⟨rfl, rfl⟩
  cases hf : rows.findIdx? (fun r => decide (r.2 ≤ x)) with
  | none =>
    have hall : rows.filter (keepP x) = rows := by
      rw [List.findIdx?_eq_none_iff] at hf
      rw [List.filter_eq_self]
      intro r hr
      have := hf r hr
      simp at this
      simp [keepP, this]
    simp [hall]
    exact ⟨st', sub_self _, hs, .inl rfl⟩
  | some i0 =>
    rw [List.findIdx?_eq_some_iff_getElem] at hf
    obtain ⟨hi0, hp0, hlow⟩ := hf
    rcases hs with ⟨rfl, rfl⟩ | ⟨sid, spare, rfl, hsid, hsp⟩
    · simp at hi0
    · have hne : bid ≠ sid := fun e => by
        subst e
        rw [hb] at hsid
        cases rows with
        | nil => simp at hi0
        | cons r l => simp [cells2] at hsid
      have hw1 : IntKind.i64.wrap ((i0 : Int) + 1) = (i0 : Int) + 1 := wrap64 (by omega) (by omega)
      have hn1 : ((i0 : Int) == -1) = false := by simp <;> omega
      simp [hw1, hn1]
      refine vc_loopJ (fun k env' st2 => ∃ (j i : Nat) (R : Rows2), i < j ∧ j ≤ rows.length ∧ k = rows.length - j ∧ env' 6 = .int .i64 (j : Nat) ∧ env' 5 = .int .i64 (i : Nat) ∧ R.length = rows.length ∧ R.take i = (rows.take j).filter (keepP x) ∧ R.drop j = rows.drop j ∧
        st2 = st'.upd sid (.cells (cells2 R ++ spare))) (rows.length - (i0 + 1)) ⟨i0 + 1, i0, rows, by omega, by omega, rfl, by simp, by simp, rfl, ?_, rfl, ?_⟩ ?_
      · rw [List.take_succ_eq_append_getElem hi0, List.filter_append]
        have e1 : (rows.take i0).filter (keepP x) = rows.take i0 := by
          rw [List.filter_eq_self]
          intro r hr
          obtain ⟨j, hj, rfl⟩ := List.getElem_of_mem hr
          simp at hj
          have := hlow j (by omega)
          simp at this
          simp [keepP, this]
        have e2 : [rows[i0]].filter (keepP x) = [] := by
          simp at hp0
          simp [keepP, hp0]
        rw [e1, e2, List.append_nil]
      · funext q
        by_cases e : q = sid <;> simp [e, hsid]
      · rintro J hJ k env' st2 hsame ⟨j, i, R, hij, hj, rfl, h6, h5, hRl, hRt, hRd, rfl⟩
        have h0 : env' 0 = .hsl sid 0 2 rows.length := hsame 0 (by decide)
        have h1 : env' 1 = .func (F 31) [.ptr (some (bid, 0))] := hsame 1 (by decide)
        clear hsame
        have hc := cells2_length R
        by_cases hlt : j < rows.length
        · have hltR : j < R.length := by omega
          have hRj : R[j] = rows[j] := by
            have e1 := List.drop_eq_getElem_cons hltR
            have e2 := List.drop_eq_getElem_cons hlt
            rw [hRd, e2] at e1
            exact (List.cons.inj e1).1.symm
          have hrow : ((cells2 R ++ spare).drop (j * 2)).take 2 = [V.int .i64 rows[j].1, V.int .i64 rows[j].2] := by
            rw [List.drop_append_of_le_length (by omega), List.take_append_of_le_length (by rw [List.length_drop]; omega), cells2_at R hltR, hRj]
          have hle : j * 2 + 2 ≤ rows.length * 2 + spare.length := by omega
          have hle' : j * 2 + 2 ≤ (cells2 R ++ spare).length := by simp [hc]; omega
          have hw2 : IntKind.i64.wrap ((j : Int) + 1) = (j : Int) + 1 := wrap64 (by omega) (by omega)
          have hw3 : IntKind.i64.wrap ((i : Int) + 1) = (i : Int) + 1 := wrap64 (by omega) (by omega)
          have hseg : segOf (cells2 R ++ spare) (j * 2) 2 = some [V.int .i64 rows[j].1, V.int .i64 rows[j].2] := by
            unfold segOf
            rw [if_pos hle', hrow]
          simp [h0, h1, h6, hlt, St.seg, hseg]
          intro id hid
          obtain ⟨hid1, hid2⟩ : id ≠ sid ∧ st' id = none := by
            by_cases e : id = sid
            · simp [e] at hid
            · simp [e] at hid; exact ⟨e, hid⟩
          have n1 : bid ≠ id := ne_id hb hid2
          simp [storeS, spliceV, h1, St.seg, segOf, ok.ok31]
          refine (spec31 ok _ bid rows[j].1 rows[j].2 x (by simp [n1, hne, hb])).mono ?_
          rintro v st3 ⟨rfl, rfl⟩
          by_cases hx : rows[j].2 ≤ x
          · simp [hx, h6, hw2]
            refine Round.mk (rows.length - (j + 1)) (st'.upd sid (.cells (cells2 R ++ spare))) (by omega) (sub_upd (by simp [hid1, hid2])) (hJ _ _ _ ⟨j + 1, i, R, by omega, by omega, rfl, by simp, by simp [h5], hRl, ?_, ?_, rfl⟩)
            · rw [List.take_succ_eq_append_getElem hlt, List.filter_append, ← hRt]
              have : ¬ x < rows[j].2 := by omega
              simp [keepP, this]
            · rw [← List.drop_drop, ← List.drop_drop, hRd]
          · have hflt : i < rows.length := by omega
            have hfltR : i < R.length := by omega
            have hle2 : i * 2 + 2 ≤ (cells2 R ++ spare).length := by simp [hc]; omega
            have hsid1 : sid ≠ id := fun e => hid1 e.symm
            have hst4 : storeS ((st'.upd sid (.cells (cells2 R ++ spare))).upd id (.cells [V.int .i64 rows[j].1, V.int .i64 rows[j].2])) 2 (.ptr (some (sid, i * 2))) (.agg [V.int .i64 rows[j].1, V.int .i64 rows[j].2]) =
                some (((st'.upd sid (.cells (cells2 R ++ spare))).upd id (.cells [V.int .i64 rows[j].1, V.int .i64 rows[j].2])).upd sid (.cells (cells2 (R.set i rows[j]) ++ spare))) := by
              rw [store_pt (sz := 2) (cs := cells2 R ++ spare) (vs := [V.int .i64 rows[j].1, V.int .i64 rows[j].2]) (by simp [hsid1]) rfl rfl hle2, splice_set hfltR]
            simp [hx, h0, h5, hflt, St.seg, segOf, hst4]
            simp [h5, h6, hw2, hw3]
            refine Round.mk (rows.length - (j + 1)) (st'.upd sid (.cells (cells2 (R.set i rows[j]) ++ spare))) (by omega) ?_ (hJ _ _ _ ⟨j + 1, i + 1, R.set i rows[j], by omega, by omega, rfl, by simp, by simp, by simp [hRl], ?_, ?_, rfl⟩)
            · intro q o hq
              by_cases e : q = sid
              · subst e; simpa using hq
              · simp [e] at hq
                have : q ≠ id := fun e' => by rw [e', hid2] at hq; cases hq
                simp [e, this, hq]
            · rw [List.take_succ_eq_append_getElem hlt, List.filter_append, ← hRt, List.take_succ_eq_append_getElem (by simpa using hfltR), List.take_set_of_le (Nat.le_refl _)]
              have : x < rows[j].2 := by omega
              simp [keepP, this]
            · rw [List.drop_set_of_lt (by omega), ← List.drop_drop, ← List.drop_drop, hRd]
        · have : j = rows.length := by omega
          subst this
          have e1 : i ≤ rows.length := by omega
          have hRt' : R.take i = rows.filter (keepP x) := by rw [hRt, List.take_length]
          have hil : i = (rows.filter (keepP x)).length := by rw [← hRt', List.length_take]; omega
          simp [h0, h6, h5, slV, bounds, e1]
          refine clear_hsl _ _ (by simp; rfl) rfl (by simp [hc]; omega) ?_
          rw [← hRl, splice_clear (by omega), hRt', hRl]
          simp [h0, h5, slV, bounds, e1]
          refine ⟨_, sub_self _, .inr ⟨sid, repV [V.int .i64 0, V.int .i64 0] (rows.length - i) ++ spare, by rw [← hil], by simp, ?_⟩, .inr ⟨_, rfl⟩⟩
          rw [List.length_append, length_repV]
          simp
          omega

/-- Table.Sweep -/
theorem spec16 (ok : OkBan P F) {st : St} {tid : Nat} {rows : Rows2} (ht : Tab tid rows st) (x : Int) : ACalls P (F 16) [.ptr (some (tid, 0)), .int .i64 x] st fun v st' => v = .tup [] ∧ Tab tid (rows.filter (keepP x)) st' := by
  obtain ⟨hl, s, hs, hL⟩ := ht
  refine shows_call ok.mixed ok.h16 (by simp [k16]) ?_
  simp [k16]
  intro id hid
  have n1 := ne_id hs hid
  simp [St.seg, segOf, hs, n1]
  have hL' : TabL (st.upd id (.cells [.int .i64 x])) s rows := by
    rcases hL with h | ⟨sid, spare, h1, h2, h3⟩
    · exact .inl h
    · exact .inr ⟨sid, spare, h1, by simp [ne_id h2 hid, h2], h3⟩
  refine (spec30 ok hl hL' (bid := id) (x := x) (by simp)).mono ?_
  rintro v st' ⟨hT, hst⟩
  have hfl : (rows.filter (keepP x)).length ≤ 40 := Nat.le_trans (List.length_filter_le _ _) hl
  have key : st' tid = some (.cells [s]) := by
    rcases hst with ⟨rfl, rfl⟩ | ⟨sid, n, c, rfl, rfl⟩
    · simp [n1, hs]
    · have : tid ≠ sid := fun e => by
        subst e
        rcases hL with ⟨h, _⟩ | ⟨sid2, spare, h1, h2, h3⟩
        · cases h
        · cases h1
          rw [hs] at h2
          cases rows with
          | nil =>
            simp [cells2] at h2
            subst h2
            simp at h3
          | cons r l => simp [cells2] at h2
      simp [this, n1, hs]
  have hne2 : ∀ sid n, v = .hsl sid 0 2 n → ∀ c, st' sid = some (.cells c) → 2 ∣ c.length → tid ≠ sid := fun sid n _ c hc h2 e => by
    subst e
    rw [key] at hc
    cases hc
    simp at h2
  rcases hT with ⟨rfl, hr⟩ | ⟨sid, spare, rfl, h2, h3⟩
  · simp [storeS, spliceV, key]
    exact ⟨_, sub_self _, hfl, .sl .nil [] 0, by simp, .inl ⟨rfl, hr⟩⟩
  · have hne : tid ≠ sid := hne2 sid _ rfl _ h2 (by
      have := cells2_length (rows.filter (keepP x))
      rw [List.length_append, this]
      omega)
    have hne' := Ne.symm hne
    simp [storeS, spliceV, key]
    exact ⟨_, sub_self _, hfl, _, by simp, .inr ⟨sid, spare, rfl, by simp [hne', h2], h3⟩⟩

theorem sweep_call (ok : OkBan P F) {tid : Nat} {rows : Rows2} {L : List Asn} {st : St} (h : Sep (Tab tid rows :: L) st) (x : Int) :
    ACalls P (F 16) [.ptr (some (tid, 0)), .int .i64 x] st fun v st' => v = .tup [] ∧ Sep (Tab tid (rows.filter (keepP x)) :: L) st' :=
  (Sep.call h fun h hh => spec16 ok hh x).mono fun v s hs => hs.pure
end
end Go.Ab
