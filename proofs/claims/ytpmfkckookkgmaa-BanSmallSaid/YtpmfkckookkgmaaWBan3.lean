/-
  Table.Ban.
-/
import Derived.Test.YtpmfkckookkgmaaWBan2
set_option linter.unusedVariables false
set_option linter.unusedSimpArgs false
namespace Go.Proofs.Ytpmfkckookkgmaa
open Go Go.Ab

/-- The place of the first of those that are free first. -/
def firstMin (r : Rows2) (k : Nat) : Nat := (List.range k).foldl (fun f i => if (r.getD i (0, 0)).2 < (r.getD f (0, 0)).2 then i else f) 0

theorem firstMin_succ (r : Rows2) (k : Nat) : firstMin r (k + 1) = if (r.getD k (0, 0)).2 < (r.getD (firstMin r k) (0, 0)).2 then k else firstMin r k := by
  simp [firstMin, List.range_succ]

theorem firstMin_lt (r : Rows2) : ∀ k, 0 < r.length → k ≤ r.length → firstMin r k < r.length
  | 0, h, _ => by simpa [firstMin] using h
  | k + 1, h, hk => by
    rw [firstMin_succ]
    split
    · omega
    · exact firstMin_lt r k h (by omega)

def putM (rows : Rows2) (a u : Int) : Rows2 :=
  if (rows ++ [(a, u)]).length ≤ 32 then rows ++ [(a, u)] else (rows ++ [(a, u)]).eraseIdx (firstMin (rows ++ [(a, u)]) (rows ++ [(a, u)]).length)

def banM (rows : Rows2) (a u : Int) : Rows2 :=
  match findAt rows a with
  | some i => rows.set i ((rows.getD i (0, 0)).1, max u (rows.getD i (0, 0)).2)
  | none => putM rows a u

theorem fld2 (rows : Rows2) (spare : List V) {i : Nat} (hi : i < rows.length) : ((cells2 rows ++ spare).drop (i * 2 + 1)).take 1 = [V.int .i64 rows[i].2] := by
  have hlen := cells2_length rows
  rw [List.drop_append_of_le_length (by omega), ← List.drop_drop, cells2_drop, List.drop_eq_getElem_cons hi]
  rfl

theorem splice_mid (A B : List V) (x y z : V) : spliceV (A ++ x :: y :: B) (A.length + 1) [z] = A ++ x :: z :: B := by
  have e : A ++ x :: y :: B = (A ++ [x]) ++ (y :: B) := by simp
  have l : A.length + 1 = (A ++ [x]).length := by simp
  unfold spliceV
  rw [e, l, List.take_left, ← List.drop_drop, List.drop_left]
  simp

theorem splice2 (rows : Rows2) (spare : List V) {i : Nat} (hi : i < rows.length) (x : Int) : spliceV (cells2 rows ++ spare) (i * 2 + 1) [V.int .i64 x] = cells2 (rows.set i (rows[i].1, x)) ++ spare := by
  have e1 : rows.set i (rows[i].1, x) = rows.take i ++ (rows[i].1, x) :: rows.drop (i + 1) := List.set_eq_take_append_cons_drop .. |>.trans (if_pos hi)
  have e2 : cells2 rows = cells2 (rows.take i) ++ (V.int .i64 rows[i].1 :: V.int .i64 rows[i].2 :: cells2 (rows.drop (i + 1))) := by
    conv => lhs; rw [← List.take_append_drop i rows, cells2_append, List.drop_eq_getElem_cons hi]
    rfl
  have e3 : i * 2 = (cells2 (rows.take i)).length := by rw [cells2_length, List.length_take]; omega
  rw [e1, e2, cells2_append, e3, List.append_assoc]
  rw [List.cons_append, List.cons_append, splice_mid, List.append_assoc]
  rfl

theorem set_getD (rows : Rows2) {i : Nat} (hi : i < rows.length) : rows.getD i (0, 0) = rows[i] := by simp [hi]

/-- An append to a table's list. -/
theorem app_tab {st : St} {tid : Nat} {s : V} {rows : Rows2} (hl : rows.length ≤ 40) (hs : st tid = some (.cells [s])) (hL : TabL st s rows) (a u : Int) {K : V → St → Prop}
    (hK : ∀ s' st2 sid spare, st2 tid = some (.cells [s]) → s' = .hsl sid 0 2 (rows.length + 1) → sid ≠ tid → st2 sid = some (.cells (cells2 (rows ++ [(a, u)]) ++ spare)) → 2 ∣ spare.length → K s' st2) : appS 2 16 s (some ([V.int .i64 a, V.int .i64 u], 1)) st K := by
  rcases hL with ⟨rfl, rfl⟩ | ⟨sid, spare, rfl, h2, h3⟩
  · refine app_nil _ _ (.inl rfl) (by omega) (by omega) ?_
    intro id hid
    have n1 := ne_id hs hid
    exact hK _ _ id [] (by simp [n1, hs]) rfl (fun e => n1 e.symm) (by simp [cells2]) (by simp)
  · have hc := cells2_length rows
    have hne : sid ≠ tid := fun e => by
      subst e
      rw [hs] at h2
      cases rows with
      | nil =>
        simp only [cells2, List.flatMap_nil, List.nil_append, Option.some.injEq, AObj.cells.injEq] at h2
        rw [← h2] at h3
        simp at h3
      | cons r l => simp [cells2] at h2
    have hne' : tid ≠ sid := fun e => hne e.symm
    by_cases hr : spare = []
    · subst hr
      rw [List.append_nil] at h2
      refine app_grow _ _ h2 (by omega) hc (by omega) ?_
      intro id hid
      have n1 : tid ≠ id := fun e => by
        subst e
        simp [hs, hne'] at hid
      exact hK _ _ id [] (by simp [n1, hs, hne']) rfl (fun e => n1 e.symm) (by simp [cells2_append, cells2]) (by simp)
    · have h4 : 2 ≤ spare.length := by
        cases spare with
        | nil => exact absurd rfl hr
        | cons x l => simp at h3 ⊢; omega
      refine app_room _ _ h2 (by omega) (by simp [hc]; omega) ?_
      refine hK _ _ sid (spare.drop 2) (by simp [hs, hne']) rfl hne ?_ (by simp; omega)
      simp only [st_upd, if_true, Option.some.injEq, AObj.cells.injEq]
      unfold spliceV
      rw [Nat.zero_add, ← hc, List.take_left, ← List.drop_drop, List.drop_left, cells2_append]
      rfl

/-- Table.Ban -/
theorem spec14 {st : St} {tid : Nat} {rows : Rows2} (hlen : rows.length ≤ 32) (ht : Tab tid rows st) (a u : Int) : ACalls Try.prog 14 [.ptr (some (tid, 0)), .int .i64 a, .int .i64 u] st fun v st' => v = .tup [] ∧ Tab tid (banM rows a u) st' := by
  refine shows_call mixedP comp14 (by simp [c14]) ?_
  simp [c14]
  refine (spec28 ht a).mono ?_
  rintro v st' ⟨rfl, rfl⟩
  obtain ⟨hl, s, hs, hL⟩ := ht
  simp
  cases hf : findAt rows a with
  | some i =>
    obtain ⟨hi, h1⟩ := findAt_lt hf
    rcases hL with ⟨rfl, rfl⟩ | ⟨sid, spare, rfl, h2, h3⟩
    · simp at hi
    · have hc := cells2_length rows
      have hne : tid ≠ sid := fun e => by
        subst e
        rw [hs] at h2
        cases rows with
        | nil => simp at hi
        | cons r l => simp [cells2] at h2
      have ho : i * 2 + 1 + 1 ≤ rows.length * 2 + spare.length := by omega
      simp [St.seg, segOf, hs, hi, h2, hc, ho, fld2, foldV, max2V, storeS, splice2]
      refine ⟨_, sub_self _, by simpa [banM, hf] using hl, .hsl sid 0 2 rows.length, by simp [hne, hs], .inr ⟨sid, spare, by simp [banM, hf], ?_, h3⟩⟩
      simp [banM, hf, hi]
  | none =>
    simp [St.seg, segOf, hs, fillV, spliceV, repV, elems]
    refine app_tab hl hs hL a u ?_
    intro s' st2 sid spare k1 k2 k3 k4 k5
    subst k2
    have k3' : tid ≠ sid := fun e => k3 e.symm
    simp [storeS, spliceV, k1, k3, k3', k4]
    generalize hst3 : st2.upd tid (.cells [.hsl sid 0 2 (rows.length + 1)]) = st3
    have m1 : st3 tid = some (.cells [.hsl sid 0 2 (rows.length + 1)]) := by rw [← hst3]; simp
    have m2 : st3 sid = some (.cells (cells2 (rows ++ [(a, u)]) ++ spare)) := by rw [← hst3]; simp [k3, k4]
    have hput : banM rows a u = putM rows a u := by simp [banM, hf]
    rw [hput]
    generalize hR : rows ++ [(a, u)] = R at m2
    have hRl : R.length = rows.length + 1 := by rw [← hR]; simp
    have hputR : putM rows a u = if R.length ≤ 32 then R else R.eraseIdx (firstMin R R.length) := by rw [← hR]; rfl
    rw [hputR]
    rw [← hRl] at m1
    clear k1 k4 hst3 hs hL hput hputR
    have hc := cells2_length R
    have hcast : ((rows.length : Int) + 1) = (R.length : Int) := by omega
    rw [← hRl]
    simp [St.seg, segOf, m1]
    by_cases h32 : R.length ≤ 32
    · have h32' : ((R.length : Int) ≤ 32) := by omega
      simp [h32, h32']
      exact ⟨st3, sub_self _, by omega, _, m1, .inr ⟨sid, spare, rfl, m2, k5⟩⟩
    · have h32' : ¬ ((R.length : Int) ≤ 32) := by omega
      simp [h32, h32', St.seg, segOf, m1]
      refine vc_loop (fun k env' st' => ∃ i, i ≤ R.length ∧ k = R.length - i ∧ st' = st3 ∧ env' 55 = .int .i64 i ∧ env' 7 = .int .i64 (firstMin R i)) R.length ⟨0, by omega, by omega, rfl, rfl, rfl⟩ ?_
      rintro k env' st' hsame ⟨i, hi, rfl, rfl, h55, h7⟩
      have h0 : env' 0 = .ptr (some (tid, 0)) := hsame 0 (by decide)
      have h53 : env' 53 = .hsl sid 0 2 R.length := hsame 53 (by decide)
      have h54 : env' 54 = .int .i64 R.length := hsame 54 (by decide)
      have hfl := firstMin_lt R i (by omega) hi
      clear hsame
      have w1 : IntKind.i64.wrap ((firstMin R i : Int) + 1) = (firstMin R i : Int) + 1 := wrap64 (by omega) (by omega)
      have w2 : IntKind.i64.wrap ((i : Int) + 1) = (i : Int) + 1 := wrap64 (by omega) (by omega)
      by_cases hlt : i < R.length
      · have e1 : i * 2 + 2 ≤ R.length * 2 + spare.length := by omega
        have e2 : firstMin R i * 2 + 1 + 1 ≤ R.length * 2 + spare.length := by omega
        have e3 : ((cells2 R ++ spare).drop (i * 2)).take 2 = [V.int .i64 R[i].1, V.int .i64 R[i].2] := by
          rw [List.drop_append_of_le_length (by omega), List.take_append_of_le_length (by rw [List.length_drop]; omega), cells2_at R hlt]
        simp [h0, h53, h54, h55, h7, hlt, St.seg, segOf, m2, hc, e1, e3]
        intro id hid
        have n1 := ne_id m1 hid
        have n2 := ne_id m2 hid
        simp [storeS, spliceV, St.seg, segOf, m1, m2, n1, n2, hc, h0, h7, h55, hfl, e2, fld2 R spare hfl, w2]
        have hsub : St.sub st' (st'.upd id (.cells [V.int .i64 R[i].1, V.int .i64 R[i].2])) := sub_upd hid
        have hfs := firstMin_succ R i
        rw [set_getD R hlt, set_getD R hfl] at hfs
        by_cases hcmp : R[i].2 < (R[firstMin R i]'hfl).2
        · rw [if_pos hcmp] at hfs
          simp [hcmp, h55, w2]
          exact Round.mk (R.length - (i + 1)) st' (by omega) hsub ⟨i + 1, by omega, rfl, rfl, by simp, by simp [hfs]⟩
        · rw [if_neg hcmp] at hfs
          simp [hcmp, h55, h7, w2]
          exact Round.mk (R.length - (i + 1)) st' (by omega) hsub ⟨i + 1, by omega, rfl, rfl, by simp, by simp [hfs, h7]⟩
      · have : i = R.length := by omega
        subst this
        simp [h0, h53, h54, h55, h7, St.seg, segOf, m1, w1]
        refine (spec29 (by omega) m2 hfl).mono ?_
        rintro v st4 ⟨rfl, rfl⟩
        simp [storeS, spliceV, m1, k3, k3']
        have hel := List.length_eraseIdx_of_lt hfl
        refine ⟨_, sub_self _, by omega, .hsl sid 0 2 (R.length - 1), by simp, .inr ⟨sid, _, by rw [hel], by simp [k3]; rfl, by simp; omega⟩⟩
end Go.Proofs.Ytpmfkckookkgmaa
