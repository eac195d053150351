/-
  The functions of ban that look at a table, and slices.Delete.
-/
import Derived.Test.YtpmfkckookkgmaaWBan1
set_option linter.unusedVariables false
set_option linter.unusedSimpArgs false
namespace Go.Proofs.Ytpmfkckookkgmaa
open Go Go.Ab

theorem findAt_lt {rows : Rows2} {a : Int} {i : Nat} (h : findAt rows a = some i) : ∃ hi : i < rows.length, rows[i].1 = a := by
  unfold findAt at h
  rw [List.findIdx?_eq_some_iff_getElem] at h
  obtain ⟨hi, h1, _⟩ := h
  exact ⟨hi, by simpa using h1⟩

/-- Table.Len -/
theorem spec13 {st : St} {tid : Nat} {rows : Rows2} (ht : Tab tid rows st) : ACalls Try.prog 13 [.ptr (some (tid, 0))] st fun v st' => v = .int .i64 rows.length ∧ st' = st := by
  obtain ⟨hl, s, hs, hL⟩ := ht
  refine shows_call mixedP comp13 (by simp [c13]) ?_
  simp [c13, St.seg, segOf, hs]
  rcases hL with ⟨rfl, rfl⟩ | ⟨sid, spare, rfl, h2, h3⟩ <;> simp [sub_self]

def untilM (rows : Rows2) (a : Int) : Option Int := match findAt rows a with | some i => some (rows.getD i (0, 0)).2 | none => none

/-- Table.Until -/
theorem spec15 {st : St} {tid : Nat} {rows : Rows2} (ht : Tab tid rows st) (a : Int) : ACalls Try.prog 15 [.ptr (some (tid, 0)), .int .i64 a] st fun v st' => v = .tup [.int .i64 ((untilM rows a).getD 0), .bool (untilM rows a).isSome] ∧ st' = st := by
  refine shows_call mixedP comp15 (by simp [c15]) ?_
  simp [c15]
  refine (spec28 ht a).mono ?_
  rintro v st' ⟨rfl, rfl⟩
  obtain ⟨hl, s, hs, hL⟩ := ht
  simp
  cases hf : findAt rows a with
  | none => simp [untilM, hf, sub_self]
  | some i =>
    obtain ⟨hi, h1⟩ := findAt_lt hf
    rcases hL with ⟨rfl, rfl⟩ | ⟨sid, spare, rfl, h2, h3⟩
    · simp at hi
    · have hlen := cells2_length rows
      have hc : (cells2 rows ++ spare).drop (i * 2 + 1) = V.int .i64 rows[i].2 :: (cells2 (rows.drop (i + 1)) ++ spare) := by
        rw [List.drop_append_of_le_length (by omega), ← List.drop_drop, cells2_drop, List.drop_eq_getElem_cons hi]
        rfl
      have hg : rows.getD i (0, 0) = rows[i] := by simp [hi]
      have ho : i * 2 + 2 ≤ rows.length * 2 + spare.length := by omega
      simp [St.seg, segOf, hs, hi, h2, hlen, hc, untilM, hf, hg, ho, sub_self]

def bannedM (rows : Rows2) (a now : Int) : Bool := match untilM rows a with | some u => decide (now < u) | none => false

/-- Table.Banned -/
theorem spec17 {st : St} {tid : Nat} {rows : Rows2} (ht : Tab tid rows st) (a now : Int) : ACalls Try.prog 17 [.ptr (some (tid, 0)), .int .i64 a, .int .i64 now] st fun v st' => v = .bool (bannedM rows a now) ∧ st' = st := by
  refine shows_call mixedP comp17 (by simp [c17]) ?_
  simp [c17]
  refine (spec15 ht a).mono ?_
  rintro v st' ⟨rfl, rfl⟩
  simp [extV]
  cases hu : untilM rows a <;> simp [bannedM, hu, sub_self]

/-- slices.Delete of one row. -/
theorem spec29 {st : St} {sid : Nat} {rows : Rows2} {spare : List V} (hl : rows.length ≤ 40) (hs : st sid = some (.cells (cells2 rows ++ spare))) {i : Nat} (hi : i < rows.length) :
    ACalls Try.prog 29 [.hsl sid 0 2 rows.length, .int .i64 i, .int .i64 (i + 1)] st fun v st' => v = .hsl sid 0 2 (rows.length - 1) ∧ st' = st.upd sid (.cells (cells2 (rows.eraseIdx i) ++ ([.int .i64 0, .int .i64 0] ++ spare))) := by
  have hlen := cells2_length rows
  have hne : ((i : Int) == i + 1) = false := by simp; omega
  have g1 : i ≤ rows.length := by omega
  have g2 : i + 1 ≤ rows.length := by omega
  refine shows_call mixedP comp29 (by simp [c29]) ?_
  simp [c29, chk3V, hne, g1, g2, slV, bounds]
  have hel : elems st 2 (.hsl sid ((i + 1) * 2) 2 (rows.length - (i + 1))) = some (cells2 (rows.drop (i + 1)), rows.length - (i + 1)) := by
    have e1 : (i + 1) * 2 + (rows.length - (i + 1)) * 2 ≤ (cells2 rows ++ spare).length := by simp [hlen]; omega
    simp only [elems, if_true, St.seg, hs, segOf, if_pos e1, Option.map_some]
    congr 2
    rw [List.drop_append_of_le_length (by omega), cells2_drop, List.take_append_of_le_length (by rw [cells2_length]; simp), List.take_of_length_le (by rw [cells2_length]; simp)]
  rw [hel]
  refine app_room _ _ hs (by omega) (by simp [hlen]; omega) ?_
  have hsub : i + (rows.length - (i + 1)) = rows.length - 1 := by omega
  have hlt : ((rows.length - 1 : Nat) : Int) = (rows.length : Int) - 1 := by omega
  have hspl : spliceV (cells2 rows ++ spare) (0 + i * 2) (cells2 (rows.drop (i + 1))) = cells2 (rows.eraseIdx i) ++ ((cells2 (rows.drop (rows.length - 1))) ++ spare) := by
    unfold spliceV
    rw [Nat.zero_add, List.take_append_of_le_length (by omega), cells2_take, cells2_length, List.length_drop, List.eraseIdx_eq_take_drop_succ, cells2_append]
    rw [show i * 2 + (rows.length - (i + 1)) * 2 = (rows.length - 1) * 2 by omega, List.drop_append_of_le_length (by omega), cells2_drop, List.append_assoc]
  have hel2 : (cells2 (rows.eraseIdx i)).length = (rows.length - 1) * 2 := by rw [cells2_length, List.length_eraseIdx_of_lt hi]
  have hd1 : (cells2 (rows.drop (rows.length - 1))).length = 2 := by rw [cells2_length, List.length_drop]; omega
  rw [hspl, hsub]
  have c1 : rows.length * 2 ≤ (rows.length - 1) * 2 + (2 + spare.length) := by omega
  have c2 : rows.length - (rows.length - 1) = 1 := by omega
  simp [slwV, hel2, hd1, c1, c2]
  refine clear_hsl _ _ (by simp; rfl) rfl (by simp [hel2, hd1]) ?_
  have hspl2 : spliceV (cells2 (rows.eraseIdx i) ++ (cells2 (rows.drop (rows.length - 1)) ++ spare)) ((rows.length - 1) * 2) (repV [V.int .i64 0, V.int .i64 0] 1) = cells2 (rows.eraseIdx i) ++ V.int .i64 0 :: V.int .i64 0 :: spare := by
    unfold spliceV
    rw [← hel2, List.take_left]
    have : (cells2 (rows.eraseIdx i)).length + (repV [V.int .i64 0, V.int .i64 0] 1).length = (cells2 (rows.eraseIdx i) ++ cells2 (rows.drop (rows.length - 1))).length := by simp [repV, hd1]
    rw [this, ← List.append_assoc, List.drop_left]
    simp [repV]
  simp [hspl2]
end Go.Proofs.Ytpmfkckookkgmaa
