/-
  The functions of ban: what each does to a table, told by a list of pairs.
-/
import Derived.Test.YtpmfkckookkgmaaWBan0
import Derived.Test.YtpmfkckookkgmaaAbSep
set_option linter.unusedVariables false
set_option linter.unusedSimpArgs false
namespace Go.Proofs.Ytpmfkckookkgmaa
open Go Go.Ab

abbrev Rows2 := List (Int × Int)
def cells2 (rows : Rows2) : List V := rows.flatMap fun r => [V.int .i64 r.1, V.int .i64 r.2]

theorem cells2_length : ∀ rows : Rows2, (cells2 rows).length = rows.length * 2
  | [] => rfl
  | r :: l => by
    have := cells2_length l
    simp only [cells2, List.flatMap_cons, List.length_append, List.length_cons, List.length_nil] at this ⊢
    omega

theorem cells2_append (a b : Rows2) : cells2 (a ++ b) = cells2 a ++ cells2 b := by simp [cells2]

theorem cells2_drop : ∀ (i : Nat) (rows : Rows2), (cells2 rows).drop (i * 2) = cells2 (rows.drop i)
  | 0, rows => by simp
  | i + 1, [] => by simp [cells2]
  | i + 1, r :: l => by
    have := cells2_drop i l
    rw [show (i + 1) * 2 = i * 2 + 1 + 1 by omega]
    simp only [cells2, List.flatMap_cons, List.cons_append, List.nil_append, List.drop_succ_cons] at this ⊢
    exact this

theorem cells2_take : ∀ (i : Nat) (rows : Rows2), (cells2 rows).take (i * 2) = cells2 (rows.take i)
  | 0, rows => by simp [cells2]
  | i + 1, [] => by simp [cells2]
  | i + 1, r :: l => by
    have := cells2_take i l
    rw [show (i + 1) * 2 = i * 2 + 1 + 1 by omega]
    simp only [cells2, List.flatMap_cons, List.cons_append, List.nil_append, List.take_succ_cons] at this ⊢
    rw [this]

theorem cells2_at (rows : Rows2) {i : Nat} (h : i < rows.length) : ((cells2 rows).drop (i * 2)).take 2 = [V.int .i64 rows[i].1, V.int .i64 rows[i].2] := by
  rw [cells2_drop, List.drop_eq_getElem_cons h]
  rfl

/-- A table's list: which cells it has. -/
def TabL (h : St) (s : V) (rows : Rows2) : Prop :=
  (s = .sl .nil [] 0 ∧ rows = []) ∨ ∃ sid spare, s = .hsl sid 0 2 rows.length ∧ h sid = some (.cells (cells2 rows ++ spare)) ∧ 2 ∣ spare.length

/-- A table at a place: its rows. -/
def Tab (tid : Nat) (rows : Rows2) : Asn := fun h => rows.length ≤ 40 ∧ ∃ s, h tid = some (.cells [s]) ∧ TabL h s rows

theorem TabL.seg {h : St} {sid : Nat} {rows : Rows2} {spare : List V} (hs : h sid = some (.cells (cells2 rows ++ spare))) : h.seg sid 0 (rows.length * 2) = some (cells2 rows) := by
  have := cells2_length rows
  simp [St.seg, hs, segOf, this]

def findAt (rows : Rows2) (a : Int) : Option Nat := rows.findIdx? fun r => r.1 == a

theorem findIdx_some {rows : Rows2} {p : Int × Int → Bool} {i : Nat} (hi : i < rows.length) (h1 : p rows[i] = true) (h2 : ∀ j, (hj : j < i) → p (rows[j]'(by omega)) = false) : rows.findIdx? p = some i := by
  rw [List.findIdx?_eq_some_iff_getElem]
  exact ⟨hi, h1, fun j hj => by simpa using h2 j hj⟩

theorem findIdx_none {rows : Rows2} {p : Int × Int → Bool} (h : ∀ j, (hj : j < rows.length) → p rows[j] = false) : rows.findIdx? p = none := by
  rw [List.findIdx?_eq_none_iff]
  intro x hx
  obtain ⟨j, hj, rfl⟩ := List.getElem_of_mem hx
  exact h j hj

theorem okFn36 : okFn Try.prog 36 = true := by kernel_rfl
theorem okFn31 : okFn Try.prog 31 = true := by kernel_rfl

/-- slices.IndexFunc over a table's list. -/
theorem index_spec {st : St} {s : V} {rows : Rows2} (hl : rows.length ≤ 40) (hs : TabL st s rows) {fid : FuncId} {cap : List V} (p : Int × Int → Bool) (hok : okFn Try.prog fid = true)
    (hp : ∀ r : Int × Int, ACalls Try.prog fid (.agg [.int .i64 r.1, .int .i64 r.2] :: cap) st fun v st' => v = .bool (p r) ∧ st' = st) :
    ACalls Try.prog 35 [s, .func fid cap] st fun v st' => v = .int .i64 (match rows.findIdx? p with | some i => (i : Int) | none => -1) ∧ st' = st := by
  rcases hs with ⟨rfl, rfl⟩ | ⟨sid, spare, rfl, hsid, hsp⟩
  · refine shows_call mixedP comp35 (by simp [c35]) ?_
    simp [c35]
    refine vc_loop (fun k env' st' => k = 0 ∧ st' = st ∧ env' 8 = .int .i64 0) 0 ⟨rfl, rfl, rfl⟩ ?_
    rintro k env' st' hsame ⟨rfl, rfl, h8⟩
    have h7 : env' 7 = .int .i64 0 := hsame 7 (by decide)
    simp [h7, h8, sub_self]
  · refine (spec35 st (cells2 rows) rows.length (by omega) sid 0 (TabL.seg hsid) _ (fun i => if h : i < rows.length then p rows[i] else false) fid cap rfl hok fun i hi => ?_).mono ?_
    · rw [cells2_at rows hi]
      simpa [hi] using hp rows[i]
    · rintro v st' (⟨i, hi, h1, h2, rfl, rfl⟩ | ⟨h1, rfl, rfl⟩)
      · have := findIdx_some (p := p) hi (by simpa [hi] using h1) (fun j hj => by have := h2 j hj; rwa [dif_pos (by omega)] at this)
        simp [this]
      · have := findIdx_none (rows := rows) (p := p) (fun j hj => by have := h1 j hj; rwa [dif_pos hj] at this)
        simp [this]

/-- Table.at -/
theorem spec28 {st : St} {tid : Nat} {rows : Rows2} (ht : Tab tid rows st) (a : Int) :
    ACalls Try.prog 28 [.ptr (some (tid, 0)), .int .i64 a] st fun v st' => v = .int .i64 (match findAt rows a with | some i => (i : Int) | none => -1) ∧ st' = st := by
  obtain ⟨hl, s, hs, hL⟩ := ht
  refine shows_call mixedP comp28 (by simp [c28]) ?_
  simp [c28]
  intro id hid
  have n1 := ne_id hs hid
  simp [St.seg, segOf, hs, n1]
  refine (index_spec (rows := rows) hl (s := s) ?_ (fun r => r.1 == a) okFn36 (fun r => spec36 _ id _ _ a (by simp))).mono ?_
  · rcases hL with h | ⟨sid, spare, h1, h2, h3⟩
    · exact .inl h
    · exact .inr ⟨sid, spare, h1, by simp [ne_id h2 hid, h2], h3⟩
  · rintro v st' ⟨rfl, rfl⟩
    simp [findAt, sub_upd hid]
end Go.Proofs.Ytpmfkckookkgmaa
