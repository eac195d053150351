/-
  The functions of ban: what each does to a table, told by a list of pairs.
-/
import Derived.Test.YtpmfkckookkgmaaAbCoBan
import Derived.Test.YtpmfkckookkgmaaAbSep
set_option linter.unusedVariables false
set_option linter.unusedSimpArgs false
namespace Go.Ab
open Go
section
variable {P : Program} {F : Fn}

theorem spec36 (ok : OkBan P F) (st : St) (bid : Nat) (a u x : Int) (h : st bid = some (.cells [.int .i64 x])) : ACalls P (F 36) [.agg [.int .i64 a, .int .i64 u], .ptr (some (bid,0))] st (fun v st' => v = .bool (a == x) ∧ st' = st) := by
  refine shows_call ok.mixed ok.h36 (by simp [k36]) ?_
  simp [k36]
  intro id hid
  have n1 := ne_id h hid
  simp [St.seg, segOf, h, n1, sub_upd hid]

theorem spec31 (ok : OkBan P F) (st : St) (bid : Nat) (a u x : Int) (h : st bid = some (.cells [.int .i64 x])) : ACalls P (F 31) [.agg [.int .i64 a, .int .i64 u], .ptr (some (bid,0))] st (fun v st' => v = .bool (decide (u ≤ x)) ∧ st' = st) := by
  refine shows_call ok.mixed ok.h31 (by simp [k31]) ?_
  simp [k31]
  intro id hid
  have n1 := ne_id h hid
  simp [St.seg, segOf, h, n1, sub_upd hid]

theorem spec35 (ok : OkBan P F) (st : St) (rows : List V) (n : Nat) (hn : n < 2 ^ 62) (id off : Nat) (hs : st.seg id off (n * 2) = some rows) (fv : V) (p : Nat → Bool) (fid : FuncId) (cap : List V) (hfv : fv = .func fid cap) (hok : okFn P fid = true)
    (hp : ∀ i, i < n → ACalls P fid (.agg ((rows.drop (i * 2)).take 2) :: cap) st fun v st' => v = .bool (p i) ∧ st' = st) :
    ACalls P (F 35) [.hsl id off 2 n, fv] st fun v st' => (∃ i, i < n ∧ p i = true ∧ (∀ j, j < i → p j = false) ∧ v = .int .i64 i ∧ st' = st) ∨ ((∀ j, j < n → p j = false) ∧ v = .int .i64 (-1) ∧ st' = st) := by
  subst hfv
  refine shows_call ok.mixed ok.h35 (by simp [k35]) ?_
  simp [k35]
  refine vc_loop (fun k env' st' => ∃ i, i ≤ n ∧ k = n - i ∧ st' = st ∧ env' 8 = .int .i64 i ∧ (∀ j, j < i → p j = false)) n ⟨0, by omega, by omega, rfl, rfl, by simp⟩ ?_
  rintro k env' st' hsame ⟨i, hi, rfl, rfl, h8, hp0⟩
  have h0 : env' 0 = .hsl id off 2 n := hsame 0 (by decide)
  have h1 : env' 1 = .func fid cap := hsame 1 (by decide)
  have h7 : env' 7 = .int .i64 n := hsame 7 (by decide)
  by_cases hlt : i < n
  · simp [h0, h1, h7, h8, hlt, seg_at hs hlt, hok]
    refine (hp i hlt).mono ?_
    rintro v s ⟨rfl, rfl⟩
    simp
    cases hpi : p i
    · simp [h8, wrap64 (x := (i : Int) + 1) (by omega) (by omega)]
      refine Round.mk (n - (i + 1)) _ (by omega) (sub_self _) ⟨i + 1, by omega, rfl, rfl, by simp, fun j hj => ?_⟩
      by_cases e : j = i
      · subst e; exact hpi
      · exact hp0 j (by omega)
    · simp
      exact ⟨_, sub_self _, i, hlt, hpi, hp0, rfl, rfl⟩
  · have : i = n := by omega
    subst this
    simp [h0, h1, h7, h8]
    exact hp0

abbrev Rows2 := List (Int × Int)
def cells2 (rows : Rows2) : List V := rows.flatMap fun r => [V.int .i64 r.1, V.int .i64 r.2]

theorem cells2_length : ∀ rows : Rows2, (cells2 rows).length = rows.length * 2
  | [] => rfl
  | r :: l => by
    have := cells2_length l
    simp only [cells2, List.flatMap_cons, List.length_append, List.length_cons, List.length_nil] at this ⊢
    omega

theorem cells2_append (a b : Rows2) : cells2 (a ++ b) = cells2 a ++ cells2 b := by simp [cells2]

theorem cells2_drop : ∀ (i : Nat) (rows : Rows2), (cells2 rows).drop (i * 2) = cells2 (rows.drop i)
  | 0, rows => by simp
  | i + 1, [] => by simp [cells2]
  | i + 1, r :: l => by
    have := cells2_drop i l
    rw [show (i + 1) * 2 = i * 2 + 1 + 1 by omega]
    simp only [cells2, List.flatMap_cons, List.cons_append, List.nil_append, List.drop_succ_cons] at this ⊢
    exact this

theorem cells2_take : ∀ (i : Nat) (rows : Rows2), (cells2 rows).take (i * 2) = cells2 (rows.take i)
  | 0, rows => by simp [cells2]
  | i + 1, [] => by simp [cells2]
  | i + 1, r :: l => by
    have := cells2_take i l
    rw [show (i + 1) * 2 = i * 2 + 1 + 1 by omega]
    simp only [cells2, List.flatMap_cons, List.cons_append, List.nil_append, List.take_succ_cons] at this ⊢
    rw [this]

theorem cells2_at (rows : Rows2) {i : Nat} (h : i < rows.length) : ((cells2 rows).drop (i * 2)).take 2 = [V.int .i64 rows[i].1, V.int .i64 rows[i].2] := by
  rw [cells2_drop, List.drop_eq_getElem_cons h]
  rfl

/-- A table's list: which cells it has. -/
def TabL (h : St) (s : V) (rows : Rows2) : Prop :=
  (s = .sl .nil [] 0 ∧ rows = []) ∨ ∃ sid spare, s = .hsl sid 0 2 rows.length ∧ h sid = some (.cells (cells2 rows ++ spare)) ∧ 2 ∣ spare.length

/-- A table at a place: its rows. -/
def Tab (tid : Nat) (rows : Rows2) : Asn := fun h => rows.length ≤ 40 ∧ ∃ s, h tid = some (.cells [s]) ∧ TabL h s rows

theorem TabL.seg {h : St} {sid : Nat} {rows : Rows2} {spare : List V} (hs : h sid = some (.cells (cells2 rows ++ spare))) : h.seg sid 0 (rows.length * 2) = some (cells2 rows) := by
  have := cells2_length rows
  simp [St.seg, hs, segOf, this]

def findAt (rows : Rows2) (a : Int) : Option Nat := rows.findIdx? fun r => r.1 == a

theorem findIdx_some {rows : Rows2} {p : Int × Int → Bool} {i : Nat} (hi : i < rows.length) (h1 : p rows[i] = true) (h2 : ∀ j, (hj : j < i) → p (rows[j]'(by omega)) = false) : rows.findIdx? p = some i := by
  rw [List.findIdx?_eq_some_iff_getElem]
  exact ⟨hi, h1, fun j hj => by simpa using h2 j hj⟩

theorem findIdx_none {rows : Rows2} {p : Int × Int → Bool} (h : ∀ j, (hj : j < rows.length) → p rows[j] = false) : rows.findIdx? p = none := by
  rw [List.findIdx?_eq_none_iff]
  intro x hx
  obtain ⟨j, hj, rfl⟩ := List.getElem_of_mem hx
  exact h j hj


/-- slices.IndexFunc over a table's list. -/
theorem index_spec (ok : OkBan P F) {st : St} {s : V} {rows : Rows2} (hl : rows.length ≤ 40) (hs : TabL st s rows) {fid : FuncId} {cap : List V} (p : Int × Int → Bool) (hok : okFn P fid = true)
    (hp : ∀ r : Int × Int, ACalls P fid (.agg [.int .i64 r.1, .int .i64 r.2] :: cap) st fun v st' => v = .bool (p r) ∧ st' = st) :
    ACalls P (F 35) [s, .func fid cap] st fun v st' => v = .int .i64 (match rows.findIdx? p with | some i => (i : Int) | none => -1) ∧ st' = st := by
  rcases hs with ⟨rfl, rfl⟩ | ⟨sid, spare, rfl, hsid, hsp⟩
  · refine shows_call ok.mixed ok.h35 (by simp [k35]) ?_
    simp [k35]
    refine vc_loop (fun k env' st' => k = 0 ∧ st' = st ∧ env' 8 = .int .i64 0) 0 ⟨rfl, rfl, rfl⟩ ?_
    rintro k env' st' hsame ⟨rfl, rfl, h8⟩
    have h7 : env' 7 = .int .i64 0 := hsame 7 (by decide)
    simp [h7, h8, sub_self]
  · refine (spec35 ok st (cells2 rows) rows.length (by omega) sid 0 (TabL.seg hsid) _ (fun i => if h : i < rows.length then p rows[i] else false) fid cap rfl hok fun i hi => ?_).mono ?_
    · rw [cells2_at rows hi]
      simpa [hi] using hp rows[i]
    · rintro v st' (⟨i, hi, h1, h2, rfl, rfl⟩ | ⟨h1, rfl, rfl⟩)
      · have := findIdx_some (p := p) hi (by simpa [hi] using h1) (fun j hj => by have := h2 j hj; rwa [dif_pos (by omega)] at this)
        simp [this]
      · have := findIdx_none (rows := rows) (p := p) (fun j hj => by have := h1 j hj; rwa [dif_pos hj] at this)
        simp [this]

/-- Table.at -/
theorem spec28 (ok : OkBan P F) {st : St} {tid : Nat} {rows : Rows2} (ht : Tab tid rows st) (a : Int) :
    ACalls P (F 28) [.ptr (some (tid, 0)), .int .i64 a] st fun v st' => v = .int .i64 (match findAt rows a with | some i => (i : Int) | none => -1) ∧ st' = st := by
  obtain ⟨hl, s, hs, hL⟩ := ht
  refine shows_call ok.mixed ok.h28 (by simp [k28]) ?_
  simp [k28]
  intro id hid
  have n1 := ne_id hs hid
  simp [St.seg, segOf, hs, n1]
  refine (index_spec ok (rows := rows) hl (s := s) ?_ (fun r => r.1 == a) ok.ok36 (fun r => spec36 ok _ id _ _ a (by simp))).mono ?_
  · rcases hL with h | ⟨sid, spare, h1, h2, h3⟩
    · exact .inl h
    · exact .inr ⟨sid, spare, h1, by simp [ne_id h2 hid, h2], h3⟩
  · rintro v st' ⟨rfl, rfl⟩
    simp [findAt, sub_upd hid]

theorem findAt_lt {rows : Rows2} {a : Int} {i : Nat} (h : findAt rows a = some i) : ∃ hi : i < rows.length, rows[i].1 = a := by
  unfold findAt at h
  rw [List.findIdx?_eq_some_iff_getElem] at h
  obtain ⟨hi, h1, _⟩ := h
  exact ⟨hi, by simpa using h1⟩

/-- Table.Len -/
theorem spec13 (ok : OkBan P F) {st : St} {tid : Nat} {rows : Rows2} (ht : Tab tid rows st) : ACalls P (F 13) [.ptr (some (tid, 0))] st fun v st' => v = .int .i64 rows.length ∧ st' = st := by
  obtain ⟨hl, s, hs, hL⟩ := ht
  refine shows_call ok.mixed ok.h13 (by simp [k13]) ?_
  simp [k13, St.seg, segOf, hs]
  rcases hL with ⟨rfl, rfl⟩ | ⟨sid, spare, rfl, h2, h3⟩ <;> simp [sub_self]

def untilM (rows : Rows2) (a : Int) : Option Int := match findAt rows a with | some i => some (rows.getD i (0, 0)).2 | none => none

/-- Table.Until -/
theorem spec15 (ok : OkBan P F) {st : St} {tid : Nat} {rows : Rows2} (ht : Tab tid rows st) (a : Int) : ACalls P (F 15) [.ptr (some (tid, 0)), .int .i64 a] st fun v st' => v = .tup [.int .i64 ((untilM rows a).getD 0), .bool (untilM rows a).isSome] ∧ st' = st := by
  refine shows_call ok.mixed ok.h15 (by simp [k15]) ?_
  simp [k15]
  refine (spec28 ok ht a).mono ?_
  rintro v st' ⟨rfl, rfl⟩
  obtain ⟨hl, s, hs, hL⟩ := ht
  simp
  cases hf : findAt rows a with
  | none => simp [untilM, hf, sub_self]
  | some i =>
    obtain ⟨hi, h1⟩ := findAt_lt hf
    rcases hL with ⟨rfl, rfl⟩ | ⟨sid, spare, rfl, h2, h3⟩
    · simp at hi
    · have hlen := cells2_length rows
      have hc : (cells2 rows ++ spare).drop (i * 2 + 1) = V.int .i64 rows[i].2 :: (cells2 (rows.drop (i + 1)) ++ spare) := by
        rw [List.drop_append_of_le_length (by omega), ← List.drop_drop, cells2_drop, List.drop_eq_getElem_cons hi]
        rfl
      have hg : rows.getD i (0, 0) = rows[i] := by simp [hi]
      have ho : i * 2 + 2 ≤ rows.length * 2 + spare.length := by omega
      simp [St.seg, segOf, hs, hi, h2, hlen, hc, untilM, hf, hg, ho, sub_self]

def bannedM (rows : Rows2) (a now : Int) : Bool := match untilM rows a with | some u => decide (now < u) | none => false

/-- Table.Banned -/
theorem spec17 (ok : OkBan P F) {st : St} {tid : Nat} {rows : Rows2} (ht : Tab tid rows st) (a now : Int) : ACalls P (F 17) [.ptr (some (tid, 0)), .int .i64 a, .int .i64 now] st fun v st' => v = .bool (bannedM rows a now) ∧ st' = st := by
  refine shows_call ok.mixed ok.h17 (by simp [k17]) ?_
  simp [k17]
  refine (spec15 ok ht a).mono ?_
  rintro v st' ⟨rfl, rfl⟩
  simp [extV]
  cases hu : untilM rows a <;> simp [bannedM, hu, sub_self]

/-- slices.Delete of one row. -/
theorem spec29 (ok : OkBan P F) {st : St} {sid : Nat} {rows : Rows2} {spare : List V} (hl : rows.length ≤ 40) (hs : st sid = some (.cells (cells2 rows ++ spare))) {i : Nat} (hi : i < rows.length) :
    ACalls P (F 29) [.hsl sid 0 2 rows.length, .int .i64 i, .int .i64 (i + 1)] st fun v st' => v = .hsl sid 0 2 (rows.length - 1) ∧ st' = st.upd sid (.cells (cells2 (rows.eraseIdx i) ++ ([.int .i64 0, .int .i64 0] ++ spare))) := by
  have hlen := cells2_length rows
  have hne : ((i : Int) == i + 1) = false := by simp; omega
  have g1 : i ≤ rows.length := by omega
  have g2 : i + 1 ≤ rows.length := by omega
  refine shows_call ok.mixed ok.h29 (by simp [k29]) ?_
  simp [k29, chk3V, hne, g1, g2, slV, bounds]
  have hel : elems st 2 (.hsl sid ((i + 1) * 2) 2 (rows.length - (i + 1))) = some (cells2 (rows.drop (i + 1)), rows.length - (i + 1)) := by
    have e1 : (i + 1) * 2 + (rows.length - (i + 1)) * 2 ≤ (cells2 rows ++ spare).length := by simp [hlen]; omega
    simp only [elems, if_true, St.seg, hs, segOf, if_pos e1, Option.map_some]
    congr 2
    rw [List.drop_append_of_le_length (by omega), cells2_drop, List.take_append_of_le_length (by rw [cells2_length]; simp), List.take_of_length_le (by rw [cells2_length]; simp)]
  rw [hel]
  refine app_room _ _ hs (by omega) (by simp [hlen]; omega) ?_
  have hsub : i + (rows.length - (i + 1)) = rows.length - 1 := by omega
  have hlt : ((rows.length - 1 : Nat) : Int) = (rows.length : Int) - 1 := by omega
  have hspl : spliceV (cells2 rows ++ spare) (0 + i * 2) (cells2 (rows.drop (i + 1))) = cells2 (rows.eraseIdx i) ++ ((cells2 (rows.drop (rows.length - 1))) ++ spare) := by
    unfold spliceV
    rw [Nat.zero_add, List.take_append_of_le_length (by omega), cells2_take, cells2_length, List.length_drop, List.eraseIdx_eq_take_drop_succ, cells2_append]
    rw [show i * 2 + (rows.length - (i + 1)) * 2 = (rows.length - 1) * 2 by omega, List.drop_append_of_le_length (by omega), cells2_drop, List.append_assoc]
  have hel2 : (cells2 (rows.eraseIdx i)).length = (rows.length - 1) * 2 := by rw [cells2_length, List.length_eraseIdx_of_lt hi]
  have hd1 : (cells2 (rows.drop (rows.length - 1))).length = 2 := by rw [cells2_length, List.length_drop]; omega
  rw [hspl, hsub]
  have c1 : rows.length * 2 ≤ (rows.length - 1) * 2 + (2 + spare.length) := by omega
  have c2 : rows.length - (rows.length - 1) = 1 := by omega
  simp [slwV, hel2, hd1, c1, c2]
  refine clear_hsl _ _ (by simp; rfl) rfl (by simp [hel2, hd1]) ?_
  have hspl2 : spliceV (cells2 (rows.eraseIdx i) ++ (cells2 (rows.drop (rows.length - 1)) ++ spare)) ((rows.length - 1) * 2) (repV [V.int .i64 0, V.int .i64 0] 1) = cells2 (rows.eraseIdx i) ++ V.int .i64 0 :: V.int .i64 0 :: spare := by
    unfold spliceV
    rw [← hel2, List.take_left]
    have : (cells2 (rows.eraseIdx i)).length + (repV [V.int .i64 0, V.int .i64 0] 1).length = (cells2 (rows.eraseIdx i) ++ cells2 (rows.drop (rows.length - 1))).length := by simp [repV, hd1]
    rw [this, ← List.append_assoc, List.drop_left]
    simp [repV]
  simp [hspl2]

/-- The place of the first of those that are free first. -/
def firstMin (r : Rows2) (k : Nat) : Nat := (List.range k).foldl (fun f i => if (r.getD i (0, 0)).2 < (r.getD f (0, 0)).2 then i else f) 0

theorem firstMin_succ (r : Rows2) (k : Nat) : firstMin r (k + 1) = if (r.getD k (0, 0)).2 < (r.getD (firstMin r k) (0, 0)).2 then k else firstMin r k := by
  simp [firstMin, List.range_succ]

theorem firstMin_lt (r : Rows2) : ∀ k, 0 < r.length → k ≤ r.length → firstMin r k < r.length
  | 0, h, _ => by simpa [firstMin] using h
  | k + 1, h, hk => by
    rw [firstMin_succ]
    split
    · omega
    · exact firstMin_lt r k h (by omega)

def putM (rows : Rows2) (a u : Int) : Rows2 :=
  if (rows ++ [(a, u)]).length ≤ 32 then rows ++ [(a, u)] else (rows ++ [(a, u)]).eraseIdx (firstMin (rows ++ [(a, u)]) (rows ++ [(a, u)]).length)

def banM (rows : Rows2) (a u : Int) : Rows2 :=
  match findAt rows a with
  | some i => rows.set i ((rows.getD i (0, 0)).1, max u (rows.getD i (0, 0)).2)
  | none => putM rows a u

theorem fld2 (rows : Rows2) (spare : List V) {i : Nat} (hi : i < rows.length) : ((cells2 rows ++ spare).drop (i * 2 + 1)).take 1 = [V.int .i64 rows[i].2] := by
  have hlen := cells2_length rows
  rw [List.drop_append_of_le_length (by omega), ← List.drop_drop, cells2_drop, List.drop_eq_getElem_cons hi]
  rfl

theorem splice_mid (A B : List V) (x y z : V) : spliceV (A ++ x :: y :: B) (A.length + 1) [z] = A ++ x :: z :: B := by
  have e : A ++ x :: y :: B = (A ++ [x]) ++ (y :: B) := by simp
  have l : A.length + 1 = (A ++ [x]).length := by simp
  unfold spliceV
  rw [e, l, List.take_left, ← List.drop_drop, List.drop_left]
  simp

theorem splice2 (rows : Rows2) (spare : List V) {i : Nat} (hi : i < rows.length) (x : Int) : spliceV (cells2 rows ++ spare) (i * 2 + 1) [V.int .i64 x] = cells2 (rows.set i (rows[i].1, x)) ++ spare := by
  have e1 : rows.set i (rows[i].1, x) = rows.take i ++ (rows[i].1, x) :: rows.drop (i + 1) := List.set_eq_take_append_cons_drop .. |>.trans (if_pos hi)
  have e2 : cells2 rows = cells2 (rows.take i) ++ (V.int .i64 rows[i].1 :: V.int .i64 rows[i].2 :: cells2 (rows.drop (i + 1))) := by
    conv => lhs; rw [← List.take_append_drop i rows, cells2_append, List.drop_eq_getElem_cons hi]
    rfl
  have e3 : i * 2 = (cells2 (rows.take i)).length := by rw [cells2_length, List.length_take]; omega
  rw [e1, e2, cells2_append, e3, List.append_assoc]
  rw [List.cons_append, List.cons_append, splice_mid, List.append_assoc]
  rfl

theorem set_getD (rows : Rows2) {i : Nat} (hi : i < rows.length) : rows.getD i (0, 0) = rows[i] := by simp [hi]

/-- An append to a table's list. -/
theorem app_tab {st : St} {tid : Nat} {s : V} {rows : Rows2} (hl : rows.length ≤ 40) (hs : st tid = some (.cells [s])) (hL : TabL st s rows) (a u : Int) {K : V → St → Prop}
    (hK : ∀ s' st2 sid spare, st2 tid = some (.cells [s]) → s' = .hsl sid 0 2 (rows.length + 1) → sid ≠ tid → st2 sid = some (.cells (cells2 (rows ++ [(a, u)]) ++ spare)) → 2 ∣ spare.length → K s' st2) : appS 2 16 s (some ([V.int .i64 a, V.int .i64 u], 1)) st K := by
  rcases hL with ⟨rfl, rfl⟩ | ⟨sid, spare, rfl, h2, h3⟩
  · refine app_nil _ _ (.inl rfl) (by omega) (by omega) ?_
    intro id hid
    have n1 := ne_id hs hid
    exact hK _ _ id [] (by simp [n1, hs]) rfl (fun e => n1 e.symm) (by simp [cells2]) (by simp)
  · have hc := cells2_length rows
    have hne : sid ≠ tid := fun e => by
      subst e
      rw [hs] at h2
      cases rows with
      | nil =>
        simp only [cells2, List.flatMap_nil, List.nil_append, Option.some.injEq, AObj.cells.injEq] at h2
        rw [← h2] at h3
        simp at h3
      | cons r l => simp [cells2] at h2
    have hne' : tid ≠ sid := fun e => hne e.symm
    by_cases hr : spare = []
    · subst hr
      rw [List.append_nil] at h2
      refine app_grow _ _ h2 (by omega) hc (by omega) ?_
      intro id hid
      have n1 : tid ≠ id := fun e => by
        subst e
        simp [hs, hne'] at hid
      exact hK _ _ id [] (by simp [n1, hs, hne']) rfl (fun e => n1 e.symm) (by simp [cells2_append, cells2]) (by simp)
    · have h4 : 2 ≤ spare.length := by
        cases spare with
        | nil => exact absurd rfl hr
        | cons x l => simp at h3 ⊢; omega
      refine app_room _ _ h2 (by omega) (by simp [hc]; omega) ?_
      refine hK _ _ sid (spare.drop 2) (by simp [hs, hne']) rfl hne ?_ (by simp; omega)
      simp only [st_upd, if_true, Option.some.injEq, AObj.cells.injEq]
      unfold spliceV
      rw [Nat.zero_add, ← hc, List.take_left, ← List.drop_drop, List.drop_left, cells2_append]
      rfl

/-- Table.Ban -/
theorem spec14 (ok : OkBan P F) {st : St} {tid : Nat} {rows : Rows2} (hlen : rows.length ≤ 32) (ht : Tab tid rows st) (a u : Int) : ACalls P (F 14) [.ptr (some (tid, 0)), .int .i64 a, .int .i64 u] st fun v st' => v = .tup [] ∧ Tab tid (banM rows a u) st' := by
  refine shows_call ok.mixed ok.h14 (by simp [k14]) ?_
  simp [k14]
  refine (spec28 ok ht a).mono ?_
  rintro v st' ⟨rfl, rfl⟩
  obtain ⟨hl, s, hs, hL⟩ := ht
  simp
  cases hf : findAt rows a with
  | some i =>
    obtain ⟨hi, h1⟩ := findAt_lt hf
    rcases hL with ⟨rfl, rfl⟩ | ⟨sid, spare, rfl, h2, h3⟩
    · simp at hi
    · have hc := cells2_length rows
      have hne : tid ≠ sid := fun e => by
        subst e
        rw [hs] at h2
        cases rows with
        | nil => simp at hi
        | cons r l => simp [cells2] at h2
      have ho : i * 2 + 1 + 1 ≤ rows.length * 2 + spare.length := by omega
      simp [St.seg, segOf, hs, hi, h2, hc, ho, fld2, foldV, max2V, storeS, splice2]
      refine ⟨_, sub_self _, by simpa [banM, hf] using hl, .hsl sid 0 2 rows.length, by simp [hne, hs], .inr ⟨sid, spare, by simp [banM, hf], ?_, h3⟩⟩
      simp [banM, hf, hi]
  | none =>
    simp [St.seg, segOf, hs, fillV, spliceV, repV, elems]
    refine app_tab hl hs hL a u ?_
    intro s' st2 sid spare k1 k2 k3 k4 k5
    subst k2
    have k3' : tid ≠ sid := fun e => k3 e.symm
    simp [storeS, spliceV, k1, k3, k3', k4]
    generalize hst3 : st2.upd tid (.cells [.hsl sid 0 2 (rows.length + 1)]) = st3
    have m1 : st3 tid = some (.cells [.hsl sid 0 2 (rows.length + 1)]) := by rw [← hst3]; simp
    have m2 : st3 sid = some (.cells (cells2 (rows ++ [(a, u)]) ++ spare)) := by rw [← hst3]; simp [k3, k4]
    have hput : banM rows a u = putM rows a u := by simp [banM, hf]
    rw [hput]
    generalize hR : rows ++ [(a, u)] = R at m2
    have hRl : R.length = rows.length + 1 := by rw [← hR]; simp
    have hputR : putM rows a u = if R.length ≤ 32 then R else R.eraseIdx (firstMin R R.length) := by rw [← hR]; rfl
    rw [hputR]
    rw [← hRl] at m1
    clear k1 k4 hst3 hs hL hput hputR
    have hc := cells2_length R
    have hcast : ((rows.length : Int) + 1) = (R.length : Int) := by omega
    rw [← hRl]
    simp [St.seg, segOf, m1]
    by_cases h32 : R.length ≤ 32
    · have h32' : ((R.length : Int) ≤ 32) := by omega
      simp [h32, h32']
      exact ⟨st3, sub_self _, by omega, _, m1, .inr ⟨sid, spare, rfl, m2, k5⟩⟩
    · have h32' : ¬ ((R.length : Int) ≤ 32) := by omega
      simp [h32, h32', St.seg, segOf, m1]
      refine vc_loop (fun k env' st' => ∃ i, i ≤ R.length ∧ k = R.length - i ∧ st' = st3 ∧ env' 55 = .int .i64 i ∧ env' 7 = .int .i64 (firstMin R i)) R.length ⟨0, by omega, by omega, rfl, rfl, rfl⟩ ?_
      rintro k env' st' hsame ⟨i, hi, rfl, rfl, h55, h7⟩
      have h0 : env' 0 = .ptr (some (tid, 0)) := hsame 0 (by decide)
      have h53 : env' 53 = .hsl sid 0 2 R.length := hsame 53 (by decide)
      have h54 : env' 54 = .int .i64 R.length := hsame 54 (by decide)
      have hfl := firstMin_lt R i (by omega) hi
      clear hsame
      have w1 : IntKind.i64.wrap ((firstMin R i : Int) + 1) = (firstMin R i : Int) + 1 := wrap64 (by omega) (by omega)
      have w2 : IntKind.i64.wrap ((i : Int) + 1) = (i : Int) + 1 := wrap64 (by omega) (by omega)
      by_cases hlt : i < R.length
      · have e1 : i * 2 + 2 ≤ R.length * 2 + spare.length := by omega
        have e2 : firstMin R i * 2 + 1 + 1 ≤ R.length * 2 + spare.length := by omega
        have e3 : ((cells2 R ++ spare).drop (i * 2)).take 2 = [V.int .i64 R[i].1, V.int .i64 R[i].2] := by
          rw [List.drop_append_of_le_length (by omega), List.take_append_of_le_length (by rw [List.length_drop]; omega), cells2_at R hlt]
        simp [h0, h53, h54, h55, h7, hlt, St.seg, segOf, m2, hc, e1, e3]
        intro id hid
        have n1 := ne_id m1 hid
        have n2 := ne_id m2 hid
        simp [storeS, spliceV, St.seg, segOf, m1, m2, n1, n2, hc, h0, h7, h55, hfl, e2, fld2 R spare hfl, w2]
        have hsub : St.sub st' (st'.upd id (.cells [V.int .i64 R[i].1, V.int .i64 R[i].2])) := sub_upd hid
        have hfs := firstMin_succ R i
        rw [set_getD R hlt, set_getD R hfl] at hfs
        by_cases hcmp : R[i].2 < (R[firstMin R i]'hfl).2
        · rw [if_pos hcmp] at hfs
          simp [hcmp, h55, w2]
          exact Round.mk (R.length - (i + 1)) st' (by omega) hsub ⟨i + 1, by omega, rfl, rfl, by simp, by simp [hfs]⟩
        · rw [if_neg hcmp] at hfs
          simp [hcmp, h55, h7, w2]
          exact Round.mk (R.length - (i + 1)) st' (by omega) hsub ⟨i + 1, by omega, rfl, rfl, by simp, by simp [hfs, h7]⟩
      · have : i = R.length := by omega
        subst this
        simp [h0, h53, h54, h55, h7, St.seg, segOf, m1, w1]
        refine (spec29 ok (by omega) m2 hfl).mono ?_
        rintro v st4 ⟨rfl, rfl⟩
        simp [storeS, spliceV, m1, k3, k3']
        have hel := List.length_eraseIdx_of_lt hfl
        refine ⟨_, sub_self _, by omega, .hsl sid 0 2 (R.length - 1), by simp, .inr ⟨sid, _, by rw [hel], by simp [k3]; rfl, by simp; omega⟩⟩
end
end Go.Ab
