/-
  Slices of rows: cells that are the rows of a list, one behind the other; read, written and appended to.
-/
import Derived.Test.YtpmfkckookkgmaaAbSep
set_option linter.unusedSimpArgs false
set_option linter.unusedVariables false
namespace Go.Ab
open Go Go.RowKit

theorem Same.get {W : List Nat} {env env' : Env} (h : Same W env env') (t : Nat) (ht : W.contains t = false) : env' t = env t := h t (by simpa using ht)

/-- Rows of a list, one after the other. -/
def rowsOf {α : Type} (f : α → List V) (l : List α) : List V := l.flatMap f

section
variable {α : Type} {f : α → List V} {sz : Nat}

@[simp] theorem rowsOf_nil : rowsOf f [] = [] := by simp [rowsOf]
@[simp] theorem rowsOf_cons (a : α) (l : List α) : rowsOf f (a :: l) = f a ++ rowsOf f l := by simp [rowsOf]
@[simp] theorem rowsOf_append (a b : List α) : rowsOf f (a ++ b) = rowsOf f a ++ rowsOf f b := by simp [rowsOf]

theorem rowsOf_length (hf : ∀ a, (f a).length = sz) : ∀ (l : List α), (rowsOf f l).length = l.length * sz
  | [] => by simp [rowsOf]
  | a :: l => by
    have := rowsOf_length hf l
    simp only [rowsOf, List.flatMap_cons, List.length_append, List.length_cons, hf, Nat.succ_mul] at this ⊢
    omega

theorem rowsOf_drop (hf : ∀ a, (f a).length = sz) : ∀ (i : Nat) (l : List α), (rowsOf f l).drop (i * sz) = rowsOf f (l.drop i)
  | 0, l => by simp
  | i + 1, [] => by simp
  | i + 1, a :: l => by
    have := rowsOf_drop hf i l
    rw [rowsOf_cons, List.drop_succ_cons, ← this, show (i + 1) * sz = (f a).length + i * sz by rw [hf, Nat.succ_mul]; omega, ← List.drop_drop, List.drop_left]

theorem rowsOf_take (hf : ∀ a, (f a).length = sz) (i : Nat) (l : List α) : (rowsOf f l).take (i * sz) = rowsOf f (l.take i) := by
  by_cases h : i ≤ l.length
  · have e : rowsOf f l = rowsOf f (l.take i) ++ rowsOf f (l.drop i) := by rw [← rowsOf_append, List.take_append_drop]
    have e2 : i * sz = (rowsOf f (l.take i)).length := by rw [rowsOf_length hf, List.length_take, Nat.min_eq_left h]
    rw [e, e2, List.take_left]
  · have h1 : (rowsOf f l).length ≤ i * sz := by
      rw [rowsOf_length hf]
      exact Nat.mul_le_mul_right _ (by omega)
    have h2 : l.length ≤ i := by omega
    rw [List.take_of_length_le h1, List.take_of_length_le h2]

theorem rowsOf_row (hf : ∀ a, (f a).length = sz) (l : List α) (sp : List V) {i : Nat} (h : i < l.length) : ((rowsOf f l ++ sp).drop (i * sz)).take sz = f l[i] := by
  have hl := rowsOf_length hf l
  have hle : i * sz ≤ l.length * sz := Nat.mul_le_mul_right _ (by omega)
  rw [List.drop_append_of_le_length (by omega), rowsOf_drop hf, List.drop_eq_getElem_cons h, rowsOf_cons, List.append_assoc, ← hf l[i], List.take_left]

theorem rowsOf_seg (hf : ∀ a, (f a).length = sz) (l : List α) (sp : List V) {i : Nat} (h : i < l.length) : segOf (rowsOf f l ++ sp) (i * sz) sz = some (f l[i]) := by
  have hl := rowsOf_length hf l
  have hle : (i + 1) * sz ≤ l.length * sz := Nat.mul_le_mul_right _ (by omega)
  rw [Nat.succ_mul] at hle
  unfold segOf
  rw [if_pos (by simp; omega), rowsOf_row hf l sp h]

/-- A part of a row. -/
theorem rowsOf_part (hf : ∀ a, (f a).length = sz) (l : List α) (sp : List V) {i o n : Nat} (h : i < l.length) (hn : o + n ≤ sz) : segOf (rowsOf f l ++ sp) (i * sz + o) n = some (((f l[i]).drop o).take n) := by
  have hl := rowsOf_length hf l
  have hle : (i + 1) * sz ≤ l.length * sz := Nat.mul_le_mul_right _ (by omega)
  rw [Nat.succ_mul] at hle
  have hr := rowsOf_row hf l sp h
  unfold segOf
  rw [if_pos (by simp; omega), ← List.drop_drop, ← hr, List.drop_take, List.take_take, Nat.min_eq_left (by omega)]

/-- Rows as they stand in a slice that is only read. -/
theorem rowsOf_eptr (hf : ∀ a, (f a).length = sz) (l : List α) {i : Nat} (h : i < l.length) : segOf ((rowsOf f l).drop (i * sz)) 0 sz = some (f l[i]) := by
  have hs := rowsOf_row hf l [] h
  have hl := rowsOf_length hf l
  have hle : (i + 1) * sz ≤ l.length * sz := Nat.mul_le_mul_right _ (by omega)
  rw [Nat.succ_mul] at hle
  rw [List.append_nil] at hs
  unfold segOf
  rw [if_pos (by simp; omega), List.drop_zero, hs]

/-- A row, or a part of one, is written. -/
theorem rowsOf_splice (hf : ∀ a, (f a).length = sz) (l : List α) (sp : List V) {i o : Nat} (h : i < l.length) {vs : List V} (hn : o + vs.length ≤ sz) {a : α} (ha : f a = spliceV (f l[i]) o vs) :
    spliceV (rowsOf f l ++ sp) (i * sz + o) vs = rowsOf f (l.set i a) ++ sp := by
  have hli := hf l[i]
  have e : rowsOf f l = rowsOf f (l.take i) ++ (f l[i] ++ rowsOf f (l.drop (i + 1))) := by
    rw [← rowsOf_cons, ← List.drop_eq_getElem_cons h, ← rowsOf_append, List.take_append_drop]
  have e2 : rowsOf f (l.set i a) = rowsOf f (l.take i) ++ (f a ++ rowsOf f (l.drop (i + 1))) := by
    rw [List.set_eq_take_append_cons_drop, if_pos h, rowsOf_append, rowsOf_cons]
  have e3 : (rowsOf f (l.take i)).length = i * sz := by rw [rowsOf_length hf, List.length_take, Nat.min_eq_left (by omega)]
  have e4 : rowsOf f l ++ sp = rowsOf f (l.take i) ++ (f l[i] ++ (rowsOf f (l.drop (i + 1)) ++ sp)) := by rw [e]; simp only [List.append_assoc]
  rw [e4, e2, ha]
  unfold spliceV
  rw [← e3, List.take_length_add_append, List.take_append_of_le_length (by omega)]
  rw [Nat.add_assoc, List.drop_length_add_append, List.drop_append_of_le_length (by omega)]
  simp only [List.append_assoc]

/-- A slice whose rows are known: nothing yet, or an object. -/
def Sl (sz : Nat) (f : α → List V) (s : V) (l : List α) : Asn := fun h =>
  ((s = .sl .nil [] 0 ∨ s = .sl .full [] 0) ∧ l = []) ∨ ∃ sid spare, s = .hsl sid 0 sz l.length ∧ h sid = some (.cells (rowsOf f l ++ spare)) ∧ sz ∣ spare.length

/-- A slice that can be read. -/
def Rd (sz : Nat) (f : α → List V) (s : V) (l : List α) (st : St) : Prop :=
  (∃ k, s = .sl k (rowsOf f l) l.length) ∨ ∃ sid off, s = .hsl sid off sz l.length ∧ st.seg sid off (l.length * sz) = some (rowsOf f l)

theorem Rd.len {s : V} {l : List α} {st : St} (h : Rd sz f s l st) : lenSlV s = some (.int .i64 l.length) := by
  rcases h with ⟨k, rfl⟩ | ⟨sid, off, rfl, _⟩ <;> rfl

theorem Rd.elems (hf : ∀ a, (f a).length = sz) {s : V} {l : List α} {st : St} (h : Rd sz f s l st) : elems st sz s = some (rowsOf f l, l.length) := by
  rcases h with ⟨k, rfl⟩ | ⟨sid, off, rfl, hs⟩
  · simp [Ab.elems, rowsOf_length hf]
  · simp [Ab.elems, hs]

theorem Rd.idx (hf : ∀ a, (f a).length = sz) {s : V} {l : List α} {st : St} (h : Rd sz f s l st) {i : Nat} (hi : i < l.length) (k : IntKind) : ∃ p, idxSlV sz s (.int k i) = some p ∧ ldCells st sz p = some (f l[i]) := by
  rcases h with ⟨k, rfl⟩ | ⟨sid, off, rfl, hs⟩
  · refine ⟨.eptr ((rowsOf f l).drop (i * sz)), ?_, ?_⟩
    · simp [hi]
    · simp [rowsOf_eptr hf l hi]
  · refine ⟨.ptr (some (sid, off + i * sz)), ?_, ?_⟩
    · simp [hi]
    · rw [ld_ptr, seg_at hs hi]
      have := rowsOf_row hf l [] hi
      rw [List.append_nil] at this
      rw [this]

theorem Rd.sub {s : V} {l : List α} {st st' : St} (h : Rd sz f s l st) (hs : St.sub st st') : Rd sz f s l st' := by
  rcases h with ⟨k, rfl⟩ | ⟨sid, off, rfl, h⟩
  · exact .inl ⟨k, rfl⟩
  · exact .inr ⟨sid, off, rfl, seg_sub hs h⟩

theorem Sl.rd (hf : ∀ a, (f a).length = sz) {s : V} {l : List α} {h : St} (hs : Sl sz f s l h) : Rd sz f s l h := by
  rcases hs with ⟨hs | hs, rfl⟩ | ⟨sid, spare, rfl, h1, _⟩
  · exact .inl ⟨.nil, by rw [hs]; rfl⟩
  · exact .inl ⟨.full, by rw [hs]; rfl⟩
  · have hl := rowsOf_length hf l
    refine .inr ⟨sid, 0, rfl, ?_⟩
    simp only [St.seg, h1, segOf]
    rw [if_pos (by simp; omega), List.drop_zero, ← hl, List.take_left]

theorem Sep.rd (hf : ∀ a, (f a).length = sz) {s : V} {l : List α} {L : List Asn} {st : St} (h : Sep (Sl sz f s l :: L) st) : Rd sz f s l st := by
  obtain ⟨h', h1, h2⟩ := h.part
  exact (h2.rd hf).sub h1

/-- Something that needs nothing of the heap. -/
theorem Sep.put {A : Asn} {L : List Asn} {st : St} (h : Sep L st) (hA : A fun _ => none) : Sep (A :: L) st :=
  ⟨fun _ => none, st, fun _ => .inl rfl, fun i o e => by simpa [St.add] using e, hA, h⟩

theorem Sep.slNil {L : List Asn} {st : St} (h : Sep L st) : Sep (Sl sz f (.sl .nil [] 0) [] :: L) st := h.put (.inl ⟨.inl rfl, rfl⟩)
theorem Sep.slFull {L : List Asn} {st : St} (h : Sep L st) : Sep (Sl sz f (.sl .full [] 0) [] :: L) st := h.put (.inl ⟨.inr rfl, rfl⟩)

/-- One row is appended. -/
theorem Sep.app1 (hf : ∀ a, (f a).length = sz) (hsz : 0 < sz) {s : V} {l : List α} {L : List Asn} {st : St} (h : Sep (Sl sz f s l :: L) st) {b : Nat} {a : α} {ys : List V} (hys : ys = f a) (hb : (l.length + 1) * b ≤ 140737488355328) {K : V → St → Prop}
    (hK : ∀ s' st', Sep (Sl sz f s' (l ++ [a]) :: L) st' → K s' st') : appS sz b s (some (ys, 1)) st K := by
  subst hys
  obtain ⟨a0, r, h1, h2, h3, h4⟩ := h
  have hl := rowsOf_length hf l
  rcases h3 with ⟨hs, rfl⟩ | ⟨sid, spare, rfl, h5, h6⟩
  · have key : ∀ k, (k = .nil ∨ k = .full) → appS sz b (.sl k [] 0) (some (f a, 1)) st K := fun k hk =>
      app_nil _ _ hk (by omega) (by simpa using hb) (fun id hid => hK _ _ (by
        have hsub : St.sub r st := sub_trans (sub_right h1) h2
        have := (h4.sub hsub).new hid (.cells (f a))
        exact this.head fun h hh => .inr ⟨id, [], rfl, hh.trans (by simp), by simp⟩))
    rcases hs with rfl | rfl
    · exact key _ (.inl rfl)
    · exact key _ (.inr rfl)
  · have hsid : st sid = some (.cells (rowsOf f l ++ spare)) := h2 _ _ (add_some h5)
    by_cases hsp : spare = []
    · subst hsp
      rw [List.append_nil] at hsid h5
      refine app_grow _ _ hsid hb hl (by rw [hl, Nat.succ_mul]; omega) (fun id hid => hK _ _ ?_)
      have hd : Sep L (st.del sid) := h4.sub fun j x e => by
        have : j ≠ sid := fun e' => by
          subst e'
          rw [h1.some h5] at e
          cases e
        simp only [St.del, this, if_false]
        exact h2 j x (sub_right h1 j x e)
      exact (hd.new hid (.cells (rowsOf f l ++ f a))).head fun h hh => .inr ⟨id, [], by simp, hh.trans (by simp), by simp⟩
    · have hge : sz ≤ spare.length := by
        cases spare with
        | nil => exact absurd rfl hsp
        | cons x l => exact Nat.le_of_dvd (by simp) h6
      refine app_room _ _ hsid hb (by simp [hl, Nat.succ_mul]; omega) (hK _ _ ?_)
      have hsep : Sep (pt sid (.cells (rowsOf f l ++ spare)) :: L) st := ⟨a0, r, h1, h2, h5, h4⟩
      refine (hsep.set _).head fun h hh => .inr ⟨sid, spare.drop sz, by simp, hh.trans (congrArg (fun c => some (AObj.cells c)) ?_), ?_⟩
      · rw [List.length_drop]
        exact Nat.dvd_sub h6 (Nat.dvd_refl _)
      · unfold spliceV
        rw [Nat.zero_add, ← hl, List.take_left, hf, List.drop_length_add_append]
        simp

/-- A slice whose rows are known, and behind which there is nothing known. -/
def Slx (sz : Nat) (f : α → List V) (s : V) (l : List α) : Asn := fun h =>
  ((s = .sl .nil [] 0 ∨ s = .sl .full [] 0) ∧ l = []) ∨ ∃ sid, s = .hsl sid 0 sz l.length ∧ h sid = some (.cells (rowsOf f l))

theorem Slx.sl {s : V} {l : List α} {h : St} (hs : Slx sz f s l h) : Sl sz f s l h := by
  rcases hs with h | ⟨sid, rfl, h⟩
  · exact .inl h
  · exact .inr ⟨sid, [], rfl, by rw [h, List.append_nil], by simp⟩

theorem Sep.slxNil {L : List Asn} {st : St} (h : Sep L st) : Sep (Slx sz f (.sl .nil [] 0) [] :: L) st := h.put (.inl ⟨.inl rfl, rfl⟩)
theorem Sep.slxFull {L : List Asn} {st : St} (h : Sep L st) : Sep (Slx sz f (.sl .full [] 0) [] :: L) st := h.put (.inl ⟨.inr rfl, rfl⟩)

/-- Rows are appended. -/
theorem Sep.appx (hf : ∀ a, (f a).length = sz) (hsz : 0 < sz) {s : V} {l : List α} {L : List Asn} {st : St} (h : Sep (Slx sz f s l :: L) st) {b : Nat} {m : List α} (hb : (l.length + m.length) * b ≤ 140737488355328) {K : V → St → Prop}
    (hK : ∀ s' st', Sep (Slx sz f s' (l ++ m) :: L) st' → K s' st') : appS sz b s (some (rowsOf f m, m.length)) st K := by
  have h0 := h
  obtain ⟨a0, r, h1, h2, h3, h4⟩ := h
  have hl := rowsOf_length hf l
  have hm := rowsOf_length hf m
  rcases h3 with ⟨hs, rfl⟩ | ⟨sid, rfl, h5⟩
  · have key : ∀ k, s = .sl k [] 0 → (k = .nil ∨ k = .full) → appS sz b (.sl k [] 0) (some (rowsOf f m, m.length)) st K := fun k hs hk => by
      by_cases h0' : m = []
      · subst h0'
        refine ⟨hk, by simp, by simp, fun _ => hK _ _ (by rw [← hs]; exact h0), fun e => absurd rfl e⟩
      · refine app_nil _ _ hk (by simpa using h0') (by simpa using hb) (fun id hid => hK _ _ ?_)
        have hsub : St.sub r st := sub_trans (sub_right h1) h2
        have := (h4.sub hsub).new hid (.cells (rowsOf f m))
        exact this.head fun h hh => .inr ⟨id, by simp, hh.trans (by simp)⟩
    rcases hs with rfl | rfl
    · exact key _ rfl (.inl rfl)
    · exact key _ rfl (.inr rfl)
  · have hsid : st sid = some (.cells (rowsOf f l)) := h2 _ _ (add_some h5)
    by_cases h0' : m = []
    · subst h0'
      refine app_room _ _ hsid hb (by simp [hl]) (hK _ _ ?_)
      have hsep : Sep (pt sid (.cells (rowsOf f l)) :: L) st := ⟨a0, r, h1, h2, h5, h4⟩
      refine (hsep.set _).head fun h hh => .inr ⟨sid, by simp, hh.trans (congrArg (fun c => some (AObj.cells c)) ?_)⟩
      unfold spliceV
      rw [Nat.zero_add, ← hl, List.take_length]
      simp
    · have hpos : 0 < m.length := List.length_pos_iff.2 h0'
      refine app_grow _ _ hsid hb hl (by
        rw [hl, Nat.add_mul]
        have : 0 < m.length * sz := Nat.mul_pos hpos hsz
        omega) (fun id hid => hK _ _ ?_)
      have hd : Sep L (st.del sid) := h4.sub fun j x e => by
        have : j ≠ sid := fun e' => by
          subst e'
          rw [h1.some h5] at e
          cases e
        simp only [St.del, this, if_false]
        exact h2 j x (sub_right h1 j x e)
      exact (hd.new hid (.cells (rowsOf f l ++ rowsOf f m))).head fun h hh => .inr ⟨id, by simp, hh.trans (by simp)⟩

/-- One row is appended, and nobody writes the slice any more. -/
theorem Sep.appz1 (hf : ∀ a, (f a).length = sz) {s : V} {l : List α} {L : List Asn} {st : St} (h : Sep (Sl sz f s l :: L) st) {b : Nat} {a : α} {ys : List V} (hys : ys = f a) (hb : (l.length + 1) * b ≤ 140737488355328) {K : V → St → Prop}
    (hK : ∀ st', Sep (Rd sz f s l :: L) st' → K (.sl .some (rowsOf f (l ++ [a])) (l.length + 1)) st') : appzS sz b s (some (ys, 1)) st K := by
  subst hys
  have h0 := h
  obtain ⟨a0, r, h1, h2, h3, h4⟩ := h
  have hl := rowsOf_length hf l
  rcases h3 with ⟨hs, rfl⟩ | ⟨sid, spare, rfl, h5, h6⟩
  · have key : ∀ k, s = .sl k [] 0 → (k = .nil ∨ k = .full) → appzS sz b (.sl k [] 0) (some (f a, 1)) st K := fun k hs hk => by
      refine appz_nil _ _ hk (by omega) (by simpa using hb) ?_
      have := hK st (h0.head fun h hh => hh.rd hf)
      simpa using this
    rcases hs with rfl | rfl
    · exact key _ rfl (.inl rfl)
    · exact key _ rfl (.inr rfl)
  · have hsid : st sid = some (.cells (rowsOf f l ++ spare)) := h2 _ _ (add_some h5)
    have e1 : (rowsOf f l ++ spare).take (l.length * sz) = rowsOf f l := by rw [← hl, List.take_left]
    refine appz_hsl _ _ hsid hb (by simp [hl]) ?_
    rw [e1]
    have := hK (st.upd sid (.ro (rowsOf f l ++ List.replicate ((rowsOf f l ++ spare).length - l.length * sz) .junk))) ?_
    · simpa using this
    · have hsep : Sep (pt sid (.cells (rowsOf f l ++ spare)) :: L) st := ⟨a0, r, h1, h2, h5, h4⟩
      refine (hsep.set _).head fun h hh => .inr ⟨sid, 0, rfl, ?_⟩
      have hh' : h sid = some (.ro (rowsOf f l ++ List.replicate ((rowsOf f l ++ spare).length - l.length * sz) .junk)) := hh
      simp only [St.seg, hh', segOf]
      rw [if_pos (by simp; omega), List.drop_zero, ← hl, List.take_left]

theorem Sep.rdOf {s : V} {l : List α} {L : List Asn} {st : St} (h : Sep (Rd sz f s l :: L) st) : Rd sz f s l st := by
  obtain ⟨h', h1, h2⟩ := h.part
  exact h2.sub h1

/-- A row of a slice that is an object: where it lies. -/
theorem Sep.slObj {s : V} {l : List α} {L : List Asn} {st : St} (h : Sep (Sl sz f s l :: L) st) (hl : l ≠ []) : ∃ sid spare, s = .hsl sid 0 sz l.length ∧ sz ∣ spare.length ∧ Sep (pt sid (.cells (rowsOf f l ++ spare)) :: L) st := by
  obtain ⟨a0, r, h1, h2, h3, h4⟩ := h
  rcases h3 with ⟨_, rfl⟩ | ⟨sid, spare, rfl, h5, h6⟩
  · exact absurd rfl hl
  · exact ⟨sid, spare, rfl, h6, a0, r, h1, h2, h5, h4⟩

theorem Sep.ofObj {l : List α} {L : List Asn} {st : St} {sid : Nat} {spare : List V} (h : Sep (pt sid (.cells (rowsOf f l ++ spare)) :: L) st) (hs : sz ∣ spare.length) : Sep (Sl sz f (.hsl sid 0 sz l.length) l :: L) st :=
  h.head fun h hh => .inr ⟨sid, spare, rfl, hh, hs⟩
end

/-! ### lists turned element by element -/
def turnTo {α : Type} (g : α → α) (l : List α) (j : Nat) : List α := (l.take j).map g ++ l.drop j
section
variable {α : Type} {g : α → α} {l : List α} {j : Nat}
@[simp] theorem turnTo_length : (turnTo g l j).length = l.length := by simp [turnTo]; omega
theorem turnTo_zero : turnTo g l 0 = l := by simp [turnTo]
theorem turnTo_all : turnTo g l l.length = l.map g := by simp [turnTo]
theorem turnTo_get (h : j < l.length) : (turnTo g l j)[j]'(by simpa using h) = l[j] := by
  have : ((l.take j).map g).length = j := by simp; omega
  simp only [turnTo]
  rw [List.getElem_append_right (by omega)]
  simp [Nat.min_eq_left (Nat.le_of_lt h)]
theorem turnTo_succ (h : j < l.length) : turnTo g l (j + 1) = (turnTo g l j).set j (g l[j]) := by
  have e : ((l.take j).map g).length = j := by simp; omega
  simp only [turnTo]
  rw [List.take_succ_eq_append_getElem h, List.map_append, List.set_append_right _ _ (by omega), e, Nat.sub_self]
  have h2 : (l.drop j).set 0 (g l[j]) = g l[j] :: l.drop (j + 1) := by rw [List.drop_eq_getElem_cons h]; rfl
  rw [h2]
  simp
end

theorem elems_seg {α : Type} {f : α → List V} {sz : Nat} (hf : ∀ a, (f a).length = sz) {st : St} {sid : Nat} {spare : List V} {l : List α} (h : st sid = some (.cells (rowsOf f l ++ spare))) {i n : Nat} (hin : i + n ≤ l.length) :
    elems st sz (.hsl sid (i * sz) sz n) = some (rowsOf f ((l.drop i).take n), ((l.drop i).take n).length) := by
  have hl := rowsOf_length hf l
  have hle : (i + n) * sz ≤ l.length * sz := Nat.mul_le_mul_right _ hin
  rw [Nat.add_mul] at hle
  simp only [elems, if_true, St.seg, h, segOf]
  rw [if_pos (by simp; omega), Option.map_some, List.drop_append_of_le_length (by omega), rowsOf_drop hf, List.take_append_of_le_length (by rw [rowsOf_length hf, List.length_drop, Nat.sub_mul]; omega), rowsOf_take hf]
  simp
  omega

/-! ### rows of one whole number, of two, of three -/
def e1 (n : Int) : List V := [.int .i64 n]
def e2 (r : Int × Int) : List V := [.int .i64 r.1, .int .i64 r.2]
def e3 (r : Int × Int × Int) : List V := [.int .i64 r.1, .int .i64 r.2.1, .int .i64 r.2.2]
theorem e1_len (n : Int) : (e1 n).length = 1 := rfl
theorem e2_len (r : Int × Int) : (e2 r).length = 2 := rfl
/-- A byte. -/
def e8 (b : UInt8) : List V := [.int .u8 b.toNat]
theorem e8_len (b : UInt8) : (e8 b).length = 1 := rfl
theorem e3_len (r : Int × Int × Int) : (e3 r).length = 3 := rfl
end Go.Ab
