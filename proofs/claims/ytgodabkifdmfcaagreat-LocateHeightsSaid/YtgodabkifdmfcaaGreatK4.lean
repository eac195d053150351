import Derived.Test.YtgodabkifdmfcaaGreatK3
set_option linter.unusedSimpArgs false
set_option linter.unusedVariables false
namespace Go.Ab
open Go Go.RowKit
theorem Same.get {W : List Nat} {env env' : Env} (h : Same W env env') (t : Nat) (ht : W.contains t = false) : env' t = env t := h t (by simpa using ht)
def rowsOf {α : Type} (f : α → List V) (l : List α) : List V := l.flatMap f
section
variable {α : Type} {f : α → List V} {sz : Nat}
@[simp] theorem rowsOf_nil : rowsOf f [] = [] := by simp [rowsOf]
@[simp] theorem rowsOf_cons (a : α) (l : List α) : rowsOf f (a :: l) = f a ++ rowsOf f l := by simp [rowsOf]
@[simp] theorem rowsOf_append (a b : List α) : rowsOf f (a ++ b) = rowsOf f a ++ rowsOf f b := by simp [rowsOf]
theorem rowsOf_length (hf : ∀ a, (f a).length = sz) : ∀ (l : List α), (rowsOf f l).length = l.length * sz
  | [] => by simp [rowsOf]
  | a :: l => by
    have := rowsOf_length hf l
    simp only [rowsOf, List.flatMap_cons, List.length_append, List.length_cons, hf, Nat.succ_mul] at this ⊢
    omega
theorem rowsOf_drop (hf : ∀ a, (f a).length = sz) : ∀ (i : Nat) (l : List α), (rowsOf f l).drop (i * sz) = rowsOf f (l.drop i)
  | 0, l => by simp
  | i + 1, [] => by simp
  | i + 1, a :: l => by
    have := rowsOf_drop hf i l
    rw [rowsOf_cons, List.drop_succ_cons, ← this, show (i + 1) * sz = (f a).length + i * sz by rw [hf, Nat.succ_mul]; omega, ← List.drop_drop, List.drop_left]
theorem rowsOf_row (hf : ∀ a, (f a).length = sz) (l : List α) (sp : List V) {i : Nat} (h : i < l.length) : ((rowsOf f l ++ sp).drop (i * sz)).take sz = f l[i] := by
  have hl := rowsOf_length hf l
  have hle : i * sz ≤ l.length * sz := Nat.mul_le_mul_right _ (by omega)
  rw [List.drop_append_of_le_length (by omega), rowsOf_drop hf, List.drop_eq_getElem_cons h, rowsOf_cons, List.append_assoc, ← hf l[i], List.take_left]
theorem rowsOf_seg (hf : ∀ a, (f a).length = sz) (l : List α) (sp : List V) {i : Nat} (h : i < l.length) : segOf (rowsOf f l ++ sp) (i * sz) sz = some (f l[i]) := by
  have hl := rowsOf_length hf l
  have hle : (i + 1) * sz ≤ l.length * sz := Nat.mul_le_mul_right _ (by omega)
  rw [Nat.succ_mul] at hle
  unfold segOf
  rw [if_pos (by simp; omega), rowsOf_row hf l sp h]
theorem rowsOf_part (hf : ∀ a, (f a).length = sz) (l : List α) (sp : List V) {i o n : Nat} (h : i < l.length) (hn : o + n ≤ sz) : segOf (rowsOf f l ++ sp) (i * sz + o) n = some (((f l[i]).drop o).take n) := by
  have hl := rowsOf_length hf l
  have hle : (i + 1) * sz ≤ l.length * sz := Nat.mul_le_mul_right _ (by omega)
  rw [Nat.succ_mul] at hle
  have hr := rowsOf_row hf l sp h
  unfold segOf
  rw [if_pos (by simp; omega), ← List.drop_drop, ← hr, List.drop_take, List.take_take, Nat.min_eq_left (by omega)]
theorem rowsOf_eptr (hf : ∀ a, (f a).length = sz) (l : List α) {i : Nat} (h : i < l.length) : segOf ((rowsOf f l).drop (i * sz)) 0 sz = some (f l[i]) := by
  have hs := rowsOf_row hf l [] h
  have hl := rowsOf_length hf l
  have hle : (i + 1) * sz ≤ l.length * sz := Nat.mul_le_mul_right _ (by omega)
  rw [Nat.succ_mul] at hle
  rw [List.append_nil] at hs
  unfold segOf
  rw [if_pos (by simp; omega), List.drop_zero, hs]
theorem rowsOf_splice (hf : ∀ a, (f a).length = sz) (l : List α) (sp : List V) {i o : Nat} (h : i < l.length) {vs : List V} (hn : o + vs.length ≤ sz) {a : α} (ha : f a = spliceV (f l[i]) o vs) :
    spliceV (rowsOf f l ++ sp) (i * sz + o) vs = rowsOf f (l.set i a) ++ sp := by
  have hli := hf l[i]
  have e : rowsOf f l = rowsOf f (l.take i) ++ (f l[i] ++ rowsOf f (l.drop (i + 1))) := by
    rw [← rowsOf_cons, ← List.drop_eq_getElem_cons h, ← rowsOf_append, List.take_append_drop]
  have e2 : rowsOf f (l.set i a) = rowsOf f (l.take i) ++ (f a ++ rowsOf f (l.drop (i + 1))) := by
    rw [List.set_eq_take_append_cons_drop, if_pos h, rowsOf_append, rowsOf_cons]
  have e3 : (rowsOf f (l.take i)).length = i * sz := by rw [rowsOf_length hf, List.length_take, Nat.min_eq_left (by omega)]
  have e4 : rowsOf f l ++ sp = rowsOf f (l.take i) ++ (f l[i] ++ (rowsOf f (l.drop (i + 1)) ++ sp)) := by rw [e]; simp only [List.append_assoc]
  rw [e4, e2, ha]
  unfold spliceV
  rw [← e3, List.take_length_add_append, List.take_append_of_le_length (by omega)]
  rw [Nat.add_assoc, List.drop_length_add_append, List.drop_append_of_le_length (by omega)]
  simp only [List.append_assoc]
def Sl (sz : Nat) (f : α → List V) (s : V) (l : List α) : Asn := fun h =>
  ((s = .sl .nil [] 0 ∨ s = .sl .full [] 0) ∧ l = []) ∨ ∃ sid spare, s = .hsl sid 0 sz l.length ∧ h sid = some (.cells (rowsOf f l ++ spare)) ∧ sz ∣ spare.length
def Rd (sz : Nat) (f : α → List V) (s : V) (l : List α) (st : St) : Prop :=
  (∃ k, s = .sl k (rowsOf f l) l.length) ∨ ∃ sid off, s = .hsl sid off sz l.length ∧ st.seg sid off (l.length * sz) = some (rowsOf f l)
theorem Rd.len {s : V} {l : List α} {st : St} (h : Rd sz f s l st) : lenSlV s = some (.int .i64 l.length) := by
  rcases h with ⟨k, rfl⟩ | ⟨sid, off, rfl, _⟩ <;> rfl
theorem Rd.elems (hf : ∀ a, (f a).length = sz) {s : V} {l : List α} {st : St} (h : Rd sz f s l st) : elems st sz s = some (rowsOf f l, l.length) := by
  rcases h with ⟨k, rfl⟩ | ⟨sid, off, rfl, hs⟩
  · simp [Ab.elems, rowsOf_length hf]
  · simp [Ab.elems, hs]
theorem Rd.idx (hf : ∀ a, (f a).length = sz) {s : V} {l : List α} {st : St} (h : Rd sz f s l st) {i : Nat} (hi : i < l.length) (k : IntKind) : ∃ p, idxSlV sz s (.int k i) = some p ∧ ldCells st sz p = some (f l[i]) := by
  rcases h with ⟨k, rfl⟩ | ⟨sid, off, rfl, hs⟩
  · refine ⟨.eptr ((rowsOf f l).drop (i * sz)), ?_, ?_⟩
    · simp [hi]
    · simp [rowsOf_eptr hf l hi]
  · refine ⟨.ptr (some (sid, off + i * sz)), ?_, ?_⟩
    · simp [hi]
    · rw [ld_ptr, seg_at hs hi]
      have := rowsOf_row hf l [] hi
      rw [List.append_nil] at this
      rw [this]
theorem Rd.sub {s : V} {l : List α} {st st' : St} (h : Rd sz f s l st) (hs : St.sub st st') : Rd sz f s l st' := by
  rcases h with ⟨k, rfl⟩ | ⟨sid, off, rfl, h⟩
  · exact .inl ⟨k, rfl⟩
  · exact .inr ⟨sid, off, rfl, seg_sub hs h⟩
theorem Sl.rd (hf : ∀ a, (f a).length = sz) {s : V} {l : List α} {h : St} (hs : Sl sz f s l h) : Rd sz f s l h := by
  rcases hs with ⟨hs | hs, rfl⟩ | ⟨sid, spare, rfl, h1, _⟩
  · exact .inl ⟨.nil, by rw [hs]; rfl⟩
  · exact .inl ⟨.full, by rw [hs]; rfl⟩
  · have hl := rowsOf_length hf l
    refine .inr ⟨sid, 0, rfl, ?_⟩
    simp only [St.seg, h1, segOf]
    rw [if_pos (by simp; omega), List.drop_zero, ← hl, List.take_left]
theorem Sep.rd (hf : ∀ a, (f a).length = sz) {s : V} {l : List α} {L : List Asn} {st : St} (h : Sep (Sl sz f s l :: L) st) : Rd sz f s l st := by
  obtain ⟨h', h1, h2⟩ := h.part
  exact (h2.rd hf).sub h1
theorem Sep.put {A : Asn} {L : List Asn} {st : St} (h : Sep L st) (hA : A fun _ => none) : Sep (A :: L) st :=
  ⟨fun _ => none, st, fun _ => .inl rfl, fun i o e => by simpa [St.add] using e, hA, h⟩
theorem Sep.slNil {L : List Asn} {st : St} (h : Sep L st) : Sep (Sl sz f (.sl .nil [] 0) [] :: L) st := h.put (.inl ⟨.inl rfl, rfl⟩)
theorem Sep.app1 (hf : ∀ a, (f a).length = sz) (hsz : 0 < sz) {s : V} {l : List α} {L : List Asn} {st : St} (h : Sep (Sl sz f s l :: L) st) {b : Nat} {a : α} {ys : List V} (hys : ys = f a) (hb : (l.length + 1) * b ≤ 140737488355328) {K : V → St → Prop}
    (hK : ∀ s' st', Sep (Sl sz f s' (l ++ [a]) :: L) st' → K s' st') : appS sz b s (some (ys, 1)) st K := by
  subst hys
  obtain ⟨a0, r, h1, h2, h3, h4⟩ := h
  have hl := rowsOf_length hf l
  rcases h3 with ⟨hs, rfl⟩ | ⟨sid, spare, rfl, h5, h6⟩
  · have key : ∀ k, (k = .nil ∨ k = .full) → appS sz b (.sl k [] 0) (some (f a, 1)) st K := fun k hk =>
      app_nil _ _ hk (by omega) (by simpa using hb) (fun id hid => hK _ _ (by
        have hsub : St.sub r st := sub_trans (sub_right h1) h2
        have := (h4.sub hsub).new hid (.cells (f a))
        exact this.head fun h hh => .inr ⟨id, [], rfl, hh.trans (by simp), by simp⟩))
    rcases hs with rfl | rfl
    · exact key _ (.inl rfl)
    · exact key _ (.inr rfl)
  · have hsid : st sid = some (.cells (rowsOf f l ++ spare)) := h2 _ _ (add_some h5)
    by_cases hsp : spare = []
    · subst hsp
      rw [List.append_nil] at hsid h5
      refine app_grow _ _ hsid hb hl (by rw [hl, Nat.succ_mul]; omega) (fun id hid => hK _ _ ?_)
      have hd : Sep L (st.del sid) := h4.sub fun j x e => by
        have : j ≠ sid := fun e' => by
          subst e'
          rw [h1.some h5] at e
          cases e
        simp only [St.del, this, if_false]
        exact h2 j x (sub_right h1 j x e)
      exact (hd.new hid (.cells (rowsOf f l ++ f a))).head fun h hh => .inr ⟨id, [], by simp, hh.trans (by simp), by simp⟩
    · have hge : sz ≤ spare.length := by
        cases spare with
        | nil => exact absurd rfl hsp
        | cons x l => exact Nat.le_of_dvd (by simp) h6
      refine app_room _ _ hsid hb (by simp [hl, Nat.succ_mul]; omega) (hK _ _ ?_)
      have hsep : Sep (pt sid (.cells (rowsOf f l ++ spare)) :: L) st := ⟨a0, r, h1, h2, h5, h4⟩
      refine (hsep.set _).head fun h hh => .inr ⟨sid, spare.drop sz, by simp, hh.trans (congrArg (fun c => some (AObj.cells c)) ?_), ?_⟩
      · rw [List.length_drop]
        exact Nat.dvd_sub h6 (Nat.dvd_refl _)
      · unfold spliceV
        rw [Nat.zero_add, ← hl, List.take_left, hf, List.drop_length_add_append]
        simp
def Slx (sz : Nat) (f : α → List V) (s : V) (l : List α) : Asn := fun h =>
  ((s = .sl .nil [] 0 ∨ s = .sl .full [] 0) ∧ l = []) ∨ ∃ sid, s = .hsl sid 0 sz l.length ∧ h sid = some (.cells (rowsOf f l))
theorem Slx.sl {s : V} {l : List α} {h : St} (hs : Slx sz f s l h) : Sl sz f s l h := by
  rcases hs with h | ⟨sid, rfl, h⟩
  · exact .inl h
  · exact .inr ⟨sid, [], rfl, by rw [h, List.append_nil], by simp⟩
theorem Sep.slxNil {L : List Asn} {st : St} (h : Sep L st) : Sep (Slx sz f (.sl .nil [] 0) [] :: L) st := h.put (.inl ⟨.inl rfl, rfl⟩)
theorem Sep.appx (hf : ∀ a, (f a).length = sz) (hsz : 0 < sz) {s : V} {l : List α} {L : List Asn} {st : St} (h : Sep (Slx sz f s l :: L) st) {b : Nat} {m : List α} (hb : (l.length + m.length) * b ≤ 140737488355328) {K : V → St → Prop}
    (hK : ∀ s' st', Sep (Slx sz f s' (l ++ m) :: L) st' → K s' st') : appS sz b s (some (rowsOf f m, m.length)) st K := by
  have h0 := h
  obtain ⟨a0, r, h1, h2, h3, h4⟩ := h
  have hl := rowsOf_length hf l
  have hm := rowsOf_length hf m
  rcases h3 with ⟨hs, rfl⟩ | ⟨sid, rfl, h5⟩
  · have key : ∀ k, s = .sl k [] 0 → (k = .nil ∨ k = .full) → appS sz b (.sl k [] 0) (some (rowsOf f m, m.length)) st K := fun k hs hk => by
      by_cases h0' : m = []
      · subst h0'
        refine ⟨hk, by simp, by simp, fun _ => hK _ _ (by rw [← hs]; exact h0), fun e => absurd rfl e⟩
      · refine app_nil _ _ hk (by simpa using h0') (by simpa using hb) (fun id hid => hK _ _ ?_)
        have hsub : St.sub r st := sub_trans (sub_right h1) h2
        have := (h4.sub hsub).new hid (.cells (rowsOf f m))
        exact this.head fun h hh => .inr ⟨id, by simp, hh.trans (by simp)⟩
    rcases hs with rfl | rfl
    · exact key _ rfl (.inl rfl)
    · exact key _ rfl (.inr rfl)
  · have hsid : st sid = some (.cells (rowsOf f l)) := h2 _ _ (add_some h5)
    by_cases h0' : m = []
    · subst h0'
      refine app_room _ _ hsid hb (by simp [hl]) (hK _ _ ?_)
      have hsep : Sep (pt sid (.cells (rowsOf f l)) :: L) st := ⟨a0, r, h1, h2, h5, h4⟩
      refine (hsep.set _).head fun h hh => .inr ⟨sid, by simp, hh.trans (congrArg (fun c => some (AObj.cells c)) ?_)⟩
      unfold spliceV
      rw [Nat.zero_add, ← hl, List.take_length]
      simp
    · have hpos : 0 < m.length := List.length_pos_iff.2 h0'
      refine app_grow _ _ hsid hb hl (by
        rw [hl, Nat.add_mul]
        have : 0 < m.length * sz := Nat.mul_pos hpos hsz
        omega) (fun id hid => hK _ _ ?_)
      have hd : Sep L (st.del sid) := h4.sub fun j x e => by
        have : j ≠ sid := fun e' => by
          subst e'
          rw [h1.some h5] at e
          cases e
        simp only [St.del, this, if_false]
        exact h2 j x (sub_right h1 j x e)
      exact (hd.new hid (.cells (rowsOf f l ++ rowsOf f m))).head fun h hh => .inr ⟨id, by simp, hh.trans (by simp)⟩
theorem Sep.rdOf {s : V} {l : List α} {L : List Asn} {st : St} (h : Sep (Rd sz f s l :: L) st) : Rd sz f s l st := by
  obtain ⟨h', h1, h2⟩ := h.part
  exact h2.sub h1
theorem Sep.slObj {s : V} {l : List α} {L : List Asn} {st : St} (h : Sep (Sl sz f s l :: L) st) (hl : l ≠ []) : ∃ sid spare, s = .hsl sid 0 sz l.length ∧ sz ∣ spare.length ∧ Sep (pt sid (.cells (rowsOf f l ++ spare)) :: L) st := by
  obtain ⟨a0, r, h1, h2, h3, h4⟩ := h
  rcases h3 with ⟨_, rfl⟩ | ⟨sid, spare, rfl, h5, h6⟩
  · exact absurd rfl hl
  · exact ⟨sid, spare, rfl, h6, a0, r, h1, h2, h5, h4⟩
theorem Sep.ofObj {l : List α} {L : List Asn} {st : St} {sid : Nat} {spare : List V} (h : Sep (pt sid (.cells (rowsOf f l ++ spare)) :: L) st) (hs : sz ∣ spare.length) : Sep (Sl sz f (.hsl sid 0 sz l.length) l :: L) st :=
  h.head fun h hh => .inr ⟨sid, spare, rfl, hh, hs⟩
end
section
variable {α : Type} {g : α → α} {l : List α} {j : Nat}
end
def e1 (n : Int) : List V := [.int .i64 n]
def e2 (r : Int × Int) : List V := [.int .i64 r.1, .int .i64 r.2]
def e3 (r : Int × Int × Int) : List V := [.int .i64 r.1, .int .i64 r.2.1, .int .i64 r.2.2]
theorem e1_len (n : Int) : (e1 n).length = 1 := rfl
def e8 (b : UInt8) : List V := [.int .u8 b.toNat]
theorem e8_len (b : UInt8) : (e8 b).length = 1 := rfl
end Go.Ab
set_option linter.unusedSimpArgs false
set_option linter.unusedVariables false
namespace Go.Ab
open Go Go.RowKit
def All (L : List Asn) : Asn := fun h => Sep L h
theorem Sep.app {L1 L2 : List Asn} : ∀ {st : St}, Sep (All L1 :: L2) st → Sep (L1 ++ L2) st := by
  induction L1 with
  | nil => exact fun h => h.drop
  | cons A L1 ih =>
    intro st h
    obtain ⟨a, r, h1, h2, ⟨b, c, k1, k2, k3, k4⟩, h4⟩ := h
    have hcr : Disj c r := disj_sub h1 (sub_trans (sub_right k1) k2)
    have hbr : Disj b r := disj_sub h1 (sub_trans (sub_add b c) k2)
    refine ⟨b, c.add r, fun i => ?_, fun i o e => h2 i o ?_, k3, ih ⟨c, r, hcr, St.sub_refl _, k4, h4⟩⟩
    · rcases k1 i with e | e
      · exact .inl e
      · rcases hbr i with e' | e'
        · exact .inl e'
        · exact .inr (add_none.2 ⟨e, e'⟩)
    · simp only [St.add] at e ⊢
      cases hb : b i with
      | some x =>
        rw [hb] at e
        cases e
        rw [k2 i o (by simp [St.add, hb])]
      | none =>
        rw [hb] at e
        simp only at e
        cases hc : c i with
        | some x =>
          rw [hc] at e
          cases e
          rw [k2 i o (by simp [St.add, hb, hc])]
        | none =>
          rw [hc] at e
          simp only at e
          have : a i = none := (h1 i).resolve_right (by rw [e]; simp)
          rw [this]
          exact e
theorem Sep.all {L1 L2 : List Asn} : ∀ {st : St}, Sep (L1 ++ L2) st → Sep (All L1 :: L2) st := by
  induction L1 with
  | nil => exact fun h => h.put trivial
  | cons A L1 ih =>
    intro st h
    obtain ⟨a, r, h1, h2, h3, h4⟩ := h
    obtain ⟨c, d, k1, k2, k3, k4⟩ := ih h4
    have hac : Disj a c := disj_symm (disj_sub (disj_symm h1) (sub_trans (sub_add c d) k2))
    have had : Disj a d := disj_symm (disj_sub (disj_symm h1) (sub_trans (sub_right k1) k2))
    refine ⟨a.add c, d, fun i => ?_, fun i o e => h2 i o ?_, ⟨a, c, hac, St.sub_refl _, h3, k3⟩, k4⟩
    · rcases had i with e | e
      · rcases k1 i with e' | e'
        · exact .inl (add_none.2 ⟨e, e'⟩)
        · exact .inr e'
      · exact .inr e
    · simp only [St.add] at e ⊢
      cases ha : a i with
      | some x => rw [ha] at e; exact e
      | none =>
        rw [ha] at e
        simp only at e ⊢
        exact k2 i o (by simpa [St.add] using e)
section
variable {K A : Type} [DecidableEq K] (ek : K → V) (ev : A → V)
def encM (l : List (K × A)) : List (V × V) := l.map fun p => (ek p.1, ev p.2)
def aSet (k : K) (v : A) : List (K × A) → List (K × A)
  | [] => [(k, v)]
  | p :: l => if k = p.1 then (k, v) :: l else p :: aSet k v l
def aDel (k : K) : List (K × A) → List (K × A)
  | [] => []
  | p :: l => if k = p.1 then l else p :: aDel k l
structure Keyed (kk : KK) : Prop where
  key : ∀ k, isKey kk (ek k) = true
  eq : ∀ a b, keyEq kk (ek a) (ek b) = some (decide (a = b))
variable {ek ev} {kk : KK} (hk : Keyed ek kk)
include hk
theorem mfind_enc (k : K) : ∀ l : List (K × A), mfind kk (ek k) (encM ek ev l) = some ((l.lookup k).map ev)
  | [] => by simp [mfind, encM]
  | (k', v') :: l => by
    have ih := mfind_enc k l
    simp only [encM, List.map_cons, mfind, hk.eq, List.lookup_cons] at ih ⊢
    by_cases h : k = k'
    · simp [h]
    · have : (k == k') = false := by simp [h]
      simp only [h, decide_false, this]
      exact ih
theorem mput_enc (k : K) (v : A) : ∀ l : List (K × A), mput kk (ek k) (ev v) (encM ek ev l) = some (encM ek ev (aSet k v l))
  | [] => by simp [mput, encM, aSet]
  | p :: l => by
    have ih := mput_enc k v l
    simp only [encM, List.map_cons, mput, hk.eq, aSet] at ih ⊢
    by_cases h : k = p.1
    · simp [h]
    · simp only [h, decide_false, if_false, List.map_cons]
      rw [ih]
      rfl
theorem mrem_enc (k : K) : ∀ l : List (K × A), mrem kk (ek k) (encM ek ev l) = some (encM ek ev (aDel k l))
  | [] => by simp [mrem, encM, aDel]
  | p :: l => by
    have ih := mrem_enc k l
    simp only [encM, List.map_cons, mrem, hk.eq, aDel] at ih ⊢
    by_cases h : k = p.1
    · simp [h]
    · simp only [h, decide_false, if_false, List.map_cons]
      rw [ih]
      rfl
theorem lookup_enc {st : St} {id : Nat} {l : List (K × A)} (h : st id = some (.mp (encM ek ev l))) (z : V) (ok : Bool) (k : K) :
    lookupV st kk z ok (.map (some id)) (ek k) = some (if ok then .tup [((l.lookup k).map ev).getD z, .bool (l.lookup k).isSome] else ((l.lookup k).map ev).getD z) := by
  simp [lookupV, hk.key, mapOf, h, mfind_enc hk]
theorem mset_enc {st : St} {id : Nat} {l : List (K × A)} (h : st id = some (.mp (encM ek ev l))) (k : K) (v : A) : msetS st kk (.map (some id)) (ek k) (ev v) = some (st.upd id (.mp (encM ek ev (aSet k v l)))) := by
  simp [msetS, hk.key, h, mput_enc hk]
theorem mdel_enc {st : St} {id : Nat} {l : List (K × A)} (h : st id = some (.mp (encM ek ev l))) (k : K) : mdelS st kk (.map (some id)) (ek k) = some (st.upd id (.mp (encM ek ev (aDel k l)))) := by
  simp [mdelS, hk.key, h, mrem_enc hk]
end
@[simp] theorem encM_length {K A : Type} (ek : K → V) (ev : A → V) (l : List (K × A)) : (encM ek ev l).length = l.length := by simp [encM]
@[simp] theorem encM_nil {K A : Type} (ek : K → V) (ev : A → V) : encM ek ev ([] : List (K × A)) = [] := rfl
theorem lenMap_mp {st : St} {id : Nat} {es : List (V × V)} (h : st id = some (.mp es)) : lenMapV st (.map (some id)) = some (.int .i64 es.length) := by simp [lenMapV, h]
@[simp] theorem lenMap_none {st : St} : lenMapV st (.map none) = some (.int .i64 0) := _root_.id rfl
def kInt (n : Int) : V := .int .i64 n
theorem keyed_int : Keyed kInt .int := ⟨fun _ => rfl, fun a b => by
  simp only [kInt, keyEq, if_true]
  congr 1⟩
abbrev Id := Vector UInt8 32
def eId (x : Id) : List V := x.toList.map fun b => V.int .u8 b.toNat
theorem eId_len (x : Id) : (eId x).length = 32 := by simp [eId]
def kId (x : Id) : V := .agg (eId x)
def eBytes (l : List UInt8) : List V := l.map fun b => V.int .u8 b.toNat
theorem eqL_bytes : ∀ (a b : List UInt8), a.length = b.length → eqL (eBytes a) (eBytes b) = some (decide (a = b))
  | [], [], _ => rfl
  | [], _ :: _, h => by simp at h
  | _ :: _, [], h => by simp at h
  | x :: a, y :: b, h => by
    have ih := eqL_bytes a b (by simpa using h)
    simp only [eBytes, List.map_cons, eqL, if_true] at ih ⊢
    rw [ih]
    simp only [Option.map_some, Option.some.injEq]
    rw [Bool.eq_iff_iff]
    simp only [Bool.and_eq_true, beq_iff_eq, decide_eq_true_eq, List.cons.injEq]
    constructor
    · rintro ⟨h1, h2⟩
      exact ⟨UInt8.toNat_inj.1 (by omega), h2⟩
    · rintro ⟨h1, h2⟩
      exact ⟨by rw [h1], h2⟩
theorem eqL_id (a b : Id) : eqL (eId a) (eId b) = some (decide (a = b)) := by
  have := eqL_bytes a.toList b.toList (by simp)
  rw [show eId a = eBytes a.toList from rfl, show eId b = eBytes b.toList from rfl, this]
  congr 1
  rw [Bool.eq_iff_iff]
  simp only [decide_eq_true_eq]
  exact ⟨fun h => Vector.toList_inj.1 h, fun h => by rw [h]⟩
theorem keyed_id : Keyed kId (.agg 32) := ⟨fun k => by simp [isKey, kId, eId], fun a b => by
  simp only [keyEq, kId]
  rw [if_pos (eId_len a), eqL_id]⟩
def Going (m it : Nat) (l : List ((V × V) × Bool)) (last : Option Nat) : Asn := fun h =>
  ∃ (bs : List Nat) (clk since : Nat) (seen : List Nat) (stp : Nat), h m = some (.mpi (l.map (·.1)) bs clk) ∧ h it = some (.mit (some m) since seen stp) ∧ bs.length = l.length ∧ bs.Pairwise (· < ·) ∧ (∀ b ∈ bs, b < since) ∧ since ≤ stp ∧ stp ≤ clk ∧
    (∀ i (hi : i < l.length), bs.getD i 0 ∈ seen ↔ l[i].2 = true) ∧ ∀ i, last = some i → i < l.length ∧ seen.getLast? = some (bs.getD i 0) ∧ stp = clk
theorem pw_inj {bs : List Nat} (h : bs.Pairwise (· < ·)) {i j : Nat} (hi : i < bs.length) (hj : j < bs.length) (e : bs.getD i 0 = bs.getD j 0) : i = j := by
  have hp := List.pairwise_iff_getElem.1 h
  simp only [List.getD_eq_getElem?_getD, List.getElem?_eq_getElem hi, List.getElem?_eq_getElem hj, Option.getD_some] at e
  rcases Nat.lt_trichotomy i j with hlt | he | hgt
  · have := hp i j hi hj hlt; omega
  · exact he
  · have := hp j i hj hi hgt; omega
theorem Sep.next {m it : Nat} {l : List ((V × V) × Bool)} {last : Option Nat} {L : List Asn} {st : St} (h : Sep (Going m it l last :: L) st) {K : V → St → Prop}
    (h1 : (∀ x ∈ l, x.2 = true) → K (.tup [.bool false]) st)
    (h2 : ∀ i (hi : i < l.length), l[i].2 = false → ∀ st', Sep (Going m it (l.set i (l[i].1, true)) (some i) :: L) st' → K (.tup [.bool true, l[i].1.1, l[i].1.2]) st') : nextMapS (.ptr (some (it, 0))) st K := by
  obtain ⟨a, r, k1, k2, ⟨bs, clk, since, seen, stp, g1, g2, g3, g4, g5, g6, g7, g8, g9⟩, k4⟩ := h
  have e1 := k2 _ _ (add_some g1)
  have e2 := k2 _ _ (add_some g2)
  simp only [nextMapS, e2, e1]
  refine ⟨g5, g6, by simpa using g3, fun hs => h1 fun x hx => ?_, fun i hi hn => ?_⟩
  · obtain ⟨i, hi, rfl⟩ := List.getElem_of_mem hx
    refine (g8 i hi).1 (hs _ ?_)
    rw [List.getD_eq_getElem?_getD, List.getElem?_eq_getElem (by omega)]
    exact List.getElem_mem _
  · have hi' : i < l.length := by simpa using hi
    have hf : l[i].2 = false := by
      cases hb : l[i].2 with
      | false => rfl
      | true => exact absurd ((g8 i hi').2 hb) hn
    have hd : (l.map (·.1)).getD i default = l[i].1 := by
      rw [List.getD_eq_getElem?_getD, List.getElem?_map, List.getElem?_eq_getElem hi']
      rfl
    rw [hd]
    refine h2 i hi' hf _ ?_
    have hne : m ≠ it := fun e => by rw [e, g2] at g1; cases g1
    refine ⟨a.upd it (.mit (some m) since (seen ++ [bs.getD i 0]) clk), r, k1.upd (k1.some g2) _, fun j o e => ?_, ⟨bs, clk, since, seen ++ [bs.getD i 0], clk, ?_, by simp, by simpa using g3, g4, g5, by omega, Nat.le_refl _, fun j hj => ?_, fun j e => ?_⟩, k4⟩
    · rw [upd_add] at e
      by_cases ej : j = it
      · simpa [ej] using e
      · simp only [st_upd, ej, if_false] at e ⊢
        exact k2 j o e
    · have : (l.set i (l[i].1, true)).map (·.1) = l.map (·.1) := by
        rw [List.map_set]
        apply List.ext_getElem
        · simp
        · intro j q1 q2
          simp only [List.getElem_set, List.getElem_map]
          split
          · rename_i e; subst e; rfl
          · rfl
      rw [this]
      simp [hne, g1]
    · simp only [List.length_set] at hj
      simp only [List.mem_append, List.mem_singleton, List.getElem_set]
      by_cases e : i = j
      · subst e; simp
      · simp only [e, if_false]
        rw [← g8 j hj]
        constructor
        · rintro (h | h)
          · exact h
          · exact absurd (pw_inj g4 (by omega) (by omega) h).symm e
        · exact .inl
    · cases e
      exact ⟨by simpa using hi', by simp, rfl⟩
theorem Sep.gone {m it : Nat} {l : List ((V × V) × Bool)} {last : Option Nat} {L : List Asn} {st : St} (h : Sep (Going m it l last :: L) st) :
    frzV st (.map (some m)) = some (.map (some m), st.upd m (.mp (l.map (·.1)))) ∧ Sep (pt m (.mp (l.map (·.1))) :: L) (st.upd m (.mp (l.map (·.1)))) := by
  obtain ⟨a, r, k1, k2, ⟨bs, clk, since, seen, stp, g1, g2, g3, g4, g5, g6, g7, g8, g9⟩, k4⟩ := h
  have e1 := k2 _ _ (add_some g1)
  refine ⟨by simp [frzV, e1], a.upd m (.mp (l.map (·.1))), r, k1.upd (k1.some g1) _, fun j o e => ?_, by simp [pt], k4⟩
  rw [upd_add] at e
  by_cases ej : j = m
  · simpa [ej] using e
  · simp only [st_upd, ej, if_false] at e ⊢
    exact k2 j o e
theorem Sep.mem {i : Nat} {o : AObj} : ∀ {L : List Asn} {st : St}, Sep L st → pt i o ∈ L → st i = some o
  | [], _, _, h => by cases h
  | A :: L, st, hs, h => by
    rcases List.mem_cons.1 h with e | h
    · subst e; exact hs.get
    · obtain ⟨a, r, h1, h2, h3, h4⟩ := hs
      exact h2 _ _ (sub_right h1 _ _ (Sep.mem h4 h))
theorem Sep.memA {A : Asn} : ∀ {L : List Asn} {st : St}, Sep L st → A ∈ L → ∃ h', St.sub h' st ∧ A h'
  | [], _, _, h => by cases h
  | B :: L, st, hs, h => by
    rcases List.mem_cons.1 h with e | h
    · subst e; exact hs.part
    · obtain ⟨a, r, h1, h2, h3, h4⟩ := hs
      obtain ⟨h', k1, k2⟩ := Sep.memA h4 h
      exact ⟨h', sub_trans k1 (sub_trans (sub_right h1) h2), k2⟩
def setM (ks : List Id) : List (V × V) := encM kId V.bool (ks.map fun k => (k, true))
def MapSet (aid : Nat) (keys : List Id) : Asn := fun h => ∃ ks, ks.Perm keys ∧ h aid = some (.mp (setM ks))
def addK (keys : List Id) (x : Id) : List Id := if x ∈ keys then keys else keys ++ [x]
theorem set_lookup {K : Type} [DecidableEq K] (ks : List K) (x : K) : (ks.map fun k => (k, true)).lookup x = if x ∈ ks then some true else none := by
  induction ks with
  | nil => simp
  | cons k l ih =>
    simp only [List.map_cons, List.lookup_cons, ih]
    by_cases h : x = k
    · simp [h]
    · have : (x == k) = false := by simp [h]
      simp [h, this]
theorem set_aSet (ks : List Id) (x : Id) : aSet x true (ks.map fun k => (k, true)) = (addK ks x).map fun k => (k, true) := by
  induction ks with
  | nil => simp [aSet, addK]
  | cons k l ih =>
    simp only [List.map_cons, aSet, addK] at ih ⊢
    by_cases h : x = k
    · simp [h]
    · simp only [h, if_false, List.mem_cons, false_or]
      rw [ih]
      split <;> simp
theorem set_aDel (ks : List Id) (x : Id) : aDel x (ks.map fun k => (k, true)) = (ks.erase x).map fun k => (k, true) := by
  induction ks with
  | nil => simp [aDel]
  | cons k l ih =>
    simp only [List.map_cons, aDel, List.erase_cons]
    by_cases h : x = k
    · simp [h]
    · have : (k == x) = false := by simp; exact fun e => h e.symm
      simp only [h, if_false, this, Bool.false_eq_true]
      rw [ih]
      rfl
theorem addK_perm {a b : List Id} (h : a.Perm b) (x : Id) : (addK a x).Perm (addK b x) := by
  unfold addK
  by_cases hx : x ∈ a
  · rw [if_pos hx, if_pos (h.mem_iff.1 hx)]; exact h
  · rw [if_neg hx, if_neg (fun e => hx (h.mem_iff.2 e))]
    exact h.append_right _
theorem MapSet.look {aid : Nat} {keys : List Id} {st : St} (h : MapSet aid keys st) (x : Id) : lookupV st (.agg 32) (.bool false) false (.map (some aid)) (.agg (eId x)) = some (.bool (decide (x ∈ keys))) := by
  obtain ⟨ks, hp, hs⟩ := h
  have := lookup_enc keyed_id hs (.bool false) false x
  rw [show V.agg (eId x) = kId x from rfl, this, set_lookup]
  by_cases hx : x ∈ ks
  · simp [hx, hp.mem_iff.1 hx]
  · have hx' : x ∉ keys := fun e => hx (hp.mem_iff.2 e)
    simp [hx, hx']
theorem MapSet.len {aid : Nat} {keys : List Id} {st : St} (h : MapSet aid keys st) : lenMapV st (.map (some aid)) = some (.int .i64 keys.length) := by
  obtain ⟨ks, hp, hs⟩ := h
  rw [lenMap_mp hs, ← hp.length_eq]
  simp [setM]
theorem Sep.mset {aid : Nat} {keys : List Id} {L : List Asn} {st : St} (h : Sep (MapSet aid keys :: L) st) (x : Id) : ∃ st', msetS st (.agg 32) (.map (some aid)) (.agg (eId x)) (.bool true) = some st' ∧ Sep (MapSet aid (addK keys x) :: L) st' := by
  obtain ⟨a, r, h1, h2, ⟨ks, hp, hs⟩, h4⟩ := h
  have e := mset_enc keyed_id (h2 _ _ (add_some hs)) x true
  rw [set_aSet] at e
  have hsep : Sep (pt aid (.mp (setM ks)) :: L) st := ⟨a, r, h1, h2, hs, h4⟩
  exact ⟨_, e, (hsep.set _).head fun h hh => ⟨addK ks x, addK_perm hp x, hh⟩⟩
theorem Sep.mdel {aid : Nat} {keys : List Id} {L : List Asn} {st : St} (h : Sep (MapSet aid keys :: L) st) (x : Id) : ∃ st', mdelS st (.agg 32) (.map (some aid)) (.agg (eId x)) = some st' ∧ Sep (MapSet aid (keys.erase x) :: L) st' := by
  obtain ⟨a, r, h1, h2, ⟨ks, hp, hs⟩, h4⟩ := h
  have e := mdel_enc keyed_id (h2 _ _ (add_some hs)) x
  rw [set_aDel] at e
  have hsep : Sep (pt aid (.mp (setM ks)) :: L) st := ⟨a, r, h1, h2, hs, h4⟩
  exact ⟨_, e, (hsep.set _).head fun h hh => ⟨ks.erase x, hp.erase x, hh⟩⟩
theorem MapSet.sub {aid : Nat} {keys : List Id} {h st : St} (hs : MapSet aid keys h) (hsub : St.sub h st) : MapSet aid keys st := by
  obtain ⟨ks, hp, hh⟩ := hs
  exact ⟨ks, hp, hsub _ _ hh⟩
end Go.Ab
set_option linter.unusedSimpArgs false
set_option linter.unusedVariables false
namespace Go.Ab
open Go Go.RowKit
def w32 (x : BitVec 32) : V := .int .u32 x.toNat
def w64 (x : BitVec 64) : V := .int .u64 x.toNat
def w8 (x : UInt8) : V := .int .u8 x.toNat
theorem wrap_u32 (n : Int) : IntKind.u32.wrap n = ((BitVec.ofInt 32 n).toNat : Int) := by
  simp [IntKind.wrap, IntKind.bits, IntKind.signed]
  omega
theorem wrap_u64 (n : Int) : IntKind.u64.wrap n = ((BitVec.ofInt 64 n).toNat : Int) := by
  simp [IntKind.wrap, IntKind.bits, IntKind.signed]
  omega
theorem wrap_u8 (n : Int) : IntKind.u8.wrap n = ((UInt8.ofBitVec (BitVec.ofInt 8 n)).toNat : Int) := by
  simp [IntKind.wrap, IntKind.bits, IntKind.signed]
  omega
@[simp high] theorem w32_cells (x : BitVec 32) : (w32 x).cells? = some [w32 x] := _root_.id rfl
@[simp high] theorem w64_cells (x : BitVec 64) : (w64 x).cells? = some [w64 x] := _root_.id rfl
@[simp high] theorem w8_cells (x : UInt8) : (w8 x).cells? = some [w8 x] := _root_.id rfl
theorem ofInt_nat {n : Nat} (a : BitVec n) : BitVec.ofInt n (a.toNat : Int) = a := by
  rw [BitVec.ofInt_natCast]; simp
theorem shr_nat (n m : Nat) : ((n : Int).fdiv (2 ^ m)) = ((n >>> m : Nat) : Int) := by
  rw [Nat.shiftRight_eq_div_pow, Int.fdiv_eq_ediv_of_nonneg _ (by exact Int.le_of_lt (Int.pow_pos (by omega)))]
  simp
section
variable (a b : BitVec 32)
@[simp high] theorem bin32_add : binV .add (w32 a) (w32 b) = some (w32 (a + b)) := by
  simp only [w32, binV, binI, if_true, wrap_u32]
  rw [BitVec.ofInt_add, ofInt_nat, ofInt_nat]
@[simp high] theorem bin32_sub : binV .sub (w32 a) (w32 b) = some (w32 (a - b)) := by
  simp only [w32, binV, binI, if_true, wrap_u32]
  rw [Int.sub_eq_add_neg, BitVec.ofInt_add, BitVec.ofInt_neg, ofInt_nat, ofInt_nat, BitVec.sub_eq_add_neg]
@[simp high] theorem bin32_mul : binV .mul (w32 a) (w32 b) = some (w32 (a * b)) := by
  simp only [w32, binV, binI, if_true, wrap_u32]
  rw [BitVec.ofInt_mul, ofInt_nat, ofInt_nat]
theorem bits32 (op : BinOp) : bits op .u32 (a.toNat : Int) (b.toNat : Int) = (((match op with | .and => a &&& b | .or => a ||| b | .xor => a ^^^ b | _ => a &&& ~~~b) : BitVec 32).toNat : Int) := by
  have key : ∀ z : BitVec 32, IntKind.u32.wrap (z.toNat : Int) = (z.toNat : Int) := fun z => by rw [wrap_u32, ofInt_nat]
  have ha : BitVec.ofInt IntKind.u32.bits (a.toNat : Int) = a := ofInt_nat a
  have hb : BitVec.ofInt IntKind.u32.bits (b.toNat : Int) = b := ofInt_nat b
  unfold bits
  rw [ha, hb]
  cases op <;> exact key _
@[simp high] theorem bin32_and : binV .and (w32 a) (w32 b) = some (w32 (a &&& b)) := by
  simp only [w32, binV, binI, if_true, bits32]
@[simp high] theorem bin32_or : binV .or (w32 a) (w32 b) = some (w32 (a ||| b)) := by
  simp only [w32, binV, binI, if_true, bits32]
@[simp high] theorem bin32_xor : binV .xor (w32 a) (w32 b) = some (w32 (a ^^^ b)) := by
  simp only [w32, binV, binI, if_true, bits32]
@[simp high] theorem inv32 : invV (w32 a) = some (w32 (~~~a)) := by
  have h := bits32 (BitVec.allOnes 32) a .xor
  have hm : (if IntKind.u32.signed = true then (-1 : Int) else IntKind.u32.max) = ((BitVec.allOnes 32).toNat : Int) := by decide
  simp only [w32, invV, hm, h, BitVec.allOnes_xor]
@[simp high] theorem bin32_eql : binV .eql (w32 a) (w32 b) = some (.bool (a == b)) := by
  simp only [w32, binV, binI, if_true]
  congr 2
  by_cases h : a = b
  · simp [h]
  · have : (a == b) = false := by simp [h]
    rw [this]
    have h2 : a.toNat ≠ b.toNat := fun e => h (BitVec.eq_of_toNat_eq e)
    simp; omega
@[simp high] theorem bin32_neq : binV .neq (w32 a) (w32 b) = some (.bool (a != b)) := by
  have := bin32_eql a b
  simp only [w32, binV, binI, if_true, Option.some.injEq, V.bool.injEq] at this ⊢
  simp only [bne, this]
@[simp high] theorem bin32_lss : binV .lss (w32 a) (w32 b) = some (.bool (decide (a < b))) := by
  simp [w32, BitVec.lt_def]
@[simp high] theorem bin32_leq : binV .leq (w32 a) (w32 b) = some (.bool (decide (a ≤ b))) := by
  simp [w32, BitVec.le_def]
@[simp high] theorem bin32_gtr : binV .gtr (w32 a) (w32 b) = some (.bool (decide (b < a))) := by
  simp [w32, BitVec.lt_def]
@[simp high] theorem bin32_geq : binV .geq (w32 a) (w32 b) = some (.bool (decide (b ≤ a))) := by
  simp [w32, BitVec.le_def]
@[simp high] theorem bin32_shr (k : IntKind) (n : Nat) : binV .shr (w32 a) (.int k (n : Int)) = some (w32 (a >>> n)) := by
  have h0 : ¬ ((n : Int) < 0) := by omega
  simp only [w32, binV, h0, if_false, Int.toNat_natCast]
  congr 2
  rw [shr_nat, BitVec.toNat_ushiftRight]
  congr 1
  by_cases h : n ≤ 32
  · rw [show Nat.min n IntKind.u32.bits = n from Nat.min_eq_left h]
  · rw [show Nat.min n IntKind.u32.bits = 32 from Nat.min_eq_right (by show 32 ≤ n; omega)]
    have h1 := a.isLt
    rw [Nat.shiftRight_eq_div_pow, Nat.shiftRight_eq_div_pow, Nat.div_eq_of_lt h1, Nat.div_eq_of_lt (Nat.lt_of_lt_of_le h1 (Nat.pow_le_pow_right (by omega) (by omega)))]
@[simp high] theorem bin32_shl (k : IntKind) (n : Nat) : binV .shl (w32 a) (.int k (n : Int)) = some (w32 (a <<< n)) := by
  have h0 : ¬ ((n : Int) < 0) := by omega
  simp only [w32, binV, h0, if_false, Int.toNat_natCast, wrap_u32]
  congr 2
  have hp : ((a.toNat : Int) * 2 ^ (Nat.min n IntKind.u32.bits)) = ((a.toNat * 2 ^ (Nat.min n 32) : Nat) : Int) := by
    simp [IntKind.bits]
  rw [hp, BitVec.ofInt_natCast, BitVec.toNat_ofNat, BitVec.toNat_shiftLeft, Nat.shiftLeft_eq]
  by_cases h : n ≤ 32
  · rw [show Nat.min n 32 = n from Nat.min_eq_left h]
  · rw [show Nat.min n 32 = 32 from Nat.min_eq_right (by omega)]
    rw [show n = 32 + (n - 32) by omega, Nat.pow_add, ← Nat.mul_assoc, Nat.mul_right_comm]
    simp
end
section
variable (a b : BitVec 64)
@[simp high] theorem bin64_add : binV .add (w64 a) (w64 b) = some (w64 (a + b)) := by
  simp only [w64, binV, binI, if_true, wrap_u64]
  rw [BitVec.ofInt_add, ofInt_nat, ofInt_nat]
@[simp high] theorem bin64_sub : binV .sub (w64 a) (w64 b) = some (w64 (a - b)) := by
  simp only [w64, binV, binI, if_true, wrap_u64]
  rw [Int.sub_eq_add_neg, BitVec.ofInt_add, BitVec.ofInt_neg, ofInt_nat, ofInt_nat, BitVec.sub_eq_add_neg]
@[simp high] theorem bin64_mul : binV .mul (w64 a) (w64 b) = some (w64 (a * b)) := by
  simp only [w64, binV, binI, if_true, wrap_u64]
  rw [BitVec.ofInt_mul, ofInt_nat, ofInt_nat]
theorem bits64 (op : BinOp) : bits op .u64 (a.toNat : Int) (b.toNat : Int) = (((match op with | .and => a &&& b | .or => a ||| b | .xor => a ^^^ b | _ => a &&& ~~~b) : BitVec 64).toNat : Int) := by
  have key : ∀ z : BitVec 64, IntKind.u64.wrap (z.toNat : Int) = (z.toNat : Int) := fun z => by rw [wrap_u64, ofInt_nat]
  have ha : BitVec.ofInt IntKind.u64.bits (a.toNat : Int) = a := ofInt_nat a
  have hb : BitVec.ofInt IntKind.u64.bits (b.toNat : Int) = b := ofInt_nat b
  unfold bits
  rw [ha, hb]
  cases op <;> exact key _
@[simp high] theorem bin64_and : binV .and (w64 a) (w64 b) = some (w64 (a &&& b)) := by
  simp only [w64, binV, binI, if_true, bits64]
@[simp high] theorem bin64_or : binV .or (w64 a) (w64 b) = some (w64 (a ||| b)) := by
  simp only [w64, binV, binI, if_true, bits64]
@[simp high] theorem bin64_xor : binV .xor (w64 a) (w64 b) = some (w64 (a ^^^ b)) := by
  simp only [w64, binV, binI, if_true, bits64]
@[simp high] theorem inv64 : invV (w64 a) = some (w64 (~~~a)) := by
  have h := bits64 (BitVec.allOnes 64) a .xor
  have hm : (if IntKind.u64.signed = true then (-1 : Int) else IntKind.u64.max) = ((BitVec.allOnes 64).toNat : Int) := by decide
  simp only [w64, invV, hm, h, BitVec.allOnes_xor]
@[simp high] theorem bin64_eql : binV .eql (w64 a) (w64 b) = some (.bool (a == b)) := by
  simp only [w64, binV, binI, if_true]
  congr 2
  by_cases h : a = b
  · simp [h]
  · have : (a == b) = false := by simp [h]
    rw [this]
    have h2 : a.toNat ≠ b.toNat := fun e => h (BitVec.eq_of_toNat_eq e)
    simp; omega
@[simp high] theorem bin64_neq : binV .neq (w64 a) (w64 b) = some (.bool (a != b)) := by
  have := bin64_eql a b
  simp only [w64, binV, binI, if_true, Option.some.injEq, V.bool.injEq] at this ⊢
  simp only [bne, this]
@[simp high] theorem bin64_lss : binV .lss (w64 a) (w64 b) = some (.bool (decide (a < b))) := by
  simp [w64, BitVec.lt_def]
@[simp high] theorem bin64_leq : binV .leq (w64 a) (w64 b) = some (.bool (decide (a ≤ b))) := by
  simp [w64, BitVec.le_def]
@[simp high] theorem bin64_gtr : binV .gtr (w64 a) (w64 b) = some (.bool (decide (b < a))) := by
  simp [w64, BitVec.lt_def]
@[simp high] theorem bin64_geq : binV .geq (w64 a) (w64 b) = some (.bool (decide (b ≤ a))) := by
  simp [w64, BitVec.le_def]
@[simp high] theorem bin64_shr (k : IntKind) (n : Nat) : binV .shr (w64 a) (.int k (n : Int)) = some (w64 (a >>> n)) := by
  have h0 : ¬ ((n : Int) < 0) := by omega
  simp only [w64, binV, h0, if_false, Int.toNat_natCast]
  congr 2
  rw [shr_nat, BitVec.toNat_ushiftRight]
  congr 1
  by_cases h : n ≤ 64
  · rw [show Nat.min n IntKind.u64.bits = n from Nat.min_eq_left h]
  · rw [show Nat.min n IntKind.u64.bits = 64 from Nat.min_eq_right (by show 64 ≤ n; omega)]
    have h1 := a.isLt
    rw [Nat.shiftRight_eq_div_pow, Nat.shiftRight_eq_div_pow, Nat.div_eq_of_lt h1, Nat.div_eq_of_lt (Nat.lt_of_lt_of_le h1 (Nat.pow_le_pow_right (by omega) (by omega)))]
@[simp high] theorem bin64_shl (k : IntKind) (n : Nat) : binV .shl (w64 a) (.int k (n : Int)) = some (w64 (a <<< n)) := by
  have h0 : ¬ ((n : Int) < 0) := by omega
  simp only [w64, binV, h0, if_false, Int.toNat_natCast, wrap_u64]
  congr 2
  have hp : ((a.toNat : Int) * 2 ^ (Nat.min n IntKind.u64.bits)) = ((a.toNat * 2 ^ (Nat.min n 64) : Nat) : Int) := by
    simp [IntKind.bits]
  rw [hp, BitVec.ofInt_natCast, BitVec.toNat_ofNat, BitVec.toNat_shiftLeft, Nat.shiftLeft_eq]
  by_cases h : n ≤ 64
  · rw [show Nat.min n 64 = n from Nat.min_eq_left h]
  · rw [show Nat.min n 64 = 64 from Nat.min_eq_right (by omega)]
    rw [show n = 64 + (n - 64) by omega, Nat.pow_add, ← Nat.mul_assoc, Nat.mul_right_comm]
    simp
end
@[simp high] theorem bin32_shl_w (a : BitVec 32) (s : BitVec 64) : binV .shl (w32 a) (w64 s) = some (w32 (a <<< s.toNat)) := bin32_shl a .u64 s.toNat
@[simp high] theorem bin32_shr_w (a : BitVec 32) (s : BitVec 64) : binV .shr (w32 a) (w64 s) = some (w32 (a >>> s.toNat)) := bin32_shr a .u64 s.toNat
@[simp high] theorem bin64_shl_w (a : BitVec 64) (s : BitVec 64) : binV .shl (w64 a) (w64 s) = some (w64 (a <<< s.toNat)) := bin64_shl a .u64 s.toNat
@[simp high] theorem bin64_shr_w (a : BitVec 64) (s : BitVec 64) : binV .shr (w64 a) (w64 s) = some (w64 (a >>> s.toNat)) := bin64_shr a .u64 s.toNat
@[simp high] theorem conv_8_32 (b : UInt8) : convV .u32 (w8 b) = some (w32 (b.toBitVec.setWidth 32)) := by
  simp only [w8, w32, convV, wrap_u32]
  congr 2
  simp [BitVec.ofInt_natCast]
@[simp high] theorem conv_8_64 (b : UInt8) : convV .u64 (w8 b) = some (w64 (b.toBitVec.setWidth 64)) := by
  simp only [w8, w64, convV, wrap_u64]
  congr 2
  simp [BitVec.ofInt_natCast]
@[simp high] theorem conv_32_64 (a : BitVec 32) : convV .u64 (w32 a) = some (w64 (a.setWidth 64)) := by
  simp only [w32, w64, convV, wrap_u64]
  congr 2
  simp [BitVec.ofInt_natCast]
@[simp high] theorem conv_64_32 (a : BitVec 64) : convV .u32 (w64 a) = some (w32 (a.setWidth 32)) := by
  simp only [w32, w64, convV, wrap_u32]
  congr 2
@[simp high] theorem conv_32_8 (a : BitVec 32) : convV .u8 (w32 a) = some (w8 (UInt8.ofBitVec (a.setWidth 8))) := by
  simp only [w32, w8, convV, wrap_u8]
  congr 2
@[simp high] theorem conv_64_8 (a : BitVec 64) : convV .u8 (w64 a) = some (w8 (UInt8.ofBitVec (a.setWidth 8))) := by
  simp only [w64, w8, convV, wrap_u8]
  congr 2
@[simp high] theorem conv_8_i (b : UInt8) : convV .i64 (w8 b) = some (.int .i64 b.toNat) := by
  have := b.toNat_lt
  simp only [w8, convV]
  rw [wrap64 (by omega) (by omega)]
@[simp high] theorem conv_32_i (b : BitVec 32) : convV .i64 (w32 b) = some (.int .i64 b.toNat) := by
  have := b.isLt
  simp only [w32, convV]
  rw [wrap64 (by omega) (by omega)]
@[simp high] theorem conv_64_i (b : BitVec 64) : convV .i64 (w64 b) = some (.int .i64 b.toInt) := by
  simp only [w64, convV, IntKind.wrap, IntKind.bits, IntKind.signed, BitVec.toInt]
  have := b.isLt
  congr 2
  simp
  split <;> split <;> omega
@[simp high] theorem conv_i_8 (n : Int) : convV .u8 (.int .i64 n) = some (w8 (UInt8.ofBitVec (BitVec.ofInt 8 n))) := by
  simp only [convV, w8, wrap_u8]
@[simp high] theorem conv_i_32 (n : Int) : convV .u32 (.int .i64 n) = some (w32 (BitVec.ofInt 32 n)) := by
  simp only [convV, w32, wrap_u32]
@[simp high] theorem conv_i_64 (n : Int) : convV .u64 (.int .i64 n) = some (w64 (BitVec.ofInt 64 n)) := by
  simp only [convV, w64, wrap_u64]
theorem tdiv_nat (a b : Nat) : Int.tdiv (a : Int) (b : Int) = ((a / b : Nat) : Int) := by
  rw [Int.tdiv_eq_ediv_of_nonneg (by omega)]; rfl
theorem tmod_nat (a b : Nat) : Int.tmod (a : Int) (b : Int) = ((a % b : Nat) : Int) := by
  rw [Int.tmod_eq_emod_of_nonneg (by omega)]; rfl
theorem ne_toNat {n : Nat} {b : BitVec n} (h : b ≠ 0#n) : (b.toNat : Int) ≠ 0 := fun e => h (BitVec.eq_of_toNat_eq (by simpa using e))
@[simp high] theorem bin64_quo (a b : BitVec 64) (h : b ≠ 0#64) : binV .quo (w64 a) (w64 b) = some (w64 (a / b)) := by
  simp only [w64, binV, binI, if_true, if_neg (ne_toNat h), tdiv_nat, wrap_u64]
  rw [← BitVec.toNat_udiv, ofInt_nat]
@[simp high] theorem bin64_rem (a b : BitVec 64) (h : b ≠ 0#64) : binV .rem (w64 a) (w64 b) = some (w64 (a % b)) := by
  simp only [w64, binV, binI, if_true, if_neg (ne_toNat h), tmod_nat]
  congr 2
@[simp high] theorem bin32_quo (a b : BitVec 32) (h : b ≠ 0#32) : binV .quo (w32 a) (w32 b) = some (w32 (a / b)) := by
  simp only [w32, binV, binI, if_true, if_neg (ne_toNat h), tdiv_nat, wrap_u32]
  rw [← BitVec.toNat_udiv, ofInt_nat]
@[simp high] theorem bin32_rem (a b : BitVec 32) (h : b ≠ 0#32) : binV .rem (w32 a) (w32 b) = some (w32 (a % b)) := by
  simp only [w32, binV, binI, if_true, if_neg (ne_toNat h), tmod_nat]
  congr 2
end Go.Ab
set_option linter.unusedVariables false
namespace Go.Ab
open Go
def zR64_w320 : List V := [(w32 0), (w32 0), (w32 0), (w32 0), (w32 0), (w32 0), (w32 0), (w32 0), (w32 0), (w32 0), (w32 0), (w32 0), (w32 0), (w32 0), (w32 0), (w32 0), (w32 0), (w32 0), (w32 0), (w32 0), (w32 0), (w32 0), (w32 0), (w32 0), (w32 0), (w32 0), (w32 0), (w32 0), (w32 0), (w32 0), (w32 0), (w32 0), (w32 0), (w32 0), (w32 0), (w32 0), (w32 0), (w32 0), (w32 0), (w32 0), (w32 0), (w32 0), (w32 0), (w32 0), (w32 0), (w32 0), (w32 0), (w32 0), (w32 0), (w32 0), (w32 0), (w32 0), (w32 0), (w32 0), (w32 0), (w32 0), (w32 0), (w32 0), (w32 0), (w32 0), (w32 0), (w32 0), (w32 0), (w32 0)]
@[simp] theorem zR64_w320_len : zR64_w320.length = 64 := _root_.id rfl
def zR32_w80 : List V := [(w8 0), (w8 0), (w8 0), (w8 0), (w8 0), (w8 0), (w8 0), (w8 0), (w8 0), (w8 0), (w8 0), (w8 0), (w8 0), (w8 0), (w8 0), (w8 0), (w8 0), (w8 0), (w8 0), (w8 0), (w8 0), (w8 0), (w8 0), (w8 0), (w8 0), (w8 0), (w8 0), (w8 0), (w8 0), (w8 0), (w8 0), (w8 0)]
@[simp] theorem zR32_w80_len : zR32_w80.length = 32 := _root_.id rfl
def z68_39b1 : List V := [(w32 0), (w8 0), (w8 0), (w8 0), (w8 0), (w8 0), (w8 0), (w8 0), (w8 0), (w8 0), (w8 0), (w8 0), (w8 0), (w8 0), (w8 0), (w8 0), (w8 0), (w8 0), (w8 0), (w8 0), (w8 0), (w8 0), (w8 0), (w8 0), (w8 0), (w8 0), (w8 0), (w8 0), (w8 0), (w8 0), (w8 0), (w8 0), (w8 0), (w8 0), (w8 0), (w8 0), (w8 0), (w8 0), (w8 0), (w8 0), (w8 0), (w8 0), (w8 0), (w8 0), (w8 0), (w8 0), (w8 0), (w8 0), (w8 0), (w8 0), (w8 0), (w8 0), (w8 0), (w8 0), (w8 0), (w8 0), (w8 0), (w8 0), (w8 0), (w8 0), (w8 0), (w8 0), (w8 0), (w8 0), (w8 0), (w32 0), (w32 0), (w32 0)]
@[simp] theorem z68_39b1_len : z68_39b1.length = 68 := _root_.id rfl
def z76_2d2c : List V := [(w32 0), (.int .i64 0), (.int .i64 0), (.int .i64 0), (.int .i64 0), (w32 0), (w8 0), (w8 0), (w8 0), (w8 0), (w8 0), (w8 0), (w8 0), (w8 0), (w8 0), (w8 0), (w8 0), (w8 0), (w8 0), (w8 0), (w8 0), (w8 0), (w8 0), (w8 0), (w8 0), (w8 0), (w8 0), (w8 0), (w8 0), (w8 0), (w8 0), (w8 0), (w8 0), (w8 0), (w8 0), (w8 0), (w8 0), (w8 0), (w8 0), (w8 0), (w8 0), (w8 0), (w8 0), (w8 0), (w8 0), (w8 0), (w8 0), (w8 0), (w8 0), (w8 0), (w8 0), (w8 0), (w8 0), (w8 0), (w8 0), (w8 0), (w8 0), (w8 0), (w8 0), (w8 0), (w8 0), (w8 0), (w8 0), (w8 0), (w8 0), (w8 0), (w8 0), (w8 0), (w8 0), (w8 0), (w32 0), (w32 0), (w32 0), (.sl .nil [] 0), (.sl .nil [] 0), (.map none)]
@[simp] theorem z76_2d2c_len : z76_2d2c.length = 76 := _root_.id rfl
def z108_9b14 : List V := [(w32 0), (w8 0), (w8 0), (w8 0), (w8 0), (w8 0), (w8 0), (w8 0), (w8 0), (w8 0), (w8 0), (w8 0), (w8 0), (w8 0), (w8 0), (w8 0), (w8 0), (w8 0), (w8 0), (w8 0), (w8 0), (w8 0), (w8 0), (w8 0), (w8 0), (w8 0), (w8 0), (w8 0), (w8 0), (w8 0), (w8 0), (w8 0), (w8 0), (w8 0), (w8 0), (w8 0), (w8 0), (w8 0), (w8 0), (w8 0), (w8 0), (w8 0), (w8 0), (w8 0), (w8 0), (w8 0), (w8 0), (w8 0), (w8 0), (w8 0), (w8 0), (w8 0), (w8 0), (w8 0), (w8 0), (w8 0), (w8 0), (w8 0), (w8 0), (w8 0), (w8 0), (w8 0), (w8 0), (w8 0), (w8 0), (w32 0), (w32 0), (w32 0), (w8 0), (w8 0), (w8 0), (w8 0), (w8 0), (w8 0), (w8 0), (w8 0), (w8 0), (w8 0), (w8 0), (w8 0), (w8 0), (w8 0), (w8 0), (w8 0), (w8 0), (w8 0), (w8 0), (w8 0), (w8 0), (w8 0), (w8 0), (w8 0), (w8 0), (w8 0), (w8 0), (w8 0), (w8 0), (w8 0), (w8 0), (w8 0), (.int .i64 0), (.int .i64 0), (.int .i64 0), (w64 0), (w64 0), (w64 0), (w64 0), (.bool false)]
@[simp] theorem z108_9b14_len : z108_9b14.length = 108 := _root_.id rfl
def z74_2f53 : List V := [(w32 0), (.int .i64 0), (.int .i64 0), (.int .i64 0), (.int .i64 0), (w32 0), (w8 0), (w8 0), (w8 0), (w8 0), (w8 0), (w8 0), (w8 0), (w8 0), (w8 0), (w8 0), (w8 0), (w8 0), (w8 0), (w8 0), (w8 0), (w8 0), (w8 0), (w8 0), (w8 0), (w8 0), (w8 0), (w8 0), (w8 0), (w8 0), (w8 0), (w8 0), (w8 0), (w8 0), (w8 0), (w8 0), (w8 0), (w8 0), (w8 0), (w8 0), (w8 0), (w8 0), (w8 0), (w8 0), (w8 0), (w8 0), (w8 0), (w8 0), (w8 0), (w8 0), (w8 0), (w8 0), (w8 0), (w8 0), (w8 0), (w8 0), (w8 0), (w8 0), (w8 0), (w8 0), (w8 0), (w8 0), (w8 0), (w8 0), (w8 0), (w8 0), (w8 0), (w8 0), (w8 0), (w8 0), (w32 0), (w32 0), (w32 0), (.sl .nil [] 0)]
@[simp] theorem z74_2f53_len : z74_2f53.length = 74 := _root_.id rfl
def z69_adc1 : List V := [(w32 0), (w8 0), (w8 0), (w8 0), (w8 0), (w8 0), (w8 0), (w8 0), (w8 0), (w8 0), (w8 0), (w8 0), (w8 0), (w8 0), (w8 0), (w8 0), (w8 0), (w8 0), (w8 0), (w8 0), (w8 0), (w8 0), (w8 0), (w8 0), (w8 0), (w8 0), (w8 0), (w8 0), (w8 0), (w8 0), (w8 0), (w8 0), (w8 0), (w8 0), (w8 0), (w8 0), (w8 0), (w8 0), (w8 0), (w8 0), (w8 0), (w8 0), (w8 0), (w8 0), (w8 0), (w8 0), (w8 0), (w8 0), (w8 0), (w8 0), (w8 0), (w8 0), (w8 0), (w8 0), (w8 0), (w8 0), (w8 0), (w8 0), (w8 0), (w8 0), (w8 0), (w8 0), (w8 0), (w8 0), (w8 0), (w32 0), (w32 0), (w32 0), (.sl .nil [] 0)]
@[simp] theorem z69_adc1_len : z69_adc1.length = 69 := _root_.id rfl
def z104_1a18 : List V := [(w32 0), (w8 0), (w8 0), (w8 0), (w8 0), (w8 0), (w8 0), (w8 0), (w8 0), (w8 0), (w8 0), (w8 0), (w8 0), (w8 0), (w8 0), (w8 0), (w8 0), (w8 0), (w8 0), (w8 0), (w8 0), (w8 0), (w8 0), (w8 0), (w8 0), (w8 0), (w8 0), (w8 0), (w8 0), (w8 0), (w8 0), (w8 0), (w8 0), (w8 0), (w8 0), (w8 0), (w8 0), (w8 0), (w8 0), (w8 0), (w8 0), (w8 0), (w8 0), (w8 0), (w8 0), (w8 0), (w8 0), (w8 0), (w8 0), (w8 0), (w8 0), (w8 0), (w8 0), (w8 0), (w8 0), (w8 0), (w8 0), (w8 0), (w8 0), (w8 0), (w8 0), (w8 0), (w8 0), (w8 0), (w8 0), (w32 0), (w32 0), (w32 0), (w8 0), (w8 0), (w8 0), (w8 0), (w8 0), (w8 0), (w8 0), (w8 0), (w8 0), (w8 0), (w8 0), (w8 0), (w8 0), (w8 0), (w8 0), (w8 0), (w8 0), (w8 0), (w8 0), (w8 0), (w8 0), (w8 0), (w8 0), (w8 0), (w8 0), (w8 0), (w8 0), (w8 0), (w8 0), (w8 0), (w8 0), (w8 0), (.int .i64 0), (.int .i64 0), (.sl .nil [] 0), (.bool false)]
@[simp] theorem z104_1a18_len : z104_1a18.length = 104 := _root_.id rfl
end Go.Ab
set_option linter.unusedVariables false
namespace Go.Ab
open Go
def k121 (F : Fn) : PF := PF.mk 27 1 [(.t 2)] (.seq (.ops [(PO.mk (some 1) (.box (.t 0)) none), (PO.mk (some 2) (.mv (.k (.sl .nil [] 0))) none)]) (.seq (.ops [(PO.mk (some 3) (.mv (.k (.sl .nil [] 0))) none)]) (.seq (.seq (.ops [(PO.mk (some 4) (.mv (.k (.int .i64 0))) none)]) (.block 0 (.loop (.seq (.seq (.ops [(PO.mk (some 7) (.mv (.t 4)) none), (PO.mk (some 8) (.bin .lss (.t 7) (.k (.int .i64 4))) none)]) (.cond (.t 8) .skip (.exit 0))) (.seq (.block 1 (.seq (.ops [(PO.mk (some 11) (.mv (.t 4)) none), (PO.mk (some 12) (.idxArr 4 1 (.t 1) (.t 11)) none), (PO.mk (some 13) (.load false 1 (.t 12)) none), (PO.mk (some 5) (.mv (.t 13)) none)]) (.seq (.ops [(PO.mk (some 6) (.mv (.k (.int .i64 0))) none)]) (.block 2 (.loop (.seq (.seq (.ops [(PO.mk (some 14) (.mv (.t 6)) none), (PO.mk (some 15) (.bin .lss (.t 14) (.k (.int .i64 64))) none)]) (.cond (.t 15) .skip (.exit 2))) (.seq (.block 3 (.seq (.ops [(PO.mk (some 18) (.mv (.t 3)) none), (PO.mk (some 19) (.mv (.t 5)) none), (PO.mk (some 20) (.bin .rem (.t 19) (.k (w64 2))) none), (PO.mk (some 21) (.bin .eql (.t 20) (.k (w64 1))) none), (PO.mk (some 22) (.bsl false 1 1 [(.bool false)] [(0, (1, (.t 21)))]) none), (PO.mk (some 23) (.app 1 1 (.t 18) (.t 22)) none), (PO.mk (some 3) (.mv (.t 23)) none)]) (.ops [(PO.mk (some 24) (.mv (.t 5)) none), (PO.mk (some 25) (.bin .quo (.t 24) (.k (w64 2))) none), (PO.mk (some 5) (.mv (.t 25)) none)]))) (.ops [(PO.mk (some 16) (.mv (.t 6)) none), (PO.mk (some 17) (.bin .add (.t 16) (.k (.int .i64 1))) none), (PO.mk (some 6) (.mv (.t 17)) none)])))))))) (.ops [(PO.mk (some 9) (.mv (.t 4)) none), (PO.mk (some 10) (.bin .add (.t 9) (.k (.int .i64 1))) none), (PO.mk (some 4) (.mv (.t 10)) none)])))))) (.seq (.seq (.frz [3]) (.ops [(PO.mk (some 26) (.mv (.t 3)) none), (PO.mk (some 2) (.mv (.t 26)) none)])) .ret))))
def k122 (F : Fn) : PF := PF.mk 42 1 [(PR.cell 2 true 4), (.t 3)] (.seq (.ops [(PO.mk (some 2) (.alloc [(w64 0), (w64 0), (w64 0), (w64 0)]) none), (PO.mk (some 3) (.mv (.k (.bool false))) none)]) (.seq (.ops [(PO.mk (some 7) (.build [(w64 0), (w64 0), (w64 0), (w64 0)] []) none), (PO.mk (some 4) (.alloc [(w64 0), (w64 0), (w64 0), (w64 0)]) none), (PO.mk none (.store 4 (.t 4) (.t 7)) none)]) (.seq (.ops [(PO.mk (some 5) (.mv (.k (.bool false))) none)]) (.seq (.seq (.ops [(PO.mk (some 8) (.mv (.t 0)) none), (PO.mk (some 9) (.lenSl (.t 8)) none), (PO.mk (some 10) (.bin .sub (.t 9) (.k (.int .i64 1))) none), (PO.mk (some 6) (.mv (.t 10)) none)]) (.block 0 (.loop (.seq (.seq (.ops [(PO.mk (some 11) (.mv (.t 6)) none), (PO.mk (some 12) (.bin .geq (.t 11) (.k (.int .i64 0))) none)]) (.cond (.t 12) .skip (.exit 0))) (.seq (.block 1 (.seq (.seq (.ops [(PO.mk (some 15) (.mv (.t 6)) none), (PO.mk (some 16) (.bin .geq (.t 15) (.k (.int .i64 256))) none)]) (.cond (.t 16) (.seq (.ops [(PO.mk (some 17) (.mv (.t 5)) none), (PO.mk (some 18) (.mv (.t 17)) none), (PO.mk (some 19) (.mv (.t 0)) (some (18, false))), (PO.mk (some 20) (.mv (.t 6)) (some (18, false))), (PO.mk (some 21) (.idxSl 1 (.t 19) (.t 20)) (some (18, false))), (PO.mk (some 22) (.load false 1 (.t 21)) (some (18, false))), (PO.mk (some 23) (.pick (.t 18) (.k (.bool true)) (.t 22)) none), (PO.mk (some 5) (.mv (.t 23)) none)]) (.exit 1)) .skip)) (.seq (.ops [(PO.mk (some 24) (.mv (.t 6)) none), (PO.mk (some 25) (.bin .quo (.t 24) (.k (.int .i64 64))) none), (PO.mk (some 26) (.idxArr 4 1 (.t 4) (.t 25)) none), (PO.mk (some 27) (.load false 1 (.t 26)) none), (PO.mk (some 28) (.bin .mul (.t 27) (.k (w64 2))) none), (PO.mk (some 29) (.idxArr 4 1 (.t 4) (.t 25)) none), (PO.mk none (.store 1 (.t 29) (.t 28)) none)]) (.seq (.ops [(PO.mk (some 30) (.mv (.t 0)) none), (PO.mk (some 31) (.mv (.t 6)) none), (PO.mk (some 32) (.idxSl 1 (.t 30) (.t 31)) none), (PO.mk (some 33) (.load false 1 (.t 32)) none)]) (.cond (.t 33) (.ops [(PO.mk (some 34) (.mv (.t 6)) none), (PO.mk (some 35) (.bin .quo (.t 34) (.k (.int .i64 64))) none), (PO.mk (some 36) (.idxArr 4 1 (.t 4) (.t 35)) none), (PO.mk (some 37) (.load false 1 (.t 36)) none), (PO.mk (some 38) (.bin .add (.t 37) (.k (w64 1))) none), (PO.mk (some 39) (.idxArr 4 1 (.t 4) (.t 35)) none), (PO.mk none (.store 1 (.t 39) (.t 38)) none)]) .skip))))) (.ops [(PO.mk (some 13) (.mv (.t 6)) none), (PO.mk (some 14) (.bin .sub (.t 13) (.k (.int .i64 1))) none), (PO.mk (some 6) (.mv (.t 14)) none)])))))) (.seq (.ops [(PO.mk (some 40) (.load true 4 (.t 4)) none), (PO.mk (some 41) (.mv (.t 5)) none), (PO.mk none (.store 4 (.t 2) (.t 40)) none), (PO.mk (some 3) (.mv (.t 41)) none)]) .ret)))))
def k123 (F : Fn) : PF := PF.mk 19 2 [(.t 4)] (.seq (.ops [(PO.mk (some 4) (.mv (.k (.bool false))) none)]) (.seq (.ops [(PO.mk (some 5) (.mv (.t 1)) none), (PO.mk (some 6) (.bin .geq (.t 5) (.k (.int .i64 0))) none), (PO.mk (some 7) (.mv (.t 6)) none), (PO.mk (some 8) (.mv (.t 1)) (some (7, true))), (PO.mk (some 9) (.mv (.t 0)) (some (7, true))), (PO.mk (some 10) (.lenSl (.t 9)) (some (7, true))), (PO.mk (some 11) (.bin .lss (.t 8) (.t 10)) (some (7, true))), (PO.mk (some 12) (.pick (.t 7) (.t 11) (.k (.bool false))) none), (PO.mk (some 13) (.mv (.t 12)) none), (PO.mk (some 14) (.mv (.t 0)) (some (13, true))), (PO.mk (some 15) (.mv (.t 1)) (some (13, true))), (PO.mk (some 16) (.idxSl 1 (.t 14) (.t 15)) (some (13, true))), (PO.mk (some 17) (.load false 1 (.t 16)) (some (13, true))), (PO.mk (some 18) (.pick (.t 13) (.t 17) (.k (.bool false))) none), (PO.mk (some 4) (.mv (.t 18)) none)]) .ret))
def k124 (F : Fn) : PF := PF.mk 50 2 [(.t 4)] (.seq (.ops [(PO.mk (some 4) (.mv (.k (.sl .nil [] 0))) none)]) (.seq (.ops [(PO.mk (some 11) (.mv (.t 0)) none), (PO.mk (some 12) (.lenSl (.t 11)) none), (PO.mk (some 13) (.mv (.t 1)) none), (PO.mk (some 14) (.lenSl (.t 13)) none), (PO.mk (some 15) (.max [(.t 12), (.t 14)]) none), (PO.mk (some 16) (.bin .add (.t 15) (.k (.int .i64 1))) none), (PO.mk (some 5) (.mv (.t 16)) none)]) (.seq (.ops [(PO.mk (some 6) (.mv (.k (.sl .nil [] 0))) none)]) (.seq (.ops [(PO.mk (some 7) (.mv (.k (.bool false))) none)]) (.seq (.seq (.ops [(PO.mk (some 8) (.mv (.k (.int .i64 0))) none)]) (.block 0 (.loop (.seq (.seq (.ops [(PO.mk (some 17) (.mv (.t 8)) none), (PO.mk (some 18) (.mv (.t 5)) none), (PO.mk (some 19) (.bin .lss (.t 17) (.t 18)) none)]) (.cond (.t 19) .skip (.exit 0))) (.seq (.block 1 (.seq (.ops [(PO.mk (some 22) (.mv (.t 0)) none), (PO.mk (some 23) (.mv (.t 8)) none), (PO.mk (some 24) (.call (F 123) [(.t 22), (.t 23)]) none), (PO.mk (some 25) (.mv (.t 1)) none), (PO.mk (some 26) (.mv (.t 8)) none), (PO.mk (some 27) (.call (F 123) [(.t 25), (.t 26)]) none), (PO.mk (some 9) (.mv (.t 24)) none), (PO.mk (some 10) (.mv (.t 27)) none)]) (.seq (.ops [(PO.mk (some 28) (.mv (.t 6)) none), (PO.mk (some 29) (.mv (.t 9)) none), (PO.mk (some 30) (.mv (.t 10)) none), (PO.mk (some 31) (.eqa .bool true (.t 29) (.t 30)) none), (PO.mk (some 32) (.mv (.t 7)) none), (PO.mk (some 33) (.eqa .bool true (.t 31) (.t 32)) none), (PO.mk (some 34) (.bsl false 1 1 [(.bool false)] [(0, (1, (.t 33)))]) none), (PO.mk (some 35) (.app 1 1 (.t 28) (.t 34)) none), (PO.mk (some 6) (.mv (.t 35)) none)]) (.ops [(PO.mk (some 36) (.mv (.t 9)) none), (PO.mk (some 37) (.mv (.t 36)) none), (PO.mk (some 38) (.mv (.t 10)) (some (37, true))), (PO.mk (some 39) (.pick (.t 37) (.t 38) (.k (.bool false))) none), (PO.mk (some 40) (.mv (.t 39)) none), (PO.mk (some 41) (.mv (.t 7)) (some (40, false))), (PO.mk (some 42) (.mv (.t 41)) (some (40, false))), (PO.mk (some 43) (.mv (.t 9)) (some (42, true))), (PO.mk (some 44) (.mv (.t 43)) (some (42, true))), (PO.mk (some 45) (.mv (.t 10)) (some (44, false))), (PO.mk (some 46) (.pick (.t 44) (.k (.bool true)) (.t 45)) (some (42, true))), (PO.mk (some 47) (.pick (.t 42) (.t 46) (.k (.bool false))) (some (40, false))), (PO.mk (some 48) (.pick (.t 40) (.k (.bool true)) (.t 47)) none), (PO.mk (some 7) (.mv (.t 48)) none)])))) (.ops [(PO.mk (some 20) (.mv (.t 8)) none), (PO.mk (some 21) (.bin .add (.t 20) (.k (.int .i64 1))) none), (PO.mk (some 8) (.mv (.t 21)) none)])))))) (.seq (.seq (.frz [6]) (.ops [(PO.mk (some 49) (.mv (.t 6)) none), (PO.mk (some 4) (.mv (.t 49)) none)])) .ret))))))
def k125 (F : Fn) : PF := PF.mk 26 2 [(.t 4)] (.seq (.ops [(PO.mk (some 4) (.mv (.k (.bool false))) none)]) (.seq (.seq (.ops [(PO.mk (some 6) (.mv (.t 0)) none), (PO.mk (some 7) (.lenSl (.t 6)) none), (PO.mk (some 8) (.mv (.t 1)) none), (PO.mk (some 9) (.lenSl (.t 8)) none), (PO.mk (some 10) (.max [(.t 7), (.t 9)]) none), (PO.mk (some 11) (.bin .sub (.t 10) (.k (.int .i64 1))) none), (PO.mk (some 5) (.mv (.t 11)) none)]) (.block 0 (.loop (.seq (.seq (.ops [(PO.mk (some 12) (.mv (.t 5)) none), (PO.mk (some 13) (.bin .geq (.t 12) (.k (.int .i64 0))) none)]) (.cond (.t 13) .skip (.exit 0))) (.seq (.block 1 (.seq (.ops [(PO.mk (some 16) (.mv (.t 0)) none), (PO.mk (some 17) (.mv (.t 5)) none), (PO.mk (some 18) (.call (F 123) [(.t 16), (.t 17)]) none), (PO.mk (some 19) (.mv (.t 1)) none), (PO.mk (some 20) (.mv (.t 5)) none), (PO.mk (some 21) (.call (F 123) [(.t 19), (.t 20)]) none), (PO.mk (some 22) (.eqa .bool true (.t 18) (.t 21)) none)]) (.cond (.t 22) (.seq (.ops [(PO.mk (some 23) (.mv (.t 1)) none), (PO.mk (some 24) (.mv (.t 5)) none), (PO.mk (some 25) (.call (F 123) [(.t 23), (.t 24)]) none), (PO.mk (some 4) (.mv (.t 25)) none)]) .ret) .skip))) (.ops [(PO.mk (some 14) (.mv (.t 5)) none), (PO.mk (some 15) (.bin .sub (.t 14) (.k (.int .i64 1))) none), (PO.mk (some 5) (.mv (.t 15)) none)])))))) (.seq (.ops [(PO.mk (some 4) (.mv (.k (.bool false))) none)]) .ret)))
def k126 (F : Fn) : PF := PF.mk 45 2 [(.t 4), (.t 5)] (.seq (.ops [(PO.mk (some 4) (.mv (.k (.sl .nil [] 0))) none), (PO.mk (some 5) (.mv (.k (.bool false))) none)]) (.seq (.ops [(PO.mk (some 6) (.mv (.k (.sl .nil [] 0))) none)]) (.seq (.ops [(PO.mk (some 7) (.mv (.k (.bool false))) none)]) (.seq (.seq (.ops [(PO.mk (some 8) (.mv (.k (.int .i64 0))) none)]) (.block 0 (.loop (.seq (.seq (.ops [(PO.mk (some 11) (.mv (.t 8)) none), (PO.mk (some 12) (.bin .lss (.t 11) (.k (.int .i64 256))) none)]) (.cond (.t 12) .skip (.exit 0))) (.seq (.block 1 (.seq (.ops [(PO.mk (some 15) (.mv (.t 0)) none), (PO.mk (some 16) (.mv (.t 8)) none), (PO.mk (some 17) (.call (F 123) [(.t 15), (.t 16)]) none), (PO.mk (some 18) (.mv (.t 1)) none), (PO.mk (some 19) (.mv (.t 8)) none), (PO.mk (some 20) (.call (F 123) [(.t 18), (.t 19)]) none), (PO.mk (some 9) (.mv (.t 17)) none), (PO.mk (some 10) (.mv (.t 20)) none)]) (.seq (.ops [(PO.mk (some 21) (.mv (.t 6)) none), (PO.mk (some 22) (.mv (.t 9)) none), (PO.mk (some 23) (.mv (.t 10)) none), (PO.mk (some 24) (.eqa .bool true (.t 22) (.t 23)) none), (PO.mk (some 25) (.mv (.t 7)) none), (PO.mk (some 26) (.eqa .bool true (.t 24) (.t 25)) none), (PO.mk (some 27) (.bsl false 1 1 [(.bool false)] [(0, (1, (.t 26)))]) none), (PO.mk (some 28) (.app 1 1 (.t 21) (.t 27)) none), (PO.mk (some 6) (.mv (.t 28)) none)]) (.ops [(PO.mk (some 29) (.mv (.t 9)) none), (PO.mk (some 30) (.not (.t 29)) none), (PO.mk (some 31) (.mv (.t 30)) none), (PO.mk (some 32) (.mv (.t 10)) (some (31, true))), (PO.mk (some 33) (.mv (.t 32)) (some (31, true))), (PO.mk (some 34) (.mv (.t 7)) (some (33, false))), (PO.mk (some 35) (.pick (.t 33) (.k (.bool true)) (.t 34)) (some (31, true))), (PO.mk (some 36) (.pick (.t 31) (.t 35) (.k (.bool false))) none), (PO.mk (some 37) (.mv (.t 36)) none), (PO.mk (some 38) (.mv (.t 10)) (some (37, false))), (PO.mk (some 39) (.mv (.t 38)) (some (37, false))), (PO.mk (some 40) (.mv (.t 7)) (some (39, true))), (PO.mk (some 41) (.pick (.t 39) (.t 40) (.k (.bool false))) (some (37, false))), (PO.mk (some 42) (.pick (.t 37) (.k (.bool true)) (.t 41)) none), (PO.mk (some 7) (.mv (.t 42)) none)])))) (.ops [(PO.mk (some 13) (.mv (.t 8)) none), (PO.mk (some 14) (.bin .add (.t 13) (.k (.int .i64 1))) none), (PO.mk (some 8) (.mv (.t 14)) none)])))))) (.seq (.seq (.frz [6]) (.ops [(PO.mk (some 43) (.mv (.t 6)) none), (PO.mk (some 44) (.mv (.t 7)) none), (PO.mk (some 4) (.mv (.t 43)) none), (PO.mk (some 5) (.mv (.t 44)) none)])) .ret)))))
def k127 (F : Fn) : PF := PF.mk 24 2 [(.t 4)] (.seq (.ops [(PO.mk (some 4) (.mv (.k (.sl .nil [] 0))) none)]) (.seq (.ops [(PO.mk (some 5) (.mv (.k (.sl .nil [] 0))) none)]) (.seq (.seq (.ops [(PO.mk (some 6) (.mv (.k (.int .i64 0))) none)]) (.block 0 (.loop (.seq (.seq (.ops [(PO.mk (some 7) (.mv (.t 6)) none), (PO.mk (some 8) (.mv (.t 0)) none), (PO.mk (some 9) (.lenSl (.t 8)) none), (PO.mk (some 10) (.mv (.t 1)) none), (PO.mk (some 11) (.bin .add (.t 9) (.t 10)) none), (PO.mk (some 12) (.bin .lss (.t 7) (.t 11)) none)]) (.cond (.t 12) .skip (.exit 0))) (.seq (.block 1 (.ops [(PO.mk (some 15) (.mv (.t 5)) none), (PO.mk (some 16) (.mv (.t 0)) none), (PO.mk (some 17) (.mv (.t 6)) none), (PO.mk (some 18) (.mv (.t 1)) none), (PO.mk (some 19) (.bin .sub (.t 17) (.t 18)) none), (PO.mk (some 20) (.call (F 123) [(.t 16), (.t 19)]) none), (PO.mk (some 21) (.bsl false 1 1 [(.bool false)] [(0, (1, (.t 20)))]) none), (PO.mk (some 22) (.app 1 1 (.t 15) (.t 21)) none), (PO.mk (some 5) (.mv (.t 22)) none)])) (.ops [(PO.mk (some 13) (.mv (.t 6)) none), (PO.mk (some 14) (.bin .add (.t 13) (.k (.int .i64 1))) none), (PO.mk (some 6) (.mv (.t 14)) none)])))))) (.seq (.ops [(PO.mk (some 23) (.mv (.t 5)) none), (PO.mk (some 4) (.mv (.t 23)) none)]) .ret))))
def k128 (F : Fn) : PF := PF.mk 23 2 [(.t 4)] (.seq (.ops [(PO.mk (some 4) (.mv (.k (.sl .nil [] 0))) none)]) (.seq (.ops [(PO.mk (some 5) (.mv (.k (.sl .nil [] 0))) none)]) (.seq (.seq (.ops [(PO.mk (some 6) (.mv (.k (.int .i64 0))) none)]) (.block 0 (.loop (.seq (.seq (.ops [(PO.mk (some 7) (.mv (.t 6)) none), (PO.mk (some 8) (.mv (.t 1)) none), (PO.mk (some 9) (.lenSl (.t 8)) none), (PO.mk (some 10) (.bin .lss (.t 7) (.t 9)) none)]) (.cond (.t 10) .skip (.exit 0))) (.seq (.block 1 (.seq (.ops [(PO.mk (some 13) (.mv (.t 1)) none), (PO.mk (some 14) (.mv (.t 6)) none), (PO.mk (some 15) (.idxSl 1 (.t 13) (.t 14)) none), (PO.mk (some 16) (.load false 1 (.t 15)) none)]) (.cond (.t 16) (.ops [(PO.mk (some 17) (.mv (.t 5)) none), (PO.mk (some 18) (.mv (.t 0)) none), (PO.mk (some 19) (.mv (.t 6)) none), (PO.mk (some 20) (.call (F 127) [(.t 18), (.t 19)]) none), (PO.mk (some 21) (.call (F 124) [(.t 17), (.t 20)]) none), (PO.mk (some 5) (.mv (.t 21)) none)]) .skip))) (.ops [(PO.mk (some 11) (.mv (.t 6)) none), (PO.mk (some 12) (.bin .add (.t 11) (.k (.int .i64 1))) none), (PO.mk (some 6) (.mv (.t 12)) none)])))))) (.seq (.ops [(PO.mk (some 22) (.mv (.t 5)) none), (PO.mk (some 4) (.mv (.t 22)) none)]) .ret))))
def k129 (F : Fn) : PF := PF.mk 46 2 [(.t 4), (.t 5)] (.seq (.ops [(PO.mk (some 4) (.mv (.k (.sl .nil [] 0))) none), (PO.mk (some 5) (.mv (.k (.sl .nil [] 0))) none)]) (.seq (.ops [(PO.mk (some 9) (.mv (.t 0)) none), (PO.mk (some 10) (.lenSl (.t 9)) none), (PO.mk (some 11) (.mksl true 1 1 [(.bool false)] (.t 10) (.t 10)) none), (PO.mk (some 6) (.mv (.t 11)) none)]) (.seq (.ops [(PO.mk (some 7) (.mv (.k (.sl .nil [] 0))) none)]) (.seq (.seq (.ops [(PO.mk (some 12) (.mv (.t 0)) none), (PO.mk (some 13) (.lenSl (.t 12)) none), (PO.mk (some 14) (.bin .sub (.t 13) (.k (.int .i64 1))) none), (PO.mk (some 8) (.mv (.t 14)) none)]) (.block 0 (.loop (.seq (.seq (.ops [(PO.mk (some 15) (.mv (.t 8)) none), (PO.mk (some 16) (.bin .geq (.t 15) (.k (.int .i64 0))) none)]) (.cond (.t 16) .skip (.exit 0))) (.seq (.block 1 (.seq (.ops [(PO.mk (some 19) (.mv (.t 7)) none), (PO.mk (some 20) (.call (F 127) [(.t 19), (.k (.int .i64 1))]) none), (PO.mk (some 7) (.mv (.t 20)) none)]) (.seq (.seq (.ops [(PO.mk (some 21) (.mv (.t 7)) none), (PO.mk (some 22) (.lenSl (.t 21)) none), (PO.mk (some 23) (.bin .eql (.t 22) (.k (.int .i64 0))) none)]) (.cond (.t 23) (.ops [(PO.mk (some 24) (.bsl true 1 1 [(.bool false)] [(0, (1, (.k (.bool false))))]) none), (PO.mk (some 7) (.mv (.t 24)) none)]) .skip)) (.seq (.ops [(PO.mk (some 25) (.mv (.t 7)) none), (PO.mk (some 26) (.mv (.t 0)) none), (PO.mk (some 27) (.mv (.t 8)) none), (PO.mk (some 28) (.idxSl 1 (.t 26) (.t 27)) none), (PO.mk (some 29) (.load false 1 (.t 28)) none), (PO.mk (some 30) (.idxSl 1 (.t 25) (.k (.int .i64 0))) none), (PO.mk none (.store 1 (.t 30) (.t 29)) none)]) (.seq (.ops [(PO.mk (some 31) (.mv (.t 7)) none), (PO.mk (some 32) (.mv (.t 1)) none), (PO.mk (some 33) (.call (F 125) [(.t 31), (.t 32)]) none), (PO.mk (some 34) (.not (.t 33)) none)]) (.cond (.t 34) (.seq (.ops [(PO.mk (some 35) (.mv (.t 6)) none), (PO.mk (some 36) (.mv (.t 8)) none), (PO.mk (some 37) (.idxSl 1 (.t 35) (.t 36)) none), (PO.mk none (.store 1 (.t 37) (.k (.bool true))) none)]) (.ops [(PO.mk (some 39) (.mv (.t 7)) none), (PO.mk (some 40) (.mv (.t 1)) none), (PO.mk (some 41) (.call (F 126) [(.t 39), (.t 40)]) none), (PO.mk (some 38) (.mv (.t 41)) none), (PO.mk (some 42) (.ext 0 (.t 38)) none), (PO.mk (some 43) (.ext 1 (.t 38)) none), (PO.mk (some 7) (.mv (.t 42)) none)])) .skip)))))) (.ops [(PO.mk (some 17) (.mv (.t 8)) none), (PO.mk (some 18) (.bin .sub (.t 17) (.k (.int .i64 1))) none), (PO.mk (some 8) (.mv (.t 18)) none)])))))) (.seq (.seq (.frz [6, 7]) (.ops [(PO.mk (some 44) (.mv (.t 6)) none), (PO.mk (some 45) (.mv (.t 7)) none), (PO.mk (some 4) (.mv (.t 44)) none), (PO.mk (some 5) (.mv (.t 45)) none)])) .ret)))))
structure OkRef02 (P : Program) (F : Fn) : Prop where
  mixed : P.follows .mixedOrders = true
  h121 : compFn P ⟨[], [], [(11, [3])], [], []⟩ (F 121) = some (k121 F)
  h122 : compFn P ⟨[], [], [], [], []⟩ (F 122) = some (k122 F)
  h123 : compFn P ⟨[], [], [], [], []⟩ (F 123) = some (k123 F)
  h124 : compFn P ⟨[], [], [(10, [6])], [], []⟩ (F 124) = some (k124 F)
  h125 : compFn P ⟨[], [], [], [], []⟩ (F 125) = some (k125 F)
  h126 : compFn P ⟨[], [], [(9, [6])], [], []⟩ (F 126) = some (k126 F)
  h127 : compFn P ⟨[], [], [], [], []⟩ (F 127) = some (k127 F)
  h128 : compFn P ⟨[], [], [], [], []⟩ (F 128) = some (k128 F)
  h129 : compFn P ⟨[11, 24], [], [(13, [6, 7])], [], []⟩ (F 129) = some (k129 F)
end Go.Ab
set_option linter.unusedSimpArgs false
set_option linter.unusedVariables false
namespace Go.Ab
open Go Go.RowKit
abbrev W := BitVec 64
abbrev U := BitVec 256
def u4 (a b c d : W) : U := BitVec.ofNat 256 (a.toNat + b.toNat * 18446744073709551616 + c.toNat * 340282366920938463463374607431768211456 + d.toNat * 6277101735386680763835789423207666416102355444464034512896)
theorem u4_nat (a b c d : W) : (u4 a b c d).toNat = a.toNat + b.toNat * 18446744073709551616 + c.toNat * 340282366920938463463374607431768211456 + d.toNat * 6277101735386680763835789423207666416102355444464034512896 := by
  have := a.isLt; have := b.isLt; have := c.isLt; have := d.isLt
  rw [u4, BitVec.toNat_ofNat]
  exact Nat.mod_eq_of_lt (by omega)
def limb (x : U) (i : Nat) : W := BitVec.ofNat 64 (x.toNat / 18446744073709551616 ^ i)
theorem limb_nat (x : U) (i : Nat) : (limb x i).toNat = x.toNat / 18446744073709551616 ^ i % 18446744073709551616 := by
  rw [limb, BitVec.toNat_ofNat]
theorem u4_limb (x : U) : u4 (limb x 0) (limb x 1) (limb x 2) (limb x 3) = x := by
  apply BitVec.eq_of_toNat_eq
  have := x.isLt
  rw [u4_nat, limb_nat, limb_nat, limb_nat, limb_nat]
  omega
theorem exists_u4 (x : U) : ∃ a b c d, x = u4 a b c d := ⟨_, _, _, _, (u4_limb x).symm⟩
theorem limb0 (a b c d : W) : limb (u4 a b c d) 0 = a := by
  apply BitVec.eq_of_toNat_eq
  have := a.isLt; have := b.isLt; have := c.isLt; have := d.isLt
  rw [limb_nat, u4_nat]; omega
theorem limb1 (a b c d : W) : limb (u4 a b c d) 1 = b := by
  apply BitVec.eq_of_toNat_eq
  have := a.isLt; have := b.isLt; have := c.isLt; have := d.isLt
  rw [limb_nat, u4_nat]; omega
theorem limb2 (a b c d : W) : limb (u4 a b c d) 2 = c := by
  apply BitVec.eq_of_toNat_eq
  have := a.isLt; have := b.isLt; have := c.isLt; have := d.isLt
  rw [limb_nat, u4_nat]; omega
theorem limb3 (a b c d : W) : limb (u4 a b c d) 3 = d := by
  apply BitVec.eq_of_toNat_eq
  have := a.isLt; have := b.isLt; have := c.isLt; have := d.isLt
  rw [limb_nat, u4_nat]; omega
theorem u4_inj {a b c d a' b' c' d' : W} (h : u4 a b c d = u4 a' b' c' d') : a = a' ∧ b = b' ∧ c = c' ∧ d = d' := by
  refine ⟨?_, ?_, ?_, ?_⟩
  · have := congrArg (limb · 0) h; simpa [limb0] using this
  · have := congrArg (limb · 1) h; simpa [limb1] using this
  · have := congrArg (limb · 2) h; simpa [limb2] using this
  · have := congrArg (limb · 3) h; simpa [limb3] using this
def eU (x : U) : List V := [w64 (limb x 0), w64 (limb x 1), w64 (limb x 2), w64 (limb x 3)]
theorem eU_len (x : U) : (eU x).length = 4 := rfl
theorem eU_u4 (a b c d : W) : eU (u4 a b c d) = [w64 a, w64 b, w64 c, w64 d] := by simp [eU, limb0, limb1, limb2, limb3]
def nU (x : U) : V := .agg (eU x)
def natU (n : Nat) : U := BitVec.ofNat 256 n
theorem natU_nat {n : Nat} (h : n < 2 ^ 256) : (natU n).toNat = n := by
  rw [natU, BitVec.toNat_ofNat]; exact Nat.mod_eq_of_lt h
def b64 (b : Bool) : W := if b then 1#64 else 0#64
theorem b64_nat (b : Bool) : (b64 b).toNat = if b then 1 else 0 := by cases b <;> rfl
def sum64 (x y : W) (c : Bool) : W := x + y + b64 c
def car64 (x y : W) (c : Bool) : Bool := decide (18446744073709551616 ≤ x.toNat + y.toNat + (if c then 1 else 0))
theorem sum64_nat (x y : W) (c : Bool) : (sum64 x y c).toNat = (x.toNat + y.toNat + (if c then 1 else 0)) % 18446744073709551616 := by
  rw [sum64, BitVec.toNat_add, BitVec.toNat_add, b64_nat]
  show ((x.toNat + y.toNat) % 18446744073709551616 + _) % 18446744073709551616 = _
  omega
def dif64 (x y : W) (c : Bool) : W := x - y - b64 c
def bor64 (x y : W) (c : Bool) : Bool := decide (x.toNat < y.toNat + (if c then 1 else 0))
theorem dif64_nat (x y : W) (c : Bool) : (dif64 x y c).toNat = (36893488147419103232 + x.toNat - y.toNat - (if c then 1 else 0)) % 18446744073709551616 := by
  have h1 := x.isLt
  have h2 := y.isLt
  rw [dif64, BitVec.toNat_sub, BitVec.toNat_sub, b64_nat]
  show (18446744073709551616 - _ + (18446744073709551616 - y.toNat + x.toNat) % 18446744073709551616) % 18446744073709551616 = _
  cases c <;> simp <;> omega
def mulhi (x y : W) : W := BitVec.ofNat 64 (x.toNat * y.toNat / 18446744073709551616)
theorem mul64_hi (x y : W) : (x >>> 32) * (y >>> 32) + (((x >>> 32) * (y &&& 4294967295#64) + ((x &&& 4294967295#64) * (y &&& 4294967295#64)) >>> 32) >>> 32) + ((((x >>> 32) * (y &&& 4294967295#64) + ((x &&& 4294967295#64) * (y &&& 4294967295#64)) >>> 32) &&& 4294967295#64) + (x &&& 4294967295#64) * (y >>> 32)) >>> 32 = mulhi x y := by
  have hand : ∀ z : W, (z &&& 4294967295#64).toNat = z.toNat % 4294967296 := fun z => by
    rw [BitVec.toNat_and]
    exact Nat.and_two_pow_sub_one_eq_mod z.toNat 32
  have hshr : ∀ z : W, (z >>> 32).toNat = z.toNat / 4294967296 := fun z => by
    rw [BitVec.toNat_ushiftRight, Nat.shiftRight_eq_div_pow]
  have h1 := x.isLt
  have h2 := y.isLt
  apply BitVec.eq_of_toNat_eq
  simp only [BitVec.toNat_add, BitVec.toNat_mul, hand, hshr, mulhi, BitVec.toNat_ofNat]
  obtain ⟨x0, hx0⟩ : ∃ a, a = x.toNat % 4294967296 := ⟨_, rfl⟩
  obtain ⟨x1, hx1⟩ : ∃ a, a = x.toNat / 4294967296 := ⟨_, rfl⟩
  obtain ⟨y0, hy0⟩ : ∃ a, a = y.toNat % 4294967296 := ⟨_, rfl⟩
  obtain ⟨y1, hy1⟩ : ∃ a, a = y.toNat / 4294967296 := ⟨_, rfl⟩
  have ex : x.toNat = x1 * 4294967296 + x0 := by omega
  have ey : y.toNat = y1 * 4294967296 + y0 := by omega
  rw [← hx0, ← hx1, ← hy0, ← hy1, ex, ey]
  have bx0 : x0 ≤ 4294967295 := by omega
  have bx1 : x1 ≤ 4294967295 := by omega
  have by0 : y0 ≤ 4294967295 := by omega
  have by1 : y1 ≤ 4294967295 := by omega
  have p00 := Nat.mul_le_mul bx0 by0
  have p01 := Nat.mul_le_mul bx0 by1
  have p10 := Nat.mul_le_mul bx1 by0
  have p11 := Nat.mul_le_mul bx1 by1
  have e : (x1 * 4294967296 + x0) * (y1 * 4294967296 + y0) = x1 * y1 * 18446744073709551616 + x1 * y0 * 4294967296 + x0 * y1 * 4294967296 + x0 * y0 := by
    rw [Nat.add_mul, Nat.mul_add, Nat.mul_add]
    have a1 : x1 * 4294967296 * (y1 * 4294967296) = x1 * y1 * 18446744073709551616 := by
      rw [Nat.mul_mul_mul_comm]
    have a2 : x1 * 4294967296 * y0 = x1 * y0 * 4294967296 := by rw [Nat.mul_right_comm]
    have a3 : x0 * (y1 * 4294967296) = x0 * y1 * 4294967296 := by rw [Nat.mul_assoc]
    omega
  rw [e]
  generalize x0 * y0 = q00 at *
  generalize x0 * y1 = q01 at *
  generalize x1 * y0 = q10 at *
  generalize x1 * y1 = q11 at *
  show ((q11 % 18446744073709551616 + ((q10 % 18446744073709551616 + q00 % 18446744073709551616 / 4294967296) % 18446744073709551616 / 4294967296)) % 18446744073709551616 + ((q10 % 18446744073709551616 + q00 % 18446744073709551616 / 4294967296) % 18446744073709551616 % 4294967296 + q01 % 18446744073709551616) % 18446744073709551616 / 4294967296) % 18446744073709551616 = (q11 * 18446744073709551616 + q10 * 4294967296 + q01 * 4294967296 + q00) / 18446744073709551616 % 18446744073709551616
  omega
end Go.Ab
set_option linter.unusedSimpArgs false
set_option linter.unusedVariables false
namespace Go.Ab
open Go Go.RowKit
def eB (b : Bool) : List V := [.bool b]
theorem eB_len (b : Bool) : (eB b).length = 1 := rfl
def valB : List Bool → Nat
  | [] => 0
  | b :: l => b.toNat + 2 * valB l
def bitsN : Nat → Nat → List Bool
  | 0, _ => []
  | n + 1, v => (v % 2 == 1) :: bitsN n (v / 2)
def atB (l : List Bool) (i : Nat) : Bool := l.getD i false
theorem bitsN_len : ∀ n v, (bitsN n v).length = n
  | 0, _ => rfl
  | n + 1, v => by simp [bitsN, bitsN_len n]
theorem valB_lt : ∀ l : List Bool, valB l < 2 ^ l.length
  | [] => by simp [valB]
  | b :: l => by
    have := valB_lt l
    have hb : b.toNat ≤ 1 := by cases b <;> simp
    simp only [valB, List.length_cons, Nat.pow_succ]
    omega
theorem mod_toNat (v : Nat) : (v % 2 == 1).toNat = v % 2 := by
  have : v % 2 = 0 ∨ v % 2 = 1 := by omega
  rcases this with h | h <;> simp [h]
theorem valB_bitsN : ∀ n v, valB (bitsN n v) = v % 2 ^ n
  | 0, v => by simp [bitsN, valB, Nat.mod_one]
  | n + 1, v => by
    rw [bitsN, valB, valB_bitsN n, mod_toNat, Nat.pow_succ, Nat.mul_comm (2 ^ n) 2, Nat.mod_mul]
theorem bitsN_valB : ∀ l : List Bool, bitsN l.length (valB l) = l
  | [] => rfl
  | b :: l => by
    have ih := bitsN_valB l
    have hb : b.toNat ≤ 1 := by cases b <;> simp
    simp only [List.length_cons, bitsN, valB]
    rw [show (b.toNat + 2 * valB l) / 2 = valB l by omega, ih]
    congr 1
    rw [show (b.toNat + 2 * valB l) % 2 = b.toNat by omega]
    cases b <;> rfl
theorem valB_append : ∀ a b : List Bool, valB (a ++ b) = valB a + 2 ^ a.length * valB b
  | [], b => by simp [valB]
  | x :: a, b => by
    have ih := valB_append a b
    simp only [List.cons_append, valB, ih, List.length_cons, Nat.pow_succ]
    rw [Nat.mul_add, ← Nat.mul_assoc, Nat.mul_comm 2 (2 ^ a.length)]
    omega
theorem valB_zeros (n : Nat) : valB (List.replicate n false) = 0 := by
  induction n with
  | zero => rfl
  | succ n ih => simp [List.replicate_succ, valB, ih]
theorem bitsN_add (n m v : Nat) : bitsN (n + m) v = bitsN n v ++ bitsN m (v / 2 ^ n) := by
  induction n generalizing v with
  | zero => simp [bitsN]
  | succ n ih =>
    rw [Nat.succ_add, bitsN, ih, bitsN, List.cons_append, Nat.pow_succ, Nat.mul_comm (2 ^ n) 2, Nat.div_div_eq_div_mul]
theorem bitsN_snoc (n v : Nat) : bitsN (n + 1) v = bitsN n v ++ [(v / 2 ^ n) % 2 == 1] := by
  rw [bitsN_add]; rfl
theorem valB_drop (l : List Bool) (n : Nat) : valB (l.drop n) = valB l / 2 ^ n := by
  by_cases h : n ≤ l.length
  · have e : l = l.take n ++ l.drop n := (List.take_append_drop n l).symm
    have h1 := valB_append (l.take n) (l.drop n)
    rw [← e, List.length_take, Nat.min_eq_left h] at h1
    have h2 := valB_lt (l.take n)
    rw [List.length_take, Nat.min_eq_left h] at h2
    rw [h1, Nat.add_mul_div_left _ _ (Nat.two_pow_pos n), Nat.div_eq_of_lt h2, Nat.zero_add]
  · rw [List.drop_of_length_le (by omega)]
    have := valB_lt l
    rw [Nat.div_eq_of_lt (Nat.lt_of_lt_of_le this (Nat.pow_le_pow_right (by omega) (by omega)))]
    rfl
theorem atB_val (l : List Bool) (i : Nat) : (atB l i).toNat = valB l / 2 ^ i % 2 := by
  rw [← valB_drop]
  unfold atB
  by_cases h : i < l.length
  · rw [List.drop_eq_getElem_cons h, valB, List.getD_eq_getElem?_getD, List.getElem?_eq_getElem h, Option.getD_some]
    have hb : l[i].toNat ≤ 1 := by cases l[i] <;> simp
    omega
  · rw [List.drop_of_length_le (by omega), List.getD_eq_getElem?_getD, List.getElem?_eq_none (by omega)]
    rfl
theorem atB_eq (l : List Bool) (i : Nat) : atB l i = (valB l / 2 ^ i % 2 == 1) := by
  have h := atB_val l i
  cases hb : atB l i
  · rw [hb] at h
    have : valB l / 2 ^ i % 2 = 0 := h.symm
    rw [this]; rfl
  · rw [hb] at h
    have : valB l / 2 ^ i % 2 = 1 := h.symm
    rw [this]; rfl
def addB (a b : List Bool) : List Bool := bitsN (max a.length b.length + 1) (valB a + valB b)
theorem addB_val (a b : List Bool) : valB (addB a b) = valB a + valB b := by
  rw [addB, valB_bitsN]
  apply Nat.mod_eq_of_lt
  have h1 := valB_lt a
  have h2 := valB_lt b
  have h3 : 2 ^ a.length ≤ 2 ^ max a.length b.length := Nat.pow_le_pow_right (by omega) (by omega)
  have h4 : 2 ^ b.length ≤ 2 ^ max a.length b.length := Nat.pow_le_pow_right (by omega) (by omega)
  rw [Nat.pow_succ]
  omega
theorem addB_len (a b : List Bool) : (addB a b).length = max a.length b.length + 1 := bitsN_len _ _
def shlB (a : List Bool) (n : Nat) : List Bool := List.replicate n false ++ a
theorem shlB_val (a : List Bool) (n : Nat) : valB (shlB a n) = valB a * 2 ^ n := by
  rw [shlB, valB_append, valB_zeros, List.length_replicate, Nat.zero_add, Nat.mul_comm]
def shiftB (a : List Bool) (n : Int) : List Bool := if 0 ≤ n then shlB a n.toNat else a.drop (-n).toNat
def mulB (a : List Bool) : List Bool → Nat → List Bool → List Bool
  | [], _, out => out
  | b :: l, i, out => mulB a l (i + 1) (if b then addB out (shlB a i) else out)
theorem mulB_val (a : List Bool) : ∀ (l : List Bool) (i : Nat) (out : List Bool), valB (mulB a l i out) = valB out + valB a * valB l * 2 ^ i
  | [], i, out => by simp [mulB, valB]
  | b :: l, i, out => by
    rw [mulB, mulB_val a l (i + 1)]
    have e : valB a * (b.toNat + 2 * valB l) * 2 ^ i = valB a * b.toNat * 2 ^ i + valB a * valB l * 2 ^ (i + 1) := by
      rw [Nat.mul_add, Nat.add_mul, Nat.pow_succ]
      congr 1
      rw [← Nat.mul_assoc, Nat.mul_right_comm (valB a) 2, Nat.mul_assoc (valB a * valB l), Nat.mul_comm 2]
    rw [valB, e]
    cases b
    · simp
    · simp only [if_true, addB_val, shlB_val, Bool.toNat_true, Nat.mul_one]
      omega
theorem mulB_len (a : List Bool) : ∀ (l : List Bool) (i : Nat) (out : List Bool), (mulB a l i out).length ≤ max out.length (a.length + l.length + i) + l.length
  | [], i, out => by simp [mulB]; omega
  | b :: l, i, out => by
    rw [mulB]
    refine Nat.le_trans (mulB_len a l (i + 1) _) ?_
    cases b
    · simp; omega
    · simp only [if_true, addB_len, shlB, List.length_append, List.length_replicate, List.length_cons]
      omega
def bitlen (n : Nat) : Nat := if n = 0 then 0 else n.log2 + 1
theorem bitlen_le {n k : Nat} : bitlen n ≤ k ↔ n < 2 ^ k := by
  unfold bitlen
  split
  · rename_i h; subst h
    simp [Nat.two_pow_pos]
  · rename_i h
    rw [← Nat.log2_lt h]
    omega
theorem bitlen_lt {n k : Nat} : k < bitlen n ↔ 2 ^ k ≤ n := by
  have := @bitlen_le n k
  omega
theorem bitlen_pos {n : Nat} : 0 < bitlen n ↔ 0 < n := by
  rw [bitlen_lt]; simp; omega
end Go.Ab
set_option linter.unusedSimpArgs false
set_option linter.unusedVariables false
namespace Go.Ab
open Go Go.RowKit
section
variable {P : Program} {c : PC} {Q : Ex → Env → St → Prop}
def unrK (K : Env → St → Prop) (Q : Ex → Env → St → Prop) : Ex → Env → St → Prop := fun e env st => match e with | .normal => K env st | e => Q e env st
@[simp] theorem unrK_n (K : Env → St → Prop) (env : Env) (st : St) : unrK K Q .normal env st = K env st := _root_.id rfl
@[simp] theorem unrK_e (K : Env → St → Prop) (i : Nat) (env : Env) (st : St) : unrK K Q (.exit i) env st = Q (.exit i) env st := _root_.id rfl
@[simp] theorem unrK_r (K : Env → St → Prop) (env : Env) (st : St) : unrK K Q .ret env st = Q .ret env st := _root_.id rfl
def unr (P : Program) (c : PC) (Q : Ex → Env → St → Prop) : Nat → Env → St → Prop
  | 0, _, _ => False
  | n + 1, env, st => vc P c (unrK (unr P c Q n) Q) env st
theorem unr_succ (n : Nat) (env : Env) (st : St) : unr P c Q (n + 1) env st = vc P c (unrK (unr P c Q n) Q) env st := _root_.id rfl
theorem vc_unroll {env : Env} {st : St} (n : Nat) (h : unr P c Q n env st) : vc P (.loop c) Q env st := by
  refine vc_loop (fun k env st => unr P c Q k env st) n h ?_
  intro k env' st' hs hu
  cases k with
  | zero => exact hu.elim
  | succ k =>
    refine vc_frame c _ _ env' st' (fun e env'' st'' _ hq => ?_) hu
    cases e with
    | normal => exact ⟨k, st'', Nat.lt_succ_self k, St.sub_refl _, hq⟩
    | exit id => exact hq
    | ret => exact hq
end
theorem Sep.appx' {α : Type} {f : α → List V} {sz : Nat} (hf : ∀ a, (f a).length = sz) (hsz : 0 < sz) {s : V} {l : List α} {L : List Asn} {st : St} (h : Sep (Slx sz f s l :: L) st) {b : Nat} (m : List α) {ys : List V} {n : Nat} (hys : ys = rowsOf f m) (hn : n = m.length) (hb : (l.length + n) * b ≤ 140737488355328) {K : V → St → Prop}
    (hK : ∀ s' st', Sep (Slx sz f s' (l ++ m) :: L) st' → K s' st') : appS sz b s (some (ys, n)) st K := by
  subst hys hn
  exact Sep.appx hf hsz h hb hK
theorem Sep.setAt {i : Nat} {o : AObj} (o' : AObj) : ∀ (n : Nat) {L : List Asn} {st : St}, Sep L st → L[n]? = some (pt i o) → Sep (L.set n (pt i o')) (st.upd i o')
  | 0, A :: L, st, h, e => by
    simp only [List.getElem?_cons_zero, Option.some.injEq] at e
    subst e
    exact h.set o'
  | n + 1, A :: L, st, h, e => by
    obtain ⟨a, r, h1, h2, h3, h4⟩ := h
    have e' : L[n]? = some (pt i o) := by simpa using e
    have hr : r i = some o := Sep.mem h4 (List.mem_of_getElem? e')
    have ih := Sep.setAt o' n h4 e'
    have hai : a i = none := (h1 i).resolve_right (by rw [hr]; simp)
    refine ⟨a, r.upd i o', fun j => ?_, fun j x hx => ?_, h3, ih⟩
    · by_cases ej : j = i
      · exact .inl (ej ▸ hai)
      · rcases h1 j with g | g
        · exact .inl g
        · exact .inr (by simpa [ej] using g)
    · by_cases ej : j = i
      · subst ej
        simpa [St.add, hai] using hx
      · simp only [St.add, st_upd, ej, if_false] at hx ⊢
        exact h2 j x hx
  | _, [], _, _, e => by simp at e
theorem Sep.neq {i j : Nat} {o o' : AObj} : ∀ {L : List Asn} {st : St} (n m : Nat), Sep L st → L[n]? = some (pt i o) → L[m]? = some (pt j o') → n < m → i ≠ j
  | [], _, _, _, _, e, _, _ => by simp at e
  | A :: L, st, 0, m + 1, h, e1, e2, _ => by
    simp only [List.getElem?_cons_zero, Option.some.injEq] at e1
    subst e1
    obtain ⟨a, r, h1, h2, h3, h4⟩ := h
    have hr : r j = some o' := Sep.mem h4 (List.mem_of_getElem? (by simpa using e2))
    rintro rfl
    rcases h1 i with g | g
    · rw [h3] at g; cases g
    · rw [hr] at g; cases g
  | A :: L, st, n + 1, m + 1, h, e1, e2, hlt => by
    obtain ⟨a, r, h1, h2, h3, h4⟩ := h
    exact Sep.neq n m h4 (by simpa using e1) (by simpa using e2) (by omega)
theorem Sep.was' {st0 st : St} {L : List Asn} (h : Sep L st) (hm : Was st0 ∈ L) : St.sub st0 st := by
  obtain ⟨h', k1, rfl⟩ := h.memA hm
  exact k1
theorem Sep.frzSl {α : Type} {f : α → List V} {sz : Nat} (hf : ∀ a, (f a).length = sz) {s : V} {l : List α} {L : List Asn} {st : St} (h : Sep (Sl sz f s l :: L) st) :
    ∃ k st', frzV st s = some (.sl k (rowsOf f l) l.length, st') ∧ Sep L st' ∧ (l ≠ [] → k = .some) := by
  obtain ⟨a, r, h1, h2, h3, h4⟩ := h
  have hsub : St.sub r st := sub_trans (sub_right h1) h2
  rcases h3 with ⟨hs | hs, rfl⟩ | ⟨sid, spare, rfl, h5, h6⟩
  · subst hs
    exact ⟨.nil, st, rfl, h4.sub hsub, fun h => absurd rfl h⟩
  · subst hs
    exact ⟨.full, st, rfl, h4.sub hsub, fun h => absurd rfl h⟩
  · have hsid := h2 _ _ (add_some h5)
    have hl := rowsOf_length hf l
    refine ⟨.some, st.upd sid (.ro (rowsOf f l ++ spare)), ?_, ?_, fun _ => rfl⟩
    · simp only [frzV, frzOb, hsid, Option.bind_some, St.seg, st_upd, if_true, segOf]
      rw [if_pos (by simp; omega), List.drop_zero, ← hl, List.take_left]
      rfl
    · refine h4.sub fun j o e => ?_
      have : j ≠ sid := fun e' => by
        subst e'
        rw [h1.some h5] at e
        cases e
      simp only [st_upd, this, if_false]
      exact hsub j o e
theorem frzP_one {t : Nat} {env : Env} {st st' : St} {v : V} {K : Env → St → Prop} (h : frzV st (env t) = some (v, st')) (hk : K (env.upd t v) st') : frzP [t] env st K := by
  simp only [frzP, h]
  exact hk
theorem condB_join {P : Program} {v : V} {a b c : PC} {Q : Ex → Env → St → Prop} {env : Env} {st : St} (M : Env → St → Prop)
    (h : condB P v a b (unrK M Q) env st) (k : ∀ env' st', Same (a.writes ++ b.writes) env env' → M env' st' → vc P c Q env' st') : condB P v a b (seqK P c Q) env st := by
  have e : ∀ R : Ex → Env → St → Prop, condB P v a b R env st = vc P (.cond (.k v) a b) R env st := fun R => _root_.id rfl
  rw [e] at h ⊢
  refine vc_frame (.cond (.k v) a b) _ _ env st (fun ex env' st' hs hq => ?_) h
  cases ex with
  | normal => exact k env' st' hs hq
  | exit i => exact hq
  | ret => exact hq
end Go.Ab
set_option linter.unusedVariables false
namespace Go.Ab
open Go
def k105 (F : Fn) : PF := PF.mk 5 1 [(PR.cell 2 true 4)] (.seq (.ops [(PO.mk (some 2) (.alloc [(w64 0), (w64 0), (w64 0), (w64 0)]) none)]) (.seq (.ops [(PO.mk (some 3) (.mv (.t 0)) none), (PO.mk (some 4) (.build [(w64 0), (w64 0), (w64 0), (w64 0)] [(0, (1, (.t 3)))]) none), (PO.mk none (.store 4 (.t 2) (.t 4)) none)]) .ret))
def k106 (F : Fn) : PF := PF.mk 24 2 [(.t 4)] (.seq (.ops [(PO.mk (some 2) (.box (.t 0)) none), (PO.mk (some 3) (.box (.t 1)) none), (PO.mk (some 4) (.mv (.k (.int .i64 0))) none)]) (.seq (.seq (.ops [(PO.mk (some 5) (.mv (.k (.int .i64 3))) none)]) (.block 0 (.loop (.seq (.seq (.ops [(PO.mk (some 6) (.mv (.t 5)) none), (PO.mk (some 7) (.bin .geq (.t 6) (.k (.int .i64 0))) none)]) (.cond (.t 7) .skip (.exit 0))) (.seq (.block 1 (.seq (.draw [(.e, (PO.mk (some 10) (.mv (.t 5)) none)), (.e, (PO.mk (some 11) (.idxArr 4 1 (.t 2) (.t 10)) none)), (.e, (PO.mk (some 13) (.mv (.t 5)) none)), (.e, (PO.mk (some 14) (.idxArr 4 1 (.t 3) (.t 13)) none)), (.s, (PO.mk (some 12) (.load false 1 (.t 11)) none)), (.s, (PO.mk (some 15) (.load false 1 (.t 14)) none)), (.e, (PO.mk (some 16) (.bin .neq (.t 12) (.t 15)) none))]) (.cond (.t 16) (.seq (.seq (.draw [(.e, (PO.mk (some 17) (.mv (.t 5)) none)), (.e, (PO.mk (some 18) (.idxArr 4 1 (.t 2) (.t 17)) none)), (.e, (PO.mk (some 20) (.mv (.t 5)) none)), (.e, (PO.mk (some 21) (.idxArr 4 1 (.t 3) (.t 20)) none)), (.s, (PO.mk (some 19) (.load false 1 (.t 18)) none)), (.s, (PO.mk (some 22) (.load false 1 (.t 21)) none)), (.e, (PO.mk (some 23) (.bin .lss (.t 19) (.t 22)) none))]) (.cond (.t 23) (.seq (.ops [(PO.mk (some 4) (.mv (.k (.int .i64 (-1)))) none)]) .ret) .skip)) (.seq (.ops [(PO.mk (some 4) (.mv (.k (.int .i64 1))) none)]) .ret)) .skip))) (.ops [(PO.mk (some 8) (.mv (.t 5)) none), (PO.mk (some 9) (.bin .sub (.t 8) (.k (.int .i64 1))) none), (PO.mk (some 5) (.mv (.t 9)) none)])))))) (.seq (.ops [(PO.mk (some 4) (.mv (.k (.int .i64 0))) none)]) .ret)))
def k107 (F : Fn) : PF := PF.mk 6 1 [(.t 2)] (.seq (.ops [(PO.mk (some 1) (.box (.t 0)) none), (PO.mk (some 2) (.mv (.k (.bool false))) none)]) (.seq (.ops [(PO.mk (some 3) (.load true 4 (.t 1)) none), (PO.mk (some 4) (.build [(w64 0), (w64 0), (w64 0), (w64 0)] []) none), (PO.mk (some 5) (.eqa (.agg 4) false (.t 3) (.t 4)) none), (PO.mk (some 2) (.mv (.t 5)) none)]) .ret))
def k108 (F : Fn) : PF := PF.mk 41 1 [(PR.cell 2 true 4), (.t 3)] (.seq (.ops [(PO.mk (some 2) (.alloc [(w64 0), (w64 0), (w64 0), (w64 0)]) none), (PO.mk (some 3) (.mv (.k (.bool false))) none)]) (.seq (.ops [(PO.mk (some 4) (.alloc [(w64 0), (w64 0), (w64 0), (w64 0)]) none)]) (.seq (.ops [(PO.mk (some 5) (.mv (.k (.bool false))) none)]) (.seq (.seq (.ops [(PO.mk (some 10) (.mv (.t 0)) none), (PO.mk (some 11) (.lenSl (.t 10)) none), (PO.mk (some 12) (.mv (.k (.int .i64 0))) none)]) (.block 0 (.loop (.seq (.ops [(PO.mk (some 13) (.bin .lss (.t 12) (.t 11)) none)]) (.seq (.cond (.t 13) .skip (.exit 0)) (.seq (.block 1 (.seq (.ops [(PO.mk (some 14) (.idxSl 4 (.t 10) (.t 12)) none), (PO.mk (some 15) (.load true 4 (.t 14)) none), (PO.mk (some 7) (.alloc [(w64 0), (w64 0), (w64 0), (w64 0)]) none), (PO.mk none (.store 4 (.t 7) (.t 15)) none)]) (.seq (.ops [(PO.mk (some 8) (.mv (.k (w64 0))) none)]) (.seq (.seq (.ops [(PO.mk (some 16) (.mv (.k (.int .i64 0))) none)]) (.block 2 (.loop (.seq (.ops [(PO.mk (some 17) (.bin .lss (.t 16) (.k (.int .i64 4))) none)]) (.seq (.cond (.t 17) .skip (.exit 2)) (.seq (.block 3 (.seq (.ops [(PO.mk (some 18) (.mv (.t 16)) none), (PO.mk (some 9) (.mv (.t 18)) none)]) (.draw [(.e, (PO.mk (some 20) (.mv (.t 9)) none)), (.e, (PO.mk (some 21) (.mv (.t 9)) none)), (.e, (PO.mk (some 22) (.idxArr 4 1 (.t 4) (.t 21)) none)), (.e, (PO.mk (some 24) (.mv (.t 9)) none)), (.e, (PO.mk (some 25) (.idxArr 4 1 (.t 7) (.t 24)) none)), (.e, (PO.mk (some 27) (.mv (.t 8)) none)), (.s, (PO.mk (some 23) (.load false 1 (.t 22)) none)), (.s, (PO.mk (some 26) (.load false 1 (.t 25)) none)), (.e, (PO.mk (some 28) (.carry false (.t 23) (.t 26) (.t 27)) none)), (.e, (PO.mk (some 19) (.mv (.t 28)) none)), (.e, (PO.mk (some 29) (.ext 0 (.t 19)) none)), (.e, (PO.mk (some 30) (.ext 1 (.t 19)) none)), (.e, (PO.mk (some 31) (.idxArr 4 1 (.t 4) (.t 20)) none)), (.x, (PO.mk none (.store 1 (.t 31) (.t 29)) none)), (.e, (PO.mk (some 8) (.mv (.t 30)) none))]))) (.ops [(PO.mk (some 32) (.bin .add (.t 16) (.k (.int .i64 1))) none), (PO.mk (some 16) (.mv (.t 32)) none)]))))))) (.ops [(PO.mk (some 33) (.mv (.t 5)) none), (PO.mk (some 34) (.mv (.t 33)) none), (PO.mk (some 35) (.mv (.t 8)) (some (34, false))), (PO.mk (some 36) (.bin .neq (.t 35) (.k (w64 0))) (some (34, false))), (PO.mk (some 37) (.pick (.t 34) (.k (.bool true)) (.t 36)) none), (PO.mk (some 5) (.mv (.t 37)) none)]))))) (.ops [(PO.mk (some 38) (.bin .add (.t 12) (.k (.int .i64 1))) none), (PO.mk (some 12) (.mv (.t 38)) none)]))))))) (.seq (.ops [(PO.mk (some 39) (.load true 4 (.t 4)) none), (PO.mk (some 40) (.mv (.t 5)) none), (PO.mk none (.store 4 (.t 2) (.t 39)) none), (PO.mk (some 3) (.mv (.t 40)) none)]) .ret)))))
def k109 (F : Fn) : PF := PF.mk 28 2 [(PR.cell 4 true 4), (.t 5)] (.seq (.ops [(PO.mk (some 2) (.box (.t 0)) none), (PO.mk (some 3) (.box (.t 1)) none), (PO.mk (some 4) (.alloc [(w64 0), (w64 0), (w64 0), (w64 0)]) none), (PO.mk (some 5) (.mv (.k (.bool false))) none)]) (.seq (.ops [(PO.mk (some 6) (.mv (.k (w64 0))) none)]) (.seq (.seq (.ops [(PO.mk (some 8) (.mv (.k (.int .i64 0))) none)]) (.block 0 (.loop (.seq (.ops [(PO.mk (some 9) (.bin .lss (.t 8) (.k (.int .i64 4))) none)]) (.seq (.cond (.t 9) .skip (.exit 0)) (.seq (.block 1 (.seq (.ops [(PO.mk (some 10) (.mv (.t 8)) none), (PO.mk (some 7) (.mv (.t 10)) none)]) (.draw [(.e, (PO.mk (some 12) (.mv (.t 7)) none)), (.e, (PO.mk (some 13) (.mv (.t 7)) none)), (.e, (PO.mk (some 14) (.idxArr 4 1 (.t 2) (.t 13)) none)), (.e, (PO.mk (some 16) (.mv (.t 7)) none)), (.e, (PO.mk (some 17) (.idxArr 4 1 (.t 3) (.t 16)) none)), (.e, (PO.mk (some 19) (.mv (.t 6)) none)), (.s, (PO.mk (some 15) (.load false 1 (.t 14)) none)), (.s, (PO.mk (some 18) (.load false 1 (.t 17)) none)), (.e, (PO.mk (some 20) (.carry true (.t 15) (.t 18) (.t 19)) none)), (.e, (PO.mk (some 11) (.mv (.t 20)) none)), (.e, (PO.mk (some 21) (.ext 0 (.t 11)) none)), (.e, (PO.mk (some 22) (.ext 1 (.t 11)) none)), (.e, (PO.mk (some 23) (.idxArr 4 1 (.t 2) (.t 12)) none)), (.x, (PO.mk none (.store 1 (.t 23) (.t 21)) none)), (.e, (PO.mk (some 6) (.mv (.t 22)) none))]))) (.ops [(PO.mk (some 24) (.bin .add (.t 8) (.k (.int .i64 1))) none), (PO.mk (some 8) (.mv (.t 24)) none)]))))))) (.seq (.ops [(PO.mk (some 25) (.load true 4 (.t 2)) none), (PO.mk (some 26) (.mv (.t 6)) none), (PO.mk (some 27) (.bin .neq (.t 26) (.k (w64 0))) none), (PO.mk none (.store 4 (.t 4) (.t 25)) none), (PO.mk (some 5) (.mv (.t 27)) none)]) .ret))))
def k110 (F : Fn) : PF := PF.mk 39 2 [(PR.cell 4 true 4), (.t 5)] (.seq (.ops [(PO.mk (some 2) (.box (.t 0)) none), (PO.mk (some 4) (.alloc [(w64 0), (w64 0), (w64 0), (w64 0)]) none), (PO.mk (some 5) (.mv (.k (.bool false))) none)]) (.seq (.ops [(PO.mk (some 6) (.mv (.k (w64 0))) none)]) (.seq (.seq (.ops [(PO.mk (some 12) (.load true 4 (.t 2)) none), (PO.mk (some 13) (.mv (.k (.int .i64 0))) none)]) (.block 0 (.loop (.seq (.ops [(PO.mk (some 14) (.bin .lss (.t 13) (.k (.int .i64 4))) none)]) (.seq (.cond (.t 14) .skip (.exit 0)) (.seq (.block 1 (.seq (.ops [(PO.mk (some 15) (.mv (.t 13)) none), (PO.mk (some 16) (.idx 4 false 1 (.t 12) (.t 13)) none), (PO.mk (some 7) (.mv (.t 15)) none), (PO.mk (some 8) (.mv (.t 16)) none)]) (.seq (.ops [(PO.mk (some 18) (.mv (.t 8)) none), (PO.mk (some 19) (.mv (.t 1)) none), (PO.mk (some 20) (.call (F 118) [(.t 18), (.t 19)]) none), (PO.mk (some 17) (.mv (.t 20)) none), (PO.mk (some 21) (.ext 0 (.t 17)) none), (PO.mk (some 22) (.ext 1 (.t 17)) none), (PO.mk (some 9) (.mv (.t 21)) none), (PO.mk (some 10) (.mv (.t 22)) none)]) (.seq (.ops [(PO.mk (some 24) (.mv (.t 10)) none), (PO.mk (some 25) (.mv (.t 6)) none), (PO.mk (some 26) (.carry false (.t 24) (.t 25) (.k (w64 0))) none), (PO.mk (some 23) (.mv (.t 26)) none), (PO.mk (some 27) (.ext 0 (.t 23)) none), (PO.mk (some 28) (.ext 1 (.t 23)) none), (PO.mk (some 10) (.mv (.t 27)) none), (PO.mk (some 11) (.mv (.t 28)) none)]) (.ops [(PO.mk (some 29) (.mv (.t 7)) none), (PO.mk (some 30) (.mv (.t 10)) none), (PO.mk (some 31) (.mv (.t 9)) none), (PO.mk (some 32) (.mv (.t 11)) none), (PO.mk (some 33) (.bin .add (.t 31) (.t 32)) none), (PO.mk (some 34) (.idxArr 4 1 (.t 2) (.t 29)) none), (PO.mk none (.store 1 (.t 34) (.t 30)) none), (PO.mk (some 6) (.mv (.t 33)) none)]))))) (.ops [(PO.mk (some 35) (.bin .add (.t 13) (.k (.int .i64 1))) none), (PO.mk (some 13) (.mv (.t 35)) none)]))))))) (.seq (.ops [(PO.mk (some 36) (.load true 4 (.t 2)) none), (PO.mk (some 37) (.mv (.t 6)) none), (PO.mk (some 38) (.bin .neq (.t 37) (.k (w64 0))) none), (PO.mk none (.store 4 (.t 4) (.t 36)) none), (PO.mk (some 5) (.mv (.t 38)) none)]) .ret))))
def k111 (F : Fn) : PF := PF.mk 16 1 [(PR.cell 2 true 4)] (.seq (.ops [(PO.mk (some 1) (.box (.t 0)) none), (PO.mk (some 2) (.alloc [(w64 0), (w64 0), (w64 0), (w64 0)]) none)]) (.seq (.ops [(PO.mk (some 3) (.idxArr 4 1 (.t 1) (.k (.int .i64 0))) none), (PO.mk (some 4) (.load false 1 (.t 3)) none), (PO.mk (some 5) (.inv (.t 4)) none), (PO.mk (some 6) (.idxArr 4 1 (.t 1) (.k (.int .i64 1))) none), (PO.mk (some 7) (.load false 1 (.t 6)) none), (PO.mk (some 8) (.inv (.t 7)) none), (PO.mk (some 9) (.idxArr 4 1 (.t 1) (.k (.int .i64 2))) none), (PO.mk (some 10) (.load false 1 (.t 9)) none), (PO.mk (some 11) (.inv (.t 10)) none), (PO.mk (some 12) (.idxArr 4 1 (.t 1) (.k (.int .i64 3))) none), (PO.mk (some 13) (.load false 1 (.t 12)) none), (PO.mk (some 14) (.inv (.t 13)) none), (PO.mk (some 15) (.build [(w64 0), (w64 0), (w64 0), (w64 0)] [(0, (1, (.t 5))), (1, (1, (.t 8))), (2, (1, (.t 11))), (3, (1, (.t 14)))]) none), (PO.mk none (.store 4 (.t 2) (.t 15)) none)]) .ret))
def k112 (F : Fn) : PF := PF.mk 57 2 [(PR.cell 4 true 4)] (.seq (.ops [(PO.mk (some 2) (.box (.t 0)) none), (PO.mk (some 4) (.alloc [(w64 0), (w64 0), (w64 0), (w64 0)]) none)]) (.seq (.seq (.ops [(PO.mk (some 9) (.mv (.t 1)) none), (PO.mk (some 10) (.bin .lss (.t 9) (.k (.int .i64 0))) none), (PO.mk (some 11) (.mv (.t 10)) none), (PO.mk (some 12) (.mv (.t 1)) (some (11, false))), (PO.mk (some 13) (.bin .gtr (.t 12) (.k (.int .i64 255))) (some (11, false))), (PO.mk (some 14) (.pick (.t 11) (.k (.bool true)) (.t 13)) none)]) (.cond (.t 14) (.seq (.ops [(PO.mk (some 15) (.build [(w64 0), (w64 0), (w64 0), (w64 0)] []) none), (PO.mk none (.store 4 (.t 4) (.t 15)) none)]) .ret) .skip)) (.seq (.ops [(PO.mk (some 5) (.alloc [(w64 0), (w64 0), (w64 0), (w64 0)]) none)]) (.seq (.ops [(PO.mk (some 16) (.mv (.t 1)) none), (PO.mk (some 17) (.bin .quo (.t 16) (.k (.int .i64 64))) none), (PO.mk (some 18) (.mv (.t 1)) none), (PO.mk (some 19) (.bin .rem (.t 18) (.k (.int .i64 64))) none), (PO.mk (some 20) (.conv .u64 (.t 19)) none), (PO.mk (some 6) (.mv (.t 17)) none), (PO.mk (some 7) (.mv (.t 20)) none)]) (.seq (.seq (.ops [(PO.mk (some 8) (.mv (.k (.int .i64 3))) none)]) (.block 0 (.loop (.seq (.seq (.ops [(PO.mk (some 21) (.mv (.t 8)) none), (PO.mk (some 22) (.mv (.t 6)) none), (PO.mk (some 23) (.bin .geq (.t 21) (.t 22)) none)]) (.cond (.t 23) .skip (.exit 0))) (.seq (.block 1 (.seq (.ops [(PO.mk (some 26) (.mv (.t 8)) none), (PO.mk (some 27) (.mv (.t 8)) none), (PO.mk (some 28) (.mv (.t 6)) none), (PO.mk (some 29) (.bin .sub (.t 27) (.t 28)) none), (PO.mk (some 30) (.idxArr 4 1 (.t 2) (.t 29)) none), (PO.mk (some 31) (.load false 1 (.t 30)) none), (PO.mk (some 32) (.mv (.t 7)) none), (PO.mk (some 33) (.bin .shl (.t 31) (.t 32)) none), (PO.mk (some 34) (.idxArr 4 1 (.t 5) (.t 26)) none), (PO.mk none (.store 1 (.t 34) (.t 33)) none)]) (.seq (.ops [(PO.mk (some 35) (.mv (.t 8)) none), (PO.mk (some 36) (.mv (.t 6)) none), (PO.mk (some 37) (.bin .gtr (.t 35) (.t 36)) none), (PO.mk (some 38) (.mv (.t 37)) none), (PO.mk (some 39) (.mv (.t 7)) (some (38, true))), (PO.mk (some 40) (.bin .gtr (.t 39) (.k (w64 0))) (some (38, true))), (PO.mk (some 41) (.pick (.t 38) (.t 40) (.k (.bool false))) none)]) (.cond (.t 41) (.draw [(.e, (PO.mk (some 42) (.mv (.t 8)) none)), (.e, (PO.mk (some 43) (.idxArr 4 1 (.t 5) (.t 42)) none)), (.e, (PO.mk (some 45) (.mv (.t 8)) none)), (.e, (PO.mk (some 46) (.mv (.t 6)) none)), (.e, (PO.mk (some 47) (.bin .sub (.t 45) (.t 46)) none)), (.e, (PO.mk (some 48) (.bin .sub (.t 47) (.k (.int .i64 1))) none)), (.e, (PO.mk (some 49) (.idxArr 4 1 (.t 2) (.t 48)) none)), (.e, (PO.mk (some 51) (.mv (.t 7)) none)), (.e, (PO.mk (some 52) (.bin .sub (.k (w64 64)) (.t 51)) none)), (.s, (PO.mk (some 44) (.load false 1 (.t 43)) none)), (.s, (PO.mk (some 50) (.load false 1 (.t 49)) none)), (.e, (PO.mk (some 53) (.bin .shr (.t 50) (.t 52)) none)), (.e, (PO.mk (some 54) (.bin .or (.t 44) (.t 53)) none)), (.e, (PO.mk (some 55) (.idxArr 4 1 (.t 5) (.t 42)) none)), (.x, (PO.mk none (.store 1 (.t 55) (.t 54)) none))]) .skip)))) (.ops [(PO.mk (some 24) (.mv (.t 8)) none), (PO.mk (some 25) (.bin .sub (.t 24) (.k (.int .i64 1))) none), (PO.mk (some 8) (.mv (.t 25)) none)])))))) (.seq (.ops [(PO.mk (some 56) (.load true 4 (.t 5)) none), (PO.mk none (.store 4 (.t 4) (.t 56)) none)]) .ret))))))
def k113 (F : Fn) : PF := PF.mk 59 2 [(PR.cell 4 true 4)] (.seq (.ops [(PO.mk (some 2) (.box (.t 0)) none), (PO.mk (some 4) (.alloc [(w64 0), (w64 0), (w64 0), (w64 0)]) none)]) (.seq (.seq (.ops [(PO.mk (some 9) (.mv (.t 1)) none), (PO.mk (some 10) (.bin .lss (.t 9) (.k (.int .i64 0))) none), (PO.mk (some 11) (.mv (.t 10)) none), (PO.mk (some 12) (.mv (.t 1)) (some (11, false))), (PO.mk (some 13) (.bin .gtr (.t 12) (.k (.int .i64 255))) (some (11, false))), (PO.mk (some 14) (.pick (.t 11) (.k (.bool true)) (.t 13)) none)]) (.cond (.t 14) (.seq (.ops [(PO.mk (some 15) (.build [(w64 0), (w64 0), (w64 0), (w64 0)] []) none), (PO.mk none (.store 4 (.t 4) (.t 15)) none)]) .ret) .skip)) (.seq (.ops [(PO.mk (some 5) (.alloc [(w64 0), (w64 0), (w64 0), (w64 0)]) none)]) (.seq (.ops [(PO.mk (some 16) (.mv (.t 1)) none), (PO.mk (some 17) (.bin .quo (.t 16) (.k (.int .i64 64))) none), (PO.mk (some 18) (.mv (.t 1)) none), (PO.mk (some 19) (.bin .rem (.t 18) (.k (.int .i64 64))) none), (PO.mk (some 20) (.conv .u64 (.t 19)) none), (PO.mk (some 6) (.mv (.t 17)) none), (PO.mk (some 7) (.mv (.t 20)) none)]) (.seq (.seq (.ops [(PO.mk (some 8) (.mv (.k (.int .i64 0))) none)]) (.block 0 (.loop (.seq (.seq (.ops [(PO.mk (some 21) (.mv (.t 8)) none), (PO.mk (some 22) (.mv (.t 6)) none), (PO.mk (some 23) (.bin .sub (.k (.int .i64 4)) (.t 22)) none), (PO.mk (some 24) (.bin .lss (.t 21) (.t 23)) none)]) (.cond (.t 24) .skip (.exit 0))) (.seq (.block 1 (.seq (.ops [(PO.mk (some 27) (.mv (.t 8)) none), (PO.mk (some 28) (.mv (.t 8)) none), (PO.mk (some 29) (.mv (.t 6)) none), (PO.mk (some 30) (.bin .add (.t 28) (.t 29)) none), (PO.mk (some 31) (.idxArr 4 1 (.t 2) (.t 30)) none), (PO.mk (some 32) (.load false 1 (.t 31)) none), (PO.mk (some 33) (.mv (.t 7)) none), (PO.mk (some 34) (.bin .shr (.t 32) (.t 33)) none), (PO.mk (some 35) (.idxArr 4 1 (.t 5) (.t 27)) none), (PO.mk none (.store 1 (.t 35) (.t 34)) none)]) (.seq (.ops [(PO.mk (some 36) (.mv (.t 8)) none), (PO.mk (some 37) (.mv (.t 6)) none), (PO.mk (some 38) (.bin .add (.t 36) (.t 37)) none), (PO.mk (some 39) (.bin .lss (.t 38) (.k (.int .i64 3))) none), (PO.mk (some 40) (.mv (.t 39)) none), (PO.mk (some 41) (.mv (.t 7)) (some (40, true))), (PO.mk (some 42) (.bin .gtr (.t 41) (.k (w64 0))) (some (40, true))), (PO.mk (some 43) (.pick (.t 40) (.t 42) (.k (.bool false))) none)]) (.cond (.t 43) (.draw [(.e, (PO.mk (some 44) (.mv (.t 8)) none)), (.e, (PO.mk (some 45) (.idxArr 4 1 (.t 5) (.t 44)) none)), (.e, (PO.mk (some 47) (.mv (.t 8)) none)), (.e, (PO.mk (some 48) (.mv (.t 6)) none)), (.e, (PO.mk (some 49) (.bin .add (.t 47) (.t 48)) none)), (.e, (PO.mk (some 50) (.bin .add (.t 49) (.k (.int .i64 1))) none)), (.e, (PO.mk (some 51) (.idxArr 4 1 (.t 2) (.t 50)) none)), (.e, (PO.mk (some 53) (.mv (.t 7)) none)), (.e, (PO.mk (some 54) (.bin .sub (.k (w64 64)) (.t 53)) none)), (.s, (PO.mk (some 46) (.load false 1 (.t 45)) none)), (.s, (PO.mk (some 52) (.load false 1 (.t 51)) none)), (.e, (PO.mk (some 55) (.bin .shl (.t 52) (.t 54)) none)), (.e, (PO.mk (some 56) (.bin .or (.t 46) (.t 55)) none)), (.e, (PO.mk (some 57) (.idxArr 4 1 (.t 5) (.t 44)) none)), (.x, (PO.mk none (.store 1 (.t 57) (.t 56)) none))]) .skip)))) (.ops [(PO.mk (some 25) (.mv (.t 8)) none), (PO.mk (some 26) (.bin .add (.t 25) (.k (.int .i64 1))) none), (PO.mk (some 8) (.mv (.t 26)) none)])))))) (.seq (.ops [(PO.mk (some 58) (.load true 4 (.t 5)) none), (PO.mk none (.store 4 (.t 4) (.t 58)) none)]) .ret))))))
def k114 (F : Fn) : PF := PF.mk 19 1 [(.t 2)] (.seq (.ops [(PO.mk (some 1) (.box (.t 0)) none), (PO.mk (some 2) (.mv (.k (.int .i64 0))) none)]) (.seq (.seq (.ops [(PO.mk (some 3) (.mv (.k (.int .i64 3))) none)]) (.block 0 (.loop (.seq (.seq (.ops [(PO.mk (some 4) (.mv (.t 3)) none), (PO.mk (some 5) (.bin .geq (.t 4) (.k (.int .i64 0))) none)]) (.cond (.t 5) .skip (.exit 0))) (.seq (.block 1 (.seq (.ops [(PO.mk (some 8) (.mv (.t 3)) none), (PO.mk (some 9) (.idxArr 4 1 (.t 1) (.t 8)) none), (PO.mk (some 10) (.load false 1 (.t 9)) none), (PO.mk (some 11) (.bin .neq (.t 10) (.k (w64 0))) none)]) (.cond (.t 11) (.seq (.ops [(PO.mk (some 12) (.mv (.t 3)) none), (PO.mk (some 13) (.bin .mul (.k (.int .i64 64)) (.t 12)) none), (PO.mk (some 14) (.mv (.t 3)) none), (PO.mk (some 15) (.idxArr 4 1 (.t 1) (.t 14)) none), (PO.mk (some 16) (.load false 1 (.t 15)) none), (PO.mk (some 17) (.call (F 115) [(.t 16)]) none), (PO.mk (some 18) (.bin .add (.t 13) (.t 17)) none), (PO.mk (some 2) (.mv (.t 18)) none)]) .ret) .skip))) (.ops [(PO.mk (some 6) (.mv (.t 3)) none), (PO.mk (some 7) (.bin .sub (.t 6) (.k (.int .i64 1))) none), (PO.mk (some 3) (.mv (.t 7)) none)])))))) (.seq (.ops [(PO.mk (some 2) (.mv (.k (.int .i64 0))) none)]) .ret)))
def k116 (F : Fn) : PF := PF.mk 48 2 [(PR.cell 4 true 4), (PR.cell 5 true 4), (.t 6)] (.seq (.ops [(PO.mk (some 2) (.box (.t 0)) none), (PO.mk (some 3) (.box (.t 1)) none), (PO.mk (some 4) (.alloc [(w64 0), (w64 0), (w64 0), (w64 0)]) none), (PO.mk (some 5) (.alloc [(w64 0), (w64 0), (w64 0), (w64 0)]) none), (PO.mk (some 6) (.mv (.k (.int .i64 0))) none)]) (.seq (.seq (.ops [(PO.mk (some 10) (.load true 4 (.t 3)) none), (PO.mk (some 11) (.call (F 107) [(.t 10)]) none)]) (.cond (.t 11) (.seq (.ops [(PO.mk (some 12) (.build [(w64 0), (w64 0), (w64 0), (w64 0)] []) none), (PO.mk (some 13) (.build [(w64 0), (w64 0), (w64 0), (w64 0)] []) none), (PO.mk none (.store 4 (.t 4) (.t 12)) none), (PO.mk none (.store 4 (.t 5) (.t 13)) none), (PO.mk (some 6) (.mv (.k (.int .i64 1))) none)]) .ret) .skip)) (.seq (.ops [(PO.mk (some 7) (.alloc [(w64 0), (w64 0), (w64 0), (w64 0)]) none)]) (.seq (.seq (.draw [(.s, (PO.mk (some 14) (.load true 4 (.t 2)) none)), (.s, (PO.mk (some 15) (.call (F 114) [(.t 14)]) none)), (.s, (PO.mk (some 16) (.load true 4 (.t 3)) none)), (.s, (PO.mk (some 17) (.call (F 114) [(.t 16)]) none)), (.e, (PO.mk (some 18) (.bin .sub (.t 15) (.t 17)) none)), (.e, (PO.mk (some 8) (.mv (.t 18)) none))]) (.block 0 (.loop (.seq (.seq (.ops [(PO.mk (some 19) (.mv (.t 8)) none), (PO.mk (some 20) (.bin .geq (.t 19) (.k (.int .i64 0))) none)]) (.cond (.t 20) .skip (.exit 0))) (.seq (.block 1 (.seq (.ops [(PO.mk (some 23) (.load true 4 (.t 3)) none), (PO.mk (some 24) (.mv (.t 8)) none), (PO.mk (some 25) (.call (F 112) [(.t 23), (.t 24)]) none), (PO.mk (some 9) (.alloc [(w64 0), (w64 0), (w64 0), (w64 0)]) none), (PO.mk none (.store 4 (.t 9) (.t 25)) none)]) (.seq (.ops [(PO.mk (some 26) (.load true 4 (.t 9)) none), (PO.mk (some 27) (.load true 4 (.t 2)) none), (PO.mk (some 28) (.call (F 106) [(.t 26), (.t 27)]) none), (PO.mk (some 29) (.bin .leq (.t 28) (.k (.int .i64 0))) none)]) (.cond (.t 29) (.seq (.ops [(PO.mk (some 31) (.load true 4 (.t 2)) none), (PO.mk (some 32) (.load true 4 (.t 9)) none), (PO.mk (some 33) (.call (F 109) [(.t 31), (.t 32)]) none), (PO.mk (some 30) (.mv (.t 33)) none), (PO.mk (some 34) (.ext 0 (.t 30)) none), (PO.mk (some 35) (.ext 1 (.t 30)) none), (PO.mk none (.store 4 (.t 2) (.t 34)) none)]) (.ops [(PO.mk (some 36) (.mv (.t 8)) none), (PO.mk (some 37) (.bin .quo (.t 36) (.k (.int .i64 64))) none), (PO.mk (some 38) (.idxArr 4 1 (.t 7) (.t 37)) none), (PO.mk (some 39) (.load false 1 (.t 38)) none), (PO.mk (some 40) (.mv (.t 8)) none), (PO.mk (some 41) (.bin .rem (.t 40) (.k (.int .i64 64))) none), (PO.mk (some 42) (.conv .u64 (.t 41)) none), (PO.mk (some 43) (.bin .shl (.k (w64 1)) (.t 42)) none), (PO.mk (some 44) (.bin .or (.t 39) (.t 43)) none), (PO.mk (some 45) (.idxArr 4 1 (.t 7) (.t 37)) none), (PO.mk none (.store 1 (.t 45) (.t 44)) none)])) .skip)))) (.ops [(PO.mk (some 21) (.mv (.t 8)) none), (PO.mk (some 22) (.bin .sub (.t 21) (.k (.int .i64 1))) none), (PO.mk (some 8) (.mv (.t 22)) none)])))))) (.seq (.draw2 [(7, 4), (7, 5), (2, 4), (2, 5)] [(.s, (PO.mk (some 46) (.load true 4 (.t 7)) none)), (.s, (PO.mk (some 47) (.load true 4 (.t 2)) none)), (.x, (PO.mk none (.store 4 (.t 4) (.t 46)) none)), (.x, (PO.mk none (.store 4 (.t 5) (.t 47)) none)), (.e, (PO.mk (some 6) (.mv (.k (.int .i64 0))) none))]) .ret)))))
def k117 (F : Fn) : PF := PF.mk 26 1 [(PR.cell 2 true 4)] (.seq (.ops [(PO.mk (some 1) (.box (.t 0)) none), (PO.mk (some 2) (.alloc [(w64 0), (w64 0), (w64 0), (w64 0)]) none)]) (.seq (.ops [(PO.mk (some 3) (.alloc [(w64 0), (w64 0), (w64 0), (w64 0)]) none)]) (.seq (.seq (.ops [(PO.mk (some 6) (.load true 32 (.t 1)) none), (PO.mk (some 7) (.mv (.k (.int .i64 0))) none)]) (.block 0 (.loop (.seq (.ops [(PO.mk (some 8) (.bin .lss (.t 7) (.k (.int .i64 32))) none)]) (.seq (.cond (.t 8) .skip (.exit 0)) (.seq (.block 1 (.seq (.ops [(PO.mk (some 9) (.mv (.t 7)) none), (PO.mk (some 10) (.idx 32 false 1 (.t 6) (.t 7)) none), (PO.mk (some 4) (.mv (.t 9)) none), (PO.mk (some 5) (.mv (.t 10)) none)]) (.ops [(PO.mk (some 11) (.mv (.t 4)) none), (PO.mk (some 12) (.bin .quo (.t 11) (.k (.int .i64 8))) none), (PO.mk (some 13) (.idxArr 4 1 (.t 3) (.t 12)) none), (PO.mk (some 14) (.load false 1 (.t 13)) none), (PO.mk (some 15) (.mv (.t 5)) none), (PO.mk (some 16) (.conv .u64 (.t 15)) none), (PO.mk (some 17) (.mv (.t 4)) none), (PO.mk (some 18) (.bin .rem (.t 17) (.k (.int .i64 8))) none), (PO.mk (some 19) (.bin .mul (.k (.int .i64 8)) (.t 18)) none), (PO.mk (some 20) (.conv .u64 (.t 19)) none), (PO.mk (some 21) (.bin .shl (.t 16) (.t 20)) none), (PO.mk (some 22) (.bin .or (.t 14) (.t 21)) none), (PO.mk (some 23) (.idxArr 4 1 (.t 3) (.t 12)) none), (PO.mk none (.store 1 (.t 23) (.t 22)) none)]))) (.ops [(PO.mk (some 24) (.bin .add (.t 7) (.k (.int .i64 1))) none), (PO.mk (some 7) (.mv (.t 24)) none)]))))))) (.seq (.ops [(PO.mk (some 25) (.load true 4 (.t 3)) none), (PO.mk none (.store 4 (.t 2) (.t 25)) none)]) .ret))))
def k115 (F : Fn) : PF := PF.mk 25 1 [(.t 2)] (.seq (.ops [(PO.mk (some 2) (.mv (.k (.int .i64 0))) none)]) (.seq (.seq (.ops [(PO.mk (some 3) (.mv (.t 0)) none), (PO.mk (some 4) (.bin .geq (.t 3) (.k (w64 4294967296))) none)]) (.cond (.t 4) (.seq (.ops [(PO.mk (some 5) (.mv (.t 0)) none), (PO.mk (some 6) (.bin .shr (.t 5) (.k (w64 32))) none), (PO.mk (some 0) (.mv (.t 6)) none)]) (.ops [(PO.mk (some 2) (.mv (.k (.int .i64 32))) none)])) .skip)) (.seq (.seq (.ops [(PO.mk (some 7) (.mv (.t 0)) none), (PO.mk (some 8) (.bin .geq (.t 7) (.k (w64 65536))) none)]) (.cond (.t 8) (.seq (.ops [(PO.mk (some 9) (.mv (.t 0)) none), (PO.mk (some 10) (.bin .shr (.t 9) (.k (w64 16))) none), (PO.mk (some 0) (.mv (.t 10)) none)]) (.ops [(PO.mk (some 11) (.mv (.t 2)) none), (PO.mk (some 12) (.bin .add (.t 11) (.k (.int .i64 16))) none), (PO.mk (some 2) (.mv (.t 12)) none)])) .skip)) (.seq (.seq (.ops [(PO.mk (some 13) (.mv (.t 0)) none), (PO.mk (some 14) (.bin .geq (.t 13) (.k (w64 256))) none)]) (.cond (.t 14) (.seq (.ops [(PO.mk (some 15) (.mv (.t 0)) none), (PO.mk (some 16) (.bin .shr (.t 15) (.k (w64 8))) none), (PO.mk (some 0) (.mv (.t 16)) none)]) (.ops [(PO.mk (some 17) (.mv (.t 2)) none), (PO.mk (some 18) (.bin .add (.t 17) (.k (.int .i64 8))) none), (PO.mk (some 2) (.mv (.t 18)) none)])) .skip)) (.seq (.ops [(PO.mk (some 19) (.mv (.t 2)) none), (PO.mk (some 20) (.mv (.t 0)) none), (PO.mk (some 21) (.conv .u8 (.t 20)) none), (PO.mk (some 22) (.idxStr (.k (.str (ByteArray.mk ⟨[0, 1, 2, 2, 3, 3, 3, 3, 4, 4, 4, 4, 4, 4, 4, 4, 5, 5, 5, 5, 5, 5, 5, 5, 5, 5, 5, 5, 5, 5, 5, 5, 6, 6, 6, 6, 6, 6, 6, 6, 6, 6, 6, 6, 6, 6, 6, 6, 6, 6, 6, 6, 6, 6, 6, 6, 6, 6, 6, 6, 6, 6, 6, 6, 7, 7, 7, 7, 7, 7, 7, 7, 7, 7, 7, 7, 7, 7, 7, 7, 7, 7, 7, 7, 7, 7, 7, 7, 7, 7, 7, 7, 7, 7, 7, 7, 7, 7, 7, 7, 7, 7, 7, 7, 7, 7, 7, 7, 7, 7, 7, 7, 7, 7, 7, 7, 7, 7, 7, 7, 7, 7, 7, 7, 7, 7, 7, 7, 8, 8, 8, 8, 8, 8, 8, 8, 8, 8, 8, 8, 8, 8, 8, 8, 8, 8, 8, 8, 8, 8, 8, 8, 8, 8, 8, 8, 8, 8, 8, 8, 8, 8, 8, 8, 8, 8, 8, 8, 8, 8, 8, 8, 8, 8, 8, 8, 8, 8, 8, 8, 8, 8, 8, 8, 8, 8, 8, 8, 8, 8, 8, 8, 8, 8, 8, 8, 8, 8, 8, 8, 8, 8, 8, 8, 8, 8, 8, 8, 8, 8, 8, 8, 8, 8, 8, 8, 8, 8, 8, 8, 8, 8, 8, 8, 8, 8, 8, 8, 8, 8, 8, 8, 8, 8, 8, 8, 8, 8, 8, 8, 8, 8, 8, 8, 8, 8, 8, 8, 8, 8, 8, 8, 8, 8, 8, 8]⟩))) (.t 21)) none), (PO.mk (some 23) (.conv .i64 (.t 22)) none), (PO.mk (some 24) (.bin .add (.t 19) (.t 23)) none), (PO.mk (some 2) (.mv (.t 24)) none)]) .ret)))))
def k118 (F : Fn) : PF := PF.mk 51 2 [(.t 4), (.t 5)] (.seq (.ops [(PO.mk (some 4) (.mv (.k (w64 0))) none), (PO.mk (some 5) (.mv (.k (w64 0))) none)]) (.seq (.ops [(PO.mk (some 14) (.mv (.t 0)) none), (PO.mk (some 15) (.bin .and (.t 14) (.k (w64 4294967295))) none), (PO.mk (some 6) (.mv (.t 15)) none)]) (.seq (.ops [(PO.mk (some 16) (.mv (.t 0)) none), (PO.mk (some 17) (.bin .shr (.t 16) (.k (w64 32))) none), (PO.mk (some 7) (.mv (.t 17)) none)]) (.seq (.ops [(PO.mk (some 18) (.mv (.t 1)) none), (PO.mk (some 19) (.bin .and (.t 18) (.k (w64 4294967295))) none), (PO.mk (some 8) (.mv (.t 19)) none)]) (.seq (.ops [(PO.mk (some 20) (.mv (.t 1)) none), (PO.mk (some 21) (.bin .shr (.t 20) (.k (w64 32))) none), (PO.mk (some 9) (.mv (.t 21)) none)]) (.seq (.ops [(PO.mk (some 22) (.mv (.t 6)) none), (PO.mk (some 23) (.mv (.t 8)) none), (PO.mk (some 24) (.bin .mul (.t 22) (.t 23)) none), (PO.mk (some 10) (.mv (.t 24)) none)]) (.seq (.ops [(PO.mk (some 25) (.mv (.t 7)) none), (PO.mk (some 26) (.mv (.t 8)) none), (PO.mk (some 27) (.bin .mul (.t 25) (.t 26)) none), (PO.mk (some 28) (.mv (.t 10)) none), (PO.mk (some 29) (.bin .shr (.t 28) (.k (w64 32))) none), (PO.mk (some 30) (.bin .add (.t 27) (.t 29)) none), (PO.mk (some 11) (.mv (.t 30)) none)]) (.seq (.ops [(PO.mk (some 31) (.mv (.t 11)) none), (PO.mk (some 32) (.bin .and (.t 31) (.k (w64 4294967295))) none), (PO.mk (some 12) (.mv (.t 32)) none)]) (.seq (.ops [(PO.mk (some 33) (.mv (.t 11)) none), (PO.mk (some 34) (.bin .shr (.t 33) (.k (w64 32))) none), (PO.mk (some 13) (.mv (.t 34)) none)]) (.seq (.ops [(PO.mk (some 35) (.mv (.t 12)) none), (PO.mk (some 36) (.mv (.t 6)) none), (PO.mk (some 37) (.mv (.t 9)) none), (PO.mk (some 38) (.bin .mul (.t 36) (.t 37)) none), (PO.mk (some 39) (.bin .add (.t 35) (.t 38)) none), (PO.mk (some 12) (.mv (.t 39)) none)]) (.seq (.ops [(PO.mk (some 40) (.mv (.t 7)) none), (PO.mk (some 41) (.mv (.t 9)) none), (PO.mk (some 42) (.bin .mul (.t 40) (.t 41)) none), (PO.mk (some 43) (.mv (.t 13)) none), (PO.mk (some 44) (.bin .add (.t 42) (.t 43)) none), (PO.mk (some 45) (.mv (.t 12)) none), (PO.mk (some 46) (.bin .shr (.t 45) (.k (w64 32))) none), (PO.mk (some 47) (.bin .add (.t 44) (.t 46)) none), (PO.mk (some 4) (.mv (.t 47)) none)]) (.seq (.ops [(PO.mk (some 48) (.mv (.t 0)) none), (PO.mk (some 49) (.mv (.t 1)) none), (PO.mk (some 50) (.bin .mul (.t 48) (.t 49)) none), (PO.mk (some 5) (.mv (.t 50)) none)]) .ret))))))))))))
structure OkNum (P : Program) (F : Fn) : Prop where
  mixed : P.follows .mixedOrders = true
  h105 : compFn P ⟨[], [], [], [], []⟩ (F 105) = some (k105 F)
  h106 : compFn P ⟨[], [], [], [], []⟩ (F 106) = some (k106 F)
  h107 : compFn P ⟨[], [], [], [], []⟩ (F 107) = some (k107 F)
  h108 : compFn P ⟨[], [], [], [], []⟩ (F 108) = some (k108 F)
  h109 : compFn P ⟨[], [], [], [], []⟩ (F 109) = some (k109 F)
  h110 : compFn P ⟨[], [], [], [], []⟩ (F 110) = some (k110 F)
  h111 : compFn P ⟨[], [], [], [], []⟩ (F 111) = some (k111 F)
  h112 : compFn P ⟨[], [], [], [], []⟩ (F 112) = some (k112 F)
  h113 : compFn P ⟨[], [], [], [], []⟩ (F 113) = some (k113 F)
  h114 : compFn P ⟨[], [], [], [], []⟩ (F 114) = some (k114 F)
  h116 : compFn P ⟨[], [], [], [], []⟩ (F 116) = some (k116 F)
  h117 : compFn P ⟨[], [], [], [], []⟩ (F 117) = some (k117 F)
  h115 : compFn P ⟨[], [], [], [], []⟩ (F 115) = some (k115 F)
  h118 : compFn P ⟨[], [], [], [], []⟩ (F 118) = some (k118 F)
end Go.Ab
set_option linter.unusedSimpArgs false
set_option linter.unusedVariables false
set_option maxRecDepth 10000
namespace Go.Ab
open Go Go.RowKit
section
variable {P : Program} {F : Fn}
theorem spec105 (ok : OkNum P F) (st : St) (x : W) : ACalls P (F 105) [w64 x] st fun v st' => v = nU (x.setWidth 256) ∧ st' = st := by
  refine shows_call ok.mixed ok.h105 (by simp [k105]) ?_
  have e : eU (x.setWidth 256) = [w64 x, w64 0, w64 0, w64 0] := by
    have : x.setWidth 256 = u4 x 0 0 0 := by
      apply BitVec.eq_of_toNat_eq
      have := x.isLt
      rw [u4_nat, BitVec.toNat_setWidth, Nat.mod_eq_of_lt (by omega)]
      simp
    rw [this, eU_u4]
  simp [k105, fillV, spliceV, nU, e]
  intro id hid
  simp [fillV, storeS, spliceV, St.seg, segOf]
  exact sub_upd hid
def cmpU (a b : U) : Int := if a.toNat < b.toNat then -1 else if a = b then 0 else 1
theorem cmpU_d {a b c d a' b' c' d' : W} (h : d ≠ d') : cmpU (u4 a b c d) (u4 a' b' c' d') = if d < d' then -1 else 1 := by
  have := a.isLt; have := b.isLt; have := c.isLt; have := a'.isLt; have := b'.isLt; have := c'.isLt
  have hne : u4 a b c d ≠ u4 a' b' c' d' := fun e => h (u4_inj e).2.2.2
  have hn : d.toNat ≠ d'.toNat := fun e => h (BitVec.eq_of_toNat_eq e)
  simp only [cmpU, hne, if_false, u4_nat, BitVec.lt_def]
  split <;> split <;> first | rfl | omega
theorem cmpU_c {a b c d a' b' c' : W} (h : c ≠ c') : cmpU (u4 a b c d) (u4 a' b' c' d) = if c < c' then -1 else 1 := by
  have := a.isLt; have := b.isLt; have := a'.isLt; have := b'.isLt
  have hne : u4 a b c d ≠ u4 a' b' c' d := fun e => h (u4_inj e).2.2.1
  have hn : c.toNat ≠ c'.toNat := fun e => h (BitVec.eq_of_toNat_eq e)
  simp only [cmpU, hne, if_false, u4_nat, BitVec.lt_def]
  split <;> split <;> first | rfl | omega
theorem cmpU_b {a b c d a' b' : W} (h : b ≠ b') : cmpU (u4 a b c d) (u4 a' b' c d) = if b < b' then -1 else 1 := by
  have := a.isLt; have := a'.isLt
  have hne : u4 a b c d ≠ u4 a' b' c d := fun e => h (u4_inj e).2.1
  have hn : b.toNat ≠ b'.toNat := fun e => h (BitVec.eq_of_toNat_eq e)
  simp only [cmpU, hne, if_false, u4_nat, BitVec.lt_def]
  split <;> split <;> first | rfl | omega
theorem cmpU_a {a b c d a' : W} (h : a ≠ a') : cmpU (u4 a b c d) (u4 a' b c d) = if a < a' then -1 else 1 := by
  have hne : u4 a b c d ≠ u4 a' b c d := fun e => h (u4_inj e).1
  have hn : a.toNat ≠ a'.toNat := fun e => h (BitVec.eq_of_toNat_eq e)
  simp only [cmpU, hne, if_false, u4_nat, BitVec.lt_def]
  split <;> split <;> first | rfl | omega
theorem sub_upd2 {st : St} {i j : Nat} {o p : AObj} (hi : st i = none) (hj : (st.upd i o) j = none) : St.sub st ((st.upd i o).upd j p) := sub_trans (sub_upd hi) (sub_upd hj)
theorem ne_upd {st : St} {i j : Nat} {o : AObj} (hj : (st.upd i o) j = none) : i ≠ j := by
  rintro rfl
  simp at hj
theorem upd_none {st : St} {i k : Nat} {o : AObj} (h : (st.upd i o) k = none) : i ≠ k ∧ st k = none := by
  by_cases e : k = i
  · subst e; simp at h
  · exact ⟨fun h => e h.symm, by simpa [e] using h⟩
theorem spec106 (ok : OkNum P F) (st : St) (x y : U) : ACalls P (F 106) [nU x, nU y] st fun v st' => v = .int .i64 (cmpU x y) ∧ st' = st := by
  refine shows_call ok.mixed ok.h106 (by simp [k106]) ?_
  obtain ⟨a, b, c, d, rfl⟩ := exists_u4 x
  obtain ⟨a', b', c', d', rfl⟩ := exists_u4 y
  simp only [k106, nU, eU_u4]
  simp
  intro i hi j hj
  have hij := ne_upd hj
  have hsub := sub_upd2 (p := .cells [w64 a', w64 b', w64 c', w64 d']) hi hj
  refine vc_unroll 5 ?_
  simp [unr_succ, hij, idxArrV, St.seg, segOf]
  by_cases h : d = d'
  · subst h
    simp [unr_succ, hij, idxArrV, St.seg, segOf]
    by_cases h : c = c'
    · subst h
      simp [unr_succ, hij, idxArrV, St.seg, segOf]
      by_cases h : b = b'
      · subst h
        simp [unr_succ, hij, idxArrV, St.seg, segOf]
        by_cases h : a = a'
        · subst h
          simp [unr_succ, hij, idxArrV, St.seg, segOf, cmpU, hsub]
        · have hb : (a != a') = true := by simp [h]
          by_cases hlt : a < a' <;> simp [unr_succ, hij, idxArrV, St.seg, segOf, hb, cmpU_a h, hlt, hsub]
      · have hb : (b != b') = true := by simp [h]
        by_cases hlt : b < b' <;> simp [unr_succ, hij, idxArrV, St.seg, segOf, hb, cmpU_b h, hlt, hsub]
    · have hb : (c != c') = true := by simp [h]
      by_cases hlt : c < c' <;> simp [unr_succ, hij, idxArrV, St.seg, segOf, hb, cmpU_c h, hlt, hsub]
  · have hb : (d != d') = true := by simp [h]
    by_cases hlt : d < d' <;> simp [unr_succ, hij, idxArrV, St.seg, segOf, hb, cmpU_d h, hlt, hsub]
theorem eqL_u (x y : U) : eqL (eU x) (eU y) = some (decide (x = y)) := by
  obtain ⟨a, b, c, d, rfl⟩ := exists_u4 x
  obtain ⟨a', b', c', d', rfl⟩ := exists_u4 y
  have key : ∀ p q : W, ((p.toNat : Int) == (q.toNat : Int)) = decide (p = q) := fun p q => by
    rw [Bool.eq_iff_iff]
    simp only [beq_iff_eq, decide_eq_true_eq]
    exact ⟨fun h => BitVec.eq_of_toNat_eq (by omega), fun h => by rw [h]⟩
  simp only [eU_u4, w64, eqL, if_true, Option.map_some, key, Option.some.injEq]
  rw [Bool.eq_iff_iff]
  simp only [Bool.and_eq_true, decide_eq_true_eq]
  constructor
  · rintro ⟨h1, h2, h3, h4, _⟩
    rw [h1, h2, h3, h4]
  · intro h
    obtain ⟨h1, h2, h3, h4⟩ := u4_inj h
    exact ⟨h1, h2, h3, h4, trivial⟩
theorem eU_zero : [w64 0#64, w64 0#64, w64 0#64, w64 0#64] = eU 0#256 := by
  rw [show (0#256 : U) = u4 0#64 0#64 0#64 0#64 from rfl, eU_u4]
theorem segU (x : U) : segOf (eU x) 0 4 = some (eU x) := rfl
theorem spec107 (ok : OkNum P F) (st : St) (x : U) : ACalls P (F 107) [nU x] st fun v st' => v = .bool (decide (x = 0)) ∧ st' = st := by
  refine shows_call ok.mixed ok.h107 (by simp [k107]) ?_
  simp only [k107, nU, eU_zero]
  simp
  intro i hi
  have hl := eU_len x
  simp [St.seg, segU, fillV, eqK, hl, eU_zero, eqL_u]
  exact sub_upd hi
theorem not_u4 (a b c d : W) : ~~~(u4 a b c d) = u4 (~~~a) (~~~b) (~~~c) (~~~d) := by
  apply BitVec.eq_of_toNat_eq
  have := a.isLt; have := b.isLt; have := c.isLt; have := d.isLt
  rw [BitVec.toNat_not, u4_nat, u4_nat, BitVec.toNat_not, BitVec.toNat_not, BitVec.toNat_not, BitVec.toNat_not]
  omega
theorem spec111 (ok : OkNum P F) (st : St) (x : U) : ACalls P (F 111) [nU x] st fun v st' => v = nU (~~~x) ∧ st' = st := by
  refine shows_call ok.mixed ok.h111 (by simp [k111]) ?_
  obtain ⟨a, b, c, d, rfl⟩ := exists_u4 x
  simp only [k111, nU, not_u4, eU_u4]
  simp
  intro i hi
  simp
  intro j hj
  have hij := ne_upd hj
  have hsub := sub_upd2 (p := .cells [w64 0#64, w64 0#64, w64 0#64, w64 0#64]) hi hj
  simp [hij, idxArrV, St.seg, segOf, fillV, spliceV, storeS]
  exact sub_upd2 hi hj
theorem sub_u4 (a b c d a' b' c' d' : W) :
    u4 a b c d - u4 a' b' c' d' = u4 (dif64 a a' false) (dif64 b b' (bor64 a a' false)) (dif64 c c' (bor64 b b' (bor64 a a' false))) (dif64 d d' (bor64 c c' (bor64 b b' (bor64 a a' false)))) ∧
    bor64 d d' (bor64 c c' (bor64 b b' (bor64 a a' false))) = decide ((u4 a b c d).toNat < (u4 a' b' c' d').toNat) := by
  have := a.isLt; have := b.isLt; have := c.isLt; have := d.isLt
  have := a'.isLt; have := b'.isLt; have := c'.isLt; have := d'.isLt
  constructor
  · apply BitVec.eq_of_toNat_eq
    rw [BitVec.toNat_sub, u4_nat, u4_nat, u4_nat, dif64_nat, dif64_nat, dif64_nat, dif64_nat]
    simp only [bor64, decide_eq_true_eq, Bool.false_eq_true, if_false]
    show (115792089237316195423570985008687907853269984665640564039457584007913129639936 - _ + _) % 115792089237316195423570985008687907853269984665640564039457584007913129639936 = _
    split <;> split <;> split <;> omega
  · rw [u4_nat, u4_nat]
    simp only [bor64, decide_eq_true_eq, Bool.false_eq_true, if_false]
    congr 1
    rw [eq_iff_iff]
    split <;> split <;> split <;> omega
@[simp high] theorem carry_sub (x y : W) (c : Bool) : carryV true (w64 x) (w64 y) (w64 (b64 c)) = some (.tup [w64 (dif64 x y c), w64 (b64 (bor64 x y c))]) := by
  have h1 := x.isLt
  have h2 := y.isLt
  have e1 := dif64_nat x y c
  have e2 : (b64 (bor64 x y c)).toNat = if x.toNat < y.toNat + (if c then 1 else 0) then 1 else 0 := by
    rw [b64_nat]
    simp only [bor64, decide_eq_true_eq]
  have e3 := b64_nat c
  generalize dif64 x y c = d at *
  generalize b64 (bor64 x y c) = r at *
  generalize b64 c = q at *
  simp only [carryV, w64]
  rw [if_pos (by split at e3 <;> omega)]
  simp only [Option.some.injEq, V.tup.injEq, List.cons.injEq, V.int.injEq, true_and, and_true, if_true, Int.toNat_natCast]
  rw [e1, e2, e3]
  cases c <;> simp <;> constructor <;> first | omega | (split <;> split <;> omega) | (split <;> omega)
@[simp high] theorem carry_add (x y : W) (c : Bool) : carryV false (w64 x) (w64 y) (w64 (b64 c)) = some (.tup [w64 (sum64 x y c), w64 (b64 (car64 x y c))]) := by
  have h1 := x.isLt
  have h2 := y.isLt
  have e1 := sum64_nat x y c
  have e2 : (b64 (car64 x y c)).toNat = if 18446744073709551616 ≤ x.toNat + y.toNat + (if c then 1 else 0) then 1 else 0 := by
    rw [b64_nat]
    simp only [car64, decide_eq_true_eq]
  have e3 := b64_nat c
  generalize sum64 x y c = d at *
  generalize b64 (car64 x y c) = r at *
  generalize b64 c = q at *
  simp only [carryV, w64]
  rw [if_pos (by split at e3 <;> omega)]
  simp only [Option.some.injEq, V.tup.injEq, List.cons.injEq, V.int.injEq, true_and, and_true, Bool.false_eq_true, if_false]
  rw [e1, e2, e3]
  cases c <;> simp <;> first | omega | (split <;> omega)
theorem zero_b64 : (0#64 : W) = b64 false := rfl
theorem b64_ne (c : Bool) : (b64 c != b64 false) = c := by cases c <;> rfl
theorem sub_ups {st s : St} {i : Nat} {o : AObj} (h : St.sub st s) (hi : st i = none) : St.sub st (s.upd i o) := fun j x hj => by
  have : j ≠ i := fun e => by rw [e, hi] at hj; cases hj
  simp [this, h j x hj]
theorem spec109 (ok : OkNum P F) (st : St) (x y : U) : ACalls P (F 109) [nU x, nU y] st fun v st' => v = .tup [nU (x - y), .bool (decide (x.toNat < y.toNat))] ∧ st' = st := by
  refine shows_call ok.mixed ok.h109 (by simp [k109]) ?_
  obtain ⟨a, b, c, d, rfl⟩ := exists_u4 x
  obtain ⟨a', b', c', d', rfl⟩ := exists_u4 y
  obtain ⟨e1, e2⟩ := sub_u4 a b c d a' b' c' d'
  rw [← e2, e1]
  simp only [k109, nU, eU_u4]
  simp
  intro i hi j hj
  have hij := ne_upd hj
  have hji := hij.symm
  simp
  intro k hk
  have hjk := ne_upd hk
  have hik := (upd_none (upd_none hk).2).1
  have hki := hik.symm
  have hkj := hjk.symm
  refine vc_unroll 5 ?_
  rw [zero_b64]
  simp [unr_succ, hij, hji, hjk, hkj, hik, hki, idxArrV, St.seg, segOf, storeS, spliceV, b64_ne]
  exact sub_ups (sub_ups (sub_ups (sub_ups (sub_ups (sub_self _) hi) (upd_none hj).2) (upd_none (upd_none hk).2).2) hi) (upd_none (upd_none hk).2).2
end
end Go.Ab
set_option linter.unusedSimpArgs false
set_option linter.unusedVariables false
namespace Go.Ab
open Go Go.RowKit
def shaK : List (BitVec 32) := [0x428a2f98, 0x71374491, 0xb5c0fbcf, 0xe9b5dba5, 0x3956c25b, 0x59f111f1, 0x923f82a4, 0xab1c5ed5, 0xd807aa98, 0x12835b01, 0x243185be, 0x550c7dc3, 0x72be5d74, 0x80deb1fe, 0x9bdc06a7, 0xc19bf174, 0xe49b69c1, 0xefbe4786, 0x0fc19dc6, 0x240ca1cc, 0x2de92c6f, 0x4a7484aa, 0x5cb0a9dc, 0x76f988da, 0x983e5152, 0xa831c66d, 0xb00327c8, 0xbf597fc7, 0xc6e00bf3, 0xd5a79147, 0x06ca6351, 0x14292967, 0x27b70a85, 0x2e1b2138, 0x4d2c6dfc, 0x53380d13, 0x650a7354, 0x766a0abb, 0x81c2c92e, 0x92722c85, 0xa2bfe8a1, 0xa81a664b, 0xc24b8b70, 0xc76c51a3, 0xd192e819, 0xd6990624, 0xf40e3585, 0x106aa070, 0x19a4c116, 0x1e376c08, 0x2748774c, 0x34b0bcb5, 0x391c0cb3, 0x4ed8aa4a, 0x5b9cca4f, 0x682e6ff3, 0x748f82ee, 0x78a5636f, 0x84c87814, 0x8cc70208, 0x90befffa, 0xa4506ceb, 0xbef9a3f7, 0xc67178f2]
def be4 (a b c d : UInt8) : BitVec 32 := a.toBitVec.setWidth 32 <<< 24 ||| b.toBitVec.setWidth 32 <<< 16 ||| c.toBitVec.setWidth 32 <<< 8 ||| d.toBitVec.setWidth 32
def words : List UInt8 → List (BitVec 32)
  | a :: b :: c :: d :: l => be4 a b c d :: words l
  | _ => []
def ror (x : BitVec 32) (n : Nat) : BitVec 32 := x >>> n ||| x <<< (32 - n)
def sg0 (x : BitVec 32) : BitVec 32 := ror x 7 ^^^ ror x 18 ^^^ x >>> 3
def sg1 (x : BitVec 32) : BitVec 32 := ror x 17 ^^^ ror x 19 ^^^ x >>> 10
def bg0 (x : BitVec 32) : BitVec 32 := ror x 2 ^^^ ror x 13 ^^^ ror x 22
def bg1 (x : BitVec 32) : BitVec 32 := ror x 6 ^^^ ror x 11 ^^^ ror x 25
def nextW (l : List (BitVec 32)) : BitVec 32 := l.getD (l.length - 16) 0 + sg0 (l.getD (l.length - 15) 0) + l.getD (l.length - 7) 0 + sg1 (l.getD (l.length - 2) 0)
def sched (m : List (BitVec 32)) : Nat → List (BitVec 32)
  | 0 => m
  | k + 1 => sched m k ++ [nextW (sched m k)]
structure V8 where
  a : BitVec 32
  b : BitVec 32
  c : BitVec 32
  d : BitVec 32
  e : BitVec 32
  f : BitVec 32
  g : BitVec 32
  h : BitVec 32
  deriving DecidableEq
def V8.list (v : V8) : List (BitVec 32) := [v.a, v.b, v.c, v.d, v.e, v.f, v.g, v.h]
def rnd (v : V8) (k w : BitVec 32) : V8 :=
  let t := v.h + bg1 v.e + (v.e &&& v.f ^^^ ~~~v.e &&& v.g) + k + w
  ⟨t + bg0 v.a + (v.a &&& v.b ^^^ v.a &&& v.c ^^^ v.b &&& v.c), v.a, v.b, v.c, v.d + t, v.e, v.f, v.g⟩
def rnds : List (BitVec 32) → List (BitVec 32) → V8 → V8
  | k :: ks, w :: ws, v => rnds ks ws (rnd v k w)
  | _, _, v => v
def addV (h v : V8) : V8 := ⟨h.a + v.a, h.b + v.b, h.c + v.c, h.d + v.d, h.e + v.e, h.f + v.f, h.g + v.g, h.h + v.h⟩
def blockM (h : V8) (b : List UInt8) : V8 := addV h (rnds shaK (sched (words b) 48) h)
def blocksM : Nat → V8 → List UInt8 → V8
  | 0, h, _ => h
  | n + 1, h, l => blocksM n (blockM h (l.take 64)) (l.drop 64)
def padM (l : List UInt8) : List UInt8 :=
  l ++ 0x80 :: (List.replicate ((119 - l.length % 64) % 64) 0 ++ [56, 48, 40, 32, 24, 16, 8, 0].map fun i => UInt8.ofBitVec (((BitVec.ofNat 64 l.length * 8) >>> i).setWidth 8))
def iv : V8 := ⟨0x6a09e667, 0xbb67ae85, 0x3c6ef372, 0xa54ff53a, 0x510e527f, 0x9b05688c, 0x1f83d9ab, 0x5be0cd19⟩
def out4 (x : BitVec 32) : List UInt8 := [UInt8.ofBitVec ((x >>> 24).setWidth 8), UInt8.ofBitVec ((x >>> 16).setWidth 8), UInt8.ofBitVec ((x >>> 8).setWidth 8), UInt8.ofBitVec (x.setWidth 8)]
def outV (v : V8) : List UInt8 := v.list.flatMap out4
def shaL (l : List UInt8) : List UInt8 := outV (blocksM ((padM l).length / 64) iv (padM l))
def sha (l : List UInt8) : Id := ⟨⟨shaL l⟩, rfl⟩
def sha2 (l : List UInt8) : Id := sha (shaL l)
end Go.Ab
set_option linter.unusedSimpArgs false
set_option linter.unusedVariables false
namespace Go.Ab
open Go Go.RowKit
abbrev W32 := BitVec 32
def tgtV (size word : Nat) : Nat := if size ≤ 3 then word / 2 ^ (8 * (3 - size)) else word * 2 ^ (8 * (size - 3))
def tgt (b : W32) : Option Nat :=
  if b.toNat % 16777216 = 0 ∨ 8388608 ≤ b.toNat % 16777216 then none
  else if tgtV (b.toNat / 16777216) (b.toNat % 16777216) = 0 ∨ 2 ^ 256 ≤ tgtV (b.toNat / 16777216) (b.toNat % 16777216) then none
  else some (tgtV (b.toNat / 16777216) (b.toNat % 16777216))
theorem tgt_lt {b : W32} {t : Nat} (h : tgt b = some t) : 0 < t ∧ t < 2 ^ 256 := by
  unfold tgt at h
  split at h
  · cases h
  · split at h
    · cases h
    · rename_i h1
      cases h
      omega
def workN (t : Nat) : Nat := 2 ^ 256 / (t + 1)
def sizeN (t : Nat) : Nat := (bitlen t + 7) / 8 + (if 0 < bitlen t ∧ bitlen t % 8 = 0 then 1 else 0)
def wordN (t : Nat) : Nat := if sizeN t ≤ 3 then t * 2 ^ (8 * (3 - sizeN t)) else t / 2 ^ (8 * (sizeN t - 3))
def shortN (t : Nat) : W32 := BitVec.ofNat 32 (sizeN t * 16777216 + wordN t)
theorem lt_bitlen (t : Nat) : t < 2 ^ bitlen t := bitlen_le.1 (Nat.le_refl _)
theorem wordN_lt (t : Nat) : wordN t < 8388608 := by
  have h := lt_bitlen t
  obtain ⟨L, hL⟩ : ∃ L, L = bitlen t := ⟨_, rfl⟩
  rw [← hL] at h
  have hs : L < 8 * sizeN t ∨ L = 0 := by
    unfold sizeN
    rw [← hL]
    split <;> omega
  have e23 : (8388608 : Nat) = 2 ^ 23 := rfl
  unfold wordN
  split
  · rename_i h3
    rcases hs with hs | hs
    · calc t * 2 ^ (8 * (3 - sizeN t)) < 2 ^ L * 2 ^ (8 * (3 - sizeN t)) := Nat.mul_lt_mul_of_pos_right h (Nat.two_pow_pos _)
        _ = 2 ^ (L + 8 * (3 - sizeN t)) := (Nat.pow_add _ _ _).symm
        _ ≤ 2 ^ 23 := Nat.pow_le_pow_right (by omega) (by omega)
    · rw [hs] at h
      have : t = 0 := by omega
      rw [this]; simp
  · rename_i h3
    rw [Nat.div_lt_iff_lt_mul (Nat.two_pow_pos _), e23, ← Nat.pow_add]
    refine Nat.lt_of_lt_of_le h (Nat.pow_le_pow_right (by omega) ?_)
    omega
def clampT (took should : Int) : Nat := (max (should.tdiv 4) (min took (4 * should))).toNat
def nextT (t tk sh limit : Nat) : Nat :=
  let q := if t * tk < 2 ^ 256 then t * tk / sh else t / sh * tk
  if 2 ^ 256 ≤ q ∨ limit < q then limit else q
def nextN (b : W32) (took should : Int) (limit : Nat) : Option W32 :=
  match tgt b with
  | none => none
  | some t => if should < 1 ∨ 1099511627776 < should then none else some (shortN (nextT t (clampT took should) should.toNat limit))
theorem clampT_le {took should : Int} (h1 : 1 ≤ should) (h2 : should ≤ 1099511627776) : clampT took should ≤ 4398046511104 := by
  unfold clampT
  have : should.tdiv 4 ≤ should := by
    rw [Int.tdiv_eq_ediv_of_nonneg (by omega)]
    omega
  omega
structure Hdr where
  ver : W32
  prev : Id
  root : Id
  time : W32
  bits : W32
  nonce : W32
  deriving DecidableEq
def eHdr (h : Hdr) : List V := w32 h.ver :: (eId h.prev ++ (eId h.root ++ [w32 h.time, w32 h.bits, w32 h.nonce]))
theorem eHdr_len (h : Hdr) : (eHdr h).length = 68 := by simp [eHdr, eId_len]
def le4 (x : W32) : List UInt8 := [UInt8.ofBitVec (x.setWidth 8), UInt8.ofBitVec ((x >>> 8).setWidth 8), UInt8.ofBitVec ((x >>> 16).setWidth 8), UInt8.ofBitVec ((x >>> 24).setWidth 8)]
def hBytes (h : Hdr) : List UInt8 := le4 h.ver ++ (h.prev.toList ++ (h.root.toList ++ (le4 h.time ++ (le4 h.bits ++ le4 h.nonce))))
theorem hBytes_len (h : Hdr) : (hBytes h).length = 80 := by simp [hBytes, le4]
def hId (h : Hdr) : Id := sha2 (hBytes h)
def leN : List UInt8 → Nat
  | [] => 0
  | b :: l => b.toNat + 256 * leN l
def idN (x : Id) : Nat := leN x.toList
theorem leN_lt : ∀ l : List UInt8, leN l < 256 ^ l.length
  | [] => by simp [leN]
  | b :: l => by
    have := leN_lt l
    have := b.toNat_lt
    simp only [leN, List.length_cons, Nat.pow_succ]
    omega
theorem idN_lt (x : Id) : idN x < 2 ^ 256 := by
  have := leN_lt x.toList
  rw [Vector.length_toList] at this
  exact this
def provedN (h : Hdr) (limit : W32) : Int :=
  match tgt h.bits, tgt limit with
  | some a, some b => if b < a then 30 else if a < idN (hId h) then 50 else 0
  | _, _ => 30
def mineN (h : Hdr) (limit : W32) : Nat → Option Hdr
  | 0 => none
  | n + 1 => if provedN h limit = 0 then some h else mineN { h with nonce := h.nonce + 1 } limit n
end Go.Ab
set_option linter.unusedSimpArgs false
set_option linter.unusedVariables false
namespace Go.Ab
open Go Go.RowKit
def turn1 (x : BitVec 32) : BitVec 32 := x / 2#32 + (x % 2#32) * 2147483648#32
def turnM : Nat → BitVec 32 → BitVec 32
  | 0, x => x
  | n + 1, x => turn1 (turnM n x)
theorem half32 (x : BitVec 32) : x / 2#32 = x >>> 1 := by
  apply BitVec.eq_of_toNat_eq
  simp [Nat.shiftRight_eq_div_pow]
theorem high32 (x : BitVec 32) : (x % 2#32) * 2147483648#32 = x <<< 31 := by
  apply BitVec.eq_of_toNat_eq
  rw [BitVec.toNat_mul, BitVec.toNat_umod, BitVec.toNat_shiftLeft, Nat.shiftLeft_eq]
  show x.toNat % 2 * 2147483648 % 4294967296 = x.toNat * 2147483648 % 4294967296
  omega
theorem turn1_ror (x : BitVec 32) : turn1 x = ror x 1 := by
  unfold turn1 ror
  rw [half32, high32]
  apply BitVec.add_eq_or_of_and_eq_zero
  apply BitVec.eq_of_getLsbD_eq
  intro i hi
  rw [BitVec.getLsbD_and, BitVec.getLsbD_ushiftRight, BitVec.getLsbD_shiftLeft]
  by_cases h : i < 31
  · simp [h]
  · have : x.getLsbD (1 + i) = false := BitVec.getLsbD_of_ge _ _ (by omega)
    simp [this]
theorem ror_bit (x : BitVec 32) (n i : Nat) (hn : n < 32) (hi : i < 32) : (ror x n).getLsbD i = if i < 32 - n then x.getLsbD (n + i) else x.getLsbD (i - (32 - n)) := by
  simp only [ror, BitVec.getLsbD_or, BitVec.getLsbD_ushiftRight, BitVec.getLsbD_shiftLeft]
  split
  · rename_i h
    simp [h]
  · rename_i h
    have e1 : x.getLsbD (n + i) = false := BitVec.getLsbD_of_ge _ _ (by omega)
    simp [e1, h, hi]
theorem ror_succ (x : BitVec 32) (n : Nat) (hn : n + 1 < 32) : ror (ror x n) 1 = ror x (n + 1) := by
  apply BitVec.eq_of_getLsbD_eq
  intro i hi
  rw [ror_bit _ _ _ (by omega) hi, ror_bit x _ _ hn hi]
  split
  · rw [ror_bit _ _ _ (by omega) (by omega)]
    split <;> split
    · congr 1; omega
    · omega
    · congr 1; omega
    · congr 1; omega
  · rw [ror_bit _ _ _ (by omega) (by omega)]
    split <;> split
    · omega
    · congr 1; omega
    · omega
    · congr 1; omega
theorem turnM_ror (x : BitVec 32) : ∀ n, n < 32 → turnM n x = ror x n
  | 0, _ => by
    apply BitVec.eq_of_toNat_eq
    simp [turnM, ror]
  | n + 1, h => by
    rw [turnM, turn1_ror, turnM_ror x n (by omega), ror_succ x n h]
def lowM : Nat → BitVec 32 → BitVec 32
  | 0, x => x
  | n + 1, x => lowM n x / 2#32
theorem lowM_shr (x : BitVec 32) : ∀ n, lowM n x = x >>> n
  | 0 => by simp [lowM]
  | n + 1 => by
    rw [lowM, lowM_shr x n]
    apply BitVec.eq_of_toNat_eq
    simp [Nat.shiftRight_eq_div_pow, Nat.pow_succ, Nat.div_div_eq_div_mul]
theorem be4_nat (a b c d : UInt8) : (be4 a b c d).toNat = ((a.toNat * 256 + b.toNat) * 256 + c.toNat) * 256 + d.toNat := by
  have ha := a.toNat_lt
  have hb := b.toNat_lt
  have hc := c.toNat_lt
  have hd := d.toNat_lt
  have e : ∀ (x : UInt8) (k : Nat), k ≤ 24 → (x.toBitVec.setWidth 32 <<< k).toNat = x.toNat <<< k := by
    intro x k hk
    have hx := x.toNat_lt
    rw [BitVec.toNat_shiftLeft]
    simp only [BitVec.toNat_setWidth, UInt8.toNat_toBitVec, Nat.shiftLeft_eq]
    rw [Nat.mod_eq_of_lt (show x.toNat < 2 ^ 32 by omega), Nat.mod_eq_of_lt]
    calc x.toNat * 2 ^ k < 2 ^ 8 * 2 ^ k := Nat.mul_lt_mul_of_pos_right hx (Nat.two_pow_pos k)
      _ ≤ 2 ^ 8 * 2 ^ 24 := Nat.mul_le_mul_left _ (Nat.pow_le_pow_right (by omega) hk)
      _ = 2 ^ 32 := rfl
  have e0 : (d.toBitVec.setWidth 32).toNat = d.toNat := by
    simp only [BitVec.toNat_setWidth, UInt8.toNat_toBitVec]
    exact Nat.mod_eq_of_lt (by omega)
  unfold be4
  rw [BitVec.toNat_or, BitVec.toNat_or, BitVec.toNat_or, e a 24 (by omega), e b 16 (by omega), e c 8 (by omega), e0]
  rw [← Nat.shiftLeft_add_eq_or_of_lt (i := 24) (by rw [Nat.shiftLeft_eq]; omega)]
  have h2 : a.toNat <<< 24 + b.toNat <<< 16 = (a.toNat * 256 + b.toNat) <<< 16 := by simp only [Nat.shiftLeft_eq]; omega
  rw [h2, ← Nat.shiftLeft_add_eq_or_of_lt (i := 16) (by rw [Nat.shiftLeft_eq]; omega)]
  have h3 : (a.toNat * 256 + b.toNat) <<< 16 + c.toNat <<< 8 = ((a.toNat * 256 + b.toNat) * 256 + c.toNat) <<< 8 := by simp only [Nat.shiftLeft_eq]; omega
  rw [h3, ← Nat.shiftLeft_add_eq_or_of_lt (i := 8) (by omega)]
  simp only [Nat.shiftLeft_eq]
def be4R (l : List UInt8) : BitVec 32 := l.foldl (fun x b => x * 256#32 + b.toBitVec.setWidth 32) 0#32
theorem be4R_eq (a b c d : UInt8) : be4R [a, b, c, d] = be4 a b c d := by
  have ha := a.toNat_lt
  have hb := b.toNat_lt
  have hc := c.toNat_lt
  have hd := d.toNat_lt
  apply BitVec.eq_of_toNat_eq
  rw [be4_nat]
  simp only [be4R, List.foldl_cons, List.foldl_nil, BitVec.toNat_add, BitVec.toNat_mul, BitVec.toNat_setWidth, UInt8.toNat_toBitVec]
  show ((((0 * 256 % 4294967296 + a.toNat % 4294967296) % 4294967296 * 256 % 4294967296 + b.toNat % 4294967296) % 4294967296 * 256 % 4294967296 + c.toNat % 4294967296) % 4294967296 * 256 % 4294967296 + d.toNat % 4294967296) % 4294967296 = _
  omega
theorem not_sub (x : BitVec 32) : 4294967295#32 - x = ~~~x := by
  apply BitVec.eq_of_toNat_eq
  have := x.isLt
  rw [BitVec.toNat_sub, BitVec.toNat_not]
  show (4294967296 - x.toNat + 4294967295) % 4294967296 = 4294967296 - 1 - x.toNat
  omega
theorem div256 (x : BitVec 32) (n : Nat) : (x >>> n) / 256#32 = x >>> (n + 8) := by
  apply BitVec.eq_of_toNat_eq
  rw [BitVec.toNat_udiv, BitVec.toNat_ushiftRight, BitVec.toNat_ushiftRight, Nat.shiftRight_eq_div_pow, Nat.shiftRight_eq_div_pow, Nat.pow_add, ← Nat.div_div_eq_div_mul]
  rfl
end Go.Ab
