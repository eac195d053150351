/-
  What trace's functions do to a book.
-/
import Derived.Test.YtpmfkckookkgmaaAbTraceB
set_option linter.unusedVariables false
set_option linter.unusedSimpArgs false
set_option maxRecDepth 10000
namespace Go.Ab
open Go
section
variable {P : Program} {F : Fn}

theorem book_cases {bid : Nat} {ps : List Peer} {L : List Asn} {st : St} (h : Sep (BookA bid ps :: L) st) :
    (ps = [] ∧ Sep (pt bid (.cells [.map none]) :: L) st) ∨ ∃ mid qs, ps = qs.map (·.1) ∧ Sep (BookL bid mid qs ++ L) st := by
  obtain ⟨a, r, h1, h2, h3, h4⟩ := h
  rcases h3 with ⟨rfl, h3⟩ | ⟨mid, qs, rfl, h3⟩
  · exact .inl ⟨rfl, a, r, h1, h2, h3, h4⟩
  · exact .inr ⟨mid, qs, rfl, Sep.app ⟨a, r, h1, h2, h3, h4⟩⟩
theorem book_fold {bid mid : Nat} {qs : List PR3} {L : List Asn} {st : St} (h : Sep (BookL bid mid qs ++ L) st) : Sep (BookA bid (qs.map (·.1)) :: L) st :=
  Sep.head (fun h hh => .inr ⟨mid, qs, rfl, hh⟩) (Sep.all h)
theorem book_none {bid : Nat} {L : List Asn} {st : St} (h : Sep (pt bid (.cells [.map none]) :: L) st) : Sep (BookA bid [] :: L) st :=
  Sep.head (fun h hh => .inl ⟨rfl, hh⟩) h
theorem book_new {bid : Nat} {L : List Asn} {st : St} (h : Sep L st) (hid : st bid = none) : Sep (BookA bid [] :: L) (st.upd bid (.cells [.map none])) := book_none (h.new hid _)

/-- The first peer of a number, changed. -/
def updP (id : Int) (f : Peer → Peer) : List Peer → List Peer
  | [] => []
  | p :: l => if p.id = id then f p :: l else p :: updP id f l

theorem updP_at {id : Int} {f : Peer → Peer} {as bs : List PR3} {q : PR3} (ha : ∀ a ∈ as, a.1.id ≠ id) (hq : q.1.id = id) : updP id f ((as ++ q :: bs).map (·.1)) = (as ++ (f q.1, q.2) :: bs).map (·.1) := by
  induction as with
  | nil => simp [updP, hq]
  | cons a as ih =>
    have h1 := ha a (by simp)
    have ih := ih fun x hx => ha x (by simp [hx])
    simp only [List.cons_append, List.map_cons, updP, if_neg h1, ih]

theorem find_cases (qs : List PR3) (id : Int) : ((qs.find? fun q => q.1.id == id) = none ∧ ∀ q ∈ qs, q.1.id ≠ id) ∨ ∃ as q bs, qs = as ++ q :: bs ∧ (∀ a ∈ as, a.1.id ≠ id) ∧ q.1.id = id ∧ (qs.find? fun q => q.1.id == id) = some q := by
  cases hf : qs.find? fun q => q.1.id == id with
  | none =>
    rw [List.find?_eq_none] at hf
    exact .inl ⟨rfl, fun q hq => by simpa using hf q hq⟩
  | some q =>
    right
    obtain ⟨h1, as, bs, h2, h3⟩ := List.find?_eq_some_iff_append.1 hf
    exact ⟨as, q, bs, h2, fun a ha => by simpa using h3 a ha, by simpa using h1, rfl⟩

/-- Book.Len -/
theorem spec24 (ok : OkTrace P F) {st : St} {bid : Nat} {ps : List Peer} {L : List Asn} (h : Sep (BookA bid ps :: L) st) : ACalls P (F 24) [.ptr (some (bid, 0))] st fun v st' => v = .int .i64 ps.length ∧ st' = st := by
  refine shows_call ok.mixed ok.h24 (by simp [k24]) ?_
  rcases book_cases h with ⟨rfl, h1⟩ | ⟨mid, qs, rfl, h1⟩
  · simp [k24, St.seg, segOf, h1.get, sub_self]
  · have o1 := (Sep.get h1)
    have o2 := lenMap_mp (Sep.get (Sep.swap h1))
    simp [k24, St.seg, segOf, o1, o2, peerM, sub_self]

theorem look_peer {st : St} {mid : Nat} {qs : List PR3} (h : st mid = some (.mp (peerM qs))) (id : Int) : lookupV st .int (.ptr none) true (.map (some mid)) (.int .i64 id) = some (.tup [((qs.find? fun q => q.1.id == id).map fun q => pptr q.2.1).getD (.ptr none), .bool (qs.find? fun q => q.1.id == id).isSome]) := by
  have := lookup_enc keyed_int h (.ptr none) true id
  rw [peer_lookup] at this
  rw [show V.int .i64 id = kInt id from rfl, this]
  cases qs.find? (fun q => q.1.id == id) <;> simp
theorem look_none {st : St} (id : Int) : lookupV st .int (.ptr none) true (.map none) (.int .i64 id) = some (.tup [.ptr none, .bool false]) := by
  have := lookup_none (st := st) keyed_int (.ptr none) true id
  rw [show V.int .i64 id = kInt id from rfl, this]
  rfl

def askedM (ps : List Peer) (id : Int) : Nat := match ps.find? (fun p => p.id == id) with | some p => p.asked.length | none => 0

/-- Book.Asked -/
theorem spec23 (ok : OkTrace P F) {st : St} {bid : Nat} {ps : List Peer} {L : List Asn} (h : Sep (BookA bid ps :: L) st) (id : Int) : ACalls P (F 23) [.ptr (some (bid, 0)), .int .i64 id] st fun v st' => v = .int .i64 (askedM ps id) ∧ st' = st := by
  refine shows_call ok.mixed ok.h23 (by simp [k23]) ?_
  rcases book_cases h with ⟨rfl, h1⟩ | ⟨mid, qs, rfl, h1⟩
  · simp [k23, St.seg, segOf, h1.get, look_none, askedM, sub_self]
  · have o1 := (Sep.get h1)
    have o2 := look_peer (Sep.get (Sep.swap h1)) id
    simp [k23, St.seg, segOf, o1, o2]
    unfold askedM
    rw [find_map]
    rcases find_cases qs id with ⟨h2, _⟩ | ⟨as, q, bs, rfl, h3, h4, h5⟩
    · simp [h2, sub_self]
    · have S := Sep.perm (book_at bid mid as bs q L) h1
      have oq := S.get
      simp only [pcells] at oq
      have ol := (S.setOf (aid := q.2.2) (keys := q.1.asked) (by simp)).len
      simp [h5, pptr, St.seg, segOf, oq, ol, sub_self]

theorem aSet_new {K A : Type} [DecidableEq K] {k : K} {v : A} : ∀ {l : List (K × A)}, (∀ p ∈ l, p.1 ≠ k) → aSet k v l = l ++ [(k, v)]
  | [], _ => rfl
  | p :: l, h => by
    have h1 : k ≠ p.1 := fun e => h p (by simp) e.symm
    simp only [aSet, if_neg h1, List.cons_append]
    rw [aSet_new fun q hq => h q (by simp [hq])]
theorem aDel_at {K A : Type} [DecidableEq K] {k : K} : ∀ {as bs : List (K × A)} {v : A}, (∀ p ∈ as, p.1 ≠ k) → aDel k (as ++ (k, v) :: bs) = as ++ bs
  | [], bs, v, _ => by simp [aDel]
  | p :: as, bs, v, h => by
    have h1 : k ≠ p.1 := fun e => h p (by simp) e.symm
    simp only [List.cons_append, aDel, if_neg h1]
    rw [aDel_at fun q hq => h q (by simp [hq])]
theorem aDel_none {K A : Type} [DecidableEq K] {k : K} : ∀ {l : List (K × A)}, (∀ p ∈ l, p.1 ≠ k) → aDel k l = l
  | [], _ => rfl
  | p :: l, h => by
    have h1 : k ≠ p.1 := fun e => h p (by simp) e.symm
    simp only [aDel, if_neg h1]
    rw [aDel_none fun q hq => h q (by simp [hq])]

def newP (id : Int) : Peer := ⟨id, false, false, false, false, []⟩
def cameM (ps : List Peer) (id : Int) : Int × List Peer := if ps.any (fun p => p.id == id) then (5, ps) else (0, ps ++ [newP id])

theorem any_find (qs : List PR3) (id : Int) : (qs.map (·.1)).any (fun p => p.id == id) = (qs.find? fun q => q.1.id == id).isSome := by
  rw [List.any_map, Bool.eq_iff_iff, List.find?_isSome, List.any_eq_true]
  rfl

/-- Book.Came -/
theorem spec19 (ok : OkTrace P F) {st : St} {bid : Nat} {ps : List Peer} {L : List Asn} (h : Sep (BookA bid ps :: L) st) (id : Int) : ACalls P (F 19) [.ptr (some (bid, 0)), .int .i64 id] st fun v st' => v = .int .i64 (cameM ps id).1 ∧ Sep (BookA bid (cameM ps id).2 :: L) st' := by
  refine shows_call ok.mixed ok.h19 (by simp [k19]) ?_
  have fin : ∀ {st3 : St} {mid aid oid : Nat} {qs : List PR3}, Sep (pt oid (.cells (pcells (newP id) aid)) :: MapSet aid [] :: (BookL bid mid qs ++ L)) st3 → (∀ q ∈ qs, q.1.id ≠ id) →
      msetS st3 .int (.map (some mid)) (.int .i64 id) (.ptr (some (oid, 0))) = some (st3.upd mid (.mp (peerM (qs ++ [(newP id, oid, aid)])))) ∧
      Sep (BookA bid (qs.map (·.1) ++ [newP id]) :: L) (st3.upd mid (.mp (peerM (qs ++ [(newP id, oid, aid)])))) := by
    intro st3 mid aid oid qs S hq
    have hnew : aSet id oid (qs.map fun q => (q.1.id, q.2.1)) = (qs ++ [(newP id, oid, aid)]).map fun q => (q.1.id, q.2.1) := by
      rw [aSet_new]
      · simp [newP]
      · intro p hp
        obtain ⟨q, hq', rfl⟩ := List.mem_map.1 hp
        exact hq q hq'
    have S1 : Sep (pt mid (.mp (peerM qs)) :: pt oid (.cells (pcells (newP id) aid)) :: MapSet aid [] :: pt bid (.cells [.map (some mid)]) :: (qs.flatMap peerL ++ L)) st3 := Sep.pull 3 _ S
    have hm := mset_enc keyed_int (ev := pptr) S1.get id oid
    rw [hnew] at hm
    refine ⟨hm, ?_⟩
    have S2 := S1.set (.mp (peerM (qs ++ [(newP id, oid, aid)])))
    have S3 := Sep.pull 3 _ S2
    have e : qs.map (·.1) ++ [newP id] = (qs ++ [(newP id, oid, aid)]).map (·.1) := by simp
    rw [e]
    refine book_fold (mid := mid) (Sep.perm ?_ S3)
    have e2 : BookL bid mid (qs ++ [(newP id, oid, aid)]) ++ L = pt bid (.cells [.map (some mid)]) :: pt mid (.mp (peerM (qs ++ [(newP id, oid, aid)]))) :: (qs.flatMap peerL ++ ([pt oid (.cells (pcells (newP id) aid)), MapSet aid []] ++ L)) := by
      simp [BookL, peerL, newP]
    rw [e2]
    refine List.Perm.cons _ (List.Perm.cons _ ?_)
    exact List.perm_append_comm_assoc [pt oid (.cells (pcells (newP id) aid)), MapSet aid []] (qs.flatMap peerL) L
  rcases book_cases h with ⟨rfl, h1⟩ | ⟨mid, qs, rfl, h1⟩
  · simp [k19, St.seg, segOf, h1.get, look_none, eqK]
    intro mid hmid
    have n1 := ne_id h1.get hmid
    have S2 := (h1.new hmid (.mp [])).swap.set (.cells [.map (some mid)])
    simp [storeS, spliceV, St.seg, segOf, h1.get, n1]
    generalize (st.upd mid (.mp [])).upd bid (.cells [.map (some mid)]) = st2 at S2 ⊢
    intro aid haid
    have S3 := (S2.new haid (.mp [])).head (A' := MapSet aid []) fun h hh => ⟨[], List.Perm.refl _, hh⟩
    simp [fillV, spliceV]
    generalize st2.upd aid (.mp []) = st3 at S3 ⊢
    intro oid hoid
    obtain ⟨f1, f2⟩ := fin (qs := []) (S3.new hoid (.cells (pcells (newP id) aid))) (by simp)
    simp only [pcells, newP] at f1 f2
    simp [f1]
    exact ⟨_, sub_self _, by simp [cameM], f2⟩
  · have o1 := (Sep.get h1)
    have o2 := look_peer (Sep.get (Sep.swap h1)) id
    simp [k19, St.seg, segOf, o1, o2]
    have hany := any_find qs id
    rcases find_cases qs id with ⟨h2, h3⟩ | ⟨as, q, bs, rfl, h3, h4, h5⟩
    · rw [h2] at hany
      simp only [Option.isSome_none] at hany
      simp [h2, St.seg, segOf, o1, eqK]
      intro aid haid
      have S3 := (h1.new haid (.mp [])).head (A' := MapSet aid []) fun h hh => ⟨[], List.Perm.refl _, hh⟩
      simp [fillV, spliceV]
      generalize st.upd aid (.mp []) = st3 at S3 ⊢
      intro oid hoid
      obtain ⟨f1, f2⟩ := fin (qs := qs) (S3.new hoid (.cells (pcells (newP id) aid))) h3
      simp only [pcells, newP] at f1 f2
      simp [f1]
      have e : cameM (qs.map (·.1)) id = (0, qs.map (·.1) ++ [newP id]) := by rw [cameM, hany]; rfl
      exact ⟨_, sub_self _, by rw [e], by rw [e]; exact f2⟩
    · rw [h5] at hany
      simp only [Option.isSome_some] at hany
      simp [h5]
      have e : cameM ((as ++ q :: bs).map (·.1)) id = (5, (as ++ q :: bs).map (·.1)) := by rw [cameM, hany]; rfl
      simp only [List.map_append, List.map_cons] at e h
      exact ⟨_, sub_self _, by rw [e], by rw [e]; exact h⟩

/-- Book.Gone -/
def goneM (ps : List Peer) (id : Int) : List Peer := ps.eraseP fun p => p.id == id

theorem spec25 (ok : OkTrace P F) {st : St} {bid : Nat} {ps : List Peer} {L : List Asn} (h : Sep (BookA bid ps :: L) st) (id : Int) : ACalls P (F 25) [.ptr (some (bid, 0)), .int .i64 id] st fun v st' => v = .tup [] ∧ Sep (BookA bid (goneM ps id) :: L) st' := by
  refine shows_call ok.mixed ok.h25 (by simp [k25]) ?_
  rcases book_cases h with ⟨rfl, h1⟩ | ⟨mid, qs, rfl, h1⟩
  · simp [k25, St.seg, segOf, h1.get, mdelS, isKey]
    exact ⟨_, sub_self _, h⟩
  · have o1 := (Sep.get h1)
    have hm := mdel_enc keyed_int (ev := pptr) (Sep.get (Sep.swap h1)) id
    have S2 : Sep (pt mid (.mp (peerM qs)) :: pt bid (.cells [.map (some mid)]) :: (qs.flatMap peerL ++ L)) st := Sep.swap h1
    rcases find_cases qs id with ⟨h2, h3⟩ | ⟨as, q, bs, rfl, h3, h4, h5⟩
    · have e1 : aDel id (qs.map fun q => (q.1.id, q.2.1)) = qs.map fun q => (q.1.id, q.2.1) := aDel_none fun p hp => by
        obtain ⟨q, hq, rfl⟩ := List.mem_map.1 hp
        exact h3 q hq
      rw [e1] at hm
      simp only [kInt] at hm
      have e2 : goneM (qs.map (·.1)) id = qs.map (·.1) := List.eraseP_of_forall_not fun p hp => by
        obtain ⟨q, hq, rfl⟩ := List.mem_map.1 hp
        simpa using h3 q hq
      simp [k25, St.seg, segOf, o1, hm]
      refine ⟨_, sub_self _, ?_⟩
      rw [e2]
      exact book_fold ((S2.set (.mp (peerM qs))).swap)
    · have e1 : aDel id ((as ++ q :: bs).map fun q => (q.1.id, q.2.1)) = (as ++ bs).map fun q => (q.1.id, q.2.1) := by
        rw [List.map_append, List.map_cons, h4, aDel_at (fun p hp => by
          obtain ⟨q, hq, rfl⟩ := List.mem_map.1 hp
          exact h3 q hq), List.map_append]
      rw [e1] at hm
      simp only [kInt] at hm
      have e2 : goneM ((as ++ q :: bs).map (·.1)) id = (as ++ bs).map (·.1) := by
        unfold goneM
        rw [List.map_append, List.map_cons, List.eraseP_append_right _ (fun p hp => by
          obtain ⟨q, hq, rfl⟩ := List.mem_map.1 hp
          simpa using h3 q hq), List.eraseP_cons_of_pos (by simpa using h4), List.map_append]
      simp only [List.map_append, List.map_cons] at e2 hm
      have e6 : encM kInt pptr (as.map (fun q => (q.1.id, q.2.1)) ++ bs.map (fun q => (q.1.id, q.2.1))) = peerM (as ++ bs) := by simp [peerM]
      simp [k25, St.seg, segOf, o1, hm]
      refine ⟨_, sub_self _, ?_⟩
      rw [e2, e6]
      have S3 := (S2.set (.mp (peerM (as ++ bs)))).swap
      have e3 : as.map (·.1) ++ bs.map (·.1) = (as ++ bs).map (·.1) := by simp
      rw [e3]
      refine book_fold (mid := mid) ?_
      have e4 : BookL bid mid (as ++ bs) ++ L = pt bid (.cells [.map (some mid)]) :: pt mid (.mp (peerM (as ++ bs))) :: (as.flatMap peerL ++ (bs.flatMap peerL ++ L)) := by simp [BookL]
      rw [e4]
      have S4 : Sep (pt bid (.cells [.map (some mid)]) :: pt mid (.mp (peerM (as ++ bs))) :: ((as ++ q :: bs).flatMap peerL ++ L)) _ := S3
      have e5 : (as ++ q :: bs).flatMap peerL ++ L = as.flatMap peerL ++ (peerL q ++ (bs.flatMap peerL ++ L)) := by simp
      rw [e5] at S4
      refine Sep.tail (fun r hr => Sep.tail (fun r hr => ?_) hr) S4
      exact (Sep.perm (List.perm_append_comm_assoc _ (peerL q) _) hr).drop.drop
end
end Go.Ab
