/-
  Book.Heard and Book.Said.
-/
import Derived.Test.YtpmfkckookkgmaaAbTraceC
set_option linter.unusedVariables false
set_option linter.unusedSimpArgs false
set_option maxRecDepth 10000
namespace Go.Ab
open Go
section
variable {P : Program} {F : Fn}

theorem rdIn {ns : V} {names : List Id} {L' : List Asn} {st' : St} (hs : Sep L' st') (hm : Rd 32 eId ns names ∈ L') : Rd 32 eId ns names st' := by
  obtain ⟨h', k1, k2⟩ := hs.memA hm
  exact k2.sub k1

/-- What a peer says changes of it. -/
def heardM (kind : Int) (name : Id) (names : List Id) (p : Peer) : Peer :=
  if kind = 1 then { p with h1 := true } else if kind = 2 then { p with h2 := p.h2 || p.h1 } else if kind = 7 then { p with asked := p.asked.erase name } else if kind = 8 then { p with asked := names.foldl (fun ks x => ks.erase x) p.asked } else p
theorem heardM_id (kind : Int) (name : Id) (names : List Id) (p : Peer) : (heardM kind name names p).id = p.id := by
  unfold heardM
  repeat' split
  all_goals rfl

theorem updP_none {id : Int} {f : Peer → Peer} : ∀ {ps : List Peer}, (∀ p ∈ ps, p.id ≠ id) → updP id f ps = ps
  | [], _ => rfl
  | p :: l, h => by
    have h1 := h p (by simp)
    simp only [updP, if_neg h1]
    rw [updP_none fun q hq => h q (by simp [hq])]

/-- A peer that was changed is laid back. -/
theorem book_back {bid mid : Nat} {as bs : List PR3} {q : PR3} {p' : Peer} {L : List Asn} {st : St} (hid : p'.id = q.1.id)
    (h : Sep (pt q.2.1 (.cells (pcells p' q.2.2)) :: MapSet q.2.2 p'.asked :: (pt bid (.cells [.map (some mid)]) :: pt mid (.mp (peerM (as ++ q :: bs))) :: (as.flatMap peerL ++ bs.flatMap peerL ++ L))) st) :
    Sep (BookA bid ((as ++ (p', q.2) :: bs).map (·.1)) :: L) st := by
  rw [← peerM_same (q := q) (q' := (p', q.2)) hid rfl] at h
  exact book_fold (Sep.perm (book_at bid mid as bs (p', q.2) L).symm h)

/-- Book.Heard -/
theorem spec21 (ok : OkTrace P F) {st : St} {bid : Nat} {ps : List Peer} {ns : V} {names : List Id} {mc : List V} {kind : Int} {name : Id} {L : List Asn} (h : Sep (BookA bid ps :: Rd 32 eId ns names :: L) st) (id : Int)
    (hk : segOf mc 0 1 = some [V.int .i64 kind]) (hns : segOf mc 3 1 = some [ns]) (hn : names.length ≤ 100000) :
    ACalls P (F 21) [.ptr (some (bid, 0)), .int .i64 id, .agg mc, .agg (eId name)] st fun v st' => v = .tup [] ∧ Sep (BookA bid (updP id (heardM kind name names) ps) :: Rd 32 eId ns names :: L) st' := by
  refine shows_call ok.mixed ok.h21 (by simp [k21]) ?_
  simp [k21]
  intro xid hxid
  simp
  have S1 := (h.new hxid (.cells mc)).swap
  generalize st.upd xid (.cells mc) = st1 at S1 ⊢
  intro yid hyid
  have S2 := (S1.new hyid (.cells (eId name))).swap
  generalize st1.upd yid (.cells (eId name)) = st2 at S2 ⊢
  have S2' : Sep (BookA bid ps :: pt yid (.cells (eId name)) :: pt xid (.cells mc) :: Rd 32 eId ns names :: L) st2 := S2
  have hsn := segId name
  rcases book_cases S2' with ⟨rfl, h1⟩ | ⟨mid, qs, rfl, h1⟩
  · have ob := h1.get
    simp [St.seg, segOf, ob, look_none]
    exact ⟨_, sub_self _, Sep.tail (fun r hr => hr.drop.drop) S2'⟩
  · have ob := h1.get
    have ol := look_peer (Sep.get (Sep.swap h1)) id
    have e0 : segOf [V.map (some mid)] 0 1 = some [V.map (some mid)] := rfl
    simp [St.seg, ob, e0, ol]
    rcases find_cases qs id with ⟨h2, h3⟩ | ⟨as, q, bs, rfl, h3, h4, h5⟩
    · simp [h2]
      refine ⟨_, sub_self _, ?_⟩
      rw [updP_none fun p hp => by
        obtain ⟨q, hq, rfl⟩ := List.mem_map.1 hp
        exact h3 q hq]
      exact Sep.tail (fun r hr => hr.drop.drop) S2'
    · have S3 := Sep.perm (book_at bid mid as bs q _) h1
      have oq := S3.get
      have ox := h1.mem (i := xid) (o := .cells mc) (by simp)
      have oy := h1.mem (i := yid) (o := .cells (eId name)) (by simp)
      have goal : ∀ {st' : St} {p' : Peer}, p' = heardM kind name names q.1 → Sep (pt q.2.1 (.cells (pcells p' q.2.2)) :: MapSet q.2.2 p'.asked :: (pt bid (.cells [.map (some mid)]) :: pt mid (.mp (peerM (as ++ q :: bs))) :: (as.flatMap peerL ++ bs.flatMap peerL ++ (pt yid (.cells (eId name)) :: pt xid (.cells mc) :: Rd 32 eId ns names :: L)))) st' →
          Sep (BookA bid (updP id (heardM kind name names) ((as ++ q :: bs).map (·.1))) :: Rd 32 eId ns names :: L) st' := by
        intro st' p' hp' S
        rw [updP_at h3 h4]
        subst hp'
        exact Sep.tail (fun r hr => hr.drop.drop) (book_back (heardM_id _ _ _ _) S)
      simp only [pcells] at oq
      have q1 : segOf [V.bool false, .bool q.1.s1, .bool q.1.s2, .bool false, .bool q.1.h1, .bool q.1.h2, .map (some q.2.2)] 4 1 = some [V.bool q.1.h1] := rfl
      have q2 : segOf [V.bool false, .bool q.1.s1, .bool q.1.s2, .bool false, .bool q.1.h1, .bool q.1.h2, .map (some q.2.2)] 5 1 = some [V.bool q.1.h2] := rfl
      have q6 : segOf [V.bool false, .bool q.1.s1, .bool q.1.s2, .bool false, .bool q.1.h1, .bool q.1.h2, .map (some q.2.2)] 6 1 = some [V.map (some q.2.2)] := rfl
      simp [h5, pptr, St.seg, ox, hk]
      by_cases k1 : kind = 1
      · simp [k1, idxArrV, storeS, oq, spliceV]
        refine ⟨_, sub_self _, ?_⟩
        have := goal (p' := { q.1 with h1 := true }) (by simp [heardM, k1]) (S3.set _)
        simpa [pcells, k1] using this
      · have k1' : (kind == 1) = false := by simp [k1]
        by_cases k2 : kind = 2
        · cases hh2 : q.1.h2 with
          | true =>
            rw [hh2] at oq q2
            simp [k2, idxArrV, St.seg, oq, q2, storeS, spliceV]
            refine ⟨_, sub_self _, ?_⟩
            have := goal (p' := q.1) (by
              obtain ⟨⟨i, a, b, c, d, e⟩, x⟩ := q
              simp at hh2
              simp [heardM, k2, hh2]) (S3.set (.cells (pcells q.1 q.2.2)))
            simpa [pcells, k2, hh2] using this
          | false =>
            rw [hh2] at oq q2 q1
            simp [k2, idxArrV, St.seg, oq, q1, q2, storeS, spliceV]
            refine ⟨_, sub_self _, ?_⟩
            have := goal (p' := { q.1 with h2 := q.1.h1 }) (by simp [heardM, k2, hh2]) (S3.set (.cells (pcells { q.1 with h2 := q.1.h1 } q.2.2)))
            simpa [pcells, k2] using this
        · have k2' : (kind == 2) = false := by simp [k2]
          by_cases k7 : kind = 7
          · obtain ⟨st4, hm, S4⟩ := S3.swap.mdel name
            simp [k7, St.seg, oq, q6, oy, hsn, hm]
            refine ⟨_, sub_self _, ?_⟩
            have := goal (p' := { q.1 with asked := q.1.asked.erase name }) (by simp [heardM, k7]) S4.swap
            simpa [k7] using this
          · have k7' : (kind == 7) = false := by simp [k7]
            by_cases k8 : kind = 8
            · have rdn : Rd 32 eId ns names st2 := rdIn h1 (by simp)
              simp [k8, St.seg, ox, hns, rdn.len]
              refine vc_loopJ (fun k env' st' => ∃ i, i ≤ names.length ∧ k = names.length - i ∧ env' 61 = .int .i64 (i : Nat) ∧
                Sep (pt q.2.1 (.cells (pcells q.1 q.2.2)) :: MapSet q.2.2 ((names.take i).foldl (fun ks x => ks.erase x) q.1.asked) :: (pt bid (.cells [.map (some mid)]) :: pt mid (.mp (peerM (as ++ q :: bs))) :: (as.flatMap peerL ++ bs.flatMap peerL ++ (pt yid (.cells (eId name)) :: pt xid (.cells mc) :: Rd 32 eId ns names :: L)))) st') names.length
                ⟨0, by omega, by omega, rfl, S3⟩ ?_
              rintro J hJ k env' st4 hsame ⟨i, hi, rfl, h61, S4⟩
              have g8 : env' 8 = .ptr (some (q.2.1, 0)) := hsame.get 8 rfl
              have g59 : env' 59 = ns := hsame.get 59 rfl
              have g60 : env' 60 = .int .i64 names.length := hsame.get 60 rfl
              clear hsame
              have w2 : IntKind.i64.wrap ((i : Int) + 1) = (i : Int) + 1 := wrap64 (by omega) (by omega)
              by_cases hlt : i < names.length
              · have rd4 : Rd 32 eId ns names st4 := rdIn S4 (by simp)
                obtain ⟨p, hp1, hp2⟩ := rd4.idx eId_len hlt .i64
                simp [g59, g60, h61, hlt, hp1, hp2]
                intro zid hzid
                have S5 := S4.new hzid (.cells (eId names[i]))
                have hst : ∀ zs : List V, zs.length = 32 → storeS (st4.upd zid (.cells zs)) 32 (.ptr (some (zid, 0))) (.agg (eId names[i])) = some (st4.upd zid (.cells (eId names[i]))) := fun zs hz => store_all hz rfl (eId_len _)
                have oq4 := S4.get
                simp only [pcells] at oq4
                have n4 := ne_id oq4 hzid
                obtain ⟨st6, hm, S6⟩ := (Sep.pull 2 _ S5 : Sep (MapSet q.2.2 _ :: _) _).mdel names[i]
                have hsg := segId names[i]
                simp [hst, g8, St.seg, n4, oq4, q6, hsg, hm, h61, w2]
                refine Round.mk (names.length - (i + 1)) _ (by omega) (sub_self _) (hJ _ _ _ ⟨i + 1, by omega, rfl, by simp, ?_⟩)
                rw [List.take_succ_eq_append_getElem hlt, List.foldl_append]
                exact Sep.swap (Sep.tail (fun r hr => hr.drop) S6)
              · have : i = names.length := by omega
                subst this
                rw [List.take_length] at S4
                simp [g59, g60, h61]
                refine ⟨_, sub_self _, ?_⟩
                have := goal (p' := { q.1 with asked := names.foldl (fun ks x => ks.erase x) q.1.asked }) (by simp [heardM, k8]) S4
                simpa [k8] using this
            · have k8' : (kind == 8) = false := by simp [k8]
              simp [k1', k2', k7', k8']
              refine ⟨_, sub_self _, ?_⟩
              have := goal (p' := q.1) (by simp [heardM, k1, k2, k7, k8]) S3
              simpa using this

def waitsP (ps : List Peer) (x : Id) : Bool := ps.any fun p => decide (x ∈ p.asked)
theorem waitsM_P (qs : List PR3) : waitsM qs = waitsP (qs.map (·.1)) := by
  funext x
  simp [waitsM, waitsP, List.any_map, Function.comp_def]

def greetedM (p : Peer) : Bool := p.s1 && p.s2 && p.h1 && p.h2
/-- What is said to a peer: the error's number, and the peer then. -/
def saidM (ps : List Peer) (kind : Int) (names : List Id) (p : Peer) : Int × Peer :=
  if kind = 1 ∨ kind = 2 then greetM p kind
  else if greetedM p = false then (7, p)
  else if kind = 6 then (askE (waitsP ps) p.asked.length names, { p with asked := askP (waitsP ps) p.asked names })
  else (0, p)
theorem greetM_same (p : Peer) (kind : Int) : (greetM p kind).2.id = p.id ∧ (greetM p kind).2.asked = p.asked := by
  unfold greetM
  repeat' split
  all_goals exact ⟨rfl, rfl⟩
theorem saidM_id (ps : List Peer) (kind : Int) (names : List Id) (p : Peer) : (saidM ps kind names p).2.id = p.id := by
  unfold saidM
  split
  · exact (greetM_same p kind).1
  · repeat' split
    all_goals rfl

def saidE (ps : List Peer) (id : Int) (kind : Int) (names : List Id) : Int := match ps.find? (fun p => p.id == id) with | some p => (saidM ps kind names p).1 | none => 4

/-- Book.Said -/
theorem spec20 (ok : OkTrace P F) {st : St} {bid : Nat} {ps : List Peer} {ns : V} {names : List Id} {mc : List V} {kind : Int} {L : List Asn} (h : Sep (BookA bid ps :: Rd 32 eId ns names :: L) st) (id : Int)
    (hk : segOf mc 0 1 = some [V.int .i64 kind]) (hns : segOf mc 3 1 = some [ns]) (hn : names.length ≤ 100000) (ha : ∀ p ∈ ps, p.asked.length ≤ 100000) :
    ACalls P (F 20) [.ptr (some (bid, 0)), .int .i64 id, .agg mc] st fun v st' => v = .int .i64 (saidE ps id kind names) ∧ Sep (BookA bid (updP id (fun p => (saidM ps kind names p).2) ps) :: Rd 32 eId ns names :: L) st' := by
  refine shows_call ok.mixed ok.h20 (by simp [k20]) ?_
  simp [k20]
  intro xid hxid
  have S2' : Sep (BookA bid ps :: pt xid (.cells mc) :: Rd 32 eId ns names :: L) (st.upd xid (.cells mc)) := (h.new hxid (.cells mc)).swap
  generalize st.upd xid (.cells mc) = st2 at S2' ⊢
  rcases book_cases S2' with ⟨rfl, h1⟩ | ⟨mid, qs, rfl, h1⟩
  · have ob := h1.get
    simp [St.seg, segOf, ob, look_none]
    exact ⟨_, sub_self _, rfl, Sep.tail (fun r hr => hr.drop) S2'⟩
  · have ob := h1.get
    have ol := look_peer (Sep.get (Sep.swap h1)) id
    have e0 : segOf [V.map (some mid)] 0 1 = some [V.map (some mid)] := rfl
    simp [St.seg, ob, e0, ol]
    have hE : saidE (qs.map (·.1)) id kind names = match qs.find? (fun q => q.1.id == id) with | some q => (saidM (qs.map (·.1)) kind names q.1).1 | none => 4 := by
      unfold saidE
      rw [find_map]
      cases qs.find? (fun q => q.1.id == id) <;> rfl
    rcases find_cases qs id with ⟨h2, h3⟩ | ⟨as, q, bs, rfl, h3, h4, h5⟩
    · rw [h2] at hE
      simp [h2]
      refine ⟨_, sub_self _, hE.symm, ?_⟩
      rw [updP_none fun p hp => by
        obtain ⟨q, hq, rfl⟩ := List.mem_map.1 hp
        exact h3 q hq]
      exact Sep.tail (fun r hr => hr.drop) S2'
    · rw [h5] at hE
      simp only at hE
      have S3 := Sep.perm (book_at bid mid as bs q _) h1
      have oq := S3.get
      have ox := h1.mem (i := xid) (o := .cells mc) (by simp)
      have qa := ha q.1 (by simp)
      obtain ⟨ps, hps⟩ : ∃ ps, ps = (as ++ q :: bs).map (·.1) := ⟨_, rfl⟩
      have goal : ∀ {st' : St} {p' : Peer}, p' = (saidM ps kind names q.1).2 → Sep (pt q.2.1 (.cells (pcells p' q.2.2)) :: MapSet q.2.2 p'.asked :: (pt bid (.cells [.map (some mid)]) :: pt mid (.mp (peerM (as ++ q :: bs))) :: (as.flatMap peerL ++ bs.flatMap peerL ++ (pt xid (.cells mc) :: Rd 32 eId ns names :: L)))) st' →
          Sep (BookA bid (updP id (fun p => (saidM ps kind names p).2) ps) :: Rd 32 eId ns names :: L) st' := by
        intro st' p' hp' S
        conv => arg 1; arg 1; rw [hps]
        rw [updP_at h3 h4, ← hps]
        subst hp'
        exact Sep.tail (fun r hr => hr.drop) (book_back (saidM_id _ _ _ _) S)
      rw [← hps] at hE
      have e1 : as.map (·.1) ++ q.1 :: bs.map (·.1) = ps := by rw [hps]; simp
      simp [h5, pptr, St.seg, ox, hk, e1]
      by_cases k12 : kind = 1 ∨ kind = 2
      · have hs : saidM ps kind names q.1 = greetM q.1 kind := by simp [saidM, k12]
        have := spec32 ok oq k12
        rcases k12 with rfl | rfl
        · simp [St.seg, ox, hk]
          refine this.mono ?_
          rintro v st4 ⟨rfl, rfl⟩
          simp
          refine ⟨_, sub_self _, by rw [hE, hs], ?_⟩
          refine goal (p' := (greetM q.1 1).2) (by rw [hs]) ?_
          rw [(greetM_same q.1 1).2]
          exact S3.set _
        · simp [St.seg, ox, hk]
          refine this.mono ?_
          rintro v st4 ⟨rfl, rfl⟩
          simp
          refine ⟨_, sub_self _, by rw [hE, hs], ?_⟩
          refine goal (p' := (greetM q.1 2).2) (by rw [hs]) ?_
          rw [(greetM_same q.1 2).2]
          exact S3.set _
      · have k1 : kind ≠ 1 := fun e => k12 (.inl e)
        have k2 : kind ≠ 2 := fun e => k12 (.inr e)
        have k1' : (kind == 1) = false := by simp [k1]
        have k2' : (kind == 2) = false := by simp [k2]
        simp [k1', k2', St.seg, ox, hk]
        refine (spec33 ok oq).mono ?_
        rintro v st4 ⟨rfl, rfl⟩
        have hgm : (q.1.s1 && q.1.s2 && q.1.h1 && q.1.h2) = greetedM q.1 := rfl
        rw [hgm]
        cases hg : greetedM q.1 with
        | false =>
          have hs : saidM ps kind names q.1 = (7, q.1) := by simp [saidM, k12, hg]
          simp
          exact ⟨_, sub_self _, by rw [hE, hs], goal (p' := q.1) (by rw [hs]) S3⟩
        | true =>
          simp [St.seg, ox, hk]
          by_cases k6 : kind = 6
          · have hs : saidM ps kind names q.1 = (askE (waitsP ps) q.1.asked.length names, { q.1 with asked := askP (waitsP ps) q.1.asked names }) := by simp [saidM, k6, hg]
            simp [k6, St.seg, ox, hns]
            have h1' : Sep (BookL bid mid (as ++ q :: bs) ++ (Rd 32 eId ns names :: pt xid (.cells mc) :: L)) st4 := Sep.perm (List.Perm.append_left _ (List.Perm.swap _ _ _)) h1
            refine (spec34 ok h1' hn qa).mono ?_
            rintro v st5 ⟨rfl, S5⟩
            rw [waitsM_P, ← hps] at S5 ⊢
            simp
            rw [k6] at hs hE
            refine ⟨_, sub_self _, by rw [hE, hs], ?_⟩
            have S6 := book_fold S5
            conv => arg 1; arg 1; rw [hps]
            rw [updP_at h3 h4, ← hps, hs]
            exact Sep.tail (fun r hr => hr.swap.drop) S6
          · have k6' : (kind == 6) = false := by simp [k6]
            have hs : saidM ps kind names q.1 = (0, q.1) := by simp [saidM, k12, hg, k6]
            simp [k6']
            exact ⟨_, sub_self _, by rw [hE, hs], goal (p' := q.1) (by rw [hs]) S3⟩
end
end Go.Ab
