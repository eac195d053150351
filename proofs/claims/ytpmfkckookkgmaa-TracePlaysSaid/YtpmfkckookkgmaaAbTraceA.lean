/-
  The functions of trace: what each does to a book, told by a list of peers.
-/
import Derived.Test.YtpmfkckookkgmaaAbCoTrace
import Derived.Test.YtpmfkckookkgmaaAbMapT
set_option linter.unusedVariables false
set_option linter.unusedSimpArgs false
set_option maxRecDepth 10000
namespace Go.Ab
open Go
section
variable {P : Program} {F : Fn}

structure Peer where
  id : Int
  s1 : Bool
  s2 : Bool
  h1 : Bool
  h2 : Bool
  asked : List Id

def pcells (p : Peer) (aid : Nat) : List V := [.bool false, .bool p.s1, .bool p.s2, .bool false, .bool p.h1, .bool p.h2, .map (some aid)]
abbrev PR3 := Peer × Nat × Nat
def peerL (q : PR3) : List Asn := [pt q.2.1 (.cells (pcells q.1 q.2.2)), MapSet q.2.2 q.1.asked]
def pptr (o : Nat) : V := .ptr (some (o, 0))
def peerM (qs : List PR3) : List (V × V) := encM kInt pptr (qs.map fun q => (q.1.id, q.2.1))
/-- A book whose peers lie in known places. -/
def BookL (bid mid : Nat) (qs : List PR3) : List Asn := pt bid (.cells [.map (some mid)]) :: pt mid (.mp (peerM qs)) :: qs.flatMap peerL
def BookA (bid : Nat) (ps : List Peer) : Asn := fun h => (ps = [] ∧ h bid = some (.cells [.map none])) ∨ ∃ mid qs, ps = qs.map (·.1) ∧ Sep (BookL bid mid qs) h

theorem peer_lookup (qs : List PR3) (id : Int) : (qs.map fun q => (q.1.id, q.2.1)).lookup id = (qs.find? fun q => q.1.id == id).map (·.2.1) := by
  induction qs with
  | nil => simp
  | cons q l ih =>
    simp only [List.map_cons, List.lookup_cons, List.find?_cons, ih]
    by_cases h : id = q.1.id
    · simp [h]
    · have h1 : (id == q.1.id) = false := by simp [h]
      have h2 : (q.1.id == id) = false := by simp; exact fun e => h e.symm
      simp [h1, h2]

theorem find_map (qs : List PR3) (id : Int) : (qs.map (·.1)).find? (fun p => p.id == id) = (qs.find? fun q => q.1.id == id).map (·.1) := by
  rw [List.find?_map]
  rfl

/-! ### one peer -/
theorem spec33 (ok : OkTrace P F) {st : St} {oid aid : Nat} {p : Peer} (h : st oid = some (.cells (pcells p aid))) : ACalls P (F 33) [.ptr (some (oid, 0))] st fun v st' => v = .bool (p.s1 && p.s2 && p.h1 && p.h2) ∧ st' = st := by
  refine shows_call ok.mixed ok.h33 (by simp [k33]) ?_
  obtain ⟨id, s1, s2, h1, h2, asked⟩ := p
  cases s1 <;> cases s2 <;> cases h1 <;> cases h2 <;> simp [k33, idxArrV, St.seg, segOf, h, pcells, sub_self]

def greetM (p : Peer) (kind : Int) : Int × Peer :=
  if kind = 1 then (if p.s1 then (5, p) else (0, { p with s1 := true }))
  else if p.s2 then (5, p) else if p.s1 && p.h1 then (0, { p with s2 := true }) else (7, p)

theorem spec32 (ok : OkTrace P F) {st : St} {oid aid : Nat} {p : Peer} (h : st oid = some (.cells (pcells p aid))) {kind : Int} (hk : kind = 1 ∨ kind = 2) :
    ACalls P (F 32) [.ptr (some (oid, 0)), .int .i64 kind] st fun v st' => v = .int .i64 (greetM p kind).1 ∧ st' = st.upd oid (.cells (pcells (greetM p kind).2 aid)) := by
  have hsame : st.upd oid (.cells (pcells p aid)) = st := by
    funext i
    by_cases e : i = oid <;> simp [e, h]
  refine shows_call ok.mixed ok.h32 (by simp [k32]) ?_
  obtain ⟨id, s1, s2, h1, h2, asked⟩ := p
  simp only [pcells] at hsame h
  rcases hk with rfl | rfl
  · cases s1 <;> simp [k32, idxArrV, St.seg, segOf, h, pcells, greetM, storeS, spliceV, hsame]
  · cases s1 <;> cases s2 <;> cases h1 <;> simp [k32, idxArrV, St.seg, segOf, h, pcells, greetM, storeS, spliceV, hsame]

/-! ### going through all peers -/
theorem flat_mem {qs : List PR3} {q : PR3} (hq : q ∈ qs) {A : Asn} (hA : A ∈ peerL q) : A ∈ qs.flatMap peerL := List.mem_flatMap.2 ⟨q, hq, hA⟩

theorem spec37 (ok : OkTrace P F) {st : St} {bid mid : Nat} {qs : List PR3} {L : List Asn} (h : Sep (BookL bid mid qs ++ L) st) (x : Id) :
    ACalls P (F 37) [.ptr (some (bid, 0)), .agg (eId x)] st fun v st' => v = .bool (qs.any fun q => decide (x ∈ q.1.asked)) ∧ Sep (BookL bid mid qs ++ L) st' := by
  refine shows_call ok.mixed ok.h37 (by simp [k37]) ?_
  simp [k37]
  intro xid hxid
  have S1 := h.new hxid (.cells (eId x))
  have o1 := S1.get
  have ob := (Sep.swap S1).get
  have n1 := ne_id h.get hxid
  simp [St.seg, segOf, h.get, n1]
  have S2 := Sep.pull 2 _ S1
  refine Sep.rng S2 ?_
  intro it st2 S3
  have ob3 := (Sep.pull 2 _ S3).get
  simp
  refine vc_loopJ (fun k env' st' => ∃ l last, k = unseen l ∧ env' 10 = .map (some mid) ∧ l.map (·.1) = peerM qs ∧ (∀ i (hi : i < l.length) (hq : i < qs.length), l[i].2 = true → x ∉ qs[i].1.asked) ∧
    Sep (Going mid it l last :: pt xid (.cells (eId x)) :: pt bid (.cells [.map (some mid)]) :: (qs.flatMap peerL ++ L)) st') (unseen ((peerM qs).map fun e => (e, false)))
    ⟨_, none, rfl, rfl, by simp [Function.comp_def], fun i hi hq hf => by simp at hf, S3⟩ ?_
  rintro J hJ k env' st3 hsame ⟨l, last, rfl, g10, hl, hseen, S4⟩
  have g3 : env' 3 = .ptr (some (xid, 0)) := hsame.get 3 rfl
  have g11 : env' 11 = .ptr (some (it, 0)) := hsame.get 11 rfl
  clear hsame
  have hlen : l.length = qs.length := by
    have := congrArg List.length hl
    simpa [peerM] using this
  have back : ∀ {st' : St} {l : List ((V × V) × Bool)} {last : Option Nat}, l.map (·.1) = peerM qs → Sep (Going mid it l last :: pt xid (.cells (eId x)) :: pt bid (.cells [.map (some mid)]) :: (qs.flatMap peerL ++ L)) st' →
      Sep (BookL bid mid qs ++ L) (st'.upd mid (.mp (peerM qs))) := by
    intro st' l last hl S
    have := S.gone.2
    rw [hl] at this
    exact (Sep.tail (fun r hr => hr.drop) this).swap
  simp [g11]
  refine Sep.next S4 ?_ ?_
  · intro hall
    have hg := S4.gone.1
    rw [hl] at hg
    simp [frzP, g10, hg]
    refine ⟨_, sub_self _, ?_, back hl S4⟩
    intro a b c hq hx
    obtain ⟨i, hi, he⟩ := List.getElem_of_mem hq
    have := hseen i (by omega) hi (hall _ (List.getElem_mem _))
    rw [he] at this
    exact this hx
  · intro i hi hf st5 S5
    have hiq : i < qs.length := by omega
    obtain ⟨hi2, hent⟩ := S5.ent
    have hval : l[i].1 = (kInt qs[i].1.id, pptr qs[i].2.1) := by
      have : (l.map (·.1))[i]? = (peerM qs)[i]? := by rw [hl]
      simpa [peerM, encM, hi, hiq] using this
    simp only [List.getElem_set_self, hval] at hent
    have oq := S5.mem (i := qs[i].2.1) (o := .cells (pcells qs[i].1 qs[i].2.2)) (by simp; exact .inr (.inr (.inr (.inl ⟨_, _, _, List.getElem_mem hiq, by simp [peerL]⟩))))
    have oset : MapSet qs[i].2.2 qs[i].1.asked st5 := S5.setOf (by simp; exact .inr (.inr (.inr (.inl ⟨_, _, _, List.getElem_mem hiq, by simp [peerL]⟩))))
    have ox := (Sep.swap S5).get
    simp only [pcells] at oq
    have hlx : (eId x).length = 32 := eId_len x
    have htk : (eId x).take 32 = eId x := by rw [← hlx, List.take_length]
    simp [g3, g10, g11, hent, pptr, St.seg, segOf, oq, ox, hlx, htk, oset.look]
    have hl2 : (l.set i (l[i].1, true)).map (·.1) = peerM qs := by
      rw [← hl, List.map_set]
      apply List.ext_getElem
      · simp
      · intro j q1 q2
        simp only [List.getElem_set, List.getElem_map]
        split
        · rename_i e; subst e; rfl
        · rfl
    by_cases hx : x ∈ qs[i].1.asked
    · have hg := S5.gone.1
      rw [hl2] at hg
      simp [hx, frzP, g10, hg]
      exact ⟨_, sub_self _, ⟨qs[i].1, ⟨_, _, List.getElem_mem hiq⟩, hx⟩, back hl2 S5⟩
    · simp [hx]
      refine Round.mk (unseen (l.set i (l[i].1, true))) _ (unseen_set hi hf _) (sub_self _) (hJ _ _ _ ⟨_, _, rfl, by simp [g10], hl2, ?_, S5⟩)
      intro j hj hq hjt
      simp only [List.length_set] at hj
      simp only [List.getElem_set] at hjt
      by_cases e : i = j
      · subst e; exact hx
      · simp only [e, if_false] at hjt
        exact hseen j hj hq hjt
end
end Go.Ab
