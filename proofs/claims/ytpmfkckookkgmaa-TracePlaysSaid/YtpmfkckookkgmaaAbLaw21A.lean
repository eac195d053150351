/-
  law21: messages and ids as they are built; Said and Heard called with names that are only read; looks.
-/
import Derived.Test.YtpmfkckookkgmaaAbTraceD
import Derived.Test.YtpmfkckookkgmaaAbCoLaw21
set_option linter.unusedVariables false
set_option linter.unusedSimpArgs false
set_option maxRecDepth 10000
namespace Go.Ab
open Go
section
variable {P : Program} {F : Fn}

def idB (x : UInt8) : Id := ⟨⟨x :: List.replicate 31 0⟩, rfl⟩
theorem idB_inj {x y : UInt8} (h : idB x = idB y) : x = y := by
  have := congrArg (fun v : Id => v.toArray.toList) h
  simpa [idB] using this
theorem eId_B (x : UInt8) : eId (idB x) = .int .u8 x.toNat :: zId.drop 1 := by
  simp [eId, idB, Vector.toList, zId]
/-- A message of a kind with names. -/
def msgC (k : Int) (ns : V) : List V := .int .i64 k :: .int .u64 0 :: .int .u32 0 :: ns :: z106_d5e4.drop 4
def noN : V := .sl .nil [] 0

theorem fill_msg (k : Int) : fillV z106_d5e4 [(0, 1, .int .i64 k)] = some (msgC k noN) := rfl
theorem fill_msg_sl (k : Int) (s : SK) (cs : List V) (n : Nat) : fillV z106_d5e4 [(0, 1, .int .i64 k), (3, 1, .sl s cs n)] = some (msgC k (.sl s cs n)) := rfl
theorem fill_msg_hsl (k : Int) (a b c n : Nat) : fillV z106_d5e4 [(0, 1, .int .i64 k), (3, 1, .hsl a b c n)] = some (msgC k (.hsl a b c n)) := rfl
theorem fill_id0 : fillV zId [] = some (eId (idB 0)) := by
  rw [eId_B]; rfl
theorem fill_id (x : UInt8) : fillV zId [(0, 1, .int .u8 x.toNat)] = some (eId (idB x)) := by
  rw [eId_B]; rfl
theorem fill_ids (x : Id) : fillV (repV zId 1) [(0, 32, .agg (eId x))] = some (rowsOf eId [x]) := by
  have h : spliceV (repV zId 1) 0 (eId x) = eId x := by
    unfold spliceV
    rw [eId_len, List.drop_of_length_le (by simp [repV])]
    simp
  have h' : spliceV zId 0 (eId x) = eId x := by simpa [repV] using h
  simp [fillV, eId_len, h', repV, V.cells?]
theorem msg_k (k : Int) (ns : V) : segOf (msgC k ns) 0 1 = some [V.int .i64 k] := rfl
theorem msg_n (k : Int) (ns : V) : segOf (msgC k ns) 3 1 = some [ns] := rfl

def saidP (ps : List Peer) (id kind : Int) (names : List Id) : List Peer := updP id (fun p => (saidM ps kind names p).2) ps
def heardP (ps : List Peer) (id kind : Int) (x : Id) (names : List Id) : List Peer := updP id (heardM kind x names) ps
def slI (k : SK) (names : List Id) : V := .sl k (rowsOf eId names) names.length
theorem slI_nil : slI .nil [] = noN := by simp [slI, noN]

theorem said_call (ok : OkTrace P F) {st : St} {bid : Nat} {ps : List Peer} {L : List Asn} (h : Sep (BookA bid ps :: L) st) (id kind : Int) (k0 : SK) (names : List Id) (hn : names.length ≤ 100000) (ha : ∀ p ∈ ps, p.asked.length ≤ 100000) :
    ACalls P (F 20) [.ptr (some (bid, 0)), .int .i64 id, .agg (msgC kind (slI k0 names))] st fun v st' => v = .int .i64 (saidE ps id kind names) ∧ Sep (BookA bid (saidP ps id kind names) :: L) st' := by
  have h' : Sep (BookA bid ps :: Rd 32 eId (slI k0 names) names :: L) st := (h.put (.inl ⟨k0, rfl⟩)).swap
  refine (spec20 ok h' id (msg_k _ _) (msg_n _ _) hn ha).mono ?_
  rintro v st' ⟨rfl, S⟩
  exact ⟨rfl, Sep.tail (fun r hr => hr.drop) S⟩
theorem said_none (ok : OkTrace P F) {st : St} {bid : Nat} {ps : List Peer} {L : List Asn} (h : Sep (BookA bid ps :: L) st) (id kind : Int) (ha : ∀ p ∈ ps, p.asked.length ≤ 100000) :
    ACalls P (F 20) [.ptr (some (bid, 0)), .int .i64 id, .agg (msgC kind noN)] st fun v st' => v = .int .i64 (saidE ps id kind []) ∧ Sep (BookA bid (saidP ps id kind []) :: L) st' := by
  have := said_call ok h id kind .nil [] (by simp) ha
  rwa [slI_nil] at this
theorem heard_call (ok : OkTrace P F) {st : St} {bid : Nat} {ps : List Peer} {L : List Asn} (h : Sep (BookA bid ps :: L) st) (id kind : Int) (k0 : SK) (x : Id) (names : List Id) (hn : names.length ≤ 100000) :
    ACalls P (F 21) [.ptr (some (bid, 0)), .int .i64 id, .agg (msgC kind (slI k0 names)), .agg (eId x)] st fun v st' => v = .tup [] ∧ Sep (BookA bid (heardP ps id kind x names) :: L) st' := by
  have h' : Sep (BookA bid ps :: Rd 32 eId (slI k0 names) names :: L) st := (h.put (.inl ⟨k0, rfl⟩)).swap
  refine (spec21 ok h' id (msg_k _ _) (msg_n _ _) hn).mono ?_
  rintro v st' ⟨rfl, S⟩
  exact ⟨rfl, Sep.tail (fun r hr => hr.drop) S⟩
theorem heard_none (ok : OkTrace P F) {st : St} {bid : Nat} {ps : List Peer} {L : List Asn} (h : Sep (BookA bid ps :: L) st) (id kind : Int) (x : Id) :
    ACalls P (F 21) [.ptr (some (bid, 0)), .int .i64 id, .agg (msgC kind noN), .agg (eId x)] st fun v st' => v = .tup [] ∧ Sep (BookA bid (heardP ps id kind x []) :: L) st' := by
  have := heard_call ok h id kind .nil x [] (by simp)
  rwa [slI_nil] at this
theorem ids_one (x : Id) : rowsOf eId [x] = eId x := by simp
theorem slI_one (x : Id) : V.sl .full (rowsOf eId [x]) 1 = slI .full [x] := rfl

/-- looks -/
theorem spec18 (ok : OkTrace P F) (ol : OkLaw21 P F) (st : St) : ACalls P (F 18) [] st fun v st' => v = .bool true := by
  refine shows_call ol.mixed ol.h18 (by simp [k18]) ?_
  have z1 : fillV zId [(0, 1, .int .u8 1)] = some (eId (idB 1)) := fill_id 1
  simp [k18]
  intro bid hbid
  have S := book_new (L := []) (st := st) trivial hbid
  generalize st.upd bid _ = st1 at S ⊢
  simp
  refine (spec19 ok S 1).mono ?_
  rintro v st2 ⟨rfl, S⟩
  have e1 : cameM [] 1 = (0, [newP 1]) := rfl
  rw [e1] at S ⊢
  simp
  refine (spec19 ok S 1).mono ?_
  rintro v st2 ⟨rfl, S⟩
  have e2 : cameM [newP 1] 1 = (5, [newP 1]) := rfl
  rw [e2] at S ⊢
  simp [fill_msg]
  refine (said_none ok S 1 9 (by decide)).mono ?_
  rintro v st2 ⟨rfl, S⟩
  have e3 : saidE [newP 1] 1 9 [] = 7 := by decide
  have e3' : saidP [newP 1] 1 9 [] = [newP 1] := rfl
  rw [e3'] at S
  rw [e3]
  simp [fill_msg]
  refine (said_none ok S 1 1 (by decide)).mono ?_
  rintro v st2 ⟨rfl, S⟩
  have e4 : saidE [newP 1] 1 1 [] = 0 := by decide
  have e4' : saidP [newP 1] 1 1 [] = [⟨1, true, false, false, false, []⟩] := rfl
  rw [e4'] at S
  rw [e4]
  simp [fill_msg]
  refine (said_none ok S 1 2 (by decide)).mono ?_
  rintro v st2 ⟨rfl, S⟩
  have e5 : saidE [⟨1, true, false, false, false, []⟩] 1 2 [] = 7 := by decide
  have e5' : saidP [⟨1, true, false, false, false, []⟩] 1 2 [] = [⟨1, true, false, false, false, []⟩] := rfl
  rw [e5'] at S
  rw [e5]
  simp [fill_msg, fill_id0]
  refine (heard_none ok S 1 1 _).mono ?_
  rintro v st2 ⟨rfl, S⟩
  have e6 : heardP [⟨1, true, false, false, false, []⟩] 1 1 (idB 0) [] = [⟨1, true, false, true, false, []⟩] := rfl
  rw [e6] at S
  simp [fill_msg, fill_id0]
  refine (heard_none ok S 1 2 _).mono ?_
  rintro v st2 ⟨rfl, S⟩
  have e7 : heardP [⟨1, true, false, true, false, []⟩] 1 2 (idB 0) [] = [⟨1, true, false, true, true, []⟩] := rfl
  rw [e7] at S
  simp [fill_msg, fill_id0]
  refine (said_none ok S 1 2 (by decide)).mono ?_
  rintro v st2 ⟨rfl, S⟩
  have e8 : saidE [⟨1, true, false, true, true, []⟩] 1 2 [] = 0 := by decide
  have e8' : saidP [⟨1, true, false, true, true, []⟩] 1 2 [] = [⟨1, true, true, true, true, []⟩] := rfl
  rw [e8'] at S
  rw [e8]
  simp [fill_msg_sl, z1, fill_ids, -rowsOf_cons, slI_one]
  refine (said_call ok S 1 6 .full [idB 1] (by simp) (by decide)).mono ?_
  rintro v st2 ⟨rfl, S⟩
  have e9 : saidE [⟨1, true, true, true, true, []⟩] 1 6 [idB 1] = 0 := by decide
  have e9' : saidP [⟨1, true, true, true, true, []⟩] 1 6 [idB 1] = [⟨1, true, true, true, true, [idB 1]⟩] := rfl
  rw [e9'] at S
  rw [e9]
  simp
  refine (spec23 ok S 1).mono ?_
  rintro v st3 ⟨rfl, rfl⟩
  have e10 : askedM [⟨1, true, true, true, true, [idB 1]⟩] 1 = 1 := by decide
  rw [e10]
  simp [fill_msg_sl, z1, fill_ids, -rowsOf_cons, slI_one]
  refine (said_call ok S 1 6 .full [idB 1] (by simp) (by decide)).mono ?_
  rintro v st4 ⟨rfl, S⟩
  have e11 : saidE [⟨1, true, true, true, true, [idB 1]⟩] 1 6 [idB 1] = 5 := by decide
  have e11' : saidP [⟨1, true, true, true, true, [idB 1]⟩] 1 6 [idB 1] = [⟨1, true, true, true, true, [idB 1]⟩] := rfl
  rw [e11'] at S
  rw [e11]
  simp
  refine (spec24 ok S).mono ?_
  rintro v st5 ⟨rfl, rfl⟩
  simp
  exact ⟨_, sub_self _⟩
end
end Go.Ab
