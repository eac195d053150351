/-
  What the statements of ban begin with.
-/
import Derived.Test.YtpmfkckookkgmaaWBan3
set_option linter.unusedVariables false
set_option linter.unusedSimpArgs false
namespace Go.Proofs.Ytpmfkckookkgmaa
open Go Go.Ab

theorem Tab.sub {tid : Nat} {rows : Rows2} {h st : St} (ht : Tab tid rows h) (hs : St.sub h st) : Tab tid rows st := by
  obtain ⟨hl, s, h1, h2⟩ := ht
  refine ⟨hl, s, hs _ _ h1, ?_⟩
  rcases h2 with h2 | ⟨sid, spare, e, h3, h4⟩
  · exact .inl h2
  · exact .inr ⟨sid, spare, e, hs _ _ h3, h4⟩

theorem tab_of {tid : Nat} {rows : Rows2} {L : List Asn} {st : St} (h : Sep (Tab tid rows :: L) st) : Tab tid rows st := by
  obtain ⟨h', h1, h2⟩ := h.part
  exact h2.sub h1

theorem tab_new {tid : Nat} {L : List Asn} {st : St} (h : Sep L st) (hid : st tid = none) : Sep (Tab tid [] :: L) (st.upd tid (.cells [.sl .nil [] 0])) :=
  (h.new hid _).head fun h hh => ⟨by simp, _, hh, .inl ⟨rfl, rfl⟩⟩

theorem ban_call {tid : Nat} {rows : Rows2} {L : List Asn} {st : St} (h : Sep (Tab tid rows :: L) st) (hl : rows.length ≤ 32) (a u : Int) :
    ACalls Try.prog 14 [.ptr (some (tid, 0)), .int .i64 a, .int .i64 u] st fun v st' => v = .tup [] ∧ Sep (Tab tid (banM rows a u) :: L) st' :=
  (Sep.call h fun h hh => spec14 hl hh a u).mono fun v s hs => hs.pure

theorem hb0 : banM [] 7 10 = [(7, 10)] := by simp [banM, findAt, putM]
theorem hu1 : untilM [(7, 10)] 7 = some 10 := by simp [untilM, findAt, List.findIdx?_cons]
theorem hb1 : bannedM [(7, 10)] 7 9 = true := by simp [bannedM, hu1]
theorem hb2 : bannedM [(7, 10)] 7 10 = false := by simp [bannedM, hu1]
theorem hb3 : bannedM [(7, 10)] 8 0 = false := by simp [bannedM, untilM, findAt, List.findIdx?_cons]

/-- bans -/
theorem spec12 (st : St) : ACalls Try.prog 12 [] st fun v st' => v = .bool true ∧ st' = st := by
  refine shows_call mixedP comp12 (by simp [c12]) ?_
  simp [c12]
  intro tid htid
  simp
  refine (ban_call (tab_new (Sep.start st) htid) (by simp) 7 10).mono ?_
  rintro v st1 ⟨rfl, S1⟩
  rw [hb0] at S1
  have T1 := tab_of S1
  have hw := S1.drop.was
  simp
  refine (spec15 T1 7).mono ?_
  rintro v st2 ⟨rfl, rfl⟩
  simp [hu1]
  refine (spec17 T1 7 9).mono ?_
  rintro v st2 ⟨rfl, rfl⟩
  simp [hb1]
  refine (spec17 T1 7 10).mono ?_
  rintro v st2 ⟨rfl, rfl⟩
  simp [hb2]
  refine (spec17 T1 8 0).mono ?_
  rintro v st2 ⟨rfl, rfl⟩
  simp [hb3]
  refine (spec13 T1).mono ?_
  rintro v st2 ⟨rfl, rfl⟩
  simp
  exact hw
end Go.Proofs.Ytpmfkckookkgmaa
