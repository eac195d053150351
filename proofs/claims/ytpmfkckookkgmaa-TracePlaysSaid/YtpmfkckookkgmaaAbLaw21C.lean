/-
  law21: TraceGone.
-/
import Derived.Test.YtpmfkckookkgmaaAbLaw21B
set_option linter.unusedVariables false
set_option linter.unusedSimpArgs false
set_option maxRecDepth 10000
namespace Go.Ab
open Go
section
variable {P : Program} {F : Fn}

theorem updP_app1 {id : Int} {f : Peer → Peer} : ∀ {a b : List Peer}, (∃ p ∈ a, p.id = id) → updP id f (a ++ b) = updP id f a ++ b
  | [], b, h => by simp at h
  | p :: a, b, h => by
    by_cases hp : p.id = id
    · simp [updP, hp]
    · have h' : ∃ q ∈ a, q.id = id := by
        obtain ⟨q, hq, e⟩ := h
        rcases List.mem_cons.1 hq with rfl | hq
        · exact absurd e hp
        · exact ⟨q, hq, e⟩
      simp [updP, hp, updP_app1 h']
theorem updP_app2 {id : Int} {f : Peer → Peer} : ∀ {a b : List Peer}, (∀ p ∈ a, p.id ≠ id) → updP id f (a ++ b) = a ++ updP id f b
  | [], b, h => rfl
  | p :: a, b, h => by
    have h1 := h p (by simp)
    have ih := updP_app2 (f := f) (b := b) (a := a) fun q hq => h q (by simp [hq])
    simp [updP, h1, ih]
theorem updP_last {id : Int} {f : Peer → Peer} {a : List Peer} {p : Peer} (h : ∀ q ∈ a, q.id ≠ id) (hp : p.id = id) : updP id f (a ++ [p]) = a ++ [f p] := by
  rw [updP_app2 h]
  simp [updP, hp]

def fullA (id : Int) (a : List Id) : Peer := ⟨id, true, true, true, true, a⟩

/-- A new peer is greeted. -/
structure Fresh (ps : List Peer) (id : Int) : Prop where
  came : (cameM ps id).2 = ps ++ [newP id]
  said1 : saidP (ps ++ [newP id]) id 1 [] = ps ++ [⟨id, true, false, false, false, []⟩]
  heard1 : ∀ x, heardP (ps ++ [⟨id, true, false, false, false, []⟩]) id 1 x [] = ps ++ [⟨id, true, false, true, false, []⟩]
  heard2 : ∀ x, heardP (ps ++ [⟨id, true, false, true, false, []⟩]) id 2 x [] = ps ++ [⟨id, true, false, true, true, []⟩]
  said2 : saidP (ps ++ [⟨id, true, false, true, true, []⟩]) id 2 [] = ps ++ [fullA id []]
theorem fresh {ps : List Peer} {id : Int} (h : ∀ q ∈ ps, q.id ≠ id) : Fresh ps id := by
  constructor
  · have : ps.any (fun p => p.id == id) = false := by
      rw [List.any_eq_false]
      intro p hp
      simpa using h p hp
    simp [cameM, this]
  all_goals
    intros
    first | rw [saidP, updP_last h rfl] | rw [heardP, updP_last h rfl]
    rfl
theorem small_snoc {ps : List Peer} {p : Peer} {n : Nat} (h : ∀ q ∈ ps, q.asked.length ≤ n) (hp : p.asked.length ≤ n) : ∀ q ∈ ps ++ [p], q.asked.length ≤ n := by
  intro q hq
  rcases List.mem_append.1 hq with hq | hq
  · exact h q hq
  · rw [List.mem_singleton.1 hq]; exact hp

theorem fill_msg_v (k : Int) {s : V} {l : List Id} {st : St} (h : Rd 32 eId s l st) : fillV z106_d5e4 [(0, 1, .int .i64 k), (3, 1, s)] = some (msgC k s) := by
  rcases h with ⟨k0, rfl⟩ | ⟨sid, off, rfl, _⟩
  · exact fill_msg_sl _ _ _ _
  · exact fill_msg_hsl _ _ _ _ _
theorem said_rd (ok : OkTrace P F) {st : St} {bid : Nat} {ps : List Peer} {s : V} {names : List Id} {L : List Asn} (h : Sep (BookA bid ps :: Rd 32 eId s names :: L) st) (id kind : Int) (hn : names.length ≤ 100000) (ha : ∀ p ∈ ps, p.asked.length ≤ 100000) :
    ACalls P (F 20) [.ptr (some (bid, 0)), .int .i64 id, .agg (msgC kind s)] st fun v st' => v = .int .i64 (saidE ps id kind names) ∧ Sep (BookA bid (saidP ps id kind names) :: Rd 32 eId s names :: L) st' := spec20 ok h id (msg_k _ _) (msg_n _ _) hn ha

theorem map_nodup {l : List UInt8} (h : l.Nodup) : (l.map idB).Nodup := by
  induction l with
  | nil => simp
  | cons a l ih =>
    rw [List.nodup_cons] at h
    rw [List.map_cons, List.nodup_cons]
    refine ⟨fun hm => ?_, ih h.2⟩
    obtain ⟨b, hb, e⟩ := List.mem_map.1 hm
    rw [← idB_inj e] at h
    exact h.1 hb

theorem nodup_takeB {l : List UInt8} {i : Nat} (h : i < l.length) (hn : (l.take i).Nodup) (hx : l[i] ∉ l.take i) : (l.take (i + 1)).Nodup := by
  rw [List.take_succ_eq_append_getElem h, List.nodup_append]
  refine ⟨hn, by simp, fun a ha b hb e => ?_⟩
  rw [List.mem_singleton] at hb
  subst hb
  exact hx (e ▸ ha)

def upto (j : Nat) : List Peer := if j ≤ 1 then [] else if j = 2 then [fullA 1 []] else [fullA 1 [], fullA 2 []]

/-- TraceGone -/
theorem spec11 (ok : OkTrace P F) (ol : OkLaw21 P F) (st : St) (k0 : SK) (l : List UInt8) : ACalls P (F 11) [.sl k0 (rowsOf e8 l) l.length] st fun v st' => v = .bool true := by
  refine shows_call ol.mixed ol.h11 (by simp [k11]) ?_
  simp [k11]
  refine (spec18 ok ol st).mono ?_
  rintro v st0 rfl
  simp
  by_cases h16 : (16 : Int) < l.length
  · simp [h16]
    exact ⟨_, sub_self _⟩
  · simp [h16]
    have S : Sep [Sl 32 eId (.sl .nil [] 0) []] st0 := Sep.slNil (L := []) trivial
    refine vc_loopJ (fun k env' st' => ∃ i s, i ≤ l.length ∧ k = l.length - i ∧ env' 15 = .int .i64 (i : Nat) ∧ env' 3 = s ∧ (l.take i).Nodup ∧ Sep [Sl 32 eId s ((l.take i).map idB)] st') l.length
      ⟨0, _, by omega, by omega, rfl, rfl, by simp, by simpa using S⟩ ?_
    clear S
    rintro J hJ k env' st3 hsame ⟨i, s, hi, rfl, h15, h3, hnd, S⟩
    have g0 : env' 0 = .sl k0 (rowsOf e8 l) l.length := hsame.get 0 rfl
    have g13 : env' 13 = .sl k0 (rowsOf e8 l) l.length := hsame.get 13 rfl
    have g14 : env' 14 = .int .i64 l.length := hsame.get 14 rfl
    clear hsame
    have w2 : IntKind.i64.wrap ((i : Int) + 1) = (i : Int) + 1 := wrap64 (by omega) (by omega)
    by_cases hlt : i < l.length
    · have hsg : segOf ((rowsOf e8 l).drop i) 0 1 = some [.int .u8 l[i].toNat] := by simpa [e8] using rowsOf_eptr e8_len l hlt
      have hrl : (rowsOf e8 l).length = l.length := by simpa using rowsOf_length e8_len l
      have htk : (rowsOf e8 l).take i = rowsOf e8 (l.take i) := by simpa using rowsOf_take e8_len i l
      simp [g0, g13, g14, h15, h3, hlt, hsg, slV, bounds, hrl, hi, htk]
      have rd : Rd 1 e8 (.sl (slK k0 false) (rowsOf e8 (l.take i)) i) (l.take i) st3 := .inl ⟨slK k0 false, by simp [hi]⟩
      refine (spec22 ol rd (by simp; omega) l[i]).mono ?_
      rintro v st4 ⟨rfl, rfl⟩
      by_cases hx : l[i] ∈ l.take i
      · simp [hx]
        exact ⟨_, sub_self _⟩
      · simp [hx, h3, fill_id, fill_ids, -rowsOf_cons, elems, eId_len, ids_one]
        refine Sep.app1 eId_len (by omega) S (a := idB l[i]) rfl (by simp; omega) ?_
        intro s' st5 S5
        simp [h15, w2]
        refine Round.mk (l.length - (i + 1)) _ (by omega) (sub_self _) (hJ _ _ _ ⟨i + 1, s', by omega, rfl, by simp, by simp, nodup_takeB hlt hnd hx, ?_⟩)
        rw [List.take_succ_eq_append_getElem hlt, List.map_append]
        exact S5
    · have : i = l.length := by omega
      subst this
      rw [List.take_length] at S hnd
      have hnm := map_nodup hnd
      simp [g13, g14, h15, h3]
      intro bid hbid
      have S := book_new S hbid
      generalize st3.upd bid _ = st4 at S ⊢
      have S : Sep (BookA bid [] :: Rd 32 eId s (l.map idB) :: []) st4 := Sep.tail (fun r hr => hr.head fun h hh => hh.rd eId_len) S
      simp
      refine vc_loopJ (fun k env' st' => ∃ j, 1 ≤ j ∧ j ≤ 3 ∧ k = 3 - j ∧ env' 7 = .int .i64 (j : Nat) ∧ Sep (BookA bid (upto j) :: Rd 32 eId s (l.map idB) :: []) st') 2
        ⟨1, by omega, by omega, rfl, rfl, S⟩ ?_
      clear S
      rintro J hJ k env2 st5 hsame ⟨j, hj1, hj3, rfl, h7, S⟩
      have q3 : env2 3 = s := (hsame.get 3 rfl).trans h3
      have q6 : env2 6 = .ptr (some (bid, 0)) := hsame.get 6 rfl
      clear hsame
      have w3 : IntKind.i64.wrap ((j : Int) + 1) = (j : Int) + 1 := wrap64 (by omega) (by omega)
      by_cases hlt : j ≤ 2
      · have hfr : ∀ q ∈ upto j, q.id ≠ (j : Int) := by
          intro q hq
          have : j = 1 ∨ j = 2 := by omega
          rcases this with rfl | rfl
          · simp [upto] at hq
          · simp [upto] at hq
            subst hq
            simp [fullA]
        have hsm : ∀ q ∈ upto j, q.asked.length ≤ 100000 := by
          intro q hq
          have : j = 1 ∨ j = 2 := by omega
          rcases this with rfl | rfl
          · simp [upto] at hq
          · simp [upto] at hq
            subst hq
            simp [fullA]
        have hnx : upto j ++ [fullA j []] = upto (j + 1) := by
          have : j = 1 ∨ j = 2 := by omega
          rcases this with rfl | rfl <;> simp [upto]
        have fr := fresh hfr
        have hlt2 : (j : Int) ≤ 2 := by omega
        simp [h7, hlt2, q6]
        refine (spec19 ok S j).mono ?_
        rintro v st6 ⟨rfl, S⟩
        rw [fr.came] at S
        simp [h7, q6, fill_msg]
        refine (said_none ok S j 1 (small_snoc hsm (by simp [newP]))).mono ?_
        rintro v st6 ⟨rfl, S⟩
        rw [fr.said1] at S
        simp [h7, q6, fill_msg, fill_id0]
        refine (heard_none ok S j 1 _).mono ?_
        rintro v st6 ⟨rfl, S⟩
        rw [fr.heard1] at S
        simp [h7, q6, fill_msg, fill_id0]
        refine (heard_none ok S j 2 _).mono ?_
        rintro v st6 ⟨rfl, S⟩
        rw [fr.heard2] at S
        simp [h7, q6, fill_msg, fill_id0]
        refine (said_none ok S j 2 (small_snoc hsm (by simp))).mono ?_
        rintro v st6 ⟨rfl, S⟩
        rw [fr.said2, hnx] at S
        simp [h7, w3]
        exact Round.mk (3 - (j + 1)) _ (by omega) (sub_self _) (hJ _ _ _ ⟨j + 1, by omega, by omega, rfl, by simp, S⟩)
      · have hlt2 : ¬ (j : Int) ≤ 2 := by omega
        have : j = 3 := by omega
        subst this
        have e3 : upto 3 = [fullA 1 [], fullA 2 []] := rfl
        rw [e3] at S
        have rd := fun {st : St} {A : Asn} (S : Sep (A :: Rd 32 eId s (l.map idB) :: []) st) => Sep.rdOf S.drop
        have hlen := (rd S).len
        have hml : (l.map idB).length = l.length := by simp
        have hn : (l.map idB).length ≤ 16 := by rw [hml]; omega
        obtain ⟨ns, hns⟩ : ∃ ns, ns = l.map idB := ⟨_, rfl⟩
        rw [← hns] at S rd hlen hnm hn hml
        rw [hml] at hlen
        simp [h7, q3, hlen]
        by_cases h0 : l = []
        · have : ns = [] := by rw [hns, h0]; rfl
          subst this
          simp [h0, q6, fill_msg]
          refine (said_none ok S 1 6 (by simp [fullA])).mono ?_
          rintro v st6 ⟨rfl, S⟩
          have e : saidE [fullA 1 [], fullA 2 []] 1 6 [] = 6 := by decide
          rw [e]
          simp
          exact ⟨_, sub_self _⟩
        · have h0' : ns ≠ [] := by simpa [hns] using h0
          have h0l : ((l.length : Int) == 0) = false := by simp [h0]
          have askok : ∀ (w : Id → Bool), (∀ x ∈ ns, w x = false) → askE w 0 ns = 0 := fun w hw => by
            rw [askE, if_neg h0', if_pos ⟨hnm, hw⟩, if_neg (by omega)]
          have e1 : saidE [fullA 1 [], fullA 2 []] 1 6 ns = 0 := by
            have := askok (waitsP [fullA 1 [], fullA 2 []]) (by simp [waitsP, fullA])
            simpa [saidE, saidM, greetedM, fullA] using this
          have e1' : saidP [fullA 1 [], fullA 2 []] 1 6 ns = [fullA 1 ns, fullA 2 []] := by
            have := askok (waitsP [fullA 1 [], fullA 2 []]) (by simp [waitsP, fullA])
            simp only [fullA] at this
            simp [saidP, saidM, greetedM, fullA, updP, askP, this]
          have hw : ¬ (ns.Nodup ∧ ∀ x ∈ ns, waitsP [fullA 1 ns, fullA 2 []] x = false) := by
            rintro ⟨_, hw⟩
            obtain ⟨x, hx⟩ := List.exists_mem_of_ne_nil _ h0'
            have := hw x hx
            simp [waitsP, fullA, hx] at this
          have e2a : ∀ n, askE (waitsP [fullA 1 ns, fullA 2 []]) n ns = 5 := fun n => by rw [askE, if_neg h0', if_neg hw]
          have e2 : saidE [fullA 1 ns, fullA 2 []] 2 6 ns = 5 := by
            have := e2a 0
            simpa [saidE, saidM, greetedM, fullA] using this
          have e2' : saidP [fullA 1 ns, fullA 2 []] 2 6 ns = [fullA 1 ns, fullA 2 []] := by
            have := e2a 0
            simp only [fullA] at this
            simp [saidP, saidM, greetedM, fullA, updP, askP, this]
          have e3 : goneM [fullA 1 ns, fullA 2 []] 1 = [fullA 2 []] := rfl
          have e4 : saidE [fullA 2 []] 2 6 ns = 0 := by
            have := askok (waitsP [fullA 2 []]) (by simp [waitsP, fullA])
            simpa [saidE, saidM, greetedM, fullA] using this
          have e4' : saidP [fullA 2 []] 2 6 ns = [fullA 2 ns] := by
            have := askok (waitsP [fullA 2 []]) (by simp [waitsP, fullA])
            simp only [fullA] at this
            simp [saidP, saidM, greetedM, fullA, updP, askP, this]
          have e5 : askedM [fullA 2 ns] 2 = l.length := by
            rw [← hml]; rfl
          have e6 : askedM [fullA 2 ns] 1 = 0 := rfl
          have e7 : cameM [fullA 2 ns] 1 = (0, [fullA 2 ns, newP 1]) := rfl
          have e8 : saidE [fullA 2 ns, newP 1] 1 9 [] = 7 := rfl
          have e8' : saidP [fullA 2 ns, newP 1] 1 9 [] = [fullA 2 ns, newP 1] := rfl
          have e9 : saidE [fullA 2 ns, newP 1] 1 1 [] = 0 := rfl
          have sm : ∀ {ps : List Peer}, (∀ p ∈ ps, p.asked = [] ∨ p.asked = ns) → ∀ p ∈ ps, p.asked.length ≤ 100000 := by
            intro ps h p hp
            rcases h p hp with e | e <;> rw [e]
            · simp
            · omega
          simp [h0l, q3, q6, fill_msg_v 6 (rd S)]
          refine (said_rd ok S 1 6 (by omega) (sm (by simp [fullA]))).mono ?_
          rintro v st6 ⟨rfl, S⟩
          rw [e1] 
          rw [e1'] at S
          simp [q3, q6, fill_msg_v 6 (rd S)]
          refine (said_rd ok S 2 6 (by omega) (sm (by simp [fullA]))).mono ?_
          rintro v st6 ⟨rfl, S⟩
          rw [e2] 
          rw [e2'] at S
          simp [q3, q6]
          refine (spec25 ok S 1).mono ?_
          rintro v st6 ⟨rfl, S⟩
          rw [e3] at S
          simp [q3, q6, fill_msg_v 6 (rd S)]
          refine (said_rd ok S 2 6 (by omega) (sm (by simp [fullA]))).mono ?_
          rintro v st6 ⟨rfl, S⟩
          rw [e4] 
          rw [e4'] at S
          simp [q3, q6]
          refine (spec23 ok S 2).mono ?_
          rintro v st7 ⟨rfl, rfl⟩
          rw [e5]
          simp [q3, q6, hlen]
          refine (spec23 ok S 1).mono ?_
          rintro v st8 ⟨rfl, rfl⟩
          rw [e6]
          simp [q3, q6]
          refine (spec19 ok S 1).mono ?_
          rintro v st9 ⟨rfl, S⟩
          rw [e7] at S ⊢
          simp [q6, fill_msg]
          refine (said_none ok S 1 9 (sm (by simp [fullA, newP]))).mono ?_
          rintro v st10 ⟨rfl, S⟩
          rw [e8'] at S
          rw [e8]
          simp [q6, fill_msg]
          refine (said_none ok S 1 1 (sm (by simp [fullA, newP]))).mono ?_
          rintro v st11 ⟨rfl, S⟩
          rw [e9]
          simp
          exact ⟨_, sub_self _⟩
end
end Go.Ab
