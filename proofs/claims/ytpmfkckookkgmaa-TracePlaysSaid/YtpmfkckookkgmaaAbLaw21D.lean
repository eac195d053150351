/-
  law21: TraceOnce.
-/
import Derived.Test.YtpmfkckookkgmaaAbLaw21C
set_option linter.unusedVariables false
set_option linter.unusedSimpArgs false
set_option maxRecDepth 10000
namespace Go.Ab
open Go
section
variable {P : Program} {F : Fn}

theorem fill_msg_slI (k : Int) (s : SK) (ns : List Id) : fillV z106_d5e4 [(0, 1, .int .i64 k), (3, 1, slI s ns)] = some (msgC k (slI s ns)) := fill_msg_sl _ _ _ _

def psA (n : Nat) (A : Nat → List Id) : List Peer := (List.range n).map fun (j : Nat) => fullA (j : Int) (A j)
theorem psA_succ (n : Nat) (A : Nat → List Id) : psA (n + 1) A = psA n A ++ [fullA (n : Int) (A n)] := by simp [psA, List.range_succ]
theorem psA_ids {n : Nat} {A : Nat → List Id} : ∀ q ∈ psA n A, q.id ≠ (n : Int) := by
  intro q hq
  simp only [psA, List.mem_map, List.mem_range] at hq
  obtain ⟨j, hj, rfl⟩ := hq
  simp only [fullA]
  omega
theorem psA_find {j : Nat} {A : Nat → List Id} : ∀ {n : Nat}, j < n → (psA n A).find? (fun p => p.id == (j : Int)) = some (fullA (j : Int) (A j))
  | n + 1, h => by
    rw [psA_succ, List.find?_append]
    by_cases hj : j < n
    · rw [psA_find hj]; rfl
    · have : j = n := by omega
      subst this
      have : (psA j A).find? (fun p => p.id == (j : Int)) = none := by
        rw [List.find?_eq_none]
        intro q hq
        simpa using psA_ids q hq
      rw [this]
      simp [fullA]
theorem psA_upd {j : Nat} {A B : Nat → List Id} {f : Peer → Peer} (hf : f (fullA (j : Int) (A j)) = fullA (j : Int) (B j)) (hB : ∀ k, k ≠ j → B k = A k) : ∀ {n : Nat}, j < n → updP (j : Int) f (psA n A) = psA n B
  | n + 1, h => by
    rw [psA_succ, psA_succ]
    by_cases hj : j < n
    · have hmem : ∃ q ∈ psA n A, q.id = (j : Int) := ⟨fullA (j : Int) (A j), List.mem_map.2 ⟨j, List.mem_range.2 hj, rfl⟩, rfl⟩
      rw [updP_app1 hmem, psA_upd hf hB hj, hB n (by omega)]
    · have : j = n := by omega
      subst this
      rw [updP_app2 psA_ids]
      have : psA j A = psA j B := by
        simp only [psA]
        apply List.map_congr_left
        intro k hk
        rw [List.mem_range] at hk
        rw [hB k (by omega)]
      rw [← this]
      simp [updP, fullA] at hf ⊢
      exact hf
theorem psA_waits (n : Nat) (A : Nat → List Id) (x : Id) : waitsP (psA n A) x = true ↔ ∃ j, j < n ∧ x ∈ A j := by
  simp [waitsP, psA, fullA]
def total (n : Nat) (A : Nat → List Id) : Nat := ((List.range n).map fun j => (A j).length).sum
theorem total_succ (n : Nat) (A : Nat → List Id) : total (n + 1) A = total n A + (A n).length := by simp [total, List.range_succ]
def withA (A : Nat → List Id) (j : Nat) (x : Id) : Nat → List Id := fun k => if k = j then A j ++ [x] else A k
theorem total_with {A : Nat → List Id} {j : Nat} {x : Id} : ∀ {n : Nat}, total n (withA A j x) = total n A + if j < n then 1 else 0
  | 0 => by simp [total]
  | n + 1 => by
    rw [total_succ, total_succ, total_with]
    by_cases h : n = j
    · subst h
      simp [withA]
      omega
    · by_cases h2 : j < n
      · rw [if_pos h2, if_pos (by omega)]; simp [withA, h]; omega
      · rw [if_neg h2, if_neg (by omega)]; simp [withA, h]
theorem psA_small {n : Nat} {A : Nat → List Id} {c : Nat} (h : ∀ j, j < n → (A j).length ≤ c) : ∀ q ∈ psA n A, q.asked.length ≤ c := by
  intro q hq
  simp only [psA, List.mem_map, List.mem_range] at hq
  obtain ⟨j, hj, rfl⟩ := hq
  exact h j hj

theorem said6E {n j : Nat} {A : Nat → List Id} (h : j < n) (names : List Id) : saidE (psA n A) j 6 names = askE (waitsP (psA n A)) (A j).length names := by
  rw [saidE, psA_find h]
  simp [saidM, greetedM, fullA]
theorem said6P {n j : Nat} {A : Nat → List Id} (h : j < n) (x : Id) : saidP (psA n A) j 6 [x] = psA n (if askE (waitsP (psA n A)) (A j).length [x] = 0 then withA A j x else A) := by
  refine psA_upd ?_ (fun k hk => ?_) h
  · simp only [saidM, greetedM, fullA, askP]
    by_cases h : askE (waitsP (psA n A)) (A j).length [x] = 0 <;> simp [h, withA]
  · split <;> simp [withA, hk]

theorem cs_look {cs : List (Int × Int)} (k v k' : Int) : ((aSet k v cs).lookup k').getD 0 = if k' = k then v else (cs.lookup k').getD 0 := by
  induction cs with
  | nil =>
    by_cases h : k' = k
    · simp [aSet, List.lookup, h]
    · have : (k' == k) = false := by simp [h]
      simp [aSet, List.lookup, h, this]
  | cons p cs ih =>
    by_cases h : k = p.1
    · by_cases h2 : k' = k
      · subst h2
        simp [aSet, ← h, List.lookup]
      · have h3 : (k' == k) = false := by simp [h2]
        have h3' : (k' == p.1) = false := by rw [← h]; exact h3
        rw [aSet, if_pos h, if_neg h2]
        simp [List.lookup, h3, h3']
    · by_cases h2 : k' = p.1
      · have h4 : ¬ p.1 = k := fun e => h e.symm
        simp [aSet, h, List.lookup, h2, h4]
      · have h3 : (k' == p.1) = false := by simp [h2]
        simp [aSet, h, List.lookup, h3, ih]

structure OnceI (n i bid mid : Nat) (s : V) (A : Nat → List Id) (held : List UInt8) (cs : List (Int × Int)) (st : St) : Prop where
  sep : Sep [BookA bid (psA n A), Sl 1 e8 s held, pt mid (.mp (encM kInt kInt cs))] st
  cnt : ∀ j : Nat, j < n → (cs.lookup (j : Int)).getD 0 = (A j).length
  le16 : ∀ j, j < n → (A j).length ≤ 16
  tot : total n A = held.length
  mem : ∀ x, x ∈ held ↔ ∃ j, j < n ∧ idB x ∈ A j
  few : held.length ≤ i

/-- TraceOnce -/
theorem spec8 (ok : OkTrace P F) (ol : OkLaw21 P F) (st : St) (k0 : SK) (m : Int) (l : List UInt8) : ACalls P (F 8) [.int .i64 m, .sl k0 (rowsOf e8 l) l.length] st fun v st' => v = .bool true := by
  refine shows_call ol.mixed ol.h8 (by simp [k8]) ?_
  simp [k8]
  refine (spec18 ok ol st).mono ?_
  rintro v st0 rfl
  simp
  by_cases hm1 : m < 1
  · simp [hm1]
    exact ⟨_, sub_self _⟩
  · by_cases hm5 : (5 : Int) < m
    · simp [hm1, hm5]
      exact ⟨_, sub_self _⟩
    · by_cases h100 : (100 : Int) < l.length
      · simp [hm1, hm5, h100]
        exact ⟨_, sub_self _⟩
      · obtain ⟨n, rfl⟩ : ∃ n : Nat, m = (n : Int) := ⟨m.toNat, by omega⟩
        simp [hm1, hm5, h100]
        intro bid hbid
        have S : Sep [BookA bid (psA 0 fun _ => [])] (st0.upd bid (.cells [.map none])) := book_new (L := []) trivial hbid
        generalize st0.upd bid _ = st1 at S ⊢
        simp
        refine vc_loopJ (fun k env' st' => ∃ j, j ≤ n ∧ k = n - j ∧ env' 30 = .int .i64 (j : Nat) ∧ Sep [BookA bid (psA j fun _ => [])] st') n
          ⟨0, by omega, by omega, rfl, S⟩ ?_
        clear S
        rintro J hJ k env2 st5 hsame ⟨j, hj, rfl, h30, S⟩
        have g0 : env2 0 = .int .i64 n := hsame.get 0 rfl
        have g1 : env2 1 = .sl k0 (rowsOf e8 l) l.length := hsame.get 1 rfl
        have g5 : env2 5 = .ptr (some (bid, 0)) := hsame.get 5 rfl
        have g29 : env2 29 = .int .i64 n := hsame.get 29 rfl
        clear hsame
        have w3 : IntKind.i64.wrap ((j : Int) + 1) = (j : Int) + 1 := wrap64 (by omega) (by omega)
        by_cases hlt : j < n
        · have fr := fresh (psA_ids (n := j) (A := fun _ => []))
          have hsm : ∀ q ∈ psA j fun _ => [], q.asked.length ≤ 100000 := psA_small (by simp)
          have hnx : psA j (fun _ => []) ++ [fullA j []] = psA (j + 1) fun _ => [] := (psA_succ _ _).symm
          simp [h30, hlt, g5, g29]
          refine (spec19 ok S j).mono ?_
          rintro v st6 ⟨rfl, S⟩
          rw [fr.came] at S
          simp [g5, fill_msg]
          refine (said_none ok S j 1 (small_snoc hsm (by simp [newP]))).mono ?_
          rintro v st6 ⟨rfl, S⟩
          rw [fr.said1] at S
          simp [g5, fill_msg, fill_id0]
          refine (heard_none ok S j 1 _).mono ?_
          rintro v st6 ⟨rfl, S⟩
          rw [fr.heard1] at S
          simp [g5, fill_msg, fill_id0]
          refine (heard_none ok S j 2 _).mono ?_
          rintro v st6 ⟨rfl, S⟩
          rw [fr.heard2] at S
          simp [g5, fill_msg, fill_id0]
          refine (said_none ok S j 2 (small_snoc hsm (by simp))).mono ?_
          rintro v st6 ⟨rfl, S⟩
          rw [fr.said2, hnx] at S
          simp [h30, w3]
          exact Round.mk (n - (j + 1)) _ (by omega) (sub_self _) (hJ _ _ _ ⟨j + 1, by omega, rfl, by simp, S⟩)
        · have : j = n := by omega
          subst this
          simp [h30, g0, g1, g5, g29]
          intro mid hmid
          have S : Sep [BookA bid (psA j fun _ => []), Sl 1 e8 (.sl .nil [] 0) [], pt mid (.mp (encM kInt kInt []))] (st5.upd mid (.mp [])) := Sep.perm (List.Perm.swap _ _ _) (Sep.put (Sep.swap (S.new hmid (.mp []))) (.inl ⟨.inl rfl, rfl⟩))
          generalize st5.upd mid _ = st6 at S ⊢
          simp [g1]
          clear hJ
          refine vc_loopJ (fun k env' st' => ∃ i s A held cs, i ≤ l.length ∧ k = l.length - i ∧ env' 53 = .int .i64 (i : Nat) ∧ env' 7 = s ∧ OnceI j i bid mid s A held cs st') l.length
            ⟨0, _, _, _, _, by omega, by omega, rfl, rfl, ⟨S, by simp, by simp, by simp [total, List.map_const'], by simp, by simp⟩⟩ ?_
          clear S
          rintro J hJ k env3 st7 hsame ⟨i, s, A, held, cs, hi, rfl, h53, h7, O⟩
          have q0 : env3 0 = .int .i64 j := (hsame.get 0 rfl).trans g0
          have q5 : env3 5 = .ptr (some (bid, 0)) := (hsame.get 5 rfl).trans g5
          have q8 : env3 8 = .map (some mid) := hsame.get 8 rfl
          have q51 : env3 51 = .sl k0 (rowsOf e8 l) l.length := hsame.get 51 rfl
          have q52 : env3 52 = .int .i64 l.length := hsame.get 52 rfl
          clear hsame
          have w2 : IntKind.i64.wrap ((i : Int) + 1) = (i : Int) + 1 := wrap64 (by omega) (by omega)
          by_cases hlt : i < l.length
          · have hsg : segOf ((rowsOf e8 l).drop i) 0 1 = some [.int .u8 l[i].toNat] := by simpa [e8] using rowsOf_eptr e8_len l hlt
            have hj0 : ¬ j = 0 := by omega
            have htm : (i : Int).tmod j = ((i % j : Nat) : Int) := rfl
            have wr : IntKind.i64.wrap (((i % j : Nat) : Int)) = ((i % j : Nat) : Int) := wrap64 (by omega) (by have := Nat.mod_lt i (show 0 < j by omega); omega)
            have hr : i % j < j := Nat.mod_lt _ (by omega)
            obtain ⟨r, hrr⟩ : ∃ r, r = i % j := ⟨_, rfl⟩
            rw [← hrr] at htm wr hr
            have hsm := psA_small O.le16
            have hsm : ∀ q ∈ psA j A, q.asked.length ≤ 100000 := fun q hq => Nat.le_trans (hsm q hq) (by omega)
            simp [q0, q5, q8, q51, q52, h53, h7, hlt, hsg, fill_id, fill_ids, -rowsOf_cons, slI_one, fill_msg_slI, htm, hj0, q5]
            refine (said_call ok O.sep r 6 .full [idB l[i]] (by simp) hsm).mono ?_
            rintro v st8 ⟨rfl, S⟩
            rw [said6P hr] at S
            rw [said6E hr]
            have rd : Rd 1 e8 s held st8 := Sep.rd e8_len S.drop
            simp [h7]
            refine (spec22 ol rd (by have := O.few; omega) l[i]).mono ?_
            rintro v st9 ⟨rfl, rfl⟩
            by_cases hx : l[i] ∈ held
            · have hw : waitsP (psA j A) (idB l[i]) = true := (psA_waits _ _ _).2 ((O.mem _).1 hx)
              have e : askE (waitsP (psA j A)) (A r).length [idB l[i]] = 5 := by
                rw [askE, if_neg (by simp), if_neg (by simp [hw])]
              rw [e] at S ⊢
              simp [hx, h53, w2]
              exact Round.mk (l.length - (i + 1)) _ (by omega) (sub_self _) (hJ _ _ _ ⟨i + 1, s, A, held, cs, by omega, rfl, by simp, by simp [h7], ⟨S, O.cnt, O.le16, O.tot, O.mem, by have := O.few; omega⟩⟩)
            · have hw : waitsP (psA j A) (idB l[i]) = false := by
                cases hw : waitsP (psA j A) (idB l[i]) with
                | false => rfl
                | true => exact absurd ((O.mem _).2 ((psA_waits _ _ _).1 hw)) hx
              have e : askE (waitsP (psA j A)) (A r).length [idB l[i]] = if (A r).length + 1 > 16 then 3 else 0 := by
                rw [askE, if_neg (by simp), if_pos (by simp [hw])]; simp
              have hmp : st9 mid = some (.mp (encM kInt kInt cs)) := S.mem (i := mid) (by simp)
              have hlk : lookupV st9 .int (.int .i64 0) false (.map (some mid)) (.int .i64 r) = some (.int .i64 (A r).length) := by
                have := lookup_enc keyed_int (ev := kInt) hmp (.int .i64 0) false (r : Int)
                rw [show V.int .i64 (r : Int) = kInt r from rfl, this]
                have h2 := O.cnt r hr
                cases hl : cs.lookup (r : Int) with
                | none => rw [hl] at h2; simp at h2; simp [h2]
                | some y => rw [hl] at h2; simp at h2; simp [h2, kInt]
              have h16 := O.le16 r hr
              by_cases h15 : (A r).length = 16
              · have e : askE (waitsP (psA j A)) (A r).length [idB l[i]] = 3 := by rw [e, if_pos (by omega)]
                rw [e] at S ⊢
                simp [hx, h53, w2, q8, hlk, h15]
                exact Round.mk (l.length - (i + 1)) _ (by omega) (sub_self _) (hJ _ _ _ ⟨i + 1, s, A, held, cs, by omega, rfl, by simp, by simp [h7], ⟨S, O.cnt, O.le16, O.tot, O.mem, by have := O.few; omega⟩⟩)
              · have e : askE (waitsP (psA j A)) (A r).length [idB l[i]] = 0 := by rw [e, if_neg (by omega)]
                rw [e] at S ⊢
                have h15c : (((A r).length : Int) == 16) = false := by simp; omega
                simp only [if_true] at S
                simp [hx, h53, w2, q8, h7, hlk, h15c, fillV, repV, V.cells?, spliceV, elems]
                refine Sep.app1 e8_len (by omega) S.swap (a := l[i]) rfl (by have := O.few; omega) ?_
                intro s' st10 S
                have S := S.swap
                have hmp : st10 mid = some (.mp (encM kInt kInt cs)) := S.mem (i := mid) (by simp)
                have w16 : IntKind.i64.wrap (((A r).length : Int) + 1) = ((A r).length : Int) + 1 := wrap64 (by omega) (by omega)
                have hlk : lookupV st10 .int (.int .i64 0) false (.map (some mid)) (.int .i64 r) = some (.int .i64 (A r).length) := by
                  have := lookup_enc keyed_int (ev := kInt) hmp (.int .i64 0) false (r : Int)
                  rw [show V.int .i64 (r : Int) = kInt r from rfl, this]
                  have h2 := O.cnt r hr
                  cases hl : cs.lookup (r : Int) with
                  | none => rw [hl] at h2; simp at h2; simp [h2]
                  | some y => rw [hl] at h2; simp at h2; simp [h2, kInt]
                have hset : msetS st10 .int (.map (some mid)) (.int .i64 r) (.int .i64 (((A r).length : Int) + 1)) = _ := mset_enc keyed_int (ev := kInt) hmp (r : Int) (((A r).length : Int) + 1)
                simp [q8, hlk, w16, hset, h53, w2]
                have S : Sep [BookA bid (psA j (withA A r (idB l[i]))), Sl 1 e8 s' (held ++ [l[i]]), pt mid (.mp (encM kInt kInt (aSet (r : Int) (((A r).length : Int) + 1) cs)))] _ := Sep.tail (fun r hr => hr.swap) (Sep.swap (Sep.set (Sep.swap (Sep.tail (fun r hr => hr.swap) S)) _))
                refine Round.mk (l.length - (i + 1)) _ (by omega) (sub_self _) (hJ _ _ _ ⟨i + 1, s', _, _, _, by omega, rfl, by simp, by simp, ⟨S, fun k hk => ?_, fun k hk => ?_, ?_, fun x => ?_, by have := O.few; simp; omega⟩⟩)
                · rw [cs_look]
                  by_cases hkr : k = r
                  · subst hkr; simp [withA]
                  · have : ¬ (k : Int) = r := by omega
                    rw [if_neg this, O.cnt k hk]
                    simp [withA, hkr]
                · by_cases hkr : k = r
                  · subst hkr; simp [withA]; omega
                  · simp [withA, hkr]; exact O.le16 k hk
                · rw [total_with, if_pos hr, O.tot]; simp
                · rw [List.mem_append, O.mem]
                  constructor
                  · rintro (⟨k, hk, h⟩ | h)
                    · refine ⟨k, hk, ?_⟩
                      by_cases hkr : k = r
                      · subst hkr; simp [withA, h]
                      · simp [withA, hkr, h]
                    · rw [List.mem_singleton] at h
                      subst h
                      exact ⟨r, hr, by simp [withA]⟩
                  · rintro ⟨k, hk, h⟩
                    by_cases hkr : k = r
                    · subst hkr
                      simp [withA] at h
                      rcases h with h | h
                      · exact .inl ⟨k, hk, h⟩
                      · exact .inr (by rw [idB_inj h]; simp)
                    · simp [withA, hkr] at h
                      exact .inl ⟨k, hk, h⟩
          · have hlen := (Sep.rd e8_len O.sep.drop).len
            simp [q0, q5, q8, q51, q52, h53, h7, hlt]
            refine vc_loopJ (fun k env' st' => ∃ a, a ≤ j ∧ k = j - a ∧ env' 89 = .int .i64 (a : Nat) ∧ env' 14 = .int .i64 (total a A : Nat) ∧ Sep [BookA bid (psA j A)] st') j
              ⟨0, by omega, by omega, rfl, by simp [total], Sep.tail (fun r hr => trivial) O.sep⟩ ?_
            rintro J hJ k env4 st8 hsame ⟨a, ha, rfl, h89, h14, S⟩
            have r5 : env4 5 = .ptr (some (bid, 0)) := (hsame.get 5 rfl).trans q5
            have r7 : env4 7 = s := (hsame.get 7 rfl).trans h7
            have r88 : env4 88 = .int .i64 j := hsame.get 88 rfl
            clear hsame
            have w2 : IntKind.i64.wrap ((a : Int) + 1) = (a : Int) + 1 := wrap64 (by omega) (by omega)
            by_cases hlt : a < j
            · have h16 := O.le16 a hlt
              have e : askedM (psA j A) a = (A a).length := by
                rw [askedM, psA_find hlt]; rfl
              have htl : total a A ≤ 16 * a := by
                have : ∀ b, b ≤ j → total b A ≤ 16 * b := by
                  intro b
                  induction b with
                  | zero => intro _; simp [total]
                  | succ b ih =>
                    intro hb
                    have := ih (by omega)
                    have := O.le16 b (by omega)
                    rw [total_succ]; omega
                exact this a (by omega)
              have w3 : IntKind.i64.wrap ((total a A : Int) + ((A a).length : Int)) = (total (a + 1) A : Nat) := by rw [wrap64 (by omega) (by omega), total_succ]; simp
              simp [r5, r7, r88, h89, h14, hlt]
              refine (spec23 ok S a).mono ?_
              rintro v st9 ⟨rfl, rfl⟩
              rw [e]
              simp [h14, h89, w2, w3]
              exact Round.mk (j - (a + 1)) _ (by omega) (sub_self _) (hJ _ _ _ ⟨a + 1, by omega, rfl, by simp, by simp, S⟩)
            · have : a = j := by omega
              subst this
              simp [r5, r7, r88, h89, h14, hlen, O.tot]
              exact ⟨_, sub_self _⟩
end
end Go.Ab
