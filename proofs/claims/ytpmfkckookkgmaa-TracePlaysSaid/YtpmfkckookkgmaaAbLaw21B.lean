/-
  law21: has; TraceGreets.
-/
import Derived.Test.YtpmfkckookkgmaaAbLaw21A
set_option linter.unusedVariables false
set_option linter.unusedSimpArgs false
set_option maxRecDepth 10000
namespace Go.Ab
open Go
section
variable {P : Program} {F : Fn}

theorem u8_eq (a b : UInt8) : ((a.toNat : Int) == (b.toNat : Int)) = decide (a = b) := by
  by_cases h : a = b
  · simp [h]
  · have : a.toNat ≠ b.toNat := fun e => h (UInt8.toNat_inj.1 e)
    have h2 : ((a.toNat : Int) == (b.toNat : Int)) = false := by simp; omega
    rw [h2]; simp [h]

/-- has -/
theorem spec22 (ol : OkLaw21 P F) {st : St} {s : V} {l : List UInt8} (h : Rd 1 e8 s l st) (hl : l.length ≤ 1000000) (x : UInt8) : ACalls P (F 22) [s, .int .u8 x.toNat] st fun v st' => v = .bool (decide (x ∈ l)) ∧ st' = st := by
  refine shows_call ol.mixed ol.h22 (by simp [k22]) ?_
  simp [k22, h.len]
  refine vc_loopJ (fun k env' st' => ∃ i, i ≤ l.length ∧ k = l.length - i ∧ env' 9 = .int .i64 (i : Nat) ∧ st' = st ∧ x ∉ l.take i) l.length ⟨0, by omega, by omega, rfl, rfl, by simp⟩ ?_
  rintro J hJ k env' st' hsame ⟨i, hi, rfl, h9, rfl, hx⟩
  have g1 : env' 1 = .int .u8 x.toNat := hsame.get 1 rfl
  have g7 : env' 7 = s := hsame.get 7 rfl
  have g8 : env' 8 = .int .i64 l.length := hsame.get 8 rfl
  clear hsame
  have w2 : IntKind.i64.wrap ((i : Int) + 1) = (i : Int) + 1 := wrap64 (by omega) (by omega)
  by_cases hlt : i < l.length
  · obtain ⟨p, hp1, hp2⟩ := h.idx e8_len hlt .i64
    simp [g7, g8, h9, hlt, hp1, hp2, e8, g1, u8_eq]
    by_cases hxi : x = l[i]
    · have hm : x ∈ l := hxi ▸ List.getElem_mem hlt
      have hm' : l[i] ∈ l := List.getElem_mem hlt
      simp [hxi]
    · simp [hxi, h9, w2]
      refine Round.mk (l.length - (i + 1)) _ (by omega) (sub_self _) (hJ _ _ _ ⟨i + 1, by omega, rfl, by simp, rfl, ?_⟩)
      rw [List.take_succ_eq_append_getElem hlt]
      simp only [List.mem_append, List.mem_singleton, not_or]
      exact ⟨hx, hxi⟩
  · have : i = l.length := by omega
    subst this
    rw [List.take_length] at hx
    simp [g8, h9, hx]

def gP (a b c d : Bool) : List Peer := [⟨4, a, b, c, d, []⟩]
theorem g_said1 (a b c d : Bool) : saidE (gP a b c d) 4 1 [] = (if a then 5 else 0) ∧ saidP (gP a b c d) 4 1 [] = gP true b c d := by
  cases a <;> exact ⟨rfl, rfl⟩
theorem g_said2 (a b c d : Bool) : saidE (gP a b c d) 4 2 [] = (if !b && a && c then 0 else if b then 5 else 7) ∧ saidP (gP a b c d) 4 2 [] = gP a (b || (a && c)) c d := by
  cases a <;> cases b <;> cases c <;> exact ⟨rfl, rfl⟩
theorem g_said5 (a b c d : Bool) : saidE (gP a b c d) 4 5 [] = (if a && b && c && d then 0 else 7) ∧ saidP (gP a b c d) 4 5 [] = gP a b c d := by
  cases a <;> cases b <;> cases c <;> cases d <;> exact ⟨rfl, rfl⟩
theorem g_heard1 (a b c d : Bool) (x : Id) : heardP (gP a b c d) 4 1 x [] = gP a b true d := rfl
theorem g_heard2 (a b c d : Bool) (x : Id) : heardP (gP a b c d) 4 2 x [] = gP a b c (d || c) := rfl
theorem g_small (a b c d : Bool) : ∀ p ∈ gP a b c d, p.asked.length ≤ 100000 := by simp [gP]

def GInv (aid bid : Nat) (st : St) : Prop := ∃ a b c d, Sep [pt aid (.cells [.bool a, .bool b, .bool c, .bool d]), BookA bid (gP a b c d)] st

/-- TraceGreets -/
theorem spec9 (ok : OkTrace P F) (ol : OkLaw21 P F) (st : St) (k0 : SK) (l : List Int) : ACalls P (F 9) [.sl k0 (rowsOf e1 l) l.length] st fun v st' => v = .bool true := by
  refine shows_call ol.mixed ol.h9 (by simp [k9]) ?_
  simp [k9]
  refine (spec18 ok ol st).mono ?_
  rintro v st0 rfl
  simp
  by_cases h30 : (30 : Int) < l.length
  · simp [h30]
    exact ⟨_, sub_self _⟩
  · simp [h30]
    intro bid hbid
    have S := book_new (L := []) (st := st0) trivial hbid
    generalize st0.upd bid _ = st1 at S ⊢
    simp
    refine (spec19 ok S 4).mono ?_
    rintro v st2 ⟨rfl, S⟩
    have e1 : (cameM [] 4).2 = gP false false false false := rfl
    rw [e1] at S
    simp
    intro aid haid
    have S := S.new haid (.cells [.bool false, .bool false, .bool false, .bool false])
    simp
    refine vc_loopJ (fun k env' st' => ∃ i a b c d, i ≤ l.length ∧ k = l.length - i ∧ env' 17 = .int .i64 (i : Nat) ∧ Sep [pt aid (.cells [.bool a, .bool b, .bool c, .bool d]), BookA bid (gP a b c d)] st') l.length
      ⟨0, false, false, false, false, by omega, by omega, rfl, S⟩ ?_
    clear S
    rintro J hJ k env' st3 hsame ⟨i, a, b, c, d, hi, rfl, h17, S⟩
    have g3 : env' 3 = .ptr (some (bid, 0)) := hsame.get 3 rfl
    have g4 : env' 4 = .ptr (some (aid, 0)) := hsame.get 4 rfl
    have g15 : env' 15 = .sl k0 (rowsOf Ab.e1 l) l.length := hsame.get 15 rfl
    have g16 : env' 16 = .int .i64 l.length := hsame.get 16 rfl
    clear hsame
    have w2 : IntKind.i64.wrap ((i : Int) + 1) = (i : Int) + 1 := wrap64 (by omega) (by omega)
    by_cases hlt : i < l.length
    · have hsg : segOf ((rowsOf Ab.e1 l).drop i) 0 1 = some [.int .i64 l[i]] := by simpa [Ab.e1] using rowsOf_eptr e1_len l hlt
      simp [g3, g4, g15, g16, h17, hlt, hsg, Ab.e1, -vc_block]
      rw [vc_block]
      simp [g15, h17, hlt, hsg, Ab.e1, -vc_block]
      refine vc_mono (Q' := fun e env2 st' => e = .normal ∧ env2 3 = .ptr (some (bid, 0)) ∧ env2 4 = .ptr (some (aid, 0)) ∧ env2 17 = .int .i64 (i : Nat) ∧
        GInv aid bid st') ?_ ?_
      · have o := S.get
        simp
        by_cases k0 : l[i] = 0
        · simp [k0, g3, fill_msg]
          refine (said_none ok S.swap 4 1 (g_small _ _ _ _)).mono ?_
          rintro v st4 ⟨rfl, S⟩
          rw [(g_said1 a b c d).1]
          rw [(g_said1 a b c d).2] at S
          have o := S.swap.get
          cases a <;> simp [g3, g4, h17, idxArrV, St.seg, o, segOf, eqK, storeS, spliceV]
          · exact ⟨_, _, _, _, S.swap.set _⟩
          · exact ⟨_, _, _, _, S.swap.set _⟩
        · have k0' : (l[i] == 0) = false := by simp [k0]
          by_cases k1 : l[i] = 1
          · simp [k1, g3, fill_msg]
            refine (said_none ok S.swap 4 2 (g_small _ _ _ _)).mono ?_
            rintro v st4 ⟨rfl, S⟩
            rw [(g_said2 a b c d).1]
            rw [(g_said2 a b c d).2] at S
            have o := S.swap.get
            cases a <;> cases b <;> cases c <;> simp [g3, g4, h17, idxArrV, St.seg, o, segOf, eqK, storeS, spliceV] <;> exact ⟨_, _, _, _, S.swap.set _⟩
          · have k1' : (l[i] == 1) = false := by simp [k1]
            by_cases k2 : l[i] = 2
            · simp [k2, g3, fill_msg, fill_id0]
              refine (heard_none ok S.swap 4 1 _).mono ?_
              rintro v st4 ⟨rfl, S⟩
              rw [g_heard1] at S
              have o := S.swap.get
              simp [g3, g4, h17, idxArrV, St.seg, o, segOf, eqK, storeS, spliceV]
              exact ⟨_, _, _, _, S.swap.set _⟩
            · have k2' : (l[i] == 2) = false := by simp [k2]
              by_cases k3 : l[i] = 3
              · simp [k3, g3, fill_msg, fill_id0]
                refine (heard_none ok S.swap 4 2 _).mono ?_
                rintro v st4 ⟨rfl, S⟩
                rw [g_heard2] at S
                have o := S.swap.get
                cases d <;> simp [g3, g4, h17, idxArrV, St.seg, o, segOf, eqK, storeS, spliceV] <;> exact ⟨_, _, _, _, S.swap.set _⟩
              · have k3' : (l[i] == 3) = false := by simp [k3]
                simp [k0', k1', k2', k3', g3, g4, h17]
                exact ⟨_, _, _, _, S⟩
      · clear S a b c d
        rintro e env2 st5 ⟨rfl, q3, q4, q17, a, b, c, d, S⟩
        have o := S.get
        have fin : ∀ {v : V} {st6 : St}, (v = .int .i64 (saidE (gP a b c d) 4 5 []) ∧ Sep (BookA bid (saidP (gP a b c d) 4 5 []) :: [pt aid (.cells [.bool a, .bool b, .bool c, .bool d])]) st6) →
            v = .int .i64 (if a && b && c && d then 0 else 7) ∧ Sep [pt aid (.cells [.bool a, .bool b, .bool c, .bool d]), BookA bid (gP a b c d)] st6 := by
          rintro v st6 ⟨rfl, S⟩
          rw [(g_said5 a b c d).2] at S
          rw [(g_said5 a b c d).1]
          exact ⟨rfl, S.swap⟩
        have call := said_none ok S.swap 4 5 (g_small _ _ _ _)
        cases a <;> cases b <;> cases c <;> cases d <;> simp [q3, q4, idxArrV, St.seg, o, segOf, fill_msg] <;> refine call.mono fun v st6 h => ?_ <;> obtain ⟨rfl, S6⟩ := fin h <;> simp [eqK, q17, w2] <;>
          exact Round.mk (l.length - (i + 1)) _ (by omega) (sub_self _) (hJ _ _ _ ⟨i + 1, _, _, _, _, by omega, rfl, by simp, S6⟩)
    · have : i = l.length := by omega
      subst this
      simp [g3, g15, g16, h17]
      refine (spec24 ok S.swap).mono ?_
      rintro v st5 ⟨rfl, rfl⟩
      simp [gP]
      exact ⟨_, sub_self _⟩
end
end Go.Ab
