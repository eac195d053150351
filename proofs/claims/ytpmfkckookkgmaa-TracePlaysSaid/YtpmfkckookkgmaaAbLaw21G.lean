/-
  law21: TracePlays.
-/
import Derived.Test.YtpmfkckookkgmaaAbLaw21F
set_option linter.unusedVariables false
set_option linter.unusedSimpArgs false
set_option maxRecDepth 10000
namespace Go.Ab
open Go
section
variable {P : Program} {F : Fn}

structure Op4 where
  kind : Int
  peer : Int
  msg : Int
  k : SK
  nm : List UInt8
def eOp4 (o : Op4) : List V := [.int .i64 o.kind, .int .i64 o.peer, .int .i64 o.msg, .sl o.k (rowsOf e8 o.nm) o.nm.length]
theorem eOp4_len (o : Op4) : (eOp4 o).length = 4 := rfl
theorem msgC_len (k : Int) (ns : V) : (msgC k ns).length = 106 := by simp [msgC]

def PInv (bid n : Nat) (s : V) (st : St) : Prop := ∃ ones, Sep [BookA bid (ones.map toPeer), Sl 6 eOne s ones] st ∧ Good ones ∧ ones.length ≤ n

theorem at_take {ones : List One} {id a : Int} (h : (a = -1 ∧ ∀ o ∈ ones, o.id ≠ id) ∨ ∃ (j : Nat) (hj : j < ones.length), a = (j : Nat) ∧ ones[j].id = id) (g : Good ones) : AtI ones id a := by
  rcases h with h | ⟨j, hj, rfl, h⟩
  · exact .inl h
  · have e : ones = ones.take j ++ ones[j] :: ones.drop (j + 1) := by rw [← List.drop_eq_getElem_cons hj, List.take_append_drop]
    have g' := g
    rw [e] at g'
    obtain ⟨h1, h2⟩ := good_split g' h
    exact .inr ⟨_, _, _, e, by simp; omega, h, h1, h2⟩

theorem one_read {st : St} {sid : Nat} {as bs : List One} {o : One} {spare : List V} (h : st sid = some (.cells (rowsOf eOne (as ++ o :: bs) ++ spare))) {off n : Nat} (hn : off + n ≤ 6) : st.seg sid (as.length * 6 + off) n = some (((eOne o).drop off).take n) := by
  have hi : as.length < (as ++ o :: bs).length := by simp
  have := rowsOf_part eOne_len (as ++ o :: bs) spare hi hn
  rw [show (as ++ o :: bs)[as.length] = o by simp] at this
  simp only [St.seg, h, this]
theorem one_store {st : St} {sid : Nat} {as bs : List One} {o o' : One} {spare : List V} (h : st sid = some (.cells (rowsOf eOne (as ++ o :: bs) ++ spare))) {off n : Nat} (hn : off + n ≤ 6) {v : V} {vs : List V} (hv : v.cells? = some vs) (hl : vs.length = n) (ho : eOne o' = spliceV (eOne o) off vs) :
    storeS st n (.ptr (some (sid, as.length * 6 + off))) v = some (st.upd sid (.cells (rowsOf eOne (as ++ o' :: bs) ++ spare))) := by
  have hi : as.length < (as ++ o :: bs).length := by simp
  have := rowsOf_splice eOne_len (as ++ o :: bs) spare hi (o := off) (vs := vs) (by omega) (a := o') (by rw [show (as ++ o :: bs)[as.length] = o by simp]; exact ho)
  have hlen := rowsOf_length eOne_len (as ++ o :: bs)
  have h6 : (as.length + 1) * 6 ≤ (as ++ o :: bs).length * 6 := Nat.mul_le_mul_right _ hi
  simp only [storeS, h, hv]
  rw [if_pos ⟨hl, by rw [List.length_append]; omega⟩, this]
  simp
theorem segMsg (k : Int) (ns : V) : segOf (msgC k ns) 0 106 = some (msgC k ns) := by
  unfold segOf
  rw [if_pos (by rw [msgC_len]; omega), List.drop_zero, ← msgC_len k ns, List.take_length]

theorem head_get : ∀ {l : List UInt8} (h : 0 < l.length), l[0] = l.headD 0
  | x :: l, h => rfl
theorem condB_mono {v : V} {a b : PC} {Q Q' : Ex → Env → St → Prop} {env : Env} {st : St} (h : condB P v a b Q' env st) (hq : ∀ e env' st', Q' e env' st' → Q e env' st') : condB P v a b Q env st := by
  cases v with
  | bool t =>
    cases t
    · exact vc_mono (P := P) (c := b) h hq
    · exact vc_mono (P := P) (c := a) h hq
  | _ => exact h

/-- TracePlays -/
theorem spec10 (ok : OkTrace P F) (ol : OkLaw21 P F) (st : St) (k0 : SK) (l : List Op4) : ACalls P (F 10) [.sl k0 (rowsOf eOp4 l) l.length] st fun v st' => v = .bool true := by
  refine shows_call ol.mixed ol.h10 (by simp [k10]) ?_
  simp [k10]
  refine (spec18 ok ol st).mono ?_
  rintro v st0 rfl
  simp
  by_cases h100 : (100 : Int) < l.length
  · simp [h100]
    exact ⟨_, sub_self _⟩
  · simp [h100]
    intro bid hbid
    have S : Sep [BookA bid (([] : List One).map toPeer), Sl 6 eOne (.sl .nil [] 0) []] (st0.upd bid (.cells [.map none])) := book_new (L := [Sl 6 eOne (.sl .nil [] 0) []]) (Sep.slNil (L := []) trivial) hbid
    generalize st0.upd bid _ = st1 at S ⊢
    simp
    refine vc_loopJ (fun k env' st' => ∃ i, i ≤ l.length ∧ k = l.length - i ∧ env' 28 = .int .i64 (i : Nat) ∧ PInv bid i (env' 4) st') l.length
      ⟨0, by omega, by omega, rfl, [], S, ⟨by simp, by simp, by simp⟩, by simp⟩ ?_
    clear S
    rintro J hJ k env' st3 hsame ⟨i, hi, rfl, h28, ones, S, G, hfew⟩
    have g3 : env' 3 = .ptr (some (bid, 0)) := hsame.get 3 rfl
    have g26 : env' 26 = .sl k0 (rowsOf eOp4 l) l.length := hsame.get 26 rfl
    have g27 : env' 27 = .int .i64 l.length := hsame.get 27 rfl
    clear hsame
    obtain ⟨s, h4⟩ : ∃ s, env' 4 = s := ⟨_, rfl⟩
    rw [h4] at S
    have w2 : IntKind.i64.wrap ((i : Int) + 1) = (i : Int) + 1 := wrap64 (by omega) (by omega)
    by_cases hlt : i < l.length
    · have hsg := rowsOf_eptr eOp4_len l hlt
      obtain ⟨op, hop⟩ : ∃ op, op = l[i] := ⟨_, rfl⟩
      rw [← hop] at hsg
      simp [g3, g26, g27, h28, hlt, hsg]
      intro oid hoid
      have hst : ∀ zs : List V, zs.length = 4 → storeS (st3.upd oid (.cells zs)) 4 (.ptr (some (oid, 0))) (.agg (eOp4 op)) = some (st3.upd oid (.cells (eOp4 op))) := fun zs hz => store_all hz rfl (eOp4_len _)
      have S := S.new hoid (.cells (eOp4 op))
      simp [hst]
      generalize st3.upd oid (.cells (eOp4 op)) = st4 at S ⊢
      have oo := S.get
      simp only [eOp4] at oo
      simp [St.seg, segOf, oo]
      by_cases h40 : (40 : Int) < op.nm.length
      · simp [h40]
        exact ⟨_, sub_self _⟩
      · have hs := (Sep.rd eOne_len S.drop.drop).len
        simp [h40, h4, hs]
        clear oo
        refine vc_loopJ (fun k env2 st' => ∃ j a, j ≤ ones.length ∧ k = ones.length - j ∧ env2 38 = .int .i64 (j : Nat) ∧ env2 7 = .int .i64 a ∧
            ((a = -1 ∧ ∀ o ∈ ones.take j, o.id ≠ op.peer) ∨ ∃ (b : Nat) (hb : b < ones.length), a = (b : Nat) ∧ ones[b].id = op.peer) ∧ Sep [pt oid (.cells (eOp4 op)), BookA bid (ones.map toPeer), Sl 6 eOne s ones] st') ones.length
          ⟨0, -1, by omega, by omega, rfl, rfl, .inl ⟨rfl, by simp⟩, S⟩ ?_
        clear S
        rintro J2 hJ2 k env2 st5 hsame ⟨j, a, hj, rfl, h38, h7, hat, S⟩
        have q3 : env2 3 = .ptr (some (bid, 0)) := (hsame.get 3 rfl).trans g3
        have q4 : env2 4 = s := (hsame.get 4 rfl).trans h4
        have q6 : env2 6 = .ptr (some (oid, 0)) := hsame.get 6 rfl
        have q28 : env2 28 = .int .i64 (i : Nat) := (hsame.get 28 rfl).trans h28
        have q36 : env2 36 = s := hsame.get 36 rfl
        have q37 : env2 37 = .int .i64 ones.length := hsame.get 37 rfl
        clear hsame
        have w3 : IntKind.i64.wrap ((j : Int) + 1) = (j : Int) + 1 := wrap64 (by omega) (by omega)
        by_cases hlt2 : j < ones.length
        · have rdo : Rd 6 eOne s ones st5 := Sep.rd eOne_len S.drop.drop
          obtain ⟨p, hp1, hp2⟩ := rdo.idx eOne_len hlt2 .i64
          simp [q36, q37, h38, hlt2, hp1, hp2]
          intro zid hzid
          have S6 := S.new hzid (.cells (eOne ones[j]))
          have hst : ∀ zs : List V, zs.length = 6 → storeS (st5.upd zid (.cells zs)) 6 (.ptr (some (zid, 0))) (.agg (eOne ones[j])) = some (st5.upd zid (.cells (eOne ones[j]))) := fun zs hz => store_all hz rfl (eOne_len _)
          simp [hst]
          generalize st5.upd zid (.cells (eOne ones[j])) = st6 at S6 ⊢
          have oz := S6.get
          have oo := S6.swap.get
          simp only [eOne, eOp4] at oz oo
          simp [St.seg, segOf, oz, q6, oo]
          by_cases he : ones[j].id = op.peer
          · simp [he, h38, w3]
            refine Round.mk (ones.length - (j + 1)) _ (by omega) (sub_self _) (hJ2 _ _ _ ⟨j + 1, j, by omega, rfl, by simp, by simp, .inr ⟨j, hlt2, rfl, he⟩, S6.drop⟩)
          · have he' : (ones[j].id == op.peer) = false := by simp [he]
            simp [he, he', h38, w3]
            refine Round.mk (ones.length - (j + 1)) _ (by omega) (sub_self _) (hJ2 _ _ _ ⟨j + 1, a, by omega, rfl, by simp, by simp [h7], ?_, S6.drop⟩)
            rcases hat with ⟨e, h⟩ | h
            · refine .inl ⟨e, fun o ho => ?_⟩
              rw [List.take_succ_eq_append_getElem hlt2, List.mem_append, List.mem_singleton] at ho
              rcases ho with ho | rfl
              · exact h o ho
              · exact he
            · exact .inr h
        · have : j = ones.length := by omega
          subst this
          rw [List.take_length] at hat
          have hat := at_take hat G
          have oo := S.get
          simp only [eOp4] at oo
          simp [q3, q4, q6, q36, q37, h38, St.seg, segOf, oo]
          clear oo
          have S : Sep [Sl 32 eId (.sl .nil [] 0) ((op.nm.take 0).map idB), pt oid (.cells (eOp4 op)), BookA bid (ones.map toPeer), Sl 6 eOne s ones] st5 := Sep.slNil S
          refine vc_loopJ (fun k env3 st' => ∃ j s2, j ≤ op.nm.length ∧ k = op.nm.length - j ∧ env3 53 = .int .i64 (j : Nat) ∧ env3 10 = s2 ∧ Sep [Sl 32 eId s2 ((op.nm.take j).map idB), pt oid (.cells (eOp4 op)), BookA bid (ones.map toPeer), Sl 6 eOne s ones] st') op.nm.length
            ⟨0, _, by omega, by omega, rfl, rfl, S⟩ ?_
          clear S
          rintro J2 hJ2 k env3 st6 hsame ⟨j, s2, hj, rfl, h53, h10, S⟩
          have r3 : env3 3 = .ptr (some (bid, 0)) := (hsame.get 3 rfl).trans q3
          have r4 : env3 4 = s := (hsame.get 4 rfl).trans q4
          have r6 : env3 6 = .ptr (some (oid, 0)) := (hsame.get 6 rfl).trans q6
          have r7 : env3 7 = .int .i64 a := (hsame.get 7 rfl).trans h7
          have r28 : env3 28 = .int .i64 (i : Nat) := (hsame.get 28 rfl).trans q28
          have r51 : env3 51 = .sl op.k (rowsOf e8 op.nm) op.nm.length := hsame.get 51 rfl
          have r52 : env3 52 = .int .i64 op.nm.length := hsame.get 52 rfl
          clear hsame
          have w3 : IntKind.i64.wrap ((j : Int) + 1) = (j : Int) + 1 := wrap64 (by omega) (by omega)
          by_cases hlt2 : j < op.nm.length
          · have hsg : segOf ((rowsOf e8 op.nm).drop j) 0 1 = some [.int .u8 op.nm[j].toNat] := by simpa [e8] using rowsOf_eptr e8_len op.nm hlt2
            simp [r51, r52, h53, h10, hlt2, hsg, fill_id, fill_ids, -rowsOf_cons, elems, eId_len, ids_one]
            refine Sep.app1 eId_len (by omega) S (a := idB op.nm[j]) rfl (by simp; omega) ?_
            intro s' st7 S7
            simp [h53, w3]
            refine Round.mk (op.nm.length - (j + 1)) _ (by omega) (sub_self _) (hJ2 _ _ _ ⟨j + 1, s', by omega, rfl, by simp, by simp, ?_⟩)
            rw [List.take_succ_eq_append_getElem hlt2, List.map_append]
            exact S7
          · have : j = op.nm.length := by omega
            subst this
            rw [List.take_length] at S
            have S : Sep [Rd 32 eId s2 (op.nm.map idB), pt oid (.cells (eOp4 op)), BookA bid (ones.map toPeer), Sl 6 eOne s ones] st6 := S.head fun h hh => hh.rd eId_len
            have rd := Sep.rdOf S
            have oo := S.swap.get
            simp only [eOp4] at oo
            simp [r3, r4, r6, r51, r52, h53, h10, St.seg, segOf, oo, fill_msg_v op.msg rd, -vc_block]
            intro mid hmid
            have hst : ∀ zs : List V, zs.length = 106 → storeS (st6.upd mid (.cells zs)) 106 (.ptr (some (mid, 0))) (.agg (msgC op.msg s2)) = some (st6.upd mid (.cells (msgC op.msg s2))) := fun zs hz => store_all hz rfl (msgC_len _ _)
            have S := S.new hmid (.cells (msgC op.msg s2))
            simp [hst, r6, -vc_block]
            generalize st6.upd mid (.cells (msgC op.msg s2)) = st7 at S ⊢
            have oo := S.mem (i := oid) (o := .cells (eOp4 op)) (by simp)
            simp only [eOp4] at oo
            simp [St.seg, segOf, oo, -vc_block]
            clear oo rd
            refine vc_mono (Q' := fun e env4 st' => (e = .normal ∨ e = .exit 1) ∧ env4 3 = .ptr (some (bid, 0)) ∧ env4 28 = .int .i64 (i : Nat) ∧ PInv bid (i + 1) (env4 4) st') ?_ ?_
            · have go : ∀ {s' : V} {st' : St} {ones' : List One}, Sep [BookA bid (ones'.map toPeer), Sl 6 eOne s' ones'] st' → Good ones' → ones'.length ≤ i + 1 → PInv bid (i + 1) s' st' := fun S G h => ⟨_, S, G, h⟩
              have S : Sep [BookA bid (ones.map toPeer), Sl 6 eOne s ones, pt mid (.cells (msgC op.msg s2)), Rd 32 eId s2 (op.nm.map idB), pt oid (.cells (eOp4 op))] st7 := Sep.tail (fun r hr => by have := Sep.pull 3 _ hr; exact this) (Sep.pull 3 _ S)
              have oo := S.mem (i := oid) (o := .cells (eOp4 op)) (by simp)
              simp only [eOp4] at oo
              simp
              by_cases k0 : op.kind = 0
              · simp [k0, r3, r6, St.seg, segOf, oo]
                refine (spec19 ok S op.peer).mono ?_
                rintro v st8 ⟨rfl, S⟩
                rcases hat with ⟨rfl, hno⟩ | ⟨as, o, bs, rfl, rfl, ho, ha, hb⟩
                · rw [came_none hno] at S ⊢
                  have oo := S.mem (i := oid) (o := .cells (eOp4 op)) (by simp)
                  simp only [eOp4] at oo
                  simp [r3, r4, r6, r7, r28, St.seg, segOf, oo, eqK, fillV, spliceV, repV, V.cells?, elems]
                  refine Sep.app1 eOne_len (by omega) (Sep.swap S) (a := newOne op.peer) rfl (by omega) ?_
                  intro s' st9 S
                  simp [r3, r28]
                  exact go (Sep.tail (fun r hr => Sep.tail (fun r hr => trivial) hr) (Sep.swap S)) (good_new G hno) (by simp; omega)
                · rw [came_some ho] at S ⊢
                  have hn0 : ¬ ((as.length : Int) < 0) := by omega
                  simp [hn0, r3, r4, r6, r7, r28, eqK]
                  exact go (Sep.tail (fun r hr => Sep.tail (fun r hr => trivial) hr) S) G (by omega)
              · have k0' : (op.kind == 0) = false := by simp [k0]
                by_cases k1 : op.kind = 1
                · simp [k0, k1, r3, r6, St.seg, segOf, oo]
                  refine (spec25 ok S op.peer).mono ?_
                  rintro v st8 ⟨rfl, S⟩
                  rcases hat with ⟨rfl, hno⟩ | ⟨as, o, bs, rfl, rfl, ho, ha, hb⟩
                  · rw [gone_none hno] at S
                    simp [r3, r4, r6, r7, r28]
                    exact go (Sep.tail (fun r hr => Sep.tail (fun r hr => trivial) hr) S) G (by omega)
                  · rw [gone_some ho ha] at S
                    obtain ⟨sid, spare, rfl, hsp, S⟩ := S.swap.slObj (by simp)
                    have os := S.get
                    have ml : as.length ≤ (as ++ o :: bs).length := by simp
                    have ml2 : as.length + 1 ≤ (as ++ o :: bs).length := by simp
                    have w5 : IntKind.i64.wrap ((as.length : Int) + 1) = ((as.length + 1 : Nat) : Int) := by rw [wrap64 (by omega) (by omega)]; simp
                    have hel1 := elems_seg eOne_len (l := as ++ o :: bs) os (i := 0) (n := as.length) (by simp)
                    simp only [Nat.zero_mul, List.drop_zero, List.take_left] at hel1
                    have hp0 : (0 : Int) ≤ as.length := by omega
                    have hbl : (as ++ o :: bs).length - (as.length + 1) = bs.length := by simp; omega
                    have hal : as.length - 0 = as.length := rfl
                    simp [-List.length_append, -rowsOf_append, r3, r4, r6, r7, r28, hp0, w5, slV, bounds, ml, ml2, fillV, repV]
                    rw [hel1]
                    refine Sep.appx (b := 40) eOne_len (by omega) (Sep.slxFull S) (m := as) (by simp; omega) ?_
                    intro s1 st11 S11
                    have hel2 := elems_seg eOne_len (l := as ++ o :: bs) (S11.swap.get) (i := as.length + 1) (n := bs.length) (by simp; omega)
                    rw [show (as ++ o :: bs).drop (as.length + 1) = bs by rw [List.append_cons, show as.length + 1 = (as ++ [o]).length by simp, List.drop_left], List.take_length] at hel2
                    simp only [runDK_ap, runD_x, step_app, X.ev, env_put_some, env_upd]
                    simp [-List.length_append, -rowsOf_append, hbl, hel2]
                    refine Sep.appx (b := 40) eOne_len (by omega) S11 (m := bs) (by simp; omega) ?_
                    intro s3 st12 S12
                    simp [r3, r28]
                    exact go (Sep.tail (fun r hr => Sep.tail (fun r hr => trivial) hr) (Sep.swap (Sep.tail (fun r hr => hr.drop) (S12.head fun h hh => hh.sl)))) (good_del G) (by simp at hfew ⊢; omega)
                · have k1' : (op.kind == 1) = false := by simp [k1]
                  by_cases k2 : op.kind = 2
                  · have rds := Sep.rdOf (Sep.pull 3 _ S)
                    simp [k0', k1', k2, fill_id0]
                    intro tid htid
                    have S := S.new htid (.cells (eId (idB 0)))
                    have hst : ∀ zs : List V, zs.length = 32 → storeS (st7.upd tid (.cells zs)) 32 (.ptr (some (tid, 0))) (.agg (eId (idB 0))) = some (st7.upd tid (.cells (eId (idB 0)))) := fun zs hz => store_all hz rfl (eId_len _)
                    simp [hst, r4, rds.len, h10]
                    generalize st7.upd tid (.cells (eId (idB 0))) = st8 at S ⊢
                    obtain ⟨h0, hh0⟩ : ∃ h0, h0 = op.nm.headD 0 := ⟨_, rfl⟩
                    refine condB_mono (Q' := fun e u st' => e = .normal ∧ u 3 = .ptr (some (bid, 0)) ∧ u 4 = s ∧ u 6 = .ptr (some (oid, 0)) ∧ u 7 = .int .i64 a ∧ u 13 = .ptr (some (mid, 0)) ∧ u 14 = .ptr (some (tid, 0)) ∧ u 28 = .int .i64 (i : Nat) ∧
                      Sep [pt tid (.cells (eId (idB h0))), BookA bid (ones.map toPeer), Sl 6 eOne s ones, pt mid (.cells (msgC op.msg s2)), Rd 32 eId s2 (op.nm.map idB), pt oid (.cells (eOp4 op))] st') ?_ ?_
                    · by_cases hnil : op.nm = []
                      · have : h0 = 0 := by rw [hh0, hnil]; rfl
                        rw [this]
                        simp [hnil, r3, r4, r6, r7, r28]
                        rw [hnil] at S
                        exact S
                      · have hpos : 0 < op.nm.length := List.length_pos_iff.2 hnil
                        have rd8 : Rd 32 eId s2 (op.nm.map idB) st8 := Sep.rdOf (Sep.pull 4 _ S)
                        obtain ⟨p, hp1, hp2⟩ := rd8.idx eId_len (i := 0) (by simpa using hpos) .i64
                        have hx : (op.nm.map idB)[0]'(by simpa using hpos) = idB h0 := by
                          rw [List.getElem_map, hh0, head_get]
                        rw [hx] at hp2
                        have hst8 : storeS st8 32 (.ptr (some (tid, 0))) (.agg (eId (idB h0))) = some (st8.upd tid (.cells (eId (idB h0)))) := by
                          have := store_pt (st := st8) (id := tid) (o := 0) (sz := 32) (v := .agg (eId (idB h0))) (vs := eId (idB h0)) S.get rfl (eId_len _) (by rw [eId_len]; omega)
                          rw [this]
                          congr 3
                        simp at hp1
                        simp [hpos, r3, r4, r6, r7, r28, h10, hp1, hp2, hst8]
                        exact S.set _
                    · clear S rds
                      rintro e u st9 ⟨rfl, u3, u4, u6, u7, u13, u14, u28, S⟩
                      have oo := S.mem (i := oid) (o := .cells (eOp4 op)) (by simp)
                      have om := S.mem (i := mid) (o := .cells (msgC op.msg s2)) (by simp)
                      have ot := S.get
                      have sg0 : segOf (eOp4 op) 1 1 = some [.int .i64 op.peer] := rfl
                      have S : Sep [BookA bid (ones.map toPeer), Rd 32 eId s2 (op.nm.map idB), pt tid (.cells (eId (idB h0))), Sl 6 eOne s ones, pt mid (.cells (msgC op.msg s2)), pt oid (.cells (eOp4 op))] st9 :=
                        Sep.tail (fun r hr => by have := Sep.pull 3 _ hr; exact this) (Sep.swap S)
                      simp [u3, u4, u6, u7, u13, u14, u28, St.seg, oo, om, ot, sg0, segMsg, segId]
                      refine (spec21 ok S op.peer (msg_k _ _) (msg_n _ _) (by simp; omega)).mono ?_
                      clear oo om ot S
                      rintro v st10 ⟨rfl, S⟩
                      have S := Sep.tail (fun r hr => by have := Sep.pull 1 _ hr.drop; exact this) S
                      rcases hat with ⟨rfl, hno⟩ | ⟨as, o, bs, rfl, rfl, ho, ha, hb⟩
                      · rw [upd_ones_none hno] at S
                        simp [u3, u4, u7, u28]
                        exact go (Sep.tail (fun r hr => Sep.tail (fun r hr => trivial) hr) S) G (by omega)
                      · have hn0 : ¬ ((as.length : Int) < 0) := by omega
                        have hupd : ∀ k7, updP op.peer (heardM op.msg (idB h0) (op.nm.map idB)) ((as ++ o :: bs).map toPeer) = (as ++ heardO op.msg h0 op.nm k7 o :: bs).map toPeer := fun k7 => upd_ones ho ha (heard_one _ _ _ _ _ (G.nd o (by simp)))
                        obtain ⟨sid, spare, hs', hsp, S1⟩ := Sep.slObj (Sep.swap S) (by simp)
                        clear S
                        obtain ⟨n, hn⟩ : ∃ n, n = (as ++ o :: bs).length := ⟨_, rfl⟩
                        have hn1 : ∀ o', n = (as ++ o' :: bs).length := fun o' => by rw [hn]; simp
                        have hn2 : as.length < n := by rw [hn]; simp
                        rw [← hn] at hs'
                        subst hs'
                        have S := S1
                        clear S1
                        have os := S.get
                        have ot := S.mem (i := tid) (o := .cells (eId (idB h0))) (by simp)
                        have oo := S.mem (i := oid) (o := .cells (eOp4 op)) (by simp)
                        have fin : ∀ {st' : St} {o' : One} (k7 : SK), o' = heardO op.msg h0 op.nm k7 o → Sep [pt sid (.cells (rowsOf eOne (as ++ o' :: bs) ++ spare)), BookA bid (updP op.peer (heardM op.msg (idB h0) (op.nm.map idB)) ((as ++ o :: bs).map toPeer))] st' → PInv bid (i + 1) (.hsl sid 0 6 n) st' := by
                          rintro st' o' k7 rfl S
                          rw [hupd k7] at S
                          refine go (Sep.swap ?_) (good_heard G op.msg h0 op.nm k7) (by rw [← hn1]; rw [← hn] at hfew; omega)
                          rw [hn1 (heardO op.msg h0 op.nm k7 o)]
                          exact S.ofObj hsp
                        have sto : ∀ {st' : St} {o' : One} {off : Nat} {v : V} (k7 : SK), Sep [pt sid (.cells (rowsOf eOne (as ++ o :: bs) ++ spare)), BookA bid (updP op.peer (heardM op.msg (idB h0) (op.nm.map idB)) ((as ++ o :: bs).map toPeer))] st' → o' = heardO op.msg h0 op.nm k7 o → off + 1 ≤ 6 → v.cells? = some [v] → eOne o' = spliceV (eOne o) off [v] →
                            ∃ st2, storeS st' 1 (.ptr (some (sid, as.length * 6 + off))) v = some st2 ∧ PInv bid (i + 1) (.hsl sid 0 6 n) st2 := by
                          intro st' o' off v k7 S ho' hoff hv he
                          exact ⟨_, one_store S.get hoff hv rfl he, fin k7 ho' (S.set _)⟩
                        have S2 : Sep [pt sid (.cells (rowsOf eOne (as ++ o :: bs) ++ spare)), BookA bid (updP op.peer (heardM op.msg (idB h0) (op.nm.map idB)) ((as ++ o :: bs).map toPeer))] st10 := Sep.tail (fun r hr => Sep.tail (fun r hr => trivial) hr) S
                        have sg2 : segOf (eOp4 op) 2 1 = some [.int .i64 op.msg] := rfl
                        have sg3 : segOf (eOp4 op) 3 1 = some [.sl op.k (rowsOf e8 op.nm) op.nm.length] := rfl
                        have sgt : segOf (eId (idB h0)) 0 1 = some [.int .u8 h0.toNat] := by rw [eId_B]; rfl
                        simp [-List.length_append, u3, u4, u6, u7, u28, hn0, hn2, St.seg, oo, sg2]
                        have rd3 : st10.seg sid (as.length * 6 + 3) 1 = some [.bool o.h1] := one_read os (by omega)
                        have rd4 : st10.seg sid (as.length * 6 + 4) 1 = some [.bool o.h2] := one_read os (by omega)
                        have rd5 : st10.seg sid (as.length * 6 + 5) 1 = some [.sl o.k (rowsOf e8 o.bs) o.bs.length] := one_read os (by omega)
                        have ob16 := G.le o (by simp)
                        by_cases m1 : op.msg = 1
                        · obtain ⟨st11, hst, hp⟩ := sto (off := 3) (v := .bool true) .nil S2 (o' := { o with h1 := true }) (by simp [heardO, m1]) (by omega) rfl rfl
                          simp [m1, hst, u3, u4, u28, hp]
                        · have m1' : (op.msg == 1) = false := by simp [m1]
                          by_cases m2 : op.msg = 2
                          · obtain ⟨st11, hst, hp⟩ := sto (off := 4) (v := .bool (o.h2 || o.h1)) .nil S2 (o' := { o with h2 := o.h2 || o.h1 }) (by simp [heardO, m2]) (by omega) rfl rfl
                            cases hh2 : o.h2 <;> simp [hh2] at hst rd4 <;> simp [m2, rd4, rd3, hst, u3, u4, u28, hp]
                          · have m2' : (op.msg == 2) = false := by simp [m2]
                            by_cases m7 : op.msg = 7
                            · have rdt : st10.seg tid 0 1 = some [.int .u8 h0.toNat] := by simp only [St.seg, ot, sgt]
                              simp [m7, rd5, rdt, idxArrV, fillV, repV, V.cells?, spliceV, u14]
                              have hc := spec26 ol (P := P) (F := F) (a := o.bs) (out := [h0]) (k0 := o.k) (k1 := .full)
                              refine (Sep.call (S2.put (A := fun _ => True) trivial) (fun h _ => hc h (by omega) (by simp))).mono ?_
                              rintro v st11 S3
                              obtain ⟨_, _, k, rfl⟩ := S3.part
                              obtain ⟨st12, hst, hp⟩ := sto (off := 5) (v := .sl k (rowsOf e8 (withoutM o.bs [h0])) (withoutM o.bs [h0]).length) k S3.drop (o' := { o with k := k, bs := withoutM o.bs [h0] }) (by simp [heardO, m7]) (by omega) rfl rfl
                              simp [hst, u3, u4, u28, hp]
                            · have m7' : (op.msg == 7) = false := by simp [m7]
                              by_cases m8 : op.msg = 8
                              · have rdn : st10.seg oid 3 1 = some [.sl op.k (rowsOf e8 op.nm) op.nm.length] := by simp only [St.seg, oo, sg3]
                                simp [m8, rd5, rdn, u6]
                                have hc := spec26 ol (P := P) (F := F) (a := o.bs) (out := op.nm) (k0 := o.k) (k1 := op.k)
                                refine (Sep.call (S2.put (A := fun _ => True) trivial) (fun h _ => hc h (by omega) (by omega))).mono ?_
                                rintro v st11 S3
                                obtain ⟨_, _, k, rfl⟩ := S3.part
                                obtain ⟨st12, hst, hp⟩ := sto (off := 5) (v := .sl k (rowsOf e8 (withoutM o.bs op.nm)) (withoutM o.bs op.nm).length) k S3.drop (o' := { o with k := k, bs := withoutM o.bs op.nm }) (by simp [heardO, m8]) (by omega) rfl rfl
                                simp [hst, u3, u4, u28, hp]
                              · have m8' : (op.msg == 8) = false := by simp [m8]
                                simp [m1', m2', m7', m8', u3, u4, u28]
                                exact fin (o' := o) .nil (by simp [heardO, m1, m2, m7, m8]) S2
                  · have k2' : (op.kind == 2) = false := by simp [k2]
                    by_cases k3 : op.kind = 3
                    · have sg1 : segOf (eOp4 op) 1 1 = some [.int .i64 op.peer] := rfl
                      have sg2 : segOf (eOp4 op) 2 1 = some [.int .i64 op.msg] := rfl
                      have sg3 : segOf (eOp4 op) 3 1 = some [.sl op.k (rowsOf e8 op.nm) op.nm.length] := rfl
                      have oo := S.mem (i := oid) (o := .cells (eOp4 op)) (by simp)
                      have om := S.mem (i := mid) (o := .cells (msgC op.msg s2)) (by simp)
                      have S : Sep [BookA bid (ones.map toPeer), Rd 32 eId s2 (op.nm.map idB), Sl 6 eOne s ones, pt mid (.cells (msgC op.msg s2)), pt oid (.cells (eOp4 op))] st7 := Sep.tail (fun r hr => by have := Sep.pull 2 _ hr; exact this) S
                      have hsm : ∀ p ∈ ones.map toPeer, p.asked.length ≤ 100000 := by
                        intro p hp
                        obtain ⟨o, ho, rfl⟩ := List.mem_map.1 hp
                        have := G.le o ho
                        simp [toPeer]; omega
                      simp [k0', k1', k2', k3, r3, r4, r6, r7, r28, St.seg, oo, om, sg1, segMsg]
                      refine (said_rd ok S op.peer op.msg (by simp; omega) hsm).mono ?_
                      clear S oo om
                      rintro v st8 ⟨rfl, S⟩
                      rcases hat with ⟨rfl, hno⟩ | ⟨as, o, bs, rfl, rfl, ho, ha, hb⟩
                      · have e1 : saidP (ones.map toPeer) op.peer op.msg (op.nm.map idB) = ones.map toPeer := upd_ones_none hno
                        have e2 : saidE (ones.map toPeer) op.peer op.msg (op.nm.map idB) = 4 := by rw [saidE, find_ones_none hno]
                        rw [e1] at S
                        rw [e2]
                        simp [r3, r4, r7, r28]
                        exact go (Sep.tail (fun r hr => Sep.tail (fun r hr => trivial) hr.drop) S) G (by omega)
                      · have hn0 : ¬ ((as.length : Int) < 0) := by omega
                        have hm := said_may (as ++ o :: bs) op.msg op.nm o
                        have e1 : saidP ((as ++ o :: bs).map toPeer) op.peer op.msg (op.nm.map idB) = (as ++ (mayM (as ++ o :: bs) op.msg op.nm o).2 :: bs).map toPeer := upd_ones ho ha (by rw [hm])
                        have e2 : saidE ((as ++ o :: bs).map toPeer) op.peer op.msg (op.nm.map idB) = (mayM (as ++ o :: bs) op.msg op.nm o).1 := by rw [saidE, find_ones ho ha]; simp only [hm]
                        have hgm := good_may G op.msg op.nm
                        have hb16 : ∀ o' ∈ as ++ o :: bs, o'.bs.length ≤ 100000 := fun o' ho' => Nat.le_trans (G.le o' ho') (by omega)
                        rw [e1] at S
                        rw [e2]
                        have hrow : (as ++ o :: bs)[as.length]'(by simp) = o := by simp
                        generalize hgmm : mayM (as ++ o :: bs) op.msg op.nm o = M at S hgm ⊢
                        have S : Sep [Sl 6 eOne s (as ++ o :: bs), BookA bid ((as ++ M.2 :: bs).map toPeer), pt mid (.cells (msgC op.msg s2)), pt oid (.cells (eOp4 op))] st8 := Sep.swap (Sep.tail (fun r hr => hr.drop) S)
                        have oo := S.mem (i := oid) (o := .cells (eOp4 op)) (by simp)
                        have rdo : Rd 6 eOne s (as ++ o :: bs) st8 := Sep.rd eOne_len S
                        obtain ⟨p, hp1, hp2⟩ := rdo.idx eOne_len (i := as.length) (by simp) .i64
                        rw [hrow] at hp2
                        simp [hn0, r3, r4, r6, r7, r28, hp1, hp2, St.seg, oo, sg2, sg3]
                        have hc := spec27 ol S o op.msg op.k op.nm (by omega) hb16 (hb16 o (by simp)) (by omega)
                        rw [hgmm] at hc
                        refine hc.mono ?_
                        clear S oo rdo
                        rintro v st9 ⟨rfl, S⟩
                        simp
                        intro kid hkid
                        have S := S.new hkid (.cells (eOne M.2))
                        have hst : ∀ zs : List V, zs.length = 6 → storeS (st9.upd kid (.cells zs)) 6 (.ptr (some (kid, 0))) (.agg (eOne M.2)) = some (st9.upd kid (.cells (eOne M.2))) := fun zs hz => store_all hz rfl (eOne_len _)
                        simp [hst]
                        generalize st9.upd kid (.cells (eOne M.2)) = st10 at S ⊢
                        have ok' := S.get
                        obtain ⟨sid, spare, hs', hsp, S1⟩ := Sep.slObj (Sep.swap S) (by simp)
                        clear S
                        obtain ⟨n, hn⟩ : ∃ n, n = (as ++ o :: bs).length := ⟨_, rfl⟩
                        have hn1 : ∀ o', n = (as ++ o' :: bs).length := fun o' => by rw [hn]; simp
                        have hn2 : as.length < n := by rw [hn]; simp
                        rw [← hn] at hs'
                        subst hs'
                        have os := S1.get
                        have sgo : segOf (eOne M.2) 0 6 = some (eOne M.2) := rfl
                        have hsto : storeS st10 6 (.ptr (some (sid, as.length * 6))) (.agg (eOne M.2)) = some (st10.upd sid (.cells (rowsOf eOne (as ++ M.2 :: bs) ++ spare))) := one_store (off := 0) os (by omega) rfl (eOne_len _) (by
                          unfold spliceV
                          rw [eOne_len, List.drop_of_length_le (by rw [eOne_len]; omega)]
                          simp)
                        simp [-rowsOf_append, r3, r4, r7, r28, St.seg, ok', sgo, hn2, hsto]
                        have S2 : Sep [pt sid (.cells (rowsOf eOne (as ++ M.2 :: bs) ++ spare)), BookA bid ((as ++ M.2 :: bs).map toPeer)] _ := Sep.tail (fun r hr => Sep.tail (fun r hr => trivial) hr.drop) (S1.set (.cells (rowsOf eOne (as ++ M.2 :: bs) ++ spare)))
                        refine go (Sep.swap ?_) hgm (by rw [← hn1]; rw [← hn] at hfew; omega)
                        rw [hn1 M.2]
                        exact S2.ofObj hsp
                    · have k3' : (op.kind == 3) = false := by simp [k3]
                      simp [k0', k1', k2', k3', r3, r4, r28]
                      exact go (Sep.tail (fun r hr => Sep.tail (fun r hr => trivial) hr) S) G (by omega)
            · clear S hs hat
              rintro e env4 st8 ⟨he, u3, u28, ones', S, G', hfew'⟩
              obtain ⟨s', u4⟩ : ∃ s', env4 4 = s' := ⟨_, rfl⟩
              rw [u4] at S
              have w2 : IntKind.i64.wrap ((i : Int) + 1) = (i : Int) + 1 := wrap64 (by omega) (by omega)
              rcases he with rfl | rfl
              · have hs := (Sep.rd eOne_len S.drop).len
                simp [u3]
                refine (spec24 ok S).mono ?_
                rintro v st9 ⟨rfl, rfl⟩
                simp [u4, hs]
                refine vc_loopJ (fun k env5 st' => ∃ j, j ≤ ones'.length ∧ k = ones'.length - j ∧ env5 205 = .int .i64 (j : Nat) ∧ Sep [BookA bid (ones'.map toPeer), Sl 6 eOne s' ones'] st') ones'.length
                  ⟨0, by omega, by omega, rfl, S⟩ ?_
                clear S
                rintro J3 hJ3 k env5 st10 hsame ⟨j, hj, rfl, h205, S⟩
                have v3 : env5 3 = .ptr (some (bid, 0)) := (hsame.get 3 rfl).trans u3
                have v4 : env5 4 = s' := (hsame.get 4 rfl).trans u4
                have v28 : env5 28 = .int .i64 (i : Nat) := (hsame.get 28 rfl).trans u28
                have v203 : env5 203 = s' := hsame.get 203 rfl
                have v204 : env5 204 = .int .i64 ones'.length := hsame.get 204 rfl
                clear hsame
                have w3 : IntKind.i64.wrap ((j : Int) + 1) = (j : Int) + 1 := wrap64 (by omega) (by omega)
                by_cases hlt3 : j < ones'.length
                · have rdo : Rd 6 eOne s' ones' st10 := Sep.rd eOne_len S.drop
                  obtain ⟨p, hp1, hp2⟩ := rdo.idx eOne_len hlt3 .i64
                  simp [v203, v204, h205, hlt3, hp1, hp2]
                  intro zid hzid
                  have S6 := S.new hzid (.cells (eOne ones'[j]))
                  have hst : ∀ zs : List V, zs.length = 6 → storeS (st10.upd zid (.cells zs)) 6 (.ptr (some (zid, 0))) (.agg (eOne ones'[j])) = some (st10.upd zid (.cells (eOne ones'[j]))) := fun zs hz => store_all hz rfl (eOne_len _)
                  simp [hst]
                  generalize st10.upd zid (.cells (eOne ones'[j])) = st11 at S6 ⊢
                  have oz := S6.get
                  simp only [eOne] at oz
                  simp [St.seg, segOf, oz]
                  refine still_call _ _ _ _ (v := .int .i64 (askedM (ones'.map toPeer) ones'[j].id)) ?_ ?_
                  · simp [v3]
                    exact spec23 ok S6.drop _
                  · rw [asked_ones G' hlt3]
                    simp [St.seg, segOf, oz, h205, w3]
                    exact Round.mk (ones'.length - (j + 1)) _ (by omega) (sub_self _) (hJ3 _ _ _ ⟨j + 1, by omega, rfl, by simp, S6.drop⟩)
                · have : j = ones'.length := by omega
                  subst this
                  simp [v203, v204, h205, v28, w2]
                  exact Round.mk (l.length - (i + 1)) _ (by omega) (sub_self _) (hJ _ _ _ ⟨i + 1, by omega, rfl, by simp, by simpa [v4] using ⟨ones', S, G', hfew'⟩⟩)
              · simp [u28, w2]
                exact Round.mk (l.length - (i + 1)) _ (by omega) (sub_self _) (hJ _ _ _ ⟨i + 1, by omega, rfl, by simp, by simpa [u4] using ⟨ones', S, G', hfew'⟩⟩)
    · have : i = l.length := by omega
      subst this
      simp [g26, g27, h28]
      exact ⟨_, sub_self _⟩
end
end Go.Ab
