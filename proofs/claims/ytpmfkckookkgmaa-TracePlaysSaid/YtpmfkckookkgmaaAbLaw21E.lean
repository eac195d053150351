/-
  law21: without, may.
-/
import Derived.Test.YtpmfkckookkgmaaAbLaw21D
set_option linter.unusedVariables false
set_option linter.unusedSimpArgs false
set_option maxRecDepth 10000
namespace Go.Ab
open Go
section
variable {P : Program} {F : Fn}

/-- A slice is only read from now on: it is told by its rows. -/
theorem Sep.frz {α : Type} {f : α → List V} {sz : Nat} (hf : ∀ a, (f a).length = sz) {s : V} {l : List α} {L : List Asn} {st : St} (h : Sep (Sl sz f s l :: L) st) : ∃ k st', frzV st s = some (.sl k (rowsOf f l) l.length, st') ∧ Sep L st' := by
  obtain ⟨a0, r, h1, h2, h3, h4⟩ := h
  rcases h3 with ⟨rfl | rfl, rfl⟩ | ⟨sid, spare, rfl, h5, h6⟩
  · exact ⟨.nil, st, by simp [frzV], h4.sub (sub_trans (sub_right h1) h2)⟩
  · exact ⟨.full, st, by simp [frzV], h4.sub (sub_trans (sub_right h1) h2)⟩
  · have hsid : st sid = some (.cells (rowsOf f l ++ spare)) := h2 _ _ (add_some h5)
    have hl := rowsOf_length hf l
    have hsep : Sep (pt sid (.cells (rowsOf f l ++ spare)) :: L) st := ⟨a0, r, h1, h2, h5, h4⟩
    refine ⟨.some, st.upd sid (.ro (rowsOf f l ++ spare)), ?_, (hsep.set _).drop⟩
    simp only [frzV, frzOb, hsid, Option.bind_some, St.seg, st_upd, if_true, segOf]
    rw [if_pos (by simp; omega), List.drop_zero, ← hl, List.take_left]
    rfl

/-- Rows are appended, and the slice is only read from then on. -/
theorem Sep.appzs {α : Type} {f : α → List V} {sz : Nat} (hf : ∀ a, (f a).length = sz) {s : V} {l : List α} {L : List Asn} {st : St} (h : Sep (Sl sz f s l :: L) st) {b : Nat} {m : List α} (hm : m ≠ []) (hb : (l.length + m.length) * b ≤ 140737488355328) {K : V → St → Prop}
    (hK : ∀ st', Sep L st' → K (.sl .some (rowsOf f (l ++ m)) (l.length + m.length)) st') : appzS sz b s (some (rowsOf f m, m.length)) st K := by
  have hm' : m.length ≠ 0 := by simpa using hm
  obtain ⟨a0, r, h1, h2, h3, h4⟩ := h
  have hl := rowsOf_length hf l
  rcases h3 with ⟨hs, rfl⟩ | ⟨sid, spare, rfl, h5, h6⟩
  · have := hK st (h4.sub (sub_trans (sub_right h1) h2))
    rcases hs with rfl | rfl
    · exact appz_nil _ _ (.inl rfl) hm' (by simpa using hb) (by simpa using this)
    · exact appz_nil _ _ (.inr rfl) hm' (by simpa using hb) (by simpa using this)
  · have hsid : st sid = some (.cells (rowsOf f l ++ spare)) := h2 _ _ (add_some h5)
    have hsep : Sep (pt sid (.cells (rowsOf f l ++ spare)) :: L) st := ⟨a0, r, h1, h2, h5, h4⟩
    refine appz_hsl _ _ hsid hb (by simp [hl]) ?_
    rw [show (rowsOf f l ++ spare).take (l.length * sz) = rowsOf f l by rw [← hl, List.take_left]]
    have := hK _ (hsep.set (.ro (rowsOf f l ++ List.replicate ((rowsOf f l ++ spare).length - l.length * sz) .junk))).drop
    simpa using this

def withoutM (a out : List UInt8) : List UInt8 := a.filter fun x => decide (x ∉ out)

/-- without -/
theorem spec26 (ok : OkLaw21 P F) (st : St) (k0 k1 : SK) (a out : List UInt8) (ha : a.length ≤ 1000000) (ho : out.length ≤ 1000000) : ACalls P (F 26) [.sl k0 (rowsOf e8 a) a.length, .sl k1 (rowsOf e8 out) out.length] st fun v st' => ∃ k, v = .sl k (rowsOf e8 (withoutM a out)) (withoutM a out).length := by
  refine shows_call ok.mixed ok.h26 (by simp [k26]) ?_
  simp [k26]
  refine vc_loopJ (fun k env' st' => ∃ i s, i ≤ a.length ∧ k = a.length - i ∧ env' 10 = .int .i64 (i : Nat) ∧ env' 5 = s ∧ Sep [Sl 1 e8 s (withoutM (a.take i) out)] st') a.length ⟨0, _, by omega, by omega, rfl, rfl, Sep.slNil (L := []) trivial⟩ ?_
  rintro J hJ k env' st3 hsame ⟨i, s, hi, rfl, h10, h5, S⟩
  have g1 : env' 1 = .sl k1 (rowsOf e8 out) out.length := hsame.get 1 rfl
  have g8 : env' 8 = .sl k0 (rowsOf e8 a) a.length := hsame.get 8 rfl
  have g9 : env' 9 = .int .i64 a.length := hsame.get 9 rfl
  clear hsame
  have w2 : IntKind.i64.wrap ((i : Int) + 1) = (i : Int) + 1 := wrap64 (by omega) (by omega)
  by_cases hlt : i < a.length
  · have hsg : segOf ((rowsOf e8 a).drop i) 0 1 = some [.int .u8 a[i].toNat] := by simpa [e8] using rowsOf_eptr e8_len a hlt
    have hsn : withoutM (a.take (i + 1)) out = withoutM (a.take i) out ++ if a[i] ∈ out then [] else [a[i]] := by
      rw [List.take_succ_eq_append_getElem hlt, withoutM, List.filter_append]
      by_cases h : a[i] ∈ out <;> simp [h, withoutM]
    simp [g1, g8, g9, h10, h5, hlt, hsg]
    have rd : Rd 1 e8 (.sl k1 (rowsOf e8 out) out.length) out st3 := .inl ⟨_, rfl⟩
    refine (spec22 ok rd ho a[i]).mono ?_
    rintro v st4 ⟨rfl, rfl⟩
    by_cases hx : a[i] ∈ out
    · rw [if_pos hx, List.append_nil] at hsn
      simp [hx, h10, w2]
      refine Round.mk (a.length - (i + 1)) _ (by omega) (sub_self _) (hJ _ _ _ ⟨i + 1, s, by omega, rfl, by simp, by simp [h5], ?_⟩)
      rw [hsn]; exact S
    · rw [if_neg hx] at hsn
      simp [hx, h10, h5, w2, fillV, repV, V.cells?, spliceV, elems]
      have hle : (withoutM (a.take i) out).length ≤ i := by
        refine Nat.le_trans (List.length_filter_le _ _) ?_
        simp; omega
      refine Sep.app1 e8_len (by omega) S (a := a[i]) rfl (by omega) ?_
      intro s' st5 S5
      simp [h10, w2]
      refine Round.mk (a.length - (i + 1)) _ (by omega) (sub_self _) (hJ _ _ _ ⟨i + 1, s', by omega, rfl, by simp, by simp, ?_⟩)
      rw [hsn]; exact S5
  · have : i = a.length := by omega
    subst this
    rw [List.take_length] at S
    obtain ⟨k, st5, hf, S5⟩ := S.frz e8_len
    simp [g1, g8, g9, h10, h5, frzP, hf]
    exact ⟨_, sub_self _⟩

structure One where
  id : Int
  s1 : Bool
  s2 : Bool
  h1 : Bool
  h2 : Bool
  k : SK
  bs : List UInt8
def eOne (o : One) : List V := [.int .i64 o.id, .bool o.s1, .bool o.s2, .bool o.h1, .bool o.h2, .sl o.k (rowsOf e8 o.bs) o.bs.length]
theorem eOne_len (o : One) : (eOne o).length = 6 := rfl

def oneOk (ones : List One) (names : List UInt8) : Prop := names.Nodup ∧ ∀ x ∈ names, ∀ o ∈ ones, x ∉ o.bs
open Classical in
noncomputable def mayM (ones : List One) (kind : Int) (names : List UInt8) (o : One) : Int × One :=
  if kind = 1 then (if o.s1 then (5, o) else (0, { o with s1 := true }))
  else if kind = 2 then (if o.s2 then (5, o) else if o.s1 && o.h1 then (0, { o with s2 := true }) else (7, o))
  else if (o.s1 && o.s2 && o.h1 && o.h2) = false then (7, o)
  else if kind ≠ 6 then (0, o)
  else if names = [] then (6, o)
  else if ¬ oneOk ones names then (5, o)
  else if o.bs.length + names.length > 16 then (3, o)
  else (0, { o with k := .some, bs := o.bs ++ names })

/-- may -/
theorem spec27 (ok : OkLaw21 P F) {st : St} {s : V} {ones : List One} {L : List Asn} (h : Sep (Sl 6 eOne s ones :: L) st) (o : One) (kind : Int) (kn : SK) (names : List UInt8) (hn : names.length ≤ 100000) (hb : ∀ o' ∈ ones, o'.bs.length ≤ 100000) (ho : o.bs.length ≤ 100000) (hon : ones.length ≤ 100000) :
    ACalls P (F 27) [s, .agg (eOne o), .int .i64 kind, .sl kn (rowsOf e8 names) names.length] st fun v st' => v = .tup [.agg (eOne (mayM ones kind names o).2), .int .i64 (mayM ones kind names o).1] ∧ Sep (Sl 6 eOne s ones :: L) st' := by
  refine shows_call ok.mixed ok.h27 (by simp [k27]) ?_
  simp [k27]
  intro xid hxid
  have S := h.new hxid (.cells (eOne o))
  generalize st.upd xid (.cells (eOne o)) = st1 at S ⊢
  intro yid hyid
  have S := S.new hyid (.cells [.int .i64 0, .bool false, .bool false, .bool false, .bool false, .sl .nil [] 0])
  generalize st1.upd yid _ = st2 at S ⊢
  have oy := S.get
  have S := S.swap
  have ox := S.get
  have ne := S.ne
  have Sd := S.drop.drop
  obtain ⟨id, s1, s2, h1, h2, k0, bs⟩ := o
  simp only [eOne] at ox
  have hk : ∀ {i : Nat} {c : AObj}, i = xid ∨ i = yid → Sep (Sl 6 eOne s ones :: L) (st2.upd i c) := by
    rintro i c (rfl | rfl)
    · exact (S.set c).drop.drop
    · exact (S.swap.set c).drop.drop
  have hk2 : ∀ {c c' : AObj}, Sep (Sl 6 eOne s ones :: L) ((st2.upd xid c).upd yid c') := fun {c c'} => ((S.set c).swap.set c').drop.drop
  simp
  by_cases k1 : kind = 1
  · cases s1 <;> simp [k1, St.seg, ox, segOf, storeS, oy, spliceV, ne, ne.symm, mayM, eOne]
    · exact ⟨_, sub_self _, hk2⟩
    · exact ⟨_, sub_self _, hk (.inr rfl)⟩
  · have k1' : (kind == 1) = false := by simp [k1]
    by_cases k2 : kind = 2
    · cases s1 <;> cases s2 <;> cases h1 <;> simp [k1, k2, St.seg, ox, segOf, storeS, oy, spliceV, ne, ne.symm, mayM, eOne] <;> first | exact ⟨_, sub_self _, hk2⟩ | exact ⟨_, sub_self _, hk (.inr rfl)⟩
    · have k2' : (kind == 2) = false := by simp [k2]
      by_cases hg : (s1 && s2 && h1 && h2) = false
      · cases s1 <;> cases s2 <;> cases h1 <;> cases h2 <;> first | (simp at hg; done) | (simp [k1, k2, k1', k2', St.seg, ox, segOf, storeS, oy, spliceV, ne, ne.symm, mayM, eOne]; exact ⟨_, sub_self _, hk (.inr rfl)⟩)
      · simp at hg
        obtain ⟨rfl, rfl, rfl, rfl⟩ := hg
        by_cases k6 : kind = 6
        · subst k6
          by_cases hnil : names = []
          · subst hnil
            simp [St.seg, ox, segOf, storeS, oy, spliceV, ne, ne.symm, mayM, eOne]
            exact ⟨_, sub_self _, hk (.inr rfl)⟩
          · have hl0 : ((names.length : Int) == 0) = false := by simp [hnil]
            have hl0' : names.length ≠ 0 := by simp [hnil]
            clear hk hk2 Sd
            have done : ∀ {st4 : St} {c z c' : AObj}, Sep (pt xid c :: pt yid z :: Sl 6 eOne s ones :: L) st4 → Sep (Sl 6 eOne s ones :: L) (st4.upd yid c') := fun S => (S.swap.set _).drop.drop
            have bad : ¬ oneOk ones names → mayM ones 6 names ⟨id, true, true, true, true, k0, bs⟩ = (5, ⟨id, true, true, true, true, k0, bs⟩) := fun hb => by simp [mayM, hnil, hb]
            simp [St.seg, ox, segOf, hl0, hl0']
            clear ox oy
            refine vc_loopJ (fun k env' st' => ∃ i, i ≤ names.length ∧ k = names.length - i ∧ env' 66 = .int .i64 (i : Nat) ∧ oneOk ones (names.take i) ∧ Sep (pt xid (.cells [.int .i64 id, .bool true, .bool true, .bool true, .bool true, .sl k0 (rowsOf e8 bs) bs.length]) :: pt yid (.cells [.int .i64 0, .bool false, .bool false, .bool false, .bool false, .sl .nil [] 0]) :: Sl 6 eOne s ones :: L) st') names.length
              ⟨0, by omega, by omega, rfl, by simp [oneOk], S⟩ ?_
            clear S
            rintro J hJ k env' st3 hsame ⟨i, hi, rfl, h66, hok, S⟩
            have g0 : env' 0 = s := hsame.get 0 rfl
            have g3 : env' 3 = .sl kn (rowsOf e8 names) names.length := hsame.get 3 rfl
            have g5 : env' 5 = .ptr (some (xid, 0)) := hsame.get 5 rfl
            have g8 : env' 8 = .ptr (some (yid, 0)) := hsame.get 8 rfl
            have g64 : env' 64 = .sl kn (rowsOf e8 names) names.length := hsame.get 64 rfl
            have g65 : env' 65 = .int .i64 names.length := hsame.get 65 rfl
            clear hsame
            have w2 : IntKind.i64.wrap ((i : Int) + 1) = (i : Int) + 1 := wrap64 (by omega) (by omega)
            by_cases hlt : i < names.length
            · have hsg : segOf ((rowsOf e8 names).drop i) 0 1 = some [.int .u8 names[i].toNat] := by simpa [e8] using rowsOf_eptr e8_len names hlt
              have hrl : (rowsOf e8 names).length = names.length := by simpa using rowsOf_length e8_len names
              have htk : (rowsOf e8 names).take i = rowsOf e8 (names.take i) := by simpa using rowsOf_take e8_len i names
              simp [g3, g64, g65, h66, hlt, hsg, slV, bounds, hrl, hi, htk]
              have rd : Rd 1 e8 (.sl (slK kn false) (rowsOf e8 (names.take i)) i) (names.take i) st3 := .inl ⟨slK kn false, by simp [hi]⟩
              refine (spec22 ok rd (by simp; omega) names[i]).mono ?_
              rintro v st4 ⟨rfl, rfl⟩
              have ox := S.get
              have oy := S.swap.get
              by_cases hx : names[i] ∈ names.take i
              · have hbad : ¬ oneOk ones names := fun h => by
                  have hn := h.1
                  rw [← List.take_append_drop i names, List.nodup_append] at hn
                  exact hn.2.2 _ hx _ (by rw [List.drop_eq_getElem_cons hlt]; exact List.mem_cons_self) rfl
                rw [bad hbad]
                simp [hx, g5, g8, St.seg, ox, segOf, storeS, oy, spliceV, eOne]
                exact ⟨_, sub_self _, done S⟩
              · have rdo : Rd 6 eOne s ones st4 := Sep.rd eOne_len S.drop.drop
                simp [hx, g0, rdo.len]
                clear rdo ox oy
                refine vc_loopJ (fun k env' st' => ∃ j, j ≤ ones.length ∧ k = ones.length - j ∧ env' 79 = .int .i64 (j : Nat) ∧ (∀ o ∈ ones.take j, names[i] ∉ o.bs) ∧ Sep (pt xid (.cells [.int .i64 id, .bool true, .bool true, .bool true, .bool true, .sl k0 (rowsOf e8 bs) bs.length]) :: pt yid (.cells [.int .i64 0, .bool false, .bool false, .bool false, .bool false, .sl .nil [] 0]) :: Sl 6 eOne s ones :: L) st') ones.length
                  ⟨0, by omega, by omega, rfl, by simp, S⟩ ?_
                clear S
                rintro J' hJ' k env2 st5 hsame ⟨j, hj, rfl, h79, hno, S⟩
                have q5 : env2 5 = .ptr (some (xid, 0)) := (hsame.get 5 rfl).trans g5
                have q8 : env2 8 = .ptr (some (yid, 0)) := (hsame.get 8 rfl).trans g8
                have q11 : env2 11 = .int .u8 names[i].toNat := hsame.get 11 rfl
                have q66 : env2 66 = .int .i64 (i : Nat) := (hsame.get 66 rfl).trans h66
                have q77 : env2 77 = s := hsame.get 77 rfl
                have q78 : env2 78 = .int .i64 ones.length := hsame.get 78 rfl
                clear hsame
                have w3 : IntKind.i64.wrap ((j : Int) + 1) = (j : Int) + 1 := wrap64 (by omega) (by omega)
                by_cases hlt2 : j < ones.length
                · have rdo : Rd 6 eOne s ones st5 := Sep.rd eOne_len S.drop.drop
                  obtain ⟨p, hp1, hp2⟩ := rdo.idx eOne_len hlt2 .i64
                  simp [q5, q8, q11, q77, q78, h79, hlt2, hp1, hp2]
                  intro zid hzid
                  have S6 := S.new hzid (.cells (eOne ones[j]))
                  have hst : ∀ zs : List V, zs.length = 6 → storeS (st5.upd zid (.cells zs)) 6 (.ptr (some (zid, 0))) (.agg (eOne ones[j])) = some (st5.upd zid (.cells (eOne ones[j]))) := fun zs hz => store_all hz rfl (eOne_len _)
                  simp [hst]
                  generalize st5.upd zid (.cells (eOne ones[j])) = st6 at S6 ⊢
                  have oz := S6.get
                  simp only [eOne] at oz
                  simp [St.seg, segOf, oz, q11]
                  have hm : ones[j] ∈ ones := List.getElem_mem hlt2
                  have rd2 : Rd 1 e8 (.sl ones[j].k (rowsOf e8 ones[j].bs) ones[j].bs.length) ones[j].bs st6 := .inl ⟨ones[j].k, rfl⟩
                  refine (spec22 ok rd2 (Nat.le_trans (hb _ hm) (by omega)) names[i]).mono ?_
                  rintro v st7 ⟨rfl, rfl⟩
                  have S7 := S6.drop
                  by_cases hx2 : names[i] ∈ ones[j].bs
                  · have hbad : ¬ oneOk ones names := fun h => h.2 _ (List.getElem_mem hlt) _ hm hx2
                    have ox := S7.get
                    have oy := S7.swap.get
                    rw [bad hbad]
                    simp [hx2, q5, q8, St.seg, ox, segOf, storeS, oy, spliceV, eOne]
                    exact ⟨_, sub_self _, done S7⟩
                  · simp [hx2, h79, w3]
                    refine Round.mk (ones.length - (j + 1)) _ (by omega) (sub_self _) (hJ' _ _ _ ⟨j + 1, by omega, rfl, by simp, ?_, S7⟩)
                    intro o ho
                    rw [List.take_succ_eq_append_getElem hlt2, List.mem_append, List.mem_singleton] at ho
                    rcases ho with ho | rfl
                    · exact hno o ho
                    · exact hx2
                · have : j = ones.length := by omega
                  subst this
                  rw [List.take_length] at hno
                  simp [q77, q78, h79, q66, w2]
                  refine Round.mk (names.length - (i + 1)) _ (by omega) (sub_self _) (hJ _ _ _ ⟨i + 1, by omega, rfl, by simp, ⟨nodup_takeB hlt hok.1 hx, ?_⟩, S⟩)
                  intro x hx' o ho
                  rw [List.take_succ_eq_append_getElem hlt, List.mem_append, List.mem_singleton] at hx'
                  rcases hx' with hx' | rfl
                  · exact hok.2 x hx' o ho
                  · exact hno o ho
            · have : i = names.length := by omega
              subst this
              rw [List.take_length] at hok
              have ox := S.get
              have oy := S.swap.get
              have ne := S.ne
              have wl : IntKind.i64.wrap ((bs.length : Int) + names.length) = ((bs.length + names.length : Nat) : Int) := by
                have : bs.length ≤ 100000 := ho
                rw [wrap64 (by omega) (by omega)]; simp
              by_cases h16 : bs.length + names.length > 16
              · have hm : mayM ones 6 names ⟨id, true, true, true, true, k0, bs⟩ = (3, ⟨id, true, true, true, true, k0, bs⟩) := by simp [mayM, hnil, hok, h16]
                have h16c : (16 : Int) < ((bs.length : Int) + names.length) := by omega
                rw [hm]
                simp [g3, g5, g8, g64, g65, h66, St.seg, ox, segOf, storeS, oy, spliceV, eOne, wl, h16c]
                exact ⟨_, sub_self _, done S⟩
              · have hm : mayM ones 6 names ⟨id, true, true, true, true, k0, bs⟩ = (0, ⟨id, true, true, true, true, .some, bs ++ names⟩) := by simp [mayM, hnil, hok, h16]
                have h16c : ¬ (16 : Int) < ((bs.length : Int) + names.length) := by omega
                rw [hm]
                have hrb : (rowsOf e8 bs).length = bs.length := by simpa using rowsOf_length e8_len bs
                have hrn : (rowsOf e8 names).length = names.length := by simpa using rowsOf_length e8_len names
                simp [g3, g5, g8, g64, g65, h66, St.seg, ox, segOf, storeS, oy, spliceV, eOne, wl, h16c, fillV, repV, elems, hrb]
                refine Sep.appx e8_len (by omega) (Sep.slxFull S) (by simp; omega) ?_
                intro s' st4 S4
                simp [g3, elems, hrn]
                refine Sep.appzs e8_len (S4.head fun h hh => hh.sl) hnil (by simp; omega) ?_
                intro st5 S5
                have ox := S5.get
                have oy := S5.swap.get
                simp [g5, g8, St.seg, ox, segOf, storeS, oy, spliceV, V.cells?, ne, ne.symm]
                exact ⟨_, sub_self _, ((S5.set _).swap.set _).drop.drop⟩
        · have k6' : (kind != 6) = true := by simp [k6]
          simp [k1, k2, k1', k2', k6, k6', St.seg, ox, segOf, storeS, oy, spliceV, ne, ne.symm, mayM, eOne]
          exact ⟨_, sub_self _, hk (.inr rfl)⟩
end
end Go.Ab
