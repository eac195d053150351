import Derived.Test.YtjcpdljfkhbbkaaGreatX9
import Derived.Test.YtjcpdljfkhbbkaaGreatX8
set_option linter.unusedSimpArgs false
set_option linter.unusedVariables false
set_option maxRecDepth 10000
namespace Go.Ab
open Go Go.RowKit
structure W18 (l : List Nd) : Prop where
  wf : Wf l
  len : l.length ≤ 16384
  ok : ∀ x ∈ l, x.failed = false
theorem addM_sound {r : Rl} {l : List Nd} (h : W18 l) (hd : Hdr) (now : Int) : W18 (addM r l hd now).1 ∧ (addM r l hd now).1.length ≤ l.length + 1 := by
  have hw := addM_wf (r := r) h.wf h.len hd now
  refine ⟨⟨hw.1, hw.2, ?_⟩, ?_⟩
  · unfold addM
    split
    · exact h.ok
    · split
      · exact h.ok
      · split
        · exact h.ok
        · split
          · exact h.ok
          · intro x hx
            rcases List.mem_append.1 hx with hx | hx
            · exact h.ok x hx
            · rw [List.mem_singleton.1 hx]; rfl
  · unfold addM
    split
    · exact Nat.le_succ _
    · split
      · exact Nat.le_succ _
      · split
        · exact Nat.le_succ _
        · split
          · exact Nat.le_succ _
          · simp
theorem w18Go_sound : ∀ (ps : List Int) (i : Nat) (l : List Nd) (bl : List Blk1), W18 l → W18 (w18Go i ps (l, bl)).1 ∧ (w18Go i ps (l, bl)).1.length ≤ l.length + ps.length
  | [], i, l, bl, h => ⟨h, Nat.le_refl _⟩
  | p :: ps, i, l, bl, h => by
    rw [w18Go]
    obtain ⟨s, hs⟩ : ∃ s, s = w18Step (l, bl) i p := ⟨_, rfl⟩
    rw [← hs]
    have h1 : W18 s.1 ∧ s.1.length ≤ l.length + 1 := by
      rw [hs]
      exact addM_sound h _ _
    obtain ⟨h2, h3⟩ := w18Go_sound ps (i + 1) s.1 s.2 h1.1
    refine ⟨h2, ?_⟩
    rw [List.length_cons]
    have := h1.2
    have e : (w18Go (i + 1) ps (s.1, s.2)) = w18Go (i + 1) ps s := rfl
    rw [e] at h3
    omega
theorem w18M_sound (ps : List Int) : W18 (w18M ps).1 ∧ (w18M ps).1.length ≤ 1 + ps.length := by
  refine w18Go_sound ps 0 _ _ ⟨newM_wf w18R, by simp [newM], fun x hx => ?_⟩
  rw [newM, List.mem_singleton] at hx
  rw [hx]
section
variable {l : List Nd}
theorem hgt_zero (w : Wf l) : hgt l 0 = 0 := by
  have h := w.zero (l[0]'w.ne) (List.getElem?_eq_getElem w.ne)
  rw [hgt_at w.ne]
  exact h.2
theorem wantGo_eq {c : Ch} {es : Fls} {top left : Int} : ∀ (r out : List Int), (∀ i ∈ r, ((nd c.l (inI c.l i)).height : Int) ≤ top) →
    wantGo c es top left out r = out ++ (r.filter fun i => !(lk i es).isSome && !hasM c i).take (left - out.length).toNat
  | [], out, _ => by simp [wantGo]
  | i :: r, out, h => by
    rw [wantGo]
    have hi := h i (by simp)
    have hr : ∀ j ∈ r, ((nd c.l (inI c.l j)).height : Int) ≤ top := fun j hj => h j (by simp [hj])
    by_cases hf : left ≤ (out.length : Int)
    · rw [if_pos (.inl hf), show (left - out.length).toNat = 0 by omega, List.take_zero, List.append_nil]
    · rw [if_neg (by omega), List.filter_cons]
      by_cases hc : (lk i es).isSome = false ∧ hasM c i = false
      · rw [if_pos hc, if_pos (by simp [hc.1, hc.2]), wantGo_eq r _ hr, show (left - out.length).toNat = (left - (out ++ [i]).length).toNat + 1 by simp; omega, List.take_succ_cons]
        simp
      · rw [if_neg hc, if_neg (by
          intro h
          rw [Bool.and_eq_true, Bool.not_eq_true', Bool.not_eq_true'] at h
          exact hc h), wantGo_eq r _ hr]
end
section
variable {W : List Int}
end
end Go.Ab
set_option linter.unusedSimpArgs false
set_option linter.unusedVariables false
set_option maxRecDepth 10000
namespace Go.Ab
open Go Go.RowKit
def kindOf {α : Type} (l : List α) : SK := if l = [] then .nil else .some
def cloneI (x : In1) : In1 := ⟨x.tx, x.ix, if x.key.length = 0 then .full else .some, x.key⟩
def cloneT (t : Tx1) : Tx1 := ⟨kindOf (t.ins.map cloneI), t.ins.map cloneI, kindOf t.outs, t.outs⟩
def cloneB (b : Blk1) : Blk1 := ⟨b.hdr, kindOf (b.txs.map cloneT), b.txs.map cloneT⟩
theorem frzH_plain {st : St} {v : V} (h : ∀ id off sz n, v ≠ .hsl id off sz n) : frzH st v = some (v, st) := by
  cases v <;> first | rfl | exact absurd rfl (h _ _ _ _)
theorem frzL_app {st : St} : ∀ (vs ws : List V), (∀ v ∈ vs, ∀ id off sz n, v ≠ .hsl id off sz n) → frzL st (vs ++ ws) = (frzL st ws).map fun q => (vs ++ q.1, q.2)
  | [], ws, _ => by cases h : frzL st ws <;> simp [h]
  | v :: vs, ws, h => by
    rw [List.cons_append, frzL, frzH_plain (h v (by simp)), Option.bind_some, frzL_app vs ws fun x hx => h x (by simp [hx])]
    cases frzL st ws <;> rfl
theorem eHdr_plain (h : Hdr) : ∀ v ∈ eHdr h, ∀ id off sz n, v ≠ .hsl id off sz n := by
  intro v hv id off sz n e
  subst e
  simp [eHdr, eId, w32] at hv
theorem Sep.frzHx {α : Type} {f : α → List V} {sz : Nat} (hf : ∀ a, (f a).length = sz) {s : V} {l : List α} {L : List Asn} {st : St} (h : Sep (Slx sz f s l :: L) st) (hnil : l = [] → s = .sl .nil [] 0) :
    ∃ st', frzH st s = some (.sl (kindOf l) (rowsOf f l) l.length, st') ∧ Sep L st' := by
  by_cases hl : l = []
  · subst hl
    rw [hnil rfl]
    exact ⟨st, rfl, h.drop⟩
  · obtain ⟨k, st', h1, h2, h3⟩ := Sep.frzSl hf (h.head fun h hh => hh.sl)
    have hk := h3 hl
    subst hk
    obtain ⟨a0, r, q1, q2, q3, q4⟩ := h
    rcases q3 with ⟨-, q3⟩ | ⟨sid, rfl, -⟩
    · exact absurd q3 hl
    · refine ⟨st', ?_, h2⟩
      rw [kindOf, if_neg hl]
      exact h1
theorem Sep.slxCells {α : Type} {f : α → List V} {sz : Nat} {s : V} {l : List α} {L : List Asn} {st : St} (h : Sep (Slx sz f s l :: L) st) : s.cells? = some [s] := by
  obtain ⟨a0, r, h1, h2, h3, h4⟩ := h
  rcases h3 with ⟨rfl | rfl, -⟩ | ⟨sid, rfl, -⟩ <;> rfl
theorem Sep.appx0 {α : Type} {f : α → List V} {sz : Nat} (hf : ∀ a, (f a).length = sz) (hsz : 0 < sz) {L : List Asn} {st : St} (h : Sep L st) {b : Nat} (m : List α) {ys : List V} {n : Nat} (hys : ys = rowsOf f m) (hn : n = m.length) (hb : n * b ≤ 140737488355328) {K : V → St → Prop}
    (hK : ∀ s' st', (m = [] → s' = .sl .nil [] 0) → Sep (Slx sz f s' m :: L) st' → K s' st') : appS sz b (.sl .nil [] 0) (some (ys, n)) st K := by
  subst hys hn
  by_cases hm : m = []
  · subst hm
    exact ⟨.inl rfl, by simp, by simp, fun _ => hK _ _ (fun _ => rfl) h.slxNil, fun e => absurd rfl e⟩
  · refine Sep.appx hf hsz (l := []) h.slxNil (m := m) (by simpa using hb) fun s' st' S => hK _ _ (fun e => absurd e hm) ?_
    simpa using S
theorem appn_full {sz b : Nat} {ys : List V} {m : Nat} {K : V → Prop} (h0 : m = 0 → ys = []) (hb : m * b ≤ 140737488355328) (h : K (.sl (if m = 0 then .full else .some) ys m)) : appnS sz b (.sl .full [] 0) (some (ys, m)) K := by
  refine ⟨.inr rfl, by simp, by simpa using hb, fun e => ?_, fun e => ?_⟩
  · rw [if_pos e, h0 e, e] at h
    exact h
  · rw [if_neg e] at h
    simpa using h
section
variable {P : Program} {F : Fn}
set_option maxHeartbeats 8000000 in
theorem spec271 (ok : OkChain P F) (st : St) (b : Blk1) (hl : b.txs.length ≤ 1000) (hk : ∀ t ∈ b.txs, t.ok 100) :
    ACalls P (F 271) [.agg (eBlk b)] st fun v st' => v = vBlk (cloneB b) ∧ st' = st := by
  refine shows_call ok.mixed ok.h271 (by simp [k271]) ?_
  simp only [k271]
  have hsT := bsegT b
  have hsH := bsegH b
  have z69 : fillV z69_adc1 [(0, 68, .agg (eHdr b.hdr))] = some (eHdr b.hdr ++ [.sl .nil [] 0]) := by
    have z : z69_adc1 = eHdr hdr0 ++ [.sl .nil [] 0] := rfl
    simp [fillV, z, spliceV, eHdr_len]
  simp
  intro i1 h1
  have S := (Sep.start st).new h1 (.cells (eBlk b))
  generalize st.upd i1 _ = st1 at S ⊢
  simp
  intro i2 h2
  have S := S.new h2 (.cells z69_adc1)
  generalize st1.upd i2 _ = st2 at S ⊢
  have o1 := S.drop.get
  simp [St.seg, o1, hsH, z69]
  intro i3 h3
  have S := S.new h3 (.cells z69_adc1)
  have hst := store_pt (sz := 69) (o := 0) S.get (v := .agg (eHdr b.hdr ++ [.sl .nil [] 0])) (vs := eHdr b.hdr ++ [.sl .nil [] 0]) rfl (by simp [eHdr_len]) (by decide)
  have hsp : spliceV z69_adc1 0 (eHdr b.hdr ++ [.sl .nil [] 0]) = eHdr b.hdr ++ [.sl .nil [] 0] := by
    have z : z69_adc1.length = 69 := rfl
    simp [spliceV, eHdr_len, z]
  rw [hsp] at hst
  have S := S.set (.cells (eHdr b.hdr ++ [.sl .nil [] 0]))
  simp [hst] at S ⊢
  generalize st2.upd i3 _ = st3 at S ⊢
  have o1 := S.drop.drop.get
  have hln : lenSlV (txsV b.tk b.txs) = some (.int .i64 (b.txs.length : Nat)) := rfl
  simp [St.seg, o1, hsT, hln]
  have sT : ∀ v : V, segOf (eHdr b.hdr ++ [v]) 68 1 = some [v] := fun v => seg_of_drop (zs := []) (by rw [List.drop_left' (eHdr_len _)]; rfl) rfl (by omega)
  have sAll : ∀ v : V, segOf (eHdr b.hdr ++ [v]) 0 69 = some (eHdr b.hdr ++ [v]) := fun v => seg_of_take (by rw [List.drop_zero, List.take_of_length_le (by simp [eHdr_len])]) (by simp [eHdr_len])
  have spT : ∀ v u : V, spliceV (eHdr b.hdr ++ [v]) 68 [u] = eHdr b.hdr ++ [u] := fun v u => by
    have : (eHdr b.hdr).take 68 = eHdr b.hdr := List.take_of_length_le (by rw [eHdr_len]; exact Nat.le_refl _)
    simp [spliceV, eHdr_len, List.take_append_of_le_length, this]
  have s2a : ∀ v u : V, segOf [v, u] 0 1 = some [v] := fun _ _ => rfl
  have s2b : ∀ v u : V, segOf [v, u] 1 1 = some [u] := fun _ _ => rfl
  refine vc_joinB (M := fun env' st' => ∃ tv, (b.txs = [] → tv = .sl .nil [] 0) ∧ Sep [Slx 2 eTx tv (b.txs.map cloneT), pt i3 (.cells (eHdr b.hdr ++ [tv])), pt i2 (.cells z69_adc1), pt i1 (.cells (eBlk b)), Was st] st') ?_ ?_
  · refine vc_loopJ (fun n env' st' => ∃ (i : Nat) (tv : V), i ≤ b.txs.length ∧ n = b.txs.length - i ∧ env' 15 = .int .i64 (i : Nat) ∧ (i = 0 → tv = .sl .nil [] 0) ∧ Sep [Slx 2 eTx tv ((b.txs.map cloneT).take i), pt i3 (.cells (eHdr b.hdr ++ [tv])), pt i2 (.cells z69_adc1), pt i1 (.cells (eBlk b)), Was st] st') b.txs.length
      ⟨0, .sl .nil [] 0, by omega, by omega, by simp, fun _ => rfl, by
        have S : Sep [Slx 2 eTx (.sl .nil [] 0) [], pt i3 (.cells (eHdr b.hdr ++ [.sl .nil [] 0])), pt i2 (.cells z69_adc1), pt i1 (.cells (eBlk b)), Was st] st3 := Sep.slxNil S
        simpa using S⟩ ?_
    clear S o1 hst
    rintro J hJ n env1 st4 hsame ⟨i, tv, hi, rfl, h15, htv, S⟩
    have g1 := (hsame.get 1 rfl).trans (by simp : _ = V.ptr (some (i1, 0)))
    have g3 := (hsame.get 3 rfl).trans (by simp : _ = V.ptr (some (i3, 0)))
    have g13 := (hsame.get 13 rfl).trans (by simp : _ = txsV b.tk b.txs)
    have g14 := (hsame.get 14 rfl).trans (by simp : _ = V.int .i64 (b.txs.length : Int))
    clear hsame
    by_cases hlt : i < b.txs.length
    · have w1 : IntKind.i64.wrap ((i : Int) + 1) = (i : Int) + 1 := wrap64 (by omega) (by omega)
      obtain ⟨r1, r2, r3, r4⟩ := (rd_txs b st4).row eTx_len hlt
      obtain ⟨t, ht⟩ : ∃ t, t = b.txs[i] := ⟨_, rfl⟩
      rw [← ht] at r3
      have htk : (b.txs.map cloneT).take (i + 1) = (b.txs.map cloneT).take i ++ [cloneT t] := by
        rw [List.take_succ_eq_append_getElem (by rw [List.length_map]; exact hlt), List.getElem_map, ← ht]
      have hto := hk t (ht ▸ List.getElem_mem hlt)
      simp [g13, g14, h15, hlt, r1, r3]
      intro i5 h5
      have S := S.new h5 (.cells [.sl .nil [] 0, .sl .nil [] 0])
      have hst := store_pt (sz := 2) (o := 0) S.get (v := .agg (eTx t)) (vs := eTx t) rfl rfl (by simp)
      rw [show spliceV [V.sl .nil [] 0, V.sl .nil [] 0] 0 (eTx t) = eTx t from rfl] at hst
      have S := S.set (.cells (eTx t))
      simp [hst] at S ⊢
      generalize st4.upd i5 _ = st5 at S ⊢
      intro i6 h6
      have S := S.new h6 (.cells [.sl .nil [] 0, .sl .nil [] 0])
      generalize st5.upd i6 _ = st6 at S ⊢
      have o5 := S.drop.get
      have hli : lenSlV (insV t) = some (.int .i64 (t.ins.length : Nat)) := rfl
      simp [St.seg, o5, tsegIns, hli]
      refine vc_joinB (M := fun env' st' => ∃ iv, (t.ins = [] → iv = .sl .nil [] 0) ∧ Sep [Slx 34 eIn iv (t.ins.map cloneI), pt i6 (.cells [iv, .sl .nil [] 0]), pt i5 (.cells (eTx t)), Slx 2 eTx tv ((b.txs.map cloneT).take i), pt i3 (.cells (eHdr b.hdr ++ [tv])), pt i2 (.cells z69_adc1), pt i1 (.cells (eBlk b)), Was st] st') ?_ ?_
      · refine vc_loopJ (fun n env' st' => ∃ (k : Nat) (iv : V), k ≤ t.ins.length ∧ n = t.ins.length - k ∧ env' 22 = .int .i64 (k : Nat) ∧ (k = 0 → iv = .sl .nil [] 0) ∧ Sep [Slx 34 eIn iv ((t.ins.map cloneI).take k), pt i6 (.cells [iv, .sl .nil [] 0]), pt i5 (.cells (eTx t)), Slx 2 eTx tv ((b.txs.map cloneT).take i), pt i3 (.cells (eHdr b.hdr ++ [tv])), pt i2 (.cells z69_adc1), pt i1 (.cells (eBlk b)), Was st] st') t.ins.length
          ⟨0, .sl .nil [] 0, by omega, by omega, by simp, fun _ => rfl, by
            have S : Sep [Slx 34 eIn (.sl .nil [] 0) [], pt i6 (.cells [.sl .nil [] 0, .sl .nil [] 0]), pt i5 (.cells (eTx t)), Slx 2 eTx tv ((b.txs.map cloneT).take i), pt i3 (.cells (eHdr b.hdr ++ [tv])), pt i2 (.cells z69_adc1), pt i1 (.cells (eBlk b)), Was st] st6 := Sep.slxNil S
            simpa using S⟩ ?_
        clear S o5 hst
        rintro J2 hJ2 n env2 st7 hsame ⟨k, iv, hkl, rfl, h22, hiv, S⟩
        have g6 := (hsame.get 6 rfl).trans (by simp : _ = V.ptr (some (i6, 0)))
        have g20 := (hsame.get 20 rfl).trans (by simp : _ = insV t)
        have g21 := (hsame.get 21 rfl).trans (by simp : _ = V.int .i64 (t.ins.length : Int))
        clear hsame
        by_cases hkt : k < t.ins.length
        · have w2 : IntKind.i64.wrap ((k : Int) + 1) = (k : Int) + 1 := wrap64 (by omega) (by have := hto.1; omega)
          obtain ⟨q1, q2, q3, q4⟩ := (rd_ins t st7).row eIn_len hkt
          obtain ⟨x, hx⟩ : ∃ x, x = t.ins[k] := ⟨_, rfl⟩
          rw [← hx] at q3
          have hxk := hto.2.2 x (hx ▸ List.getElem_mem hkt)
          have htk2 : (t.ins.map cloneI).take (k + 1) = (t.ins.map cloneI).take k ++ [cloneI x] := by
            rw [List.take_succ_eq_append_getElem (by rw [List.length_map]; exact hkt), List.getElem_map, ← hx]
          simp [g20, g21, h22, hkt, q1, q3]
          intro i8 h8
          have S := S.new h8 (.cells z34_1838)
          have hst := store_pt (sz := 34) (o := 0) S.get (v := .agg (eIn x)) (vs := eIn x) rfl (eIn_len _) (by decide)
          rw [show spliceV z34_1838 0 (eIn x) = eIn x by simp [spliceV, eIn_len]] at hst
          have S := S.set (.cells (eIn x))
          simp [hst] at S ⊢
          generalize st7.upd i8 _ = st8 at S ⊢
          have o8 := S.get
          have o6 := S.drop.drop.get
          have hfe : fillV (repV [w8 0] 0) [] = some [] := rfl
          have hke : elems st8 1 (keyV x.kk x.key) = some (rowsOf e8 x.key, x.key.length) := Rd.elems e8_len (.inl ⟨x.kk, rfl⟩)
          have hfI : ∀ kd : SK, fillV z34_1838 [(0, 33, .agg (ePt x.pt)), (33, 1, .sl kd (rowsOf e8 x.key) x.key.length)] = some (eIn ⟨x.tx, x.ix, kd, x.key⟩) := fun kd => by
            have z : z34_1838 = ePt (id0, 0#32) ++ [.sl .nil [] 0] := rfl
            simp [fillV, z, spliceV, ePt_len, eIn, keyV]
            simp [ePt, In1.pt, eId_len]
          have hfr : fillV (repV z34_1838 1) [(0, 34, .agg (eIn (cloneI x)))] = some (eIn (cloneI x)) := by
            rw [show repV z34_1838 1 = z34_1838 from rfl]
            have z : z34_1838.length = 34 := rfl
            simp [fillV, spliceV, eIn_len, z]
          have hel : ∀ s : St, elems s 34 (.sl .full (eIn (cloneI x)) 1) = some (rowsOf eIn [cloneI x], 1) := fun s => by simp [elems, eIn_len, rowsOf]
          simp [g6, hfe, St.seg, o8, o6, insegPt, insegKey, s2a, hke]
          refine appn_full (ys := rowsOf e8 x.key) (m := x.key.length) (b := 1) (fun e => by rw [List.length_eq_zero_iff.1 e]; rfl) (by omega) ?_
          rw [show (if x.key.length = 0 then SK.full else SK.some) = (cloneI x).kk from rfl]
          simp [hfI]
          rw [show (⟨x.tx, x.ix, (cloneI x).kk, x.key⟩ : In1) = cloneI x from rfl]
          simp [hfr, hel]
          refine Sep.appx' (b := 64) eIn_len (by omega) S.drop [cloneI x] (by simp [rowsOf]) rfl (by simp only [List.length_singleton, List.length_map, List.length_take]; have := hto.1; omega) ?_
          intro s' st9 S
          rw [← htk2] at S
          have o6 := S.drop.get
          have hst := store_pt (sz := 1) (o := 0) o6 (v := s') (vs := [s']) S.slxCells rfl (by simp)
          rw [show spliceV [iv, V.sl .nil [] 0] 0 [s'] = [s', .sl .nil [] 0] from rfl] at hst
          have S := S.setAt (.cells [s', .sl .nil [] 0]) 1 rfl
          simp only [List.set_cons_succ, List.set_cons_zero] at S
          simp [g6, hst, h22, w2]
          exact Round.mk (t.ins.length - (k + 1)) _ (by omega) (sub_self _) (hJ2 _ _ _ ⟨k + 1, s', by omega, rfl, by simp, (fun e => by omega), S⟩)
        · have : k = t.ins.length := by omega
          subst this
          rw [List.take_of_length_le (by rw [List.length_map]; exact Nat.le_refl _)] at S
          simp [g21, h22]
          exact ⟨iv, (fun e => hiv (by rw [e]; rfl)), S⟩
      clear S o5 hst
      rintro env2 st7 hsame ⟨iv, hiv, S⟩
      have g3 := (hsame.get 3 rfl).trans (by simp [g3] : _ = V.ptr (some (i3, 0)))
      have g5 := (hsame.get 5 rfl).trans (by simp : _ = V.ptr (some (i5, 0)))
      have g6 := (hsame.get 6 rfl).trans (by simp : _ = V.ptr (some (i6, 0)))
      have g15 := (hsame.get 15 rfl).trans (by simp [h15] : _ = V.int .i64 (i : Int))
      clear hsame
      have o5 := S.drop.drop.get
      have o6 := S.drop.get
      have heo : elems st7 33 (outsV t) = some (rowsOf eOut t.outs, t.outs.length) := (rd_outs t st7).elems eOut_len
      simp [g5, g6, St.seg, o5, o6, s2b, tsegOuts, heo]
      refine Sep.appx0 (b := 40) eOut_len (by omega) S t.outs rfl rfl (by have := hto.2.1; omega) ?_
      clear S o5 o6
      intro ov st8 hov S
      have o6 := S.drop.drop.get
      have hst := store_pt (sz := 1) (o := 1) o6 (v := ov) (vs := [ov]) S.slxCells rfl (by simp)
      rw [show spliceV [iv, V.sl .nil [] 0] 1 [ov] = [iv, ov] from rfl] at hst
      have S := S.setAt (.cells [iv, ov]) 2 rfl
      simp only [List.set_cons_succ, List.set_cons_zero] at S
      simp [g6, hst]
      clear hst o6
      generalize st8.upd i6 _ = st9 at S ⊢
      have o6 := S.drop.drop.get
      have S := S.setAt (.ro [iv, ov]) 2 rfl
      simp only [List.set_cons_succ, List.set_cons_zero] at S
      have S : Sep [Slx 34 eIn iv (t.ins.map cloneI), Slx 33 eOut ov t.outs, pt i5 (.cells (eTx t)), Slx 2 eTx tv ((b.txs.map cloneT).take i), pt i3 (.cells (eHdr b.hdr ++ [tv])), pt i2 (.cells z69_adc1), pt i1 (.cells (eBlk b)), Was st] (st9.upd i6 (.ro [iv, ov])) := S.swap.tail fun r h => h.tail fun r h => h.drop
      obtain ⟨sa, ha, S⟩ := Sep.frzHx eIn_len S (fun e => hiv (by simpa using e))
      obtain ⟨sb, hb, S⟩ := Sep.frzHx eOut_len S hov
      have hfL : frzL (st9.upd i6 (.ro [iv, ov])) [iv, ov] = some (eTx (cloneT t), sb) := by
        simp only [frzL, ha, hb, Option.bind_some, Option.map_some]
        rfl
      have S := S.drop
      have o3 := S.drop.get
      have hfr : fillV (repV [V.sl .nil [] 0, V.sl .nil [] 0] 1) [(0, 2, .agg (eTx (cloneT t)))] = some (eTx (cloneT t)) := rfl
      have hel : ∀ s : St, elems s 2 (.sl .full (eTx (cloneT t)) 1) = some (rowsOf eTx [cloneT t], 1) := fun s => by simp [elems, eTx_len, rowsOf]
      have hle : ldE 2 (.eptr (eTx (cloneT t))) = some (eTx (cloneT t)) := rfl
      simp [frzP, frzV, frzOb, o6, g6, hfL, g3, St.seg, o3, sT, hle, hfr, hel]
      refine Sep.appx' (b := 48) eTx_len (by omega) S [cloneT t] (by simp [rowsOf]) rfl (by simp only [List.length_singleton, List.length_map, List.length_take]; omega) ?_
      intro s' st10 S
      rw [← htk] at S
      have o3 := S.drop.get
      have hst := store_pt (sz := 1) (o := 68) o3 (v := s') (vs := [s']) S.slxCells rfl (by simp [eHdr_len])
      rw [spT] at hst
      have S := S.setAt (.cells (eHdr b.hdr ++ [s'])) 1 rfl
      simp only [List.set_cons_succ, List.set_cons_zero] at S
      simp [g3, hst, g15, w1]
      exact Round.mk (b.txs.length - (i + 1)) _ (by omega) (sub_self _) (hJ _ _ _ ⟨i + 1, s', by omega, rfl, by simp, (fun e => by omega), S⟩)
    · have : i = b.txs.length := by omega
      subst this
      rw [List.take_of_length_le (by rw [List.length_map]; exact Nat.le_refl _)] at S
      simp [g14, h15]
      exact ⟨tv, (fun e => htv (by rw [e]; rfl)), S⟩
  clear S o1 hst
  rintro env1 st4 hsame ⟨tv, htv, S⟩
  have g2 := (hsame.get 2 rfl).trans (by simp : _ = V.ptr (some (i2, 0)))
  have g3 := (hsame.get 3 rfl).trans (by simp : _ = V.ptr (some (i3, 0)))
  clear hsame
  have o3 := S.drop.get
  have S := S.setAt (.ro (eHdr b.hdr ++ [tv])) 1 rfl
  simp only [List.set_cons_succ, List.set_cons_zero] at S
  have S : Sep [Slx 2 eTx tv (b.txs.map cloneT), pt i2 (.cells z69_adc1), pt i1 (.cells (eBlk b)), Was st] (st4.upd i3 (.ro (eHdr b.hdr ++ [tv]))) := S.tail fun r h => h.drop
  obtain ⟨sa, ha, S⟩ := Sep.frzHx eTx_len S (fun e => htv (by simpa using e))
  have hfL : frzL (st4.upd i3 (.ro (eHdr b.hdr ++ [tv]))) (eHdr b.hdr ++ [tv]) = some (eBlk (cloneB b), sa) := by
    rw [frzL_app _ _ (eHdr_plain b.hdr)]
    simp only [frzL, ha, Option.bind_some, Option.map_some]
    rfl
  have hle : ldE 69 (.eptr (eBlk (cloneB b))) = some (eBlk (cloneB b)) := by simp [ldE, bsegAll]
  have hst := store_pt (sz := 69) (o := 0) S.get (v := .agg (eBlk (cloneB b))) (vs := eBlk (cloneB b)) rfl (eBlk_len _) (by decide)
  have hsp : spliceV z69_adc1 0 (eBlk (cloneB b)) = eBlk (cloneB b) := by
    have z : z69_adc1.length = 69 := rfl
    simp [spliceV, eBlk_len, z]
  rw [hsp] at hst
  have S := S.set (.cells (eBlk (cloneB b)))
  simp [frzP, frzV, frzOb, o3, g3, hfL, hle, g2, hst]
  have o2 := S.get
  simp [St.seg, bsegAll, vBlk]
  exact S.was' (st0 := st) (by simp)
end
end Go.Ab
set_option linter.unusedSimpArgs false
set_option linter.unusedVariables false
namespace Go.Ab
open Go Go.RowKit
theorem condB_cut {P : Program} {v : V} {a b rest : PC} {Q : Ex → Env → St → Prop} {env : Env} {st : St} (M : Env → St → Prop)
    (h : condB P v a b (fun e env' st' => match e with | .normal => M env' st' | e => Q e env' st') env st) (k : ∀ env' st', M env' st' → vc P rest Q env' st') : condB P v a b (seqK P rest Q) env st := by
  unfold condB at h ⊢
  cases v <;> simp only at h ⊢
  case bool t =>
    have key : ∀ c, vc P c (fun e env' st' => match e with | .normal => M env' st' | e => Q e env' st') env st → vc P c (seqK P rest Q) env st := fun c h =>
      vc_frame c _ _ env st (fun e env' st' _ h => by cases e <;> first | exact k _ _ h | exact h) h
    cases t
    · simp only [Bool.false_eq_true, if_false] at h ⊢
      exact key _ h
    · simp only [if_true] at h ⊢
      exact key _ h
end Go.Ab
set_option linter.unusedSimpArgs false
set_option linter.unusedVariables false
set_option maxRecDepth 10000
namespace Go.Ab
open Go Go.RowKit
def takeL (id : Id) : Nat → List Out1 → CM → CM
  | _, [], cm => cm
  | j, _ :: l, cm => takeL id (j + 1) l (aDel (id, BitVec.ofNat 32 j) cm)
def takeM (t : Tx1) (cm : CM) : CM := takeL (txIdM t) 0 t.outs cm
section
variable {P : Program} {F : Fn}
set_option maxHeartbeats 4000000 in
theorem spec261 (ok : OkCoins P F) {st : St} {o off : Nat} {f : V → List V} (hf : Hole f off) {cm : CM} {L : List Asn} (h0 : SetS o f cm L st) (t : Tx1) (ht : t.ok 100) :
    ACalls P (F 261) [.ptr (some (o, off)), .agg (eTx t)] st fun v st' => SetS o f (takeM t cm) L st' := by
  have okt := ok.toOkCheck2.toOkCheck.toOkTx
  refine shows_call ok.mixed ok.h261 (by simp [k261]) ?_
  simp only [k261]
  have hsg := hf.seg
  simp
  intro i3 h3
  have W := h0.new h3 (.cells (eTx t))
  generalize st.upd i3 _ = st1 at W ⊢
  have o3 := W.ext (i := i3) (x := .cells (eTx t)) (by simp)
  simp [St.seg, o3, tsegAll]
  refine (spec198 okt st1 t ht).mono ?_
  rintro v st2 ⟨rfl, rfl⟩
  simp
  intro i4 h4
  have W := W.new h4 (.cells zR32_w80)
  have o4 := W.ext (i := i4) (x := .cells zR32_w80) (by simp)
  have hst := store_z32 o4 (txIdM t)
  have W := W.setL (.cells (eId (txIdM t)))
  simp [hst] at W ⊢
  generalize st2.upd i4 (.cells (eId (txIdM t))) = st5 at W ⊢
  have o3 := W.ext (i := i3) (x := .cells (eTx t)) (by simp)
  have so := tsegOuts t
  have lo := outsV_len t
  simp [St.seg, o3, so, lo]
  · refine vc_loopJ (fun c env' st' => ∃ (i : Nat) (cm' : CM), i ≤ t.outs.length ∧ c = t.outs.length - i ∧ env' 11 = .int .i64 (i : Nat) ∧ takeL (txIdM t) i (t.outs.drop i) cm' = takeM t cm ∧ SetS o f cm' (pt i4 (.cells (eId (txIdM t))) :: pt i3 (.cells (eTx t)) :: L) st') t.outs.length
      ⟨0, cm, by omega, by omega, by simp, by simp [takeM], W⟩ ?_
    clear W o3 o4 hst
    rintro J hJ c env' st4 hsame ⟨i, cm', hi, rfl, h11, hgo, W⟩
    have g0 := (hsame.get 0 rfl).trans (by simp : _ = V.ptr (some (o, off)))
    have g4 := (hsame.get 4 rfl).trans (by simp : _ = V.ptr (some (i4, 0)))
    have g10 := (hsame.get 10 rfl).trans (by simp : _ = V.int .i64 (t.outs.length : Int))
    clear hsame
    by_cases hlt : i < t.outs.length
    · rw [List.drop_eq_getElem_cons hlt, takeL] at hgo
      have w1 : IntKind.i64.wrap ((i : Int) + 1) = (i : Int) + 1 := wrap64 (by omega) (by have := ht.2.1; omega)
      have w2 := wrap32 i
      have hfl := ptFill (txIdM t) (BitVec.ofNat 32 i)
      have s7 : segOf (eId (txIdM t)) 0 32 = some (eId (txIdM t)) := seg_of_drop (zs := []) (by simp) (eId_len _) (by omega)
      have o4 := W.ext (i := i4) (x := .cells (eId (txIdM t))) (by simp)
      obtain ⟨mo, hmo, S⟩ := W
      cases mo with
      | none =>
        have he : cm' = [] := hmo rfl
        subst he
        have oo := S.get
        have hd := mdel_none keyed_pt (st := st4) (txIdM t, BitVec.ofNat 32 i)
        simp [g0, g4, g10, h11, hlt, St.seg, oo, hsg, o4, s7, w2, hfl]
        rw [show V.agg (ePt (txIdM t, BitVec.ofNat 32 i)) = kPt (txIdM t, BitVec.ofNat 32 i) from rfl, hd]
        simp [h11, w1]
        exact Round.mk (t.outs.length - (i + 1)) _ (by omega) (sub_self _) (hJ _ _ _ ⟨i + 1, [], by omega, rfl, by simp, hgo, none, fun _ => rfl, S⟩)
      | some m =>
        have oo := S.get
        have om := S.drop.get
        have hd := mdel_enc keyed_pt (ev := vCoin) om (txIdM t, BitVec.ofNat 32 i)
        simp [g0, g4, g10, h11, hlt, St.seg, oo, hsg, o4, s7, w2, hfl]
        rw [show V.agg (ePt (txIdM t, BitVec.ofNat 32 i)) = kPt (txIdM t, BitVec.ofNat 32 i) from rfl, hd]
        simp [h11, w1]
        exact Round.mk (t.outs.length - (i + 1)) _ (by omega) (sub_self _) (hJ _ _ _ ⟨i + 1, _, by omega, rfl, by simp, hgo, some m, (fun e => by cases e), (S.swap.set _).swap⟩)
    · have : i = t.outs.length := by omega
      subst this
      rw [List.drop_length, takeL] at hgo
      rw [← hgo]
      simp [g10, h11]
      exact ⟨st4, sub_self _, W.tail fun r h => h.drop.drop⟩
set_option maxHeartbeats 8000000 in
theorem spec262a (ok : OkCoins P F) (hc : CloneC P (F 256)) {st : St} {o off : Nat} {f : V → List V} (hf : Hole f off) {cm : CM} {L : List Asn} (h0 : SetS o f cm L st) (b : Blk1) (t : Tx1) (hb : b.txs = [t]) (ht : t.ok 100) :
    ACalls P (F 262) [.ptr (some (o, off)), .agg (eBlk b), undo0] st fun v st' => v = .int .i64 0 ∧ SetS o f (takeM t cm) L st' := by
  refine shows_call ok.mixed ok.h262 (by simp [k262]) ?_
  simp only [k262]
  have hln : lenSlV (txsV b.tk b.txs) = some (.int .i64 1) := by rw [hb]; rfl
  have hsT := bsegT b
  have ht0 : ∀ hx, b.txs[0]'hx = t := fun hx => by simp [hb]
  have hx0 : 0 < b.txs.length := by rw [hb]; simp
  simp
  intro i4 h4
  have W := h0.new h4 (.cells (eBlk b))
  generalize st.upd i4 _ = st1 at W ⊢
  simp [undo0]
  intro i5 h5
  have W := W.new h5 (.cells [.sl .nil [] 0, .sl .nil [] 0])
  generalize st1.upd i5 _ = st2 at W ⊢
  have o4 := W.ext (i := i4) (x := .cells (eBlk b)) (by simp)
  simp [St.seg, o4, hsT, hln]
  refine vc_joinB (M := fun env' st' => env' 7 = .int .i64 0 ∧ SetS o f cm (pt i5 (.cells [.sl .nil [] 0, .sl .nil [] 0]) :: pt i4 (.cells (eBlk b)) :: L) st') ?_ ?_
  · refine vc_loopJ (fun c env' st' => ∃ i : Nat, i ≤ 1 ∧ c = 1 - i ∧ env' 15 = .int .i64 (i : Nat) ∧ env' 7 = .int .i64 0 ∧ SetS o f cm (pt i5 (.cells [.sl .nil [] 0, .sl .nil [] 0]) :: pt i4 (.cells (eBlk b)) :: L) st') 1
      ⟨0, by omega, by omega, by simp, by simp, W⟩ ?_
    clear W o4
    rintro J hJ c env' st4 hsame ⟨i, hi, rfl, h15, h7, W⟩
    have g13 := (hsame.get 13 rfl).trans (by simp : _ = txsV b.tk b.txs)
    have g14 := (hsame.get 14 rfl).trans (by simp : _ = V.int .i64 1)
    clear hsame
    by_cases hlt : i < 1
    · have : i = 0 := by omega
      subst this
      obtain ⟨r1, r2, r3, r4⟩ := (rd_txs b st4).row eTx_len hx0
      rw [ht0] at r3
      simp at r1
      simp [g13, g14, h15, r1, r3]
      intro i9 h9
      have W := W.new h9 (.cells [.sl .nil [] 0, .sl .nil [] 0])
      have o9 := W.ext (i := i9) (x := .cells [.sl .nil [] 0, .sl .nil [] 0]) (by simp)
      have hst := store_pt (sz := 2) (o := 0) o9 (v := .agg (eTx t)) (vs := eTx t) rfl rfl (by simp)
      rw [show spliceV [V.sl .nil [] 0, V.sl .nil [] 0] 0 (eTx t) = eTx t from rfl] at hst
      have W := W.setL (i := i9) (.cells (eTx t))
      simp [hst, h15] at W ⊢
      exact Round.mk 0 _ (by omega) (sub_self _) (hJ _ _ _ ⟨1, by omega, rfl, by simp, by simp [h7], W.tail fun r h => h.drop⟩)
    · have : i = 1 := by omega
      subst this
      simp [g14, h15]
      exact ⟨h7, W⟩
  clear W o4
  rintro env1 st3 hsame ⟨g7, W⟩
  have g0 := (hsame.get 0 rfl).trans (by simp : _ = V.ptr (some (o, off)))
  have g4 := (hsame.get 4 rfl).trans (by simp : _ = V.ptr (some (i4, 0)))
  have g5 := (hsame.get 5 rfl).trans (by simp : _ = V.ptr (some (i5, 0)))
  clear hsame
  have o4 := W.ext (i := i4) (x := .cells (eBlk b)) (by simp)
  have o5 := W.ext (i := i5) (x := .cells [.sl .nil [] 0, .sl .nil [] 0]) (by simp)
  have u0 : segOf [V.sl .nil [] 0, V.sl .nil [] 0] 0 1 = some [V.sl .nil [] 0] := rfl
  have u1 : segOf [V.sl .nil [] 0, V.sl .nil [] 0] 1 1 = some [V.sl .nil [] 0] := rfl
  obtain ⟨mo, hmo, S⟩ := W
  simp [g0, g4, g5, g7, St.seg, o4, o5, u0, u1, hsT, hln]
  refine (spec255 ok hc hf hmo S).mono ?_
  rintro v st4 ⟨ic, rfl, W⟩
  clear S o4 o5
  obtain ⟨mo2, hmo2, S⟩ := W
  have hsg : ∀ v : V, segOf (lone v) 0 1 = some [v] := fun _ => rfl
  have oo : st4 ic = some (.cells (lone (.map mo2))) := by cases mo2 <;> exact S.get
  obtain ⟨bb, hbb⟩ : ∃ bb, bb = mo2.isNone := ⟨_, rfl⟩
  have heq : eqK .map (V.map mo2) (V.map none) = some bb := by rw [hbb]; cases mo2 <;> rfl
  simp [St.seg, oo, hsg, heq]
  refine condB_cut (M := fun env' st' => env' 0 = .ptr (some (o, off)) ∧ env' 4 = .ptr (some (i4, 0)) ∧ env' 7 = .int .i64 0 ∧ env' 10 = .ptr (some (ic, 0)) ∧ SetS ic lone cm (SetL o f cm mo ++ (pt i5 (.cells [.sl .nil [] 0, .sl .nil [] 0]) :: pt i4 (.cells (eBlk b)) :: L)) st') ?_ ?_
  · cases mo2 with
    | none =>
      have he : cm = [] := hmo2 rfl
      subst he
      have hb1 : bb = true := hbb
      subst hb1
      simp
      intro m hm
      have S := S.new hm (.mp [])
      have o2 := S.drop.get
      have hst := store_pt (sz := 1) (o := 0) o2 (v := .map (some m)) (vs := [.map (some m)]) rfl rfl (by simp [lone])
      rw [show spliceV (lone (.map none)) 0 [V.map (some m)] = lone (.map (some m)) from rfl] at hst
      have S := S.setAt (.cells (lone (.map (some m)))) 1 rfl
      simp only [List.set_cons_succ, List.set_cons_zero] at S
      simp [hst, g0, g4, g7]
      exact ⟨some m, (fun e => by cases e), S.swap⟩
    | some m =>
      have hb1 : bb = false := hbb
      subst hb1
      simp [g0, g4, g7]
      exact ⟨some m, hmo2, S⟩
  clear S oo g0 g4 g7
  rintro env2 st5 ⟨g0, g4, g7, g10, W⟩
  have o4 := W.ext (i := i4) (x := .cells (eBlk b)) (by cases mo <;> simp [SetL])
  obtain ⟨r1, r2, r3, r4⟩ := (rd_txs b st5).row eTx_len hx0
  rw [ht0] at r3
  simp at r1
  simp [g4, g10, St.seg, o4, hsT, r1, r3]
  refine (spec261 ok lone_hole W t ht).mono ?_
  clear W o4 r1 r2 r3 r4
  intro v st6 W
  have o4 := W.ext (i := i4) (x := .cells (eBlk b)) (by cases mo <;> simp [SetL])
  simp [g4, St.seg, o4, hsT, hln]
  refine vc_joinB (M := fun env' st' => SetS ic lone (takeM t cm) (SetL o f cm mo ++ (pt i5 (.cells [.sl .nil [] 0, .sl .nil [] 0]) :: pt i4 (.cells (eBlk b)) :: L)) st') ?_ ?_
  · refine vc_loopJ (fun c env' st' => c = 0 ∧ env' 11 = .int .i64 0 ∧ SetS ic lone (takeM t cm) (SetL o f cm mo ++ (pt i5 (.cells [.sl .nil [] 0, .sl .nil [] 0]) :: pt i4 (.cells (eBlk b)) :: L)) st') 0
      ⟨rfl, by simp, W⟩ ?_
    rintro J hJ c env' st7 hsame ⟨rfl, h11, W⟩
    simp [h11]
    exact W
  clear W o4
  rintro env3 st7 hsame W
  have g0 := (hsame.get 0 rfl).trans (by simp [g0] : _ = V.ptr (some (o, off)))
  have g10 := (hsame.get 10 rfl).trans (by simp [g10] : _ = V.ptr (some (ic, 0)))
  clear hsame
  obtain ⟨mo2, hmo2, S⟩ := W
  obtain ⟨t1, t2, t3⟩ := takeOver S
  have hsg : segOf [V.map mo2] 0 1 = some [.map mo2] := rfl
  have hsto := store_pt (sz := 1) (o := off) t2 (v := .map mo2) (vs := [.map mo2]) rfl rfl (by have := hf.seg (.map mo); simp [segOf] at this; omega)
  rw [hf.spl] at hsto
  simp [g0, g10, St.seg, t1, lone, hsg, hsto]
  exact ⟨_, sub_self _, mo2, hmo2, by
    cases mo2 with
    | none => exact t3.tail fun r h => h.drop.drop
    | some m => exact t3.tail fun r h => h.tail fun r h => h.drop.drop⟩
end
end Go.Ab
set_option linter.unusedSimpArgs false
set_option linter.unusedVariables false
set_option maxRecDepth 10000
namespace Go.Ab
open Go Go.RowKit
theorem chOpen {cid : Nat} {c : Ch} {L : List Asn} {st : St} (S : Sep (ChA cid c :: L) st) : ∃ tid bid uid, SetS cid (chF tid bid uid c.tip) c.cm (ChL c tid bid uid ++ L) st := by
  obtain ⟨a0, r, h1, h2, ⟨tid, bid, uid, mo, hmo, h3⟩, h4⟩ := S
  refine ⟨tid, bid, uid, mo, hmo, ?_⟩
  rw [List.append_nil] at h3
  have S : Sep (All (SetL cid (chF tid bid uid c.tip) c.cm mo ++ ChL c tid bid uid) :: L) st := ⟨a0, r, h1, h2, h3, h4⟩
  have := S.app
  rwa [List.append_assoc] at this
theorem chClose {cid : Nat} {c : Ch} {tid bid uid : Nat} {L : List Asn} {st : St} (h : SetS cid (chF tid bid uid c.tip) c.cm (ChL c tid bid uid ++ L) st) : Sep (ChA cid c :: L) st := ChS.asn ⟨tid, bid, uid, h⟩
theorem ChR.at {cid : Nat} {c : Ch} {tid bid uid : Nat} {L : List Asn} {st : St} (h : SetS cid (chF tid bid uid c.tip) c.cm (ChL c tid bid uid ++ L) st) : ∃ mo, ChR cid c st mo tid bid uid := by
  obtain ⟨mo, h0, S⟩ := h
  refine ⟨mo, ?_⟩
  cases mo with
  | none => exact ⟨S.get, fun hl => S.drop.treeR hl, S.drop.drop.get, S.drop.drop.drop.get⟩
  | some m => exact ⟨S.get, fun hl => S.drop.drop.treeR hl, S.drop.drop.drop.get, S.drop.drop.drop.drop.get⟩
theorem SetS.reset {o : Nat} {f f' : V → List V} {cm : CM} {L : List Asn} {st : St} (h : SetS o f cm L st) : ∃ mo : Option Nat, st o = some (.cells (f (.map mo))) ∧ SetS o f' cm L (st.upd o (.cells (f' (.map mo)))) := by
  obtain ⟨mo, h0, S⟩ := h
  cases mo with
  | none => exact ⟨none, S.get, none, h0, S.set _⟩
  | some m => exact ⟨some m, S.get, some m, h0, S.set _⟩
theorem findIdx_at {bs : List Nat} (h : bs.Pairwise (· < ·)) {j : Nat} (hj : j < bs.length) {n : Int} (hn : n = (bs[j] : Nat)) : (bs.findIdx? fun b : Nat => (b : Int) == n) = some j := by
  rw [List.findIdx?_eq_some_iff_getElem]
  refine ⟨hj, by simp [hn], fun i hi => ?_⟩
  have := List.pairwise_iff_getElem.1 h i j (by omega) hj hi
  simp [hn]
  omega
theorem mfindI_enc {K A : Type} [DecidableEq K] {ek : K → V} {ev : A → V} {kk : KK} (hk : Keyed ek kk) (k : K) : ∀ (l : List (K × A)) (n : Nat),
    (mfindI kk (ek k) (encM ek ev l) n = some none ∧ ∀ v, aSet k v l = l ++ [(k, v)]) ∨ ∃ j, j < l.length ∧ mfindI kk (ek k) (encM ek ev l) n = some (some (n + j)) ∧ ∀ v, aSet k v l = l.set j (k, v)
  | [], n => .inl ⟨by simp [mfindI, encM], fun v => rfl⟩
  | p :: l, n => by
    by_cases h : k = p.1
    · refine .inr ⟨0, by simp, ?_, fun v => ?_⟩
      · subst h
        simp [mfindI, encM, hk.eq]
      · rw [aSet, if_pos h]; rfl
    · have ih := mfindI_enc hk (ev := ev) k l (n + 1)
      have e : mfindI kk (ek k) (encM ek ev (p :: l)) n = mfindI kk (ek k) (encM ek ev l) (n + 1) := by
        simp [encM, mfindI, hk.eq, h]
      rcases ih with ⟨h1, h2⟩ | ⟨j, hj, h1, h2⟩
      · exact .inl ⟨by rw [e, h1], fun v => by rw [aSet, if_neg h, h2]; rfl⟩
      · exact .inr ⟨j + 1, by simp; omega, by rw [e, h1]; congr 2; omega, fun v => by rw [aSet, if_neg h, h2]; rfl⟩
theorem ment_enc {A : Type} {ev : A → V} {st : St} {id : Nat} {l : List (Int × A)} (h : st id = some (.mp (encM kInt ev l))) (i : Int) (zero : V) {K : V → St → Prop}
    (hK : ∀ (x : V) (n : Int) (es : List (V × V)) (bs : List Nat) (clk : Nat), (∀ (s : St) (v : A), s id = some (.mpi es bs clk) → entS s (.map (some id)) (.int .i64 n) (ev v) = some (s.upd id (.mpi (encM kInt ev (aSet i v l)) bs clk))) →
      K (.tup [x, .int .i64 n]) (st.upd id (.mpi es bs clk))) : mentS .int zero (.map (some id)) (.int .i64 i) st K := by
  simp only [mentS, h]
  refine ⟨rfl, fun bs clk hl hp hb => ?_⟩
  have hlen : (encM kInt ev l).length = l.length := by simp [encM]
  rcases mfindI_enc keyed_int (ev := ev) i l 0 with ⟨h1, h2⟩ | ⟨j, hj, h1, h2⟩
  · have h1 : mfindI .int (.int .i64 i) (encM kInt ev l) 0 = some none := h1
    rw [h1]
    refine hK _ _ _ _ _ fun s v hs => ?_
    have hfi : ((bs ++ [clk]).findIdx? fun b : Nat => (b : Int) == (clk : Int)) = some l.length := by
      refine findIdx_at ?_ (j := l.length) (by simp; omega) ?_
      · rw [List.pairwise_append]
        exact ⟨hp, by simp, fun a ha b hb' => by rw [List.mem_singleton.1 hb']; exact hb a ha⟩
      · rw [List.getElem_append_right (by omega)]
        simp
    simp only [entS, hs, hfi, Option.bind_some]
    rw [List.getElem?_append_right (by omega), h2]
    simp [hlen, encM, List.set_append]
    rfl
  · rw [Nat.zero_add] at h1
    have h1 : mfindI .int (.int .i64 i) (encM kInt ev l) 0 = some (some j) := h1
    rw [h1]
    refine hK _ _ _ _ _ fun s v hs => ?_
    have hjb : j < bs.length := by omega
    have hfi : (bs.findIdx? fun b : Nat => (b : Int) == (((bs.getD j 0 : Nat)) : Int)) = some j := findIdx_at hp hjb (by rw [List.getD_eq_getElem?_getD, List.getElem?_eq_getElem hjb]; rfl)
    simp only [entS, hs, hfi, Option.bind_some]
    rw [List.getElem?_set_self (by omega), h2]
    simp [encM, List.map_set, kInt]
def u00 : Undo1 := ⟨.nil, [], .nil, []⟩
def readyGo (c : Ch) : Nat → Int → Bool
  | 0, _ => true
  | n + 1, i => if onB c.l i c.tip = true then true else if hasM c i = true then readyGo c n (nd c.l (inI c.l i)).parent else false
def readyM (c : Ch) (i : Nat) : Bool := readyGo c (i + 1) i
theorem hgtZ {l : List Nd} (w : Wf l) : hgt l 0 = 0 := by
  have h := w.zero (l[0]'w.ne) (List.getElem?_eq_getElem w.ne)
  rw [hgt_at w.ne]
  exact h.2
theorem zeroOfHgt {l : List Nd} (w : Wf l) {i : Nat} (hi : i < l.length) (h : hgt l i = 0) : i = 0 := by
  cases i with
  | zero => rfl
  | succ i =>
    have := w.hgt_par (i := i + 1) (by omega) hi
    omega
def downC (c : Ch) (t : Tx1) : Ch := { c with cm := takeM t c.cm, us := aDel c.tip c.us, tip := (nd c.l (inI c.l c.tip)).parent }
def upE (c : Ch) (i : Int) (t : Tx1) : Int × CM := conn1 t ((nd c.l (inI c.l i)).height : Int) c.r.subsidy c.cm
def upC (c : Ch) (i : Int) (t : Tx1) : Ch := if (upE c i t).1 = 0 then { c with cm := (upE c i t).2, us := aSet i u00 c.us, tip := i } else c
theorem chsegPar (x : Nd) : segOf (eNd x) 100 1 = some [.int .i64 x.parent] := seg_of_take (nsegPar x) (by rw [eNd_len]; omega)
section
variable {P : Program} {F : Fn}
set_option maxHeartbeats 4000000 in
theorem spec275 (ok : OkChain P F) {st : St} {cid : Nat} {c : Ch} {mo : Option Nat} {tid bid uid : Nat} (R : ChR cid c st mo tid bid uid) (w : Wf c.l) {tp : Nat} (htip : c.tip = tp) (htl : tp < c.l.length) (i : Nat) (hi : i < c.l.length) :
    ACalls P (F 275) [.ptr (some (cid, 0)), .int .i64 (i : Int)] st fun v st' => v = .bool (readyM c i) ∧ st' = st := by
  have oki := ok.toOkLocate.toOkIndexZ.toOkIndex
  refine shows_call ok.mixed ok.h275 (by simp [k275]) ?_
  simp only [k275]
  have T := R.tree w.neNil
  have o1 := R.top
  have hfP : ∀ x, fldV false 100 1 (V.agg (eNd x)) = some (.int .i64 x.parent) := fun x => by
    show (segOf _ 100 1).bind (packV false) = _
    rw [chsegPar]; rfl
  have z0 : onB c.l ((0 : Nat) : Int) c.tip = true := by
    rw [htip, onB_nat w.ne htl, decide_eq_true_eq, hgtZ w]
    exact ⟨Nat.zero_le _, zeroOfHgt w (w.anc_lt htl) (w.anc_hgt htl (Nat.zero_le _))⟩
  simp
  refine vc_joinB (M := fun env' st' => readyM c i = true ∧ st' = st) ?_ ?_
  · refine vc_loopJ (fun n env' st' => ∃ j f : Nat, j < c.l.length ∧ j ≤ f ∧ n = j + 1 ∧ env' 1 = .int .i64 (j : Int) ∧ readyGo c (f + 1) j = readyM c i ∧ st' = st) (i + 1)
      ⟨i, i, hi, Nat.le_refl _, rfl, by simp, rfl, rfl⟩ ?_
    rintro J hJ n env1 st1 hsame ⟨j, f, hj, hjf, rfl, h1, hgo, rfl⟩
    have g0 := (hsame.get 0 rfl).trans (by simp : _ = V.ptr (some (cid, 0)))
    clear hsame
    simp [g0, h1, St.seg, o1, cseg0, cseg4]
    refine (spec163 oki T w j c.tip).mono ?_
    rintro v st2 ⟨rfl, rfl⟩
    rw [readyGo] at hgo
    cases ho : onB c.l (j : Int) c.tip with
    | true =>
      rw [ho, if_pos rfl] at hgo
      simp
      exact hgo.symm
    | false =>
      rw [ho, if_neg (by decide)] at hgo
      simp [g0, h1]
      refine (spec268 ok R j).mono ?_
      rintro v st3 ⟨rfl, rfl⟩
      cases hh : hasM c (j : Int) with
      | false =>
        rw [hh, if_neg (by decide)] at hgo
        simp
        exact hgo.symm
      | true =>
        rw [hh, if_pos rfl] at hgo
        simp [g0, h1, St.seg, o1, cseg0]
        refine (spec161 oki T w j).mono ?_
        rintro v st4 ⟨rfl, rfl⟩
        have hj0 : 0 < j := by
          cases j with
          | zero => rw [z0] at ho; cases ho
          | succ j => omega
        have hnd := w.succ j c.l[j] hj0 (List.getElem?_eq_getElem hj)
        rw [inI_nat hj, nd_at hj] at hgo ⊢
        obtain ⟨p, hp⟩ : ∃ p : Nat, c.l[j].parent = p := ⟨c.l[j].parent.toNat, by omega⟩
        rw [hp] at hgo hnd
        simp [hfP, hp]
        obtain ⟨f', rfl⟩ : ∃ f', f = f' + 1 := ⟨f - 1, by omega⟩
        exact Round.mk (p + 1) _ (by omega) (sub_self _) (hJ _ _ _ ⟨p, f', by omega, by omega, rfl, by simp, hgo, rfl⟩)
  · rintro env1 st1 hsame ⟨hr, rfl⟩
    simp [hr]
set_option maxHeartbeats 4000000 in
theorem spec277 (ok : OkChain P F) (hc : CloneC P (F 256)) {st : St} {cid : Nat} {c : Ch} {L : List Asn} (S : Sep (ChA cid c :: L) st) (w : Wf c.l) (b : Blk1) (t : Tx1) (hb : lk c.tip c.bs = some b) (hbt : b.txs = [t]) (ht : t.ok 100) (hu : ∀ u, lk c.tip c.us = some u → u = u00) :
    ACalls P (F 277) [.ptr (some (cid, 0))] st fun v st' => Sep (ChA cid (downC c t) :: L) st' := by
  have oki := ok.toOkLocate.toOkIndexZ.toOkIndex
  refine shows_call ok.mixed ok.h277 (by simp [k277]) ?_
  simp only [k277]
  have hfP : ∀ x, fldV false 100 1 (V.agg (eNd x)) = some (.int .i64 x.parent) := fun x => by
    show (segOf _ 100 1).bind (packV false) = _
    rw [chsegPar]; rfl
  obtain ⟨tid, bid, uid, W⟩ := chOpen S
  clear S
  obtain ⟨mo, R⟩ := ChR.at W
  have o1 := R.top
  have h1 := lookup_lk0 keyed_int (ev := vBlk) R.bod (V.agg z69_adc1) c.tip
  rw [hb] at h1
  have h2 := lookup_lk0 keyed_int (ev := vUndo) R.und (V.agg [.sl .nil [] 0, .sl .nil [] 0]) c.tip
  have h2' : ((lk c.tip c.us).map vUndo).getD (V.agg [.sl .nil [] 0, .sl .nil [] 0]) = undo0 := by
    cases h : lk c.tip c.us with
    | none => rfl
    | some u => rw [hu u h]; rfl
  rw [h2'] at h2
  simp only [kInt, Option.map_some, Option.getD_some] at h1 h2
  have hcell1 : ∀ v : V, fldAV 1 (.ptr (some (cid, 0))) = some (.ptr (some (cid, 1))) := fun _ => rfl
  simp [St.seg, o1, cseg2, cseg3, cseg4, h1, h2]
  refine (spec262a ok.toOkCoins hc (ch_hole tid bid uid c.tip) W b t hbt ht).mono ?_
  clear W R o1 h1 h2 mo
  rintro v st1 ⟨-, W⟩
  have W' : SetS cid (chF tid bid uid ({ c with cm := takeM t c.cm } : Ch).tip) ({ c with cm := takeM t c.cm } : Ch).cm (ChL { c with cm := takeM t c.cm } tid bid uid ++ L) st1 := W
  obtain ⟨mo, R⟩ := ChR.at W'
  have o1 := R.top
  have hd := mdel_enc keyed_int (ev := vUndo) R.und c.tip
  simp only [kInt] at hd
  have W := SetS.setL (i := uid) (x := .mp (encM kInt vUndo c.us)) (W.tail (L' := pt uid (.mp (encM kInt vUndo c.us)) :: TreeS tid c.r c.l :: pt bid (.mp (encM kInt vBlk c.bs)) :: L) fun r h => h.pull 2) (.mp (encM kInt vUndo (aDel c.tip c.us)))
  obtain ⟨st2, hst2⟩ : ∃ s, s = st1.upd uid (.mp (encM kInt vUndo (aDel c.tip c.us))) := ⟨_, rfl⟩
  rw [← hst2] at hd W
  simp [St.seg, o1, cseg3, cseg4, hd]
  clear R o1 hd W' hst2 mo
  have W : SetS cid (chF tid bid uid c.tip) (takeM t c.cm) (ChL { c with us := aDel c.tip c.us } tid bid uid ++ L) st2 := W.tail fun r h => (h.pull 1).tail fun r h => h.swap
  have W' : SetS cid (chF tid bid uid ({ c with cm := takeM t c.cm, us := aDel c.tip c.us } : Ch).tip) ({ c with cm := takeM t c.cm, us := aDel c.tip c.us } : Ch).cm (ChL { c with cm := takeM t c.cm, us := aDel c.tip c.us } tid bid uid ++ L) st2 := W
  obtain ⟨mo, R⟩ := ChR.at W'
  have o1 := R.top
  have T := R.tree w.neNil
  simp [St.seg, o1, cseg0, cseg4]
  refine (spec161 oki T w c.tip).mono ?_
  rintro v st3 ⟨rfl, rfl⟩
  clear R T o1 W'
  obtain ⟨mo, o1, W⟩ := SetS.reset (f' := chF tid bid uid (nd c.l (inI c.l c.tip)).parent) W
  have hst := store_pt (sz := 1) (o := 4) o1 (v := .int .i64 (nd c.l (inI c.l c.tip)).parent) (vs := [.int .i64 (nd c.l (inI c.l c.tip)).parent]) rfl rfl (by simp [chF])
  rw [show spliceV (chF tid bid uid c.tip (.map mo)) 4 [V.int .i64 (nd c.l (inI c.l c.tip)).parent] = chF tid bid uid (nd c.l (inI c.l c.tip)).parent (.map mo) from rfl] at hst
  simp [hfP, hst]
  exact ⟨_, sub_self _, chClose (c := downC c t) W⟩
set_option maxHeartbeats 4000000 in
theorem spec278 (ok : OkChain P F) (hc : CloneC P (F 256)) {st : St} {cid : Nat} {c : Ch} {L : List Asn} (S : Sep (ChA cid c :: L) st) (w : Wf c.l) (i : Int) (b : Blk1) (t : Tx1) (hb : lk i c.bs = some b) (hbt : b.txs = [t]) (ht : t.ok 100)
    (hs1 : -4611686018427387904 ≤ c.r.subsidy) (hs2 : c.r.subsidy ≤ 4611686018427387904) :
    ACalls P (F 278) [.ptr (some (cid, 0)), .int .i64 i] st fun v st' => v = .bool (decide ((upE c i t).1 = 0)) ∧ Sep (ChA cid (upC c i t) :: L) st' := by
  have okz := ok.toOkLocate.toOkIndexZ
  have oki := okz.toOkIndex
  refine shows_call ok.mixed ok.h278 (by simp [k278]) ?_
  simp only [k278]
  have hfH : ∀ x, fldV false 102 1 (V.agg (eNd x)) = some (.int .i64 x.height) := fun x => by
    show (segOf _ 102 1).bind (packV false) = _
    rw [osegHgt]; rfl
  have hfS : ∀ r : Rl, fldV false 3 1 (V.agg (eRl r)) = some (.int .i64 r.subsidy) := fun _ => rfl
  obtain ⟨tid, bid, uid, W⟩ := chOpen S
  clear S
  obtain ⟨mo, R⟩ := ChR.at W
  have o1 := R.top
  have T := R.tree w.neNil
  have h1 := lookup_lk0 keyed_int (ev := vBlk) R.bod (V.agg z69_adc1) i
  rw [hb] at h1
  simp only [kInt, Option.map_some, Option.getD_some] at h1
  simp [St.seg, o1, cseg0, cseg2, h1]
  refine still_call _ _ _ _ (by simpa using spec161 oki T w i) ?_
  simp [hfH, St.seg, o1, cseg0]
  refine still_call _ _ _ _ (by simpa using spec160 okz T) ?_
  simp [hfS]
  refine (spec260a ok.toOkCoins hc (ch_hole tid bid uid c.tip) W b t hbt ht ((nd c.l (inI c.l i)).height : Int) c.r.subsidy hs1 hs2).mono ?_
  clear W R o1 T h1 mo
  rintro v st1 ⟨rfl, W⟩
  simp
  intro i5 hi5
  have W := W.new hi5 (.cells [.sl .nil [] 0, .sl .nil [] 0])
  have o5 := W.ext (i := i5) (x := .cells [.sl .nil [] 0, .sl .nil [] 0]) (by simp)
  have hst := store_pt (sz := 2) (o := 0) o5 (v := undo0) (vs := [V.sl .nil [] 0, V.sl .nil [] 0]) rfl rfl (by simp)
  rw [show spliceV [V.sl .nil [] 0, V.sl .nil [] 0] 0 [V.sl .nil [] 0, V.sl .nil [] 0] = [V.sl .nil [] 0, V.sl .nil [] 0] from rfl] at hst
  have hsame2 : (st1.upd i5 (.cells [.sl .nil [] 0, .sl .nil [] 0])).upd i5 (.cells [.sl .nil [] 0, .sl .nil [] 0]) = st1.upd i5 (.cells [.sl .nil [] 0, .sl .nil [] 0]) := by simp
  rw [hsame2] at hst
  simp [hst]
  clear hst hsame2
  generalize st1.upd i5 _ = st2 at W o5 ⊢
  by_cases he : (conn1 t ((nd c.l (inI c.l i)).height : Int) c.r.subsidy c.cm).1 = 0
  · have he' : (upE c i t).1 = 0 := he
    have hup : upC c i t = { c with cm := (upE c i t).2, us := aSet i u00 c.us, tip := i } := by rw [upC, if_pos he']
    have W' : SetS cid (chF tid bid uid ({ c with cm := (upE c i t).2 } : Ch).tip) ({ c with cm := (upE c i t).2 } : Ch).cm (ChL { c with cm := (upE c i t).2 } tid bid uid ++ (pt i5 (.cells [.sl .nil [] 0, .sl .nil [] 0]) :: L)) st2 := W.tail fun r h => h.pull 3 |>.pull 3 |>.pull 3
    obtain ⟨mo, R⟩ := ChR.at W'
    have o1 := R.top
    have hu : segOf [V.sl .nil [] 0, V.sl .nil [] 0] 0 2 = some [V.sl .nil [] 0, V.sl .nil [] 0] := rfl
    have hzero : (V.agg [.sl .nil [] 0, .sl .nil [] 0]) = undo0 := rfl
    have hfin : ∀ (s : St) (n : Int) (es : List (V × V)) (bs : List Nat) (clk : Nat), s = st2.upd uid (.mpi es bs clk) → (∀ (s : St) (v : Undo1), s uid = some (.mpi es bs clk) → entS s (.map (some uid)) (.int .i64 n) (vUndo v) = some (s.upd uid (.mpi (encM kInt vUndo (aSet i v c.us)) bs clk))) →
        s i5 = some (.cells [.sl .nil [] 0, .sl .nil [] 0]) ∧ ∃ s1 s2, entS s (.map (some uid)) (.int .i64 n) undo0 = some s1 ∧ storeS s1 1 (.ptr (some (cid, 4))) (.int .i64 i) = some s2 ∧ frzV s2 (.map (some uid)) = some (.map (some uid), s2.upd uid (.mp (encM kInt vUndo (aSet i u00 c.us)))) ∧
          Sep (ChA cid (upC c i t) :: L) (s2.upd uid (.mp (encM kInt vUndo (aSet i u00 c.us)))) := by
      rintro s n es bs clk rfl hent
      have W3 := W.tail (L' := pt uid (.mp (encM kInt vUndo c.us)) :: pt i5 (.cells [.sl .nil [] 0, .sl .nil [] 0]) :: TreeS tid c.r c.l :: pt bid (.mp (encM kInt vBlk c.bs)) :: L) fun r h => h.pull 3
      have W4 := (W3.setL (.mpi (encM kInt vUndo (aSet i u00 c.us)) bs clk))
      obtain ⟨mo2, q1, W5⟩ := SetS.reset (f' := chF tid bid uid i) W4
      have hst := store_pt (sz := 1) (o := 4) q1 (v := .int .i64 i) (vs := [.int .i64 i]) rfl rfl (by simp [chF])
      rw [show spliceV (chF tid bid uid c.tip (.map mo2)) 4 [V.int .i64 i] = chF tid bid uid i (.map mo2) from rfl] at hst
      have hent1 := hent (st2.upd uid (.mpi es bs clk)) u00 (St.upd_same _ _ _)
      rw [show (st2.upd uid (.mpi es bs clk)).upd uid (.mpi (encM kInt vUndo (aSet i u00 c.us)) bs clk) = st2.upd uid (.mpi (encM kInt vUndo (aSet i u00 c.us)) bs clk) by simp] at hent1
      obtain ⟨s2, hs2⟩ : ∃ s2, s2 = (st2.upd uid (.mpi (encM kInt vUndo (aSet i u00 c.us)) bs clk)).upd cid (.cells (chF tid bid uid i (.map mo2))) := ⟨_, rfl⟩
      rw [← hs2] at hst W5
      have q2 := W5.ext (i := uid) (x := .mpi (encM kInt vUndo (aSet i u00 c.us)) bs clk) (by simp)
      have q5 := (W3.setL (.mpi es bs clk)).ext (i := i5) (x := .cells [.sl .nil [] 0, .sl .nil [] 0]) (by simp)
      refine ⟨q5, _, s2, hent1, hst, by simp [frzV, q2], ?_⟩
      have W6 := W5.setL (.mp (encM kInt vUndo (aSet i u00 c.us)))
      rw [hup]
      exact chClose (c := { c with cm := (upE c i t).2, us := aSet i u00 c.us, tip := i }) (W6.tail fun r h => ((h.tail fun r h => h.drop).pull 2).pull 2 |>.tail fun r h => h)
    have hU : V.agg [V.sl .nil [] 0, V.sl .nil [] 0] = undo0 := rfl
    simp [he, he', St.seg, o1, o5, cseg3, hu]
    refine ⟨?_, ?_⟩
    · refine ment_enc R.und i _ ?_
      intro x n es bs clk hent
      obtain ⟨s, hs⟩ : ∃ s, s = st2.upd uid (.mpi es bs clk) := ⟨_, rfl⟩
      obtain ⟨a0, s1, s2, a1, a2, a3, a4⟩ := hfin s n es bs clk hs hent
      rw [← hs]
      simp [hU, a1, a2, frzP, a3]
      exact ⟨_, sub_self _, a4⟩
    · refine ment_enc R.und i _ ?_
      intro x n es bs clk hent
      obtain ⟨s, hs⟩ : ∃ s, s = st2.upd uid (.mpi es bs clk) := ⟨_, rfl⟩
      obtain ⟨a0, s1, s2, a1, a2, a3, a4⟩ := hfin s n es bs clk hs hent
      rw [← hs]
      simp [St.seg, a0, hu, hU, a1, a2, frzP, a3]
      exact ⟨_, sub_self _, a4⟩
  · have he' : ¬ (upE c i t).1 = 0 := he
    have heb : ((conn1 t ((nd c.l (inI c.l i)).height : Int) c.r.subsidy c.cm).1 != 0) = true := by simpa using he
    have hup : upC c i t = c := by rw [upC, if_neg he']
    rw [conn1_err he] at W
    simp [heb, he, he', hup]
    exact ⟨st2, sub_self _, chClose (W.tail fun r h => h.drop)⟩
end
end Go.Ab
set_option linter.unusedSimpArgs false
set_option linter.unusedVariables false
set_option maxRecDepth 10000
namespace Go.Ab
open Go Go.RowKit
structure ChW (c : Ch) : Prop where
  wf : Wf c.l
  len : c.l.length ≤ 16384
  one : ∀ i b, lk i c.bs = some b → ∃ t, b.txs = [t] ∧ t.ok 100
  us : ∀ e ∈ c.us, e.2 = u00
  s1 : -4611686018427387904 ≤ c.r.subsidy
  s2 : c.r.subsidy ≤ 4611686018427387904
structure ChOk (c : Ch) (tp : Nat) : Prop extends ChW c where
  tip : c.tip = tp
  lt : tp < c.l.length
  way : ∀ k, On c.l k tp → hasM c k = true
def tx0 : Tx1 := ⟨.nil, [], .nil, []⟩
def txOf (c : Ch) (i : Int) : Tx1 := match lk i c.bs with | some b => b.txs.headD tx0 | none => tx0
theorem ChW.txOf {c : Ch} (h : ChW c) {i : Int} (hh : hasM c i = true) : ∃ b, lk i c.bs = some b ∧ b.txs = [txOf c i] ∧ (txOf c i).ok 100 := by
  unfold hasM at hh
  cases hb : lk i c.bs with
  | none => rw [hb] at hh; cases hh
  | some b =>
    obtain ⟨t, h1, h2⟩ := h.one i b hb
    refine ⟨b, rfl, ?_⟩
    have : Ab.txOf c i = t := by unfold Ab.txOf; rw [hb]; simp [h1]
    rw [this]
    exact ⟨h1, h2⟩
def dn (c : Ch) : Ch := downC c (txOf c c.tip)
def downN : Nat → Ch → Ch
  | 0, c => c
  | n + 1, c => dn (downN n c)
def ups (c : Ch) (i : Int) : Ch := upC c i (txOf c i)
def fits1 (c : Ch) (i : Int) : Bool := decide ((upE c i (txOf c i)).1 = 0)
def upWay : Ch → List Int → Ch × Option Int
  | c, [] => (c, none)
  | c, i :: r => if fits1 c i = true then upWay (ups c i) r else (c, some i)
def upAll : Ch → List Int → Ch
  | c, [] => c
  | c, i :: r => upAll (ups c i) r
theorem ups_r (c : Ch) (i : Int) : (ups c i).r = c.r ∧ (ups c i).l = c.l ∧ (ups c i).bs = c.bs := by
  unfold ups upC
  split <;> exact ⟨rfl, rfl, rfl⟩
theorem ups_tip {c : Ch} {i : Int} (h : fits1 c i = true) : (ups c i).tip = i := by
  unfold fits1 at h
  rw [decide_eq_true_eq] at h
  unfold ups upC
  rw [if_pos h]
theorem ups_not {c : Ch} {i : Int} (h : fits1 c i = false) : ups c i = c := by
  unfold fits1 at h
  rw [decide_eq_false_iff_not] at h
  unfold ups upC
  rw [if_neg h]
theorem mem_aSetI {A : Type} {i : Int} {v : A} {e : Int × A} : ∀ {l : List (Int × A)}, e ∈ aSet i v l → e = (i, v) ∨ e ∈ l
  | [], h => .inl (List.mem_singleton.1 h)
  | p :: l, h => by
    rw [aSet] at h
    split at h
    · rcases List.mem_cons.1 h with h | h
      · exact .inl h
      · exact .inr (List.mem_cons_of_mem _ h)
    · rcases List.mem_cons.1 h with h | h
      · exact .inr (h ▸ List.mem_cons_self)
      · rcases mem_aSetI h with h | h
        · exact .inl h
        · exact .inr (List.mem_cons_of_mem _ h)
theorem mem_aDelI {A : Type} {i : Int} {e : Int × A} : ∀ {l : List (Int × A)}, e ∈ aDel i l → e ∈ l
  | [], h => h
  | p :: l, h => by
    rw [aDel] at h
    split at h
    · exact List.mem_cons_of_mem _ h
    · rcases List.mem_cons.1 h with h | h
      · exact h ▸ List.mem_cons_self
      · exact List.mem_cons_of_mem _ (mem_aDelI h)
theorem lk_in {A : Type} {i : Int} {v : A} {l : List (Int × A)} (h : lk i l = some v) : (i, v) ∈ l := by
  unfold lk at h
  obtain ⟨l1, l2, e, -⟩ := List.lookup_eq_some_iff.1 h
  rw [e]
  simp
theorem ChW.usAt {c : Ch} (h : ChW c) {i : Int} {u : Undo1} (hu : lk i c.us = some u) : u = u00 := h.us _ (lk_in hu)
theorem ChW.ups {c : Ch} (h : ChW c) (i : Int) : ChW (ups c i) := by
  unfold Ab.ups upC
  split
  · exact ⟨h.wf, h.len, h.one, fun e he => by
      rcases mem_aSetI he with rfl | he
      · rfl
      · exact h.us e he, h.s1, h.s2⟩
  · exact h
theorem ChW.dn {c : Ch} (h : ChW c) : ChW (dn c) := ⟨h.wf, h.len, h.one, fun e he => h.us e (mem_aDelI he), h.s1, h.s2⟩
theorem downN_W {c : Ch} (h : ChW c) : ∀ n, ChW (downN n c)
  | 0 => h
  | n + 1 => (downN_W h n).dn
theorem downN_keep (c : Ch) : ∀ n, (downN n c).r = c.r ∧ (downN n c).l = c.l ∧ (downN n c).bs = c.bs
  | 0 => ⟨rfl, rfl, rfl⟩
  | n + 1 => downN_keep c n
theorem downN_tip {c : Ch} {tp : Nat} (w : Wf c.l) (ht : c.tip = tp) (hl : tp < c.l.length) : ∀ n, n ≤ hgt c.l tp → (downN n c).tip = (anc c.l tp (hgt c.l tp - n) : Nat)
  | 0, _ => by rw [Nat.sub_zero, anc_self]; exact ht
  | n + 1, hn => by
    have ih := downN_tip w ht hl n (by omega)
    obtain ⟨-, hkl, -⟩ := downN_keep c n
    show (nd (downN n c).l (inI (downN n c).l (downN n c).tip)).parent = _
    rw [hkl, ih]
    have hlt := w.anc_lt (h := hgt c.l tp - n) hl
    rw [inI_nat hlt]
    obtain ⟨k, hk⟩ : ∃ k, hgt c.l tp - n = k + 1 := ⟨hgt c.l tp - n - 1, by omega⟩
    obtain ⟨h1, h2⟩ := anc_step_par w hl (k := k) (by omega)
    rw [hk] at hlt ⊢
    have hs := w.succ _ _ h2 (List.getElem?_eq_getElem hlt)
    have hp : par c.l (anc c.l tp (k + 1)) = (nd c.l (anc c.l tp (k + 1))).parent.toNat := by
      simp only [par, List.getElem?_eq_getElem hlt, Option.map_some, Option.getD_some, nd_at hlt]
    rw [nd_at hlt] at hp ⊢
    rw [show hgt c.l tp - (n + 1) = k by omega, ← h1, hp]
    omega
end Go.Ab
set_option linter.unusedSimpArgs false
set_option linter.unusedVariables false
set_option maxRecDepth 10000
namespace Go.Ab
open Go Go.RowKit
theorem failM_setF (l : List Nd) (i : Int) : ∃ f, (failM l i).1 = setF f l := by
  unfold failM
  split
  · exact ⟨_, setF_none.symm⟩
  · exact ⟨_, rfl⟩
theorem setF_wayM {f : Nat → Bool} {l : List Nd} (a b : Nat) : wayM (setF f l) a b = wayM l a b := by
  unfold wayM
  simp only [setF_hgt, setF_anc]
theorem setF_wayI {f : Nat → Bool} {l : List Nd} (a b : Int) : wayI (setF f l) a b = wayI l a b := by
  unfold wayI
  rw [setF_onB, setF_wayM]
def moveM (c : Ch) (tp to : Nat) : Ch × Bool :=
  let m := meetM c.l tp to
  match upWay (downN (hgt c.l tp - hgt c.l m) c) (wayM c.l m to) with
  | (c2, none) => (c2, true)
  | (c2, some i) => (upAll (downN (hgt c.l c2.tip.toNat - hgt c.l m) { c2 with l := (failM c2.l i).1 }) (wayM c.l m tp), false)
theorem wayI_on {l : List Nd} (w : Wf l) {a b : Nat} (hb : b < l.length) (ha : a < l.length) (h : On l a b) : wayI l a b = wayM l a b := by
  unfold wayI
  rw [if_pos ((onB_on ha hb).2 h)]
  rfl
theorem wayM_at {l : List Nd} (w : Wf l) {a b k : Nat} (hb : b < l.length) (hk : k < (wayM l a b).length) : On l (anc l b (hgt l a + 1 + k)) b ∧ anc l b (hgt l a + 1 + k) < l.length ∧ hgt l a + 1 + k ≤ hgt l b := by
  rw [wayM_len] at hk
  exact ⟨On.of w hb (by omega), w.anc_lt hb, by omega⟩
theorem ChW.failed {c : Ch} (h : ChW c) (i : Int) : ChW { c with l := (failM c.l i).1 } := by
  obtain ⟨f, hf⟩ := failM_setF c.l i
  refine ⟨by rw [hf]; exact setF_wf h.wf, by rw [hf, setF_length]; exact h.len, h.one, h.us, h.s1, h.s2⟩
theorem upWay_keep : ∀ (r : List Int) (c : Ch), ((upWay c r).1.r = c.r ∧ (upWay c r).1.l = c.l ∧ (upWay c r).1.bs = c.bs)
  | [], c => ⟨rfl, rfl, rfl⟩
  | i :: r, c => by
    rw [upWay]
    split
    · obtain ⟨h1, h2, h3⟩ := ups_r c i
      obtain ⟨k1, k2, k3⟩ := upWay_keep r (ups c i)
      exact ⟨k1.trans h1, k2.trans h2, k3.trans h3⟩
    · exact ⟨rfl, rfl, rfl⟩
section
variable {P : Program} {F : Fn}
set_option maxHeartbeats 16000000 in
theorem spec276 (ok : OkChain P F) (hc : CloneC P (F 256)) {st : St} {cid : Nat} {c : Ch} {L : List Asn} (S : Sep (ChA cid c :: L) st) {tp : Nat} (h : ChOk c tp) (to : Nat) (hto : to < c.l.length) (hr : ∀ k, On c.l k to → hasM c k = true) :
    ACalls P (F 276) [.ptr (some (cid, 0)), .int .i64 (to : Int)] st fun v st' => v = .bool (moveM c tp to).2 ∧ Sep (ChA cid (moveM c tp to).1 :: L) st' := by
  have okl := ok.toOkLocate
  have oki := okl.toOkIndexZ.toOkIndex
  refine shows_call ok.mixed ok.h276 (by simp [k276]) ?_
  simp only [k276]
  have w := h.wf
  have hl := h.len
  have htl := h.lt
  obtain ⟨m, hm⟩ : ∃ m, m = meetM c.l tp to := ⟨_, rfl⟩
  have hM := meet_spec w htl hto
  rw [← hm] at hM
  obtain ⟨D, hD⟩ : ∃ D, D = hgt c.l tp - hgt c.l m := ⟨_, rfl⟩
  have hDm : hgt c.l m ≤ hgt c.l tp := hM.on1.1
  have hmt : anc c.l tp (hgt c.l m) = m := hM.on1.2
  obtain ⟨mo, tid, bid, uid, R⟩ := chRead S
  have T := R.tree w.neNil
  have o1 := R.top
  have cl1 : clI c.l c.tip = tp := by rw [h.tip]; unfold clI; omega
  have cl2 : clI c.l (to : Int) = to := by unfold clI; omega
  simp [St.seg, o1, cseg0, cseg4]
  refine still_call _ _ _ _ (by simpa using spec228 okl T w hl c.tip to) ?_
  rw [cl1, cl2, ← hm, h.tip]
  simp
  clear R T o1
  have hkeep := downN_keep c
  have htipN := downN_tip w h.tip htl
  have hWN := downN_W h.toChW
  refine vc_joinB (M := fun env' st' => Sep (ChA cid (downN D c) :: L) st') ?_ ?_
  · refine vc_loopJ (fun n env' st' => ∃ d : Nat, d ≤ D ∧ n = D - d ∧ Sep (ChA cid (downN d c) :: L) st') D
      ⟨0, by omega, by omega, S⟩ ?_
    clear S
    rintro J hJ n env1 st1 hsame ⟨d, hd, rfl, S⟩
    have g0 := (hsame.get 0 rfl).trans (by simp : _ = V.ptr (some (cid, 0)))
    have g6 := (hsame.get 6 rfl).trans (by simp : _ = V.int .i64 (m : Int))
    clear hsame
    obtain ⟨mo, tid, bid, uid, R⟩ := chRead S
    have o1 := R.top
    have ht := htipN d (by omega)
    by_cases hdD : d < D
    · have hne : ¬ (((anc c.l tp (hgt c.l tp - d) : Nat)) : Int) = m := fun e => by
        have e : anc c.l tp (hgt c.l tp - d) = m := by omega
        have g1 := w.anc_hgt htl (h := hgt c.l tp - d) (by omega)
        rw [e] at g1
        omega
      have hneb : ((((anc c.l tp (hgt c.l tp - d) : Nat)) : Int) != m) = true := by simpa using hne
      obtain ⟨k1, k2, k3⟩ := hkeep d
      have hhas : hasM (downN d c) (downN d c).tip = true := by
        unfold hasM
        rw [k3, ht]
        exact h.way _ (On.of w htl (by omega))
      obtain ⟨b, hb1, hb2, hb3⟩ := (hWN d).txOf hhas
      rw [ht] at o1
      simp [g0, g6, St.seg, o1, cseg4, hneb]
      refine (spec277 ok hc S (hWN d).wf b _ hb1 hb2 hb3 (fun u hu => (hWN d).usAt hu)).mono ?_
      intro v st2 S
      simp
      exact Round.mk (D - (d + 1)) _ (by omega) (sub_self _) (hJ _ _ _ ⟨d + 1, by omega, rfl, S⟩)
    · have : d = D := by omega
      subst this
      have e : anc c.l tp (hgt c.l tp - d) = m := by rw [show hgt c.l tp - d = hgt c.l m by omega, hmt]
      rw [ht, e] at o1
      simp [g0, g6, St.seg, o1, cseg4]
      exact S
  clear S
  rintro env1 st1 hsame S
  have g0 := (hsame.get 0 rfl).trans (by simp : _ = V.ptr (some (cid, 0)))
  have g1 := (hsame.get 1 rfl).trans (by simp : _ = V.int .i64 (to : Int))
  have g5 := (hsame.get 5 rfl).trans (by simp : _ = V.int .i64 (tp : Int))
  have g6 := (hsame.get 6 rfl).trans (by simp : _ = V.int .i64 (m : Int))
  clear hsame
  obtain ⟨c1, hc1⟩ : ∃ c1, c1 = downN D c := ⟨_, rfl⟩
  obtain ⟨k1, k2, k3⟩ := hkeep D
  have hW1 := hWN D
  have ht1 := htipN D (by omega)
  rw [← hc1] at k1 k2 k3 hW1 ht1 S
  rw [show hgt c.l tp - D = hgt c.l m by omega, hmt] at ht1
  obtain ⟨way, hway⟩ : ∃ way, way = wayM c.l m to := ⟨_, rfl⟩
  have hwl : way.length = hgt c.l to - hgt c.l m := by rw [hway, wayM_len]
  have hmto : hgt c.l m ≤ hgt c.l to := hM.on2.1
  have hbound : hgt c.l to < 16384 := Nat.lt_of_lt_of_le (w.hgt_le hto |> fun h => by omega) hl
  obtain ⟨mo, tid, bid, uid, R⟩ := chRead S
  have o1 := R.top
  have T := R.tree (by rw [k2]; exact w.neNil)
  rw [k2] at T
  simp [g0, g1, g6, St.seg, o1, cseg0]
  refine (spec229 okl T w hl m to).mono ?_
  intro vw st2 S1
  rw [wayI_on w hto hM.lt hM.on2, ← hway] at S1
  have S := S1.ov S
  clear S1 R T o1
  have hwr := (Sep.rd e1_len S).len
  simp [hwr]
  have hgoal : moveM c tp to = (match upWay c1 way with
      | (c2, none) => (c2, true)
      | (c2, some i) => (upAll (downN (hgt c.l c2.tip.toNat - hgt c.l m) { c2 with l := (failM c2.l i).1 }) (wayM c.l m tp), false)) := by
    rw [moveM, ← hm, ← hD, ← hc1, ← hway]
  refine vc_joinB (M := fun env' st' => (moveM c tp to).2 = true ∧ Sep (ChA cid (moveM c tp to).1 :: L) st') ?_ ?_
  · refine vc_loopJ (fun n env' st' => ∃ (j : Nat) (c2 : Ch), j ≤ way.length ∧ n = way.length - j ∧ env' 41 = .int .i64 (j : Nat) ∧ upWay c2 (way.drop j) = upWay c1 way ∧ ChW c2 ∧ c2.l = c.l ∧ c2.bs = c.bs ∧ c2.tip = (anc c.l to (hgt c.l m + j) : Nat) ∧ Sep (Sl 1 e1 vw way :: ChA cid c2 :: L) st') way.length
      ⟨0, c1, by omega, by omega, by simp, rfl, hW1, k2, k3, by rw [Nat.add_zero, hM.on2.2]; exact ht1, S⟩ ?_
    clear S
    rintro J hJ n env2 st3 hsame ⟨j, c2, hj, rfl, h41, hup, hW2, hl2, hb2, ht2, S⟩
    have g0 := (hsame.get 0 rfl).trans (by simp [g0] : _ = V.ptr (some (cid, 0)))
    have g5 := (hsame.get 5 rfl).trans (by simp [g5] : _ = V.int .i64 (tp : Int))
    have g6 := (hsame.get 6 rfl).trans (by simp [g6] : _ = V.int .i64 (m : Int))
    have g39 := (hsame.get 39 rfl).trans (by simp : _ = vw)
    have g40 := (hsame.get 40 rfl).trans (by simp : _ = V.int .i64 (way.length : Int))
    clear hsame
    by_cases hjl : j < way.length
    · have w1 : IntKind.i64.wrap ((j : Int) + 1) = (j : Int) + 1 := wrap64 (by omega) (by omega)
      obtain ⟨r1, r2, r3, r4⟩ := (Sep.rd e1_len S).row e1_len hjl
      obtain ⟨x, hx⟩ : ∃ x, x = way[j] := ⟨_, rfl⟩
      rw [← hx] at r3
      have hxv : x = (anc c.l to (hgt c.l m + (j + 1)) : Nat) := by
        rw [hx]
        subst hway
        rw [wayM_get, Nat.add_assoc, Nat.add_comm 1 j]
      have hjw : j < (wayM c.l m to).length := hway ▸ hjl
      obtain ⟨a1, a2, a3⟩ := wayM_at w (a := m) hto hjw
      rw [Nat.add_assoc, Nat.add_comm 1 j] at a1 a2
      have hhas : hasM c2 x = true := by
        unfold hasM
        rw [hb2, hxv]
        exact hr _ a1
      obtain ⟨b, hb1, hb2', hb3⟩ := hW2.txOf hhas
      rw [List.drop_eq_getElem_cons hjl, ← hx, upWay] at hup
      simp [g0, g39, g40, h41, hjl, r1, r3, e1]
      refine (spec278 ok hc S.swap hW2.wf x b _ hb1 hb2' hb3 hW2.s1 hW2.s2).mono ?_
      clear S r1 r2 r3 r4
      rintro v st4 ⟨rfl, S⟩
      have hfit : decide ((upE c2 x (txOf c2 x)).1 = 0) = fits1 c2 x := rfl
      rw [hfit]
      have S : Sep (ChA cid (ups c2 x) :: Sl 1 e1 vw way :: L) st4 := S
      cases hfx : fits1 c2 x with
      | true =>
        rw [hfx, if_pos rfl] at hup
        obtain ⟨u1, u2, u3⟩ := ups_r c2 x
        simp [h41, w1]
        exact Round.mk (way.length - (j + 1)) _ (by omega) (sub_self _) (hJ _ _ _ ⟨j + 1, ups c2 x, by omega, rfl, by simp, hup, hW2.ups x, u2.trans hl2, u3.trans hb2, by rw [ups_tip hfx, hxv], S.swap⟩)
      | false =>
        rw [hfx, if_neg (by decide)] at hup
        rw [ups_not hfx] at S
        obtain ⟨mo, tid, bid, uid, R, hgrow⟩ := chGrow (P := P) S
        have o1 := R.top
        simp [g0, St.seg, o1, cseg0]
        refine (hgrow (F 170) [.ptr (some (tid, 0)), .int .i64 x] (fun _ => True) (failM c2.l x).1 (fun hp hT => (spec170 oki hT hW2.wf hW2.len x).mono fun v s hh => ⟨trivial, hh.2⟩)).mono ?_
        clear R o1 hgrow S
        rintro v st5 ⟨-, S⟩
        obtain ⟨c3, hc3⟩ : ∃ c3 : Ch, c3 = { c2 with l := (failM c2.l x).1 } := ⟨_, rfl⟩
        rw [← hc3] at S
        obtain ⟨fl, hfl⟩ := failM_setF c2.l x
        rw [hl2] at hfl
        have hl3 : c3.l = setF fl c.l := by rw [hc3]; show (failM c2.l x).1 = _; rw [hl2, hfl]
        have hW3 : ChW c3 := by rw [hc3]; exact hW2.failed x
        have w3 : Wf c3.l := hW3.wf
        have hb3' : c3.bs = c.bs := by rw [hc3]; exact hb2
        obtain ⟨t2, ht2'⟩ : ∃ t2, t2 = anc c.l to (hgt c.l m + j) := ⟨_, rfl⟩
        rw [← ht2'] at ht2
        have ht3 : c3.tip = t2 := by rw [hc3]; exact ht2
        have ht2l : t2 < c.l.length := by rw [ht2']; exact w.anc_lt hto
        have ht3l : t2 < c3.l.length := by rw [hl3, setF_length]; exact ht2l
        have hg2 : hgt c.l t2 = hgt c.l m + j := by rw [ht2']; exact w.anc_hgt hto (by omega)
        have hon2 : On c.l t2 to := by rw [ht2']; exact On.of w hto (by omega)
        have hm2 : anc c.l t2 (hgt c.l m) = m := by
          rw [ht2', w.anc_anc hto (by omega) (by omega)]
          exact hM.on2.2
        have hkeep3 := downN_keep c3
        have htip3 := downN_tip w3 ht3 ht3l
        have hWN3 := downN_W hW3
        have hgs : hgt c3.l t2 = hgt c.l m + j := by rw [hl3, setF_hgt]; exact hg2
        have hres : moveM c tp to = (upAll (downN j c3) (wayM c.l m tp), false) := by
          rw [hgoal, ← hup]
          show (upAll (downN (hgt c.l c2.tip.toNat - hgt c.l m) { c2 with l := (failM c2.l x).1 }) (wayM c.l m tp), false) = _
          rw [← hc3, ht2, Int.toNat_natCast, hg2, Nat.add_sub_cancel_left]
        simp
        refine vc_joinB (M := fun env' st' => Sep (ChA cid (downN j c3) :: L) st') ?_ ?_
        · refine vc_loopJ (fun n env' st' => ∃ d : Nat, d ≤ j ∧ n = j - d ∧ Sep (ChA cid (downN d c3) :: L) st') j
            ⟨0, by omega, by omega, S.tail fun r h => h.drop⟩ ?_
          clear S
          rintro J2 hJ2 n env3 st6 hsame ⟨d, hd, rfl, S⟩
          have g0 := (hsame.get 0 rfl).trans (by simp [g0] : _ = V.ptr (some (cid, 0)))
          have g6 := (hsame.get 6 rfl).trans (by simp [g6] : _ = V.int .i64 (m : Int))
          clear hsame
          obtain ⟨mo, tid, bid, uid, R⟩ := chRead S
          have o1 := R.top
          have ht := htip3 d (by omega)
          rw [hgs, hl3, setF_anc] at ht
          by_cases hdj : d < j
          · have hne : ¬ (((anc c.l t2 (hgt c.l m + j - d) : Nat)) : Int) = m := fun e => by
              have e : anc c.l t2 (hgt c.l m + j - d) = m := by omega
              have g1 := w.anc_hgt ht2l (h := hgt c.l m + j - d) (by omega)
              rw [e] at g1
              omega
            have hneb : ((((anc c.l t2 (hgt c.l m + j - d) : Nat)) : Int) != m) = true := by simpa using hne
            obtain ⟨q1, q2, q3⟩ := hkeep3 d
            have hhas : hasM (downN d c3) (downN d c3).tip = true := by
              unfold hasM
              rw [q3, hb3', ht]
              exact hr _ (On.trans w hto (On.of w ht2l (by omega)) hon2)
            obtain ⟨b, hb1, hb2, hb3⟩ := (hWN3 d).txOf hhas
            rw [ht] at o1
            simp [g0, g6, St.seg, o1, cseg4, hneb]
            refine (spec277 ok hc S (hWN3 d).wf b _ hb1 hb2 hb3 (fun u hu => (hWN3 d).usAt hu)).mono ?_
            intro v st7 S
            simp
            exact Round.mk (j - (d + 1)) _ (by omega) (sub_self _) (hJ2 _ _ _ ⟨d + 1, by omega, rfl, S⟩)
          · have : d = j := by omega
            subst this
            have e : anc c.l t2 (hgt c.l m + d - d) = m := by rw [Nat.add_sub_cancel, hm2]
            rw [ht, e] at o1
            simp [g0, g6, St.seg, o1, cseg4]
            exact S
        clear S
        rintro env3 st6 hsame S
        have g0 := (hsame.get 0 rfl).trans (by simp [g0] : _ = V.ptr (some (cid, 0)))
        have g5 := (hsame.get 5 rfl).trans (by simp [g5] : _ = V.int .i64 (tp : Int))
        have g6 := (hsame.get 6 rfl).trans (by simp [g6] : _ = V.int .i64 (m : Int))
        clear hsame
        obtain ⟨c4, hc4⟩ : ∃ c4, c4 = downN j c3 := ⟨_, rfl⟩
        obtain ⟨q1, q2, q3⟩ := hkeep3 j
        have hW4 := hWN3 j
        rw [← hc4] at q1 q2 q3 hW4 S hres
        obtain ⟨mo, tid, bid, uid, R⟩ := chRead S
        have o1 := R.top
        have T := R.tree hW4.wf.neNil
        simp [g0, g5, g6, St.seg, o1, cseg0]
        refine (spec229 okl T hW4.wf hW4.len m tp).mono ?_
        intro vk st7 S1
        have hwk : wayI c4.l (m : Int) (tp : Int) = wayM c.l m tp := by
          rw [q2, hl3, setF_wayI, wayI_on w htl hM.lt hM.on1]
        rw [hwk] at S1
        have S := S1.ov S
        clear S1 R T o1
        obtain ⟨wk, hwkd⟩ : ∃ wk, wk = wayM c.l m tp := ⟨_, rfl⟩
        rw [← hwkd] at S hres
        have hkr := (Sep.rd e1_len S).len
        have hwkl : wk.length ≤ 16384 := by
          rw [hwkd, wayM_len]
          have := w.hgt_le htl
          omega
        simp [hkr]
        refine vc_joinB (M := fun env' st' => Sep (ChA cid (upAll c4 wk) :: L) st') ?_ ?_
        · refine vc_loopJ (fun n env' st' => ∃ (k : Nat) (c5 : Ch), k ≤ wk.length ∧ n = wk.length - k ∧ env' 70 = .int .i64 (k : Nat) ∧ upAll c5 (wk.drop k) = upAll c4 wk ∧ ChW c5 ∧ c5.bs = c.bs ∧ Sep (Sl 1 e1 vk wk :: ChA cid c5 :: L) st') wk.length
            ⟨0, c4, by omega, by omega, by simp, rfl, hW4, q3.trans hb3', S⟩ ?_
          clear S
          rintro J3 hJ3 n env4 st8 hsame ⟨k, c5, hk, rfl, h70, hall, hW5, hb5, S⟩
          have g0 := (hsame.get 0 rfl).trans (by simp [g0] : _ = V.ptr (some (cid, 0)))
          have g68 := (hsame.get 68 rfl).trans (by simp : _ = vk)
          have g69 := (hsame.get 69 rfl).trans (by simp : _ = V.int .i64 (wk.length : Int))
          clear hsame
          by_cases hkl : k < wk.length
          · have w4 : IntKind.i64.wrap ((k : Int) + 1) = (k : Int) + 1 := wrap64 (by omega) (by omega)
            obtain ⟨r1, r2, r3, r4⟩ := (Sep.rd e1_len S).row e1_len hkl
            obtain ⟨y, hy⟩ : ∃ y, y = wk[k] := ⟨_, rfl⟩
            rw [← hy] at r3
            have hkw : k < (wayM c.l m tp).length := hwkd ▸ hkl
            obtain ⟨a1, a2, a3⟩ := wayM_at w (a := m) htl hkw
            have hyv : y = (anc c.l tp (hgt c.l m + 1 + k) : Nat) := by
              rw [hy]
              subst hwkd
              rw [wayM_get]
            have hhas : hasM c5 y = true := by
              unfold hasM
              rw [hb5, hyv]
              exact h.way _ a1
            obtain ⟨b, hb1, hb2, hb3⟩ := hW5.txOf hhas
            rw [List.drop_eq_getElem_cons hkl, ← hy, upAll] at hall
            simp [g0, g68, g69, h70, hkl, r1, r3, e1]
            refine (spec278 ok hc S.swap hW5.wf y b _ hb1 hb2 hb3 hW5.s1 hW5.s2).mono ?_
            clear S r1 r2 r3 r4
            rintro v st9 ⟨rfl, S⟩
            have S : Sep (ChA cid (ups c5 y) :: Sl 1 e1 vk wk :: L) st9 := S
            obtain ⟨u1, u2, u3⟩ := ups_r c5 y
            simp [h70, w4]
            exact Round.mk (wk.length - (k + 1)) _ (by omega) (sub_self _) (hJ3 _ _ _ ⟨k + 1, ups c5 y, by omega, rfl, by simp, hall, hW5.ups y, u3.trans hb5, S.swap⟩)
          · have : k = wk.length := by omega
            subst this
            rw [List.drop_length, upAll] at hall
            rw [← hall]
            simp [g69, h70]
            exact S.drop
        clear S
        rintro env4 st8 hsame S
        rw [hres]
        simp
        exact ⟨st8, sub_self _, S⟩
    · have : j = way.length := by omega
      subst this
      rw [List.drop_length, upWay] at hup
      rw [hgoal, ← hup]
      simp [g40, h41]
      exact S.drop
  clear S
  rintro env2 st3 hsame ⟨hv, S⟩
  simp [hv]
  exact ⟨st3, sub_self _, S⟩
end
end Go.Ab
set_option linter.unusedSimpArgs false
set_option linter.unusedVariables false
set_option maxRecDepth 10000
namespace Go.Ab
open Go Go.RowKit
theorem setF_on {f : Nat → Bool} {l : List Nd} {i k : Nat} : On (setF f l) i k ↔ On l i k := by
  unfold On
  rw [setF_hgt, setF_hgt, setF_anc]
theorem setF_setF (f g : Nat → Bool) (l : List Nd) : setF g (setF f l) = setF (fun k => f k || g k) l := by
  refine List.ext_getElem (by simp) fun i h1 h2 => ?_
  simp only [setF, List.getElem_mapIdx]
  by_cases hf : f i = true <;> by_cases hg : g i = true <;> simp [hf, hg]
theorem On.parOr {l : List Nd} (w : Wf l) {k i : Nat} (hi : i < l.length) (h : On l k i) : k = i ∨ (0 < i ∧ On l k (Ab.par l i)) := by
  rcases Nat.eq_or_lt_of_le h.1 with e | e
  · left
    have := h.2
    rw [e, anc_self] at this
    exact this.symm
  · right
    have h0 : 0 < i := w.pos_of_hgt (i := i) (by omega)
    have hp := w.hgt_par h0 hi
    refine ⟨h0, by omega, ?_⟩
    rw [← w.anc_par hi (by omega)]
    exact h.2
theorem par_nd {l : List Nd} (w : Wf l) {i : Nat} (h0 : 0 < i) (hi : i < l.length) : (nd l i).parent = (par l i : Nat) := by
  have hs := w.succ i l[i] h0 (List.getElem?_eq_getElem hi)
  have hp : par l i = (nd l i).parent.toNat := by
    simp only [par, List.getElem?_eq_getElem hi, Option.map_some, Option.getD_some, nd_at hi]
  rw [nd_at hi] at hp ⊢
  rw [hp]
  omega
theorem readyGo_all {c : Ch} {tp : Nat} (h : ChOk c tp) : ∀ (f i : Nat), i < c.l.length → i ≤ f → readyGo c (f + 1) i = true → ∀ k, On c.l k i → hasM c k = true
  | f, i, hi, hf, hg, k, hk => by
    rw [readyGo] at hg
    cases ho : onB c.l (i : Int) c.tip with
    | true =>
      rw [h.tip] at ho
      have := (onB_on hi h.lt).1 ho
      exact h.way k (On.trans h.wf h.lt hk this)
    | false =>
      rw [ho, if_neg (by decide)] at hg
      cases hh : hasM c (i : Int) with
      | false => rw [hh, if_neg (by decide)] at hg; cases hg
      | true =>
        rw [hh, if_pos rfl, inI_nat hi] at hg
        rcases On.parOr h.wf hi hk with rfl | ⟨h0, hp⟩
        · exact hh
        · rw [par_nd h.wf h0 hi] at hg
          have hlt := h.wf.par_lt h0 hi
          obtain ⟨f', rfl⟩ : ∃ f', f = f' + 1 := ⟨f - 1, by omega⟩
          exact readyGo_all h f' (par c.l i) (by omega) (by omega) hg k hp
  termination_by f => f
theorem readyM_all {c : Ch} {tp i : Nat} (h : ChOk c tp) (hi : i < c.l.length) (hg : readyM c i = true) : ∀ k, On c.l k i → hasM c k = true := readyGo_all h i i hi (Nat.le_refl _) hg
theorem upWay_some : ∀ {r : List Int} {c c2 : Ch} {i : Int}, upWay c r = (c2, some i) → i ∈ r
  | [], c, c2, i, h => by simp [upWay] at h
  | x :: r, c, c2, i, h => by
    rw [upWay] at h
    split at h
    · exact List.mem_cons_of_mem _ (upWay_some h)
    · simp only [Prod.mk.injEq, Option.some.injEq] at h
      rw [h.2]
      exact List.mem_cons_self
theorem upWay_W : ∀ (r : List Int) {c : Ch}, ChW c → ChW (upWay c r).1
  | [], c, h => h
  | x :: r, c, h => by
    rw [upWay]
    split
    · exact upWay_W r (h.ups x)
    · exact h
theorem upWay_tip : ∀ (r : List Int) {c c2 : Ch}, upWay c r = (c2, none) → c2.tip = r.getLast?.getD c.tip
  | [], c, c2, h => by
    simp only [upWay, Prod.mk.injEq, and_true] at h
    rw [← h]; rfl
  | x :: r, c, c2, h => by
    rw [upWay] at h
    split at h
    · rename_i hf
      have := upWay_tip r h
      rw [this, ups_tip hf]
      cases r with
      | nil => rfl
      | cons y r => simp [List.getLast?_cons]
    · simp at h
theorem upWay_in : ∀ (r : List Int) (c : Ch), (upWay c r).1.tip = c.tip ∨ (upWay c r).1.tip ∈ r
  | [], c => .inl rfl
  | x :: r, c => by
    rw [upWay]
    split
    · rename_i hf
      rcases upWay_in r (ups c x) with h | h
      · right
        rw [h, ups_tip hf]
        exact List.mem_cons_self
      · exact .inr (List.mem_cons_of_mem _ h)
    · exact .inl rfl
theorem upAll_W : ∀ (r : List Int) {c : Ch}, ChW c → ChW (upAll c r)
  | [], c, h => h
  | x :: r, c, h => upAll_W r (h.ups x)
theorem upAll_keep : ∀ (r : List Int) (c : Ch), (upAll c r).r = c.r ∧ (upAll c r).l = c.l ∧ (upAll c r).bs = c.bs
  | [], c => ⟨rfl, rfl, rfl⟩
  | x :: r, c => by
    obtain ⟨h1, h2, h3⟩ := ups_r c x
    obtain ⟨k1, k2, k3⟩ := upAll_keep r (ups c x)
    exact ⟨k1.trans h1, k2.trans h2, k3.trans h3⟩
theorem upAll_tip : ∀ (r : List Int) (c : Ch), (upAll c r).tip = c.tip ∨ (upAll c r).tip ∈ r
  | [], c => .inl rfl
  | x :: r, c => by
    rcases upAll_tip r (ups c x) with h | h
    · cases hf : fits1 c x with
      | true =>
        right
        rw [upAll, h, ups_tip hf]
        exact List.mem_cons_self
      | false =>
        left
        rw [upAll, h, ups_not hf]
    · right
      exact List.mem_cons_of_mem _ h
theorem wayM_mem {l : List Nd} (w : Wf l) {a b : Nat} (hb : b < l.length) {x : Int} (h : x ∈ wayM l a b) : ∃ k : Nat, x = k ∧ On l k b ∧ k < l.length ∧ 0 < k := by
  obtain ⟨j, hj, rfl⟩ := List.mem_iff_getElem.1 h
  obtain ⟨h1, h2, h3⟩ := wayM_at w hb hj
  rw [wayM_get]
  refine ⟨_, rfl, h1, h2, ?_⟩
  have := w.anc_hgt hb h3
  exact w.pos_of_hgt (i := anc l b (hgt l a + 1 + j)) (by omega)
theorem moveM_ok {c : Ch} {tp to : Nat} (h : ChOk c tp) (hto : to < c.l.length) (hr : ∀ k, On c.l k to → hasM c k = true) :
    (moveM c tp to).1.bs = c.bs ∧ (moveM c tp to).1.r = c.r ∧
    (((moveM c tp to).2 = true ∧ ChOk (moveM c tp to).1 to ∧ (moveM c tp to).1.l = c.l) ∨
     ((moveM c tp to).2 = false ∧ (∃ x : Nat, On c.l x to ∧ 0 < x ∧ x < c.l.length ∧ (moveM c tp to).1.l = (failM c.l x).1) ∧ ∃ tp', ChOk (moveM c tp to).1 tp')) := by
  have w := h.wf
  have htl := h.lt
  obtain ⟨m, hm⟩ : ∃ m, m = meetM c.l tp to := ⟨_, rfl⟩
  have hM := meet_spec w htl hto
  rw [← hm] at hM
  have hDm : hgt c.l m ≤ hgt c.l tp := hM.on1.1
  obtain ⟨c1, hc1⟩ : ∃ c1, c1 = downN (hgt c.l tp - hgt c.l m) c := ⟨_, rfl⟩
  obtain ⟨k1, k2, k3⟩ := downN_keep c (hgt c.l tp - hgt c.l m)
  have hW1 := downN_W h.toChW (hgt c.l tp - hgt c.l m)
  have ht1 := downN_tip w h.tip htl (hgt c.l tp - hgt c.l m) (by omega)
  rw [← hc1] at k1 k2 k3 hW1 ht1
  rw [show hgt c.l tp - (hgt c.l tp - hgt c.l m) = hgt c.l m by omega, hM.on1.2] at ht1
  obtain ⟨u1, u2, u3⟩ := upWay_keep (wayM c.l m to) c1
  have hWu := upWay_W (wayM c.l m to) hW1
  have hmv : moveM c tp to = (match upWay c1 (wayM c.l m to) with
      | (c2, none) => (c2, true)
      | (c2, some i) => (upAll (downN (hgt c.l c2.tip.toNat - hgt c.l m) { c2 with l := (failM c2.l i).1 }) (wayM c.l m tp), false)) := by
    rw [moveM, ← hm, ← hc1]
    all_goals rfl
  cases hu : upWay c1 (wayM c.l m to) with
  | mk c2 o =>
    rw [hu] at hmv u1 u2 u3 hWu
    cases o with
    | none =>
      have hmv : moveM c tp to = (c2, true) := hmv
      rw [hmv]
      refine ⟨u3.trans k3, u1.trans k1, .inl ⟨rfl, ⟨hWu, ?_, ?_, ?_⟩, u2.trans k2⟩⟩
      · have ht := upWay_tip _ hu
        rw [ht, ht1]
        by_cases hz : hgt c.l to = hgt c.l m
        · have : (wayM c.l m to) = [] := by
            apply List.eq_nil_of_length_eq_zero
            rw [wayM_len]; omega
          rw [this]
          have e := hM.on2.2
          rw [← hz, anc_self] at e
          rw [e]; rfl
        · have hlen := wayM_len c.l m to
          have h2 := hM.on2.1
          rw [List.getLast?_eq_getElem?, List.getElem?_eq_getElem (by omega), Option.getD_some, wayM_get]
          have e : hgt c.l m + 1 + ((wayM c.l m to).length - 1) = hgt c.l to := by omega
          rw [e, anc_self]
      · show to < c2.l.length
        rw [u2, k2]; exact hto
      · intro k hk
        have hk : On c.l k to := by
          have h2 : c2.l = c.l := u2.trans k2
          rw [h2] at hk
          exact hk
        have := hr k hk
        unfold hasM at this ⊢
        show (lk (k : Int) c2.bs).isSome = true
        rw [u3, k3]
        exact this
    | some i =>
      have hmv : moveM c tp to = (upAll (downN (hgt c.l c2.tip.toNat - hgt c.l m) { c2 with l := (failM c2.l i).1 }) (wayM c.l m tp), false) := hmv
      rw [hmv]
      obtain ⟨c3, hc3⟩ : ∃ c3 : Ch, c3 = { c2 with l := (failM c2.l i).1 } := ⟨_, rfl⟩
      rw [← hc3]
      have hW3 : ChW c3 := by rw [hc3]; exact hWu.failed i
      have hi := upWay_some hu
      obtain ⟨x, rfl, hx1, hx2, hx3⟩ := wayM_mem w hto hi
      have hl2 : c2.l = c.l := u2.trans k2
      have hb2 : c2.bs = c.bs := u3.trans k3
      have hr2 : c2.r = c.r := u1.trans k1
      have hl3 : c3.l = (failM c.l x).1 := by rw [hc3]; show (failM c2.l x).1 = _; rw [hl2]
      have hb3 : c3.bs = c.bs := by rw [hc3]; exact hb2
      have hr3 : c3.r = c.r := by rw [hc3]; exact hr2
      obtain ⟨c4, hc4⟩ : ∃ c4, c4 = downN (hgt c.l c2.tip.toNat - hgt c.l m) c3 := ⟨_, rfl⟩
      obtain ⟨q1, q2, q3⟩ := downN_keep c3 (hgt c.l c2.tip.toNat - hgt c.l m)
      have hW4 := downN_W hW3 (hgt c.l c2.tip.toNat - hgt c.l m)
      rw [← hc4] at q1 q2 q3 hW4 ⊢
      obtain ⟨a1, a2, a3⟩ := upAll_keep (wayM c.l m tp) c4
      have hW5 := upAll_W (wayM c.l m tp) hW4
      refine ⟨by rw [a3, q3, hb3], by rw [a1, q1, hr3], .inr ⟨rfl, ⟨x, hx1, hx3, hx2, by rw [a2, q2, hl3]⟩, ?_⟩⟩
      obtain ⟨fl, hfl⟩ := failM_setF c.l x
      have hl4 : c4.l = setF fl c.l := by rw [q2, hl3, hfl]
      have hl3' : c3.l = setF fl c.l := by rw [hl3, hfl]
      have ht2 : ∃ t2 : Nat, c2.tip = t2 ∧ t2 < c.l.length ∧ hgt c.l m ≤ hgt c.l t2 ∧ anc c.l t2 (hgt c.l m) = m := by
        have hin := upWay_in (wayM c.l m to) c1
        rw [hu] at hin
        rcases hin with e | e
        · exact ⟨m, by rw [← ht1]; exact e, hM.lt, Nat.le_refl _, anc_self m⟩
        · obtain ⟨j, hj, e'⟩ := List.mem_iff_getElem.1 e
          obtain ⟨y1, y2, y3⟩ := wayM_at w (a := m) hto hj
          rw [wayM_get] at e'
          refine ⟨_, e'.symm, y2, by rw [w.anc_hgt hto y3]; omega, ?_⟩
          rw [w.anc_anc hto (by omega) y3]
          exact hM.on2.2
      obtain ⟨t2, hc2t, ht2l, hgm, ham⟩ := ht2
      have hc3t : c3.tip = t2 := by rw [hc3]; exact hc2t
      have hd4 := downN_tip hW3.wf hc3t (by rw [hl3', setF_length]; exact ht2l) (hgt c.l c2.tip.toNat - hgt c.l m) (by rw [hc2t, Int.toNat_natCast, hl3', setF_hgt]; omega)
      rw [← hc4, hc2t, Int.toNat_natCast, hl3', setF_hgt, setF_anc, show hgt c.l t2 - (hgt c.l t2 - hgt c.l m) = hgt c.l m by omega, ham] at hd4
      have htip : ∃ tp' : Nat, (upAll c4 (wayM c.l m tp)).tip = tp' ∧ On c.l tp' tp ∧ tp' < c.l.length := by
        rcases upAll_tip (wayM c.l m tp) c4 with e | e
        · exact ⟨m, by rw [e, hd4], hM.on1, hM.lt⟩
        · obtain ⟨k, hk1, hk2, hk3, hk4⟩ := wayM_mem w htl e
          exact ⟨k, hk1, hk2, hk3⟩
      obtain ⟨tp', p1, p2, p3⟩ := htip
      refine ⟨tp', hW5, p1, by rw [a2, hl4, setF_length]; exact p3, fun k hk => ?_⟩
      rw [a2, hl4, setF_on] at hk
      have := h.way k (On.trans w htl hk p2)
      unfold hasM at this ⊢
      rw [a3, q3, hb3]
      exact this
end Go.Ab
set_option linter.unusedSimpArgs false
set_option linter.unusedVariables false
set_option maxRecDepth 10000
namespace Go.Ab
open Go Go.RowKit
def pickGo (c : Ch) : List Nat → Nat → Nat
  | [], b => b
  | i :: r, b => pickGo c r (if (nd c.l i).failed = false ∧ 0 < cmpU (natU (nd c.l i).work) (natU (nd c.l b).work) ∧ readyM c i = true then i else b)
def pickM (c : Ch) (tp : Nat) : Nat := pickGo c (List.range' 0 c.l.length) tp
theorem pickGo_in (c : Ch) : ∀ (r : List Nat) (b : Nat), pickGo c r b = b ∨ (pickGo c r b ∈ r ∧ (nd c.l (pickGo c r b)).failed = false ∧ readyM c (pickGo c r b) = true)
  | [], b => .inl rfl
  | i :: r, b => by
    rw [pickGo]
    by_cases h : (nd c.l i).failed = false ∧ 0 < cmpU (natU (nd c.l i).work) (natU (nd c.l b).work) ∧ readyM c i = true
    · rw [if_pos h]
      rcases pickGo_in c r i with e | ⟨e1, e2⟩
      · right
        rw [e]
        exact ⟨List.mem_cons_self, h.1, h.2.2⟩
      · exact .inr ⟨List.mem_cons_of_mem _ e1, e2⟩
    · rw [if_neg h]
      rcases pickGo_in c r b with e | ⟨e1, e2⟩
      · exact .inl e
      · exact .inr ⟨List.mem_cons_of_mem _ e1, e2⟩
theorem pickM_in (c : Ch) (tp : Nat) : pickM c tp = tp ∨ (pickM c tp < c.l.length ∧ (nd c.l (pickM c tp)).failed = false ∧ readyM c (pickM c tp) = true) := by
  rcases pickGo_in c (List.range' 0 c.l.length) tp with e | ⟨e1, e2⟩
  · exact .inl e
  · refine .inr ⟨?_, e2⟩
    have := List.mem_range'_1.1 e1
    unfold pickM
    omega
def sound (l : List Nd) : Nat := (List.range l.length).countP fun k => !(nd l k).failed
theorem countP_lt {p q : Nat → Bool} : ∀ {l : List Nat} {b : Nat}, b ∈ l → (∀ a ∈ l, q a = true → p a = true) → p b = true → q b = false → l.countP q < l.countP p
  | x :: l, b, hb, hpq, h1, h2 => by
    rw [List.countP_cons, List.countP_cons]
    have hle : l.countP q ≤ l.countP p := List.countP_mono_left fun a ha => hpq a (List.mem_cons_of_mem _ ha)
    rcases List.mem_cons.1 hb with rfl | hb
    · rw [h1, h2]
      simp
      omega
    · have := countP_lt hb (fun a ha => hpq a (List.mem_cons_of_mem _ ha)) h1 h2
      have hx := hpq x List.mem_cons_self
      cases hq : q x with
      | false => simp; split <;> omega
      | true => rw [hx hq]; simp; omega
theorem nd_setF {f : Nat → Bool} {l : List Nd} {k : Nat} (hk : k < l.length) : (nd (setF f l) k).failed = ((nd l k).failed || f k) := by
  rw [nd_at (by rw [setF_length]; exact hk), setF_get hk, nd_at hk]
  cases hf : f k <;> simp
theorem sound_fail {l : List Nd} (w : Wf l) {x b : Nat} (hx0 : 0 < x) (hx : x < l.length) (hb : b < l.length) (ho : On l x b) (hs : (nd l b).failed = false) : sound (failM l x).1 < sound l := by
  have hfm : (failM l x).1 = setF (fun k => onB l x k) l := by
    unfold failM
    rw [if_neg (by omega)]
  rw [hfm]
  unfold sound
  rw [setF_length]
  refine countP_lt (b := b) (List.mem_range.2 hb) (fun a ha hq => ?_) (by rw [hs]; rfl) ?_
  · rw [nd_setF (List.mem_range.1 ha)] at hq
    cases h : (nd l a).failed with
    | false => rfl
    | true => rw [h] at hq; simp at hq
  · rw [nd_setF hb, (onB_on hx hb).2 ho]
    simp
def followN : Nat → Ch → Ch
  | 0, c => c
  | n + 1, c => if pickM c c.tip.toNat = c.tip.toNat then c else if (moveM c c.tip.toNat (pickM c c.tip.toNat)).2 = true then (moveM c c.tip.toNat (pickM c c.tip.toNat)).1 else followN n (moveM c c.tip.toNat (pickM c c.tip.toNat)).1
def followM (c : Ch) : Ch := followN (sound c.l + 1) c
theorem followN_ok : ∀ (n : Nat) {c : Ch} {tp : Nat}, ChOk c tp → ∃ tp', ChOk (followN n c) tp' ∧ (followN n c).bs = c.bs ∧ (followN n c).r = c.r ∧ ∃ f, (followN n c).l = setF f c.l
  | 0, c, tp, h => ⟨tp, h, rfl, rfl, _, setF_none.symm⟩
  | n + 1, c, tp, h => by
    have ht : c.tip.toNat = tp := by rw [h.tip]; exact Int.toNat_natCast _
    rw [followN, ht]
    by_cases hp : pickM c tp = tp
    · rw [if_pos hp]
      exact ⟨tp, h, rfl, rfl, _, setF_none.symm⟩
    · rw [if_neg hp]
      rcases pickM_in c tp with e | ⟨e1, e2, e3⟩
      · exact absurd e hp
      obtain ⟨m1, m2, m3⟩ := moveM_ok h e1 (readyM_all h e1 e3)
      rcases m3 with ⟨m3, m4, m5⟩ | ⟨m3, ⟨x, x1, x2, x3, x4⟩, tp', m4⟩
      · rw [if_pos m3]
        exact ⟨_, m4, m1, m2, _, by rw [m5]; exact setF_none.symm⟩
      · rw [if_neg (by rw [m3]; decide)]
        obtain ⟨tp2, k1, k2, k3, f, k4⟩ := followN_ok n m4
        obtain ⟨g, hg⟩ := failM_setF c.l x
        exact ⟨tp2, k1, k2.trans m1, k3.trans m2, _, by rw [k4, x4, hg, setF_setF]⟩
theorem followM_ok {c : Ch} {tp : Nat} (h : ChOk c tp) : ∃ tp', ChOk (followM c) tp' ∧ (followM c).bs = c.bs ∧ (followM c).r = c.r ∧ ∃ f, (followM c).l = setF f c.l := followN_ok _ h
section
variable {P : Program} {F : Fn}
set_option maxHeartbeats 8000000 in
theorem spec274 (ok : OkChain P F) (hc : CloneC P (F 256)) {st : St} {cid : Nat} {c : Ch} {L : List Asn} (S : Sep (ChA cid c :: L) st) {tp : Nat} (h : ChOk c tp) :
    ACalls P (F 274) [.ptr (some (cid, 0))] st fun v st' => Sep (ChA cid (followM c) :: L) st' := by
  have okl := ok.toOkLocate
  have oki := okl.toOkIndexZ.toOkIndex
  have okn := oki.toOkHead.toOkNum
  refine shows_call ok.mixed ok.h274 (by simp [k274]) ?_
  simp only [k274]
  simp
  refine vc_loopJ (fun n env' st' => ∃ (f : Nat) (c2 : Ch) (tp2 : Nat), n = sound c2.l ∧ sound c2.l ≤ f ∧ followN (f + 1) c2 = followM c ∧ ChOk c2 tp2 ∧ Sep (ChA cid c2 :: L) st') (sound c.l)
    ⟨sound c.l, c, tp, rfl, Nat.le_refl _, rfl, h, S⟩ ?_
  clear S
  rintro J hJ n env1 st1 hsame ⟨f, c2, tp2, rfl, hf, hgo, h2, S⟩
  have g0 := (hsame.get 0 rfl).trans (by simp : _ = V.ptr (some (cid, 0)))
  clear hsame
  have w := h2.wf
  have hl := h2.len
  obtain ⟨mo, tid, bid, uid, R⟩ := chRead S
  have o1 := R.top
  have T := R.tree w.neNil
  rw [h2.tip] at o1
  simp [g0, St.seg, o1, cseg0, cseg4]
  refine (spec159 oki T).mono ?_
  rintro v st2 ⟨rfl, rfl⟩
  clear R T o1
  simp
  refine vc_joinB (M := fun env' st' => env' 2 = .int .i64 (pickM c2 tp2 : Nat) ∧ Sep (ChA cid c2 :: L) st') ?_ ?_
  · refine vc_loopJ (fun n env' st' => ∃ i b : Nat, i ≤ c2.l.length ∧ b < c2.l.length ∧ n = c2.l.length - i ∧ env' 14 = .int .i64 (i : Nat) ∧ env' 2 = .int .i64 (b : Nat) ∧ pickGo c2 (List.range' i (c2.l.length - i)) b = pickM c2 tp2 ∧ Sep (ChA cid c2 :: L) st') c2.l.length
      ⟨0, tp2, by omega, h2.lt, by omega, by simp, by simp, rfl, S⟩ ?_
    clear S
    rintro J2 hJ2 n env2 st3 hsame ⟨i, b, hi, hb, rfl, h14, h3, hg, S⟩
    have g0 := (hsame.get 0 rfl).trans (by simp [g0] : _ = V.ptr (some (cid, 0)))
    have g13 := (hsame.get 13 rfl).trans (by simp : _ = V.int .i64 (c2.l.length : Int))
    clear hsame
    by_cases hlt : i < c2.l.length
    · rw [show c2.l.length - i = (c2.l.length - (i + 1)) + 1 by omega, List.range'_succ, pickGo] at hg
      have w1 : IntKind.i64.wrap ((i : Int) + 1) = (i : Int) + 1 := wrap64 (by omega) (by omega)
      obtain ⟨mo, tid, bid, uid, R⟩ := chRead S
      have o1 := R.top
      have T := R.tree w.neNil
      simp [g0, g13, h14, hlt, St.seg, o1, cseg0]
      refine (spec161 oki T w i).mono ?_
      rintro v st4 ⟨rfl, rfl⟩
      rw [inI_nat hlt]
      clear R T o1
      simp
      intro i4 h4
      have S := S.new h4 (.cells z108_9b14)
      have hz : z108_9b14.length = 108 := rfl
      have hst := store_pt (sz := 108) (o := 0) S.get (v := .agg (eNd (nd c2.l i))) (vs := eNd (nd c2.l i)) rfl (eNd_len _) (by rw [hz]; omega)
      rw [show spliceV z108_9b14 0 (eNd (nd c2.l i)) = eNd (nd c2.l i) by simp [spliceV, eNd_len, hz]] at hst
      have S := S.set (.cells (eNd (nd c2.l i)))
      simp [hst] at S ⊢
      clear hst
      generalize st4.upd i4 _ = st5 at S ⊢
      have o4 := S.get
      have hfl7 := nseg107 (nd c2.l i)
      obtain ⟨mo, tid, bid, uid, R⟩ := chRead S.drop
      have o1 := R.top
      have T := R.tree w.neNil
      simp [St.seg, o4, hfl7]
      cases hfl : (nd c2.l i).failed with
      | true =>
        rw [if_neg (by rw [hfl]; rintro ⟨h, -⟩; cases h)] at hg
        simp [hfl, h14, w1]
        exact Round.mk (c2.l.length - (i + 1)) _ (by omega) (sub_self _) (hJ2 _ _ _ ⟨i + 1, b, by omega, hb, rfl, by simp, by simp [h3], hg, S.drop⟩)
      | false =>
        have hw := osegWork (nd c2.l i)
        have hwb := osegWork (nd c2.l b)
        have ew : ∀ x, V.agg (eU x) = nU x := fun x => rfl
        simp [hfl, g0, h3, o1, cseg0, St.seg, o4, hw]
        refine still_call _ _ _ _ (by simpa using spec161 oki T w b) ?_
        rw [inI_nat hb]
        have hfw : fldV true 103 4 (V.agg (eNd (nd c2.l b))) = some (nU (natU (nd c2.l b).work)) := by
          show (segOf _ 103 4).bind (packV true) = _
          rw [hwb]; rfl
        simp [hfw, ew]
        refine still_call _ _ _ _ (by simpa [ew] using spec106 okn st5 (natU (nd c2.l i).work) (natU (nd c2.l b).work)) ?_
        by_cases hcm : 0 < cmpU (natU (nd c2.l i).work) (natU (nd c2.l b).work)
        · simp [hcm, g0]
          refine still_call _ _ _ _ (by simpa [g0] using spec275 ok R w h2.tip h2.lt i hlt) ?_
          cases hrd : readyM c2 i with
          | true =>
            rw [if_pos ⟨hfl, hcm, hrd⟩] at hg
            simp [h14, w1]
            exact Round.mk (c2.l.length - (i + 1)) _ (by omega) (sub_self _) (hJ2 _ _ _ ⟨i + 1, i, by omega, hlt, rfl, by simp, by simp, hg, S.drop⟩)
          | false =>
            rw [if_neg (by rw [hrd]; rintro ⟨-, -, h⟩; cases h)] at hg
            simp [h14, w1]
            exact Round.mk (c2.l.length - (i + 1)) _ (by omega) (sub_self _) (hJ2 _ _ _ ⟨i + 1, b, by omega, hb, rfl, by simp, by simp [h3], hg, S.drop⟩)
        · rw [if_neg (fun h => hcm h.2.1)] at hg
          simp [hcm, h14, w1]
          exact Round.mk (c2.l.length - (i + 1)) _ (by omega) (sub_self _) (hJ2 _ _ _ ⟨i + 1, b, by omega, hb, rfl, by simp, by simp [h3], hg, S.drop⟩)
    · have : i = c2.l.length := by omega
      subst this
      rw [Nat.sub_self] at hg
      have hg : b = pickM c2 tp2 := hg
      simp [g13, h14]
      exact ⟨by rw [h3, hg], S⟩
  clear S
  rintro env2 st3 hsame ⟨h3, S⟩
  have g0 := (hsame.get 0 rfl).trans (by simp [g0] : _ = V.ptr (some (cid, 0)))
  clear hsame
  have ht2 : c2.tip.toNat = tp2 := by rw [h2.tip]; exact Int.toNat_natCast _
  rw [followN, ht2] at hgo
  obtain ⟨mo, tid, bid, uid, R⟩ := chRead S
  have o1 := R.top
  rw [h2.tip] at o1
  by_cases hp : pickM c2 tp2 = tp2
  · rw [if_pos hp] at hgo
    rw [hp] at h3
    simp [g0, h3, St.seg, o1, cseg4]
    rw [← hgo]
    exact ⟨st3, sub_self _, S⟩
  · rw [if_neg hp] at hgo
    rcases pickM_in c2 tp2 with e | ⟨e1, e2, e3⟩
    · exact absurd e hp
    have hra := readyM_all h2 e1 e3
    have hpb : (((pickM c2 tp2 : Nat) : Int) == (tp2 : Int)) = false := beq_eq_false_iff_ne.2 (by omega)
    simp [g0, h3, St.seg, o1, cseg4, hpb]
    refine (spec276 ok hc S h2 (pickM c2 tp2) e1 hra).mono ?_
    clear S R o1
    rintro v st4 ⟨rfl, S⟩
    obtain ⟨m1, m2, m3⟩ := moveM_ok h2 e1 hra
    rcases m3 with ⟨m3, m4, m5⟩ | ⟨m3, ⟨x, x1, x2, x3, x4⟩, tp', m4⟩
    · rw [if_pos m3] at hgo
      rw [m3]
      simp
      rw [← hgo]
      exact ⟨st4, sub_self _, S⟩
    · rw [if_neg (by rw [m3]; decide)] at hgo
      rw [m3]
      simp
      have hlt := sound_fail w x2 x3 e1 x1 e2
      rw [← x4] at hlt
      obtain ⟨f', rfl⟩ : ∃ f', f = f' + 1 := ⟨f - 1, by omega⟩
      exact Round.mk _ _ hlt (sub_self _) (hJ _ _ _ ⟨f', _, tp', rfl, by omega, hgo, m4, S⟩)
end
end Go.Ab
set_option linter.unusedSimpArgs false
set_option linter.unusedVariables false
set_option maxRecDepth 10000
namespace Go.Ab
open Go Go.RowKit
def bodyM (c : Ch) (b : Blk1) : Ch × Int × Int :=
  match findM c.l (hId b.hdr) with
  | none => (c, -1, 4)
  | some i =>
    if (nd c.l i).hdr ≠ b.hdr then (c, -1, 4)
    else if (nd c.l i).failed = true then (c, -1, 101)
    else if hasM c i = true then (c, -1, 5)
    else if rootE b ≠ 0 then (c, -1, rootE b)
    else if blkE b ≠ 0 then ({ c with l := (failM c.l i).1 }, -1, blkE b)
    else (followM { c with bs := aSet (i : Int) (cloneB b) c.bs }, i, 0)
theorem eqL_hdr2 (x y : Hdr) : eqL (eHdr x) (eHdr y) = some (decide (x = y)) := by
  have e : ∀ h : Hdr, eHdr h = [w32 h.ver] ++ (eId h.prev ++ (eId h.root ++ ([w32 h.time] ++ ([w32 h.bits] ++ [w32 h.nonce])))) := fun h => rfl
  rw [e x, e y, eqL_app _ _ _ _ _ _ (eqL_w32 x.ver y.ver) (eqL_app _ _ _ _ _ _ (eqL_id x.prev y.prev) (eqL_app _ _ _ _ _ _ (eqL_id x.root y.root) (eqL_app _ _ _ _ _ _ (eqL_w32 x.time y.time) (eqL_app _ _ _ _ _ _ (eqL_w32 x.bits y.bits) (eqL_w32 x.nonce y.nonce)))))]
  congr 1
  rw [Bool.eq_iff_iff]
  simp only [Bool.and_eq_true, decide_eq_true_eq]
  constructor
  · rintro ⟨h1, h2, h3, h4, h5, h6⟩
    cases x
    cases y
    simp_all
  · rintro rfl
    simp
theorem eqK_hdr2 (x y : Hdr) : eqK (.agg 68) (.agg (eHdr x)) (.agg (eHdr y)) = some (decide (x = y)) := by simp [eqK, eHdr_len, eqL_hdr2]
theorem cloneT_ok {t : Tx1} (h : t.ok 100) : (cloneT t).ok 100 := by
  refine ⟨by simpa [cloneT] using h.1, h.2.1, fun x hx => ?_⟩
  obtain ⟨y, hy, rfl⟩ := List.mem_map.1 hx
  exact h.2.2 y hy
theorem ChOk.more {c : Ch} {tp : Nat} (h : ChOk c tp) (i : Int) (b : Blk1) (t : Tx1) (hb : b.txs = [t]) (ht : t.ok 100) : ChOk { c with bs := aSet i (cloneB b) c.bs } tp := by
  refine ⟨⟨h.wf, h.len, fun j b' hj => ?_, h.us, h.s1, h.s2⟩, h.tip, h.lt, fun k hk => ?_⟩
  · have hj : lk j (aSet i (cloneB b) c.bs) = some b' := hj
    rw [lk_aSet] at hj
    split at hj
    · cases hj
      exact ⟨cloneT t, by simp [cloneB, hb], cloneT_ok ht⟩
    · exact h.one j b' hj
  · have := h.way k hk
    unfold hasM at this ⊢
    show (lk (k : Int) (aSet i (cloneB b) c.bs)).isSome = true
    rw [lk_aSet]
    split
    · rfl
    · exact this
theorem ChOk.failed {c : Ch} {tp : Nat} (h : ChOk c tp) (i : Int) : ChOk { c with l := (failM c.l i).1 } tp := by
  obtain ⟨f, hf⟩ := failM_setF c.l i
  refine ⟨h.toChW.failed i, h.tip, by show tp < (failM c.l i).1.length; rw [hf, setF_length]; exact h.lt, fun k hk => ?_⟩
  have hk : On (failM c.l i).1 k tp := hk
  rw [hf, setF_on] at hk
  exact h.way k hk
theorem bodyM_ok {c : Ch} {tp : Nat} (h : ChOk c tp) (b : Blk1) (t : Tx1) (hb : b.txs = [t]) (ht : t.ok 100) : ∃ tp', ChOk (bodyM c b).1 tp' ∧ (bodyM c b).1.r = c.r ∧ ∃ f, (bodyM c b).1.l = setF f c.l := by
  unfold bodyM
  split
  · exact ⟨tp, h, rfl, _, setF_none.symm⟩
  · rename_i i hi
    split
    · exact ⟨tp, h, rfl, _, setF_none.symm⟩
    · split
      · exact ⟨tp, h, rfl, _, setF_none.symm⟩
      · split
        · exact ⟨tp, h, rfl, _, setF_none.symm⟩
        · split
          · exact ⟨tp, h, rfl, _, setF_none.symm⟩
          · split
            · exact ⟨tp, h.failed i, rfl, failM_setF c.l i⟩
            · obtain ⟨tp', k1, k2, k3, k4⟩ := followM_ok (h.more i b t hb ht)
              exact ⟨tp', k1, k3, k4⟩
section
variable {P : Program} {F : Fn}
set_option maxHeartbeats 8000000 in
theorem spec273 (ok : OkChain P F) (hc : CloneC P (F 256)) {st : St} {cid : Nat} {c : Ch} {L : List Asn} (S : Sep (ChA cid c :: L) st) {tp : Nat} (h : ChOk c tp) (b : Blk1) (t : Tx1) (hb : b.txs = [t]) (ht : t.ok 100) :
    ACalls P (F 273) [.ptr (some (cid, 0)), .agg (eBlk b)] st fun v st' => v = .tup [.int .i64 (bodyM c b).2.1, .int .i64 (bodyM c b).2.2] ∧ Sep (ChA cid (bodyM c b).1 :: L) st' := by
  have okl := ok.toOkLocate
  have okz := okl.toOkIndexZ
  have oki := okz.toOkIndex
  have okh := oki.toOkHead
  have okc2 := ok.toOkCoins.toOkCheck2
  refine shows_call ok.mixed ok.h273 (by simp [k273]) ?_
  simp only [k273]
  have w := h.wf
  have hsH := bsegH b
  have hsA := bsegAll b
  have hfH : ∀ x, fldV true 0 68 (V.agg (eNd x)) = some (.agg (eHdr x.hdr)) := fun x => by
    show (segOf _ 0 68).bind (packV true) = _
    rw [osegHdr]; rfl
  have hfF : ∀ x, fldV false 107 1 (V.agg (eNd x)) = some (.bool x.failed) := fun x => by
    show (segOf _ 107 1).bind (packV false) = _
    rw [nseg107]; rfl
  simp
  intro i3 h3
  have S := S.new h3 (.cells (eBlk b))
  generalize st.upd i3 _ = st1 at S ⊢
  have o3 := S.get
  obtain ⟨mo, tid, bid, uid, R⟩ := chRead S.drop
  have o1 := R.top
  have T := R.tree w.neNil
  simp [St.seg, o1, o3, cseg0, hsH]
  refine still_call _ _ _ _ (by simpa using spec141 okh st1 b.hdr) ?_
  simp
  refine still_call _ _ _ _ (by simpa using spec162 okz T (hId b.hdr)) ?_
  have hbm : bodyM c b = (match findM c.l (hId b.hdr) with
      | none => (c, -1, 4)
      | some i =>
        if (nd c.l i).hdr ≠ b.hdr then (c, -1, 4)
        else if (nd c.l i).failed = true then (c, -1, 101)
        else if hasM c i = true then (c, -1, 5)
        else if rootE b ≠ 0 then (c, -1, rootE b)
        else if blkE b ≠ 0 then ({ c with l := (failM c.l i).1 }, -1, blkE b)
        else (followM { c with bs := aSet (i : Int) (cloneB b) c.bs }, i, 0)) := rfl
  cases hfi : findM c.l (hId b.hdr) with
  | none =>
    rw [hfi] at hbm
    simp only at hbm
    rw [hbm]
    simp
    exact ⟨st1, sub_self _, S.drop⟩
  | some i =>
    have hil := findM_lt hfi
    rw [hfi] at hbm
    simp only at hbm
    simp
    simp [St.seg, o1, cseg0]
    refine still_call _ _ _ _ (by simpa using spec161 oki T w i) ?_
    rw [inI_nat hil]
    simp [hfH, St.seg, o3, hsH]
    rw [eqK_hdr2]
    by_cases hh : (nd c.l i).hdr = b.hdr
    · rw [if_neg (by simp [hh])] at hbm
      simp [hh, St.seg, o1, cseg0]
      refine (spec161 oki T w i).mono ?_
      rintro v st2 ⟨rfl, rfl⟩
      rw [inI_nat hil]
      cases hfl : (nd c.l i).failed with
      | true =>
        rw [if_pos hfl] at hbm
        rw [hbm]
        simp [hfF, hfl]
        exact ⟨st2, sub_self _, S.drop⟩
      | false =>
        rw [if_neg (by rw [hfl]; decide)] at hbm
        simp [hfF, hfl]
        refine (spec268 ok R i).mono ?_
        rintro v st3 ⟨rfl, rfl⟩
        cases hha : hasM c (i : Int) with
        | true =>
          rw [if_pos hha] at hbm
          rw [hbm]
          simp
          exact ⟨st3, sub_self _, S.drop⟩
        | false =>
          rw [if_neg (by rw [hha]; decide)] at hbm
          simp [St.seg, o3, hsA]
          refine (spec252 okc2 st3 b (by rw [hb]; simp) (fun t' ht' => by rw [hb] at ht'; rw [List.mem_singleton.1 ht']; exact ht)).mono ?_
          rintro v st4 ⟨rfl, hsub⟩
          clear R T o1
          have S := S.sub hsub
          have o3 := S.get
          by_cases hre : rootE b = 0
          · rw [if_neg (by rw [hre]; simp)] at hbm
            simp [hre, St.seg, o3, hsA]
            refine (spec253 okc2 st4 b (by rw [hb]; simp) (fun t' ht' => by
              rw [hb] at ht'
              rw [List.mem_singleton.1 ht']
              exact ⟨Nat.le_trans ht.1 (by decide), Nat.le_trans ht.2.1 (by decide), fun x hx => Nat.le_trans (ht.2.2 x hx) (by decide)⟩)).mono ?_
            rintro v st5 ⟨rfl, hsub⟩
            have S := S.sub hsub
            have o3 := S.get
            by_cases hbe : blkE b = 0
            · rw [if_neg (by rw [hbe]; simp)] at hbm
              obtain ⟨tid, bid, uid, W⟩ := chOpen S.drop
              obtain ⟨mo, R⟩ := ChR.at W
              have o1 := R.top
              simp [hbe, St.seg, o1, o3, cseg2, hsA]
              refine still_call _ _ _ _ (by simpa using spec271 ok st5 b (by rw [hb]; simp) (fun t' ht' => by rw [hb] at ht'; rw [List.mem_singleton.1 ht']; exact ht)) ?_
              have hms := mset_enc keyed_int (ev := vBlk) R.bod (i : Int) (cloneB b)
              simp only [kInt] at hms
              have W3 := SetS.setL (i := bid) (x := .mp (encM kInt vBlk c.bs)) (W.tail (L' := pt bid (.mp (encM kInt vBlk c.bs)) :: TreeS tid c.r c.l :: pt uid (.mp (encM kInt vUndo c.us)) :: L) fun r h => h.pull 1) (.mp (encM kInt vBlk (aSet (i : Int) (cloneB b) c.bs)))
              obtain ⟨st6, hst6⟩ : ∃ s, s = st5.upd bid (.mp (encM kInt vBlk (aSet (i : Int) (cloneB b) c.bs))) := ⟨_, rfl⟩
              rw [← hst6] at W3 hms
              have S6 : Sep (ChA cid { c with bs := aSet (i : Int) (cloneB b) c.bs } :: L) st6 := chClose (c := { c with bs := aSet (i : Int) (cloneB b) c.bs }) (W3.tail fun r h => h.swap)
              simp [hms]
              refine (spec274 ok hc S6 (h.more i b t hb ht)).mono ?_
              intro v st7 S7
              rw [hbm]
              simp
              exact ⟨st7, sub_self _, S7⟩
            · rw [if_pos hbe] at hbm
              have hbb : (blkE b != 0) = true := by simpa using hbe
              obtain ⟨mo, tid, bid, uid, R, hgrow⟩ := chGrow (P := P) S.drop
              have o1 := R.top
              simp [hbb, hbe, St.seg, o1, cseg0]
              refine (hgrow (F 170) [.ptr (some (tid, 0)), .int .i64 (i : Int)] (fun _ => True) (failM c.l i).1 (fun hp hT => (spec170 oki hT w h.len i).mono fun v s hh => ⟨trivial, hh.2⟩)).mono ?_
              rintro v st6 ⟨-, S6⟩
              rw [hbm]
              simp
              exact ⟨st6, sub_self _, S6⟩
          · rw [if_pos hre] at hbm
            have hrb : (rootE b != 0) = true := by simpa using hre
            rw [hbm]
            simp [hrb, hre]
            exact ⟨st4, sub_self _, S.drop⟩
    · rw [if_pos hh] at hbm
      rw [hbm]
      simp [hh]
      exact ⟨st1, sub_self _, S.drop⟩
end
end Go.Ab
set_option linter.unusedSimpArgs false
set_option linter.unusedVariables false
set_option maxRecDepth 10000
namespace Go.Ab
open Go Go.RowKit
theorem w18Go_one : ∀ (ps : List Int) (i : Nat) (l : List Nd) (bl : List Blk1), (∀ b ∈ bl, ∃ m, b.txs = [w18Tx m]) → ∀ b ∈ (w18Go i ps (l, bl)).2, ∃ m, b.txs = [w18Tx m]
  | [], i, l, bl, h => h
  | p :: ps, i, l, bl, h => by
    rw [w18Go]
    refine w18Go_one ps (i + 1) (w18Step (l, bl) i p).1 (w18Step (l, bl) i p).2 fun b hb => ?_
    simp only [w18Step] at hb
    split at hb
    · rcases List.mem_append.1 hb with hb | hb
      · exact h b hb
      · rw [List.mem_singleton.1 hb]
        exact ⟨_, rfl⟩
    · exact h b hb
theorem w18M_one (ps : List Int) : ∀ b ∈ (w18M ps).2, ∃ m, b.txs = [w18Tx m] := w18Go_one ps 0 _ _ fun b hb => ⟨0, by rw [List.mem_singleton.1 hb]; rfl⟩
theorem w18_chok {l : List Nd} (h : W18 l) : ChOk (w18C l) 0 := by
  refine ⟨⟨h.wf, h.len, fun i b hb => ?_, fun e he => (by cases he), (show (-4611686018427387904 : Int) ≤ 50 by decide), (show (50 : Int) ≤ 4611686018427387904 by decide)⟩, rfl, h.wf.ne, fun k hk => ?_⟩
  · have := lk_in hb
    have : (i, b) = (0, w18G) := List.mem_singleton.1 this
    cases this
    exact ⟨w18Tx 0, rfl, w18Tx_ok 0⟩
  · have h0 := hgtZ h.wf
    have h1 : hgt l k = 0 := by have := hk.1; have h2 : hgt (w18C l).l k ≤ hgt (w18C l).l 0 := this; have h3 : (w18C l).l = l := rfl; rw [h3] at h2; omega
    have h2 : anc l 0 (hgt l k) = k := hk.2
    rw [h1] at h2
    have h3 : anc l 0 0 = 0 := by have := anc_self (l := l) 0; rwa [h0] at this
    have : k = 0 := by rw [← h2, h3]
    subst this
    rfl
def wantH (c : Ch) (es : Fls) (who : Int) (best : Nat) : Nat → List Int
  | 0 => []
  | h + 1 => if (lk ((anc c.l best (h + 1) : Nat) : Int) es).isSome = false ∧ hasM c (anc c.l best (h + 1) : Nat) = false ∧ (wantH c es who best h).length < 16 - countM es who ∧ (nd c.l best).failed = false
      then wantH c es who best h ++ [((anc c.l best (h + 1) : Nat) : Int)] else wantH c es who best h
theorem wantH_bad {c : Ch} {es : Fls} {who : Int} {best : Nat} (hf : (nd c.l best).failed = true) : ∀ h, wantH c es who best h = []
  | 0 => rfl
  | h + 1 => by
    rw [wantH, if_neg (by rw [hf]; rintro ⟨-, -, -, h⟩; cases h)]
    exact wantH_bad hf h
theorem wantH_eq {c : Ch} {es : Fls} {who : Int} {best : Nat} (hf : (nd c.l best).failed = false) : ∀ h,
    wantH c es who best h = (((List.range h).map fun k => ((anc c.l best (k + 1) : Nat) : Int)).filter fun i => !(lk i es).isSome && !hasM c i).take (16 - countM es who)
  | 0 => by simp [wantH]
  | h + 1 => by
    have ih := wantH_eq (es := es) (who := who) hf h
    rw [wantH, List.range_succ, List.map_append, List.filter_append, List.take_append]
    generalize hF : (((List.range h).map fun k => ((anc c.l best (k + 1) : Nat) : Int)).filter fun i => !(lk i es).isSome && !hasM c i) = F at ih ⊢
    have hlen : (wantH c es who best h).length = min (16 - countM es who) F.length := by rw [ih, List.length_take]
    by_cases hp : (lk ((anc c.l best (h + 1) : Nat) : Int) es).isSome = false ∧ hasM c (anc c.l best (h + 1) : Nat) = false
    · have hfl : ([h].map fun k => ((anc c.l best (k + 1) : Nat) : Int)).filter (fun i => !(lk i es).isSome && !hasM c i) = [((anc c.l best (h + 1) : Nat) : Int)] := by
        have hn := hp.1
        simp at hn
        simp [hn, hp.2]
      rw [hfl]
      by_cases hq : F.length < 16 - countM es who
      · rw [if_pos ⟨hp.1, hp.2, by omega, hf⟩, ih, List.take_of_length_le (l := [((anc c.l best (h + 1) : Nat) : Int)]) (by simp; omega)]
      · rw [if_neg (by rintro ⟨-, -, h3, -⟩; omega), ih, show 16 - countM es who - F.length = 0 by omega, List.take_zero, List.append_nil]
    · have hfl : ([h].map fun k => ((anc c.l best (k + 1) : Nat) : Int)).filter (fun i => !(lk i es).isSome && !hasM c i) = [] := by
        rw [List.map_cons, List.map_nil, List.filter_cons]
        rw [if_neg]
        · rfl
        · intro h'
          rw [Bool.and_eq_true, Bool.not_eq_true', Bool.not_eq_true'] at h'
          exact hp h'
      rw [if_neg (fun h => hp ⟨h.1, h.2.1⟩), hfl, List.take_nil, List.append_nil, ih]
theorem wantM_eq {c : Ch} {tp : Nat} (h : ChOk c tp) (hl : c.l.length ≤ 1000) (es : Fls) (who : Int) {best : Nat} (hb : best < c.l.length) : wantM c es who best = wantH c es who best (hgt c.l best) := by
  have w := h.wf
  have hbi : inI c.l (best : Int) = best := inI_nat hb
  unfold wantM
  cases hf : (nd c.l best).failed with
  | true => rw [if_pos (.inr (.inr (by rw [hbi]; exact hf))), wantH_bad hf]
  | false =>
    rw [if_neg (by rw [hbi, hf]; rintro (h1 | h1 | h1) <;> first | omega | cases h1), wantH_eq hf]
    obtain ⟨m, hm⟩ : ∃ m, m = meetM c.l tp best := ⟨_, rfl⟩
    have hM := meet_spec w h.lt hb
    rw [← hm] at hM
    have cl1 : clI c.l c.tip = tp := by rw [h.tip]; have := h.lt; unfold clI; omega
    have cl2 : clI c.l (best : Int) = best := by unfold clI; omega
    rw [cl1, cl2, ← hm, wayI_on w hb hM.lt hM.on2, wantGo_eq _ _ (fun i hi => by
      obtain ⟨k, rfl, k1, k2, k3⟩ := wayM_mem w hb hi
      rw [inI_nat k2, nd_hgt_eq k2]
      have := w.hgt_le k2
      omega)]
    rw [List.nil_append, List.length_nil, show ((16 : Int) - (countM es who : Int) - ((0 : Nat) : Int)).toNat = 16 - countM es who by omega]
    congr 1
    have hsplit : (List.range (hgt c.l best)).map (fun k => ((anc c.l best (k + 1) : Nat) : Int)) = ((List.range (hgt c.l m)).map fun k => ((anc c.l best (k + 1) : Nat) : Int)) ++ wayM c.l m best := by
      have hle := hM.on2.1
      obtain ⟨d, hd⟩ := Nat.exists_eq_add_of_le hle
      rw [hd, List.range_add, List.map_append, List.map_map]
      congr 1
      unfold wayM
      rw [hd, Nat.add_sub_cancel_left]
      refine List.map_congr_left fun k hk => ?_
      show ((anc c.l best (hgt c.l m + k + 1) : Nat) : Int) = _
      rw [show hgt c.l m + k + 1 = hgt c.l m + 1 + k by omega]
    rw [hsplit, List.filter_append]
    have hnone : ((List.range (hgt c.l m)).map fun k => ((anc c.l best (k + 1) : Nat) : Int)).filter (fun i => !(lk i es).isSome && !hasM c i) = [] := by
      rw [List.filter_eq_nil_iff]
      intro i hi
      obtain ⟨k, hk, rfl⟩ := List.mem_map.1 hi
      have hk := List.mem_range.1 hk
      have hle := hM.on2.1
      have ho : On c.l (anc c.l best (k + 1)) m := On.chain w hb (On.of w hb (by omega)) hM.on2 (by rw [w.anc_hgt hb (by omega)]; omega)
      have := h.way _ (On.trans w h.lt ho hM.on1)
      simp [this]
    rw [hnone, List.nil_append]
section
variable {P : Program} {F : Fn}
set_option maxHeartbeats 32000000 in
theorem spec299 (ok : OkLaw18 P F) (hc : CloneC P (F 256)) (st : St) {s0 s1 s2 : V} {ps bo : List Int} {ask : List (Int × Int)} (hr0 : Rd 1 e1 s0 ps st) (hr1 : Rd 1 e1 s1 bo st) (hr2 : Rd 2 e2 s2 ask st) : ACalls P (F 299) [s0, s1, s2] st fun v st' => v = .bool true ∧ st' = st := by
  have okw := ok.toOkWindow
  have okc := okw.toOkChain
  have oki := okc.toOkLocate.toOkIndexZ.toOkIndex
  refine shows_call ok.mixed ok.h299 (by simp [k299]) ?_
  simp only [k299]
  have eqp : ∀ c, eqK .ptr (V.ptr (some (c, 0))) (V.ptr none) = some false := fun _ => rfl
  have hfH : ∀ x, fldV false 102 1 (V.agg (eNd x)) = some (.int .i64 x.height) := fun x => by
    show (segOf _ 102 1).bind (packV false) = _
    rw [osegHgt]; rfl
  have hfF : ∀ x, fldV false 107 1 (V.agg (eNd x)) = some (.bool x.failed) := fun x => by
    show (segOf _ 107 1).bind (packV false) = _
    rw [nseg107]; rfl
  simp
  refine (wants_true ok hc st).mono ?_
  rintro v st1 ⟨rfl, rfl⟩
  have hlen0 := hr0.len
  have hlen1 := hr1.len
  have hlen2 := hr2.len
  by_cases c1 : 30 < ps.length
  · have c1' : 30 < (ps.length : Int) := by omega
    simp [hlen0, c1']
  have c1' : ¬ 30 < (ps.length : Int) := by omega
  by_cases c2 : 40 < bo.length
  · have c2' : 40 < (bo.length : Int) := by omega
    simp [hlen0, c1', hlen1, c2']
  have c2' : ¬ 40 < (bo.length : Int) := by omega
  by_cases c3 : 60 < ask.length
  · have c3' : 60 < (ask.length : Int) := by omega
    simp [hlen0, c1', hlen1, c2', hlen2, c3']
  have c3' : ¬ 60 < (ask.length : Int) := by omega
  simp [hlen0, c1', hlen1, c2', hlen2, c3']
  refine (spec291 ok hc st1 hr0 (by omega)).mono ?_
  rintro v st2 ⟨cid, s', rfl, S⟩
  obtain ⟨hW, hll⟩ := w18M_sound ps
  have hone := w18M_one ps
  generalize (w18M ps).2 = bl at S hone
  generalize (w18M ps).1 = l at S hW hll
  have hl31 : l.length ≤ 31 := by omega
  simp [eqp, hlen1]
  have hC0 := w18_chok hW
  refine vc_joinB (M := fun env' st' => ∃ (c : Ch) (tp : Nat), ChOk c tp ∧ c.l.length ≤ 31 ∧ Sep [ChA cid c, Was st1] st') ?_ ?_
  · refine vc_loopJ (fun n env' st' => ∃ (i : Nat) (c : Ch) (tp : Nat), i ≤ bo.length ∧ n = bo.length - i ∧ env' 48 = .int .i64 (i : Nat) ∧ ChOk c tp ∧ c.l.length ≤ 31 ∧ Sep [ChA cid c, Slv 69 eBlk s' bl, Was st1] st') bo.length
      ⟨0, w18C l, 0, by omega, by omega, by simp, hC0, hl31, S.swap⟩ ?_
    clear S
    rintro J hJ n env1 st3 hsame ⟨i, c, tp, hi, rfl, h48, hC, hcl, S⟩
    have g7 := (hsame.get 7 rfl).trans (by simp : _ = V.ptr (some (cid, 0)))
    have g8 := (hsame.get 8 rfl).trans (by simp : _ = s')
    have g46 := (hsame.get 46 rfl).trans (by simp : _ = s1)
    have g47 := (hsame.get 47 rfl).trans (by simp : _ = V.int .i64 (bo.length : Int))
    clear hsame
    by_cases hlt : i < bo.length
    · have w1 : IntKind.i64.wrap ((i : Int) + 1) = (i : Int) + 1 := wrap64 (by omega) (by omega)
      obtain ⟨r1, r2, r3, r4⟩ := (hr1.sub (S.was' (st0 := st1) (by simp))).row e1_len hlt
      obtain ⟨x, hx⟩ : ∃ x, x = bo[i] := ⟨_, rfl⟩
      rw [← hx] at r3
      have hrb := Sep.slvRd eBlk_len S.swap
      have hlb := hrb.len
      by_cases hx0 : x < 0
      · have hx0' : ¬ 0 ≤ x := by omega
        simp [g46, g47, h48, hlt, r1, r3, e1, hx0', w1]
        exact Round.mk (bo.length - (i + 1)) _ (by omega) (sub_self _) (hJ _ _ _ ⟨i + 1, c, tp, by omega, rfl, by simp, hC, hcl, S⟩)
      have hx0' : 0 ≤ x := by omega
      by_cases hxl : x < bl.length
      · obtain ⟨k, rfl⟩ : ∃ k : Nat, x = k := ⟨x.toNat, by omega⟩
        have hkl : k < bl.length := by omega
        obtain ⟨t1, t2, t3, t4⟩ := hrb.row eBlk_len hkl
        obtain ⟨b, hb⟩ : ∃ b, b = bl[k] := ⟨_, rfl⟩
        rw [← hb] at t3
        obtain ⟨mk, hmk⟩ := hone b (hb ▸ List.getElem_mem hkl)
        simp [g7, g8, g46, g47, h48, hlt, r1, r3, e1, hx0', hlb, hxl, hkl, t1, t3]
        refine (spec273 okc hc S hC b _ hmk (w18Tx_ok mk)).mono ?_
        rintro v st4 ⟨-, S⟩
        obtain ⟨tp', hC', -, f, hf⟩ := bodyM_ok hC b _ hmk (w18Tx_ok mk)
        simp [h48, w1]
        exact Round.mk (bo.length - (i + 1)) _ (by omega) (sub_self _) (hJ _ _ _ ⟨i + 1, _, tp', by omega, rfl, by simp, hC', by rw [hf, setF_length]; exact hcl, S⟩)
      · simp [g8, g46, g47, h48, hlt, r1, r3, e1, hx0', hlb, hxl, w1]
        exact Round.mk (bo.length - (i + 1)) _ (by omega) (sub_self _) (hJ _ _ _ ⟨i + 1, c, tp, by omega, rfl, by simp, hC, hcl, S⟩)
    · have : i = bo.length := by omega
      subst this
      simp [g47, h48]
      exact ⟨c, ⟨tp, hC⟩, hcl, S.tail fun r h => h.drop⟩
  clear S
  rintro env1 st3 hsame ⟨c, tp, hC, hcl, S⟩
  have g2 := (hsame.get 2 rfl).trans (by simp : _ = s2)
  have g7 := (hsame.get 7 rfl).trans (by simp : _ = V.ptr (some (cid, 0)))
  clear hsame hW hll hone hC0
  simp
  intro i11 hi11
  have W : WinS i11 [] 0 (ChA cid c :: [Was st1]) (st3.upd i11 (.cells [.map none, .int .i64 0])) := WinS.start (S.new hi11 _)
  generalize st3.upd i11 _ = st4 at W ⊢
  clear S
  simp [g2, hlen2]
  refine vc_joinB (M := fun env' st' => ∃ es : Fls, es.length ≤ 60 ∧ WinS i11 es 0 (ChA cid c :: [Was st1]) st') ?_ ?_
  · refine vc_loopJ (fun n env' st' => ∃ (i : Nat) (es : Fls), i ≤ ask.length ∧ n = ask.length - i ∧ env' 69 = .int .i64 (i : Nat) ∧ es.length ≤ i ∧ WinS i11 es 0 (ChA cid c :: [Was st1]) st') ask.length
      ⟨0, [], by omega, by omega, by simp, by simp, W⟩ ?_
    clear W
    rintro J hJ n env2 st5 hsame ⟨i, es, hi, rfl, h69, hel, W⟩
    have g11 := (hsame.get 11 rfl).trans (by simp : _ = V.ptr (some (i11, 0)))
    have g67 := (hsame.get 67 rfl).trans (by simp [g2] : _ = s2)
    have g68 := (hsame.get 68 rfl).trans (by simp : _ = V.int .i64 (ask.length : Int))
    clear hsame
    by_cases hlt : i < ask.length
    · have w1 : IntKind.i64.wrap ((i : Int) + 1) = (i : Int) + 1 := wrap64 (by omega) (by omega)
      obtain ⟨r1, r2, r3, r4⟩ := (hr2.sub (W.rest.was' (st0 := st1) (by simp))).row e2_len hlt
      obtain ⟨x, hx⟩ : ∃ x, x = ask[i] := ⟨_, rfl⟩
      rw [← hx] at r3
      simp [g67, g68, h69, hlt, r1, r3]
      intro i13 h13
      have W := W.new h13 (.cells (e2 x))
      have hst : storeS (st5.upd i13 (.cells [.int .i64 0, .int .i64 0])) 2 (.ptr (some (i13, 0))) (.agg (e2 x)) = some (st5.upd i13 (.cells (e2 x))) := by
        rw [store_pt (sz := 2) (o := 0) (vs := e2 x) (St.upd_same _ _ _) rfl rfl (by simp)]
        simp [spliceV, e2]
      simp [hst]
      clear hst
      generalize st5.upd i13 _ = st6 at W ⊢
      have o13 := W.rest.get
      have t0 : segOf (e2 x) 0 1 = some [.int .i64 x.1] := rfl
      have t1 : segOf (e2 x) 1 1 = some [.int .i64 x.2] := rfl
      simp [idxArrV, g11, St.seg, o13, t0, t1]
      refine (spec283 okw W x.1 x.2 0 (by omega)).mono ?_
      rintro v st7 ⟨-, W⟩
      have hal : (askT es x.1 x.2 0).length ≤ es.length + 1 := by unfold askT; split <;> simp
      simp [h69, w1]
      exact Round.mk (ask.length - (i + 1)) _ (by omega) (sub_self _) (hJ _ _ _ ⟨i + 1, _, by omega, rfl, by simp, by omega, W.tail fun r h => h.drop⟩)
    · have : i = ask.length := by omega
      subst this
      simp [g68, h69]
      exact ⟨es, by omega, W⟩
  clear W
  rintro env2 st5 hsame ⟨es, hel, W⟩
  have g7 := (hsame.get 7 rfl).trans (by simp [g7] : _ = V.ptr (some (cid, 0)))
  have g11 := (hsame.get 11 rfl).trans (by simp : _ = V.ptr (some (i11, 0)))
  clear hsame
  have w := hC.wf
  have hcl2 := hC.len
  simp
  refine vc_joinB (M := fun env' st' => St.sub st1 st') ?_ ?_
  · refine vc_loopJ (fun n env' st' => ∃ k : Nat, k ≤ c.l.length + 2 ∧ n = c.l.length + 2 - k ∧ env' 14 = .int .i64 ((k : Int) - 1) ∧ WinS i11 es 0 (ChA cid c :: [Was st1]) st') (c.l.length + 2)
      ⟨0, by omega, by omega, by simp, W⟩ ?_
    clear W
    rintro J hJ n env3 st6 hsame ⟨k, hk, rfl, h14, W⟩
    have g7 := (hsame.get 7 rfl).trans (by simp [g7] : _ = V.ptr (some (cid, 0)))
    have g11 := (hsame.get 11 rfl).trans (by simp [g11] : _ = V.ptr (some (i11, 0)))
    clear hsame
    obtain ⟨mo, tid, bid, uid, R⟩ := chRead W.rest
    have T := R.tree w.neNil
    have o1 := R.top
    simp [g7, h14, St.seg, o1, cseg0]
    refine (spec159 oki T).mono ?_
    rintro v st7 ⟨rfl, rfl⟩
    clear R T o1
    obtain ⟨bz, hbz⟩ : ∃ bz : Int, bz = (k : Int) - 1 := ⟨_, rfl⟩
    rw [← hbz] at h14 ⊢
    by_cases hkl : bz ≤ (c.l.length : Int)
    · have wb : IntKind.i64.wrap (bz + 1) = bz + 1 := wrap64 (by omega) (by omega)
      have hf2 : fillV (repV [V.int .i64 0] 2) [(0, 1, .int .i64 1), (1, 1, .int .i64 2)] = some [.int .i64 1, .int .i64 2] := rfl
      simp [hkl, hf2]
      have hrw : ∀ s : St, Rd 1 e1 (.sl .full [.int .i64 1, .int .i64 2] 2) [1, 2] s := fun s => .inl ⟨.full, rfl⟩
      refine vc_loopJ (fun n env' st' => ∃ a : Nat, a ≤ 2 ∧ n = 2 - a ∧ env' 90 = .int .i64 (a : Nat) ∧ WinS i11 es 0 (ChA cid c :: [Was st1]) st') 2
        ⟨0, by omega, by omega, by simp, W⟩ ?_
      clear W
      rintro J2 hJ2 n env4 st8 hsame ⟨a, ha, rfl, h90, W⟩
      have g7 := (hsame.get 7 rfl).trans (by simp [g7] : _ = V.ptr (some (cid, 0)))
      have g11 := (hsame.get 11 rfl).trans (by simp [g11] : _ = V.ptr (some (i11, 0)))
      have g14 := (hsame.get 14 rfl).trans (by simp [h14] : _ = V.int .i64 bz)
      have g88 := (hsame.get 88 rfl).trans (by simp : _ = V.sl .full [.int .i64 1, .int .i64 2] 2)
      have g89 := (hsame.get 89 rfl).trans (by simp : _ = V.int .i64 2)
      clear hsame
      by_cases ha2 : a < 2
      · have ha2' : (a : Int) < 2 := by omega
        have w2 : IntKind.i64.wrap ((a : Int) + 1) = (a : Int) + 1 := wrap64 (by omega) (by omega)
        obtain ⟨r1, r2, r3, r4⟩ := (hrw st8).row e1_len (i := a) ha2
        obtain ⟨who, hwho⟩ : ∃ who : Int, who = [(1 : Int), 2][a] := ⟨_, rfl⟩
        rw [← hwho] at r3
        simp at r1
        simp [g7, g11, g14, g88, g89, h90, ha2', ha2, r1, r3, e1]
        refine (spec289 okw W w hcl2 (by omega) who bz).mono ?_
        clear W
        intro vw st9 W
        have hlv := (Sep.rd e1_len (W.rest.head fun h hh => hh.sl)).len
        by_cases hb0 : bz < 0
        · have hwm : wantM c es who bz = [] := by unfold wantM; rw [if_pos (.inl hb0)]
          rw [hwm] at hlv
          simp at hlv
          simp [g14, hb0, hlv, h90, w2]
          exact Round.mk (2 - (a + 1)) _ (by omega) (sub_self _) (hJ2 _ _ _ ⟨a + 1, by omega, rfl, by simp, W.tail fun r h => h.drop⟩)
        obtain ⟨best, hbest⟩ : ∃ best : Nat, bz = best := ⟨bz.toNat, by omega⟩
        obtain ⟨mo, tid, bid, uid, R⟩ := chRead W.rest.drop
        have T := R.tree w.neNil
        have o1 := R.top
        simp [g7, g14, hb0, St.seg, o1, cseg0]
        refine (spec159 oki T).mono ?_
        rintro v st10 ⟨rfl, rfl⟩
        clear R T o1
        by_cases hbl : (c.l.length : Int) ≤ bz
        · have hwm : wantM c es who bz = [] := by unfold wantM; rw [if_pos (.inr (.inl hbl))]
          rw [hwm] at hlv
          simp at hlv
          simp [hbl, hlv, h90, w2]
          exact Round.mk (2 - (a + 1)) _ (by omega) (sub_self _) (hJ2 _ _ _ ⟨a + 1, by omega, rfl, by simp, W.tail fun r h => h.drop⟩)
        rw [hbest] at g14 hbl hb0 hlv W ⊢
        have hbl' : best < c.l.length := by omega
        have hweq := wantM_eq hC (by omega) es who hbl'
        rw [hweq] at hlv W
        have hcle : countM es who ≤ es.length := List.countP_le_length
        have hwl : ∀ h, (wantH c es who best h).length ≤ 16 - countM es who := fun h => by
          cases hf : (nd c.l best).failed with
          | true => rw [wantH_bad hf]; simp
          | false => rw [wantH_eq hf, List.length_take]; omega
        have hmaxe : foldV max2V (V.int .i64 0) [V.int .i64 (16 - (countM es who : Int))] = some (.int .i64 (max 0 (16 - (countM es who : Int)))) := by
          simp only [foldV, max2V, if_true, Option.bind_some]
          congr 2
          split <;> omega
        have w3 : IntKind.i64.wrap (16 - (countM es who : Int)) = 16 - (countM es who : Int) := wrap64 (by omega) (by omega)
        have hnot : ¬ max 0 (16 - (countM es who : Int)) < ((wantH c es who best (hgt c.l best)).length : Int) := by
          have := hwl (hgt c.l best)
          omega
        simp [hbl, hlv, g11]
        refine (spec281 okw W who (by omega)).mono ?_
        clear W
        rintro v st11 ⟨rfl, W⟩
        simp [w3, hmaxe, hnot]
        have W : WinS i11 es 0 (Slx 1 e1 (.sl .nil [] 0) [] :: Slx 1 e1 vw (wantH c es who best (hgt c.l best)) :: ChA cid c :: [Was st1]) st11 := by
          obtain ⟨mo, h0, S⟩ := W
          exact WinS.back h0 (Sep.slxNil S)
        have hH : hgt c.l best ≤ 31 := by
          have := w.hgt_le hbl'
          omega
        refine vc_joinB (M := fun env' st' => WinS i11 es 0 (Slx 1 e1 (env' 18) (wantH c es who best (hgt c.l best)) :: Slx 1 e1 vw (wantH c es who best (hgt c.l best)) :: ChA cid c :: [Was st1]) st') ?_ ?_
        · refine vc_loopJ (fun n env' st' => ∃ h : Nat, h ≤ hgt c.l best ∧ n = hgt c.l best - h ∧ env' 19 = .int .i64 ((h : Int) + 1) ∧ WinS i11 es 0 (Slx 1 e1 (env' 18) (wantH c es who best h) :: Slx 1 e1 vw (wantH c es who best (hgt c.l best)) :: ChA cid c :: [Was st1]) st') (hgt c.l best)
            ⟨0, by omega, by omega, by simp, by simpa [wantH] using W⟩ ?_
          clear W
          rintro J3 hJ3 n env5 st12 hsame ⟨h, hh, rfl, h19, W⟩
          have g7 := (hsame.get 7 rfl).trans (by simp [g7] : _ = V.ptr (some (cid, 0)))
          have g11 := (hsame.get 11 rfl).trans (by simp [g11] : _ = V.ptr (some (i11, 0)))
          have g14 := (hsame.get 14 rfl).trans (by simp [g14] : _ = V.int .i64 (best : Int))
          have g16 := (hsame.get 16 rfl).trans (by simp : _ = V.int .i64 who)
          clear hsame
          obtain ⟨mo, tid, bid, uid, R⟩ := chRead W.rest.drop.drop
          have T := R.tree w.neNil
          have o1 := R.top
          have hnh : (nd c.l (inI c.l (best : Int))).height = hgt c.l best := by rw [inI_nat hbl', nd_hgt_eq hbl']
          simp [g7, g14, h19, St.seg, o1, cseg0]
          refine (spec161 oki T w best).mono ?_
          rintro v st13 ⟨rfl, rfl⟩
          by_cases hlt : h < hgt c.l best
          · have hlt' : (h : Int) + 1 ≤ (hgt c.l best : Int) := by omega
            have w4 : IntKind.i64.wrap ((h : Int) + 1 + 1) = ((h + 1 : Nat) : Int) + 1 := by rw [wrap64 (by omega) (by omega)]; omega
            simp [hfH, hnh, hlt', hlt, g7, g14, h19, St.seg, o1, cseg0]
            refine (spec158 oki T w best ((h : Int) + 1)).mono ?_
            rintro v st14 ⟨rfl, rfl⟩
            have han : ancI c.l (best : Int) ((h : Int) + 1) = (anc c.l best (h + 1) : Nat) := by
              rw [show ((h : Int) + 1) = ((h + 1 : Nat) : Int) by omega, ancI_nat hbl' (by omega)]
            rw [han]
            obtain ⟨y, hy⟩ : ∃ y, y = anc c.l best (h + 1) := ⟨_, rfl⟩
            have hwH : wantH c es who best (h + 1) = if (lk (y : Int) es).isSome = false ∧ hasM c y = false ∧ (wantH c es who best h).length < 16 - countM es who ∧ (nd c.l best).failed = false then wantH c es who best h ++ [(y : Int)] else wantH c es who best h := by rw [hy]; rfl
            rw [← hy]
            simp [g11]
            refine (spec282 okw W y).mono ?_
            rintro v st15 ⟨rfl, rfl⟩
            cases hly : (lk (y : Int) es).isSome with
            | true =>
              rw [if_neg (by rw [hly]; rintro ⟨h, -⟩; cases h)] at hwH
              simp [h19, w4]
              exact Round.mk (hgt c.l best - (h + 1)) _ (by omega) (sub_self _) (hJ3 _ _ _ ⟨h + 1, by omega, rfl, by simp, by rw [hwH]; simpa using W⟩)
            | false =>
              simp [g7]
              refine (spec268 okc R y).mono ?_
              rintro v st16 ⟨rfl, rfl⟩
              cases hhy : hasM c (y : Int) with
              | true =>
                rw [if_neg (by rw [hhy]; rintro ⟨-, h, -⟩; cases h)] at hwH
                simp [h19, w4]
                exact Round.mk (hgt c.l best - (h + 1)) _ (by omega) (sub_self _) (hJ3 _ _ _ ⟨h + 1, by omega, rfl, by simp, by rw [hwH]; simpa using W⟩)
              | false =>
                have hlo := (Sep.rd e1_len (W.rest.head fun h hh => hh.sl)).len
                clear R T o1
                simp [hlo, g11, g16]
                refine (spec281 okw W who (by omega)).mono ?_
                clear W
                rintro v st17 ⟨rfl, W⟩
                have hwlh := hwl h
                by_cases hq : (wantH c es who best h).length < 16 - countM es who
                · have hq' : ((wantH c es who best h).length : Int) < 16 - (countM es who : Int) := by omega
                  obtain ⟨mo, tid, bid, uid, R⟩ := chRead W.rest.drop.drop
                  have T := R.tree w.neNil
                  have o1 := R.top
                  simp [w3, hq', g7, g14, St.seg, o1, cseg0]
                  refine (spec161 oki T w best).mono ?_
                  rintro v st18 ⟨rfl, rfl⟩
                  clear R T o1
                  rw [inI_nat hbl']
                  cases hfb : (nd c.l best).failed with
                  | true =>
                    rw [if_neg (by rw [hfb]; rintro ⟨-, -, -, h⟩; cases h)] at hwH
                    simp [hfF, hfb, h19, w4]
                    exact Round.mk (hgt c.l best - (h + 1)) _ (by omega) (sub_self _) (hJ3 _ _ _ ⟨h + 1, by omega, rfl, by simp, by rw [hwH]; simpa using W⟩)
                  | false =>
                    rw [if_pos ⟨hly, hhy, hq, hfb⟩] at hwH
                    have hfb1 : fillV (repV [V.int .i64 0] 1) [(0, 1, V.int .i64 (y : Int))] = some [.int .i64 (y : Int)] := rfl
                    have hel : elems st18 1 (.sl .full [.int .i64 (y : Int)] 1) = some (rowsOf e1 [(y : Int)], 1) := by simp [elems, e1]
                    simp [hfF, hfb, hfb1, hel]
                    obtain ⟨mo, h0, S⟩ := W.front
                    refine Sep.appx' (b := 8) e1_len (by omega) S [(y : Int)] (by simp [rowsOf]) rfl (by simp only [List.length_singleton]; omega) ?_
                    intro s' st19 S
                    rw [← hwH] at S
                    have W := WinS.back h0 S
                    simp [h19, w4]
                    exact Round.mk (hgt c.l best - (h + 1)) _ (by omega) (sub_self _) (hJ3 _ _ _ ⟨h + 1, by omega, rfl, by simp, by simpa using W⟩)
                · have hq' : ¬ ((wantH c es who best h).length : Int) < 16 - (countM es who : Int) := by omega
                  rw [if_neg (by rintro ⟨-, -, h, -⟩; exact hq h)] at hwH
                  simp [w3, hq', h19, w4]
                  exact Round.mk (hgt c.l best - (h + 1)) _ (by omega) (sub_self _) (hJ3 _ _ _ ⟨h + 1, by omega, rfl, by simp, by rw [hwH]; simpa using W⟩)
          · have : h = hgt c.l best := by omega
            subst this
            have hno : ¬ (hgt c.l best : Int) + 1 ≤ (hgt c.l best : Int) := by omega
            simp [hfH, hnh, hno]
            exact W
        clear W
        rintro env5 st12 hsame W
        have g17 := (hsame.get 17 rfl).trans (by simp : _ = vw)
        have g90 := (hsame.get 90 rfl).trans (by simp [h90] : _ = V.int .i64 (a : Nat))
        clear hsame
        obtain ⟨LL, hLL⟩ : ∃ LL, LL = wantH c es who best (hgt c.l best) := ⟨_, rfl⟩
        have hLl : LL.length ≤ 16 := by rw [hLL]; have := hwl (hgt c.l best); omega
        rw [← hLL] at W hlv
        have rw1 := Sep.rd e1_len (W.rest.head fun h hh => hh.sl)
        have rw2 := Sep.rd e1_len (W.rest.drop.head fun h hh => hh.sl)
        simp [g17, hlv, rw1.len]
        refine vc_loopJ (fun n env' st' => ∃ j : Nat, j ≤ LL.length ∧ n = LL.length - j ∧ env' 179 = .int .i64 (j : Nat) ∧ st' = st12) LL.length
          ⟨0, by omega, by omega, by simp, rfl⟩ ?_
        rintro J4 hJ4 n env6 st13 hsame ⟨j, hj, rfl, h179, rfl⟩
        have g17' := (hsame.get 17 rfl).trans (by simp [g17] : _ = vw)
        have g18' := (hsame.get 18 rfl).trans (by simp : _ = env5 18)
        have g178 := (hsame.get 178 rfl).trans (by simp : _ = V.int .i64 (LL.length : Int))
        have g90 := (hsame.get 90 rfl).trans (by simp [g90] : _ = V.int .i64 (a : Nat))
        clear hsame
        by_cases hjl : j < LL.length
        · have w5 : IntKind.i64.wrap ((j : Int) + 1) = (j : Int) + 1 := wrap64 (by omega) (by omega)
          obtain ⟨q1, q2, q3, q4⟩ := rw1.row e1_len hjl
          obtain ⟨t1, t2, t3, t4⟩ := rw2.row e1_len hjl
          simp [g17', g18', g178, h179, hjl, q1, q3, t1, t3, e1, w5]
          exact Round.mk (LL.length - (j + 1)) _ (by omega) (sub_self _) (hJ4 _ _ _ ⟨j + 1, by omega, rfl, by simp, rfl⟩)
        · have : j = LL.length := by omega
          subst this
          simp [g178, h179, g90, w2]
          exact Round.mk (2 - (a + 1)) _ (by omega) (sub_self _) (hJ2 _ _ _ ⟨a + 1, by omega, rfl, by simp, W.tail fun r h => h.drop.drop⟩)
      · have : a = 2 := by omega
        subst this
        simp [g89, h90, g14, wb]
        exact Round.mk (c.l.length + 2 - (k + 1)) _ (by omega) (sub_self _) (hJ _ _ _ ⟨k + 1, by omega, rfl, by simp; omega, W⟩)
    · have hkl' : ¬ bz ≤ (c.l.length : Int) := hkl
      simp [hkl']
      exact W.rest.was' (st0 := st1) (by simp)
  rintro env3 st6 hsame hsub
  simp
  exact hsub
end
end Go.Ab
