import Derived.Test.YtgodabkifdmfcaaGreatK8
import Derived.Test.YtgodabkifdmfcaaGreatK4
import Derived.Test.YtgodabkifdmfcaaGreatK7
set_option linter.unusedSimpArgs false
set_option linter.unusedVariables false
set_option maxRecDepth 10000
namespace Go.Ab
open Go Go.RowKit
def rw0 : Rw := (⟨hdr0, id0, 0, 0, 0, 0, false⟩, .nil, [])
theorem z104_eq : z104_1a18 = eRw rw0 := rfl
def eRpre (r : Rw) : List V := eHdr r.1.hdr ++ eId r.1.id
theorem eRpre_len (r : Rw) : (eRpre r).length = 100 := by simp [eRpre, eHdr_len, eId_len]
theorem eRw_pre (r : Rw) : eRw r = eRpre r ++ [.int .i64 r.1.parent, .int .i64 r.1.height, slK_ r.2.1 r.2.2, .bool r.1.failed] := by simp [eRw, eRpre]
theorem rspl_hdr (r : Rw) (h : Hdr) : spliceV (eRw r) 0 (eHdr h) = eRw ({ r.1 with hdr := h }, r.2) := by
  unfold spliceV
  rw [List.take_zero, List.nil_append, Nat.zero_add, eRw, show (eHdr h).length = (eHdr r.1.hdr).length by rw [eHdr_len, eHdr_len], List.drop_left]; rfl
theorem rspl_id (r : Rw) (i : Id) : spliceV (eRw r) 68 (eId i) = eRw ({ r.1 with id := i }, r.2) := by
  rw [eRw, show 68 = 68 + 0 from rfl, splice_right (eHdr_len _)]
  unfold spliceV
  rw [List.take_zero, List.nil_append, Nat.zero_add, show (eId i).length = (eId r.1.id).length by rw [eId_len, eId_len], List.drop_left]; rfl
theorem rspl_par (r : Rw) (n : Int) : spliceV (eRw r) 100 [.int .i64 n] = eRw ({ r.1 with parent := n }, r.2) := by
  rw [eRw_pre, show 100 = 100 + 0 from rfl, splice_right (eRpre_len _), eRw_pre]; rfl
theorem rspl_hgt (r : Rw) (n : Nat) : spliceV (eRw r) 101 [.int .i64 n] = eRw ({ r.1 with height := n }, r.2) := by
  rw [eRw_pre, show 101 = 100 + 1 from rfl, splice_right (eRpre_len _), eRw_pre]; rfl
theorem rspl_work (r : Rw) (k : SK) (b : List Bool) : spliceV (eRw r) 102 [slK_ k b] = eRw (r.1, k, b) := by
  rw [eRw_pre, show 102 = 100 + 2 from rfl, splice_right (eRpre_len _), eRw_pre]; rfl
theorem slK_cells (k : SK) (b : List Bool) : (slK_ k b).cells? = some [slK_ k b] := rfl
theorem build_rw (h : Hdr) (i : Id) (p : Int) (b : List Bool) : fillV z104_1a18 [(0, 68, .agg (eHdr h)), (68, 32, .agg (eId i)), (100, 1, .int .i64 p), (102, 1, slB b)] = some (eRw (⟨h, i, p, 0, 0, 0, false⟩, .some, b)) := by
  rw [z104_eq]
  have e : slB b = slK_ .some b := rfl
  rw [e]
  simp [fillV, eHdr_len, eId_len, slK_cells, rspl_hdr, rspl_id, rspl_par, rspl_work, eRw_len]
  rfl
theorem workN_le (t : Nat) : workN t ≤ 2 ^ 256 := Nat.div_le_self _ _
theorem val_work_n (t n : Nat) (h : 256 < n) : valB (bitsN n (workN t)) = workN t := by
  rw [valB_bitsN]
  exact Nat.mod_eq_of_lt (Nat.lt_of_le_of_lt (workN_le t) (Nat.pow_lt_pow_right (by omega) h))
theorem val_work (t : Nat) : valB (bitsN 512 (workN t)) = workN t := val_work_n t 512 (by omega)
section
variable {P : Program} {F : Fn}
set_option maxHeartbeats 2000000 in
theorem spec209a (ok : OkRef10 P F) (st : St) (s : V) (h : Hdr) {t : Nat} (ht : tgt h.bits = some t) : ACalls P (F 209) [s, .agg (eHdr h), .int .i64 (-1)] st fun v st' => v = .agg (eRw (⟨h, hId h, -1, 0, 0, workN t, false⟩, .some, bitsN 512 (workN t))) ∧ st' = st := by
  have ok5 := ok.toOkRef05
  have ok1 := ok5.toOkRef01
  refine shows_call ok.mixed ok.h209 (by simp [k209]) ?_
  simp only [k209]
  simp
  intro i4 h4
  have S := (Sep.start st).new h4 (.cells (eHdr h))
  generalize st.upd i4 _ = st1 at S ⊢
  simp
  intro i6 h6
  have S := S.new h6 (.cells z104_1a18)
  generalize st1.upd i6 _ = st2 at S ⊢
  have o4 := S.mem (i := i4) (o := .cells (eHdr h)) (by simp)
  simp [St.seg, o4, hsegBits]
  refine (spec146 ok5 st2 h.bits).mono ?_
  rintro v st2 ⟨hT, rfl⟩
  rcases tgtB_cases hT with ⟨ht2, rfl⟩ | ⟨T, k, tb, ht2, rfl, hTv, hTl⟩
  · rw [ht] at ht2; cases ht2
  · rw [ht] at ht2
    have ht2 := Option.some.inj ht2
    simp [St.seg, o4, hsegAll]
    refine ⟨_, spec151 ok5 st2 h, ?_⟩
    simp
    refine ⟨_, spec134 ok1 st2 (hBytes h) (by rw [hBytes_len]; omega), ?_⟩
    simp
    refine ⟨_, spec148 ok5 (rd_slK k tb st2) (by omega) (by rw [hTv, ← ht2]; exact (tgt_lt ht).2), ?_⟩
    rw [hTv, ← ht2]
    obtain ⟨W, hW⟩ : ∃ W, W = bitsN 512 (workN t) := ⟨_, rfl⟩
    rw [← hW]
    have hid : sha2 (hBytes h) = hId h := rfl
    rw [hid]
    obtain ⟨I, hI⟩ : ∃ I, I = hId h := ⟨_, rfl⟩
    rw [← hI]
    simp [build_rw]
    intro i9 h9
    have S := S.new h9 (.cells z104_1a18)
    simp [store104]
    have S := S.setAt (.cells (eRw (⟨h, I, -1, 0, 0, 0, false⟩, .some, W))) 0 rfl
    simp at S
    generalize st2.upd i9 _ = st3 at S ⊢
    have o9 := S.get
    have o6 := S.mem (i := i6) (o := .cells z104_1a18) (by simp)
    have T := S.setAt (.cells (eRw (⟨h, I, -1, 0, 0, 0, false⟩, .some, W))) 1 rfl
    have hst : storeS st3 104 (.ptr (some (i6, 0))) (.agg (eRw (⟨h, I, -1, 0, 0, 0, false⟩, .some, W))) = some (st3.upd i6 (.cells (eRw (⟨h, I, -1, 0, 0, 0, false⟩, .some, W)))) := by
      simp [storeS, o6, eRw_len, spl_z104]
    simp [St.seg, o9, xsegAll, hst]
    exact ⟨T.was' (by simp), rfl⟩
def rwd (l : List Rw) (p : Nat) : Rw := (l[p]?).getD rw0
theorem rwd_at {l : List Rw} {p : Nat} (h : p < l.length) : rwd l p = l[p] := by simp [rwd, h]
def rwOf (l : List Rw) (h : Hdr) (p : Nat) : Rw := (ndOf (nds l) h p, .some, addB (bitsN 512 (workN ((tgt h.bits).getD 0))) (rwd l p).2.2)
theorem rwOf_ok {l : List Rw} (hO : Okws l) {h : Hdr} {p : Nat} (hp : p < l.length) : Okw (rwOf l h p) := by
  have hm := hO l[p] (List.getElem_mem hp)
  have hpn : p < (nds l).length := by simpa using hp
  have e0 : nd (nds l) p = l[p].1 := by rw [nd_at hpn, nds_get hp]
  have e1 : hgt (nds l) p = l[p].1.height := by rw [hgt_at hpn, nds_get hp]
  have e2 : (ndOf (nds l) h p).height = hgt (nds l) p + 1 := rfl
  refine ⟨?_, ?_⟩
  · show valB (addB _ _) = (ndOf (nds l) h p).work
    rw [addB_val, val_work, rwd_at hp, hm.1, ndOf_work, e0]
  · show (addB _ _).length ≤ 512 + (ndOf (nds l) h p).height
    rw [addB_len, bitsN_len, rwd_at hp, e2, e1]
    have := hm.2
    omega
set_option maxHeartbeats 2000000 in
theorem spec209 (ok : OkRef10 P F) {st : St} {s : V} {l : List Rw} (hr : RdN s l st) (w : Wf (nds l)) (hO : Okws l) (hl : l.length ≤ 16384) (h : Hdr) {t : Nat} (ht : tgt h.bits = some t) {p : Nat} (hp : p < l.length) : ACalls P (F 209) [s, .agg (eHdr h), .int .i64 (p : Nat)] st fun v st' => v = .agg (eRw (rwOf l h p)) ∧ st' = st := by
  have ok5 := ok.toOkRef05
  have ok1 := ok5.toOkRef01
  have ok2 := ok5.toOkRef02
  have hpn : p < (nds l).length := by simpa using hp
  have hgl := w.hgt_le hpn
  have eh : hgt (nds l) p = l[p].1.height := by rw [hgt_at hpn, nds_get hp]
  have hm := hO l[p] (List.getElem_mem hp)
  refine shows_call ok.mixed ok.h209 (by simp [k209]) ?_
  simp only [k209]
  simp
  intro i4 h4
  have S := (Sep.start st).new h4 (.cells (eHdr h))
  generalize st.upd i4 _ = st1 at S ⊢
  simp
  intro i6 h6
  have S := S.new h6 (.cells z104_1a18)
  generalize st1.upd i6 _ = st2 at S ⊢
  have o4 := S.mem (i := i4) (o := .cells (eHdr h)) (by simp)
  simp [St.seg, o4, hsegBits]
  refine (spec146 ok5 st2 h.bits).mono ?_
  rintro v st2 ⟨hT, rfl⟩
  rcases tgtB_cases hT with ⟨ht2, rfl⟩ | ⟨T, k, tb, ht2, rfl, hTv, hTl⟩
  · rw [ht] at ht2; cases ht2
  · rw [ht] at ht2
    have ht2 := Option.some.inj ht2
    simp [St.seg, o4, hsegAll]
    refine ⟨_, spec151 ok5 st2 h, ?_⟩
    simp
    refine ⟨_, spec134 ok1 st2 (hBytes h) (by rw [hBytes_len]; omega), ?_⟩
    simp
    refine ⟨_, spec148 ok5 (rd_slK k tb st2) (by omega) (by rw [hTv, ← ht2]; exact (tgt_lt ht).2), ?_⟩
    rw [hTv, ← ht2]
    have hgd : (tgt h.bits).getD 0 = t := by rw [ht]; rfl
    have hres : rwOf l h p = (⟨h, hId h, (p : Int), (ndOf (nds l) h p).skip, l[p].1.height + 1, (ndOf (nds l) h p).work, false⟩, .some, addB (bitsN 512 (workN t)) l[p].2.2) := by
      unfold rwOf
      rw [hgd, rwd_at hp, ← eh]; rfl
    rw [hres]
    have hWl : (bitsN 512 (workN t)).length = 512 := bitsN_len _ _
    obtain ⟨W, hW⟩ : ∃ W, W = bitsN 512 (workN t) := ⟨_, rfl⟩
    rw [← hW] at hWl ⊢
    have hid : sha2 (hBytes h) = hId h := rfl
    rw [hid]
    obtain ⟨I, hI⟩ : ∃ I, I = hId h := ⟨_, rfl⟩
    rw [← hI]
    simp [build_rw]
    intro i9 h9
    have S := S.new h9 (.cells z104_1a18)
    simp [store104]
    have S := S.setAt (.cells (eRw (⟨h, I, p, 0, 0, 0, false⟩, .some, W))) 0 rfl
    simp at S
    generalize st2.upd i9 _ = st3 at S ⊢
    obtain ⟨r1, r2, r3, r4⟩ := (hr.sub (S.was' (st0 := st) (by simp))).row eRw_len hp
    obtain ⟨f1, f2⟩ := r4 101 1 (by omega)
    rw [rwHgt] at f2
    have w1 : IntKind.i64.wrap ((l[p].1.height : Int) + 1) = ((l[p].1.height + 1 : Nat) : Int) := by rw [wrap64 (by omega) (by omega)]; omega
    obtain ⟨H, hH⟩ : ∃ H, H = l[p].1.height + 1 := ⟨_, rfl⟩
    rw [← hH] at w1 ⊢
    have o9 := S.get
    have hst1 : storeS st3 1 (.ptr (some (i9, 101))) (.int .i64 (H : Int)) = some (st3.upd i9 (.cells (eRw (⟨h, I, p, 0, H, 0, false⟩, .some, W)))) := by
      have := rspl_hgt (⟨h, I, p, 0, 0, 0, false⟩, .some, W) H
      simp [storeS, o9, eRw_len, this]
    simp [r1, f1, f2, w1, hst1]
    have S := S.setAt (.cells (eRw (⟨h, I, p, 0, H, 0, false⟩, .some, W))) 0 rfl
    simp at S
    generalize st3.upd i9 _ = st4 at S ⊢
    have o9 := S.get
    obtain ⟨r1, r2, r3, r4⟩ := (hr.sub (S.was' (st0 := st) (by simp))).row eRw_len hp
    obtain ⟨f1, f2⟩ := r4 102 1 (by omega)
    rw [rwWork] at f2
    have xw := xsegWork (⟨h, I, p, 0, H, 0, false⟩, .some, W)
    simp only at xw
    simp [r1, f1, f2, St.seg, o9, xw]
    refine (spec124 ok2 (rd_slK .some W st4) (rd_slK l[p].2.1 l[p].2.2 st4) (by omega) (by have := hm.2; omega)).mono ?_
    rintro v st4 ⟨rfl, rfl⟩
    obtain ⟨B, hB⟩ : ∃ B, B = addB W l[p].2.2 := ⟨_, rfl⟩
    rw [← hB]
    have hst2 : storeS st4 1 (.ptr (some (i9, 102))) (slB B) = some (st4.upd i9 (.cells (eRw (⟨h, I, p, 0, H, 0, false⟩, .some, B)))) := by
      have := rspl_work (⟨h, I, p, 0, H, 0, false⟩, .some, W) .some B
      have e : slB B = slK_ .some B := rfl
      rw [e]
      simp [storeS, o9, eRw_len, slK_cells, this]
    simp [hst2]
    have S := S.setAt (.cells (eRw (⟨h, I, p, 0, H, 0, false⟩, .some, B))) 0 rfl
    simp at S
    generalize st4.upd i9 _ = st5 at S ⊢
    have o9 := S.get
    have o6 := S.mem (i := i6) (o := .cells z104_1a18) (by simp)
    have T := S.setAt (.cells (eRw (⟨h, I, p, 0, H, 0, false⟩, .some, B))) 1 rfl
    have hst : storeS st5 104 (.ptr (some (i6, 0))) (.agg (eRw (⟨h, I, p, 0, H, 0, false⟩, .some, B))) = some (st5.upd i6 (.cells (eRw (⟨h, I, p, 0, H, 0, false⟩, .some, B)))) := by
      simp [storeS, o6, eRw_len, spl_z104]
    simp [St.seg, o9, xsegAll, hst]
    exact ⟨T.was' (by simp), rfl⟩
def rwNew (r : Rl) : Rw := (⟨r.gen, hId r.gen, -1, 0, 0, workN ((tgt r.gen.bits).getD 0), false⟩, .some, bitsN 512 (workN ((tgt r.gen.bits).getD 0)))
theorem rwNew_ok (r : Rl) : Okws [rwNew r] := by
  intro x hx
  have : x = rwNew r := by simpa using hx
  subst this
  exact ⟨val_work _, by show (bitsN 512 _).length ≤ _; rw [bitsN_len]; omega⟩
theorem spec210 (ok : OkRef10 P F) (st : St) {r : Rl} (hr : checkM r = 0) : ACalls P (F 210) [.agg (eRl r)] st fun v st' => v = .sl .full (rowsOf eRw [rwNew r]) 1 ∧ st' = st := by
  obtain ⟨hr1, hr2, -⟩ := checkM_ok hr
  obtain ⟨t, ht⟩ : ∃ t, tgt r.gen.bits = some t := by
    cases e : tgt r.gen.bits with
    | none => rw [hr2] at e; exact absurd e hr1
    | some t => exact ⟨t, rfl⟩
  refine shows_call ok.mixed ok.h210 (by simp [k210]) ?_
  simp only [k210]
  simp
  intro i1 h1
  have S := (Sep.start st).new h1 (.cells (eRl r))
  generalize st.upd i1 _ = st1 at S ⊢
  have o1 := S.get
  have hs := S.was' (st0 := st) (by simp)
  simp [St.seg, o1, rsegGen]
  refine (spec209a ok st1 _ r.gen ht).mono ?_
  rintro v st1 ⟨rfl, rfl⟩
  have hgd : (tgt r.gen.bits).getD 0 = t := by rw [ht]; rfl
  have e : (⟨r.gen, hId r.gen, -1, 0, 0, workN t, false⟩, .some, bitsN 512 (workN t)) = rwNew r := by unfold rwNew; rw [hgd]
  rw [e]
  obtain ⟨x, hx⟩ : ∃ x, x = rwNew r := ⟨_, rfl⟩
  rw [← hx]
  have hf : fillV (repV z104_1a18 1) [(0, 104, .agg (eRw x))] = some (eRw x) := by
    have h0 : repV z104_1a18 1 = z104_1a18 := by simp [repV]
    rw [h0]
    simp [fillV, eRw_len, spl_z104]
  simp [hf, hs]
end
end Go.Ab
set_option linter.unusedSimpArgs false
set_option linter.unusedVariables false
set_option maxRecDepth 10000
namespace Go.Ab
open Go Go.RowKit
section
variable {P : Program} {F : Fn}
theorem findI_some {l : List Nd} {id : Id} {i : Nat} (h : findM l id = some i) : findI l id = i := by rw [findI, h]
theorem findI_none {l : List Nd} {id : Id} (h : findM l id = none) : findI l id = -1 := by rw [findI, h]
theorem provedN_bits {h : Hdr} {limit : W32} (e : provedN h limit = 0) : ∃ t, tgt h.bits = some t := by
  unfold provedN at e
  cases h1 : tgt h.bits with
  | none => rw [h1] at e; simp at e
  | some t => exact ⟨t, rfl⟩
def NewOr (s : V) (l : List Rw) (s' : V) (l' : List Rw) (st st' : St) : Prop := (s' = s ∧ l' = l ∧ St.sub st st') ∨ Sep [RdN s' l', Was st] st'
theorem Sep.over {A : Asn} {L : List Asn} {st st' : St} (h : Sep [A, Was st] st') (S : Sep L st) : Sep (A :: L) st' := by
  obtain ⟨a, r, h1, h2, h3, h4⟩ := h
  exact ⟨a, r, h1, h2, h3, S.sub (Sep.was h4)⟩
theorem NewOr.over {s s' : V} {l l' : List Rw} {st st' : St} {L : List Asn} (h : NewOr s l s' l' st st') (S : Sep (RdN s l :: L) st) : Sep (RdN s' l' :: L) st' := by
  rcases h with ⟨rfl, rfl, h⟩ | h
  · exact S.sub h
  · exact h.over S.drop
def AddR (r : Rl) (s : V) (l : List Rw) (x : Hdr) (now : Int) (st : St) (v : V) (st' : St) : Prop :=
  ∃ s' l', v = .tup [s', .int .i64 (addM r (nds l) x now).2.1, .int .i64 (addM r (nds l) x now).2.2] ∧ NewOr s l s' l' st st' ∧ nds l' = (addM r (nds l) x now).1 ∧ Okws l'
set_option maxHeartbeats 4000000 in
theorem spec215 (ok : OkRef10 P F) {st : St} {s : V} {l : List Rw} (hr : RdN s l st) (w : Wf (nds l)) (hO : Okws l) (hl : l.length ≤ 16000) {r : Rl} (hc : checkM r = 0) (x : Hdr) (now : Int) :
    ACalls P (F 215) [.agg (eRl r), s, .agg (eHdr x), .int .i64 now] st (AddR r s l x now st) := by
  have ok5 := ok.toOkRef05
  have ok1 := ok5.toOkRef01
  refine shows_call ok.mixed ok.h215 (by simp [k215]) ?_
  simp only [k215]
  simp
  intro i4 h4
  have S := (Sep.start st).new h4 (.cells (eRl r))
  generalize st.upd i4 _ = st1 at S ⊢
  intro i6 h6
  have S := S.new h6 (.cells (eHdr x))
  generalize st1.upd i6 _ = st2 at S ⊢
  have o6 := S.get
  simp [St.seg, o6, hsegAll]
  refine (spec151 ok5 st2 x).mono ?_
  rintro v st2 ⟨rfl, rfl⟩
  simp
  refine (spec134 ok1 st2 (hBytes x) (by rw [hBytes_len]; omega)).mono ?_
  rintro v st2 ⟨rfl, rfl⟩
  have hid : sha2 (hBytes x) = hId x := rfl
  rw [hid]
  obtain ⟨I, hI⟩ : ∃ I, I = hId x := ⟨_, rfl⟩
  rw [← hI]
  simp
  intro i11 h11
  have S := S.new h11 (.cells zR32_w80)
  have hst := store_z32 S.get I
  have S := S.setAt (.cells (eId I)) 0 rfl
  simp at S
  simp [hst]
  generalize st2.upd i11 (.cells (eId I)) = st3 at S ⊢
  have hs := S.was' (st0 := st) (by simp)
  have hr3 := hr.sub hs
  have o11 := S.get
  have o6 := S.mem (i := i6) (o := .cells (eHdr x)) (by simp)
  have o4 := S.mem (i := i4) (o := .cells (eRl r)) (by simp)
  have stay : ∀ (i e : Int), addM r (nds l) x now = (nds l, i, e) → AddR r s l x now st (.tup [s, .int .i64 i, .int .i64 e]) st3 := fun i e h => ⟨s, l, by rw [h], .inl ⟨rfl, rfl, hs⟩, by rw [h], hO⟩
  have fin : ∀ v, AddR r s l x now st v st3 → ∃ s', St.sub s' st3 ∧ AddR r s l x now st v s' := fun v h => ⟨st3, St.sub_refl _, h⟩
  simp [St.seg, o11, segId0]
  refine (spec211 ok hr3 (by omega) I).mono ?_
  rintro v st3 ⟨rfl, rfl⟩
  cases h1 : findM (nds l) I with
  | some i =>
    have e := addM_twice (r := r) (now := now) (by rw [← hI]; exact h1)
    have h0 : (0 : Int) ≤ (i : Int) := by omega
    rw [findI_some h1]
    simp [h0, St.seg, o11, segId0]
    refine (spec211 ok hr3 (by omega) I).mono ?_
    rintro v st3 ⟨rfl, rfl⟩
    rw [findI_some h1]
    simp
    exact fin _ (stay _ _ e)
  | none =>
    rw [findI_none h1]
    have e1 : findM (nds l) (hId x) = none := by rw [← hI]; exact h1
    have xp := hsegPrev x
    simp [St.seg, o6, xp]
    refine (spec211 ok hr3 (by omega) x.prev).mono ?_
    rintro v st3 ⟨rfl, rfl⟩
    cases h2 : findM (nds l) x.prev with
    | none =>
      have e : addM r (nds l) x now = (nds l, -1, 100) := by simp only [addM, e1, h2]
      rw [findI_none h2]
      simp
      exact fin _ (stay _ _ e)
    | some p =>
      rw [findI_some h2]
      have hpn := findM_lt h2
      have hp : p < l.length := by simpa using hpn
      have hp0 : ¬ ((p : Int) < 0) := by omega
      have hne : (nds l).length ≠ 16384 := by simp; omega
      have bad : ∀ e : Int, fitsM r (nds l) x p now = e → e ≠ 0 → addM r (nds l) x now = (nds l, -1, e) := fun e h he => by
        simp only [addM, e1, h2, h, if_pos he]
      have hlim : ¬ ((p : Int) < 0 ∨ ((nds l).length : Int) ≤ (p : Int)) := by omega
      have hfit : fitsM r (nds l) x p now = if provedN x r.limit ≠ 0 then provedN x r.limit else if (nd (nds l) p).failed = true then 101 else if x.bits ≠ nextM r (nds l) p then 30 else if x.time ≤ medianM (nds l) p then 102 else if now < (x.time.toNat : Int) - 7200 then 103 else 0 := by
        unfold fitsM
        rw [if_neg hlim, Int.toNat_natCast]
      simp [hp0, St.seg, o6, hsegAll, o4, rsegLimit]
      refine (spec153 ok5 st3 x r.limit).mono ?_
      rintro v st3 ⟨rfl, rfl⟩
      obtain ⟨E, hE⟩ : ∃ E, E = provedN x r.limit := ⟨_, rfl⟩
      rw [← hE] at hfit ⊢
      by_cases c1 : E = 0
      · rw [if_neg (by simp [c1])] at hfit
        have c1b : (E != 0) = false := by simp [c1]
        obtain ⟨r1, r2, r3, r4⟩ := hr3.row eRw_len hp
        obtain ⟨f1, f2⟩ := r4 103 1 (by omega)
        rw [rwFail] at f2
        have e0 : nd (nds l) p = l[p].1 := by rw [nd_at hpn, nds_get hp]
        rw [e0] at hfit
        simp [c1b, r1, f1, f2]
        cases c2 : l[p].1.failed with
        | true =>
          rw [c2, if_pos rfl] at hfit
          simp
          exact fin _ (stay _ _ (bad _ hfit (by omega)))
        | false =>
          rw [c2, if_neg (by simp)] at hfit
          simp [St.seg, o6, o4, hsegBits, rsegAll]
          refine ⟨_, spec214 ok hr3 w (by omega) hc hp, ?_⟩
          by_cases c3 : x.bits = nextM r (nds l) p
          · rw [if_neg (by simp [c3])] at hfit
            have c3b : (x.bits != nextM r (nds l) p) = false := by simp [c3]
            simp [c3b, St.seg, o6, hsegTime]
            refine ⟨_, spec213 ok hr3 w (by omega) hp, ?_⟩
            by_cases c4 : x.time ≤ medianM (nds l) p
            · rw [if_pos c4] at hfit
              simp [c4]
              exact fin _ (stay _ _ (bad _ hfit (by omega)))
            · rw [if_neg c4] at hfit
              have hxt := x.time.isLt
              have w1 : IntKind.i64.wrap ((x.time.toNat : Int) - 7200) = (x.time.toNat : Int) - 7200 := wrap64 (by omega) (by omega)
              by_cases c5 : now < (x.time.toNat : Int) - 7200
              · rw [if_pos c5] at hfit
                simp [c4, St.seg, o6, hsegTime, w1, c5]
                exact fin _ (stay _ _ (bad _ hfit (by omega)))
              · rw [if_neg c5] at hfit
                have e := addM_ok e1 h2 hfit hne
                obtain ⟨t, ht⟩ := provedN_bits (hE.symm.trans c1)
                have hlen := hr3.len
                have hel := hr3.elems eRw_len
                have hf0 : fillV (repV z104_1a18 0) [] = some [] := rfl
                simp [Conf, c4, St.seg, o6, hsegTime, w1, c5, hlen, hsegAll, hf0, hel]
                refine app_nil _ _ (.inr rfl) (by omega) (by omega) ?_
                intro i70 h70
                have S := S.new h70 (.cells (rowsOf eRw l))
                generalize st3.upd i70 _ = st4 at S ⊢
                have hs4 := S.was' (st0 := st) (by simp)
                simp
                refine (spec209 ok (hr.sub hs4) w hO (by omega) x ht hp).mono ?_
                rintro v st4 ⟨rfl, rfl⟩
                obtain ⟨z, hz⟩ : ∃ z, z = rwOf l x p := ⟨_, rfl⟩
                rw [← hz]
                have hf : fillV (repV z104_1a18 1) [(0, 104, .agg (eRw z))] = some (eRw z) := by
                  have h0 : repV z104_1a18 1 = z104_1a18 := by simp [repV]
                  rw [h0]
                  simp [fillV, eRw_len, spl_z104]
                have hel2 : ∀ g, elems g 104 (.sl .full (eRw z) 1) = some (eRw z, 1) := fun g => by simp [elems, eRw_len]
                simp [hf, hel2]
                have S : Sep [Sl 104 eRw (.hsl i70 0 104 l.length) l, pt i11 (.cells (eId I)), pt i6 (.cells (eHdr x)), pt i4 (.cells (eRl r)), Was st] st4 := S.head fun g hg => .inr ⟨i70, [], rfl, by rw [List.append_nil]; exact hg, by simp⟩
                refine Sep.app1 eRw_len (by omega) S (a := z) rfl (by omega) ?_
                intro s' st5 S
                simp
                refine ⟨st5, St.sub_refl _, s', l ++ [z], ?_, .inr ((Sep.tail (fun r hr => hr.drop.drop.drop) S).head fun h hh => hh.rd eRw_len), ?_, ?_⟩
                · rw [e]; simp
                · rw [e, nds_append, hz]; rfl
                · intro y hy
                  rcases List.mem_append.1 hy with h | h
                  · exact hO y h
                  · have : y = z := by simpa using h
                    rw [this, hz]
                    exact rwOf_ok hO hp
          · rw [if_pos c3] at hfit
            have c3b : (x.bits != nextM r (nds l) p) = true := by simp [c3]
            simp [c3b]
            exact fin _ (stay _ _ (bad _ hfit (by omega)))
      · rw [if_pos c1] at hfit
        have c1b : (E != 0) = true := by simp [c1]
        simp [c1b]
        exact fin _ (stay _ _ (bad _ hfit c1))
end
end Go.Ab
set_option linter.unusedSimpArgs false
set_option linter.unusedVariables false
set_option maxRecDepth 10000
namespace Go.Ab
open Go Go.RowKit
section
variable {l : List Rw} {n k : Nat}
end
section
variable {P : Program} {F : Fn}
end
end Go.Ab
set_option linter.unusedVariables false
namespace Go.Ab
open Go
def k160 (F : Fn) : PF := PF.mk 7 1 [(PR.cell 2 true 74)] (.seq (.ops [(PO.mk (some 2) (.alloc z74_2f53) none)]) (.seq (.ops [(PO.mk (some 3) (.mv (.t 0)) none), (PO.mk (some 4) (.nilck (.t 3)) none), (PO.mk (some 5) (.fldA 0 (.t 4)) none), (PO.mk (some 6) (.load true 74 (.t 5)) none), (PO.mk none (.store 74 (.t 2) (.t 6)) none)]) .ret))
def k162 (F : Fn) : PF := PF.mk 19 2 [(.t 4), (.t 5)] (.seq (.ops [(PO.mk (some 3) (.box (.t 1)) none), (PO.mk (some 4) (.mv (.k (.int .i64 0))) none), (PO.mk (some 5) (.mv (.k (.bool false))) none)]) (.seq (.draw [(.e, (PO.mk (some 9) (.mv (.t 0)) none)), (.e, (PO.mk (some 10) (.nilck (.t 9)) none)), (.e, (PO.mk (some 11) (.fldA 75 (.t 10)) none)), (.s, (PO.mk (some 12) (.load false 1 (.t 11)) none)), (.s, (PO.mk (some 13) (.load true 32 (.t 3)) none)), (.s, (PO.mk (some 14) (.lookup (.agg 32) (.int .i64 0) true (.t 12) (.t 13)) none)), (.e, (PO.mk (some 8) (.mv (.t 14)) none)), (.e, (PO.mk (some 15) (.ext 0 (.t 8)) none)), (.e, (PO.mk (some 16) (.ext 1 (.t 8)) none)), (.e, (PO.mk (some 6) (.mv (.t 15)) none)), (.e, (PO.mk (some 7) (.mv (.t 16)) none))]) (.seq (.ops [(PO.mk (some 17) (.mv (.t 6)) none), (PO.mk (some 18) (.mv (.t 7)) none), (PO.mk (some 4) (.mv (.t 17)) none), (PO.mk (some 5) (.mv (.t 18)) none)]) .ret)))
structure OkIndexZ (P : Program) (F : Fn) : Prop where
  mixed : P.follows .mixedOrders = true
  toOkIndex : OkIndex P F
  h160 : compFn P ⟨[], [], [], [], []⟩ (F 160) = some (k160 F)
  h162 : compFn P ⟨[], [], [], [], []⟩ (F 162) = some (k162 F)
end Go.Ab
set_option linter.unusedVariables false
namespace Go.Ab
open Go
def k224 (F : Fn) : PF := PF.mk 31 1 [(.t 2)] (.seq (.ops [(PO.mk (some 2) (.mv (.k (.sl .nil [] 0))) none)]) (.seq (.ops [(PO.mk (some 3) (.mv (.k (.sl .nil [] 0))) none)]) (.seq (.ops [(PO.mk (some 4) (.mv (.k (.int .i64 1))) none)]) (.seq (.seq (.ops [(PO.mk (some 6) (.mv (.t 0)) none), (PO.mk (some 5) (.mv (.t 6)) none)]) (.block 0 (.loop (.seq (.seq (.ops [(PO.mk (some 7) (.mv (.t 5)) none), (PO.mk (some 8) (.bin .gtr (.t 7) (.k (.int .i64 0))) none), (PO.mk (some 9) (.mv (.t 8)) none), (PO.mk (some 10) (.mv (.t 3)) (some (9, true))), (PO.mk (some 11) (.lenSl (.t 10)) (some (9, true))), (PO.mk (some 12) (.bin .lss (.t 11) (.k (.int .i64 31))) (some (9, true))), (PO.mk (some 13) (.pick (.t 9) (.t 12) (.k (.bool false))) none)]) (.cond (.t 13) .skip (.exit 0))) (.seq (.block 1 (.seq (.ops [(PO.mk (some 17) (.mv (.t 3)) none), (PO.mk (some 18) (.mv (.t 5)) none), (PO.mk (some 19) (.bsl false 1 1 [(.int .i64 0)] [(0, (1, (.t 18)))]) none), (PO.mk (some 20) (.app 1 8 (.t 17) (.t 19)) none), (PO.mk (some 3) (.mv (.t 20)) none)]) (.seq (.ops [(PO.mk (some 21) (.mv (.t 3)) none), (PO.mk (some 22) (.lenSl (.t 21)) none), (PO.mk (some 23) (.bin .gtr (.t 22) (.k (.int .i64 10))) none)]) (.cond (.t 23) (.ops [(PO.mk (some 24) (.mv (.t 4)) none), (PO.mk (some 25) (.bin .mul (.t 24) (.k (.int .i64 2))) none), (PO.mk (some 4) (.mv (.t 25)) none)]) .skip)))) (.ops [(PO.mk (some 14) (.mv (.t 5)) none), (PO.mk (some 15) (.mv (.t 4)) none), (PO.mk (some 16) (.bin .sub (.t 14) (.t 15)) none), (PO.mk (some 5) (.mv (.t 16)) none)])))))) (.seq (.seq (.ops [(PO.mk (some 26) (.mv (.t 0)) none), (PO.mk (some 27) (.bin .lss (.t 26) (.k (.int .i64 0))) none)]) (.cond (.t 27) (.seq (.ops [(PO.mk (some 2) (.mv (.k (.sl .nil [] 0))) none)]) .ret) .skip)) (.seq (.ops [(PO.mk (some 28) (.mv (.t 3)) none), (PO.mk (some 29) (.bsl false 1 1 [(.int .i64 0)] [(0, (1, (.k (.int .i64 0))))]) none), (PO.mk (some 30) (.app 1 8 (.t 28) (.t 29)) none), (PO.mk (some 2) (.mv (.t 30)) none)]) .ret))))))
def k225 (F : Fn) : PF := PF.mk 38 2 [(.t 4)] (.seq (.ops [(PO.mk (some 4) (.mv (.k (.sl .nil [] 0))) none)]) (.seq (.ops [(PO.mk (some 5) (.mv (.k (.sl .nil [] 0))) none)]) (.seq (.seq (.ops [(PO.mk (some 8) (.mv (.t 1)) none), (PO.mk (some 9) (.bin .lss (.t 8) (.k (.int .i64 0))) none), (PO.mk (some 10) (.mv (.t 9)) none), (PO.mk (some 11) (.mv (.t 1)) (some (10, false))), (PO.mk (some 12) (.mv (.t 0)) (some (10, false))), (PO.mk (some 13) (.call (F 159) [(.t 12)]) (some (10, false))), (PO.mk (some 14) (.bin .geq (.t 11) (.t 13)) (some (10, false))), (PO.mk (some 15) (.pick (.t 10) (.k (.bool true)) (.t 14)) none)]) (.cond (.t 15) (.seq (.ops [(PO.mk (some 4) (.mv (.k (.sl .nil [] 0))) none)]) .ret) .skip)) (.seq (.seq (.ops [(PO.mk (some 16) (.mv (.t 0)) none), (PO.mk (some 17) (.mv (.t 1)) none), (PO.mk (some 18) (.call (F 161) [(.t 16), (.t 17)]) none), (PO.mk (some 19) (.fld false 102 1 (.t 18)) none), (PO.mk (some 20) (.call (F 224) [(.t 19)]) none), (PO.mk (some 21) (.lenSl (.t 20)) none), (PO.mk (some 22) (.mv (.k (.int .i64 0))) none)]) (.block 0 (.loop (.seq (.ops [(PO.mk (some 23) (.bin .lss (.t 22) (.t 21)) none)]) (.seq (.cond (.t 23) .skip (.exit 0)) (.seq (.block 1 (.seq (.ops [(PO.mk (some 24) (.idxSl 1 (.t 20) (.t 22)) none), (PO.mk (some 25) (.load false 1 (.t 24)) none), (PO.mk (some 7) (.mv (.t 25)) none)]) (.ops [(PO.mk (some 26) (.mv (.t 5)) none), (PO.mk (some 27) (.mv (.t 0)) none), (PO.mk (some 28) (.mv (.t 0)) none), (PO.mk (some 29) (.mv (.t 1)) none), (PO.mk (some 30) (.mv (.t 7)) none), (PO.mk (some 31) (.call (F 158) [(.t 28), (.t 29), (.t 30)]) none), (PO.mk (some 32) (.call (F 161) [(.t 27), (.t 31)]) none), (PO.mk (some 33) (.fld true 68 32 (.t 32)) none), (PO.mk (some 34) (.bsl false 32 1 zR32_w80 [(0, (32, (.t 33)))]) none), (PO.mk (some 35) (.app 32 32 (.t 26) (.t 34)) none), (PO.mk (some 5) (.mv (.t 35)) none)]))) (.ops [(PO.mk (some 36) (.bin .add (.t 22) (.k (.int .i64 1))) none), (PO.mk (some 22) (.mv (.t 36)) none)]))))))) (.seq (.ops [(PO.mk (some 37) (.mv (.t 5)) none), (PO.mk (some 4) (.mv (.t 37)) none)]) .ret)))))
def k226 (F : Fn) : PF := PF.mk 32 3 [(.t 6)] (.seq (.ops [(PO.mk (some 6) (.mv (.k (.int .i64 0))) none)]) (.seq (.seq (.ops [(PO.mk (some 11) (.mv (.t 2)) none), (PO.mk (some 12) (.lenSl (.t 11)) none), (PO.mk (some 13) (.mv (.k (.int .i64 0))) none)]) (.block 0 (.loop (.seq (.ops [(PO.mk (some 14) (.bin .lss (.t 13) (.t 12)) none)]) (.seq (.cond (.t 14) .skip (.exit 0)) (.seq (.block 1 (.seq (.ops [(PO.mk (some 15) (.idxSl 32 (.t 11) (.t 13)) none), (PO.mk (some 16) (.load true 32 (.t 15)) none), (PO.mk (some 8) (.alloc zR32_w80) none), (PO.mk none (.store 32 (.t 8) (.t 16)) none)]) (.seq (.ops [(PO.mk (some 18) (.mv (.t 0)) none), (PO.mk (some 19) (.load true 32 (.t 8)) none), (PO.mk (some 20) (.call (F 162) [(.t 18), (.t 19)]) none), (PO.mk (some 17) (.mv (.t 20)) none), (PO.mk (some 21) (.ext 0 (.t 17)) none), (PO.mk (some 22) (.ext 1 (.t 17)) none), (PO.mk (some 9) (.mv (.t 21)) none), (PO.mk (some 10) (.mv (.t 22)) none)]) (.seq (.ops [(PO.mk (some 23) (.mv (.t 10)) none), (PO.mk (some 24) (.mv (.t 23)) none), (PO.mk (some 25) (.mv (.t 0)) (some (24, true))), (PO.mk (some 26) (.mv (.t 9)) (some (24, true))), (PO.mk (some 27) (.mv (.t 1)) (some (24, true))), (PO.mk (some 28) (.call (F 163) [(.t 25), (.t 26), (.t 27)]) (some (24, true))), (PO.mk (some 29) (.pick (.t 24) (.t 28) (.k (.bool false))) none)]) (.cond (.t 29) (.seq (.ops [(PO.mk (some 30) (.mv (.t 9)) none), (PO.mk (some 6) (.mv (.t 30)) none)]) .ret) .skip))))) (.ops [(PO.mk (some 31) (.bin .add (.t 13) (.k (.int .i64 1))) none), (PO.mk (some 13) (.mv (.t 31)) none)]))))))) (.seq (.ops [(PO.mk (some 6) (.mv (.k (.int .i64 0))) none)]) .ret)))
def k227 (F : Fn) : PF := PF.mk 64 5 [(.t 10)] (.seq (.ops [(PO.mk (some 8) (.box (.t 3)) none), (PO.mk (some 10) (.mv (.k (.sl .nil [] 0))) none)]) (.seq (.seq (.ops [(PO.mk (some 14) (.mv (.t 1)) none), (PO.mk (some 15) (.bin .lss (.t 14) (.k (.int .i64 0))) none), (PO.mk (some 16) (.mv (.t 15)) none), (PO.mk (some 17) (.mv (.t 1)) (some (16, false))), (PO.mk (some 18) (.mv (.t 0)) (some (16, false))), (PO.mk (some 19) (.call (F 159) [(.t 18)]) (some (16, false))), (PO.mk (some 20) (.bin .geq (.t 17) (.t 19)) (some (16, false))), (PO.mk (some 21) (.pick (.t 16) (.k (.bool true)) (.t 20)) none), (PO.mk (some 22) (.mv (.t 21)) none), (PO.mk (some 23) (.mv (.t 0)) (some (22, false))), (PO.mk (some 24) (.mv (.t 2)) (some (22, false))), (PO.mk (some 25) (.mv (.t 1)) (some (22, false))), (PO.mk (some 26) (.call (F 163) [(.t 23), (.t 24), (.t 25)]) (some (22, false))), (PO.mk (some 27) (.not (.t 26)) (some (22, false))), (PO.mk (some 28) (.pick (.t 22) (.k (.bool true)) (.t 27)) none)]) (.cond (.t 28) (.seq (.ops [(PO.mk (some 10) (.mv (.k (.sl .nil [] 0))) none)]) .ret) .skip)) (.seq (.ops [(PO.mk (some 11) (.mv (.k (.sl .nil [] 0))) none)]) (.seq (.seq (.ops [(PO.mk (some 29) (.mv (.t 0)) none), (PO.mk (some 30) (.mv (.t 2)) none), (PO.mk (some 31) (.call (F 161) [(.t 29), (.t 30)]) none), (PO.mk (some 32) (.fld false 102 1 (.t 31)) none), (PO.mk (some 33) (.bin .add (.t 32) (.k (.int .i64 1))) none), (PO.mk (some 12) (.mv (.t 33)) none)]) (.block 0 (.loop (.seq (.seq (.ops [(PO.mk (some 34) (.mv (.t 12)) none), (PO.mk (some 35) (.mv (.t 0)) none), (PO.mk (some 36) (.mv (.t 1)) none), (PO.mk (some 37) (.call (F 161) [(.t 35), (.t 36)]) none), (PO.mk (some 38) (.fld false 102 1 (.t 37)) none), (PO.mk (some 39) (.bin .leq (.t 34) (.t 38)) none), (PO.mk (some 40) (.mv (.t 39)) none), (PO.mk (some 41) (.mv (.t 11)) (some (40, true))), (PO.mk (some 42) (.lenSl (.t 41)) (some (40, true))), (PO.mk (some 43) (.mv (.t 4)) (some (40, true))), (PO.mk (some 44) (.bin .lss (.t 42) (.t 43)) (some (40, true))), (PO.mk (some 45) (.pick (.t 40) (.t 44) (.k (.bool false))) none)]) (.cond (.t 45) .skip (.exit 0))) (.seq (.block 1 (.seq (.ops [(PO.mk (some 48) (.mv (.t 0)) none), (PO.mk (some 49) (.mv (.t 0)) none), (PO.mk (some 50) (.mv (.t 1)) none), (PO.mk (some 51) (.mv (.t 12)) none), (PO.mk (some 52) (.call (F 158) [(.t 49), (.t 50), (.t 51)]) none), (PO.mk (some 53) (.call (F 161) [(.t 48), (.t 52)]) none), (PO.mk (some 13) (.alloc z108_9b14) none), (PO.mk none (.store 108 (.t 13) (.t 53)) none)]) (.seq (.ops [(PO.mk (some 54) (.mv (.t 11)) none), (PO.mk (some 55) (.fldA 0 (.t 13)) none), (PO.mk (some 56) (.load true 68 (.t 55)) none), (PO.mk (some 57) (.bsl false 68 1 z68_39b1 [(0, (68, (.t 56)))]) none), (PO.mk (some 58) (.app 68 80 (.t 54) (.t 57)) none), (PO.mk (some 11) (.mv (.t 58)) none)]) (.seq (.ops [(PO.mk (some 59) (.fldA 68 (.t 13)) none), (PO.mk (some 60) (.load true 32 (.t 59)) none), (PO.mk (some 61) (.load true 32 (.t 8)) none), (PO.mk (some 62) (.eqa (.agg 32) false (.t 60) (.t 61)) none)]) (.cond (.t 62) (.exit 0) .skip))))) (.ops [(PO.mk (some 46) (.mv (.t 12)) none), (PO.mk (some 47) (.bin .add (.t 46) (.k (.int .i64 1))) none), (PO.mk (some 12) (.mv (.t 47)) none)])))))) (.seq (.ops [(PO.mk (some 63) (.mv (.t 11)) none), (PO.mk (some 10) (.mv (.t 63)) none)]) .ret)))))
def k228 (F : Fn) : PF := PF.mk 49 3 [(.t 6)] (.seq (.ops [(PO.mk (some 6) (.mv (.k (.int .i64 0))) none)]) (.seq (.ops [(PO.mk (some 8) (.mv (.t 1)) none), (PO.mk (some 9) (.mv (.t 0)) none), (PO.mk (some 10) (.call (F 159) [(.t 9)]) none), (PO.mk (some 11) (.bin .sub (.t 10) (.k (.int .i64 1))) none), (PO.mk (some 12) (.min [(.t 8), (.t 11)]) none), (PO.mk (some 13) (.max [(.k (.int .i64 0)), (.t 12)]) none), (PO.mk (some 14) (.mv (.t 2)) none), (PO.mk (some 15) (.mv (.t 0)) none), (PO.mk (some 16) (.call (F 159) [(.t 15)]) none), (PO.mk (some 17) (.bin .sub (.t 16) (.k (.int .i64 1))) none), (PO.mk (some 18) (.min [(.t 14), (.t 17)]) none), (PO.mk (some 19) (.max [(.k (.int .i64 0)), (.t 18)]) none), (PO.mk (some 1) (.mv (.t 13)) none), (PO.mk (some 2) (.mv (.t 19)) none)]) (.seq (.ops [(PO.mk (some 20) (.mv (.t 0)) none), (PO.mk (some 21) (.mv (.t 1)) none), (PO.mk (some 22) (.call (F 161) [(.t 20), (.t 21)]) none), (PO.mk (some 23) (.fld false 102 1 (.t 22)) none), (PO.mk (some 24) (.mv (.t 0)) none), (PO.mk (some 25) (.mv (.t 2)) none), (PO.mk (some 26) (.call (F 161) [(.t 24), (.t 25)]) none), (PO.mk (some 27) (.fld false 102 1 (.t 26)) none), (PO.mk (some 28) (.min [(.t 23), (.t 27)]) none), (PO.mk (some 7) (.mv (.t 28)) none)]) (.seq (.ops [(PO.mk (some 29) (.mv (.t 0)) none), (PO.mk (some 30) (.mv (.t 1)) none), (PO.mk (some 31) (.mv (.t 7)) none), (PO.mk (some 32) (.call (F 158) [(.t 29), (.t 30), (.t 31)]) none), (PO.mk (some 33) (.mv (.t 0)) none), (PO.mk (some 34) (.mv (.t 2)) none), (PO.mk (some 35) (.mv (.t 7)) none), (PO.mk (some 36) (.call (F 158) [(.t 33), (.t 34), (.t 35)]) none), (PO.mk (some 1) (.mv (.t 32)) none), (PO.mk (some 2) (.mv (.t 36)) none)]) (.seq (.block 0 (.loop (.seq (.seq (.ops [(PO.mk (some 37) (.mv (.t 1)) none), (PO.mk (some 38) (.mv (.t 2)) none), (PO.mk (some 39) (.bin .neq (.t 37) (.t 38)) none)]) (.cond (.t 39) .skip (.exit 0))) (.block 1 (.ops [(PO.mk (some 40) (.mv (.t 0)) none), (PO.mk (some 41) (.mv (.t 1)) none), (PO.mk (some 42) (.call (F 161) [(.t 40), (.t 41)]) none), (PO.mk (some 43) (.fld false 100 1 (.t 42)) none), (PO.mk (some 44) (.mv (.t 0)) none), (PO.mk (some 45) (.mv (.t 2)) none), (PO.mk (some 46) (.call (F 161) [(.t 44), (.t 45)]) none), (PO.mk (some 47) (.fld false 100 1 (.t 46)) none), (PO.mk (some 1) (.mv (.t 43)) none), (PO.mk (some 2) (.mv (.t 47)) none)]))))) (.seq (.ops [(PO.mk (some 48) (.mv (.t 1)) none), (PO.mk (some 6) (.mv (.t 48)) none)]) .ret))))))
def k229 (F : Fn) : PF := PF.mk 39 3 [(.t 6)] (.seq (.ops [(PO.mk (some 6) (.mv (.k (.sl .nil [] 0))) none)]) (.seq (.seq (.ops [(PO.mk (some 9) (.mv (.t 2)) none), (PO.mk (some 10) (.bin .lss (.t 9) (.k (.int .i64 0))) none), (PO.mk (some 11) (.mv (.t 10)) none), (PO.mk (some 12) (.mv (.t 2)) (some (11, false))), (PO.mk (some 13) (.mv (.t 0)) (some (11, false))), (PO.mk (some 14) (.call (F 159) [(.t 13)]) (some (11, false))), (PO.mk (some 15) (.bin .geq (.t 12) (.t 14)) (some (11, false))), (PO.mk (some 16) (.pick (.t 11) (.k (.bool true)) (.t 15)) none), (PO.mk (some 17) (.mv (.t 16)) none), (PO.mk (some 18) (.mv (.t 0)) (some (17, false))), (PO.mk (some 19) (.mv (.t 1)) (some (17, false))), (PO.mk (some 20) (.mv (.t 2)) (some (17, false))), (PO.mk (some 21) (.call (F 163) [(.t 18), (.t 19), (.t 20)]) (some (17, false))), (PO.mk (some 22) (.not (.t 21)) (some (17, false))), (PO.mk (some 23) (.pick (.t 17) (.k (.bool true)) (.t 22)) none)]) (.cond (.t 23) (.seq (.ops [(PO.mk (some 6) (.mv (.k (.sl .nil [] 0))) none)]) .ret) .skip)) (.seq (.ops [(PO.mk (some 7) (.mv (.k (.sl .nil [] 0))) none)]) (.seq (.seq (.ops [(PO.mk (some 24) (.mv (.t 2)) none), (PO.mk (some 8) (.mv (.t 24)) none)]) (.block 0 (.loop (.seq (.seq (.ops [(PO.mk (some 25) (.mv (.t 8)) none), (PO.mk (some 26) (.mv (.t 1)) none), (PO.mk (some 27) (.bin .neq (.t 25) (.t 26)) none)]) (.cond (.t 27) .skip (.exit 0))) (.seq (.block 1 (.ops [(PO.mk (some 32) (.mv (.t 7)) none), (PO.mk (some 33) (.mv (.t 8)) none), (PO.mk (some 34) (.bsl false 1 1 [(.int .i64 0)] [(0, (1, (.t 33)))]) none), (PO.mk (some 35) (.app 1 8 (.t 32) (.t 34)) none), (PO.mk (some 7) (.mv (.t 35)) none)])) (.ops [(PO.mk (some 28) (.mv (.t 0)) none), (PO.mk (some 29) (.mv (.t 8)) none), (PO.mk (some 30) (.call (F 161) [(.t 28), (.t 29)]) none), (PO.mk (some 31) (.fld false 100 1 (.t 30)) none), (PO.mk (some 8) (.mv (.t 31)) none)])))))) (.seq (.ops [(PO.mk (some 36) (.mv (.t 7)) none), (PO.mk (some 37) (.call (F 230) [(.t 36)]) none)]) (.seq (.ops [(PO.mk (some 38) (.mv (.t 7)) none), (PO.mk (some 6) (.mv (.t 38)) none)]) .ret))))))
def k230 (F : Fn) : PF := PF.mk 28 1 [] (.seq (.ops [(PO.mk (some 4) (.mv (.t 0)) none), (PO.mk (some 5) (.lenSl (.t 4)) none), (PO.mk (some 6) (.bin .sub (.t 5) (.k (.int .i64 1))) none), (PO.mk (some 2) (.mv (.k (.int .i64 0))) none), (PO.mk (some 3) (.mv (.t 6)) none)]) (.block 0 (.loop (.seq (.seq (.ops [(PO.mk (some 7) (.mv (.t 2)) none), (PO.mk (some 8) (.mv (.t 3)) none), (PO.mk (some 9) (.bin .lss (.t 7) (.t 8)) none)]) (.cond (.t 9) .skip (.exit 0))) (.seq (.block 1 (.draw [(.e, (PO.mk (some 14) (.mv (.t 0)) none)), (.e, (PO.mk (some 15) (.mv (.t 2)) none)), (.e, (PO.mk (some 16) (.mv (.t 0)) none)), (.e, (PO.mk (some 17) (.mv (.t 3)) none)), (.e, (PO.mk (some 18) (.mv (.t 0)) none)), (.e, (PO.mk (some 19) (.mv (.t 3)) none)), (.e, (PO.mk (some 20) (.idxSl 1 (.t 18) (.t 19)) none)), (.e, (PO.mk (some 22) (.mv (.t 0)) none)), (.e, (PO.mk (some 23) (.mv (.t 2)) none)), (.e, (PO.mk (some 24) (.idxSl 1 (.t 22) (.t 23)) none)), (.s, (PO.mk (some 21) (.load false 1 (.t 20)) none)), (.s, (PO.mk (some 25) (.load false 1 (.t 24)) none)), (.e, (PO.mk (some 26) (.idxSl 1 (.t 14) (.t 15)) none)), (.x, (PO.mk none (.store 1 (.t 26) (.t 21)) none)), (.e, (PO.mk (some 27) (.idxSl 1 (.t 16) (.t 17)) none)), (.x, (PO.mk none (.store 1 (.t 27) (.t 25)) none))])) (.ops [(PO.mk (some 10) (.mv (.t 2)) none), (PO.mk (some 11) (.bin .add (.t 10) (.k (.int .i64 1))) none), (PO.mk (some 12) (.mv (.t 3)) none), (PO.mk (some 13) (.bin .sub (.t 12) (.k (.int .i64 1))) none), (PO.mk (some 2) (.mv (.t 11)) none), (PO.mk (some 3) (.mv (.t 13)) none)]))))))
structure OkLocate (P : Program) (F : Fn) : Prop where
  mixed : P.follows .mixedOrders = true
  toOkIndexZ : OkIndexZ P F
  h224 : compFn P ⟨[], [], [], [], []⟩ (F 224) = some (k224 F)
  h225 : compFn P ⟨[], [], [], [], []⟩ (F 225) = some (k225 F)
  h226 : compFn P ⟨[], [], [], [], []⟩ (F 226) = some (k226 F)
  h227 : compFn P ⟨[], [], [], [], []⟩ (F 227) = some (k227 F)
  h228 : compFn P ⟨[], [], [], [], []⟩ (F 228) = some (k228 F)
  h229 : compFn P ⟨[], [], [], [], []⟩ (F 229) = some (k229 F)
  h230 : compFn P ⟨[], [], [], [], []⟩ (F 230) = some (k230 F)
end Go.Ab
set_option linter.unusedVariables false
namespace Go.Ab
open Go
def k231 (F : Fn) : PF := PF.mk 35 1 [(.t 2)] (.seq (.ops [(PO.mk (some 2) (.mv (.k (.sl .nil [] 0))) none)]) (.seq (.seq (.ops [(PO.mk (some 7) (.mv (.t 0)) none), (PO.mk (some 8) (.bin .lss (.t 7) (.k (.int .i64 0))) none)]) (.cond (.t 8) (.seq (.ops [(PO.mk (some 2) (.mv (.k (.sl .nil [] 0))) none)]) .ret) .skip)) (.seq (.ops [(PO.mk (some 3) (.mv (.k (.sl .nil [] 0))) none)]) (.seq (.ops [(PO.mk (some 9) (.mv (.t 0)) none), (PO.mk (some 4) (.mv (.t 9)) none)]) (.seq (.block 0 (.loop (.seq (.seq (.ops [(PO.mk (some 10) (.mv (.t 3)) none), (PO.mk (some 11) (.lenSl (.t 10)) none), (PO.mk (some 12) (.bin .lss (.t 11) (.k (.int .i64 31))) none), (PO.mk (some 13) (.mv (.t 12)) none), (PO.mk (some 14) (.mv (.t 4)) (some (13, true))), (PO.mk (some 15) (.bin .gtr (.t 14) (.k (.int .i64 0))) (some (13, true))), (PO.mk (some 16) (.pick (.t 13) (.t 15) (.k (.bool false))) none)]) (.cond (.t 16) .skip (.exit 0))) (.block 1 (.seq (.ops [(PO.mk (some 17) (.mv (.t 3)) none), (PO.mk (some 18) (.mv (.t 4)) none), (PO.mk (some 19) (.bsl false 1 1 [(.int .i64 0)] [(0, (1, (.t 18)))]) none), (PO.mk (some 20) (.app 1 8 (.t 17) (.t 19)) none), (PO.mk (some 3) (.mv (.t 20)) none)]) (.seq (.ops [(PO.mk (some 5) (.mv (.k (.int .i64 1))) none)]) (.seq (.seq (.ops [(PO.mk (some 6) (.mv (.k (.int .i64 10))) none)]) (.block 2 (.loop (.seq (.seq (.ops [(PO.mk (some 21) (.mv (.t 6)) none), (PO.mk (some 22) (.mv (.t 3)) none), (PO.mk (some 23) (.lenSl (.t 22)) none), (PO.mk (some 24) (.bin .lss (.t 21) (.t 23)) none)]) (.cond (.t 24) .skip (.exit 2))) (.seq (.block 3 (.ops [(PO.mk (some 27) (.mv (.t 5)) none), (PO.mk (some 28) (.bin .mul (.t 27) (.k (.int .i64 2))) none), (PO.mk (some 5) (.mv (.t 28)) none)])) (.ops [(PO.mk (some 25) (.mv (.t 6)) none), (PO.mk (some 26) (.bin .add (.t 25) (.k (.int .i64 1))) none), (PO.mk (some 6) (.mv (.t 26)) none)])))))) (.ops [(PO.mk (some 29) (.mv (.t 4)) none), (PO.mk (some 30) (.mv (.t 5)) none), (PO.mk (some 31) (.bin .sub (.t 29) (.t 30)) none), (PO.mk (some 4) (.mv (.t 31)) none)])))))))) (.seq (.ops [(PO.mk (some 32) (.mv (.t 3)) none), (PO.mk (some 33) (.bsl false 1 1 [(.int .i64 0)] [(0, (1, (.k (.int .i64 0))))]) none), (PO.mk (some 34) (.app 1 8 (.t 32) (.t 33)) none), (PO.mk (some 2) (.mv (.t 34)) none)]) .ret))))))
def k232 (F : Fn) : PF := PF.mk 17 3 [(.t 6)] (.seq (.ops [(PO.mk (some 6) (.mv (.k (.bool false))) none)]) (.seq (.ops [(PO.mk (some 7) (.mv (.t 0)) none), (PO.mk (some 8) (.mv (.t 2)) none), (PO.mk (some 9) (.mv (.t 0)) none), (PO.mk (some 10) (.mv (.t 1)) none), (PO.mk (some 11) (.idxSl 104 (.t 9) (.t 10)) none), (PO.mk (some 12) (.fldA 101 (.t 11)) none), (PO.mk (some 13) (.load false 1 (.t 12)) none), (PO.mk (some 14) (.call (F 212) [(.t 7), (.t 8), (.t 13)]) none), (PO.mk (some 15) (.mv (.t 1)) none), (PO.mk (some 16) (.bin .eql (.t 14) (.t 15)) none), (PO.mk (some 6) (.mv (.t 16)) none)]) .ret))
def k233 (F : Fn) : PF := PF.mk 30 3 [(.t 6)] (.seq (.ops [(PO.mk (some 6) (.mv (.k (.int .i64 0))) none)]) (.seq (.seq (.ops [(PO.mk (some 7) (.mv (.k (.int .i64 0))) none)]) (.block 0 (.loop (.seq (.seq (.ops [(PO.mk (some 9) (.mv (.t 7)) none), (PO.mk (some 10) (.mv (.t 2)) none), (PO.mk (some 11) (.lenSl (.t 10)) none), (PO.mk (some 12) (.bin .lss (.t 9) (.t 11)) none)]) (.cond (.t 12) .skip (.exit 0))) (.seq (.block 1 (.seq (.ops [(PO.mk (some 15) (.mv (.t 0)) none), (PO.mk (some 16) (.mv (.t 2)) none), (PO.mk (some 17) (.mv (.t 7)) none), (PO.mk (some 18) (.idxSl 32 (.t 16) (.t 17)) none), (PO.mk (some 19) (.load true 32 (.t 18)) none), (PO.mk (some 20) (.call (F 211) [(.t 15), (.t 19)]) none), (PO.mk (some 8) (.mv (.t 20)) none)]) (.seq (.ops [(PO.mk (some 21) (.mv (.t 8)) none), (PO.mk (some 22) (.bin .geq (.t 21) (.k (.int .i64 0))) none), (PO.mk (some 23) (.mv (.t 22)) none), (PO.mk (some 24) (.mv (.t 0)) (some (23, true))), (PO.mk (some 25) (.mv (.t 8)) (some (23, true))), (PO.mk (some 26) (.mv (.t 1)) (some (23, true))), (PO.mk (some 27) (.call (F 232) [(.t 24), (.t 25), (.t 26)]) (some (23, true))), (PO.mk (some 28) (.pick (.t 23) (.t 27) (.k (.bool false))) none)]) (.cond (.t 28) (.seq (.ops [(PO.mk (some 29) (.mv (.t 8)) none), (PO.mk (some 6) (.mv (.t 29)) none)]) .ret) .skip)))) (.ops [(PO.mk (some 13) (.mv (.t 7)) none), (PO.mk (some 14) (.bin .add (.t 13) (.k (.int .i64 1))) none), (PO.mk (some 7) (.mv (.t 14)) none)])))))) (.seq (.ops [(PO.mk (some 6) (.mv (.k (.int .i64 0))) none)]) .ret)))
def k234 (F : Fn) : PF := PF.mk 32 3 [(.t 6)] (.seq (.ops [(PO.mk (some 6) (.mv (.k (.sl .nil [] 0))) none)]) (.seq (.ops [(PO.mk (some 7) (.mv (.k (.sl .nil [] 0))) none)]) (.seq (.seq (.ops [(PO.mk (some 9) (.mv (.t 0)) none), (PO.mk (some 10) (.mv (.t 1)) none), (PO.mk (some 11) (.idxSl 104 (.t 9) (.t 10)) none), (PO.mk (some 12) (.fldA 101 (.t 11)) none), (PO.mk (some 13) (.load false 1 (.t 12)) none), (PO.mk (some 14) (.bin .add (.t 13) (.k (.int .i64 1))) none), (PO.mk (some 8) (.mv (.t 14)) none)]) (.block 0 (.loop (.seq (.seq (.ops [(PO.mk (some 15) (.mv (.t 8)) none), (PO.mk (some 16) (.mv (.t 0)) none), (PO.mk (some 17) (.mv (.t 2)) none), (PO.mk (some 18) (.idxSl 104 (.t 16) (.t 17)) none), (PO.mk (some 19) (.fldA 101 (.t 18)) none), (PO.mk (some 20) (.load false 1 (.t 19)) none), (PO.mk (some 21) (.bin .leq (.t 15) (.t 20)) none)]) (.cond (.t 21) .skip (.exit 0))) (.seq (.block 1 (.ops [(PO.mk (some 24) (.mv (.t 7)) none), (PO.mk (some 25) (.mv (.t 0)) none), (PO.mk (some 26) (.mv (.t 2)) none), (PO.mk (some 27) (.mv (.t 8)) none), (PO.mk (some 28) (.call (F 212) [(.t 25), (.t 26), (.t 27)]) none), (PO.mk (some 29) (.bsl false 1 1 [(.int .i64 0)] [(0, (1, (.t 28)))]) none), (PO.mk (some 30) (.app 1 8 (.t 24) (.t 29)) none), (PO.mk (some 7) (.mv (.t 30)) none)])) (.ops [(PO.mk (some 22) (.mv (.t 8)) none), (PO.mk (some 23) (.bin .add (.t 22) (.k (.int .i64 1))) none), (PO.mk (some 8) (.mv (.t 23)) none)])))))) (.seq (.ops [(PO.mk (some 31) (.mv (.t 7)) none), (PO.mk (some 6) (.mv (.t 31)) none)]) .ret))))
def k235 (F : Fn) : PF := PF.mk 40 3 [(.t 6)] (.seq (.ops [(PO.mk (some 6) (.mv (.k (.int .i64 0))) none)]) (.seq (.ops [(PO.mk (some 7) (.mv (.k (.int .i64 0))) none)]) (.seq (.seq (.ops [(PO.mk (some 8) (.mv (.k (.int .i64 0))) none)]) (.block 0 (.loop (.seq (.seq (.ops [(PO.mk (some 9) (.mv (.t 8)) none), (PO.mk (some 10) (.mv (.t 0)) none), (PO.mk (some 11) (.lenSl (.t 10)) none), (PO.mk (some 12) (.bin .lss (.t 9) (.t 11)) none)]) (.cond (.t 12) .skip (.exit 0))) (.seq (.block 1 (.seq (.draw [(.e, (PO.mk (some 15) (.mv (.t 0)) none)), (.e, (PO.mk (some 16) (.mv (.t 8)) none)), (.e, (PO.mk (some 17) (.mv (.t 1)) none)), (.x, (PO.mk (some 18) (.call (F 232) [(.t 15), (.t 16), (.t 17)]) none)), (.e, (PO.mk (some 19) (.mv (.t 18)) none)), (.e, (PO.mk (some 20) (.mv (.t 0)) (some (19, true)))), (.e, (PO.mk (some 21) (.mv (.t 8)) (some (19, true)))), (.e, (PO.mk (some 22) (.mv (.t 2)) (some (19, true)))), (.x, (PO.mk (some 23) (.call (F 232) [(.t 20), (.t 21), (.t 22)]) (some (19, true)))), (.e, (PO.mk (some 24) (.pick (.t 19) (.t 23) (.k (.bool false))) none)), (.e, (PO.mk (some 25) (.mv (.t 24)) none)), (.e, (PO.mk (some 26) (.mv (.t 0)) (some (25, true)))), (.e, (PO.mk (some 27) (.mv (.t 8)) (some (25, true)))), (.e, (PO.mk (some 28) (.idxSl 104 (.t 26) (.t 27)) (some (25, true)))), (.e, (PO.mk (some 29) (.fldA 101 (.t 28)) (some (25, true)))), (.e, (PO.mk (some 31) (.mv (.t 0)) (some (25, true)))), (.e, (PO.mk (some 32) (.mv (.t 7)) (some (25, true)))), (.e, (PO.mk (some 33) (.idxSl 104 (.t 31) (.t 32)) (some (25, true)))), (.e, (PO.mk (some 34) (.fldA 101 (.t 33)) (some (25, true)))), (.s, (PO.mk (some 30) (.load false 1 (.t 29)) (some (25, true)))), (.s, (PO.mk (some 35) (.load false 1 (.t 34)) (some (25, true)))), (.e, (PO.mk (some 36) (.bin .geq (.t 30) (.t 35)) (some (25, true)))), (.e, (PO.mk (some 37) (.pick (.t 25) (.t 36) (.k (.bool false))) none))]) (.cond (.t 37) (.ops [(PO.mk (some 38) (.mv (.t 8)) none), (PO.mk (some 7) (.mv (.t 38)) none)]) .skip))) (.ops [(PO.mk (some 13) (.mv (.t 8)) none), (PO.mk (some 14) (.bin .add (.t 13) (.k (.int .i64 1))) none), (PO.mk (some 8) (.mv (.t 14)) none)])))))) (.seq (.ops [(PO.mk (some 39) (.mv (.t 7)) none), (PO.mk (some 6) (.mv (.t 39)) none)]) .ret))))
structure OkRef11 (P : Program) (F : Fn) : Prop where
  mixed : P.follows .mixedOrders = true
  toOkRef10 : OkRef10 P F
  h231 : compFn P ⟨[], [], [], [], []⟩ (F 231) = some (k231 F)
  h232 : compFn P ⟨[], [], [], [], []⟩ (F 232) = some (k232 F)
  h233 : compFn P ⟨[], [], [], [], []⟩ (F 233) = some (k233 F)
  h234 : compFn P ⟨[], [], [], [], []⟩ (F 234) = some (k234 F)
  h235 : compFn P ⟨[], [], [], [], []⟩ (F 235) = some (k235 F)
end Go.Ab
set_option linter.unusedSimpArgs false
set_option linter.unusedVariables false
set_option maxRecDepth 10000
namespace Go.Ab
open Go Go.RowKit
theorem condB_to {P : Program} {v : V} {a b : PC} {Q : Ex → Env → St → Prop} {env : Env} {st : St} (M : Env → St → Prop)
    (h : condB P v a b (unrK M Q) env st) (k : ∀ env' st', Same (a.writes ++ b.writes) env env' → M env' st' → Q .normal env' st') : condB P v a b Q env st := by
  have e : ∀ R : Ex → Env → St → Prop, condB P v a b R env st = vc P (.cond (.k v) a b) R env st := fun R => _root_.id rfl
  rw [e] at h ⊢
  refine vc_frame (.cond (.k v) a b) _ _ env st (fun ex env' st' hs hq => ?_) h
  cases ex with
  | normal => exact k env' st' hs hq
  | exit i => exact hq
  | ret => exact hq
def stp (k : Nat) : Int := ((2 ^ (k - 10) : Nat) : Int)
theorem stp_pos (k : Nat) : 1 ≤ stp k := by
  have := Nat.two_pow_pos (k - 10)
  unfold stp; omega
theorem stp_le {k : Nat} (h : k ≤ 31) : stp k ≤ 2097152 := by
  have : 2 ^ (k - 10) ≤ 2 ^ 21 := Nat.pow_le_pow_right (by omega) (by omega)
  unfold stp; omega
theorem stp_one {k : Nat} (h : k ≤ 10) : stp k = 1 := by
  rw [stp, show k - 10 = 0 by omega]; rfl
theorem stp_succ {k : Nat} (h : 10 ≤ k) : stp (k + 1) = stp k * 2 := by
  unfold stp
  rw [show k + 1 - 10 = (k - 10) + 1 by omega, Nat.pow_succ]
  push_cast
  rfl
def hsGo : Nat → Int → List Int
  | 0, _ => []
  | n + 1, h => if 0 < h then h :: hsGo n (h - stp (31 - n)) else []
def heightsM (top : Int) : List Int := if top < 0 then [] else hsGo 31 top ++ [0]
theorem hsGo_len : ∀ n h, (hsGo n h).length ≤ n
  | 0, h => by simp [hsGo]
  | n + 1, h => by
    unfold hsGo
    split
    · have := hsGo_len n (h - stp (31 - n)); simp; omega
    · simp
theorem hsGo_neg (n : Nat) {h : Int} (hh : ¬ 0 < h) : hsGo n h = [] := by
  cases n with
  | zero => rfl
  | succ n => rw [hsGo, if_neg hh]
section
variable {P : Program} {F : Fn}
theorem fill1 (x : Int) : fillV (repV [.int .i64 0] 1) [(0, 1, .int .i64 x)] = some (e1 x) := rfl
theorem el1 (st : St) (k : SK) (x : Int) : elems st 1 (.sl k (e1 x) 1) = some (e1 x, 1) := by simp [elems, e1]
set_option maxHeartbeats 1000000 in
theorem spec224 (ok : OkLocate P F) (st : St) {top : Int} (hr : -9223372036854775808 ≤ top ∧ top ≤ 9223372036854775807) : ACalls P (F 224) [.int .i64 top] st fun v st' => Sep [Sl 1 e1 v (heightsM top), Was st] st' := by
  refine shows_call ok.mixed ok.h224 (by simp [k224]) ?_
  simp only [k224]
  simp
  refine vc_loopJ (fun c env' st' => ∃ (acc : List Int) (h : Int) (s : V), c = 31 - acc.length ∧ acc.length ≤ 31 ∧ acc ++ hsGo (31 - acc.length) h = hsGo 31 top ∧ (-9223372036854775808 ≤ h ∧ h ≤ 9223372036854775807) ∧ env' 4 = .int .i64 (stp acc.length) ∧ env' 5 = .int .i64 h ∧ env' 3 = s ∧ Sep [Sl 1 e1 s acc, Was st] st') 31
    ⟨[], top, .sl .nil [] 0, rfl, by simp, rfl, hr, by simp [stp], by simp, by simp, (Sep.start st).slNil⟩ ?_
  rintro J hJ c env' st2 hsame ⟨acc, h, s, rfl, hal, he, hb, h4, h5, h3, S⟩
  have g0 := (hsame.get 0 rfl).trans (by simp : _ = V.int .i64 top)
  clear hsame
  have hlen := (Sep.rd e1_len S).len
  by_cases hp : 0 < h
  · by_cases hk : (acc.length : Int) < 31
    · have hk' : acc.length < 31 := by omega
      have e31 : 31 - acc.length = (31 - (acc.length + 1)) + 1 := by omega
      rw [e31, hsGo, if_pos hp, show 31 - (31 - (acc.length + 1)) = acc.length + 1 by omega] at he
      have hs1 := stp_pos (acc.length + 1)
      have hs2 := stp_le (k := acc.length + 1) (by omega)
      simp [h3, h5, hlen, hp, hk, fill1, el1]
      refine Sep.app1 e1_len (by omega) S rfl (by omega) ?_
      intro s' st3 S
      have hlen := (Sep.rd e1_len S).len
      simp at hlen
      have w1 : IntKind.i64.wrap (h - stp (acc.length + 1)) = h - stp (acc.length + 1) := wrap64 (by omega) (by omega)
      simp [hlen]
      refine condB_to (fun env2 st4 => env2 4 = .int .i64 (stp (acc.length + 1)) ∧ st4 = st3) ?_ ?_
      · by_cases h10 : (10 : Int) < (acc.length : Int) + 1
        · have e := stp_succ (k := acc.length) (by omega)
          have w2 : IntKind.i64.wrap (stp acc.length * 2) = stp (acc.length + 1) := by rw [← e]; exact wrap64 (by omega) (by omega)
          simp [h10, h4, w2]
        · have e : stp (acc.length + 1) = stp acc.length := by rw [stp_one (by omega), stp_one (by omega)]
          simp [h10, h4, e]
      rintro env2 st4 hsame ⟨h4', rfl⟩
      have g3 := (hsame.get 3 rfl).trans (by simp : _ = s')
      have g5 := (hsame.get 5 rfl).trans (by simp [h5] : _ = V.int .i64 h)
      clear hsame
      simp [g5, h4', w1]
      refine Round.mk (31 - (acc ++ [h]).length) _ (by simp; omega) (sub_self _) (hJ _ _ _ ⟨acc ++ [h], h - stp (acc.length + 1), s', rfl, by simp; omega, ?_, ⟨by omega, by omega⟩, by simp [h4'], by simp, by simp [g3], S⟩)
      rw [← he]; simp
    · have e31 : 31 - acc.length = 0 := by omega
      rw [e31, hsGo, List.append_nil] at he
      have ht : ¬ top < 0 := fun ht => by
        rw [hsGo_neg 31 (by omega)] at he
        have : acc.length = 0 := by rw [he]; rfl
        omega
      have hm : heightsM top = acc ++ [0] := by rw [heightsM, if_neg ht, he]
      rw [hm]
      simp [h3, h5, hlen, hp, hk, g0, ht, fill1, el1]
      refine Sep.app1 e1_len (by omega) S rfl (by omega) ?_
      intro s' st3 S
      simp
      exact ⟨st3, sub_self _, S⟩
  · rw [hsGo_neg _ hp, List.append_nil] at he
    by_cases ht : top < 0
    · have hm : heightsM top = [] := by rw [heightsM, if_pos ht]
      rw [hm]
      simp [h5, hp, g0, ht]
      exact ⟨st2, sub_self _, S.drop.slNil⟩
    · have hm : heightsM top = acc ++ [0] := by rw [heightsM, if_neg ht, he]
      rw [hm]
      simp [h3, h5, hp, g0, ht, fill1, el1]
      refine Sep.app1 e1_len (by omega) S rfl (by omega) ?_
      intro s' st3 S
      simp
      exact ⟨st3, sub_self _, S⟩
set_option maxHeartbeats 1000000 in
theorem spec231 (ok : OkRef11 P F) (st : St) {top : Int} (hr : -9223372036854775808 ≤ top ∧ top ≤ 9223372036854775807) : ACalls P (F 231) [.int .i64 top] st fun v st' => Sep [Sl 1 e1 v (heightsM top), Was st] st' := by
  refine shows_call ok.mixed ok.h231 (by simp [k231]) ?_
  simp only [k231]
  by_cases ht : top < 0
  · have hm : heightsM top = [] := by rw [heightsM, if_pos ht]
    rw [hm]
    simp [ht]
    exact ⟨st, sub_self _, (Sep.start st).slNil⟩
  simp [ht]
  refine vc_loopJ (fun c env' st' => ∃ (acc : List Int) (h : Int) (s : V), c = 31 - acc.length ∧ acc.length ≤ 31 ∧ acc ++ hsGo (31 - acc.length) h = hsGo 31 top ∧ (-9223372036854775808 ≤ h ∧ h ≤ 9223372036854775807) ∧ env' 4 = .int .i64 h ∧ env' 3 = s ∧ Sep [Sl 1 e1 s acc, Was st] st') 31
    ⟨[], top, .sl .nil [] 0, rfl, by simp, rfl, hr, by simp, by simp, (Sep.start st).slNil⟩ ?_
  rintro J hJ c env' st2 hsame ⟨acc, h, s, rfl, hal, he, hb, h4, h3, S⟩
  clear hsame
  have hlen := (Sep.rd e1_len S).len
  have fin : acc = hsGo 31 top → ∀ {b : Nat} {K : V → St → Prop}, (∀ s' st', Sep [Sl 1 e1 s' (heightsM top), Was st] st' → K s' st') → (acc.length + 1) * b ≤ 140737488355328 → appS 1 b s (some (e1 0, 1)) st2 K := fun e b K hK hb => by
    refine Sep.app1 e1_len (by omega) S rfl hb fun s' st3 S => hK _ _ ?_
    have hm : heightsM top = acc ++ [0] := by rw [heightsM, if_neg ht, e]
    rw [hm]; exact S
  by_cases hk : (acc.length : Int) < 31
  · by_cases hp : 0 < h
    · have hk' : acc.length < 31 := by omega
      have e31 : 31 - acc.length = (31 - (acc.length + 1)) + 1 := by omega
      rw [e31, hsGo, if_pos hp, show 31 - (31 - (acc.length + 1)) = acc.length + 1 by omega] at he
      have hs1 := stp_pos (acc.length + 1)
      have hs2 := stp_le (k := acc.length + 1) (by omega)
      simp [h3, h4, hlen, hp, hk, fill1, el1]
      refine Sep.app1 e1_len (by omega) S rfl (by omega) ?_
      intro s' st3 S
      have hlen := (Sep.rd e1_len S).len
      simp at hlen
      have w1 : IntKind.i64.wrap (h - stp (acc.length + 1)) = h - stp (acc.length + 1) := wrap64 (by omega) (by omega)
      simp
      refine vc_loopJ (fun c env' st' => ∃ k : Nat, 10 ≤ k ∧ k ≤ max 10 (acc.length + 1) ∧ c = max 10 (acc.length + 1) - k ∧ env' 6 = .int .i64 (k : Nat) ∧ env' 5 = .int .i64 (stp k) ∧ st' = st3) (max 10 (acc.length + 1) - 10)
        ⟨10, by omega, by omega, rfl, by simp, by simp [stp], rfl⟩ ?_
      rintro J2 hJ2 c env2 st4 hsame ⟨k, hk10, hk, rfl, h6, h5, rfl⟩
      have g3 := (hsame.get 3 rfl).trans (by simp : _ = s')
      have g4 := (hsame.get 4 rfl).trans (by simp [h4] : _ = V.int .i64 h)
      clear hsame
      by_cases hlt : (k : Int) < (acc.length : Int) + 1
      · have e := stp_succ (k := k) hk10
        have hs3 := stp_le (k := k + 1) (by omega)
        have hs4 := stp_pos (k + 1)
        have w2 : IntKind.i64.wrap (stp k * 2) = stp (k + 1) := by rw [← e]; exact wrap64 (by omega) (by omega)
        have w3 : IntKind.i64.wrap ((k : Int) + 1) = (k : Int) + 1 := wrap64 (by omega) (by omega)
        simp [g3, h6, hlen, hlt, h5, w2, w3]
        exact Round.mk (max 10 (acc.length + 1) - (k + 1)) _ (by omega) (sub_self _) (hJ2 _ _ _ ⟨k + 1, by omega, by omega, rfl, by simp, by simp, rfl⟩)
      · have e : stp k = stp (acc.length + 1) := by
          by_cases h11 : 10 ≤ acc.length + 1
          · rw [show k = acc.length + 1 by omega]
          · rw [stp_one (k := acc.length + 1) (by omega), stp_one (by omega)]
        simp [g3, g4, h6, hlen, hlt, h5, e, w1]
        refine Round.mk (31 - (acc ++ [h]).length) _ (by simp; omega) (sub_self _) (hJ _ _ _ ⟨acc ++ [h], h - stp (acc.length + 1), s', rfl, by simp; omega, ?_, ⟨by omega, by omega⟩, by simp, by simp [g3], S⟩)
        rw [← he]; simp
    · rw [hsGo_neg _ hp, List.append_nil] at he
      simp [h3, h4, hlen, hp, hk, fill1, el1]
      refine fin he (fun s' st3 S => ?_) (by omega)
      simp
      exact ⟨st3, sub_self _, S⟩
  · have e31 : 31 - acc.length = 0 := by omega
    rw [e31, hsGo, List.append_nil] at he
    simp [h3, h4, hlen, hk, fill1, el1]
    refine fin he (fun s' st3 S => ?_) (by omega)
    simp
    exact ⟨st3, sub_self _, S⟩
end
end Go.Ab
set_option linter.unusedSimpArgs false
set_option linter.unusedVariables false
set_option linter.unusedSectionVars false
namespace Go.Ab
open Go Go.RowKit
def On (l : List Nd) (i k : Nat) : Prop := hgt l i ≤ hgt l k ∧ anc l k (hgt l i) = i
theorem onB_on {l : List Nd} {i k : Nat} (hi : i < l.length) (hk : k < l.length) : onB l i k = true ↔ On l i k := by
  rw [onB_nat hi hk]; simp [On]
theorem ancI_nat {l : List Nd} {i h : Nat} (hi : i < l.length) (hh : h ≤ hgt l i) : ancI l i h = (anc l i h : Nat) := by
  unfold ancI
  rw [if_neg (by simp only [Int.toNat_natCast]; omega), Int.toNat_natCast, Int.toNat_natCast]
theorem onB_range {l : List Nd} {i k : Int} (h : onB l i k = true) : ∃ a b : Nat, i = a ∧ k = b ∧ a < l.length ∧ b < l.length := by
  unfold onB at h
  simp only [Bool.and_eq_true, decide_eq_true_eq, beq_iff_eq] at h
  obtain ⟨⟨h1, h2⟩, h3⟩ := h
  unfold ancI at h3
  split at h3
  · omega
  · exact ⟨i.toNat, k.toNat, by omega, by omega, by omega, by omega⟩
section
variable {l : List Nd} (w : Wf l)
include w
theorem On.refl' (i : Nat) : On l i i := ⟨Nat.le_refl _, anc_self i⟩
theorem On.le {i k : Nat} (hk : k < l.length) (h : On l i k) : i ≤ k := by
  have := w.anc_le (h := hgt l i) hk
  rw [h.2] at this
  exact this
theorem On.of {k h : Nat} (hk : k < l.length) (hh : h ≤ hgt l k) : On l (anc l k h) k := by
  have e := w.anc_hgt hk hh
  refine ⟨by omega, by rw [e]⟩
theorem On.trans {i j k : Nat} (hk : k < l.length) (h1 : On l i j) (h2 : On l j k) : On l i k := by
  refine ⟨Nat.le_trans h1.1 h2.1, ?_⟩
  have := w.anc_anc hk h1.1 h2.1
  rw [h2.2, h1.2] at this
  exact this.symm
theorem On.chain {i j k : Nat} (hk : k < l.length) (h1 : On l i k) (h2 : On l j k) (h : hgt l i ≤ hgt l j) : On l i j := by
  refine ⟨h, ?_⟩
  have := w.anc_anc hk h h2.1
  rw [h2.2, h1.2] at this
  exact this
theorem hgt_zero_iff {i : Nat} (hi : i < l.length) (h : hgt l i = 0) : i = 0 := by
  rcases Nat.eq_zero_or_pos i with e | e
  · exact e
  · have := w.hgt_par e hi; omega
theorem On.zero {k : Nat} (hk : k < l.length) : On l 0 k := by
  have h0 := w.hgt_zero
  have e := w.anc_hgt hk (h := 0) (by omega)
  refine ⟨by omega, ?_⟩
  rw [h0]
  exact hgt_zero_iff w (w.anc_lt hk) e
theorem On.index {i j k : Nat} (hk : k < l.length) (hj : j < l.length) (h1 : On l i k) (h2 : On l j k) (h : i < j) : hgt l i < hgt l j := by
  rcases Nat.lt_or_ge (hgt l i) (hgt l j) with g | g
  · exact g
  · have := On.le w (by omega) (On.chain w hk h2 h1 g)
    omega
theorem On.par {i k : Nat} (hk : k < l.length) (h : On l i k) (hne : i ≠ k) : On l i (par l k) ∧ 0 < k := by
  have hlt : hgt l i < hgt l k := by
    rcases Nat.lt_or_ge (hgt l i) (hgt l k) with g | g
    · exact g
    · have e : hgt l i = hgt l k := by have := h.1; omega
      have := h.2
      rw [e, anc_self] at this
      exact absurd this.symm hne
  have hp := w.pos_of_hgt (i := k) (by omega)
  have h2 := w.hgt_par hp hk
  refine ⟨⟨by omega, ?_⟩, hp⟩
  rw [← w.anc_par hk hlt]
  exact h.2
theorem On.up {k : Nat} (hp : 0 < k) (hk : k < l.length) : On l (Ab.par l k) k := by
  have h1 := w.hgt_par hp hk
  have h2 := w.anc_par hk (h := hgt l (Ab.par l k)) (by omega)
  refine ⟨by omega, ?_⟩
  rw [h2, anc_self]
end
def meetGo (l : List Nd) : Nat → Nat → Nat → Nat
  | 0, a, _ => a
  | n + 1, a, b => if a = b then a else meetGo l n (par l a) (par l b)
def meetM (l : List Nd) (a b : Nat) : Nat := meetGo l (min (hgt l a) (hgt l b)) (anc l a (min (hgt l a) (hgt l b))) (anc l b (min (hgt l a) (hgt l b)))
structure Meets (l : List Nd) (a b m : Nat) : Prop where
  lt : m < l.length
  on1 : On l m a
  on2 : On l m b
  top : ∀ i, On l i a → On l i b → On l i m
theorem meetGo_spec {l : List Nd} (w : Wf l) : ∀ (n a b : Nat), a < l.length → b < l.length → hgt l a = n → hgt l b = n → Meets l a b (meetGo l n a b)
  | 0, a, b, ha, hb, e1, e2 => by
    have h1 := hgt_zero_iff w ha e1
    have h2 := hgt_zero_iff w hb e2
    subst h1 h2
    exact ⟨ha, On.refl' w _, On.refl' w _, fun i h _ => h⟩
  | n + 1, a, b, ha, hb, e1, e2 => by
    unfold meetGo
    by_cases h : a = b
    · subst h
      rw [if_pos rfl]
      exact ⟨ha, On.refl' w _, On.refl' w _, fun i h _ => h⟩
    · rw [if_neg h]
      have pa := w.pos_of_hgt (i := a) (by omega)
      have pb := w.pos_of_hgt (i := b) (by omega)
      have ia := w.par_lt pa ha
      have ib := w.par_lt pb hb
      have ga := w.hgt_par pa ha
      have gb := w.hgt_par pb hb
      have ih := meetGo_spec w n (par l a) (par l b) (by omega) (by omega) (by omega) (by omega)
      refine ⟨ih.lt, On.trans w ha ih.on1 (On.up w pa ha), On.trans w hb ih.on2 (On.up w pb hb), fun i h1 h2 => ?_⟩
      have na : i ≠ a := fun e => by
        subst e
        have := h2.2
        rw [e1, ← e2, anc_self] at this
        exact h this.symm
      have nb : i ≠ b := fun e => by
        subst e
        have := h1.2
        rw [e2, ← e1, anc_self] at this
        exact h this
      exact ih.top i (On.par w ha h1 na).1 (On.par w hb h2 nb).1
theorem meet_spec {l : List Nd} (w : Wf l) {a b : Nat} (ha : a < l.length) (hb : b < l.length) : Meets l a b (meetM l a b) := by
  obtain ⟨h, hh⟩ : ∃ h, h = min (hgt l a) (hgt l b) := ⟨_, rfl⟩
  have i1 := w.anc_lt (h := h) ha
  have i2 := w.anc_lt (h := h) hb
  have g1 := w.anc_hgt ha (h := h) (by omega)
  have g2 := w.anc_hgt hb (h := h) (by omega)
  have m := meetGo_spec w h (anc l a h) (anc l b h) i1 i2 g1 g2
  have o1 := On.of w ha (h := h) (by omega)
  have o2 := On.of w hb (h := h) (by omega)
  have e : meetM l a b = meetGo l h (anc l a h) (anc l b h) := by rw [meetM, ← hh]
  rw [e]
  refine ⟨m.lt, On.trans w ha m.on1 o1, On.trans w hb m.on2 o2, fun i k1 k2 => ?_⟩
  have hi : hgt l i ≤ h := by have := k1.1; have := k2.1; omega
  exact m.top i (On.chain w ha k1 o1 (by omega)) (On.chain w hb k2 o2 (by omega))
theorem On.anti {l : List Nd} (w : Wf l) {a b : Nat} (ha : a < l.length) (hb : b < l.length) (h1 : On l a b) (h2 : On l b a) : a = b := by
  have := On.le w hb h1
  have := On.le w ha h2
  omega
theorem Meets.uniq {l : List Nd} (w : Wf l) {a b m m' : Nat} (h : Meets l a b m) (h' : Meets l a b m') : m = m' :=
  On.anti w h.lt h'.lt (h'.top m h.on1 h.on2) (h.top m' h'.on1 h'.on2)
theorem meet_self {l : List Nd} (w : Wf l) {a : Nat} (ha : a < l.length) : meetM l a a = a :=
  (meet_spec w ha ha).uniq w ⟨ha, On.refl' w _, On.refl' w _, fun i h _ => h⟩
theorem meet_comm {l : List Nd} (w : Wf l) {a b : Nat} (ha : a < l.length) (hb : b < l.length) : meetM l b a = meetM l a b := by
  have h := meet_spec w ha hb
  exact (meet_spec w hb ha).uniq w ⟨h.lt, h.on2, h.on1, fun i h1 h2 => h.top i h2 h1⟩
theorem meet_zero {l : List Nd} (w : Wf l) {a : Nat} (ha : a < l.length) : meetM l a 0 = 0 :=
  (meet_spec w ha w.ne).uniq w ⟨w.ne, On.zero w ha, On.refl' w _, fun i _ h => h⟩
def forkM (l : List Nd) (tip : Int) : List Id → Nat
  | [] => 0
  | k :: ks => match findM l k with
    | some i => if onB l i tip = true then i else forkM l tip ks
    | none => forkM l tip ks
def wayM (l : List Nd) (a b : Nat) : List Int := (List.range (hgt l b - hgt l a)).map fun k => ((anc l b (hgt l a + 1 + k) : Nat) : Int)
def wayI (l : List Nd) (a b : Int) : List Int := if onB l a b = true then wayM l a.toNat b.toNat else []
theorem wayM_len (l : List Nd) (a b : Nat) : (wayM l a b).length = hgt l b - hgt l a := by simp [wayM]
theorem wayM_rev {l : List Nd} (a b : Nat) : ((List.range (hgt l b - hgt l a)).map fun k => ((anc l b (hgt l b - k) : Nat) : Int)).reverse = wayM l a b := by
  apply List.ext_getElem
  · simp [wayM]
  · intro i h1 h2
    have hi : i < hgt l b - hgt l a := by simpa [wayM] using h2
    rw [List.getElem_reverse]
    simp only [wayM, List.getElem_map, List.getElem_range, List.length_map, List.length_range]
    congr 2
    omega
end Go.Ab
set_option linter.unusedSimpArgs false
set_option linter.unusedVariables false
set_option maxRecDepth 10000
namespace Go.Ab
open Go Go.RowKit
section
variable {P : Program} {F : Fn}
theorem spec162 (ok : OkIndexZ P F) {st : St} {tid : Nat} {r : Rl} {l : List Nd} (h : TreeR tid r l st) (k : Id) : ACalls P (F 162) [.ptr (some (tid, 0)), .agg (eId k)] st fun v st' => v = .tup [.int .i64 (((findM l k).getD 0 : Nat) : Int), .bool (findM l k).isSome] ∧ st' = st := by
  obtain ⟨sid, mid, spare, es, h⟩ := h
  refine shows_call ok.mixed ok.h162 (by simp [k162]) ?_
  simp only [k162]
  simp
  intro i3 h3
  have S := (Sep.start st).new h3 (.cells (eId k))
  generalize st.upd i3 _ = st1 at S ⊢
  have hs : St.sub st st1 := S.was' (by simp)
  have h := h.sub hs
  have o3 := S.mem (i := i3) (o := .cells (eId k)) (by simp)
  have hk : segOf (eId k) 0 32 = some (eId k) := by
    unfold segOf
    rw [if_pos (by rw [eId_len]; omega), List.drop_zero, ← eId_len k, List.take_length]
  have hl := lookup_lk keyed_id (ev := kInt) h.by_ (.int .i64 0) k
  rw [h.look] at hl
  simp only [kId] at hl
  simp [St.seg, h.top, tree_seg75, o3, hk, hl]
  cases e : findM l k <;> simp [kInt, hs]
end
end Go.Ab
set_option linter.unusedSimpArgs false
set_option linter.unusedVariables false
set_option maxRecDepth 10000
namespace Go.Ab
open Go Go.RowKit
section
variable {P : Program} {F : Fn}
theorem spec226 (ok : OkLocate P F) {st : St} {tid : Nat} {r : Rl} {l : List Nd} (h : TreeR tid r l st) (w : Wf l) (tip : Int) {s : V} {ks : List Id} (hk : Rd 32 eId s ks st) (hn : ks.length ≤ 1000000) :
    ACalls P (F 226) [.ptr (some (tid, 0)), .int .i64 tip, s] st fun v st' => v = .int .i64 (forkM l tip ks : Nat) ∧ st' = st := by
  have okz := ok.toOkIndexZ
  have oki := okz.toOkIndex
  refine shows_call ok.mixed ok.h226 (by simp [k226]) ?_
  simp only [k226]
  have hlen := hk.len
  simp [hlen]
  refine vc_loopJ (fun c env' st' => ∃ i, i ≤ ks.length ∧ c = ks.length - i ∧ env' 13 = .int .i64 (i : Nat) ∧ forkM l tip (ks.drop i) = forkM l tip ks ∧ Sep [Was st] st') ks.length
    ⟨0, by omega, by omega, by simp, rfl, Sep.start st⟩ ?_
  rintro J hJ c env' st1 hsame ⟨i, hi, rfl, h13, he, S⟩
  have g0 := (hsame.get 0 rfl).trans (by simp : _ = V.ptr (some (tid, 0)))
  have g1 := (hsame.get 1 rfl).trans (by simp : _ = V.int .i64 tip)
  have g11 := (hsame.get 11 rfl).trans (by simp : _ = s)
  have g12 := (hsame.get 12 rfl).trans (by simp : _ = V.int .i64 (ks.length : Int))
  clear hsame
  have hs := S.was' (st0 := st) (by simp)
  by_cases hlt : i < ks.length
  · obtain ⟨p, hp, hl⟩ := (hk.sub hs).idx eId_len hlt .i64
    have w1 : IntKind.i64.wrap ((i : Int) + 1) = (i : Int) + 1 := wrap64 (by omega) (by omega)
    obtain ⟨k, hkk⟩ : ∃ k, k = ks[i] := ⟨_, rfl⟩
    rw [← hkk] at hl
    have hd : forkM l tip (ks.drop i) = match findM l k with | some j => if onB l j tip = true then j else forkM l tip (ks.drop (i + 1)) | none => forkM l tip (ks.drop (i + 1)) := by
      rw [List.drop_eq_getElem_cons hlt, forkM, ← hkk]
      all_goals (cases findM l k <;> rfl)
    simp [g11, g12, h13, hlt, hp, hl]
    intro i8 h8
    have S := S.new h8 (.cells zR32_w80)
    have hst := store_z32 S.get k
    have S := S.set (.cells (eId k))
    simp [hst]
    simp at S
    generalize st1.upd i8 _ = st2 at S ⊢
    have o8 := S.get
    have TR := h.sub (S.was' (st0 := st) (by simp))
    simp [g0, St.seg, o8, segId0]
    refine (spec162 okz TR k).mono ?_
    rintro v st2 ⟨rfl, rfl⟩
    have hs2 := S.was' (st0 := st) (by simp)
    cases hf : findM l k with
    | none =>
      rw [hf] at hd
      simp [h13, w1]
      exact Round.mk (ks.length - (i + 1)) _ (by omega) (sub_self _) (hJ _ _ _ ⟨i + 1, by omega, rfl, by simp, by rw [← he]; exact hd.symm, S.drop⟩)
    | some j =>
      rw [hf] at hd
      simp [g0, g1]
      refine (spec163 oki TR w j tip).mono ?_
      rintro v st2 ⟨rfl, rfl⟩
      cases hb : onB l j tip with
      | true =>
        have hd : forkM l tip (ks.drop i) = j := by rw [hd]; simp [hb]
        rw [← he, hd]
        simp [hs2]
      | false =>
        have hd : forkM l tip (ks.drop i) = forkM l tip (ks.drop (i + 1)) := by rw [hd]; simp [hb]
        simp [h13, w1]
        exact Round.mk (ks.length - (i + 1)) _ (by omega) (sub_self _) (hJ _ _ _ ⟨i + 1, by omega, rfl, by simp, by rw [← he]; exact hd.symm, S.drop⟩)
  · have : i = ks.length := by omega
    subst this
    rw [List.drop_length] at he
    rw [← he]
    simp [g12, h13, forkM]
    exact hs
theorem spec232 (ok : OkRef11 P F) {st : St} {s : V} {l : List Rw} (hr : RdN s l st) (w : Wf (nds l)) (hl : l.length ≤ 16000) {i : Nat} (hi : i < l.length) (tip : Int) : ACalls P (F 232) [s, .int .i64 (i : Nat), .int .i64 tip] st fun v st' => v = .bool (onB (nds l) i tip) ∧ st' = st := by
  have okr := ok.toOkRef10
  refine shows_call ok.mixed ok.h232 (by simp [k232]) ?_
  simp only [k232]
  have hin : i < (nds l).length := by simpa using hi
  obtain ⟨r1, r2, r3, r4⟩ := hr.row eRw_len hi
  obtain ⟨f1, f2⟩ := r4 101 1 (by omega)
  have eh : hgt (nds l) i = l[i].1.height := by rw [hgt_at hin, nds_get hi]
  rw [rwHgt, ← eh] at f2
  have hon : (ancI (nds l) tip (hgt (nds l) i) == (i : Int)) = onB (nds l) i tip := by
    have h0 : decide ((0 : Int) ≤ (i : Int)) = true := by simp
    have h1 : decide ((i : Int) < ((nds l).length : Int)) = true := by simp; omega
    rw [onB, h0, h1]; rfl
  simp [r1, f1, f2]
  refine (spec212 okr hr w (by omega) tip (hgt (nds l) i)).mono ?_
  rintro v st ⟨rfl, rfl⟩
  simp [hon]
theorem spec233 (ok : OkRef11 P F) {st : St} {q : V} {l : List Rw} (hr : RdN q l st) (w : Wf (nds l)) (hl : l.length ≤ 16000) (tip : Int) {s : V} {ks : List Id} (hk : Rd 32 eId s ks st) (hn : ks.length ≤ 1000000) :
    ACalls P (F 233) [q, .int .i64 tip, s] st fun v st' => v = .int .i64 (forkM (nds l) tip ks : Nat) ∧ st' = st := by
  have okr := ok.toOkRef10
  refine shows_call ok.mixed ok.h233 (by simp [k233]) ?_
  simp only [k233]
  have hlen := hk.len
  simp
  refine vc_loopJ (fun c env' st' => ∃ i, i ≤ ks.length ∧ c = ks.length - i ∧ env' 7 = .int .i64 (i : Nat) ∧ forkM (nds l) tip (ks.drop i) = forkM (nds l) tip ks ∧ st' = st) ks.length
    ⟨0, by omega, by omega, by simp, rfl, rfl⟩ ?_
  rintro J hJ c env' st1 hsame ⟨i, hi, rfl, h7, he, rfl⟩
  have g0 := (hsame.get 0 rfl).trans (by simp : _ = q)
  have g1 := (hsame.get 1 rfl).trans (by simp : _ = V.int .i64 tip)
  have g2 := (hsame.get 2 rfl).trans (by simp : _ = s)
  clear hsame
  by_cases hlt : i < ks.length
  · obtain ⟨p, hp, hlk⟩ := hk.idx eId_len hlt .i64
    have w1 : IntKind.i64.wrap ((i : Int) + 1) = (i : Int) + 1 := wrap64 (by omega) (by omega)
    obtain ⟨k, hkk⟩ : ∃ k, k = ks[i] := ⟨_, rfl⟩
    rw [← hkk] at hlk
    have hd : forkM (nds l) tip (ks.drop i) = match findM (nds l) k with | some j => if onB (nds l) j tip = true then j else forkM (nds l) tip (ks.drop (i + 1)) | none => forkM (nds l) tip (ks.drop (i + 1)) := by
      rw [List.drop_eq_getElem_cons hlt, forkM, ← hkk]
      all_goals (cases findM (nds l) k <;> rfl)
    simp [g0, g1, g2, h7, hlen, hlt, hp, hlk]
    refine (spec211 okr hr (by omega) k).mono ?_
    rintro v st1 ⟨rfl, rfl⟩
    cases hf : findM (nds l) k with
    | none =>
      rw [hf] at hd
      rw [findI_none hf]
      simp [h7, w1]
      exact Round.mk (ks.length - (i + 1)) _ (by omega) (sub_self _) (hJ _ _ _ ⟨i + 1, by omega, rfl, by simp, by rw [← he]; exact hd.symm, rfl⟩)
    | some j =>
      have hjl := findM_lt hf
      rw [hf] at hd
      rw [findI_some hf]
      have h0 : (0 : Int) ≤ (j : Int) := by omega
      simp [g0, g1, h0]
      refine (spec232 ok hr w hl (by simpa using hjl) tip).mono ?_
      rintro v st1 ⟨rfl, rfl⟩
      cases hb : onB (nds l) j tip with
      | true =>
        have hd : forkM (nds l) tip (ks.drop i) = j := by rw [hd]; simp [hb]
        rw [← he, hd]
        simp
      | false =>
        have hd : forkM (nds l) tip (ks.drop i) = forkM (nds l) tip (ks.drop (i + 1)) := by rw [hd]; simp [hb]
        simp [h7, w1]
        exact Round.mk (ks.length - (i + 1)) _ (by omega) (sub_self _) (hJ _ _ _ ⟨i + 1, by omega, rfl, by simp, by rw [← he]; exact hd.symm, rfl⟩)
  · have : i = ks.length := by omega
    subst this
    rw [List.drop_length] at he
    rw [← he]
    simp [g2, h7, hlen, forkM]
set_option maxHeartbeats 1000000 in
theorem spec234 (ok : OkRef11 P F) {st : St} {q : V} {l : List Rw} (hr : RdN q l st) (w : Wf (nds l)) (hl : l.length ≤ 16000) {a b : Nat} (ha : a < l.length) (hb : b < l.length) :
    ACalls P (F 234) [q, .int .i64 (a : Nat), .int .i64 (b : Nat)] st fun v st' => Sep [Sl 1 e1 v (wayM (nds l) a b), Was st] st' := by
  have okr := ok.toOkRef10
  refine shows_call ok.mixed ok.h234 (by simp [k234]) ?_
  simp only [k234]
  have han : a < (nds l).length := by simpa using ha
  have hbn : b < (nds l).length := by simpa using hb
  have ea : hgt (nds l) a = l[a].1.height := by rw [hgt_at han, nds_get ha]
  have eb : hgt (nds l) b = l[b].1.height := by rw [hgt_at hbn, nds_get hb]
  have la := w.hgt_le han
  have lb := w.hgt_le hbn
  obtain ⟨r1, r2, r3, r4⟩ := hr.row eRw_len ha
  obtain ⟨f1, f2⟩ := r4 101 1 (by omega)
  rw [rwHgt, ← ea] at f2
  obtain ⟨A, hA⟩ : ∃ A, A = hgt (nds l) a := ⟨_, rfl⟩
  obtain ⟨B, hB⟩ : ∃ B, B = hgt (nds l) b := ⟨_, rfl⟩
  rw [← hA] at f2 la ea
  rw [← hB] at lb eb
  have w0 : IntKind.i64.wrap ((A : Int) + 1) = (A : Int) + 1 := wrap64 (by omega) (by omega)
  simp [r1, f1, f2, w0]
  refine vc_loopJ (fun c env' st' => ∃ (k : Nat) (s : V), k ≤ B - A ∧ c = B - A - k ∧ env' 8 = .int .i64 ((A : Int) + 1 + (k : Int)) ∧ env' 7 = s ∧ Sep [Sl 1 e1 s ((List.range k).map fun k => ((anc (nds l) b (A + 1 + k) : Nat) : Int)), Was st] st') (B - A)
    ⟨0, .sl .nil [] 0, by omega, by omega, by simp, by simp, (Sep.start st).slNil⟩ ?_
  rintro J hJ c env' st1 hsame ⟨k, s, hk, rfl, h8, h7, S⟩
  have g0 := (hsame.get 0 rfl).trans (by simp : _ = q)
  have g2 := (hsame.get 2 rfl).trans (by simp : _ = V.int .i64 (b : Int))
  clear hsame
  have hs := S.was' (st0 := st) (by simp)
  obtain ⟨r1, r2, r3, r4⟩ := (hr.sub hs).row eRw_len hb
  obtain ⟨f1, f2⟩ := r4 101 1 (by omega)
  rw [rwHgt, ← eb] at f2
  by_cases hlt : k < B - A
  · have hle : (A : Int) + 1 + (k : Int) ≤ (B : Int) := by omega
    have w1 : IntKind.i64.wrap ((A : Int) + 1 + (k : Int) + 1) = (A : Int) + 1 + ((k : Int) + 1) := by rw [wrap64 (by omega) (by omega)]; omega
    have hcast : (A : Int) + 1 + (k : Int) = ((A + 1 + k : Nat) : Int) := by push_cast; rfl
    have ea2 : ancI (nds l) b ((A + 1 + k : Nat) : Int) = (anc (nds l) b (A + 1 + k) : Nat) := ancI_nat hbn (by omega)
    simp [g0, g2, h8, h7, r1, f1, f2, hle]
    rw [hcast]
    refine (spec212 okr (hr.sub hs) w (by omega) b _).mono ?_
    rintro v st1 ⟨rfl, rfl⟩
    rw [ea2]
    simp [fill1, el1, h7]
    refine Sep.app1 e1_len (by omega) S rfl (by simp; omega) ?_
    intro s' st2 S
    simp [h8, w1]
    refine Round.mk (B - A - (k + 1)) _ (by omega) (sub_self _) (hJ _ _ _ ⟨k + 1, s', by omega, rfl, by simp, by simp, ?_⟩)
    rw [List.range_succ, List.map_append]
    exact S
  · have : k = B - A := by omega
    subst this
    have hle : ¬ (A : Int) + 1 + ((B - A : Nat) : Int) ≤ (B : Int) := by omega
    simp [g0, g2, h8, h7, r1, f1, f2, hle]
    refine ⟨st1, sub_self _, ?_⟩
    rw [wayM, ← hA, ← hB]
    exact S
end
end Go.Ab
set_option linter.unusedSimpArgs false
set_option linter.unusedVariables false
set_option maxRecDepth 10000
namespace Go.Ab
open Go Go.RowKit
def revTo (l : List Int) (i : Nat) : List Int := (List.range l.length).map fun k => if k < i ∨ l.length - 1 - k < i then l.getD (l.length - 1 - k) 0 else l.getD k 0
@[simp] theorem revTo_len (l : List Int) (i : Nat) : (revTo l i).length = l.length := by simp [revTo]
theorem revTo_get (l : List Int) (i k : Nat) (h : k < l.length) : (revTo l i)[k]'(by simpa using h) = if k < i ∨ l.length - 1 - k < i then l.getD (l.length - 1 - k) 0 else l.getD k 0 := by simp [revTo]
theorem revTo_zero (l : List Int) : revTo l 0 = l := by
  apply List.ext_getElem
  · simp
  · intro k h1 h2
    rw [revTo_get _ _ _ h2, if_neg (by omega)]
    simp [h2]
theorem revTo_all (l : List Int) {i : Nat} (h : l.length ≤ 2 * i + 1) : revTo l i = l.reverse := by
  apply List.ext_getElem
  · simp
  · intro k h1 h2
    have hk : k < l.length := by simpa using h1
    rw [revTo_get _ _ _ hk, List.getElem_reverse]
    have e : ∀ j (hj : j < l.length), l.getD j 0 = l[j] := fun j hj => by simp [hj]
    split
    · exact e _ (by omega)
    · have : k = l.length - 1 - k := by omega
      rw [e k hk]
      congr 1
theorem revTo_succ (l : List Int) {i : Nat} (h : 2 * i + 1 < l.length) : ((revTo l i).set i ((revTo l i)[l.length - 1 - i]'(by simp; omega))).set (l.length - 1 - i) ((revTo l i)[i]'(by simp; omega)) = revTo l (i + 1) := by
  apply List.ext_getElem
  · simp
  · intro k h1 h2
    have hk : k < l.length := by simpa using h2
    rw [List.getElem_set, List.getElem_set, revTo_get _ _ _ hk, revTo_get _ _ _ (show i < l.length by omega), revTo_get _ _ _ (show l.length - 1 - i < l.length by omega), revTo_get _ _ _ hk]
    by_cases c1 : l.length - 1 - i = k
    · rw [if_pos c1, if_neg (by omega), if_pos (by omega)]
      congr 1; omega
    · rw [if_neg c1]
      by_cases c2 : i = k
      · rw [if_pos c2, if_neg (by omega), if_pos (by omega)]
        congr 1; omega
      · rw [if_neg c2]
        by_cases c3 : k < i ∨ l.length - 1 - k < i
        · rw [if_pos c3, if_pos (by omega)]
        · rw [if_neg c3, if_neg (by omega)]
section
variable {P : Program} {F : Fn}
theorem e1_read {st : St} {id : Nat} {xs : List Int} {sp : List V} (h : st id = some (.cells (rowsOf e1 xs ++ sp))) {i : Nat} (hi : i < xs.length) : st.seg id i 1 = some [.int .i64 xs[i]] := by
  have := rowsOf_seg e1_len xs sp hi
  rw [Nat.mul_one] at this
  simp only [St.seg, h]
  exact this
theorem e1_store {st : St} {id : Nat} {xs : List Int} {sp : List V} (h : st id = some (.cells (rowsOf e1 xs ++ sp))) {i : Nat} (hi : i < xs.length) (x : Int) : storeS st 1 (.ptr (some (id, i))) (.int .i64 x) = some (st.upd id (.cells (rowsOf e1 (xs.set i x) ++ sp))) := by
  have hs := rowsOf_splice e1_len xs sp hi (o := 0) (vs := [.int .i64 x]) (by simp) (a := x) rfl
  rw [Nat.mul_one, Nat.add_zero] at hs
  simp only [storeS, h, cells_int]
  rw [if_pos ⟨rfl, by rw [List.length_append, rowsOf_length e1_len]; omega⟩, hs]
set_option maxHeartbeats 1000000 in
theorem spec230 (ok : OkLocate P F) {st : St} {s : V} {l : List Int} {L : List Asn} (S : Sep (Sl 1 e1 s l :: L) st) (hl : l.length ≤ 1000000) : ACalls P (F 230) [s] st fun v st' => Sep (Sl 1 e1 s l.reverse :: L) st' := by
  refine shows_call ok.mixed ok.h230 (by simp [k230]) ?_
  simp only [k230]
  have hlen := (Sep.rd e1_len S).len
  by_cases hne : l = []
  · subst hne
    have w0 : IntKind.i64.wrap (-1) = -1 := rfl
    simp at hlen
    simp [hlen, w0]
    refine vc_loopJ (fun c env' st' => env' 2 = .int .i64 0 ∧ env' 3 = .int .i64 (-1) ∧ st' = st) 0 ⟨by simp, by simp, rfl⟩ ?_
    rintro J hJ c env' st1 hsame ⟨h2, h3, rfl⟩
    simp [h2, h3]
    exact ⟨st1, sub_self _, by simpa using S⟩
  · obtain ⟨sid, spare, rfl, hsp, S⟩ := S.slObj hne
    have hp := List.length_pos_iff.2 hne
    have w0 : IntKind.i64.wrap ((l.length : Int) - 1) = (l.length : Int) - 1 := wrap64 (by omega) (by omega)
    simp [w0]
    have S : Sep (pt sid (.cells (rowsOf e1 (revTo l 0) ++ spare)) :: L) st := by rw [revTo_zero]; exact S
    refine vc_loopJ (fun c env' st' => ∃ i : Nat, 2 * i ≤ l.length ∧ c = l.length - i ∧ env' 2 = .int .i64 (i : Nat) ∧ env' 3 = .int .i64 ((l.length : Int) - 1 - i) ∧ Sep (pt sid (.cells (rowsOf e1 (revTo l i) ++ spare)) :: L) st') l.length
      ⟨0, by omega, by omega, by simp, by simp, S⟩ ?_
    clear S
    rintro J hJ c env' st1 hsame ⟨i, hi, rfl, h2, h3, S⟩
    have g0 := (hsame.get 0 rfl).trans (by simp : _ = V.hsl sid 0 1 l.length)
    clear hsame
    by_cases hlt : (i : Int) < (l.length : Int) - 1 - i
    · obtain ⟨j, hj⟩ : ∃ j, j = l.length - 1 - i := ⟨_, rfl⟩
      have ej : (l.length : Int) - 1 - i = (j : Int) := by omega
      rw [ej] at h3 hlt
      have hil : i < (revTo l i).length := by simp; omega
      have hjl : j < (revTo l i).length := by simp; omega
      have hin : (i : Int) < l.length := by omega
      have hjn : (j : Int) < l.length := by omega
      have ri := e1_read S.get hil
      have rj := e1_read S.get hjl
      have hst1 := e1_store S.get hil ((revTo l i)[j])
      have S1 := S.set (.cells (rowsOf e1 ((revTo l i).set i ((revTo l i)[j])) ++ spare))
      have hst2 := e1_store (i := j) S1.get (by simpa using hjl) ((revTo l i)[i])
      have S2 := S1.set (.cells (rowsOf e1 (((revTo l i).set i ((revTo l i)[j])).set j ((revTo l i)[i])) ++ spare))
      have hsu := revTo_succ l (i := i) (by omega)
      have e1' : (revTo l i)[l.length - 1 - i]'(by simp; omega) = (revTo l i)[j] := by congr 1; omega
      rw [e1', ← hj] at hsu
      rw [hsu] at hst2 S2
      have w1 : IntKind.i64.wrap ((i : Int) + 1) = (i : Int) + 1 := wrap64 (by omega) (by omega)
      have w2 : IntKind.i64.wrap ((j : Int) - 1) = (j : Int) - 1 := wrap64 (by omega) (by omega)
      generalize st1.upd sid (.cells (rowsOf e1 ((revTo l i).set i ((revTo l i)[j])) ++ spare)) = st2 at hst1 hst2 S2
      have hlt' : i < j := by omega
      have hin' : i < l.length := by omega
      have hjn' : j < l.length := by omega
      simp [g0, h2, h3, hlt', hin', hjn', ri, rj, hst1, hst2, w1, w2]
      refine Round.mk (l.length - (i + 1)) _ (by omega) (sub_self _) (hJ _ _ _ ⟨i + 1, by omega, rfl, by simp, ?_, S2⟩)
      simp
      omega
    · have S := S
      rw [revTo_all l (by omega)] at S
      simp [h2, h3, hlt]
      refine ⟨st1, sub_self _, ?_⟩
      have := Sep.ofObj S hsp
      simpa using this
theorem min_cl {l : List Nd} (w : Wf l) (hl : l.length ≤ 16384) (i : Int) : foldV min2V (.int .i64 i) [.int .i64 ((l.length : Int) - 1)] = some (.int .i64 (min i ((l.length : Int) - 1))) ∧ foldV max2V (.int .i64 0) [.int .i64 (min i ((l.length : Int) - 1))] = some (.int .i64 (clI l i : Nat)) ∧ IntKind.i64.wrap ((l.length : Int) - 1) = (l.length : Int) - 1 := by
  have hp := w.ne
  refine ⟨?_, ?_, wrap64 (by omega) (by omega)⟩
  · simp only [foldV, min2V, if_true, Option.bind_some]
    congr 2
    split <;> omega
  · simp only [foldV, max2V, if_true, Option.bind_some]
    unfold clI
    congr 2
    split <;> omega
end
end Go.Ab
set_option linter.unusedVariables false
namespace Go.Ab
open Go
end Go.Ab
set_option linter.unusedSimpArgs false
set_option linter.unusedVariables false
set_option maxRecDepth 10000
namespace Go.Ab
open Go Go.RowKit
section
end
section
variable {P : Program} {F : Fn}
end
end Go.Ab
set_option linter.unusedSimpArgs false
set_option linter.unusedVariables false
set_option maxRecDepth 10000
namespace Go.Ab
open Go Go.RowKit
theorem osegPar (x : Nd) : segOf (eNd x) 100 1 = some [.int .i64 x.parent] := seg_of_take (nsegPar x) (by rw [eNd_len]; omega)
inductive Made (r : Rl) : List Nd → Prop
  | new : Made r (newM r)
  | add {l : List Nd} (h : Made r l) (x : Hdr) (now : Int) : Made r (addM r l x now).1
  | fail {l : List Nd} (h : Made r l) (i : Int) : Made r (failM l i).1
theorem failM_wf {l : List Nd} (w : Wf l) (i : Int) : Wf (failM l i).1 ∧ (failM l i).1.length = l.length := by
  unfold failM
  split
  · exact ⟨w, rfl⟩
  · exact ⟨setF_wf w, setF_length⟩
section
variable {P : Program} {F : Fn}
end
end Go.Ab
set_option linter.unusedVariables false
namespace Go.Ab
open Go
def k236 (F : Fn) : PF := PF.mk 4 0 [(PR.cell 0 true 74)] (.seq (.ops [(PO.mk (some 0) (.alloc z74_2f53) none)]) (.seq (.ops [(PO.mk (some 1) (.build z68_39b1 [(66, (1, (.k (w32 545259519))))]) none), (PO.mk (some 2) (.build z69_adc1 [(0, (68, (.t 1)))]) none), (PO.mk (some 3) (.build z74_2f53 [(0, (1, (.k (w32 545259519)))), (2, (1, (.k (.int .i64 10)))), (3, (1, (.k (.int .i64 50)))), (5, (69, (.t 2)))]) none), (PO.mk none (.store 74 (.t 0) (.t 3)) none)]) .ret))
def k237 (F : Fn) : PF := PF.mk 68 1 [(.t 2), (.t 3)] (.seq (.ops [(PO.mk (some 2) (.mv (.k (.ptr none))) none), (PO.mk (some 3) (.mv (.k (.sl .nil [] 0))) none)]) (.seq (.ops [(PO.mk (some 13) (.call (F 236) []) none), (PO.mk (some 14) (.call (F 155) [(.t 13)]) none), (PO.mk (some 12) (.mv (.t 14)) none), (PO.mk (some 15) (.ext 0 (.t 12)) none), (PO.mk (some 16) (.ext 1 (.t 12)) none), (PO.mk (some 4) (.mv (.t 15)) none), (PO.mk (some 5) (.mv (.t 16)) none)]) (.seq (.seq (.ops [(PO.mk (some 17) (.mv (.t 4)) none), (PO.mk (some 18) (.eqa .ptr false (.t 17) (.k (.ptr none))) none), (PO.mk (some 19) (.mv (.t 18)) none), (PO.mk (some 20) (.mv (.t 5)) (some (19, false))), (PO.mk (some 21) (.bin .neq (.t 20) (.k (.int .i64 0))) (some (19, false))), (PO.mk (some 22) (.pick (.t 19) (.k (.bool true)) (.t 21)) none)]) (.cond (.t 22) (.seq (.ops [(PO.mk (some 2) (.mv (.k (.ptr none))) none), (PO.mk (some 3) (.mv (.k (.sl .nil [] 0))) none)]) .ret) .skip)) (.seq (.ops [(PO.mk (some 23) (.call (F 236) []) none), (PO.mk (some 24) (.call (F 210) [(.t 23)]) none), (PO.mk (some 6) (.mv (.t 24)) none)]) (.seq (.seq (.ops [(PO.mk (some 25) (.mv (.t 0)) none), (PO.mk (some 26) (.lenSl (.t 25)) none), (PO.mk (some 27) (.mv (.k (.int .i64 0))) none)]) (.block 0 (.loop (.seq (.ops [(PO.mk (some 28) (.bin .lss (.t 27) (.t 26)) none)]) (.seq (.cond (.t 28) .skip (.exit 0)) (.seq (.block 1 (.seq (.ops [(PO.mk (some 29) (.mv (.t 27)) none), (PO.mk (some 30) (.idxSl 1 (.t 25) (.t 27)) none), (PO.mk (some 31) (.load false 1 (.t 30)) none), (PO.mk (some 7) (.mv (.t 29)) none), (PO.mk (some 8) (.mv (.t 31)) none)]) (.seq (.ops [(PO.mk (some 32) (.mv (.t 8)) none), (PO.mk (some 33) (.mv (.t 4)) none), (PO.mk (some 34) (.call (F 159) [(.t 33)]) none), (PO.mk (some 35) (.bin .sub (.t 34) (.k (.int .i64 1))) none), (PO.mk (some 36) (.min [(.t 32), (.t 35)]) none), (PO.mk (some 37) (.max [(.k (.int .i64 0)), (.t 36)]) none), (PO.mk (some 8) (.mv (.t 37)) none)]) (.seq (.ops [(PO.mk (some 38) (.mv (.t 4)) none), (PO.mk (some 39) (.mv (.t 8)) none), (PO.mk (some 40) (.call (F 161) [(.t 38), (.t 39)]) none), (PO.mk (some 9) (.alloc z108_9b14) none), (PO.mk none (.store 108 (.t 9) (.t 40)) none)]) (.seq (.ops [(PO.mk (some 42) (.mv (.t 7)) none), (PO.mk (some 43) (.conv .u32 (.t 42)) none), (PO.mk (some 44) (.fldA 68 (.t 9)) none), (PO.mk (some 45) (.load true 32 (.t 44)) none), (PO.mk (some 46) (.fldA 0 (.t 9)) none), (PO.mk (some 47) (.fldA 65 (.t 46)) none), (PO.mk (some 48) (.load false 1 (.t 47)) none), (PO.mk (some 49) (.bin .add (.t 48) (.k (w32 1))) none), (PO.mk (some 50) (.build z68_39b1 [(0, (1, (.t 43))), (1, (32, (.t 45))), (65, (1, (.t 49))), (66, (1, (.k (w32 545259519))))]) none), (PO.mk (some 51) (.call (F 143) [(.t 50), (.k (w32 545259519)), (.k (.int .i64 1000))]) none), (PO.mk (some 41) (.mv (.t 51)) none), (PO.mk (some 52) (.ext 0 (.t 41)) none), (PO.mk (some 53) (.ext 1 (.t 41)) none), (PO.mk (some 10) (.alloc z68_39b1) none), (PO.mk none (.store 68 (.t 10) (.t 52)) none), (PO.mk (some 11) (.mv (.t 53)) none)]) (.seq (.ops [(PO.mk (some 54) (.mv (.t 4)) none), (PO.mk (some 55) (.load true 68 (.t 10)) none), (PO.mk (some 56) (.call (F 169) [(.t 54), (.t 55), (.k (.int .i64 100000))]) none)]) (.draw [(.e, (PO.mk (some 59) (.mv (.t 6)) none)), (.s, (PO.mk (some 58) (.call (F 236) []) none)), (.s, (PO.mk (some 60) (.load true 68 (.t 10)) none)), (.x, (PO.mk (some 61) (.call (F 215) [(.t 58), (.t 59), (.t 60), (.k (.int .i64 100000))]) none)), (.e, (PO.mk (some 57) (.mv (.t 61)) none)), (.e, (PO.mk (some 62) (.ext 0 (.t 57)) none)), (.e, (PO.mk (some 63) (.ext 1 (.t 57)) none)), (.e, (PO.mk (some 64) (.ext 2 (.t 57)) none)), (.e, (PO.mk (some 6) (.mv (.t 62)) none))]))))))) (.ops [(PO.mk (some 65) (.bin .add (.t 27) (.k (.int .i64 1))) none), (PO.mk (some 27) (.mv (.t 65)) none)]))))))) (.seq (.ops [(PO.mk (some 66) (.mv (.t 4)) none), (PO.mk (some 67) (.mv (.t 6)) none), (PO.mk (some 2) (.mv (.t 66)) none), (PO.mk (some 3) (.mv (.t 67)) none)]) .ret))))))
def k238 (F : Fn) : PF := PF.mk 51 0 [(.t 0)] (.seq (.ops [(PO.mk (some 0) (.mv (.k (.bool false))) none)]) (.seq (.ops [(PO.mk (some 4) (.bsl false 1 3 [(.int .i64 0)] [(0, (1, (.k (.int .i64 0)))), (1, (1, (.k (.int .i64 1)))), (2, (1, (.k (.int .i64 1))))]) none), (PO.mk (some 5) (.call (F 237) [(.t 4)]) none), (PO.mk (some 3) (.mv (.t 5)) none), (PO.mk (some 6) (.ext 0 (.t 3)) none), (PO.mk (some 7) (.ext 1 (.t 3)) none), (PO.mk (some 1) (.mv (.t 6)) none), (PO.mk (some 2) (.mv (.t 7)) none)]) (.seq (.seq (.ops [(PO.mk (some 8) (.mv (.t 1)) none), (PO.mk (some 9) (.eqa .ptr false (.t 8) (.k (.ptr none))) none), (PO.mk (some 10) (.mv (.t 9)) none), (PO.mk (some 11) (.mv (.t 1)) (some (10, false))), (PO.mk (some 12) (.call (F 159) [(.t 11)]) (some (10, false))), (PO.mk (some 13) (.bin .neq (.t 12) (.k (.int .i64 4))) (some (10, false))), (PO.mk (some 14) (.pick (.t 10) (.k (.bool true)) (.t 13)) none)]) (.cond (.t 14) (.seq (.ops [(PO.mk (some 0) (.mv (.k (.bool false))) none)]) .ret) .skip)) (.seq (.ops [(PO.mk (some 15) (.mv (.t 1)) none), (PO.mk (some 16) (.call (F 228) [(.t 15), (.k (.int .i64 2)), (.k (.int .i64 3))]) none), (PO.mk (some 17) (.bin .eql (.t 16) (.k (.int .i64 1))) none), (PO.mk (some 18) (.mv (.t 17)) none), (PO.mk (some 19) (.mv (.t 1)) (some (18, true))), (PO.mk (some 20) (.mv (.t 1)) (some (18, true))), (PO.mk (some 21) (.call (F 161) [(.t 20), (.k (.int .i64 3))]) (some (18, true))), (PO.mk (some 22) (.fld true 68 32 (.t 21)) (some (18, true))), (PO.mk (some 23) (.mv (.t 1)) (some (18, true))), (PO.mk (some 24) (.call (F 161) [(.t 23), (.k (.int .i64 1))]) (some (18, true))), (PO.mk (some 25) (.fld true 68 32 (.t 24)) (some (18, true))), (PO.mk (some 26) (.bsl false 32 2 zR32_w80 [(0, (32, (.t 22))), (32, (32, (.t 25)))]) (some (18, true))), (PO.mk (some 27) (.call (F 226) [(.t 19), (.k (.int .i64 2)), (.t 26)]) (some (18, true))), (PO.mk (some 28) (.bin .eql (.t 27) (.k (.int .i64 1))) (some (18, true))), (PO.mk (some 29) (.pick (.t 18) (.t 28) (.k (.bool false))) none), (PO.mk (some 30) (.mv (.t 29)) none), (PO.mk (some 31) (.mv (.t 1)) (some (30, true))), (PO.mk (some 32) (.build zR32_w80 []) (some (30, true))), (PO.mk (some 33) (.call (F 227) [(.t 31), (.k (.int .i64 2)), (.k (.int .i64 0)), (.t 32), (.k (.int .i64 5))]) (some (30, true))), (PO.mk (some 34) (.lenSl (.t 33)) (some (30, true))), (PO.mk (some 35) (.bin .eql (.t 34) (.k (.int .i64 2))) (some (30, true))), (PO.mk (some 36) (.pick (.t 30) (.t 35) (.k (.bool false))) none), (PO.mk (some 37) (.mv (.t 36)) none), (PO.mk (some 38) (.mv (.t 1)) (some (37, true))), (PO.mk (some 39) (.call (F 225) [(.t 38), (.k (.int .i64 3))]) (some (37, true))), (PO.mk (some 40) (.lenSl (.t 39)) (some (37, true))), (PO.mk (some 41) (.bin .eql (.t 40) (.k (.int .i64 3))) (some (37, true))), (PO.mk (some 42) (.pick (.t 37) (.t 41) (.k (.bool false))) none), (PO.mk (some 43) (.mv (.t 42)) none), (PO.mk (some 44) (.mv (.t 1)) (some (43, true))), (PO.mk (some 45) (.call (F 229) [(.t 44), (.k (.int .i64 0)), (.k (.int .i64 3))]) (some (43, true))), (PO.mk (some 46) (.lenSl (.t 45)) (some (43, true))), (PO.mk (some 47) (.bin .eql (.t 46) (.k (.int .i64 2))) (some (43, true))), (PO.mk (some 48) (.pick (.t 43) (.t 47) (.k (.bool false))) none), (PO.mk (some 49) (.mv (.t 48)) none), (PO.mk (some 50) (.pick (.t 49) (.k (.bool true)) (.k (.bool false))) none), (PO.mk (some 0) (.mv (.t 50)) none)]) .ret))))
def k239 (F : Fn) : PF := PF.mk 26 2 [(.t 4)] (.seq (.ops [(PO.mk (some 4) (.mv (.k (.bool false))) none)]) (.seq (.seq (.ops [(PO.mk (some 6) (.mv (.t 0)) none), (PO.mk (some 7) (.lenSl (.t 6)) none), (PO.mk (some 8) (.mv (.t 1)) none), (PO.mk (some 9) (.lenSl (.t 8)) none), (PO.mk (some 10) (.bin .neq (.t 7) (.t 9)) none)]) (.cond (.t 10) (.seq (.ops [(PO.mk (some 4) (.mv (.k (.bool false))) none)]) .ret) .skip)) (.seq (.seq (.ops [(PO.mk (some 11) (.mv (.t 0)) none), (PO.mk (some 12) (.lenSl (.t 11)) none), (PO.mk (some 13) (.mv (.k (.int .i64 0))) none)]) (.block 0 (.loop (.seq (.ops [(PO.mk (some 14) (.bin .lss (.t 13) (.t 12)) none)]) (.seq (.cond (.t 14) .skip (.exit 0)) (.seq (.block 1 (.seq (.ops [(PO.mk (some 15) (.mv (.t 13)) none), (PO.mk (some 5) (.mv (.t 15)) none)]) (.seq (.draw [(.e, (PO.mk (some 16) (.mv (.t 0)) none)), (.e, (PO.mk (some 17) (.mv (.t 5)) none)), (.e, (PO.mk (some 18) (.idxSl 1 (.t 16) (.t 17)) none)), (.e, (PO.mk (some 20) (.mv (.t 1)) none)), (.e, (PO.mk (some 21) (.mv (.t 5)) none)), (.e, (PO.mk (some 22) (.idxSl 1 (.t 20) (.t 21)) none)), (.s, (PO.mk (some 19) (.load false 1 (.t 18)) none)), (.s, (PO.mk (some 23) (.load false 1 (.t 22)) none)), (.e, (PO.mk (some 24) (.bin .neq (.t 19) (.t 23)) none))]) (.cond (.t 24) (.seq (.ops [(PO.mk (some 4) (.mv (.k (.bool false))) none)]) .ret) .skip)))) (.ops [(PO.mk (some 25) (.bin .add (.t 13) (.k (.int .i64 1))) none), (PO.mk (some 13) (.mv (.t 25)) none)]))))))) (.seq (.ops [(PO.mk (some 4) (.mv (.k (.bool true))) none)]) .ret))))
def k240 (F : Fn) : PF := PF.mk 11 2 [(.t 4)] (.seq (.ops [(PO.mk (some 4) (.mv (.k (.int .i64 0))) none)]) (.seq (.ops [(PO.mk (some 5) (.mv (.t 1)) none), (PO.mk (some 6) (.mv (.t 0)) none), (PO.mk (some 7) (.call (F 159) [(.t 6)]) none), (PO.mk (some 8) (.bin .sub (.t 7) (.k (.int .i64 1))) none), (PO.mk (some 9) (.min [(.t 5), (.t 8)]) none), (PO.mk (some 10) (.max [(.k (.int .i64 0)), (.t 9)]) none), (PO.mk (some 4) (.mv (.t 10)) none)]) .ret))
def k241 (F : Fn) : PF := PF.mk 63 1 [(.t 2)] (.seq (.ops [(PO.mk (some 2) (.mv (.k (.bool false))) none)]) (.seq (.seq (.ops [(PO.mk (some 5) (.call (F 238) []) none), (PO.mk (some 6) (.not (.t 5)) none)]) (.cond (.t 6) (.seq (.ops [(PO.mk (some 2) (.mv (.k (.bool false))) none)]) .ret) .skip)) (.seq (.ops [(PO.mk (some 7) (.mv (.t 0)) none), (PO.mk (some 8) (.call (F 224) [(.t 7)]) none), (PO.mk (some 3) (.mv (.t 8)) none)]) (.seq (.seq (.ops [(PO.mk (some 9) (.mv (.t 3)) none), (PO.mk (some 10) (.mv (.t 0)) none), (PO.mk (some 11) (.call (F 231) [(.t 10)]) none), (PO.mk (some 12) (.call (F 239) [(.t 9), (.t 11)]) none), (PO.mk (some 13) (.not (.t 12)) none), (PO.mk (some 14) (.mv (.t 13)) none), (PO.mk (some 15) (.mv (.t 3)) (some (14, false))), (PO.mk (some 16) (.lenSl (.t 15)) (some (14, false))), (PO.mk (some 17) (.bin .gtr (.t 16) (.k (.int .i64 32))) (some (14, false))), (PO.mk (some 18) (.pick (.t 14) (.k (.bool true)) (.t 17)) none)]) (.cond (.t 18) (.seq (.ops [(PO.mk (some 2) (.mv (.k (.bool false))) none)]) .ret) .skip)) (.seq (.seq (.ops [(PO.mk (some 19) (.mv (.t 0)) none), (PO.mk (some 20) (.bin .lss (.t 19) (.k (.int .i64 0))) none)]) (.cond (.t 20) (.seq (.ops [(PO.mk (some 21) (.mv (.t 3)) none), (PO.mk (some 22) (.lenSl (.t 21)) none), (PO.mk (some 23) (.bin .eql (.t 22) (.k (.int .i64 0))) none), (PO.mk (some 2) (.mv (.t 23)) none)]) .ret) .skip)) (.seq (.seq (.ops [(PO.mk (some 4) (.mv (.k (.int .i64 1))) none)]) (.block 0 (.loop (.seq (.seq (.ops [(PO.mk (some 24) (.mv (.t 4)) none), (PO.mk (some 25) (.mv (.t 3)) none), (PO.mk (some 26) (.lenSl (.t 25)) none), (PO.mk (some 27) (.bin .lss (.t 24) (.t 26)) none)]) (.cond (.t 27) .skip (.exit 0))) (.seq (.block 1 (.seq (.draw [(.e, (PO.mk (some 30) (.mv (.t 3)) none)), (.e, (PO.mk (some 31) (.mv (.t 4)) none)), (.e, (PO.mk (some 32) (.idxSl 1 (.t 30) (.t 31)) none)), (.e, (PO.mk (some 34) (.mv (.t 3)) none)), (.e, (PO.mk (some 35) (.mv (.t 4)) none)), (.e, (PO.mk (some 36) (.bin .sub (.t 35) (.k (.int .i64 1))) none)), (.e, (PO.mk (some 37) (.idxSl 1 (.t 34) (.t 36)) none)), (.s, (PO.mk (some 33) (.load false 1 (.t 32)) none)), (.s, (PO.mk (some 38) (.load false 1 (.t 37)) none)), (.e, (PO.mk (some 39) (.bin .geq (.t 33) (.t 38)) none))]) (.cond (.t 39) (.seq (.ops [(PO.mk (some 2) (.mv (.k (.bool false))) none)]) .ret) .skip))) (.ops [(PO.mk (some 28) (.mv (.t 4)) none), (PO.mk (some 29) (.bin .add (.t 28) (.k (.int .i64 1))) none), (PO.mk (some 4) (.mv (.t 29)) none)])))))) (.seq (.ops [(PO.mk (some 40) (.mv (.t 3)) none), (PO.mk (some 41) (.lenSl (.t 40)) none), (PO.mk (some 42) (.bin .gtr (.t 41) (.k (.int .i64 0))) none), (PO.mk (some 43) (.mv (.t 42)) none), (PO.mk (some 44) (.mv (.t 3)) (some (43, true))), (PO.mk (some 45) (.mv (.t 3)) (some (43, true))), (PO.mk (some 46) (.lenSl (.t 45)) (some (43, true))), (PO.mk (some 47) (.bin .sub (.t 46) (.k (.int .i64 1))) (some (43, true))), (PO.mk (some 48) (.idxSl 1 (.t 44) (.t 47)) (some (43, true))), (PO.mk (some 49) (.load false 1 (.t 48)) (some (43, true))), (PO.mk (some 50) (.bin .eql (.t 49) (.k (.int .i64 0))) (some (43, true))), (PO.mk (some 51) (.pick (.t 43) (.t 50) (.k (.bool false))) none), (PO.mk (some 52) (.mv (.t 51)) none), (PO.mk (some 53) (.mv (.t 0)) (some (52, true))), (PO.mk (some 54) (.bin .eql (.t 53) (.k (.int .i64 0))) (some (52, true))), (PO.mk (some 55) (.mv (.t 54)) (some (52, true))), (PO.mk (some 56) (.mv (.t 3)) (some (55, false))), (PO.mk (some 57) (.idxSl 1 (.t 56) (.k (.int .i64 0))) (some (55, false))), (PO.mk (some 58) (.load false 1 (.t 57)) (some (55, false))), (PO.mk (some 59) (.mv (.t 0)) (some (55, false))), (PO.mk (some 60) (.bin .eql (.t 58) (.t 59)) (some (55, false))), (PO.mk (some 61) (.pick (.t 55) (.k (.bool true)) (.t 60)) (some (52, true))), (PO.mk (some 62) (.pick (.t 52) (.t 61) (.k (.bool false))) none), (PO.mk (some 2) (.mv (.t 62)) none)]) .ret)))))))
def k242 (F : Fn) : PF := PF.mk 113 3 [(.t 6)] (.seq (.ops [(PO.mk (some 4) (.box (.t 1)) none), (PO.mk (some 6) (.mv (.k (.bool false))) none)]) (.seq (.seq (.ops [(PO.mk (some 15) (.call (F 238) []) none), (PO.mk (some 16) (.not (.t 15)) none)]) (.cond (.t 16) (.seq (.ops [(PO.mk (some 6) (.mv (.k (.bool false))) none)]) .ret) .skip)) (.seq (.seq (.ops [(PO.mk (some 17) (.mv (.t 0)) none), (PO.mk (some 18) (.lenSl (.t 17)) none), (PO.mk (some 19) (.bin .gtr (.t 18) (.k (.int .i64 25))) none), (PO.mk (some 20) (.mv (.t 19)) none), (PO.mk (some 21) (.mv (.t 2)) (some (20, false))), (PO.mk (some 22) (.lenSl (.t 21)) (some (20, false))), (PO.mk (some 23) (.bin .gtr (.t 22) (.k (.int .i64 20))) (some (20, false))), (PO.mk (some 24) (.pick (.t 20) (.k (.bool true)) (.t 23)) none)]) (.cond (.t 24) (.seq (.ops [(PO.mk (some 6) (.mv (.k (.bool true))) none)]) .ret) .skip)) (.seq (.ops [(PO.mk (some 26) (.mv (.t 0)) none), (PO.mk (some 27) (.call (F 237) [(.t 26)]) none), (PO.mk (some 25) (.mv (.t 27)) none), (PO.mk (some 28) (.ext 0 (.t 25)) none), (PO.mk (some 29) (.ext 1 (.t 25)) none), (PO.mk (some 7) (.mv (.t 28)) none), (PO.mk (some 8) (.mv (.t 29)) none)]) (.seq (.seq (.ops [(PO.mk (some 30) (.mv (.t 7)) none), (PO.mk (some 31) (.eqa .ptr false (.t 30) (.k (.ptr none))) none), (PO.mk (some 32) (.mv (.t 31)) none), (PO.mk (some 33) (.mv (.t 7)) (some (32, false))), (PO.mk (some 34) (.call (F 159) [(.t 33)]) (some (32, false))), (PO.mk (some 35) (.mv (.t 8)) (some (32, false))), (PO.mk (some 36) (.lenSl (.t 35)) (some (32, false))), (PO.mk (some 37) (.bin .neq (.t 34) (.t 36)) (some (32, false))), (PO.mk (some 38) (.pick (.t 32) (.k (.bool true)) (.t 37)) none)]) (.cond (.t 38) (.seq (.ops [(PO.mk (some 6) (.mv (.k (.bool false))) none)]) .ret) .skip)) (.seq (.draw [(.e, (PO.mk (some 39) (.mv (.t 7)) none)), (.e, (PO.mk (some 40) (.idxArr 3 1 (.t 4) (.k (.int .i64 0))) none)), (.e, (PO.mk (some 43) (.mv (.t 7)) none)), (.e, (PO.mk (some 44) (.idxArr 3 1 (.t 4) (.k (.int .i64 1))) none)), (.e, (PO.mk (some 47) (.mv (.t 7)) none)), (.e, (PO.mk (some 48) (.idxArr 3 1 (.t 4) (.k (.int .i64 2))) none)), (.s, (PO.mk (some 41) (.load false 1 (.t 40)) none)), (.s, (PO.mk (some 42) (.call (F 240) [(.t 39), (.t 41)]) none)), (.s, (PO.mk (some 45) (.load false 1 (.t 44)) none)), (.s, (PO.mk (some 46) (.call (F 240) [(.t 43), (.t 45)]) none)), (.s, (PO.mk (some 49) (.load false 1 (.t 48)) none)), (.s, (PO.mk (some 50) (.call (F 240) [(.t 47), (.t 49)]) none)), (.e, (PO.mk (some 9) (.mv (.t 42)) none)), (.e, (PO.mk (some 10) (.mv (.t 46)) none)), (.e, (PO.mk (some 11) (.mv (.t 50)) none))]) (.seq (.ops [(PO.mk (some 12) (.mv (.k (.sl .nil [] 0))) none)]) (.seq (.seq (.ops [(PO.mk (some 51) (.mv (.t 2)) none), (PO.mk (some 52) (.lenSl (.t 51)) none), (PO.mk (some 53) (.mv (.k (.int .i64 0))) none)]) (.block 0 (.loop (.seq (.ops [(PO.mk (some 54) (.bin .lss (.t 53) (.t 52)) none)]) (.seq (.cond (.t 54) .skip (.exit 0)) (.seq (.block 1 (.seq (.ops [(PO.mk (some 55) (.idxSl 1 (.t 51) (.t 53)) none), (PO.mk (some 56) (.load false 1 (.t 55)) none), (PO.mk (some 14) (.mv (.t 56)) none)]) (.seq (.ops [(PO.mk (some 57) (.mv (.t 12)) none), (PO.mk (some 58) (.mv (.t 7)) none), (PO.mk (some 59) (.mv (.t 14)) none), (PO.mk (some 60) (.call (F 161) [(.t 58), (.t 59)]) none), (PO.mk (some 61) (.fld true 68 32 (.t 60)) none), (PO.mk (some 62) (.bsl false 32 1 zR32_w80 [(0, (32, (.t 61)))]) none), (PO.mk (some 63) (.app 32 32 (.t 57) (.t 62)) none), (PO.mk (some 12) (.mv (.t 63)) none)]) (.seq (.ops [(PO.mk (some 64) (.mv (.t 14)) none), (PO.mk (some 65) (.bin .lss (.t 64) (.k (.int .i64 0))) none)]) (.cond (.t 65) (.ops [(PO.mk (some 66) (.mv (.t 12)) none), (PO.mk (some 67) (.mv (.t 14)) none), (PO.mk (some 68) (.conv .u8 (.t 67)) none), (PO.mk (some 69) (.build zR32_w80 [(0, (1, (.t 68)))]) none), (PO.mk (some 70) (.bsl false 32 1 zR32_w80 [(0, (32, (.t 69)))]) none), (PO.mk (some 71) (.app 32 32 (.t 66) (.t 70)) none), (PO.mk (some 12) (.mv (.t 71)) none)]) .skip))))) (.ops [(PO.mk (some 72) (.bin .add (.t 53) (.k (.int .i64 1))) none), (PO.mk (some 53) (.mv (.t 72)) none)]))))))) (.seq (.seq (.ops [(PO.mk (some 73) (.mv (.t 7)) none), (PO.mk (some 74) (.mv (.t 9)) none), (PO.mk (some 75) (.mv (.t 12)) none), (PO.mk (some 76) (.call (F 226) [(.t 73), (.t 74), (.t 75)]) none), (PO.mk (some 77) (.mv (.t 8)) none), (PO.mk (some 78) (.mv (.t 9)) none), (PO.mk (some 79) (.mv (.t 12)) none), (PO.mk (some 80) (.call (F 233) [(.t 77), (.t 78), (.t 79)]) none), (PO.mk (some 81) (.bin .neq (.t 76) (.t 80)) none), (PO.mk (some 82) (.mv (.t 81)) none), (PO.mk (some 83) (.mv (.t 7)) (some (82, false))), (PO.mk (some 84) (.mv (.t 9)) (some (82, false))), (PO.mk (some 85) (.mv (.t 10)) (some (82, false))), (PO.mk (some 86) (.call (F 228) [(.t 83), (.t 84), (.t 85)]) (some (82, false))), (PO.mk (some 87) (.mv (.t 8)) (some (82, false))), (PO.mk (some 88) (.mv (.t 9)) (some (82, false))), (PO.mk (some 89) (.mv (.t 10)) (some (82, false))), (PO.mk (some 90) (.call (F 235) [(.t 87), (.t 88), (.t 89)]) (some (82, false))), (PO.mk (some 91) (.bin .neq (.t 86) (.t 90)) (some (82, false))), (PO.mk (some 92) (.pick (.t 82) (.k (.bool true)) (.t 91)) none)]) (.cond (.t 92) (.seq (.ops [(PO.mk (some 6) (.mv (.k (.bool false))) none)]) .ret) .skip)) (.seq (.seq (.ops [(PO.mk (some 93) (.mv (.t 7)) none), (PO.mk (some 94) (.mv (.t 11)) none), (PO.mk (some 95) (.mv (.t 9)) none), (PO.mk (some 96) (.call (F 163) [(.t 93), (.t 94), (.t 95)]) none), (PO.mk (some 97) (.not (.t 96)) none)]) (.cond (.t 97) (.seq (.ops [(PO.mk (some 98) (.mv (.t 7)) none), (PO.mk (some 99) (.mv (.t 11)) none), (PO.mk (some 100) (.mv (.t 9)) none), (PO.mk (some 101) (.call (F 229) [(.t 98), (.t 99), (.t 100)]) none), (PO.mk (some 102) (.lenSl (.t 101)) none), (PO.mk (some 103) (.bin .eql (.t 102) (.k (.int .i64 0))) none), (PO.mk (some 6) (.mv (.t 103)) none)]) .ret) .skip)) (.seq (.ops [(PO.mk (some 104) (.mv (.t 7)) none), (PO.mk (some 105) (.mv (.t 11)) none), (PO.mk (some 106) (.mv (.t 9)) none), (PO.mk (some 107) (.call (F 229) [(.t 104), (.t 105), (.t 106)]) none), (PO.mk (some 108) (.mv (.t 8)) none), (PO.mk (some 109) (.mv (.t 11)) none), (PO.mk (some 110) (.mv (.t 9)) none), (PO.mk (some 111) (.call (F 234) [(.t 108), (.t 109), (.t 110)]) none), (PO.mk (some 112) (.call (F 239) [(.t 107), (.t 111)]) none), (PO.mk (some 6) (.mv (.t 112)) none)]) .ret)))))))))))
def k243 (F : Fn) : PF := PF.mk 101 2 [(.t 4)] (.seq (.ops [(PO.mk (some 3) (.box (.t 1)) none), (PO.mk (some 4) (.mv (.k (.bool false))) none)]) (.seq (.seq (.ops [(PO.mk (some 13) (.call (F 238) []) none), (PO.mk (some 14) (.not (.t 13)) none)]) (.cond (.t 14) (.seq (.ops [(PO.mk (some 4) (.mv (.k (.bool false))) none)]) .ret) .skip)) (.seq (.seq (.ops [(PO.mk (some 15) (.mv (.t 0)) none), (PO.mk (some 16) (.lenSl (.t 15)) none), (PO.mk (some 17) (.bin .gtr (.t 16) (.k (.int .i64 40))) none)]) (.cond (.t 17) (.seq (.ops [(PO.mk (some 4) (.mv (.k (.bool true))) none)]) .ret) .skip)) (.seq (.ops [(PO.mk (some 19) (.mv (.t 0)) none), (PO.mk (some 20) (.call (F 237) [(.t 19)]) none), (PO.mk (some 18) (.mv (.t 20)) none), (PO.mk (some 21) (.ext 0 (.t 18)) none), (PO.mk (some 22) (.ext 1 (.t 18)) none), (PO.mk (some 5) (.mv (.t 21)) none), (PO.mk (some 6) (.mv (.t 22)) none)]) (.seq (.seq (.ops [(PO.mk (some 23) (.mv (.t 5)) none), (PO.mk (some 24) (.eqa .ptr false (.t 23) (.k (.ptr none))) none)]) (.cond (.t 24) (.seq (.ops [(PO.mk (some 4) (.mv (.k (.bool false))) none)]) .ret) .skip)) (.seq (.draw [(.e, (PO.mk (some 25) (.mv (.t 5)) none)), (.e, (PO.mk (some 26) (.idxArr 2 1 (.t 3) (.k (.int .i64 0))) none)), (.e, (PO.mk (some 29) (.mv (.t 5)) none)), (.e, (PO.mk (some 30) (.idxArr 2 1 (.t 3) (.k (.int .i64 1))) none)), (.s, (PO.mk (some 27) (.load false 1 (.t 26)) none)), (.s, (PO.mk (some 28) (.call (F 240) [(.t 25), (.t 27)]) none)), (.s, (PO.mk (some 31) (.load false 1 (.t 30)) none)), (.s, (PO.mk (some 32) (.call (F 240) [(.t 29), (.t 31)]) none)), (.e, (PO.mk (some 7) (.mv (.t 28)) none)), (.e, (PO.mk (some 8) (.mv (.t 32)) none))]) (.seq (.ops [(PO.mk (some 33) (.mv (.t 5)) none), (PO.mk (some 34) (.mv (.t 8)) none), (PO.mk (some 35) (.mv (.t 5)) none), (PO.mk (some 36) (.mv (.t 7)) none), (PO.mk (some 37) (.call (F 225) [(.t 35), (.t 36)]) none), (PO.mk (some 38) (.call (F 226) [(.t 33), (.t 34), (.t 37)]) none), (PO.mk (some 39) (.mv (.t 5)) none), (PO.mk (some 40) (.mv (.t 7)) none), (PO.mk (some 41) (.mv (.t 8)) none), (PO.mk (some 42) (.call (F 228) [(.t 39), (.t 40), (.t 41)]) none), (PO.mk (some 9) (.mv (.t 38)) none), (PO.mk (some 10) (.mv (.t 42)) none)]) (.seq (.seq (.ops [(PO.mk (some 43) (.mv (.t 5)) none), (PO.mk (some 44) (.mv (.t 9)) none), (PO.mk (some 45) (.mv (.t 7)) none), (PO.mk (some 46) (.call (F 163) [(.t 43), (.t 44), (.t 45)]) none), (PO.mk (some 47) (.not (.t 46)) none), (PO.mk (some 48) (.mv (.t 47)) none), (PO.mk (some 49) (.mv (.t 5)) (some (48, false))), (PO.mk (some 50) (.mv (.t 9)) (some (48, false))), (PO.mk (some 51) (.mv (.t 8)) (some (48, false))), (PO.mk (some 52) (.call (F 163) [(.t 49), (.t 50), (.t 51)]) (some (48, false))), (PO.mk (some 53) (.not (.t 52)) (some (48, false))), (PO.mk (some 54) (.pick (.t 48) (.k (.bool true)) (.t 53)) none), (PO.mk (some 55) (.mv (.t 54)) none), (PO.mk (some 56) (.mv (.t 5)) (some (55, false))), (PO.mk (some 57) (.mv (.t 10)) (some (55, false))), (PO.mk (some 58) (.mv (.t 7)) (some (55, false))), (PO.mk (some 59) (.call (F 163) [(.t 56), (.t 57), (.t 58)]) (some (55, false))), (PO.mk (some 60) (.not (.t 59)) (some (55, false))), (PO.mk (some 61) (.pick (.t 55) (.k (.bool true)) (.t 60)) none), (PO.mk (some 62) (.mv (.t 61)) none), (PO.mk (some 63) (.mv (.t 5)) (some (62, false))), (PO.mk (some 64) (.mv (.t 10)) (some (62, false))), (PO.mk (some 65) (.mv (.t 8)) (some (62, false))), (PO.mk (some 66) (.call (F 163) [(.t 63), (.t 64), (.t 65)]) (some (62, false))), (PO.mk (some 67) (.not (.t 66)) (some (62, false))), (PO.mk (some 68) (.pick (.t 62) (.k (.bool true)) (.t 67)) none), (PO.mk (some 69) (.mv (.t 68)) none), (PO.mk (some 70) (.mv (.t 5)) (some (69, false))), (PO.mk (some 71) (.mv (.t 9)) (some (69, false))), (PO.mk (some 72) (.mv (.t 10)) (some (69, false))), (PO.mk (some 73) (.call (F 163) [(.t 70), (.t 71), (.t 72)]) (some (69, false))), (PO.mk (some 74) (.not (.t 73)) (some (69, false))), (PO.mk (some 75) (.pick (.t 69) (.k (.bool true)) (.t 74)) none)]) (.cond (.t 75) (.seq (.ops [(PO.mk (some 4) (.mv (.k (.bool false))) none)]) .ret) .skip)) (.seq (.ops [(PO.mk (some 76) (.mv (.t 5)) none), (PO.mk (some 77) (.mv (.t 7)) none), (PO.mk (some 78) (.call (F 161) [(.t 76), (.t 77)]) none), (PO.mk (some 79) (.fld false 102 1 (.t 78)) none), (PO.mk (some 80) (.mv (.t 5)) none), (PO.mk (some 81) (.mv (.t 10)) none), (PO.mk (some 82) (.call (F 161) [(.t 80), (.t 81)]) none), (PO.mk (some 83) (.fld false 102 1 (.t 82)) none), (PO.mk (some 84) (.bin .sub (.t 79) (.t 83)) none), (PO.mk (some 85) (.mv (.t 5)) none), (PO.mk (some 86) (.mv (.t 10)) none), (PO.mk (some 87) (.call (F 161) [(.t 85), (.t 86)]) none), (PO.mk (some 88) (.fld false 102 1 (.t 87)) none), (PO.mk (some 89) (.mv (.t 5)) none), (PO.mk (some 90) (.mv (.t 9)) none), (PO.mk (some 91) (.call (F 161) [(.t 89), (.t 90)]) none), (PO.mk (some 92) (.fld false 102 1 (.t 91)) none), (PO.mk (some 93) (.bin .sub (.t 88) (.t 92)) none), (PO.mk (some 11) (.mv (.t 84)) none), (PO.mk (some 12) (.mv (.t 93)) none)]) (.seq (.ops [(PO.mk (some 94) (.mv (.t 12)) none), (PO.mk (some 95) (.mv (.t 11)) none), (PO.mk (some 96) (.bin .leq (.t 94) (.t 95)) none), (PO.mk (some 97) (.mv (.t 96)) none), (PO.mk (some 98) (.mv (.t 12)) (some (97, false))), (PO.mk (some 99) (.bin .eql (.t 98) (.k (.int .i64 0))) (some (97, false))), (PO.mk (some 100) (.pick (.t 97) (.k (.bool true)) (.t 99)) none), (PO.mk (some 4) (.mv (.t 100)) none)]) .ret))))))))))
def k244 (F : Fn) : PF := PF.mk 82 2 [(.t 4)] (.seq (.ops [(PO.mk (some 4) (.mv (.k (.bool false))) none)]) (.seq (.seq (.ops [(PO.mk (some 11) (.call (F 238) []) none), (PO.mk (some 12) (.not (.t 11)) none)]) (.cond (.t 12) (.seq (.ops [(PO.mk (some 4) (.mv (.k (.bool false))) none)]) .ret) .skip)) (.seq (.seq (.ops [(PO.mk (some 13) (.mv (.t 0)) none), (PO.mk (some 14) (.lenSl (.t 13)) none), (PO.mk (some 15) (.bin .gtr (.t 14) (.k (.int .i64 40))) none)]) (.cond (.t 15) (.seq (.ops [(PO.mk (some 4) (.mv (.k (.bool true))) none)]) .ret) .skip)) (.seq (.ops [(PO.mk (some 17) (.mv (.t 0)) none), (PO.mk (some 18) (.call (F 237) [(.t 17)]) none), (PO.mk (some 16) (.mv (.t 18)) none), (PO.mk (some 19) (.ext 0 (.t 16)) none), (PO.mk (some 20) (.ext 1 (.t 16)) none), (PO.mk (some 5) (.mv (.t 19)) none), (PO.mk (some 6) (.mv (.t 20)) none)]) (.seq (.seq (.ops [(PO.mk (some 21) (.mv (.t 5)) none), (PO.mk (some 22) (.eqa .ptr false (.t 21) (.k (.ptr none))) none)]) (.cond (.t 22) (.seq (.ops [(PO.mk (some 4) (.mv (.k (.bool false))) none)]) .ret) .skip)) (.seq (.ops [(PO.mk (some 23) (.mv (.t 5)) none), (PO.mk (some 24) (.mv (.t 1)) none), (PO.mk (some 25) (.call (F 225) [(.t 23), (.t 24)]) none), (PO.mk (some 7) (.mv (.t 25)) none)]) (.seq (.seq (.ops [(PO.mk (some 26) (.mv (.t 1)) none), (PO.mk (some 27) (.bin .lss (.t 26) (.k (.int .i64 0))) none), (PO.mk (some 28) (.mv (.t 27)) none), (PO.mk (some 29) (.mv (.t 1)) (some (28, false))), (PO.mk (some 30) (.mv (.t 5)) (some (28, false))), (PO.mk (some 31) (.call (F 159) [(.t 30)]) (some (28, false))), (PO.mk (some 32) (.bin .geq (.t 29) (.t 31)) (some (28, false))), (PO.mk (some 33) (.pick (.t 28) (.k (.bool true)) (.t 32)) none)]) (.cond (.t 33) (.seq (.ops [(PO.mk (some 34) (.mv (.t 7)) none), (PO.mk (some 35) (.lenSl (.t 34)) none), (PO.mk (some 36) (.bin .eql (.t 35) (.k (.int .i64 0))) none), (PO.mk (some 37) (.mv (.t 36)) none), (PO.mk (some 38) (.mv (.t 5)) (some (37, true))), (PO.mk (some 39) (.mv (.t 1)) (some (37, true))), (PO.mk (some 40) (.build zR32_w80 []) (some (37, true))), (PO.mk (some 41) (.call (F 227) [(.t 38), (.t 39), (.k (.int .i64 0)), (.t 40), (.k (.int .i64 5))]) (some (37, true))), (PO.mk (some 42) (.lenSl (.t 41)) (some (37, true))), (PO.mk (some 43) (.bin .eql (.t 42) (.k (.int .i64 0))) (some (37, true))), (PO.mk (some 44) (.pick (.t 37) (.t 43) (.k (.bool false))) none), (PO.mk (some 45) (.mv (.t 44)) none), (PO.mk (some 46) (.mv (.t 5)) (some (45, true))), (PO.mk (some 47) (.mv (.t 1)) (some (45, true))), (PO.mk (some 48) (.call (F 229) [(.t 46), (.k (.int .i64 0)), (.t 47)]) (some (45, true))), (PO.mk (some 49) (.lenSl (.t 48)) (some (45, true))), (PO.mk (some 50) (.bin .eql (.t 49) (.k (.int .i64 0))) (some (45, true))), (PO.mk (some 51) (.pick (.t 45) (.t 50) (.k (.bool false))) none), (PO.mk (some 4) (.mv (.t 51)) none)]) .ret) .skip)) (.seq (.ops [(PO.mk (some 52) (.mv (.t 5)) none), (PO.mk (some 53) (.mv (.t 1)) none), (PO.mk (some 54) (.call (F 161) [(.t 52), (.t 53)]) none), (PO.mk (some 55) (.fld false 102 1 (.t 54)) none), (PO.mk (some 56) (.call (F 224) [(.t 55)]) none), (PO.mk (some 8) (.mv (.t 56)) none)]) (.seq (.seq (.ops [(PO.mk (some 57) (.mv (.t 7)) none), (PO.mk (some 58) (.lenSl (.t 57)) none), (PO.mk (some 59) (.mv (.t 8)) none), (PO.mk (some 60) (.lenSl (.t 59)) none), (PO.mk (some 61) (.bin .neq (.t 58) (.t 60)) none)]) (.cond (.t 61) (.seq (.ops [(PO.mk (some 4) (.mv (.k (.bool false))) none)]) .ret) .skip)) (.seq (.seq (.ops [(PO.mk (some 62) (.mv (.t 8)) none), (PO.mk (some 63) (.lenSl (.t 62)) none), (PO.mk (some 64) (.mv (.k (.int .i64 0))) none)]) (.block 0 (.loop (.seq (.ops [(PO.mk (some 65) (.bin .lss (.t 64) (.t 63)) none)]) (.seq (.cond (.t 65) .skip (.exit 0)) (.seq (.block 1 (.seq (.ops [(PO.mk (some 66) (.mv (.t 64)) none), (PO.mk (some 67) (.idxSl 1 (.t 62) (.t 64)) none), (PO.mk (some 68) (.load false 1 (.t 67)) none), (PO.mk (some 9) (.mv (.t 66)) none), (PO.mk (some 10) (.mv (.t 68)) none)]) (.seq (.draw [(.e, (PO.mk (some 69) (.mv (.t 7)) none)), (.e, (PO.mk (some 70) (.mv (.t 9)) none)), (.e, (PO.mk (some 71) (.idxSl 32 (.t 69) (.t 70)) none)), (.e, (PO.mk (some 73) (.mv (.t 5)) none)), (.e, (PO.mk (some 74) (.mv (.t 5)) none)), (.e, (PO.mk (some 75) (.mv (.t 1)) none)), (.e, (PO.mk (some 76) (.mv (.t 10)) none)), (.s, (PO.mk (some 72) (.load true 32 (.t 71)) none)), (.s, (PO.mk (some 77) (.call (F 158) [(.t 74), (.t 75), (.t 76)]) none)), (.s, (PO.mk (some 78) (.call (F 161) [(.t 73), (.t 77)]) none)), (.e, (PO.mk (some 79) (.fld true 68 32 (.t 78)) none)), (.e, (PO.mk (some 80) (.eqa (.agg 32) true (.t 72) (.t 79)) none))]) (.cond (.t 80) (.seq (.ops [(PO.mk (some 4) (.mv (.k (.bool false))) none)]) .ret) .skip)))) (.ops [(PO.mk (some 81) (.bin .add (.t 64) (.k (.int .i64 1))) none), (PO.mk (some 64) (.mv (.t 81)) none)]))))))) (.seq (.ops [(PO.mk (some 4) (.mv (.k (.bool true))) none)]) .ret)))))))))))
def k245 (F : Fn) : PF := PF.mk 96 2 [(.t 4)] (.seq (.ops [(PO.mk (some 3) (.box (.t 1)) none), (PO.mk (some 4) (.mv (.k (.bool false))) none)]) (.seq (.seq (.ops [(PO.mk (some 16) (.call (F 238) []) none), (PO.mk (some 17) (.not (.t 16)) none)]) (.cond (.t 17) (.seq (.ops [(PO.mk (some 4) (.mv (.k (.bool false))) none)]) .ret) .skip)) (.seq (.seq (.ops [(PO.mk (some 18) (.mv (.t 0)) none), (PO.mk (some 19) (.lenSl (.t 18)) none), (PO.mk (some 20) (.bin .gtr (.t 19) (.k (.int .i64 30))) none)]) (.cond (.t 20) (.seq (.ops [(PO.mk (some 4) (.mv (.k (.bool true))) none)]) .ret) .skip)) (.seq (.ops [(PO.mk (some 22) (.mv (.t 0)) none), (PO.mk (some 23) (.call (F 237) [(.t 22)]) none), (PO.mk (some 21) (.mv (.t 23)) none), (PO.mk (some 24) (.ext 0 (.t 21)) none), (PO.mk (some 25) (.ext 1 (.t 21)) none), (PO.mk (some 5) (.mv (.t 24)) none), (PO.mk (some 6) (.mv (.t 25)) none)]) (.seq (.seq (.ops [(PO.mk (some 26) (.mv (.t 5)) none), (PO.mk (some 27) (.eqa .ptr false (.t 26) (.k (.ptr none))) none)]) (.cond (.t 27) (.seq (.ops [(PO.mk (some 4) (.mv (.k (.bool false))) none)]) .ret) .skip)) (.seq (.draw [(.e, (PO.mk (some 28) (.mv (.t 5)) none)), (.e, (PO.mk (some 29) (.idxArr 2 1 (.t 3) (.k (.int .i64 0))) none)), (.e, (PO.mk (some 32) (.mv (.t 5)) none)), (.e, (PO.mk (some 33) (.idxArr 2 1 (.t 3) (.k (.int .i64 1))) none)), (.s, (PO.mk (some 30) (.load false 1 (.t 29)) none)), (.s, (PO.mk (some 31) (.call (F 240) [(.t 28), (.t 30)]) none)), (.s, (PO.mk (some 34) (.load false 1 (.t 33)) none)), (.s, (PO.mk (some 35) (.call (F 240) [(.t 32), (.t 34)]) none)), (.e, (PO.mk (some 7) (.mv (.t 31)) none)), (.e, (PO.mk (some 8) (.mv (.t 35)) none))]) (.seq (.ops [(PO.mk (some 36) (.mv (.t 5)) none), (PO.mk (some 37) (.mv (.t 7)) none), (PO.mk (some 38) (.mv (.t 8)) none), (PO.mk (some 39) (.call (F 228) [(.t 36), (.t 37), (.t 38)]) none), (PO.mk (some 9) (.mv (.t 39)) none)]) (.seq (.ops [(PO.mk (some 40) POp.mkmap none), (PO.mk (some 10) (.mv (.t 40)) none)]) (.seq (.seq (.ops [(PO.mk (some 41) (.mv (.t 7)) none), (PO.mk (some 42) (.mv (.t 8)) none), (PO.mk (some 43) (.build [(.int .i64 0), (.int .i64 0)] [(0, (1, (.t 41))), (1, (1, (.t 42)))]) none), (PO.mk (some 44) (.mv (.k (.int .i64 0))) none)]) (.block 0 (.loop (.seq (.ops [(PO.mk (some 45) (.bin .lss (.t 44) (.k (.int .i64 2))) none)]) (.seq (.cond (.t 45) .skip (.exit 0)) (.seq (.block 1 (.seq (.ops [(PO.mk (some 46) (.idx 2 false 1 (.t 43) (.t 44)) none), (PO.mk (some 12) (.mv (.t 46)) none)]) (.seq (.ops [(PO.mk (some 47) (.mv (.t 9)) none), (PO.mk (some 13) (.mv (.t 47)) none)]) (.seq (.seq (.ops [(PO.mk (some 48) (.mv (.t 5)) none), (PO.mk (some 49) (.mv (.t 9)) none), (PO.mk (some 50) (.mv (.t 12)) none), (PO.mk (some 51) (.call (F 229) [(.t 48), (.t 49), (.t 50)]) none), (PO.mk (some 52) (.lenSl (.t 51)) none), (PO.mk (some 53) (.mv (.k (.int .i64 0))) none)]) (.block 2 (.loop (.seq (.ops [(PO.mk (some 54) (.bin .lss (.t 53) (.t 52)) none)]) (.seq (.cond (.t 54) .skip (.exit 2)) (.seq (.block 3 (.seq (.ops [(PO.mk (some 55) (.idxSl 1 (.t 51) (.t 53)) none), (PO.mk (some 56) (.load false 1 (.t 55)) none), (PO.mk (some 15) (.mv (.t 56)) none)]) (.seq (.seq (.ops [(PO.mk (some 57) (.mv (.t 5)) none), (PO.mk (some 58) (.mv (.t 15)) none), (PO.mk (some 59) (.call (F 161) [(.t 57), (.t 58)]) none), (PO.mk (some 60) (.fld false 100 1 (.t 59)) none), (PO.mk (some 61) (.mv (.t 13)) none), (PO.mk (some 62) (.bin .neq (.t 60) (.t 61)) none), (PO.mk (some 63) (.mv (.t 62)) none), (PO.mk (some 64) (.mv (.t 10)) (some (63, false))), (PO.mk (some 65) (.mv (.t 15)) (some (63, false))), (PO.mk (some 66) (.lookup .int (.bool false) false (.t 64) (.t 65)) (some (63, false))), (PO.mk (some 67) (.pick (.t 63) (.k (.bool true)) (.t 66)) none)]) (.cond (.t 67) (.seq (.ops [(PO.mk (some 4) (.mv (.k (.bool false))) none)]) .ret) .skip)) (.ops [(PO.mk (some 68) (.mv (.t 10)) none), (PO.mk (some 69) (.mv (.t 15)) none), (PO.mk (some 70) (.mv (.t 15)) none), (PO.mk none (.mset .int (.t 68) (.t 69) (.k (.bool true))) none), (PO.mk (some 13) (.mv (.t 70)) none)])))) (.ops [(PO.mk (some 71) (.bin .add (.t 53) (.k (.int .i64 1))) none), (PO.mk (some 53) (.mv (.t 71)) none)]))))))) (.seq (.ops [(PO.mk (some 72) (.mv (.t 13)) none), (PO.mk (some 73) (.mv (.t 12)) none), (PO.mk (some 74) (.bin .neq (.t 72) (.t 73)) none)]) (.cond (.t 74) (.seq (.ops [(PO.mk (some 4) (.mv (.k (.bool false))) none)]) .ret) .skip)))))) (.ops [(PO.mk (some 75) (.bin .add (.t 44) (.k (.int .i64 1))) none), (PO.mk (some 44) (.mv (.t 75)) none)]))))))) (.seq (.ops [(PO.mk (some 76) (.mv (.t 5)) none), (PO.mk (some 77) (.mv (.t 7)) none), (PO.mk (some 78) (.mv (.t 7)) none), (PO.mk (some 79) (.call (F 228) [(.t 76), (.t 77), (.t 78)]) none), (PO.mk (some 80) (.mv (.t 7)) none), (PO.mk (some 81) (.bin .eql (.t 79) (.t 80)) none), (PO.mk (some 82) (.mv (.t 81)) none), (PO.mk (some 83) (.mv (.t 5)) (some (82, true))), (PO.mk (some 84) (.mv (.t 8)) (some (82, true))), (PO.mk (some 85) (.mv (.t 7)) (some (82, true))), (PO.mk (some 86) (.call (F 228) [(.t 83), (.t 84), (.t 85)]) (some (82, true))), (PO.mk (some 87) (.mv (.t 9)) (some (82, true))), (PO.mk (some 88) (.bin .eql (.t 86) (.t 87)) (some (82, true))), (PO.mk (some 89) (.pick (.t 82) (.t 88) (.k (.bool false))) none), (PO.mk (some 90) (.mv (.t 89)) none), (PO.mk (some 91) (.mv (.t 5)) (some (90, true))), (PO.mk (some 92) (.mv (.t 7)) (some (90, true))), (PO.mk (some 93) (.call (F 228) [(.t 91), (.t 92), (.k (.int .i64 0))]) (some (90, true))), (PO.mk (some 94) (.bin .eql (.t 93) (.k (.int .i64 0))) (some (90, true))), (PO.mk (some 95) (.pick (.t 90) (.t 94) (.k (.bool false))) none), (PO.mk (some 4) (.mv (.t 95)) none)]) .ret))))))))))
structure OkLaw11 (P : Program) (F : Fn) : Prop where
  mixed : P.follows .mixedOrders = true
  toOkRef11 : OkRef11 P F
  toOkLocate : OkLocate P F
  h236 : compFn P ⟨[], [], [], [], []⟩ (F 236) = some (k236 F)
  h237 : compFn P ⟨[], [], [], [58], []⟩ (F 237) = some (k237 F)
  h238 : compFn P ⟨[], [], [], [], []⟩ (F 238) = some (k238 F)
  h239 : compFn P ⟨[], [], [], [], []⟩ (F 239) = some (k239 F)
  h240 : compFn P ⟨[], [], [], [], []⟩ (F 240) = some (k240 F)
  h241 : compFn P ⟨[], [], [], [], []⟩ (F 241) = some (k241 F)
  h242 : compFn P ⟨[], [], [], [], []⟩ (F 242) = some (k242 F)
  h243 : compFn P ⟨[], [], [], [], []⟩ (F 243) = some (k243 F)
  h244 : compFn P ⟨[], [], [], [], []⟩ (F 244) = some (k244 F)
  h245 : compFn P ⟨[], [], [], [], []⟩ (F 245) = some (k245 F)
end Go.Ab
set_option linter.unusedSimpArgs false
set_option linter.unusedVariables false
set_option maxRecDepth 10000
namespace Go.Ab
open Go Go.RowKit
theorem inI_of {l : List Nd} {i : Nat} (h : i < l.length) : inI l i = i := by unfold inI; rw [if_neg (by omega)]; omega
theorem par_int {l : List Nd} (w : Wf l) {i : Nat} (h0 : 0 < i) (hi : i < l.length) : (nd l i).parent = (par l i : Nat) := by
  have := w.succ i _ h0 (List.getElem?_eq_getElem hi)
  rw [par_at hi, nd_at hi]
  omega
theorem nd_hgt_eq {l : List Nd} {i : Nat} (hi : i < l.length) : (nd l i).height = hgt l i := by rw [nd_at hi, hgt_at hi]
section
variable {P : Program} {F : Fn}
set_option maxHeartbeats 1000000 in
theorem spec229 (ok : OkLocate P F) {st : St} {tid : Nat} {r : Rl} {l : List Nd} (h : TreeR tid r l st) (w : Wf l) (hl : l.length ≤ 16384) (a b : Int) :
    ACalls P (F 229) [.ptr (some (tid, 0)), .int .i64 a, .int .i64 b] st fun v st' => Sep [Sl 1 e1 v (wayI l a b), Was st] st' := by
  have okz := ok.toOkIndexZ
  have oki := okz.toOkIndex
  refine shows_call ok.mixed ok.h229 (by simp [k229]) ?_
  simp only [k229]
  have fin : onB l a b = false → ∃ s, St.sub s st ∧ Sep [Sl 1 e1 (.sl .nil [] 0) (wayI l a b), Was st] s := fun hb => by
    rw [wayI, hb]
    exact ⟨st, sub_self _, (Sep.start st).slNil⟩
  by_cases hb0 : b < 0
  · have hb : onB l a b = false := by
      cases e : onB l a b with
      | false => rfl
      | true => obtain ⟨x, y, _, rfl, _, _⟩ := onB_range e; omega
    simp [hb0]
    exact fin hb
  · simp [hb0]
    refine (spec159 oki h).mono ?_
    rintro v st ⟨rfl, rfl⟩
    by_cases hbl : (l.length : Int) ≤ b
    · have hb : onB l a b = false := by
        cases e : onB l a b with
        | false => rfl
        | true => obtain ⟨x, y, _, rfl, _, _⟩ := onB_range e; omega
      simp [hbl]
      exact fin hb
    · simp [hbl]
      refine (spec163 oki h w a b).mono ?_
      rintro v st ⟨rfl, rfl⟩
      cases hb : onB l a b with
      | false =>
        simp
        exact fin hb
      | true =>
        clear fin
        obtain ⟨A, B, rfl, rfl, hA, hB⟩ := onB_range hb
        have on := (onB_on hA hB).1 hb
        have hway : wayI l A B = wayM l A B := by rw [wayI, if_pos hb, Int.toNat_natCast, Int.toNat_natCast]
        rw [hway]
        have hgl := w.hgt_le hB
        obtain ⟨D, hD⟩ : ∃ D, D = hgt l B - hgt l A := ⟨_, rfl⟩
        simp
        refine vc_loopJ (fun c env' st' => ∃ (k : Nat) (s : V), k ≤ D ∧ c = D - k ∧ env' 8 = .int .i64 (anc l B (hgt l B - k) : Nat) ∧ env' 7 = s ∧ Sep [Sl 1 e1 s ((List.range k).map fun k => ((anc l B (hgt l B - k) : Nat) : Int)), Was st] st') D
          ⟨0, .sl .nil [] 0, by omega, by omega, by simp [anc_self], by simp, (Sep.start st).slNil⟩ ?_
        rintro J hJ c env' st1 hsame ⟨k, s, hk, rfl, h8, h7, S⟩
        have g0 := (hsame.get 0 rfl).trans (by simp : _ = V.ptr (some (tid, 0)))
        have g1 := (hsame.get 1 rfl).trans (by simp : _ = V.int .i64 (A : Int))
        clear hsame
        have hhk := w.anc_hgt hB (h := hgt l B - k) (by omega)
        have hlk := w.anc_lt (h := hgt l B - k) hB
        by_cases hlt : k < D
        · have hne : anc l B (hgt l B - k) ≠ A := fun e => by
            rw [e] at hhk; omega
          have hpos := w.pos_of_hgt (i := anc l B (hgt l B - k)) (by omega)
          have hpar : par l (anc l B (hgt l B - k)) = anc l B (hgt l B - (k + 1)) := by
            have h1 := w.anc_par hlk (h := hgt l B - (k + 1)) (by omega)
            have h2 := w.anc_anc hB (h := hgt l B - (k + 1)) (h' := hgt l B - k) (by omega) (by omega)
            have h3 := w.hgt_par hpos hlk
            rw [h2] at h1
            rw [h1, show hgt l B - (k + 1) = hgt l (par l (anc l B (hgt l B - k))) by omega, anc_self]
          have hpi := par_int w hpos hlk
          rw [hpar] at hpi
          obtain ⟨X, hX⟩ : ∃ X, X = anc l B (hgt l B - k) := ⟨_, rfl⟩
          rw [← hX] at h8 hlk hne hpi
          have hXb : ((X : Int) != (A : Int)) = true := by simp; omega
          simp [g1, h8, h7, hXb, fill1, el1]
          refine Sep.app1 e1_len (by omega) S (a := (X : Int)) rfl (by simp; omega) ?_
          intro s' st2 S
          have TR := h.sub (S.was' (st0 := st) (by simp))
          simp [g0, h8]
          refine (spec161 oki TR w X).mono ?_
          rintro v st2 ⟨rfl, rfl⟩
          have oP := osegPar (nd l X)
          rw [inI_of hlk]
          rw [hpi] at oP
          simp [fldV_agg, oP]
          refine Round.mk (D - (k + 1)) _ (by omega) (sub_self _) (hJ _ _ _ ⟨k + 1, s', by omega, rfl, by simp, by simp, ?_⟩)
          rw [List.range_succ, List.map_append]
          have : [((X : Nat) : Int)] = List.map (fun k => ((anc l B (hgt l B - k) : Nat) : Int)) [k] := by simp [hX]
          rw [← this]
          exact S
        · have hkD : k = D := by omega
          have e : anc l B (hgt l B - k) = A := by
            rw [hkD, hD, show hgt l B - (hgt l B - hgt l A) = hgt l A by have := on.1; omega]
            exact on.2
          rw [e] at h8
          simp [g1, h8, h7]
          refine (spec230 ok S (by simp; omega)).mono ?_
          intro v st2 S
          rw [hkD, hD, wayM_rev] at S
          simp [h7]
          exact ⟨st2, sub_self _, S⟩
set_option maxHeartbeats 1000000 in
theorem spec228 (ok : OkLocate P F) {st : St} {tid : Nat} {r : Rl} {l : List Nd} (h : TreeR tid r l st) (w : Wf l) (hl : l.length ≤ 16384) (a b : Int) :
    ACalls P (F 228) [.ptr (some (tid, 0)), .int .i64 a, .int .i64 b] st fun v st' => v = .int .i64 (meetM l (clI l a) (clI l b) : Nat) ∧ st' = st := by
  have okz := ok.toOkIndexZ
  have oki := okz.toOkIndex
  refine shows_call ok.mixed ok.h228 (by simp [k228]) ?_
  simp only [k228]
  obtain ⟨a1, a2, a3⟩ := min_cl w hl a
  obtain ⟨b1, b2, _⟩ := min_cl w hl b
  obtain ⟨A, hA⟩ : ∃ A, A = clI l a := ⟨_, rfl⟩
  obtain ⟨B, hB⟩ : ∃ B, B = clI l b := ⟨_, rfl⟩
  have hAl : A < l.length := hA ▸ clI_lt w a
  have hBl : B < l.length := hB ▸ clI_lt w b
  rw [← hA] at a2 ⊢
  rw [← hB] at b2 ⊢
  simp
  refine (spec159 oki h).mono ?_
  rintro v st ⟨rfl, rfl⟩
  simp [a1, a2, a3]
  refine (spec159 oki h).mono ?_
  rintro v st ⟨rfl, rfl⟩
  simp [b1, b2, a3]
  refine (spec161 oki h w A).mono ?_
  rintro v st ⟨rfl, rfl⟩
  have oA := osegHgt (nd l A)
  rw [nd_hgt_eq hAl] at oA
  rw [inI_of hAl]
  simp [fldV_agg, oA]
  refine (spec161 oki h w B).mono ?_
  rintro v st ⟨rfl, rfl⟩
  have oB := osegHgt (nd l B)
  rw [nd_hgt_eq hBl] at oB
  rw [inI_of hBl]
  obtain ⟨M, hM⟩ : ∃ M, M = min (hgt l A) (hgt l B) := ⟨_, rfl⟩
  have hmin : foldV min2V (.int .i64 (hgt l A : Nat)) [.int .i64 (hgt l B : Nat)] = some (.int .i64 (M : Nat)) := by
    simp only [foldV, min2V, if_true, Option.bind_some]
    congr 2
    split <;> omega
  simp [fldV_agg, oB, hmin]
  refine (spec158 oki h w A M).mono ?_
  rintro v st ⟨rfl, rfl⟩
  rw [ancI_nat hAl (by omega)]
  simp
  refine (spec158 oki h w B M).mono ?_
  rintro v st ⟨rfl, rfl⟩
  rw [ancI_nat hBl (by omega)]
  have e : meetM l A B = meetGo l M (anc l A M) (anc l B M) := by rw [meetM, ← hM]
  have g1 := w.anc_hgt hAl (h := M) (by omega)
  have g2 := w.anc_hgt hBl (h := M) (by omega)
  have i1 := w.anc_lt (h := M) hAl
  have i2 := w.anc_lt (h := M) hBl
  rw [e]
  obtain ⟨X, hX⟩ : ∃ X, X = anc l A M := ⟨_, rfl⟩
  obtain ⟨Y, hY⟩ : ∃ Y, Y = anc l B M := ⟨_, rfl⟩
  rw [← hX] at g1 i1 ⊢
  rw [← hY] at g2 i2 ⊢
  simp
  refine vc_loopJ (fun c env' st' => ∃ (x y : Nat), x < l.length ∧ y < l.length ∧ hgt l x = c ∧ hgt l y = c ∧ meetGo l c x y = meetGo l M X Y ∧ env' 1 = .int .i64 (x : Nat) ∧ env' 2 = .int .i64 (y : Nat) ∧ st' = st) M
    ⟨X, Y, i1, i2, g1, g2, rfl, by simp, by simp, rfl⟩ ?_
  rintro J hJ c env' st1 hsame ⟨x, y, hx, hy, ex, ey, hm, h1, h2, rfl⟩
  have g0 := (hsame.get 0 rfl).trans (by simp : _ = V.ptr (some (tid, 0)))
  clear hsame
  by_cases hxy : x = y
  · have : meetGo l c x y = x := by
      cases c with
      | zero => rfl
      | succ c => rw [meetGo, if_pos hxy]
    rw [this] at hm
    simp [h1, h2, hxy, ← hm]
  · have hb : ((x : Int) != (y : Int)) = true := by simp; omega
    cases c with
    | zero =>
      exact absurd ((hgt_zero_iff w hx ex).trans (hgt_zero_iff w hy ey).symm) hxy
    | succ c =>
      rw [meetGo, if_neg hxy] at hm
      have px := w.pos_of_hgt (i := x) (by omega)
      have py := w.pos_of_hgt (i := y) (by omega)
      have hpx := par_int w px hx
      have hpy := par_int w py hy
      have lx := w.par_lt px hx
      have ly := w.par_lt py hy
      have hhx := w.hgt_par px hx
      have hhy := w.hgt_par py hy
      have ox := osegPar (nd l x)
      have oy := osegPar (nd l y)
      rw [hpx] at ox
      rw [hpy] at oy
      simp [g0, h1, h2, hb]
      refine (spec161 oki h w x).mono ?_
      rintro v st1 ⟨rfl, rfl⟩
      rw [inI_of hx]
      simp [fldV_agg, ox, g0, h2]
      refine (spec161 oki h w y).mono ?_
      rintro v st1 ⟨rfl, rfl⟩
      rw [inI_of hy]
      simp [fldV_agg, oy]
      exact Round.mk c _ (by omega) (sub_self _) (hJ _ _ _ ⟨par l x, par l y, by omega, by omega, by omega, by omega, hm, by simp, by simp, rfl⟩)
set_option maxHeartbeats 1000000 in
theorem spec235 (ok : OkRef11 P F) {st : St} {q : V} {l : List Rw} (hr : RdN q l st) (w : Wf (nds l)) (hl : l.length ≤ 16000) {a b : Nat} (ha : a < l.length) (hb : b < l.length) :
    ACalls P (F 235) [q, .int .i64 (a : Nat), .int .i64 (b : Nat)] st fun v st' => v = .int .i64 (meetM (nds l) a b : Nat) ∧ st' = st := by
  have okr := ok.toOkRef10
  refine shows_call ok.mixed ok.h235 (by simp [k235]) ?_
  simp only [k235]
  have hlen := hr.len
  have han : a < (nds l).length := by simpa using ha
  have hbn : b < (nds l).length := by simpa using hb
  have m := meet_spec w han hbn
  obtain ⟨M, hM⟩ : ∃ M, M = meetM (nds l) a b := ⟨_, rfl⟩
  rw [← hM] at m ⊢
  simp
  refine vc_loopJ (fun c env' st' => ∃ (i o : Nat), i ≤ l.length ∧ c = l.length - i ∧ env' 8 = .int .i64 (i : Nat) ∧ env' 7 = .int .i64 (o : Nat) ∧ o < l.length ∧ On (nds l) o M ∧ (∀ j, j < i → On (nds l) j M → hgt (nds l) j ≤ hgt (nds l) o) ∧ (o < i ∨ o = 0) ∧ st' = st) l.length
    ⟨0, 0, by omega, by omega, by simp, by simp, by omega, On.zero w m.lt, fun j hj => by omega, .inr rfl, rfl⟩ ?_
  rintro J hJ c env' st1 hsame ⟨i, o, hi, rfl, h8, h7, hol, ho, hall, hoi, rfl⟩
  have g0 := (hsame.get 0 rfl).trans (by simp : _ = q)
  have g1 := (hsame.get 1 rfl).trans (by simp : _ = V.int .i64 (a : Int))
  have g2 := (hsame.get 2 rfl).trans (by simp : _ = V.int .i64 (b : Int))
  clear hsame
  by_cases hlt : i < l.length
  · have hin : i < (nds l).length := by simpa using hlt
    have hon : o < (nds l).length := by simpa using hol
    have w1 : IntKind.i64.wrap ((i : Int) + 1) = (i : Int) + 1 := wrap64 (by omega) (by omega)
    have off : ¬ On (nds l) i M → ∀ env : Env, env 8 = .int .i64 ((i + 1 : Nat) : Int) → env 7 = .int .i64 (o : Nat) → Round J (l.length - i) env st1 := fun hno env e1 e2 =>
      Round.mk (l.length - (i + 1)) _ (by omega) (sub_self _) (hJ _ _ _ ⟨i + 1, o, by omega, rfl, e1, e2, hol, ho, fun j hj hjm => by
        rcases Nat.lt_or_ge j i with h | h
        · exact hall j h hjm
        · have : j = i := by omega
          rw [this] at hjm
          exact absurd hjm hno, by omega, rfl⟩)
    simp [g0, g1, g2, h8, hlen, hlt]
    refine (spec232 ok hr w hl hlt a).mono ?_
    rintro v st1 ⟨rfl, rfl⟩
    have i1 := onB_on hin han
    have i2 := onB_on hin hbn
    cases c1 : onB (nds l) i a with
    | false =>
      have hno : ¬ On (nds l) i M := fun h => by
        have := i1.2 (On.trans w han h m.on1)
        rw [c1] at this; cases this
      simp [h8, w1]
      exact off hno _ (by simp) (by simp [h7])
    | true =>
      simp [g0, g2, h8]
      refine (spec232 ok hr w hl hlt b).mono ?_
      rintro v st1 ⟨rfl, rfl⟩
      cases c2 : onB (nds l) i b with
      | false =>
        have hno : ¬ On (nds l) i M := fun h => by
          have := i2.2 (On.trans w hbn h m.on2)
          rw [c2] at this; cases this
        simp [h8, w1]
        exact off hno _ (by simp) (by simp [h7])
      | true =>
        have hyes : On (nds l) i M := m.top i (i1.1 c1) (i2.1 c2)
        obtain ⟨r1, r2, r3, r4⟩ := hr.row eRw_len hlt
        obtain ⟨f1, f2⟩ := r4 101 1 (by omega)
        obtain ⟨q1, q2, q3, q4⟩ := hr.row eRw_len hol
        obtain ⟨f3, f4⟩ := q4 101 1 (by omega)
        have ei : hgt (nds l) i = l[i].1.height := by rw [hgt_at hin, nds_get hlt]
        have eo : hgt (nds l) o = l[o].1.height := by rw [hgt_at hon, nds_get hol]
        rw [rwHgt, ← ei] at f2
        rw [rwHgt, ← eo] at f4
        have hge : hgt (nds l) o ≤ hgt (nds l) i := by
          rcases hoi with h | h
          · exact Nat.le_of_lt (On.index w m.lt hin ho hyes h)
          · rw [h, w.hgt_zero]; omega
        simp [g0, h7, h8, r1, f1, f2, q1, f3, f4, hge, w1]
        exact Round.mk (l.length - (i + 1)) _ (by omega) (sub_self _) (hJ _ _ _ ⟨i + 1, i, by omega, rfl, by simp, by simp, hlt, hyes, fun j hj hjm => by
          rcases Nat.lt_or_ge j i with h | h
          · exact Nat.le_trans (hall j h hjm) hge
          · have : j = i := by omega
            rw [this]; exact Nat.le_refl _, .inl (by omega), rfl⟩)
  · have : i = l.length := by omega
    subst this
    have hml : M < l.length := by simpa using m.lt
    have h1 := hall M hml (On.refl' w M)
    have : o = M := by
      have e : hgt (nds l) o = hgt (nds l) M := by have := ho.1; omega
      have := ho.2
      rw [e, anc_self] at this
      exact this.symm
    simp [g0, h8, h7, hlen, this]
theorem spec240 (ok : OkLaw11 P F) {st : St} {tid : Nat} {r : Rl} {l : List Nd} (h : TreeR tid r l st) (w : Wf l) (hl : l.length ≤ 16384) (a : Int) :
    ACalls P (F 240) [.ptr (some (tid, 0)), .int .i64 a] st fun v st' => v = .int .i64 (clI l a : Nat) ∧ st' = st := by
  have oki := ok.toOkLocate.toOkIndexZ.toOkIndex
  refine shows_call ok.mixed ok.h240 (by simp [k240]) ?_
  simp only [k240]
  obtain ⟨a1, a2, a3⟩ := min_cl w hl a
  simp
  refine (spec159 oki h).mono ?_
  rintro v st ⟨rfl, rfl⟩
  simp [a1, a2, a3]
end
end Go.Ab
set_option linter.unusedSimpArgs false
set_option linter.unusedVariables false
set_option maxRecDepth 10000
namespace Go.Ab
open Go Go.RowKit
theorem Made.wf {r : Rl} {l : List Nd} (h : Made r l) (hl : l.length ≤ 16384) : Wf l := by
  have key : ∀ {l : List Nd}, Made r l → l.length ≤ 16384 → Wf l := by
    intro l h
    induction h with
    | new => exact fun _ => newM_wf r
    | add h x now ih =>
      intro hl
      rename_i l0
      rcases addM_cases r l0 x now with ⟨e, _⟩ | ⟨p, h1, _, _, h2, e⟩
      · rw [e] at hl ⊢; exact ih hl
      · rw [e] at hl ⊢
        have : l0.length ≤ 16384 := by simp at hl; omega
        exact ndOf_wf (ih this) (findM_lt h1)
    | fail h i ih =>
      intro hl
      rename_i l0
      have hw : l0.length ≤ 16384 := by
        have : (failM l0 i).1.length = l0.length := by
          unfold failM; split <;> simp
        omega
      exact (failM_wf (ih hw) i).1
  exact key h hl
theorem addM_len (r : Rl) (l : List Nd) (x : Hdr) (now : Int) : (addM r l x now).1.length ≤ l.length + 1 := by
  rcases addM_cases r l x now with ⟨e, _⟩ | ⟨p, _, _, _, _, e⟩ <;> rw [e] <;> simp
section
variable {P : Program} {F : Fn}
end
end Go.Ab
set_option linter.unusedSimpArgs false
set_option linter.unusedVariables false
set_option maxRecDepth 10000
namespace Go.Ab
open Go Go.RowKit
theorem spl_z32 (x : Id) : spliceV zR32_w80 0 (eId x) = eId x := by
  unfold spliceV
  rw [List.take_zero, List.nil_append, Nat.zero_add, eId_len, ← zR32_w80_len, List.drop_length, List.append_nil]
theorem fillId (x : Id) : fillV (repV zR32_w80 1) [(0, 32, .agg (eId x))] = some (eId x) := by
  have h0 : repV zR32_w80 1 = zR32_w80 := by simp [repV]
  rw [h0]
  simp [fillV, eId_len, spl_z32]
theorem elId (st : St) (k : SK) (x : Id) : elems st 32 (.sl k (eId x) 1) = some (eId x, 1) := by simp [elems, eId_len]
theorem fillH (x : Hdr) : fillV (repV z68_39b1 1) [(0, 68, .agg (eHdr x))] = some (eHdr x) := by
  rw [z68_eq]
  have h0 : repV (eHdr hdr0) 1 = eHdr hdr0 := by simp [repV]
  rw [h0]
  simp [fillV, eHdr_len, splice_hdr]
theorem elH (st : St) (k : SK) (x : Hdr) : elems st 68 (.sl k (eHdr x) 1) = some (eHdr x, 1) := by simp [elems, eHdr_len]
def namesM (l : List Nd) (tip : Int) : List Id := if tip < 0 ∨ (l.length : Int) ≤ tip then [] else (heightsM (hgt l tip.toNat)).map fun h => (nd l (inI l (ancI l tip h))).id
def aftGo (l : List Nd) (tip : Nat) (stop : Id) (most : Int) : Nat → Nat → Int → List Hdr
  | 0, _, _ => []
  | n + 1, h, c => if c < most then (nd l (anc l tip h)).hdr :: (if (nd l (anc l tip h)).id = stop then [] else aftGo l tip stop most n (h + 1) (c + 1)) else []
def afterM (l : List Nd) (tip from_ : Int) (stop : Id) (most : Int) : List Hdr :=
  if onB l from_ tip = true then aftGo l tip.toNat stop most (hgt l tip.toNat - hgt l from_.toNat) (hgt l from_.toNat + 1) 0 else []
section
variable {P : Program} {F : Fn}
set_option maxHeartbeats 1000000 in
theorem spec225 (ok : OkLocate P F) {st : St} {tid : Nat} {r : Rl} {l : List Nd} (h : TreeR tid r l st) (w : Wf l) (hl : l.length ≤ 16384) (tip : Int) :
    ACalls P (F 225) [.ptr (some (tid, 0)), .int .i64 tip] st fun v st' => Sep [Sl 32 eId v (namesM l tip), Was st] st' := by
  have okz := ok.toOkIndexZ
  have oki := okz.toOkIndex
  refine shows_call ok.mixed ok.h225 (by simp [k225]) ?_
  simp only [k225]
  by_cases h0 : tip < 0
  · have e : namesM l tip = [] := by rw [namesM, if_pos (.inl h0)]
    rw [e]
    simp [h0]
    exact ⟨st, sub_self _, (Sep.start st).slNil⟩
  · simp [h0]
    refine (spec159 oki h).mono ?_
    rintro v st ⟨rfl, rfl⟩
    by_cases h1 : (l.length : Int) ≤ tip
    · have e : namesM l tip = [] := by rw [namesM, if_pos (.inr h1)]
      rw [e]
      simp [h1]
      exact ⟨st, sub_self _, (Sep.start st).slNil⟩
    · obtain ⟨t, rfl⟩ : ∃ t : Nat, tip = t := ⟨tip.toNat, by omega⟩
      have ht : t < l.length := by omega
      obtain ⟨hs, hhs⟩ : ∃ hs, hs = heightsM (hgt l t) := ⟨_, rfl⟩
      have e : namesM l t = hs.map fun h => (nd l (inI l (ancI l t h))).id := by rw [namesM, if_neg (by omega), hhs]; rfl
      have hgl := w.hgt_le ht
      rw [e]
      simp [h1]
      refine (spec161 oki h w t).mono ?_
      rintro v st ⟨rfl, rfl⟩
      have oh := osegHgt (nd l t)
      rw [nd_hgt_eq ht] at oh
      rw [inI_of ht]
      simp [fldV_agg, oh]
      refine (spec224 ok st (top := hgt l t) (by omega)).mono ?_
      intro v st1 S
      rw [← hhs] at S
      have hlen := (Sep.rd e1_len S).len
      have S : Sep [Sl 32 eId (.sl .nil [] 0) ((hs.take 0).map fun h => (nd l (inI l (ancI l t h))).id), Sl 1 e1 v hs, Was st] st1 := S.slNil
      have hhl : hs.length ≤ 32 := by
        rw [hhs, heightsM]
        split
        · simp
        · have := hsGo_len 31 (hgt l t); simp; omega
      simp [hlen]
      refine vc_loopJ (fun c env' st' => ∃ (i : Nat) (s : V), i ≤ hs.length ∧ c = hs.length - i ∧ env' 22 = .int .i64 (i : Nat) ∧ env' 5 = s ∧ Sep [Sl 32 eId s ((hs.take i).map fun h => (nd l (inI l (ancI l t h))).id), Sl 1 e1 v hs, Was st] st') hs.length
        ⟨0, _, by omega, by omega, by simp, by simp, S⟩ ?_
      clear S
      rintro J hJ c env' st2 hsame ⟨i, s, hi, rfl, h22, h5, S⟩
      have g0 := (hsame.get 0 rfl).trans (by simp : _ = V.ptr (some (tid, 0)))
      have g1 := (hsame.get 1 rfl).trans (by simp : _ = V.int .i64 (t : Int))
      have g20 := (hsame.get 20 rfl).trans (by simp : _ = v)
      have g21 := (hsame.get 21 rfl).trans (by simp : _ = V.int .i64 (hs.length : Int))
      clear hsame
      by_cases hlt : i < hs.length
      · have w1 : IntKind.i64.wrap ((i : Int) + 1) = (i : Int) + 1 := wrap64 (by omega) (by omega)
        obtain ⟨p, hp, hlp⟩ := (Sep.rd e1_len S.drop).idx e1_len hlt .i64
        have TR := h.sub (S.was' (st0 := st) (by simp))
        obtain ⟨x, hx⟩ : ∃ x, x = hs[i] := ⟨_, rfl⟩
        rw [← hx] at hlp
        have hlp : ldCells st2 1 p = some [.int .i64 x] := hlp
        simp [g0, g1, g20, g21, h22, h5, hlt, hp, hlp]
        refine (spec158 oki TR w t x).mono ?_
        rintro v2 st2 ⟨rfl, rfl⟩
        simp
        refine (spec161 oki TR w _).mono ?_
        rintro v2 st2 ⟨rfl, rfl⟩
        obtain ⟨y, hy⟩ : ∃ y, y = nd l (inI l (ancI l t x)) := ⟨_, rfl⟩
        rw [← hy]
        simp [fldV_agg, osegId, fillId, elId]
        refine Sep.app1 eId_len (by omega) S (a := y.id) rfl (by simp; omega) ?_
        intro s' st3 S
        simp [h22, w1]
        refine Round.mk (hs.length - (i + 1)) _ (by omega) (sub_self _) (hJ _ _ _ ⟨i + 1, s', by omega, rfl, by simp, by simp, ?_⟩)
        rw [List.take_succ_eq_append_getElem hlt, List.map_append]
        have : [y.id] = List.map (fun h => (nd l (inI l (ancI l t h))).id) [hs[i]] := by simp [hy, hx]
        rw [← this]
        exact S
      · have : i = hs.length := by omega
        subst this
        rw [List.take_length] at S
        simp [g21, h22, h5]
        exact ⟨st2, sub_self _, Sep.tail (fun _ h => h.drop) S⟩
set_option maxHeartbeats 1000000 in
theorem spec227 (ok : OkLocate P F) {st : St} {tid : Nat} {r : Rl} {l : List Nd} (h : TreeR tid r l st) (w : Wf l) (hl : l.length ≤ 16384) (tip from_ : Int) (stop : Id) (most : Int) :
    ACalls P (F 227) [.ptr (some (tid, 0)), .int .i64 tip, .int .i64 from_, .agg (eId stop), .int .i64 most] st fun v st' => Sep [Sl 68 eHdr v (afterM l tip from_ stop most), Was st] st' := by
  have okz := ok.toOkIndexZ
  have oki := okz.toOkIndex
  refine shows_call ok.mixed ok.h227 (by simp [k227]) ?_
  simp only [k227, z108_eq]
  simp
  intro i8 h8
  have S := (Sep.start st).new h8 (.cells (eId stop))
  generalize st.upd i8 _ = st1 at S ⊢
  have o8 := S.get
  have TR := h.sub (S.was' (st0 := st) (by simp))
  have fin : onB l from_ tip = false → ∃ s, St.sub s st1 ∧ Sep [Sl 68 eHdr (.sl .nil [] 0) (afterM l tip from_ stop most), Was st] s := fun hb => by
    rw [afterM, hb]
    exact ⟨st1, sub_self _, S.drop.slNil⟩
  by_cases hb0 : tip < 0
  · have hb : onB l from_ tip = false := by
      cases e : onB l from_ tip with
      | false => rfl
      | true => obtain ⟨x, y, _, rfl, _, _⟩ := onB_range e; omega
    simp [hb0]
    exact fin hb
  simp [hb0]
  refine (spec159 oki TR).mono ?_
  rintro v st1 ⟨rfl, rfl⟩
  by_cases hbl : (l.length : Int) ≤ tip
  · have hb : onB l from_ tip = false := by
      cases e : onB l from_ tip with
      | false => rfl
      | true => obtain ⟨x, y, _, rfl, _, _⟩ := onB_range e; omega
    simp [hbl]
    exact fin hb
  simp [hbl]
  refine (spec163 oki TR w from_ tip).mono ?_
  rintro v st1 ⟨rfl, rfl⟩
  cases hb : onB l from_ tip with
  | false =>
    simp
    exact fin hb
  | true =>
    clear fin
    obtain ⟨A, B, rfl, rfl, hA, hB⟩ := onB_range hb
    have on := (onB_on hA hB).1 hb
    have e : afterM l B A stop most = aftGo l B stop most (hgt l B - hgt l A) (hgt l A + 1) 0 := by rw [afterM, if_pos hb, Int.toNat_natCast, Int.toNat_natCast]
    have hgl := w.hgt_le hB
    have hga := w.hgt_le hA
    rw [e]
    simp
    refine (spec161 oki TR w A).mono ?_
    rintro v st1 ⟨rfl, rfl⟩
    have oA := osegHgt (nd l A)
    rw [nd_hgt_eq hA] at oA
    have oB := osegHgt (nd l B)
    rw [nd_hgt_eq hB] at oB
    have w0 : IntKind.i64.wrap ((hgt l A : Int) + 1) = ((hgt l A + 1 : Nat) : Int) := by rw [wrap64 (by omega) (by omega)]; omega
    rw [inI_of hA]
    obtain ⟨T, hT⟩ : ∃ T, T = hgt l B := ⟨_, rfl⟩
    obtain ⟨G, hG⟩ : ∃ G, G = hgt l A + 1 := ⟨_, rfl⟩
    have hGT : T - hgt l A = T + 1 - G := by omega
    rw [← hT] at oB hgl ⊢
    rw [← hG] at w0 ⊢
    rw [hGT]
    have hGl : G ≤ T + 1 := by have := on.1; omega
    simp [fldV_agg, oA, w0]
    have S : Sep [Sl 68 eHdr (.sl .nil [] 0) [], pt i8 (.cells (eId stop)), Was st] st1 := S.slNil
    refine vc_loopJ (fun c env' st' => ∃ (g : Nat) (acc : List Hdr) (s : V), G ≤ g ∧ g ≤ T + 1 ∧ c = T + 1 - g ∧ acc.length = g - G ∧ acc ++ aftGo l B stop most (T + 1 - g) g acc.length = aftGo l B stop most (T + 1 - G) G 0 ∧ env' 12 = .int .i64 (g : Nat) ∧ env' 11 = s ∧ Sep [Sl 68 eHdr s acc, pt i8 (.cells (eId stop)), Was st] st') (T + 1 - G)
      ⟨G, [], .sl .nil [] 0, by omega, hGl, rfl, by simp, rfl, by simp, by simp, S⟩ ?_
    clear S
    rintro J hJ c env' st2 hsame ⟨g, acc, s, hg1, hg2, rfl, hal, he, h12, h11, S⟩
    have g0 := (hsame.get 0 rfl).trans (by simp : _ = V.ptr (some (tid, 0)))
    have g1 := (hsame.get 1 rfl).trans (by simp : _ = V.int .i64 (B : Int))
    have g4 := (hsame.get 4 rfl).trans (by simp : _ = V.int .i64 most)
    have g8 := (hsame.get 8 rfl).trans (by simp : _ = V.ptr (some (i8, 0)))
    clear hsame
    have TR := h.sub (S.was' (st0 := st) (by simp))
    have hlen := (Sep.rd eHdr_len S).len
    simp [g0, g1, h12]
    refine (spec161 oki TR w B).mono ?_
    rintro v st2 ⟨rfl, rfl⟩
    rw [inI_of hB]
    by_cases hgt1 : g ≤ T
    · have e1 : T + 1 - g = (T + 1 - (g + 1)) + 1 := by omega
      rw [e1, aftGo] at he
      by_cases hc : (acc.length : Int) < most
      · rw [if_pos hc] at he
        have w1 : IntKind.i64.wrap ((g : Int) + 1) = (g : Int) + 1 := wrap64 (by omega) (by omega)
        simp [fldV_agg, oB, hgt1, g0, g1, g4, h11, h12, hlen, hc]
        refine (spec158 oki TR w B g).mono ?_
        rintro v st2 ⟨rfl, rfl⟩
        have hal2 := w.anc_lt (h := g) hB
        rw [ancI_nat hB (by omega)]
        simp
        refine (spec161 oki TR w _).mono ?_
        rintro v st2 ⟨rfl, rfl⟩
        rw [inI_of hal2]
        obtain ⟨x, hx⟩ : ∃ x, x = nd l (anc l B g) := ⟨_, rfl⟩
        rw [← hx] at he ⊢
        simp
        intro i13 h13
        have S := S.new h13 (.cells (eNd nd0))
        have hsp : ∀ x y, spliceV (eNd x) 0 (eNd y) = eNd y := fun x y => by simp [spliceV, eNd_len]
        simp [storeS, eNd_len, hsp]
        have S := S.setAt (.cells (eNd x)) 0 rfl
        simp at S
        generalize st2.upd i13 _ = st3 at S ⊢
        have o13 := S.get
        have S := S.swap
        simp [h11, St.seg, o13, osegHdr, fillH, elH]
        refine Sep.app1 eHdr_len (by omega) S (a := x.hdr) rfl (by omega) ?_
        intro s' st4 S
        have o13 := S.mem (i := i13) (o := .cells (eNd x)) (by simp)
        have o8 := S.mem (i := i8) (o := .cells (eId stop)) (by simp)
        have hidl := eqL_id x.id stop
        simp [g8, St.seg, o13, o8, osegId, segId0, eqK, eId_len, hidl]
        by_cases hst : x.id = stop
        · rw [if_pos hst] at he
          simp [hst]
          exact ⟨st4, sub_self _, by rw [← he]; exact Sep.tail (fun _ h => h.drop.drop) S⟩
        · rw [if_neg hst] at he
          simp [hst, h12, w1]
          refine Round.mk (T + 1 - (g + 1)) _ (by omega) (sub_self _) (hJ _ _ _ ⟨g + 1, acc ++ [x.hdr], s', by omega, by omega, rfl, by simp; omega, ?_, by simp, by simp, Sep.tail (fun _ h => h.drop) S⟩)
          rw [← he]
          simp
      · rw [if_neg hc, List.append_nil] at he
        simp [fldV_agg, oB, hgt1, g4, h11, hlen, hc]
        exact ⟨st2, sub_self _, by rw [← he]; exact Sep.tail (fun _ h => h.drop) S⟩
    · have e1 : T + 1 - g = 0 := by omega
      rw [e1, aftGo, List.append_nil] at he
      simp [fldV_agg, oB, hgt1, h11]
      exact ⟨st2, sub_self _, by rw [← he]; exact Sep.tail (fun _ h => h.drop) S⟩
theorem spec239 (ok : OkLaw11 P F) {st : St} {s t : V} {a b : List Int} (ha : Rd 1 e1 s a st) (hb : Rd 1 e1 t b st) (hl : a.length ≤ 1000000) : ACalls P (F 239) [s, t] st fun v st' => v = .bool (decide (a = b)) ∧ st' = st := by
  refine shows_call ok.mixed ok.h239 (by simp [k239]) ?_
  simp only [k239]
  have la := ha.len
  have lb := hb.len
  by_cases hlen : a.length = b.length
  · have hlb : ((a.length : Int) != (b.length : Int)) = false := by simp [hlen]
    simp [la, lb, hlb]
    refine vc_loopJ (fun c env' st' => ∃ i : Nat, i ≤ a.length ∧ c = a.length - i ∧ env' 13 = .int .i64 (i : Nat) ∧ a.take i = b.take i ∧ st' = st) a.length
      ⟨0, by omega, by omega, by simp, by simp, rfl⟩ ?_
    rintro J hJ c env' st1 hsame ⟨i, hi, rfl, h13, he, rfl⟩
    have g0 := (hsame.get 0 rfl).trans (by simp : _ = s)
    have g1 := (hsame.get 1 rfl).trans (by simp : _ = t)
    have g12 := (hsame.get 12 rfl).trans (by simp : _ = V.int .i64 (a.length : Int))
    clear hsame
    by_cases hlt : i < a.length
    · have hltb : i < b.length := by omega
      have w1 : IntKind.i64.wrap ((i : Int) + 1) = (i : Int) + 1 := wrap64 (by omega) (by omega)
      obtain ⟨p, hp, hlp⟩ := ha.idx e1_len hlt .i64
      obtain ⟨q, hq, hlq⟩ := hb.idx e1_len hltb .i64
      by_cases hx : a[i] = b[i]
      · have hxb : (a[i] != b[i]) = false := by simp [hx]
        simp [g0, g1, g12, h13, hlt, hp, hlp, hq, hlq, e1, hxb, w1]
        refine Round.mk (a.length - (i + 1)) _ (by omega) (sub_self _) (hJ _ _ _ ⟨i + 1, by omega, rfl, by simp, ?_, rfl⟩)
        rw [List.take_succ_eq_append_getElem hlt, List.take_succ_eq_append_getElem hltb, he, hx]
      · have hxb : (a[i] != b[i]) = true := by simp [hx]
        have hne : a ≠ b := fun e => hx (by simp [e])
        simp [g0, g1, g12, h13, hlt, hp, hlp, hq, hlq, e1, hxb, hne]
    · have : i = a.length := by omega
      subst this
      rw [List.take_length, hlen, List.take_length] at he
      simp [g12, h13, he]
  · have hlb : ((a.length : Int) != (b.length : Int)) = true := by simp; omega
    have hne : a ≠ b := fun e => hlen (by rw [e])
    simp [la, lb, hlb, hne]
end
end Go.Ab
