import Derived.Test.YtgodabkifdmfcaaGreatK9
import Derived.Test.YtgodabkifdmfcaaGreatK4
import Derived.Test.YtgodabkifdmfcaaGreatK8
import Derived.Test.YtgodabkifdmfcaaGreatK3
import Derived.Deep.Slices
import Derived.OpenShut
set_option linter.unusedSimpArgs false
set_option linter.unusedVariables false
set_option maxRecDepth 10000
namespace Go.Ab
open Go Go.RowKit
def growU (l : List Nd) (i : Nat) (q : Nat) : Hdr := { hdr0 with ver := BitVec.ofInt 32 (i : Int), prev := (nd l q).id, time := (nd l q).hdr.time + 1#32, bits := easyB }
def growH1 (l : List Nd) (i : Nat) (p : Int) : Hdr := (mineN (growU l i (clI l p)) easyB 1000).getD hdr0
def growL (ps : List Int) : Nat → List Nd
  | 0 => newM easyR
  | n + 1 => (addM easyR (growL ps n) (growH1 (growL ps n) n (ps.getD n 0)) 100000).1
theorem growL_made (ps : List Int) : ∀ n, Made easyR (growL ps n)
  | 0 => Made.new
  | n + 1 => (growL_made ps n).add _ _
theorem growL_len (ps : List Int) : ∀ n, (growL ps n).length ≤ n + 1
  | 0 => by simp [growL, newM]
  | n + 1 => by
    have := growL_len ps n
    have := addM_len easyR (growL ps n) (growH1 (growL ps n) n (ps.getD n 0)) 100000
    rw [growL]; omega
def growM (ps : List Int) : List Nd := growL ps ps.length
def GrownR (ps : List Int) (st : St) (v : V) (st' : St) : Prop :=
  ∃ tid s l, v = .tup [.ptr (some (tid, 0)), s] ∧ nds l = growM ps ∧ Okws l ∧ Sep [TreeS tid easyR (nds l), RdN s l, Was st] st'
section
variable {P : Program} {F : Fn}
theorem spec236 (ok : OkLaw11 P F) (st : St) : ACalls P (F 236) [] st fun v st' => v = .agg (eRl easyR) ∧ st' = st := by
  refine shows_call ok.mixed ok.h236 (by simp [k236]) ?_
  simp only [k236]
  simp
  intro i0 h0
  have f1 : fillV z68_39b1 [(66, 1, w32 545259519#32)] = some (eHdr { hdr0 with bits := easyB }) := rfl
  have f2 : fillV z69_adc1 [(0, 68, .agg (eHdr { hdr0 with bits := easyB }))] = some (eHdr { hdr0 with bits := easyB } ++ [.sl .nil [] 0]) := rfl
  have f3 : fillV z74_2f53 [(0, 1, w32 545259519#32), (2, 1, .int .i64 10), (3, 1, .int .i64 50), (5, 69, .agg (eHdr { hdr0 with bits := easyB } ++ [.sl .nil [] 0]))] = some (eRl easyR) := rfl
  have hz : z74_2f53.length = 74 := rfl
  have hsp : spliceV z74_2f53 0 (eRl easyR) = eRl easyR := rfl
  simp [f1, f2, f3]
  have hst : storeS (st.upd i0 (.cells z74_2f53)) 74 (.ptr (some (i0, 0))) (.agg (eRl easyR)) = some (st.upd i0 (.cells (eRl easyR))) := by
    simp [storeS, eRl_len, hsp, hz]
  simp [hst, St.seg, rsegAll]
  exact sub_upd h0
set_option maxHeartbeats 4000000 in
theorem spec237 (ok : OkLaw11 P F) (st : St) {q : V} {ps : List Int} (hp : Rd 1 e1 q ps st) (hn : ps.length ≤ 1000) :
    ACalls P (F 237) [q] st (GrownR ps st) := by
  have oki := ok.toOkLocate.toOkIndexZ.toOkIndex
  have okh := oki.toOkHead
  have okr := ok.toOkRef11.toOkRef10
  have hc := easy_check
  have hlen := hp.len
  refine shows_call ok.mixed ok.h237 (by simp [k237]) ?_
  simp only [k237, z68_eq, z108_eq]
  simp
  refine (spec236 ok st).mono ?_
  rintro v st ⟨rfl, rfl⟩
  simp
  refine (spec155 oki st easyR).mono ?_
  rintro v st1 hv
  rw [if_pos hc] at hv
  obtain ⟨tid, rfl, S⟩ := hv
  simp [eqK]
  refine (spec236 ok st1).mono ?_
  rintro v st1 ⟨rfl, rfl⟩
  simp
  refine (spec210 okr st1 hc).mono ?_
  rintro v st1 ⟨rfl, rfl⟩
  have S : Sep [RdN (.sl .full (rowsOf eRw [rwNew easyR]) 1) [rwNew easyR], TreeS tid easyR (nds [rwNew easyR]), Was st] st1 := S.put (.inl ⟨.full, rfl⟩)
  simp [hlen]
  refine vc_loopJ (fun c env' st' => ∃ i s l, i ≤ ps.length ∧ c = ps.length - i ∧ env' 27 = .int .i64 (i : Nat) ∧ env' 6 = s ∧ nds l = growL ps i ∧ Okws l ∧ Sep [RdN s l, TreeS tid easyR (nds l), Was st] st') ps.length
    ⟨0, _, [rwNew easyR], by omega, by omega, by simp, by simp, rfl, rwNew_ok easyR, S⟩ ?_
  clear S
  rintro J hJ c env' st3 hsame ⟨i, s, l, hi, rfl, h27, h6, hL, hO, S⟩
  have g4 := (hsame.get 4 rfl).trans (by simp : _ = V.ptr (some (tid, 0)))
  have g25 := (hsame.get 25 rfl).trans (by simp : _ = q)
  have g26 := (hsame.get 26 rfl).trans (by simp : _ = V.int .i64 (ps.length : Int))
  clear hsame
  have hll := growL_len ps i
  rw [← hL, nds_len] at hll
  have w : Wf (nds l) := by rw [hL]; exact (growL_made ps i).wf (by have := growL_len ps i; omega)
  have hne := w.neNil
  have hnl : (nds l).length ≤ 16384 := by simp; omega
  by_cases hlt : i < ps.length
  · have w1 : IntKind.i64.wrap ((i : Int) + 1) = (i : Int) + 1 := wrap64 (by omega) (by omega)
    obtain ⟨p, hpp, hlp⟩ := (hp.sub (S.was' (by simp))).idx e1_len hlt .i64
    obtain ⟨a, ha⟩ : ∃ a, a = ps[i] := ⟨_, rfl⟩
    rw [← ha] at hlp
    have hlp : ldCells st3 1 p = some [.int .i64 a] := hlp
    have hgd : ps.getD i 0 = a := by simp [hlt, ha]
    have S : Sep [TreeS tid easyR (nds l), RdN s l, Was st] st3 := S.swap
    have TR := S.treeR hne
    obtain ⟨c1, c2, c3⟩ := min_cl w hnl a
    obtain ⟨k, hk⟩ : ∃ k, k = clI (nds l) a := ⟨_, rfl⟩
    have hkl : k < (nds l).length := hk ▸ clI_lt w a
    rw [← hk] at c2
    simp [g4, g25, g26, h27, hlt, hpp, hlp]
    refine (spec159 oki TR).mono ?_
    rintro v st3 ⟨rfl, rfl⟩
    simp at c1 c2 c3
    simp [c1, c2, c3, g4]
    refine (spec161 oki TR w k).mono ?_
    rintro v st3 ⟨rfl, rfl⟩
    rw [inI_of hkl]
    obtain ⟨x, hx⟩ : ∃ x, x = nd (nds l) k := ⟨_, rfl⟩
    have hU : growU (nds l) i k = { hdr0 with ver := BitVec.ofInt 32 (i : Int), prev := x.id, time := x.hdr.time + 1#32, bits := 545259519#32 } := by rw [growU, ← hx]; rfl
    rw [← hx]
    simp
    intro i9 h9
    have S := S.new h9 (.cells (eNd nd0))
    have hsp : ∀ x y, spliceV (eNd x) 0 (eNd y) = eNd y := fun x y => by simp [spliceV, eNd_len]
    simp [storeS, eNd_len, hsp]
    have S := S.setAt (.cells (eNd x)) 0 rfl
    simp at S
    generalize st3.upd i9 _ = st4 at S ⊢
    have o9 := S.get
    simp [St.seg, o9, osegId, osegTime, build_h4]
    obtain ⟨U, hUe⟩ : ∃ U, U = growU (nds l) i k := ⟨_, rfl⟩
    rw [← hUe] at hU
    have hU' := hU
    simp at hU'
    rw [← hU']
    refine (spec143 okh st4 U 545259519#32 1000).mono ?_
    rintro v st4 ⟨rfl, rfl⟩
    rw [mineR_get, show (max 0 (min (1000 : Int) 65536)).toNat = 1000 from rfl]
    obtain ⟨G, hG⟩ : ∃ G, G = (mineN U 545259519#32 1000).getD hdr0 := ⟨_, rfl⟩
    have hGg : growH1 (growL ps i) i (ps.getD i 0) = G := by rw [hgd, ← hL, growH1, ← hk, ← hUe, hG]; rfl
    rw [← hG]
    simp
    intro i10 h10
    have S := S.new h10 (.cells (eHdr hdr0))
    simp [storeH]
    have S := S.setAt (.cells (eHdr G)) 0 rfl
    simp at S
    generalize st4.upd i10 _ = st5 at S ⊢
    have o10 := S.get
    have S : Sep [TreeS tid easyR (nds l), pt i10 (.cells (eHdr G)), pt i9 (.cells (eNd x)), RdN s l, Was st] st5 := S.pull 2
    simp [g4, St.seg, o10, hsegAll]
    refine (tree_add oki S w hnl hc G 100000).mono ?_
    rintro v st6 ⟨rfl, S⟩
    have o10 := S.mem (i := i10) (o := .cells (eHdr G)) (by simp)
    have S : Sep [RdN s l, TreeS tid easyR (addM easyR (nds l) G 100000).1, pt i10 (.cells (eHdr G)), pt i9 (.cells (eNd x)), Was st] st6 := S.pull 3
    simp [h6]
    refine ⟨_, spec236 ok st6, ?_⟩
    simp [St.seg, o10, hsegAll]
    refine (spec215 okr S.rdOf w hO (by omega) hc G 100000).mono ?_
    rintro v st7 ⟨s', l', rfl, hN, hl', hO'⟩
    have S := hN.over S
    simp [h27, w1]
    refine Round.mk (ps.length - (i + 1)) _ (by omega) (sub_self _) (hJ _ _ _ ⟨i + 1, s', l', by omega, rfl, by simp, by simp, ?_, hO', ?_⟩)
    · rw [growL, hGg, ← hL]; exact hl'
    · rw [hl']; exact Sep.tail (fun _ h => Sep.tail (fun _ h => h.drop.drop) h) S
  · have : i = ps.length := by omega
    subst this
    simp [g4, g26, h27, h6]
    exact ⟨st3, sub_self _, tid, s, l, rfl, hL, hO, S.swap⟩
end
end Go.Ab
set_option linter.unusedVariables false
namespace Go.Ab
open Go
end Go.Ab
set_option linter.unusedSimpArgs false
set_option linter.unusedVariables false
set_option maxRecDepth 10000
namespace Go.Ab
open Go Go.RowKit
theorem middle_mem {l : List W32} (h : l ≠ []) : middle32 l ∈ l := by
  unfold middle32
  have hpos := List.length_pos_iff.2 h
  have hl : l.length / 2 < (sorted32 l).length := by rw [sorted32_length]; omega
  have : (sorted32 l).getD (l.length / 2) 0 = (sorted32 l)[l.length / 2] := by simp [hl]
  rw [this]
  exact (List.mergeSort_perm l _).mem_iff.1 (List.getElem_mem hl)
theorem fits_ok {r : Rl} {l : List Nd} {h : Hdr} {p : Nat} {now : Int} (hp : p < l.length) (h1 : provedN h r.limit = 0) (h2 : (nd l p).failed = false) (h3 : h.bits = nextM r l p) (h4 : medianM l p < h.time) (h5 : (h.time.toNat : Int) - 7200 ≤ now) : fitsM r l h p now = 0 := by
  have e1 : ¬ ((p : Int) < 0 ∨ (l.length : Int) ≤ p) := by omega
  have e2 : ¬ h.time ≤ medianM l p := BitVec.not_le.2 h4
  have e3 : ¬ now < (h.time.toNat : Int) - 7200 := by omega
  simp only [fitsM, e1, if_false, h1, ne_eq, not_true_eq_false, Int.toNat_natCast, h2, h3, e2, e3, Bool.false_eq_true]
section
variable {P : Program} {F : Fn}
end
end Go.Ab
set_option linter.unusedSimpArgs false
set_option linter.unusedVariables false
set_option maxRecDepth 10000
namespace Go.Ab
open Go Go.RowKit
def Uniq (l : List Nd) : Prop := ∀ (k : Nat) (h : k < l.length), findM l l[k].id = some k
theorem uniq_push {l : List Nd} (u : Uniq l) {x : Nd} (h : findM l x.id = none) : Uniq (l ++ [x]) := by
  intro k hk
  rw [findM_append]
  by_cases hkl : k < l.length
  · rw [List.getElem_append_left hkl, if_neg (fun e => findM_none h _ (List.getElem_mem hkl) e.symm), u k hkl]
  · have : k = l.length := by simp at hk; omega
    subst this
    rw [List.getElem_append_right (Nat.le_refl _)]
    simp
structure Fresh (l : List Nd) : Prop where
  wf : Wf l
  ok : ∀ (k : Nat) (h : k < l.length), l[k].failed = false
  uniq : Uniq l
theorem fresh_gen : Fresh [gen0] := ⟨newM_wf easyR, fun k h => by
  have : k = 0 := by simp at h; exact h
  subst this; rfl, fun k h => by
  have : k = 0 := by simp at h; exact h
  subst this
  simp [findM]⟩
theorem addM_uniq {r : Rl} {l : List Nd} (u : Uniq l) (h : Hdr) (now : Int) : Uniq (addM r l h now).1 := by
  rcases addM_cases r l h now with ⟨e, _⟩ | ⟨p, _, h1, _, _, e⟩
  · rw [e]; exact u
  · rw [e]; exact uniq_push u h1
theorem fresh_add {r : Rl} {l : List Nd} (hF : Fresh l) (hl : l.length ≤ 16384) (h : Hdr) (now : Int) : Fresh (addM r l h now).1 ∧ (addM r l h now).1.length ≤ l.length + 1 ∧ l.length ≤ (addM r l h now).1.length := by
  refine ⟨⟨(addM_wf hF.wf hl h now).1, ?_, addM_uniq hF.uniq h now⟩, ?_⟩
  · rcases addM_cases r l h now with ⟨e, _⟩ | ⟨p, _, h1, _, _, e⟩
    · rw [e]; exact hF.ok
    · rw [e]
      intro k hk
      by_cases hkl : k < l.length
      · rw [List.getElem_append_left hkl]; exact hF.ok k hkl
      · have : k = l.length := by simp at hk; omega
        subst this
        rw [List.getElem_append_right (Nat.le_refl _)]
        have e : ∀ x : Nd, [x][l.length - l.length]'(by simp) = x := fun x => by simp
        rw [e]; rfl
  · rcases addM_cases r l h now with ⟨e, _⟩ | ⟨p, _, h1, _, _, e⟩
    · rw [e]; omega
    · rw [e]; simp
theorem add_zero {l : List Nd} (now : Int) : ∃ i e, addM easyR l hdr0 now = (l, i, e) ∧ e ≠ 0 := by
  cases h1 : findM l (hId hdr0) with
  | some i => exact ⟨_, _, addM_twice h1, by simp⟩
  | none =>
    rcases addM_cases easyR l hdr0 now with ⟨e, h⟩ | ⟨p, h2, _, h3, _, _⟩
    · exact ⟨_, _, Prod.ext e rfl, h⟩
    · exfalso
      have hp := findM_lt h2
      have hpr : provedN hdr0 easyR.limit = 30 := by
        have : tgt hdr0.bits = none := by decide +kernel
        simp [provedN, this]
      have e1 : ¬ ((p : Int) < 0 ∨ (l.length : Int) ≤ p) := by omega
      simp only [fitsM, e1, if_false, hpr] at h3
      simp at h3
section
variable {P : Program} {F : Fn}
end
end Go.Ab
set_option linter.unusedSimpArgs false
set_option linter.unusedVariables false
namespace Go.Ab
open Go Go.RowKit
def idG : Id := ⟨⟨[21, 69, 166, 194, 34, 142, 174, 254, 51, 143, 16, 178, 185, 178, 204, 107, 138, 25, 0, 80, 180, 91, 164, 132, 47, 186, 142, 94, 126, 96, 52, 167]⟩, rfl⟩
def idA : Id := ⟨⟨[249, 182, 181, 195, 143, 2, 170, 189, 230, 242, 107, 83, 189, 148, 246, 187, 181, 62, 161, 144, 91, 11, 14, 69, 23, 213, 175, 253, 125, 206, 235, 106]⟩, rfl⟩
def idB : Id := ⟨⟨[17, 201, 86, 10, 97, 254, 97, 209, 23, 135, 65, 78, 190, 187, 183, 154, 85, 228, 203, 214, 148, 79, 229, 233, 49, 73, 244, 124, 97, 50, 187, 119]⟩, rfl⟩
def idC : Id := ⟨⟨[43, 62, 228, 172, 249, 202, 246, 235, 73, 97, 160, 103, 90, 236, 253, 101, 73, 20, 60, 34, 66, 93, 50, 158, 178, 100, 152, 79, 22, 70, 41, 16]⟩, rfl⟩
def hdU (v : W32) (p : Id) (t : W32) : Hdr := { hdr0 with ver := v, prev := p, time := t, bits := easyB }
def hdA : Hdr := { hdU 0#32 idG 1#32 with nonce := 2#32 }
def hdB : Hdr := { hdU 1#32 idA 2#32 with nonce := 1#32 }
def hdC : Hdr := { hdU 2#32 idA 2#32 with nonce := 0#32 }
theorem gen_id : hId easyR.gen = idG := by decide +kernel
theorem mineA : mineN (hdU 0#32 idG 1#32) easyB 1000 = some hdA := by decide +kernel
theorem hdA_id : hId hdA = idA := by decide +kernel
theorem mineB : mineN (hdU 1#32 idA 2#32) easyB 1000 = some hdB := by decide +kernel
theorem hdB_id : hId hdB = idB := by decide +kernel
theorem mineC : mineN (hdU 2#32 idA 2#32) easyB 1000 = some hdC := by decide +kernel
theorem hdC_id : hId hdC = idC := by decide +kernel
theorem ids_apart : idA ≠ idG ∧ idB ≠ idG ∧ idB ≠ idA ∧ idC ≠ idG ∧ idC ≠ idA ∧ idC ≠ idB ∧ idA ≠ id0 ∧ idB ≠ id0 := by decide +kernel
theorem ndOf_idn (l : List Nd) (h : Hdr) (p : Nat) : (ndOf l h p).id = hId h := by
  unfold ndOf
  generalize hId h = I
  rfl
theorem add_behind {l : List Nd} (hF : Fresh l) (hl : l.length ≤ 1000) {p : Nat} (hp : p < l.length) {h : Hdr} (hprev : h.prev = (nd l p).id) (hnew : findM l (hId h) = none) (hpr : provedN h easyB = 0) (hb : h.bits = (nd l p).hdr.bits) (ht : medianM l p < h.time) (ht2 : (h.time.toNat : Int) - 7200 ≤ 100000) :
    addM easyR l h 100000 = (l ++ [ndOf l h p], (l.length : Int), 0) := by
  have h2 : findM l h.prev = some p := by rw [hprev, nd_at hp]; exact hF.uniq p hp
  have hfail : (nd l p).failed = false := by rw [nd_at hp]; exact hF.ok p hp
  exact addM_ok hnew h2 (fits_ok hp hpr hfail (by rw [easy_next]; exact hb) ht ht2) (by omega)
theorem growH1_eq {l : List Nd} {i : Nat} {p : Int} {q : Nat} (hq : clI l p = q) {x : Nd} (hx : nd l q = x) {v : W32} {I : Id} {T : W32} (hv : BitVec.ofInt 32 (i : Int) = v) (hid : x.id = I) (ht : x.hdr.time + 1#32 = T) {h : Hdr} (hm : mineN (hdU v I T) easyB 1000 = some h) : growH1 l i p = h := by
  have e : growU l i q = hdU v I T := by
    unfold growU hdU
    rw [hx, hv, hid, ht]
  rw [growH1, hq, e, hm]; rfl
structure Three (x1 x2 x3 : Nd) : Prop where
  grown : growM [0, 1, 1] = [gen0, x1, x2, x3]
  p1 : x1.parent = 0
  p2 : x2.parent = 1
  p3 : x3.parent = 1
  h1 : x1.height = 1
  h2 : x2.height = 2
  h3 : x3.height = 2
  i1 : x1.id = idA
  i2 : x2.id = idB
  i3 : x3.id = idC
theorem three : ∃ x1 x2 x3, Three x1 x2 x3 := by
  obtain ⟨a1, a2, a3, a4, a5, a6, -, -⟩ := ids_apart
  have gid : gen0.id = idG := gen_id
  have gp : gen0.parent = -1 := rfl
  have gt : gen0.hdr.time = 0#32 := rfl
  have gb : gen0.hdr.bits = easyB := rfl
  have F0 : Fresh [gen0] := fresh_gen
  -- the first
  have n0 : nd [gen0] 0 = gen0 := nd_at (by simp)
  have g1 : growH1 [gen0] 0 0 = hdA := growH1_eq (q := 0) rfl n0 rfl gid (by rw [gt]; rfl) mineA
  have t0 : medianM [gen0] 0 = 0#32 := by rw [median_one rfl, n0, gt]
  obtain ⟨-, m2, -, m4, m5, m6⟩ := mineN_some mineA
  have e1 := add_behind F0 (by simp) (p := 0) (h := hdA) (by simp) (by rw [n0, gid]; exact m2) (by rw [hdA_id]; simp [findM, gid, a1.symm]) m6 (by rw [n0, gb]; exact m5) (by rw [t0]; decide) (by decide)
  obtain ⟨x1, hx1⟩ : ∃ x1, x1 = ndOf [gen0] hdA 0 := ⟨_, rfl⟩
  rw [← hx1] at e1
  have f1h : x1.hdr = hdA := by rw [hx1]; rfl
  have f1p : x1.parent = 0 := by rw [hx1]; rfl
  have f1g : x1.height = 1 := by
    have : x1.height = hgt [gen0] 0 + 1 := by rw [hx1]; rfl
    rw [this, hgt_at (by simp)]; rfl
  have f1i : x1.id = idA := by rw [hx1, ndOf_idn, hdA_id]
  have F1 : Fresh [gen0, x1] := by
    have := (fresh_add (r := easyR) F0 (by simp) hdA 100000).1
    rw [e1] at this
    exact this
  -- the second
  have n1 : nd [gen0, x1] 1 = x1 := nd_at (by simp)
  have g2 : growH1 [gen0, x1] 1 1 = hdB := growH1_eq (q := 1) rfl n1 rfl f1i (by rw [f1h]; rfl) mineB
  have hmed : ∀ l : List Nd, timesM l 11 1 = [1#32, 0#32] → medianM l 1 < 2#32 := fun l h => by
    have hm : medianM l 1 ∈ [1#32, 0#32] := by
      have := middle_mem (l := timesM l 11 1) (by rw [h]; simp)
      rw [h] at this
      unfold medianM
      rw [h]
      exact this
    simp at hm
    rcases hm with hm | hm <;> rw [hm] <;> decide
  have t1 : timesM [gen0, x1] 11 1 = [1#32, 0#32] := by
    simp [timesM, f1p, f1h, gp, gt, hdA, hdU]
  obtain ⟨-, m2, -, m4, m5, m6⟩ := mineN_some mineB
  have e2 := add_behind F1 (by simp) (p := 1) (h := hdB) (by simp) (by rw [n1, f1i]; exact m2) (by rw [hdB_id]; simp [findM, gid, f1i, a2.symm, a3.symm]) m6 (by rw [n1, f1h]; exact m5) (hmed _ t1) (by decide)
  obtain ⟨x2, hx2⟩ : ∃ x2, x2 = ndOf [gen0, x1] hdB 1 := ⟨_, rfl⟩
  rw [← hx2] at e2
  have f2p : x2.parent = 1 := by rw [hx2]; rfl
  have f2g : x2.height = 2 := by
    have : x2.height = hgt [gen0, x1] 1 + 1 := by rw [hx2]; rfl
    rw [this, hgt_at (by simp)]; simp [f1g]
  have f2i : x2.id = idB := by rw [hx2, ndOf_idn, hdB_id]
  have F2 : Fresh [gen0, x1, x2] := by
    have := (fresh_add (r := easyR) F1 (by simp) hdB 100000).1
    rw [e2] at this
    exact this
  -- the third
  have n2 : nd [gen0, x1, x2] 1 = x1 := nd_at (by simp)
  have g3 : growH1 [gen0, x1, x2] 2 1 = hdC := growH1_eq (q := 1) rfl n2 rfl f1i (by rw [f1h]; rfl) mineC
  have t2 : timesM [gen0, x1, x2] 11 1 = [1#32, 0#32] := by
    simp [timesM, f1p, f1h, gp, gt, hdA, hdU]
  obtain ⟨-, m2, -, m4, m5, m6⟩ := mineN_some mineC
  have e3 := add_behind F2 (by simp) (p := 1) (h := hdC) (by simp) (by rw [n2, f1i]; exact m2) (by rw [hdC_id]; simp [findM, gid, f1i, f2i, a4.symm, a5.symm, a6.symm]) m6 (by rw [n2, f1h]; exact m5) (hmed _ t2) (by decide)
  obtain ⟨x3, hx3⟩ : ∃ x3, x3 = ndOf [gen0, x1, x2] hdC 1 := ⟨_, rfl⟩
  rw [← hx3] at e3
  have f3p : x3.parent = 1 := by rw [hx3]; rfl
  have f3g : x3.height = 2 := by
    have : x3.height = hgt [gen0, x1, x2] 1 + 1 := by rw [hx3]; rfl
    rw [this, hgt_at (by simp)]; simp [f1g]
  have f3i : x3.id = idC := by rw [hx3, ndOf_idn, hdC_id]
  refine ⟨x1, x2, x3, ⟨?_, f1p, f2p, f3p, f1g, f2g, f3g, f1i, f2i, f3i⟩⟩
  have l0 : growL [0, 1, 1] 0 = [gen0] := rfl
  have l1 : growL [0, 1, 1] 1 = [gen0, x1] := by
    rw [growL, l0, show ([0, 1, 1] : List Int).getD 0 0 = 0 from rfl, g1, e1]; rfl
  have l2 : growL [0, 1, 1] 2 = [gen0, x1, x2] := by
    rw [growL, l1, show ([0, 1, 1] : List Int).getD 1 0 = 1 from rfl, g2, e2]; rfl
  have l3 : growL [0, 1, 1] 3 = [gen0, x1, x2, x3] := by
    rw [growL, l2, show ([0, 1, 1] : List Int).getD 2 0 = 1 from rfl, g3, e3]; rfl
  exact l3
end Go.Ab
set_option linter.unusedSimpArgs false
set_option linter.unusedVariables false
set_option maxRecDepth 10000
namespace Go.Ab
open Go Go.RowKit
theorem fillId2 (x y : Id) : fillV (repV zR32_w80 2) [(0, 32, .agg (eId x)), (32, 32, .agg (eId y))] = some (rowsOf eId [x, y]) := by
  have h0 : repV zR32_w80 2 = zR32_w80 ++ zR32_w80 := by simp [repV]
  have e1 : spliceV (zR32_w80 ++ zR32_w80) 0 (eId x) = eId x ++ zR32_w80 := by
    unfold spliceV
    rw [List.take_zero, List.nil_append, Nat.zero_add, eId_len, ← zR32_w80_len, List.drop_left]
  have e2 : spliceV (eId x ++ zR32_w80) 32 (eId y) = eId x ++ eId y := by
    rw [show 32 = 32 + 0 from rfl, splice_right (eId_len x), spl_z32]
  rw [h0]
  simp [fillV, eId_len, e1, e2, rowsOf]
structure Facts (l : List Nd) : Prop where
  len : l.length = 4
  meet : meetM l (clI l 2) (clI l 3) = 1
  fork : forkM l 2 [(nd l 3).id, (nd l 1).id] = 1
  after : (afterM l 2 0 id0 5).length = 2
  names : (namesM l 3).length = 3
  way : (wayI l 0 3).length = 2
theorem three_facts : Facts (growM [0, 1, 1]) := by
  obtain ⟨x1, x2, x3, T⟩ := three
  have w : Wf (growM [0, 1, 1]) := (growL_made [0, 1, 1] 3).wf (by have := growL_len [0, 1, 1] 3; omega)
  rw [T.grown] at w ⊢
  obtain ⟨a1, a2, a3, a4, a5, a6, a7, a8⟩ := ids_apart
  have gid : gen0.id = idG := gen_id
  obtain ⟨l, hl⟩ : ∃ l, l = [gen0, x1, x2, x3] := ⟨_, rfl⟩
  have len : l.length = 4 := by rw [hl]; rfl
  have n1 : nd l 1 = x1 := by rw [hl]; rfl
  have n2 : nd l 2 = x2 := by rw [hl]; rfl
  have n3 : nd l 3 = x3 := by rw [hl]; rfl
  have h0 : hgt l 0 = 0 := by rw [hl]; rfl
  have h1 : hgt l 1 = 1 := by rw [hl]; exact T.h1
  have h2 : hgt l 2 = 2 := by rw [hl]; exact T.h2
  have h3 : hgt l 3 = 2 := by rw [hl]; exact T.h3
  have p2 : par l 2 = 1 := by rw [hl]; show x2.parent.toNat = 1; rw [T.p2]; rfl
  have p3 : par l 3 = 1 := by rw [hl]; show x3.parent.toNat = 1; rw [T.p3]; rfl
  have f3 : findM l idC = some 3 := by
    rw [hl]; simp [findM, T.i3]
  have f1 : findM l idA = some 1 := by
    rw [hl]; simp [findM, T.i3, T.i2, T.i1, a5, a3]
  rw [← hl] at w ⊢
  have anc22 : anc l 2 2 = 2 := by have := anc_self (l := l) 2; rw [h2] at this; exact this
  have anc21 : anc l 2 1 = 1 := by
    rw [w.anc_par (by omega) (by omega), p2]
    have := anc_self (l := l) 1
    rw [h1] at this; exact this
  have anc32 : anc l 3 2 = 3 := by have := anc_self (l := l) 3; rw [h3] at this; exact this
  have on02 : onB l ((0 : Nat) : Int) ((2 : Nat) : Int) = true := (onB_on (by omega) (by omega)).2 (On.zero w (by omega))
  have on03 : onB l ((0 : Nat) : Int) ((3 : Nat) : Int) = true := (onB_on (by omega) (by omega)).2 (On.zero w (by omega))
  have on12 : onB l ((1 : Nat) : Int) ((2 : Nat) : Int) = true := (onB_on (by omega) (by omega)).2 (by
    have := On.up w (k := 2) (by omega) (by omega)
    rw [p2] at this; exact this)
  have on32 : onB l ((3 : Nat) : Int) ((2 : Nat) : Int) = false := by
    cases e : onB l ((3 : Nat) : Int) ((2 : Nat) : Int) with
    | false => rfl
    | true =>
      have := On.le w (by omega) ((onB_on (by omega) (by omega)).1 e)
      omega
  refine ⟨len, ?_, ?_, ?_, ?_, ?_⟩
  · have c2 : clI l 2 = 2 := by unfold clI; rw [len]; rfl
    have c3 : clI l 3 = 3 := by unfold clI; rw [len]; rfl
    rw [c2, c3, meetM, h2, h3, show min 2 2 = 2 from rfl, anc22, anc32, meetGo, if_neg (by omega), p2, p3, meetGo, if_pos rfl]
  · rw [n3, n1, T.i3, T.i1, forkM, f3]
    show (if onB l ((3 : Nat) : Int) ((2 : Nat) : Int) = true then 3 else forkM l 2 [idA]) = 1
    rw [on32, if_neg (by simp), forkM, f1]
    show (if onB l ((1 : Nat) : Int) ((2 : Nat) : Int) = true then 1 else forkM l 2 []) = 1
    rw [on12, if_pos rfl]
  · have e : afterM l 2 0 id0 5 = aftGo l 2 id0 5 (hgt l 2 - hgt l 0) (hgt l 0 + 1) 0 := by
      rw [afterM, if_pos (show onB l 0 2 = true from on02)]; rfl
    rw [e, h2, h0]
    have b1 : x1.id ≠ id0 := by rw [T.i1]; exact a7
    have b2 : x2.id ≠ id0 := by rw [T.i2]; exact a8
    simp [aftGo, anc21, anc22, n1, n2, b1, b2]
  · have e : namesM l 3 = (heightsM (hgt l 3)).map fun h => (nd l (inI l (ancI l 3 h))).id := by
      rw [namesM, if_neg (by omega)]; rfl
    rw [e, List.length_map, h3]
    rfl
  · have e : wayI l 0 3 = wayM l 0 3 := by rw [wayI, if_pos (show onB l 0 3 = true from on03)]; rfl
    rw [e, wayM_len, h3, h0]
section
variable {P : Program} {F : Fn}
theorem GrownR.wf {ps : List Int} {l : List Rw} (h : nds l = growM ps) (hn : ps.length ≤ 1000) : Wf (nds l) ∧ l.length ≤ ps.length + 1 := by
  have h1 := growL_len ps ps.length
  have h2 := congrArg List.length h
  rw [nds_len] at h2
  refine ⟨?_, by rw [h2]; exact h1⟩
  rw [h]
  exact (growL_made ps ps.length).wf (by omega)
set_option maxHeartbeats 2000000 in
theorem spec238 (ok : OkLaw11 P F) (st : St) : ACalls P (F 238) [] st fun v st' => v = .bool true ∧ st' = st := by
  have okl := ok.toOkLocate
  have oki := okl.toOkIndexZ.toOkIndex
  refine shows_call ok.mixed ok.h238 (by simp [k238]) ?_
  simp only [k238]
  have hf : fillV (repV [.int .i64 0] 3) [(0, 1, .int .i64 0), (1, 1, .int .i64 1), (2, 1, .int .i64 1)] = some (rowsOf e1 [0, 1, 1]) := rfl
  simp only [vc_seq, vc_ops, runP_cons0, step_mv, runK_ap, env_put_some, runP_nil, seqK_n, step_bsl, X.ev, List.map_cons, List.map_nil]
  rw [hf]
  simp only [Option.map_some, onV_some, runK_ap, env_put_some, runP_cons0, step_call, List.map_cons, List.map_nil, X.ev, env_upd, if_true]
  have hg := spec237 ok st (rd_full (f := e1) (sz := 1) [0, 1, 1] st (n := 3) rfl) (by simp)
  refine hg.mono ?_
  rintro v st1 ⟨tid, s, l, rfl, hL, hO, S⟩
  obtain ⟨w, -⟩ := GrownR.wf hL (by simp)
  have Fa := three_facts
  rw [← hL] at Fa
  obtain ⟨L, hLe⟩ : ∃ L, L = nds l := ⟨_, rfl⟩
  rw [← hLe] at Fa w S
  clear hL hg
  have hs := S.was' (st0 := st) (by simp)
  have hnl : L.length ≤ 16384 := by rw [Fa.len]; omega
  have TR := S.treeR w.neNil
  have i3 : inI L 3 = 3 := inI_of (i := 3) (by rw [Fa.len]; omega)
  have i1 : inI L 1 = 1 := inI_of (i := 1) (by rw [Fa.len]; omega)
  simp [eqK]
  refine (spec159 oki TR).mono ?_
  rintro v st1 ⟨rfl, rfl⟩
  rw [Fa.len]
  simp
  refine (spec228 okl TR w hnl 2 3).mono ?_
  rintro v st1 ⟨rfl, rfl⟩
  rw [Fa.meet]
  simp
  refine (spec161 oki TR w 3).mono ?_
  rintro v st1 ⟨rfl, rfl⟩
  rw [i3]
  simp [fldV_agg, osegId]
  refine (spec161 oki TR w 1).mono ?_
  rintro v st1 ⟨rfl, rfl⟩
  rw [i1]
  simp [fldV_agg, osegId, fillId2]
  refine (spec226 okl TR w 2 (ks := [(nd L 3).id, (nd L 1).id]) (.inl ⟨.full, by simp⟩) (by simp)).mono ?_
  rintro v st1 ⟨rfl, rfl⟩
  rw [Fa.fork]
  have hz : fillV zR32_w80 [] = some (eId id0) := rfl
  simp [hz]
  refine (spec227 okl TR w hnl 2 0 id0 5).mono ?_
  intro v st2 S2
  have TR := TR.sub (S2.was' (st0 := st1) (by simp))
  have l2 := (Sep.rd eHdr_len S2).len
  rw [Fa.after] at l2
  have hs := sub_trans hs (S2.was' (st0 := st1) (by simp))
  clear S2
  simp [l2]
  refine (spec225 okl TR w hnl 3).mono ?_
  intro v st3 S3
  have TR := TR.sub (S3.was' (st0 := st2) (by simp))
  have l3 := (Sep.rd eId_len S3).len
  rw [Fa.names] at l3
  have hs := sub_trans hs (S3.was' (st0 := st2) (by simp))
  clear S3
  simp [l3]
  refine (spec229 okl TR w hnl 0 3).mono ?_
  intro v st4 S4
  have l4 := (Sep.rd e1_len S4).len
  rw [Fa.way] at l4
  have hs := sub_trans hs (S4.was' (st0 := st3) (by simp))
  simp [l4, hs]
theorem hsGo_sorted : ∀ (n : Nat) (h : Int), ∀ x ∈ hsGo n h, x ≤ h ∧ 0 < x
  | 0, h, x, hx => by simp [hsGo] at hx
  | n + 1, h, x, hx => by
    unfold hsGo at hx
    split at hx
    · rename_i hp
      rcases List.mem_cons.1 hx with rfl | hx
      · exact ⟨by omega, hp⟩
      · have := hsGo_sorted n _ x hx
        have := stp_pos (31 - n)
        omega
    · simp at hx
theorem hsGo_pair : ∀ (n : Nat) (h : Int), (hsGo n h).Pairwise (· > ·)
  | 0, h => by simp [hsGo]
  | n + 1, h => by
    unfold hsGo
    split
    · refine List.pairwise_cons.2 ⟨fun x hx => ?_, hsGo_pair n _⟩
      have := (hsGo_sorted n _ x hx).1
      have := stp_pos (31 - n)
      omega
    · simp
theorem heights_pair (top : Int) : (heightsM top).Pairwise (· > ·) := by
  unfold heightsM
  split
  · simp
  · refine List.pairwise_append.2 ⟨hsGo_pair 31 top, by simp, fun x hx y hy => ?_⟩
    have := (hsGo_sorted 31 top x hx).2
    simp at hy
    omega
set_option maxHeartbeats 2000000 in
theorem spec241 (ok : OkLaw11 P F) (st : St) {top : Int} (hr : -9223372036854775808 ≤ top ∧ top ≤ 9223372036854775807) : ACalls P (F 241) [.int .i64 top] st fun v st' => v = .bool true := by
  have okl := ok.toOkLocate
  have okr := ok.toOkRef11
  refine shows_call ok.mixed ok.h241 (by simp [k241]) ?_
  simp only [k241]
  have fin : ∀ s : St, ∃ s', St.sub s' s := fun s => ⟨s, sub_self _⟩
  simp
  refine (spec238 ok st).mono ?_
  rintro v st ⟨rfl, rfl⟩
  simp
  refine (spec224 okl st hr).mono ?_
  intro v st1 S
  obtain ⟨H, hH⟩ : ∃ H, H = heightsM top := ⟨_, rfl⟩
  rw [← hH] at S
  have hlen : H.length ≤ 32 := by
    rw [hH, heightsM]
    split
    · simp
    · have := hsGo_len 31 top; simp; omega
  have rd := Sep.rd e1_len S
  clear S
  simp
  refine (spec231 okr st1 hr).mono ?_
  intro u st2 S
  rw [← hH] at S
  have rd2 := Sep.rd e1_len S
  have rd := rd.sub (S.was' (st0 := st1) (by simp))
  clear S
  simp
  refine (spec239 ok rd rd2 (by omega)).mono ?_
  rintro v2 st2 ⟨rfl, rfl⟩
  have hln := rd.len
  have h32 : ¬ (32 : Int) < H.length := by omega
  by_cases ht : top < 0
  · have e : H = [] := by rw [hH, heightsM, if_pos ht]
    rw [e] at hln
    simp [hln, ht, fin]
  · have e : H = hsGo 31 top ++ [0] := by rw [hH, heightsM, if_neg ht]
    simp [hln, h32, ht]
    have hp : 0 < H.length := by rw [e]; simp
    refine vc_loopJ (fun c env' st' => ∃ i : Nat, 1 ≤ i ∧ i ≤ H.length ∧ c = H.length - i ∧ env' 4 = .int .i64 (i : Nat) ∧ st' = st2) (H.length - 1)
      ⟨1, by omega, by omega, rfl, by simp, rfl⟩ ?_
    rintro J hJ c env' st3 hsame ⟨i, hi1, hi, rfl, h4, rfl⟩
    have g0 := (hsame.get 0 rfl).trans (by simp : _ = V.int .i64 top)
    have g3 := (hsame.get 3 rfl).trans (by simp : _ = v)
    clear hsame
    by_cases hlt : i < H.length
    · obtain ⟨j, hj⟩ : ∃ j, j + 1 = i := ⟨i - 1, by omega⟩
      have w1 : IntKind.i64.wrap ((i : Int) + 1) = (i : Int) + 1 := wrap64 (by omega) (by omega)
      have w2 : IntKind.i64.wrap ((i : Int) - 1) = (j : Int) := by rw [wrap64 (by omega) (by omega)]; omega
      have hjl : j < H.length := by omega
      obtain ⟨p, hp1, hp2⟩ := rd.idx e1_len hlt .i64
      obtain ⟨q, hq1, hq2⟩ := rd.idx e1_len hjl .i64
      have hgt : H[i] < H[j] := by
        have := heights_pair top
        rw [← hH] at this
        exact List.pairwise_iff_getElem.1 this j i hjl hlt (by omega)
      have hng : ¬ H[j] ≤ H[i] := by omega
      simp [g3, h4, hln, hlt, w2, hp1, hp2, hq1, hq2, e1, hng, w1]
      exact Round.mk (H.length - (i + 1)) _ (by omega) (sub_self _) (hJ _ _ _ ⟨i + 1, by omega, by omega, rfl, by simp, rfl⟩)
    · have : i = H.length := by omega
      subst this
      obtain ⟨j, hj⟩ : ∃ j, j + 1 = H.length := ⟨H.length - 1, by omega⟩
      have w2 : IntKind.i64.wrap ((H.length : Int) - 1) = (j : Int) := by rw [wrap64 (by omega) (by omega)]; omega
      obtain ⟨p, hp1, hp2⟩ := rd.idx e1_len (i := j) (by omega) .i64
      obtain ⟨q, hq1, hq2⟩ := rd.idx e1_len hp .i64
      have hl0 : H[j] = 0 := by
        have : H[j]? = some 0 := by rw [e, List.getElem?_append_right (by rw [e] at hj; simp at hj; omega)]; rw [e] at hj; simp at hj; simp [hj]
        rw [List.getElem?_eq_getElem (by omega)] at this
        exact Option.some.inj this
      rw [hl0] at hp2
      have hp2 : ldCells st3 1 p = some [.int .i64 0] := hp2
      have hq1 : idxSlV 1 v (.int .i64 0) = some q := hq1
      have hpi : (0 : Int) < H.length := by omega
      by_cases h0 : top = 0
      · simp [g0, g3, h4, hln, hpi, w2, hp1, hp2, h0, hp, fin]
      · have hft : H[0] = top := by
          have e31 : hsGo 31 top = top :: hsGo 30 (top - stp (31 - 30)) := by rw [hsGo, if_pos (by omega)]
          have : H[0]? = some top := by rw [e, e31]; rfl
          rw [List.getElem?_eq_getElem hp] at this
          exact Option.some.inj this
        have h0b : (top == 0) = false := by simp [h0]
        rw [hft] at hq2
        have hq2 : ldCells st3 1 q = some [.int .i64 top] := hq2
        simp [g0, g3, h4, hln, hpi, w2, hp1, hp2, h0b, hq1, hq2, hp, fin]
end
end Go.Ab
set_option linter.unusedSimpArgs false
set_option linter.unusedVariables false
set_option maxRecDepth 10000
namespace Go.Ab
open Go Go.RowKit
def idOf (b : UInt8) : Id := ⟨⟨b :: List.replicate 31 0⟩, rfl⟩
theorem build_id (b : UInt8) : fillV zR32_w80 [(0, 1, w8 b)] = some (eId (idOf b)) := rfl
section
variable {P : Program} {F : Fn}
set_option maxHeartbeats 4000000 in
theorem spec242 (ok : OkLaw11 P F) (st : St) (k0 k2 : SK) (ps ns : List Int) (p0 p1 p2 : Int) :
    ACalls P (F 242) [.sl k0 (rowsOf e1 ps) ps.length, .agg [.int .i64 p0, .int .i64 p1, .int .i64 p2], .sl k2 (rowsOf e1 ns) ns.length] st fun v st' => v = .bool true := by
  have okl := ok.toOkLocate
  have okr := ok.toOkRef11
  have oki := okl.toOkIndexZ.toOkIndex
  refine shows_call ok.mixed ok.h242 (by simp [k242]) ?_
  simp only [k242]
  have fin : ∀ s : St, ∃ s', St.sub s' s := fun s => ⟨s, sub_self _⟩
  simp
  intro i4 h4
  have S := (Sep.start st).new h4 (.cells [.int .i64 p0, .int .i64 p1, .int .i64 p2])
  generalize st.upd i4 _ = st1 at S ⊢
  refine (spec238 ok st1).mono ?_
  rintro v st1 ⟨rfl, rfl⟩
  by_cases c1 : (25 : Int) < ps.length
  · simp [c1, fin]
  by_cases c2 : (20 : Int) < ns.length
  · simp [c1, c2, fin]
  simp [c1, c2]
  refine (spec237 ok st1 (q := .sl k0 (rowsOf e1 ps) ps.length) (ps := ps) (.inl ⟨k0, rfl⟩) (by omega)).mono ?_
  rintro v st2 ⟨tid, s, l, rfl, hL, hO, T⟩
  obtain ⟨w, hll⟩ := GrownR.wf hL (by omega)
  have S := S.sub (T.was' (by simp))
  have o4 := S.get
  have hnl : (nds l).length ≤ 16384 := by simp; omega
  have TR := T.treeR w.neNil
  have rd := T.swap.rdOf
  have hlen := rd.len
  clear S T
  simp [eqK]
  refine (spec159 oki TR).mono ?_
  rintro v st2 ⟨rfl, rfl⟩
  have hb : (((nds l).length : Int) != (l.length : Int)) = false := by simp
  have x0 : idxArrV 3 1 (.ptr (some (i4, 0))) (.int .i64 0) = some (.ptr (some (i4, 0))) := rfl
  have x1 : idxArrV 3 1 (.ptr (some (i4, 0))) (.int .i64 1) = some (.ptr (some (i4, 1))) := rfl
  have x2 : idxArrV 3 1 (.ptr (some (i4, 0))) (.int .i64 2) = some (.ptr (some (i4, 2))) := rfl
  have e0 : segOf [V.int .i64 p0, V.int .i64 p1, V.int .i64 p2] 0 1 = some [.int .i64 p0] := rfl
  have e1' : segOf [V.int .i64 p0, V.int .i64 p1, V.int .i64 p2] 1 1 = some [.int .i64 p1] := rfl
  have e2' : segOf [V.int .i64 p0, V.int .i64 p1, V.int .i64 p2] 2 1 = some [.int .i64 p2] := rfl
  simp [hlen, hb, x0, x1, x2, St.seg, o4, e0]
  refine ⟨_, spec240 ok TR w hnl p0, ?_⟩
  simp [St.seg, o4, e1']
  refine ⟨_, spec240 ok TR w hnl p1, ?_⟩
  simp [St.seg, o4, e2']
  refine ⟨_, spec240 ok TR w hnl p2, ?_⟩
  obtain ⟨a, ha⟩ : ∃ a, a = clI (nds l) p0 := ⟨_, rfl⟩
  obtain ⟨b, hb2⟩ : ∃ a, a = clI (nds l) p1 := ⟨_, rfl⟩
  obtain ⟨c, hc⟩ : ∃ a, a = clI (nds l) p2 := ⟨_, rfl⟩
  have hal : a < (nds l).length := ha ▸ clI_lt w _
  have hbl : b < (nds l).length := hb2 ▸ clI_lt w _
  have hcl : c < (nds l).length := hc ▸ clI_lt w _
  rw [← ha, ← hb2, ← hc]
  simp
  refine vc_loopJ (fun k env' st' => ∃ (i : Nat) (q : V) (ks : List Id), i ≤ ns.length ∧ k = ns.length - i ∧ ks.length ≤ 2 * i ∧ env' 53 = .int .i64 (i : Nat) ∧ env' 12 = q ∧ Sep [Sl 32 eId q ks, Was st2] st') ns.length
    ⟨0, .sl .nil [] 0, [], by omega, by omega, by simp, by simp, by simp, (Sep.start st2).slNil⟩ ?_
  rintro J hJ k env' st3 hsame ⟨i, q, ks, hi, rfl, hks, h53, h12, S⟩
  have g7 := (hsame.get 7 rfl).trans (by simp : _ = V.ptr (some (tid, 0)))
  have g8 := (hsame.get 8 rfl).trans (by simp : _ = s)
  have g9 := (hsame.get 9 rfl).trans (by simp : _ = V.int .i64 (a : Int))
  have g10 := (hsame.get 10 rfl).trans (by simp : _ = V.int .i64 (b : Int))
  have g11 := (hsame.get 11 rfl).trans (by simp : _ = V.int .i64 (c : Int))
  have g51 := (hsame.get 51 rfl).trans (by simp : _ = V.sl k2 (rowsOf e1 ns) ns.length)
  have g52 := (hsame.get 52 rfl).trans (by simp : _ = V.int .i64 (ns.length : Int))
  clear hsame
  have hs := S.was' (st0 := st2) (by simp)
  have TR := TR.sub hs
  have rd := rd.sub hs
  by_cases hlt : i < ns.length
  · have w1 : IntKind.i64.wrap ((i : Int) + 1) = (i : Int) + 1 := wrap64 (by omega) (by omega)
    have rn : Rd 1 e1 (.sl k2 (rowsOf e1 ns) ns.length) ns st3 := .inl ⟨k2, rfl⟩
    obtain ⟨p, hp, hlp⟩ := rn.idx e1_len hlt .i64
    obtain ⟨x, hx⟩ : ∃ x, x = ns[i] := ⟨_, rfl⟩
    rw [← hx] at hlp
    have hlp : ldCells st3 1 p = some [.int .i64 x] := hlp
    simp [g7, g51, g52, h53, h12, hlt, hp, hlp, -idxSlV_sl]
    refine (spec161 oki TR w x).mono ?_
    rintro v st3 ⟨rfl, rfl⟩
    obtain ⟨y, hy⟩ : ∃ y, y = nd (nds l) (inI (nds l) x) := ⟨_, rfl⟩
    rw [← hy]
    simp [fldV_agg, osegId, fillId, elId]
    refine Sep.app1 eId_len (by omega) S (a := y.id) rfl (by omega) ?_
    intro q' st4 S
    by_cases hx0 : x < 0
    · simp [hx0, build_id, fillId, elId]
      refine Sep.app1 eId_len (by omega) S (a := idOf _) rfl (by simp; omega) ?_
      intro q2 st5 S
      simp [h53, w1]
      exact Round.mk (ns.length - (i + 1)) _ (by omega) (sub_self _) (hJ _ _ _ ⟨i + 1, q2, _, by omega, rfl, by simp; omega, by simp, by simp, S⟩)
    · simp [hx0, h53, w1]
      exact Round.mk (ns.length - (i + 1)) _ (by omega) (sub_self _) (hJ _ _ _ ⟨i + 1, q', _, by omega, rfl, by simp; omega, by simp, by simp, S⟩)
  · have : i = ns.length := by omega
    subst this
    have rk := Sep.rd eId_len S
    simp [g7, g8, g9, g10, g52, h53, h12]
    refine (spec226 okl TR w a rk (by omega)).mono ?_
    rintro v st3 ⟨rfl, rfl⟩
    simp [g8, g9, h12]
    refine (spec233 okr rd w (by omega) a rk (by omega)).mono ?_
    rintro v st3 ⟨rfl, rfl⟩
    simp [g7, g8, g9, g10]
    refine (spec228 okl TR w hnl a b).mono ?_
    rintro v st3 ⟨rfl, rfl⟩
    rw [clI_of hal, clI_of hbl]
    simp [g8, g9, g10]
    refine (spec235 okr rd w (by omega) (by simpa using hal) (by simpa using hbl)).mono ?_
    rintro v st3 ⟨rfl, rfl⟩
    simp [g7, g9, g11]
    refine (spec163 oki TR w c a).mono ?_
    rintro v st3 ⟨rfl, rfl⟩
    cases hon : onB (nds l) c a with
    | false =>
      have e : wayI (nds l) c a = [] := by rw [wayI, hon]; rfl
      simp [g7, g9, g11]
      refine (spec229 okl TR w hnl c a).mono ?_
      intro v st4 S4
      have l4 := (Sep.rd e1_len S4).len
      rw [e] at l4
      simp at l4
      simp [l4, fin]
    | true =>
      have e : wayI (nds l) c a = wayM (nds l) c a := by rw [wayI, if_pos hon]; rfl
      simp [g7, g8, g9, g11]
      refine (spec229 okl TR w hnl c a).mono ?_
      intro v st4 S4
      rw [e] at S4
      have hs4 := S4.was' (st0 := st3) (by simp)
      have r4 := Sep.rd e1_len S4
      clear S4
      simp [g8, g9, g11]
      refine (spec234 okr (rd.sub hs4) w (by omega) (by simpa using hcl) (by simpa using hal)).mono ?_
      intro u st5 S5
      have r5 := Sep.rd e1_len S5
      have r4 := r4.sub (S5.was' (by simp))
      have hwl := w.hgt_le hal
      simp
      refine (spec239 ok r4 r5 (by rw [wayM_len]; omega)).mono ?_
      rintro z st5 ⟨rfl, rfl⟩
      simp [fin]
set_option maxHeartbeats 4000000 in
theorem spec244 (ok : OkLaw11 P F) (st : St) (k0 : SK) (ps : List Int) (tip : Int) :
    ACalls P (F 244) [.sl k0 (rowsOf e1 ps) ps.length, .int .i64 tip] st fun v st' => v = .bool true := by
  have okl := ok.toOkLocate
  have okr := ok.toOkRef11
  have oki := okl.toOkIndexZ.toOkIndex
  refine shows_call ok.mixed ok.h244 (by simp [k244]) ?_
  simp only [k244]
  have fin : ∀ s : St, ∃ s', St.sub s' s := fun s => ⟨s, sub_self _⟩
  simp
  refine (spec238 ok st).mono ?_
  rintro v st1 ⟨rfl, rfl⟩
  by_cases c1 : (40 : Int) < ps.length
  · simp [c1, fin]
  simp [c1]
  refine (spec237 ok st1 (q := .sl k0 (rowsOf e1 ps) ps.length) (ps := ps) (.inl ⟨k0, rfl⟩) (by omega)).mono ?_
  rintro v st2 ⟨tid, s, l0, rfl, hL, hO, T⟩
  obtain ⟨w, hll⟩ := GrownR.wf hL (by omega)
  obtain ⟨l, hl⟩ : ∃ l, l = nds l0 := ⟨_, rfl⟩
  have hll : l.length ≤ 41 := by rw [hl]; simp; omega
  rw [← hl] at w T
  clear hl hL
  have hnl : l.length ≤ 16384 := by omega
  have TR := T.treeR w.neNil
  clear T
  simp [eqK]
  refine (spec225 okl TR w hnl tip).mono ?_
  intro v st3 S
  have TR := TR.sub (S.was' (by simp))
  have rn := Sep.rd eId_len S
  clear S
  have hz : fillV zR32_w80 [] = some (eId id0) := rfl
  by_cases hout : tip < 0 ∨ (l.length : Int) ≤ tip
  · have hnone : namesM l tip = [] := by rw [namesM, if_pos hout]
    have hoff : onB l 0 tip = false := by
      cases e : onB l 0 tip with
      | false => rfl
      | true => obtain ⟨x, y, _, rfl, _, _⟩ := onB_range e; omega
    have haf : afterM l tip 0 id0 5 = [] := by rw [afterM, hoff]; rfl
    have hwy : wayI l 0 tip = [] := by rw [wayI, hoff]; rfl
    have ln := rn.len
    rw [hnone] at ln
    simp at ln
    have rest : ∀ {K : V → St → Prop}, (∀ v g, TreeR tid easyR l g → lenSlV v = some (.int .i64 0) → K v g) → ACalls P (F 227) [.ptr (some (tid, 0)), .int .i64 tip, .int .i64 0, .agg (eId id0), .int .i64 5] st3 K := fun hK =>
      (spec227 okl TR w hnl tip 0 id0 5).mono fun v g S4 => by
        have l4 := (Sep.rd eHdr_len S4).len
        rw [haf] at l4
        exact hK v g (TR.sub (S4.was' (by simp))) (by simpa using l4)
    have rest2 : ∀ {K : V → St → Prop} {g : St}, TreeR tid easyR l g → (∀ v g, lenSlV v = some (.int .i64 0) → K v g) → ACalls P (F 229) [.ptr (some (tid, 0)), .int .i64 0, .int .i64 tip] g K := fun {K g} TR hK =>
      (spec229 okl TR w hnl 0 tip).mono fun v g S4 => by
        have l4 := (Sep.rd e1_len S4).len
        rw [hwy] at l4
        exact hK v g (by simpa using l4)
    by_cases h0 : tip < 0
    · simp [h0, ln, hz]
      refine rest fun v g T l4 => ?_
      simp [l4]
      refine rest2 T fun v g l5 => ?_
      simp [l5, fin]
    · have h1 : (l.length : Int) ≤ tip := by omega
      simp [h0]
      refine (spec159 oki TR).mono ?_
      rintro v2 st3 ⟨rfl, rfl⟩
      simp [h1, ln, hz]
      refine rest fun v g T l4 => ?_
      simp [l4]
      refine rest2 T fun v g l5 => ?_
      simp [l5, fin]
  · obtain ⟨t, rfl⟩ : ∃ t : Nat, tip = t := ⟨tip.toNat, by omega⟩
    have ht : t < l.length := by omega
    have h0 : ¬ ((t : Int) < 0) := by omega
    have h1 : ¬ ((l.length : Int) ≤ (t : Int)) := by omega
    have hgl := w.hgt_le ht
    obtain ⟨H, hH⟩ : ∃ H, H = heightsM (hgt l t) := ⟨_, rfl⟩
    have hnm : namesM l t = H.map fun h => (nd l (inI l (ancI l t h))).id := by rw [namesM, if_neg (by omega), hH]; rfl
    rw [hnm] at rn
    have hln := rn.len
    rw [List.length_map] at hln
    simp [h0]
    refine (spec159 oki TR).mono ?_
    rintro v2 st3 ⟨rfl, rfl⟩
    have h1' : ¬ l.length ≤ t := by omega
    simp [h1']
    refine (spec161 oki TR w t).mono ?_
    rintro v2 st3 ⟨rfl, rfl⟩
    have oh := osegHgt (nd l t)
    rw [nd_hgt_eq ht] at oh
    rw [inI_of ht]
    simp [fldV_agg, oh]
    refine (spec224 okl st3 (top := hgt l t) (by omega)).mono ?_
    intro u st4 S
    rw [← hH] at S
    have hs := S.was' (st0 := st3) (by simp)
    have TR := TR.sub hs
    have rn := rn.sub hs
    have rh := Sep.rd e1_len S
    have hhl := rh.len
    clear S
    have hbb : ((H.length : Int) != (H.length : Int)) = false := by simp
    have hH32 : H.length ≤ 32 := by
      rw [hH, heightsM]
      split
      · simp
      · have := hsGo_len 31 (hgt l t); simp; omega
    simp [hln, hhl]
    refine vc_loopJ (fun c env' st' => ∃ i : Nat, i ≤ H.length ∧ c = H.length - i ∧ env' 64 = .int .i64 (i : Nat) ∧ st' = st4) H.length
      ⟨0, by omega, by omega, by simp, rfl⟩ ?_
    rintro J hJ c env' st5 hsame ⟨i, hi, rfl, h64, rfl⟩
    have g1 := (hsame.get 1 rfl).trans (by simp : _ = V.int .i64 (t : Int))
    have g5 := (hsame.get 5 rfl).trans (by simp : _ = V.ptr (some (tid, 0)))
    have g7 := (hsame.get 7 rfl).trans (by simp : _ = v)
    have g62 := (hsame.get 62 rfl).trans (by simp : _ = u)
    have g63 := (hsame.get 63 rfl).trans (by simp : _ = V.int .i64 (H.length : Int))
    clear hsame
    by_cases hlt : i < H.length
    · have w1 : IntKind.i64.wrap ((i : Int) + 1) = (i : Int) + 1 := wrap64 (by omega) (by omega)
      obtain ⟨p, hp, hlp⟩ := rh.idx e1_len hlt .i64
      obtain ⟨q, hq, hlq⟩ := rn.idx eId_len (i := i) (by simpa using hlt) .i64
      obtain ⟨x, hx⟩ : ∃ x, x = H[i] := ⟨_, rfl⟩
      rw [← hx] at hlp
      have hlp : ldCells st5 1 p = some [.int .i64 x] := hlp
      obtain ⟨y, hy⟩ : ∃ y, y = nd l (inI l (ancI l t x)) := ⟨_, rfl⟩
      have hlq : ldCells st5 32 q = some (eId y.id) := by rw [hlq, hy, hx]; simp
      have hidl := eqL_id y.id y.id
      simp at hidl
      simp [g1, g5, g7, g62, g63, h64, hlt, hp, hlp, hq, hlq]
      refine ⟨_, spec158 oki TR w t x, ?_⟩
      simp
      refine ⟨_, spec161 oki TR w _, ?_⟩
      rw [← hy]
      simp [fldV_agg, osegId, eqK, eId_len, hidl, h64, w1]
      exact Round.mk (H.length - (i + 1)) _ (by omega) (sub_self _) (hJ _ _ _ ⟨i + 1, by omega, rfl, by simp, rfl⟩)
    · have : i = H.length := by omega
      subst this
      simp [g63, h64, fin]
end
end Go.Ab
set_option linter.unusedSimpArgs false
set_option linter.unusedVariables false
set_option maxRecDepth 10000
namespace Go.Ab
open Go Go.RowKit
theorem growL_uniq (ps : List Int) : ∀ n, Uniq (growL ps n)
  | 0 => fresh_gen.uniq
  | n + 1 => addM_uniq (growL_uniq ps n) _ _
theorem anc_on {l : List Nd} (w : Wf l) {a b m : Nat} (ha : a < l.length) (hb : b < l.length) (h : Meets l a b m) {k : Nat} (hk : k ≤ hgt l a) : On l (anc l a k) b ↔ k ≤ hgt l m := by
  have e := w.anc_hgt ha hk
  constructor
  · intro h2
    have := (h.top _ (On.of w ha hk) h2).1
    rw [e] at this
    exact this
  · intro h2
    have h3 : anc l a k = anc l m k := by
      have := w.anc_anc ha h2 h.on1.1
      rw [h.on1.2] at this
      exact this.symm
    rw [h3]
    exact On.trans w hb (On.of w h.lt h2) h.on2
def firstLe (M : Int) (hs : List Int) : Int := (hs.find? fun h => decide (h ≤ M)).getD 0
theorem fork_list {l : List Nd} (w : Wf l) (u : Uniq l) {a b m : Nat} (ha : a < l.length) (hb : b < l.length) (h : Meets l a b m) : ∀ hs : List Int, (∀ x ∈ hs, 0 ≤ x ∧ x ≤ hgt l a) →
    forkM l b (hs.map fun h => (nd l (inI l (ancI l a h))).id) = anc l a (firstLe (hgt l m) hs).toNat
  | [], _ => by
    show 0 = anc l a 0
    exact (by have := (On.zero w ha).2; rw [w.hgt_zero] at this; exact this.symm)
  | x :: hs, hx => by
    have ih := fork_list w u ha hb h hs fun y hy => hx y (by simp [hy])
    obtain ⟨h0, h1⟩ := hx x (by simp)
    obtain ⟨k, rfl⟩ : ∃ k : Nat, x = k := ⟨x.toNat, by omega⟩
    have hk : k ≤ hgt l a := by omega
    have hl := w.anc_lt (h := k) ha
    have e1 : ancI l a (k : Int) = (anc l a k : Nat) := ancI_nat ha hk
    have e2 : inI l (ancI l a (k : Int)) = anc l a k := by rw [e1, inI_of hl]
    have e3 : findM l (nd l (anc l a k)).id = some (anc l a k) := by rw [nd_at hl]; exact u _ hl
    have hon := anc_on w ha hb h hk
    rw [List.map_cons, e2, forkM, e3]
    show (if onB l (anc l a k : Nat) (b : Nat) = true then anc l a k else _) = _
    by_cases hc : k ≤ hgt l m
    · rw [if_pos ((onB_on hl hb).2 (hon.2 hc))]
      have : firstLe (hgt l m) ((k : Int) :: hs) = k := by
        have : decide ((k : Int) ≤ (hgt l m : Int)) = true := by simp; omega
        simp [firstLe, List.find?_cons, hc]
      rw [this, Int.toNat_natCast]
    · rw [if_neg (fun h => hc (hon.1 ((onB_on hl hb).1 h))), ih]
      have : firstLe (hgt l m) ((k : Int) :: hs) = firstLe (hgt l m) hs := by
        have : decide ((k : Int) ≤ (hgt l m : Int)) = false := by simp; omega
        simp [firstLe, List.find?_cons, hc]
      rw [this]
theorem heights_range (top : Nat) : ∀ x ∈ heightsM top, 0 ≤ x ∧ x ≤ (top : Int) := by
  intro x hx
  rw [heightsM, if_neg (by omega)] at hx
  rcases List.mem_append.1 hx with h | h
  · have := hsGo_sorted 31 top x h
    omega
  · simp at h; omega
theorem near_all : ∀ (H : Fin 42) (M : Fin 42), M.val ≤ H.val → 0 ≤ firstLe M.val (heightsM H.val) ∧ firstLe M.val (heightsM H.val) ≤ M.val ∧ ((M.val : Int) - firstLe M.val (heightsM H.val) ≤ (H.val : Int) - M.val ∨ (M.val : Int) - firstLe M.val (heightsM H.val) = 0) := by decide +kernel
section
variable {P : Program} {F : Fn}
set_option maxHeartbeats 4000000 in
theorem spec243 (ok : OkLaw11 P F) (st : St) (k0 : SK) (ps : List Int) (p0 p1 : Int) :
    ACalls P (F 243) [.sl k0 (rowsOf e1 ps) ps.length, .agg [.int .i64 p0, .int .i64 p1]] st fun v st' => v = .bool true := by
  have okl := ok.toOkLocate
  have oki := okl.toOkIndexZ.toOkIndex
  refine shows_call ok.mixed ok.h243 (by simp [k243]) ?_
  simp only [k243]
  have fin : ∀ s : St, ∃ s', St.sub s' s := fun s => ⟨s, sub_self _⟩
  simp
  intro i3 h3
  have S := (Sep.start st).new h3 (.cells [.int .i64 p0, .int .i64 p1])
  generalize st.upd i3 _ = st1 at S ⊢
  refine (spec238 ok st1).mono ?_
  rintro v st1 ⟨rfl, rfl⟩
  by_cases c1 : (40 : Int) < ps.length
  · simp [c1, fin]
  simp [c1]
  refine (spec237 ok st1 (q := .sl k0 (rowsOf e1 ps) ps.length) (ps := ps) (.inl ⟨k0, rfl⟩) (by omega)).mono ?_
  rintro v st2 ⟨tid, s, l0, rfl, hL, hO, T⟩
  obtain ⟨w, hll⟩ := GrownR.wf hL (by omega)
  have u : Uniq (nds l0) := by rw [hL]; exact growL_uniq _ _
  obtain ⟨l, hl⟩ : ∃ l, l = nds l0 := ⟨_, rfl⟩
  have hll : l.length ≤ 41 := by rw [hl]; simp; omega
  rw [← hl] at w T u
  clear hl hL
  have S := S.sub (T.was' (by simp))
  have o3 := S.get
  have hnl : l.length ≤ 16384 := by omega
  have TR := T.treeR w.neNil
  clear T S
  have x0 : idxArrV 2 1 (.ptr (some (i3, 0))) (.int .i64 0) = some (.ptr (some (i3, 0))) := rfl
  have x1 : idxArrV 2 1 (.ptr (some (i3, 0))) (.int .i64 1) = some (.ptr (some (i3, 1))) := rfl
  have e0 : segOf [V.int .i64 p0, V.int .i64 p1] 0 1 = some [.int .i64 p0] := rfl
  have e1' : segOf [V.int .i64 p0, V.int .i64 p1] 1 1 = some [.int .i64 p1] := rfl
  simp [eqK, x0, x1, St.seg, o3, e0]
  refine ⟨_, spec240 ok TR w hnl p0, ?_⟩
  simp [St.seg, o3, e1']
  refine ⟨_, spec240 ok TR w hnl p1, ?_⟩
  obtain ⟨a, ha⟩ : ∃ a, a = clI l p0 := ⟨_, rfl⟩
  obtain ⟨b, hb⟩ : ∃ a, a = clI l p1 := ⟨_, rfl⟩
  have hal : a < l.length := ha ▸ clI_lt w _
  have hbl : b < l.length := hb ▸ clI_lt w _
  rw [← ha, ← hb]
  have m := meet_spec w hal hbl
  obtain ⟨M, hM⟩ : ∃ M, M = meetM l a b := ⟨_, rfl⟩
  rw [← hM] at m
  have hga := w.hgt_le hal
  have hMa := m.on1.1
  obtain ⟨f0, f1, f2⟩ := near_all ⟨hgt l a, by omega⟩ ⟨hgt l M, by omega⟩ hMa
  simp only at f0 f1 f2
  have hfork := fork_list w u hal hbl m (heightsM (hgt l a)) (heights_range _)
  have hnm : namesM l a = (heightsM (hgt l a)).map fun h => (nd l (inI l (ancI l a h))).id := by rw [namesM, if_neg (by omega), Int.toNat_natCast]
  rw [← hnm] at hfork
  obtain ⟨h, hh⟩ : ∃ h : Nat, firstLe (hgt l M) (heightsM (hgt l a)) = h := ⟨(firstLe (hgt l M) (heightsM (hgt l a))).toNat, by omega⟩
  rw [hh] at f0 f1 f2 hfork
  rw [Int.toNat_natCast] at hfork
  obtain ⟨f, hf⟩ : ∃ f, f = anc l a h := ⟨_, rfl⟩
  rw [← hf] at hfork
  have hhM : h ≤ hgt l M := by omega
  have hfl : f < l.length := hf ▸ w.anc_lt hal
  have hfg : hgt l f = h := hf ▸ w.anc_hgt hal (by omega)
  have fa : On l f a := hf ▸ On.of w hal (by omega)
  have fb : On l f b := hf ▸ (anc_on w hal hbl m (by omega)).2 hhM
  have fm : On l f M := m.top f fa fb
  have o1 : onB l f a = true := (onB_on hfl hal).2 fa
  have o2 : onB l f b = true := (onB_on hfl hbl).2 fb
  have o3' : onB l M a = true := (onB_on m.lt hal).2 m.on1
  have o4 : onB l M b = true := (onB_on m.lt hbl).2 m.on2
  have o5 : onB l f M = true := (onB_on hfl m.lt).2 fm
  simp
  refine (spec225 okl TR w hnl a).mono ?_
  intro v st3 S
  have TR := TR.sub (S.was' (by simp))
  have rn := Sep.rd eId_len S
  clear S
  have hnl2 : (namesM l a).length ≤ 1000000 := by
    rw [hnm, List.length_map, heightsM]
    split
    · simp
    · have := hsGo_len 31 (hgt l a); simp; omega
  simp
  refine (spec226 okl TR w b rn hnl2).mono ?_
  rintro v st3 ⟨rfl, rfl⟩
  rw [hfork]
  simp
  refine (spec228 okl TR w hnl a b).mono ?_
  rintro v st3 ⟨rfl, rfl⟩
  rw [clI_of hal, clI_of hbl, ← hM]
  simp
  refine (spec163 oki TR w f a).mono ?_
  rintro v st3 ⟨rfl, rfl⟩
  rw [o1]
  simp
  refine (spec163 oki TR w f b).mono ?_
  rintro v st3 ⟨rfl, rfl⟩
  rw [o2]
  simp
  refine (spec163 oki TR w M a).mono ?_
  rintro v st3 ⟨rfl, rfl⟩
  rw [o3']
  simp
  refine (spec163 oki TR w M b).mono ?_
  rintro v st3 ⟨rfl, rfl⟩
  rw [o4]
  simp
  refine (spec163 oki TR w f M).mono ?_
  rintro v st3 ⟨rfl, rfl⟩
  rw [o5]
  have gA := osegHgt (nd l a)
  have gM := osegHgt (nd l M)
  have gF := osegHgt (nd l f)
  rw [nd_hgt_eq hal] at gA
  rw [nd_hgt_eq m.lt] at gM
  rw [nd_hgt_eq hfl, hfg] at gF
  have w1 : IntKind.i64.wrap ((hgt l a : Int) - (hgt l M : Int)) = (hgt l a : Int) - (hgt l M : Int) := wrap64 (by omega) (by omega)
  have w2 : IntKind.i64.wrap ((hgt l M : Int) - (h : Int)) = (hgt l M : Int) - (h : Int) := wrap64 (by omega) (by omega)
  simp
  refine (spec161 oki TR w a).mono ?_
  rintro v st3 ⟨rfl, rfl⟩
  rw [inI_of hal]
  simp [fldV_agg, gA]
  refine (spec161 oki TR w M).mono ?_
  rintro v st3 ⟨rfl, rfl⟩
  rw [inI_of m.lt]
  simp [fldV_agg, gM, w1]
  refine (spec161 oki TR w M).mono ?_
  rintro v st3 ⟨rfl, rfl⟩
  rw [inI_of m.lt]
  simp [fldV_agg, gM]
  refine (spec161 oki TR w f).mono ?_
  rintro v st3 ⟨rfl, rfl⟩
  rw [inI_of hfl]
  by_cases hc : (hgt l M : Int) - (h : Int) ≤ (hgt l a : Int) - (hgt l M : Int)
  · simp [fldV_agg, gF, w2, hc, fin]
  · have hz : (hgt l M : Int) - (h : Int) = 0 := f2.resolve_left hc
    have hzb : ((hgt l M : Int) - (h : Int) == 0) = true := by simp [hz]
    simp [fldV_agg, gF, w2, hc, hzb, fin]
end
end Go.Ab
set_option linter.unusedSimpArgs false
set_option linter.unusedVariables false
set_option maxRecDepth 10000
namespace Go.Ab
open Go Go.RowKit
theorem wayM_get (l : List Nd) (a b : Nat) {k : Nat} (h : k < (wayM l a b).length) : (wayM l a b)[k] = ((anc l b (hgt l a + 1 + k) : Nat) : Int) := by simp [wayM]
theorem anc_step_par {l : List Nd} (w : Wf l) {b k : Nat} (hb : b < l.length) (hk : k + 1 ≤ hgt l b) : par l (anc l b (k + 1)) = anc l b k ∧ 0 < anc l b (k + 1) := by
  have hl := w.anc_lt (h := k + 1) hb
  have hg := w.anc_hgt hb hk
  have hp := w.pos_of_hgt (i := anc l b (k + 1)) (by omega)
  have h1 := w.anc_par hl (h := k) (by omega)
  have h2 := w.anc_anc hb (h := k) (h' := k + 1) (by omega) hk
  have h3 := w.hgt_par hp hl
  rw [h2] at h1
  refine ⟨?_, hp⟩
  have e : hgt l (par l (anc l b (k + 1))) = k := by omega
  have h4 := anc_self (l := l) (par l (anc l b (k + 1)))
  rw [e] at h4
  rw [h1]
  exact h4.symm
theorem ways_apart {l : List Nd} (w : Wf l) {a b m : Nat} (ha : a < l.length) (hb : b < l.length) (h : Meets l a b m) {x : Int} (h1 : x ∈ wayM l m a) (h2 : x ∈ wayM l m b) : False := by
  obtain ⟨i, hi, rfl⟩ := List.mem_iff_getElem.1 h1
  obtain ⟨j, hj, e⟩ := List.mem_iff_getElem.1 h2
  rw [wayM_get, wayM_get] at e
  rw [wayM_len] at hi hj
  have o1 := On.of w ha (h := hgt l m + 1 + i) (by omega)
  have o2 := On.of w hb (h := hgt l m + 1 + j) (by omega)
  have e' : anc l b (hgt l m + 1 + j) = anc l a (hgt l m + 1 + i) := by omega
  rw [e'] at o2
  have := (h.top _ o1 o2).1
  rw [w.anc_hgt ha (by omega)] at this
  omega
theorem way_apart {l : List Nd} (w : Wf l) {a b : Nat} (hb : b < l.length) {i j : Nat} (hi : i < (wayM l a b).length) (hj : j < (wayM l a b).length) (e : (wayM l a b)[i] = (wayM l a b)[j]) : i = j := by
  rw [wayM_get, wayM_get] at e
  rw [wayM_len] at hi hj
  have g1 := w.anc_hgt hb (h := hgt l a + 1 + i) (by omega)
  have g2 := w.anc_hgt hb (h := hgt l a + 1 + j) (by omega)
  have : anc l b (hgt l a + 1 + i) = anc l b (hgt l a + 1 + j) := by omega
  rw [this] at g1
  omega
def Seen (M : List (Int × Bool)) (s : List Int) : Prop := ∀ x, x ∉ s → lk x M = none
section
variable {P : Program} {F : Fn}
theorem seen_look {st : St} {mid : Nat} {M : List (Int × Bool)} {s : List Int} (h : st mid = some (.mp (encM kInt V.bool M))) (hs : Seen M s) {x : Int} (hx : x ∉ s) : lookupV st .int (.bool false) false (.map (some mid)) (.int .i64 x) = some (.bool false) := by
  have := lookup_enc keyed_int (ev := V.bool) h (.bool false) false x
  have e : M.lookup x = none := hs x hx
  rw [e] at this
  exact this
set_option maxHeartbeats 8000000 in
theorem spec245 (ok : OkLaw11 P F) (st : St) (k0 : SK) (ps : List Int) (p0 p1 : Int) :
    ACalls P (F 245) [.sl k0 (rowsOf e1 ps) ps.length, .agg [.int .i64 p0, .int .i64 p1]] st fun v st' => v = .bool true := by
  have okl := ok.toOkLocate
  have oki := okl.toOkIndexZ.toOkIndex
  refine shows_call ok.mixed ok.h245 (by simp [k245]) ?_
  simp only [k245]
  have fin : ∀ s : St, ∃ s', St.sub s' s := fun s => ⟨s, sub_self _⟩
  simp
  intro i3 h3
  have S := (Sep.start st).new h3 (.cells [.int .i64 p0, .int .i64 p1])
  generalize st.upd i3 _ = st1 at S ⊢
  refine (spec238 ok st1).mono ?_
  rintro v st1 ⟨rfl, rfl⟩
  by_cases c1 : (30 : Int) < ps.length
  · simp [c1, fin]
  simp [c1]
  refine (spec237 ok st1 (q := .sl k0 (rowsOf e1 ps) ps.length) (ps := ps) (.inl ⟨k0, rfl⟩) (by omega)).mono ?_
  rintro v st2 ⟨tid, s, l0, rfl, hL, hO, T⟩
  obtain ⟨w, hll⟩ := GrownR.wf hL (by omega)
  obtain ⟨l, hl⟩ : ∃ l, l = nds l0 := ⟨_, rfl⟩
  have hll : l.length ≤ 41 := by rw [hl]; simp; omega
  rw [← hl] at w T
  clear hl hL
  have S := S.sub (T.was' (by simp))
  have o3 := S.get
  have hnl : l.length ≤ 16384 := by omega
  have TR := T.treeR w.neNil
  clear T S
  have x0 : idxArrV 2 1 (.ptr (some (i3, 0))) (.int .i64 0) = some (.ptr (some (i3, 0))) := rfl
  have x1 : idxArrV 2 1 (.ptr (some (i3, 0))) (.int .i64 1) = some (.ptr (some (i3, 1))) := rfl
  have e0 : segOf [V.int .i64 p0, V.int .i64 p1] 0 1 = some [.int .i64 p0] := rfl
  have e1' : segOf [V.int .i64 p0, V.int .i64 p1] 1 1 = some [.int .i64 p1] := rfl
  simp [eqK, x0, x1, St.seg, o3, e0]
  refine ⟨_, spec240 ok TR w hnl p0, ?_⟩
  simp [St.seg, o3, e1']
  refine ⟨_, spec240 ok TR w hnl p1, ?_⟩
  obtain ⟨a, ha⟩ : ∃ a, a = clI l p0 := ⟨_, rfl⟩
  obtain ⟨b, hb⟩ : ∃ a, a = clI l p1 := ⟨_, rfl⟩
  have hal : a < l.length := ha ▸ clI_lt w _
  have hbl : b < l.length := hb ▸ clI_lt w _
  rw [← ha, ← hb]
  have m := meet_spec w hal hbl
  have hcomm := meet_comm w hal hbl
  obtain ⟨M, hM⟩ : ∃ M, M = meetM l a b := ⟨_, rfl⟩
  rw [← hM] at m hcomm
  simp
  refine (spec228 okl TR w hnl a b).mono ?_
  rintro v st2 ⟨rfl, rfl⟩
  rw [clI_of hal, clI_of hbl, ← hM]
  simp
  intro mid hmid
  have S : Sep [pt mid (.mp (encM kInt V.bool [])), Was st2] (st2.upd mid (.mp [])) := (Sep.start st2).new hmid _
  generalize st2.upd mid _ = st3 at S ⊢
  have hbd : fillV [V.int .i64 0, V.int .i64 0] [(0, 1, .int .i64 (a : Int)), (1, 1, .int .i64 (b : Int))] = some [.int .i64 (a : Int), .int .i64 (b : Int)] := rfl
  simp [hbd]
  -- the two ways
  have step : ∀ (to : Nat), to < l.length → On l M to → ∀ k, k < (wayM l M to).length → (nd l (anc l to (hgt l M + 1 + k))).parent = (anc l to (hgt l M + k) : Nat) ∧ anc l to (hgt l M + 1 + k) < l.length := fun to hto hon k hk => by
    rw [wayM_len] at hk
    have h1 := anc_step_par w hto (k := hgt l M + k) (by omega)
    have e : hgt l M + 1 + k = hgt l M + k + 1 := by omega
    have hlt := w.anc_lt (h := hgt l M + 1 + k) hto
    refine ⟨?_, hlt⟩
    rw [e] at hlt ⊢
    rw [par_int w h1.2 hlt, h1.1]
  refine vc_loopJ (fun c env' st' => ∃ (j : Nat) (Mp : List (Int × Bool)), j ≤ 2 ∧ c = 2 - j ∧ env' 44 = .int .i64 (j : Nat) ∧ Seen Mp (if j = 0 then [] else if j = 1 then wayM l M a else wayM l M a ++ wayM l M b) ∧ Sep [pt mid (.mp (encM kInt V.bool Mp)), Was st2] st') 2
    ⟨0, [], by omega, by omega, by simp, fun x _ => rfl, S⟩ ?_
  clear S
  rintro J hJ c env' st4 hsame ⟨j, Mp, hj, rfl, h44, hSe, S⟩
  have g5 := (hsame.get 5 rfl).trans (by simp : _ = V.ptr (some (tid, 0)))
  have g7 := (hsame.get 7 rfl).trans (by simp : _ = V.int .i64 (a : Int))
  have g8 := (hsame.get 8 rfl).trans (by simp : _ = V.int .i64 (b : Int))
  have g9 := (hsame.get 9 rfl).trans (by simp : _ = V.int .i64 (M : Int))
  have g10 := (hsame.get 10 rfl).trans (by simp : _ = V.map (some mid))
  have g43 := (hsame.get 43 rfl).trans (by simp : _ = V.agg [.int .i64 (a : Int), .int .i64 (b : Int)])
  clear hsame
  have TR0 := TR
  have TR := TR0.sub (S.was' (by simp))
  by_cases hj2 : j < 2
  · have w1 : IntKind.i64.wrap ((j : Int) + 1) = (j : Int) + 1 := wrap64 (by omega) (by omega)
    have hj2' : (j : Int) < 2 := by omega
    obtain ⟨to, hto⟩ : ∃ to, to = if j = 0 then a else b := ⟨_, rfl⟩
    have htl : to < l.length := by rw [hto]; split <;> assumption
    have hon : On l M to := by rw [hto]; split; exact m.on1; exact m.on2
    have hix : idxV 2 false 1 (.agg [.int .i64 (a : Int), .int .i64 (b : Int)]) (.int .i64 (j : Int)) = some (.int .i64 (to : Int)) := by
      have : j = 0 ∨ j = 1 := by omega
      rcases this with rfl | rfl <;> rw [hto] <;> rfl
    have hway : wayI l M to = wayM l M to := by rw [wayI, if_pos ((onB_on m.lt htl).2 hon), Int.toNat_natCast, Int.toNat_natCast]
    obtain ⟨prev, hprev⟩ : ∃ p : List Int, p = if j = 0 then [] else if j = 1 then wayM l M a else wayM l M a ++ wayM l M b := ⟨_, rfl⟩
    rw [← hprev] at hSe
    have hap : ∀ x ∈ wayM l M to, x ∉ prev := fun x hx hp => by
      have : j = 0 ∨ j = 1 := by omega
      rcases this with rfl | rfl
      · rw [hprev] at hp; simp at hp
      · rw [hprev] at hp
        rw [hto] at hx
        simp at hp hx
        exact ways_apart w hal hbl m hp hx
    have hprev2 : prev ++ wayM l M to = if j + 1 = 0 then [] else if j + 1 = 1 then wayM l M a else wayM l M a ++ wayM l M b := by
      have : j = 0 ∨ j = 1 := by omega
      rcases this with rfl | rfl <;> rw [hprev, hto] <;> simp
    obtain ⟨W, hW⟩ : ∃ W, W = wayM l M to := ⟨_, rfl⟩
    have hWl : W.length = hgt l to - hgt l M := by rw [hW, wayM_len]
    have hWg : ∀ k (h : k < W.length), W[k] = ((anc l to (hgt l M + 1 + k) : Nat) : Int) := fun k h => by
      have := wayM_get l M to (k := k) (by rw [← hW]; exact h)
      rw [← this]
      simp only [hW]
    have hgl := w.hgt_le htl
    rw [← hW] at hway hap hprev2
    simp [g5, g9, g43, h44, hj2', hix]
    refine (spec229 okl TR w hnl M to).mono ?_
    intro v st5 S5
    rw [hway] at S5
    have S := S5.over S
    clear S5
    have hlen := (Sep.rd e1_len S).len
    have S : Sep [Sl 1 e1 v W, pt mid (.mp (encM kInt V.bool Mp)), Was st2] st5 := S
    simp [hlen]
    refine vc_loopJ (fun c env' st' => ∃ (k : Nat) (Mq : List (Int × Bool)), k ≤ W.length ∧ c = W.length - k ∧ env' 53 = .int .i64 (k : Nat) ∧ env' 13 = .int .i64 (anc l to (hgt l M + k) : Nat) ∧ Seen Mq (prev ++ W.take k) ∧ Sep [pt mid (.mp (encM kInt V.bool Mq)), Sl 1 e1 v W, Was st2] st') W.length
      ⟨0, Mp, by omega, by omega, by simp, by simp [hon.2, g9], by simpa using hSe, S.swap⟩ ?_
    clear S
    rintro J2 hJ2 c env2 st6 hsame ⟨k, Mq, hk, rfl, h53, h13, hSq, S⟩
    have q5 := (hsame.get 5 rfl).trans (by simp [g5] : _ = V.ptr (some (tid, 0)))
    have q10 := (hsame.get 10 rfl).trans (by simp [g10] : _ = V.map (some mid))
    have q12 := (hsame.get 12 rfl).trans (by simp : _ = V.int .i64 (to : Int))
    have q44 := (hsame.get 44 rfl).trans (by simp [h44] : _ = V.int .i64 (j : Int))
    have q51 := (hsame.get 51 rfl).trans (by simp : _ = v)
    have q52 := (hsame.get 52 rfl).trans (by simp : _ = V.int .i64 (W.length : Int))
    clear hsame
    have TR := TR0.sub (S.was' (by simp))
    by_cases hlt : k < W.length
    · have w2 : IntKind.i64.wrap ((k : Int) + 1) = (k : Int) + 1 := wrap64 (by omega) (by omega)
      have rW := Sep.rd e1_len S.drop
      obtain ⟨p, hp, hlp⟩ := rW.idx e1_len hlt .i64
      obtain ⟨s1, s2⟩ := step to htl hon k (by rw [← hW]; exact hlt)
      obtain ⟨X, hX⟩ : ∃ X, X = anc l to (hgt l M + 1 + k) := ⟨_, rfl⟩
      have hwk := hWg k hlt
      have e13 : anc l to (hgt l M + (k + 1)) = X := by rw [hX]; congr 1; omega
      rw [← hX] at s1 s2 hwk
      have hlp : ldCells st6 1 p = some [.int .i64 (X : Int)] := by rw [hlp, hwk]; rfl
      have oP := osegPar (nd l X)
      rw [s1] at oP
      have om := S.get
      have hnot : (X : Int) ∉ prev ++ W.take k := fun h => by
        rcases List.mem_append.1 h with h | h
        · exact hap X (by rw [← hwk]; exact List.getElem_mem hlt) h
        · obtain ⟨i, hi, e⟩ := List.mem_iff_getElem.1 h
          have hik : i < k := by simp at hi; omega
          rw [List.getElem_take] at e
          have hi1 : i < (wayM l M to).length := by rw [← hW]; omega
          have hk1 : k < (wayM l M to).length := by rw [← hW]; exact hlt
          have := way_apart w htl (a := M) hi1 hk1 (by
            simp only [← hW]
            rw [e, hwk])
          omega
      have hlk := seen_look om hSq hnot
      have hst : msetS st6 .int (.map (some mid)) (.int .i64 (X : Int)) (.bool true) = some (st6.upd mid (.mp (encM kInt V.bool (aSet (X : Int) true Mq)))) := mset_enc keyed_int om (X : Int) true
      have T := S.set (.mp (encM kInt V.bool (aSet (X : Int) true Mq)))
      have hSn : Seen (aSet (X : Int) true Mq) (prev ++ W.take (k + 1)) := fun x hx => by
        rw [lk_aSet]
        rw [List.take_succ_eq_append_getElem hlt, hwk, ← List.append_assoc] at hx
        have h1 : x ≠ (X : Int) := fun e => hx (by rw [e]; simp)
        have h2 : x ∉ prev ++ W.take k := fun h => hx (List.mem_append_left _ h)
        rw [if_neg h1]
        exact hSq x h2
      simp [q5, q51, q52, h53, hlt, hp, hlp]
      refine (spec161 oki TR w X).mono ?_
      rintro z st6 ⟨rfl, rfl⟩
      rw [inI_of s2]
      simp [fldV_agg, oP, h13, q10, hlk, hst, h53, w2]
      exact Round.mk (W.length - (k + 1)) _ (by omega) (sub_self _) (hJ2 _ _ _ ⟨k + 1, _, by omega, rfl, by simp, by simp [e13], hSn, T⟩)
    · have hkW : k = W.length := by omega
      have e : anc l to (hgt l M + k) = to := by
        rw [hkW, hWl, show hgt l M + (hgt l to - hgt l M) = hgt l to by have := hon.1; omega, anc_self]
      rw [e] at h13
      rw [hkW, List.take_length, hprev2] at hSq
      have hkk : ¬ (k : Int) < (W.length : Int) := by omega
      simp [q52, h53, hkk, hlt, h13, q12, q44, w1]
      exact Round.mk (2 - (j + 1)) _ (by omega) (sub_self _) (hJ _ _ _ ⟨j + 1, Mq, by omega, rfl, by simp, hSq, Sep.tail (fun _ h => h.drop) S⟩)
  · have : j = 2 := by omega
    subst this
    simp [g5, g7, h44]
    refine (spec228 okl TR w hnl a a).mono ?_
    rintro v st4 ⟨rfl, rfl⟩
    rw [clI_of hal, meet_self w hal]
    simp [g5, g7, g8, g9]
    refine (spec228 okl TR w hnl b a).mono ?_
    rintro v st4 ⟨rfl, rfl⟩
    rw [clI_of hal, clI_of hbl, hcomm]
    have hc0 : clI l 0 = 0 := clI_of (n := 0) w.ne
    simp [g5, g7, g9]
    refine (spec228 okl TR w hnl a 0).mono ?_
    rintro v st4 ⟨rfl, rfl⟩
    rw [clI_of hal, hc0, meet_zero w hal]
    simp [fin]
end
end Go.Ab
set_option linter.unusedSimpArgs false
set_option linter.unusedVariables false
namespace Go.Ab
open Go Go.RowKit
def Gh.all (w : World) : Gh := { ι := fun _ => none, pm := fun b o => if b < w.heap.size then w.cell? ⟨b, o, none⟩ else none, N := 0, fresh := fun _ _ => rfl }
theorem stRel_all (w : World) : StRel w.heap.size w (Gh.all w) (fun _ => none) w := by
  refine ⟨Below.refl _ _, Nat.le_refl _, fun id b x h => (by cases h), fun b o v h => ?_, fun id ob h => (by cases h), fun id id' b x x' h => absurd rfl h⟩
  simp only [Gh.all] at h
  split at h
  · exact h
  · cases h
theorem calls_of_acalls {P : Program} {f : FuncId} {args : List V} {w : World} {xs : List Value} (h : ACalls P f args (fun _ => none) fun v _ => v = .bool true) (ha : LRel (Gh.all w) args xs) :
    Calls P f xs.toArray w fun e w' => e = .returned (.bool true) ∧ Below w.heap.size w w' := by
  refine (h (fun _ => none) (fun _ => .inl rfl) w.heap.size w (Gh.all w) w xs (by rw [St.add_none]; exact stRel_all w) ha).mono ?_
  rintro e w' ⟨v, x, G', st', rfl, h1, h2, h3, h4, rfl⟩
  cases h2
  exact ⟨rfl, h4.below⟩
end Go.Ab
set_option linter.unusedSimpArgs false
set_option linter.unusedVariables false
namespace Go.Ab
open Go Go.RowKit Go.ChangeShapes Go.WideShapes Go.Deep
def ofCellV : Value → V
  | .bool b => .bool b
  | .int k n => .int k n
  | .string s => .str s
  | _ => .junk
theorem ofCellV_rel (G : Gh) (x : Value) : VRel G (ofCellV x) x := by
  cases x <;> first | exact .bool _ | exact .int _ _ | exact .str _ | exact .junk _
def plainCell : Value → Bool
  | .bool _ | .int .. | .string _ | .slice .. => true
  | _ => false
theorem plainCell_one {x : Value} (h : plainCell x = true) : x.oneCell' = true := by
  cases x <;> first | rfl | cases h
def plainTy (P : Program) : Nat → TypeId → Option Nat
  | 0, _ => none
  | d + 1, t =>
    match P.underlying t with
    | some (.int _) | some .bool | some .string | some (.slice _) => some 1
    | some (.struct fs) => (flatFs P (plainTy P d) fs.toList 0).bind fun n => if P.cellsOf t = n then some n else none
    | some (.array len e) => (plainTy P d e).bind fun m => if P.cellsOf e = m ∧ P.cellsOf t = len * m then some (len * m) else none
    | _ => none
inductive Shape (P : Program) : TypeId → List V → Prop
  | int {t : TypeId} {k : IntKind} (hu : P.underlying t = some (.int k)) (n : Int) (hw : (Lit.int k n).wf = true) : Shape P t [.int k n]
  | bool {t : TypeId} (hu : P.underlying t = some .bool) (b : Bool) : Shape P t [.bool b]
  | str {t : TypeId} (hu : P.underlying t = some .string) (s : ByteArray) : Shape P t [.str s]
  | hole {t e : TypeId} (hu : P.underlying t = some (.slice e)) : Shape P t [.junk]
  | struct {t : TypeId} {fs : Array Field} (hu : P.underlying t = some (.struct fs)) (vs : List V) (h : ∀ (i : Nat) (f : Field), fs[i]? = some f → Shape P f.type ((vs.drop f.offset).take (P.cellsOf f.type))) : Shape P t vs
  | array {t : TypeId} {n : Nat} {e : TypeId} (hu : P.underlying t = some (.array n e)) (vs : List V) (h : ∀ i, i < n → Shape P e ((vs.drop (i * P.cellsOf e)).take (P.cellsOf e))) : Shape P t vs
section
variable {P : Program} {t : TypeId} {vs : List V}
theorem shape_elem {n : Nat} {e : TypeId} (hu : P.underlying t = some (.array n e)) (h : Shape P t vs) (i : Nat) (hi : i < n) : Shape P e ((vs.drop (i * P.cellsOf e)).take (P.cellsOf e)) := by
  cases h with
  | array hu' _ h => rw [hu] at hu'; cases hu'; exact h i hi
  | int hu' | bool hu' | str hu' | hole hu' | struct hu' => rw [hu] at hu'; cases hu'
theorem take_one {o c : Nat} {x : V} (h : (vs.drop o).take c = [x]) : vs[o]? = some x := by
  have := congrArg (fun m => m[0]?) h
  simp only [List.getElem?_take, List.getElem?_drop, List.getElem?_cons_zero, Nat.add_zero] at this
  split at this
  · exact this
  · cases this
theorem shape_int {k : IntKind} {o c : Nat} (hu : P.underlying t = some (.int k)) (h : Shape P t ((vs.drop o).take c)) : ∃ n, vs[o]? = some (.int k n) ∧ (Lit.int k n).wf = true := by
  generalize hx : (vs.drop o).take c = x at h
  cases h with
  | int hu' n hw => rw [hu] at hu'; cases hu'; exact ⟨n, take_one hx, hw⟩
  | bool hu' | str hu' | hole hu' | struct hu' | array hu' => rw [hu] at hu'; cases hu'
end
section
variable {H : Type} {enc : TypeId × Value → H} {P : Program} {w : World} {base : Nat} {spare : Nat → Bool} {held : Bool}
theorem flatFs_cover {g : TypeId → Option Nat} {Q : Nat → Prop} : ∀ (fs : List Field) (n0 n : Nat), flatFs P g fs n0 = some n → (∀ f ∈ fs, ∀ m, g f.type = some m → P.cellsOf f.type = m → ∀ j, j < m → Q (f.offset + j)) → ∀ j, n0 ≤ j → j < n → Q j
  | [], n0, n, h, _, j, h1, h2 => by
    simp only [flatFs, Option.some.injEq] at h
    omega
  | f :: fs, n0, n, h, hq, j, h1, h2 => by
    simp only [flatFs] at h
    split at h <;> try (cases h; done)
    rename_i hc
    obtain ⟨m, hm, h⟩ := Option.bind_eq_some_iff.1 h
    split at h <;> try (cases h; done)
    rename_i hsz
    have hcm : P.cellsOf f.type = m := by
      unfold szOf at hsz
      simp only [Program.cellsOf, hsz, Option.getD_some]
    have hoff : f.offset = n0 := by
      simp at hc
      exact hc.2
    by_cases hj : j < n0 + m
    · have := hq f (by simp) m hm hcm (j - n0) (by omega)
      rwa [hoff, show n0 + (j - n0) = j by omega] at this
    · exact flatFs_cover fs (n0 + m) n h (fun f hf => hq f (by simp [hf])) j (by omega) h2
theorem trod_plain : ∀ (d : Nat) (t : TypeId) (m : Nat), plainTy P d t = some m → ∀ {fuel : Nat} {cs : List Value} {x : DataW H × List MemPlace}, DataW.trod enc P w base spare held fuel t cs = some x →
    cs.length = m ∧ (∀ j, j < m → plainCell (cs.getD j undef) = true) ∧ Shape P t (cs.map ofCellV)
  | 0, t, m, hp, fuel, cs, x, h => by cases hp
  | d + 1, t, m, hp, fuel, cs, x, h => by
    simp only [plainTy] at hp
    split at hp
    · rename_i k hu
      cases hp
      obtain ⟨n, rfl, _, hwf⟩ := DataW.trod_int hu h
      refine ⟨rfl, fun j hj => ?_, .int hu n hwf⟩
      have : j = 0 := by omega
      subst this
      rfl
    · rename_i hu
      cases hp
      obtain ⟨b, rfl, _⟩ := DataW.trod_bool hu h
      refine ⟨rfl, fun j hj => ?_, .bool hu b⟩
      have : j = 0 := by omega
      subst this
      rfl
    · rename_i hu
      cases hp
      obtain ⟨s, rfl, _⟩ := DataW.trod_string hu h
      refine ⟨rfl, fun j hj => ?_, .str hu s⟩
      have : j = 0 := by omega
      subst this
      rfl
    · rename_i e hu
      cases hp
      obtain ⟨ao, len, cap, rfl⟩ : ∃ ao len cap, cs = [.slice ao len cap] := by
        rcases open_slice hu h with ⟨h0, _⟩ | ⟨a, len', cap', m, n, D, Pl, hcs, _⟩
        · exact ⟨_, _, _, h0⟩
        · exact ⟨_, _, _, hcs⟩
      refine ⟨rfl, fun j hj => ?_, .hole hu⟩
      have : j = 0 := by omega
      subst this
      rfl
    · rename_i fs hu
      obtain ⟨n, hf, hp⟩ := Option.bind_eq_some_iff.1 hp
      split at hp <;> cases hp
      rename_i hcm
      obtain ⟨xs, n', _, _, hlen, hxl, hg⟩ := DataW.trod_struct hu h
      have sub : ∀ (i : Nat) (f : Field), fs[i]? = some f → ∃ y, DataW.trod enc P w base spare held n' f.type ((cs.drop f.offset).take (P.cellsOf f.type)) = some y := fun i f hi => by
        have hlt : i < fs.size := (Array.getElem?_eq_some_iff.1 hi).1
        exact ⟨_, (hg i f hi).trans (List.getElem?_eq_getElem (by omega))⟩
      have inf : ∀ (i : Nat) (f : Field), fs[i]? = some f → ∃ m, plainTy P d f.type = some m := by
        have key : ∀ (l : List Field) (n0 n : Nat), flatFs P (plainTy P d) l n0 = some n → ∀ f ∈ l, ∃ m, plainTy P d f.type = some m := by
          intro l
          induction l with
          | nil => intro n0 n h f hf; cases hf
          | cons g l ih =>
            intro n0 n h f hf
            simp only [flatFs] at h
            split at h <;> try (cases h; done)
            obtain ⟨m, hm, h⟩ := Option.bind_eq_some_iff.1 h
            split at h <;> try (cases h; done)
            rcases List.mem_cons.1 hf with rfl | hf
            · exact ⟨m, hm⟩
            · exact ih _ _ h f hf
        intro i f hi
        exact key _ _ _ hf f (Array.mem_toList_iff.2 (Array.mem_of_getElem? hi))
      refine ⟨hlen.trans hcm, fun j hj => ?_, .struct hu _ fun i f hi => ?_⟩
      · refine flatFs_cover (P := P) (Q := fun j => plainCell (cs.getD j undef) = true) _ _ _ hf (fun f hf' m' hm' hcm' j hj => ?_) j (Nat.zero_le _) hj
        obtain ⟨i, hi⟩ := List.getElem?_of_mem hf'
        obtain ⟨y, hy⟩ := sub i f (by simpa using hi)
        obtain ⟨h1, h2, _⟩ := trod_plain d f.type m' hm' hy
        have := h2 j hj
        rw [List.length_take, List.length_drop, hcm'] at h1
        simp only [List.getD_eq_getElem?_getD, List.getElem?_take, List.getElem?_drop, hcm', if_pos hj] at this ⊢
        exact this
      · obtain ⟨m', hm'⟩ := inf i f hi
        obtain ⟨y, hy⟩ := sub i f hi
        have := (trod_plain d f.type m' hm' hy).2.2
        rwa [List.map_take, List.map_drop] at this
    · rename_i len e hu
      obtain ⟨m', hm', hp⟩ := Option.bind_eq_some_iff.1 hp
      split at hp <;> cases hp
      rename_i hc
      obtain ⟨hc1, hc2⟩ := hc
      obtain ⟨xs, n', _, _, hlen, hxl, hg⟩ := DataW.trod_array hu h
      have sub : ∀ i, i < len → ∃ y, DataW.trod enc P w base spare held n' e ((cs.drop (i * P.cellsOf e)).take (P.cellsOf e)) = some y := fun i hi => ⟨_, (hg i hi).trans (List.getElem?_eq_getElem (by omega))⟩
      refine ⟨hlen.trans hc2, fun j hj => ?_, .array hu _ fun i hi => ?_⟩
      · have hm0 : 0 < m' := by
          rcases Nat.eq_zero_or_pos m' with h0 | h0
          · subst h0; simp at hj
          · exact h0
        have hi : j / m' < len := (Nat.div_lt_iff_lt_mul hm0).2 hj
        obtain ⟨y, hy⟩ := sub _ hi
        have := (trod_plain d e m' hm' hy).2.1 (j % m') (Nat.mod_lt _ hm0)
        simp only [List.getD_eq_getElem?_getD, List.getElem?_take, List.getElem?_drop, hc1, if_pos (Nat.mod_lt _ hm0)] at this ⊢
        rwa [show j / m' * m' + j % m' = j by rw [Nat.mul_comm]; exact Nat.div_add_mod j m'] at this
      · obtain ⟨y, hy⟩ := sub i hi
        have := (trod_plain d e m' hm' hy).2.2
        rwa [List.map_take, List.map_drop] at this
    · cases hp
theorem choose_list {α : Type} {Q : Nat → α → Prop} : ∀ n : Nat, (∀ i, i < n → ∃ r, Q i r) → ∃ l : List α, l.length = n ∧ ∀ i (hi : i < l.length), Q i l[i]
  | 0, _ => ⟨[], rfl, fun i hi => by simp at hi⟩
  | n + 1, h => by
    obtain ⟨l, h1, h2⟩ := choose_list n fun i hi => h i (by omega)
    obtain ⟨r, hr⟩ := h n (by omega)
    refine ⟨l ++ [r], by simp [h1], fun i hi => ?_⟩
    by_cases e : i < l.length
    · rw [List.getElem_append_left e]
      exact h2 i e
    · have : i = n := by simp at hi; omega
      subst this
      rw [List.getElem_append_right (by omega)]
      simpa [h1] using hr
theorem rowsOf_at {α : Type} {f : α → List V} {sz : Nat} (hf : ∀ a, (f a).length = sz) : ∀ (l : List α) (i j : Nat) (hi : i < l.length), j < sz → (rowsOf f l).getD (i * sz + j) .junk = (f l[i]).getD j .junk
  | [], i, j, hi, hj => by simp at hi
  | a :: l, 0, j, hi, hj => by
    simp only [rowsOf, List.flatMap_cons, Nat.zero_mul, Nat.zero_add, List.getElem_cons_zero, List.getD_eq_getElem?_getD]
    rw [List.getElem?_append_left (by rw [hf]; exact hj)]
  | a :: l, i + 1, j, hi, hj => by
    have ih := rowsOf_at hf l i j (by simpa using hi) hj
    have e : (i + 1) * sz + j = (f a).length + (i * sz + j) := by rw [hf, Nat.succ_mul]; omega
    simp only [rowsOf, List.flatMap_cons, List.getElem_cons_succ, List.getD_eq_getElem?_getD] at ih ⊢
    rw [e, List.getElem?_append_right (by omega), Nat.add_sub_cancel_left]
    exact ih
theorem open_rows {α : Type} (f : α → List V) {sz d : Nat} (hsz : 0 < sz) (hf : ∀ a, (f a).length = sz) {t e : TypeId} (ht : P.underlying t = some (.slice e)) (hp : plainTy P d e = some sz) (hc : P.cellsOf e = sz) (hdec : ∀ vs, vs.length = sz → Shape P e vs → ∃ a, vs = f a)
    {fuel : Nat} {ao : Option Addr} {len cap : Nat} {x : DataW H × List MemPlace} (h : DataW.trod enc P w base spare held fuel t [.slice ao len cap] = some x) (hspot : ∀ a, ao = some a → a.spot = none) :
    ∃ l : List α, l.length = len ∧ VRel (Gh.all w) (.sl .any (rowsOf f l) l.length) (.slice ao len cap) := by
  rcases open_slice ht h with ⟨h0, _⟩ | ⟨a, len', cap', m, n, D, Pl, hcs, hb, hl, hm, hmm, hx, hi⟩
  · simp only [List.cons.injEq, Value.slice.injEq, and_true] at h0
    obtain ⟨rfl, rfl, rfl⟩ := h0
    exact ⟨[], rfl, .slnil _ (.inr rfl)⟩
  · simp only [List.cons.injEq, Value.slice.injEq, and_true] at hcs
    obtain ⟨rfl, rfl, rfl⟩ := hcs
    have hs := hspot a rfl
    obtain ⟨b, o, sp⟩ := a
    simp only at hs
    subst hs
    have hlm : len ≤ m := by rw [hmm]; split <;> omega
    have row : ∀ i, i < len → ∃ r : α, ∀ j, j < sz → ∃ y, w.cell? ⟨b, o + (i * sz + j), none⟩ = some y ∧ VRel (Gh.all w) ((f r).getD j .junk) y ∧ y.oneCell' = true := fun i hil => by
      obtain ⟨cs', h1, h2⟩ := hi i (by omega)
      obtain ⟨k1, k2, k3⟩ := trod_plain d e sz hp h2
      obtain ⟨r, hr⟩ := hdec _ (by simpa using k1) k3
      obtain ⟨_, hcl, hat⟩ := World.cells?_some h1
      refine ⟨r, fun j hj => ⟨cs'.getD j undef, ?_, ?_, plainCell_one (k2 j hj)⟩⟩
      · have := hat j (by omega)
        rw [hc, add_lit, add_lit] at this
        rw [show o + (i * sz + j) = o + i * sz + j by omega]
        have hlt : j < cs'.length := by omega
        rw [List.getD_eq_getElem?_getD, List.getElem?_eq_getElem hlt]
        rw [List.getElem?_eq_getElem hlt] at this
        simpa using this
      · rw [← hr]
        have hlt : j < cs'.length := by omega
        simp only [List.getD_eq_getElem?_getD, List.getElem?_map, List.getElem?_eq_getElem hlt, Option.map_some, Option.getD_some]
        exact ofCellV_rel _ _
    obtain ⟨l, hll, hrow⟩ := choose_list len row
    have cell : ∀ i, i < (rowsOf f l).length → ∃ y, (w.cell? ⟨b, o + i, none⟩).getD undef = y ∧ w.cell? ⟨b, o + i, none⟩ = some y ∧ VRel (Gh.all w) ((rowsOf f l).getD i .junk) y ∧ y.oneCell' = true := fun i hil => by
      rw [rowsOf_length hf] at hil
      have hq : i / sz < l.length := (Nat.div_lt_iff_lt_mul hsz).2 hil
      obtain ⟨y, h1, h2, h3⟩ := hrow (i / sz) hq (i % sz) (Nat.mod_lt _ hsz)
      have e : i / sz * sz + i % sz = i := by rw [Nat.mul_comm]; exact Nat.div_add_mod i sz
      have hg := rowsOf_at hf l (i / sz) (i % sz) hq (Nat.mod_lt _ hsz)
      rw [e] at hg h1
      exact ⟨y, by rw [h1]; rfl, h1, by rw [hg]; exact h2, h3⟩
    refine ⟨l, hll, ?_⟩
    rw [hll]
    refine .sl .any _ len b o cap (by simp) hl (fun e => by cases e) (fun i => (w.cell? ⟨b, o + i, none⟩).getD undef) (fun i hil => ?_) (fun i hil => ?_) (fun i hil => ?_) <;> obtain ⟨y, q1, q2, q3, q4⟩ := cell i hil
    · rw [q1]
      simp only [Gh.all]
      rw [if_pos (block_of_cell q2), q2]
    · rw [q1]; exact q3
    · rw [q1]; exact q4
theorem open_agg {sz d : Nat} {t : TypeId} (hp : plainTy P d t = some sz) {v : Value} (hok : ∃ cs, v = .agg cs) {dw : DataW H} {p : List MemPlace} (h : DataW.Trod enc P w base spare held t v dw p) :
    ∃ vs, vs.length = sz ∧ Shape P t vs ∧ VRel (Gh.all w) (.agg vs) v := by
  obtain ⟨cs, rfl⟩ := hok
  obtain ⟨fuel, hf⟩ := h
  rw [show (Value.agg cs).cells = cs from rfl] at hf
  obtain ⟨k1, k2, k3⟩ := trod_plain d t sz hp hf
  refine ⟨cs.toList.map ofCellV, by simpa using k1, k3, .agg _ _ (by simp) (fun i hi => ?_) (fun i hi => ?_)⟩
  · have hi' : i < cs.size := by simpa using hi
    simp only [List.getD_eq_getElem?_getD, List.getElem?_map, Array.getElem?_toList, Array.getD_eq_getD_getElem?, Array.getElem?_eq_getElem hi', Option.map_some, Option.getD_some]
    exact ofCellV_rel _ _
  · have hi' : i < cs.size := by simpa using hi
    have := plainCell_one (k2 i (by rw [← k1]; simpa using hi'))
    rw [List.getD_eq_getElem?_getD] at this
    rw [Array.getD_eq_getD_getElem?]
    rwa [Array.getElem?_toList] at this
theorem agg_of_array {t e : TypeId} {n : Nat} {r : Reach} {b0 : Nat} {v : Value} (hu : P.underlying t = some (.array n e)) (h : Value.okWide P w r b0 t v) : ∃ cs, v = .agg cs := by
  simp only [Value.okWide, hu] at h
  obtain ⟨cs, h1, _⟩ := h
  exact ⟨cs, h1⟩
theorem slice_spot {t e : TypeId} {r : Reach} {b0 : Nat} (ht : P.underlying t = some (.slice e)) {a : Option Addr} {len cap : Nat} (h : Value.okWide P w r b0 t (.slice a len cap)) : ∀ x, a = some x → x.spot = none := by
  rintro x rfl
  simp only [Value.okWide, ht, Cell.okWide, Cell.ok] at h
  exact h.2.2.2.1
theorem shape_one {t : TypeId} (hu : P.underlying t = some (.int .i64)) (vs : List V) (hl : vs.length = 1) (h : Shape P t vs) : ∃ n, vs = e1 n := by
  cases h with
  | int hu' n hw => rw [hu] at hu'; cases hu'; exact ⟨n, rfl⟩
  | bool hu' | str hu' | hole hu' | struct hu' | array hu' => rw [hu] at hu'; cases hu'
theorem shape_pair {t e : TypeId} (hu : P.underlying t = some (.array 2 e)) (he : P.underlying e = some (.int .i64)) (hc : P.cellsOf e = 1) (vs : List V) (hl : vs.length = 2) (h : Shape P t vs) : ∃ a b, vs = [.int .i64 a, .int .i64 b] := by
  obtain ⟨a, e0, _⟩ := shape_int he (shape_elem hu h 0 (by omega))
  obtain ⟨b, e1, _⟩ := shape_int he (shape_elem hu h 1 (by omega))
  rw [hc] at e1
  match vs, hl with
  | [x, y], _ =>
    simp at e0 e1
    exact ⟨a, b, by simp [e0, e1]⟩
theorem shape_tri {t e : TypeId} (hu : P.underlying t = some (.array 3 e)) (he : P.underlying e = some (.int .i64)) (hc : P.cellsOf e = 1) (vs : List V) (hl : vs.length = 3) (h : Shape P t vs) : ∃ a b c, vs = [.int .i64 a, .int .i64 b, .int .i64 c] := by
  obtain ⟨a, e0, _⟩ := shape_int he (shape_elem hu h 0 (by omega))
  obtain ⟨b, e1, _⟩ := shape_int he (shape_elem hu h 1 (by omega))
  obtain ⟨c, e2, _⟩ := shape_int he (shape_elem hu h 2 (by omega))
  rw [hc] at e1 e2
  match vs, hl with
  | [x, y, z], _ =>
    simp at e0 e1 e2
    exact ⟨a, b, c, by simp [e0, e1, e2]⟩
end
end Go.Ab
