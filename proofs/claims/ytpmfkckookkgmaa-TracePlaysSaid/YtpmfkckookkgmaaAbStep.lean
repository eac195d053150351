/-
  Each operation that changes nothing gives what the small language says.
-/
import Derived.Test.YtpmfkckookkgmaaAbMaps
set_option linter.unusedSimpArgs false
set_option linter.unusedVariables false
namespace Go.Ab
open Go Go.RowKit

section
variable {P : Program} {B : Nat} {w0 : World} {G : Gh} {st : St} {w : World} {n : Nat} {env : Env} {a : Act} {an : An}

/-- What an operation that changes nothing comes to. -/
def Gives (P : Program) (B : Nat) (w0 : World) (G : Gh) (st : St) (v : V) (r : Result Next) : Prop :=
  ∃ x w' G', r = .ok (.value x) w' ∧ G.le G' ∧ VRel G' v x ∧ StRel B w0 G' st w'

theorem Gives.ret (hs : StRel B w0 G st w) {v : V} {s : Sem Value} {x : Value} (h : s.run P w = .ok x w) (hv : VRel G v x) : Gives P B w0 G st v ((do pure (Next.value (← s)) : Sem Next).run P w) :=
  ⟨x, w, G, run_value h, G.le_refl, hv, hs⟩

theorem Gives.now (hs : StRel B w0 G st w) {v : V} {x : Value} (hv : VRel G v x) : Gives P B w0 G st v ((Pure.pure (Next.value x) : Sem Next).run P w) :=
  ⟨x, w, G, rfl, G.le_refl, hv, hs⟩

theorem notV_rel {u v : V} {x : Value} (hu : VRel G u x) (h : notV u = some v) : ∃ y, (Op.unary .not x).run P w = .ok y w ∧ VRel G v y := by
  cases hu <;> simp only [notV] at h <;> cases h
  exact ⟨_, rfl, .bool _⟩
theorem negV_rel {u v : V} {x : Value} (hu : VRel G u x) (h : negV u = some v) : ∃ y, (Op.unary .neg x).run P w = .ok y w ∧ VRel G v y := by
  cases hu <;> simp only [negV] at h <;> cases h
  exact ⟨_, rfl, .int _ _⟩
theorem invV_rel {u v : V} {x : Value} (hu : VRel G u x) (h : invV u = some v) : ∃ y, (Op.unary .xor x).run P w = .ok y w ∧ VRel G v y := by
  cases hu <;> simp only [invV] at h <;> cases h
  exact ⟨_, rfl, .int _ _⟩

theorem convV_rel {u v : V} {x : Value} (hu : VRel G u x) {k : IntKind} (h : convV k u = some v) {s d : TypeId} {sd : TypeDesc} (hs : P.underlying s = some sd) (hd : P.underlying d = some (.int k)) : ∃ y, (convert s d x).run P w = .ok y w ∧ VRel G v y := by
  cases hu <;> simp only [convV] at h <;> cases h
  refine ⟨_, ?_, .int _ _⟩
  simp [convert, run_underlying hs, run_underlying hd, Conv.intToInt]

theorem nilck_rel {u v : V} {x : Value} (hu : VRel G u x) (h : nilckV u = some v) : VRel G v x ∧ (∀ (o : Oper) (y : Operand), o.op = .nilCheck y → a.eval y = x → (execOp a.eval o).run P w = .ok (.value x) w) := by
  have h' := hu
  cases hu <;> simp only [nilckV] at h <;> cases h <;> refine ⟨h', fun o y ho hy => ?_⟩ <;> simp [execOp, ho, hy]

theorem idxSl_rel {u i v : V} {x y : Value} (hu : VRel G u x) (hi : VRel G i y) {sz : Nat} (h : idxSlV sz u i = some v) {t e : TypeId} (ht : P.underlying t = some (.slice e)) (hsz : szOf P e = some sz) :
    ∃ r, (Instr.indexAt t x y).run P w = .ok r w ∧ VRel G v r := by
  cases hi <;> try (cases u <;> simp only [idxSlV] at h <;> cases h; done)
  rename_i kd ix
  cases hu <;> simp only [idxSlV] at h <;> try (cases h; done)
  · split at h <;> cases h
    rename_i hb
    omega
  · split at h <;> cases h
    rename_i hb
    omega
  · rename_i k cs nn b o cap hk hn hf f hp hw h1
    split at h <;> cases h
    rename_i hb
    refine ⟨.pointer (some ⟨b, o + ix.toNat * sz, none⟩), ?_, .eptr (cs.drop (ix.toNat * sz)) b _ (fun i => f (ix.toNat * sz + i)) (fun i hi => ?_) (fun i hi => ?_) (fun i hi => ?_)⟩
    · simp [Instr.indexAt, asIntOf, run_underlying ht, hb, run_sizeOf hsz, add_lit]
    all_goals rw [List.length_drop] at hi
    · rw [Nat.add_assoc]; exact hp _ (by omega)
    · rw [getD_drop]; exact hw _ (by omega)
    · exact h1 _ (by omega)
  · rename_i id off sz' nn b l m cap o hι hn hm hl ho
    split at h <;> cases h
    rename_i hb
    obtain ⟨rfl, hb0, hb1⟩ := hb
    have : o = off := ho (by omega)
    subst this
    refine ⟨.pointer (some ⟨b, o + ix.toNat * sz', none⟩), ?_, .ptr _ _ _ _ _ hι⟩
    simp [Instr.indexAt, asIntOf, run_underlying ht, hb0, hb1, run_sizeOf hsz, add_lit]

theorem idxArr_rel {u i v : V} {x y : Value} (hu : VRel G u x) (hi : VRel G i y) {m sz : Nat} (h : idxArrV m sz u i = some v) {t e : TypeId} (ht : P.underlying t = some (.array m e)) (hsz : szOf P e = some sz) :
    ∃ r, (Instr.indexAt t x y).run P w = .ok r w ∧ VRel G v r := by
  cases hi <;> simp only [idxArrV] at h <;> try (cases h; done)
  rename_i kd ix
  split at h <;> try (cases h; done)
  rename_i hb
  obtain ⟨b, o, rfl, hr⟩ := fldA_rel hu h
  refine ⟨_, ?_, hr⟩
  simp [Instr.indexAt, asIntOf, run_underlying ht, hb, run_sizeOf hsz, add_lit, Instr.sureAddr]

theorem idx_rel {u i v : V} {x y : Value} (hu : VRel G u x) (hi : VRel G i y) {m sz : Nat} {ag : Bool} (h : idxV m ag sz u i = some v) {t e : TypeId} (ht : P.underlying t = some (.array m e)) (hsz : szOf P e = some sz) (hag : isAg P e = some ag) (h1 : ag = true ∨ sz = 1) :
    ∃ r, (Instr.index t x y).run P w = .ok r w ∧ VRel G v r := by
  cases hi <;> try (cases u <;> simp only [idxV] at h <;> cases h; done)
  rename_i kd ix
  cases u <;> simp only [idxV] at h <;> try (cases h; done)
  split at h <;> try (cases h; done)
  rename_i hb
  have hp : packOf P e = some (ag, sz) := by
    unfold packOf
    rw [hag, hsz]
    rcases h1 with rfl | rfl
    · rfl
    · cases ag <;> rfl
  obtain ⟨C, r, rfl, h2, h3⟩ := fld_sound (w := w) hu hp h
  refine ⟨r, ?_, h3⟩
  simp [Instr.index, asIntOf, run_underlying ht, hb, run_sizeOf hsz, h2]

theorem idxStr_rel {u i v : V} {x y : Value} (hu : VRel G u x) (hi : VRel G i y) (h : idxStrV u i = some v) {t : TypeId} (ht : P.underlying t = some .string) :
    ∃ r, (Instr.index t x y).run P w = .ok r w ∧ VRel G v r := by
  cases hi <;> try (cases u <;> simp only [idxStrV] at h <;> cases h; done)
  rename_i kd ix
  cases hu <;> simp only [idxStrV] at h <;> try (cases h; done)
  rename_i s
  split at h <;> try (cases h; done)
  rename_i hb
  obtain ⟨c, h1, rfl⟩ := Option.map_eq_some_iff.1 h
  refine ⟨_, ?_, .int _ _⟩
  simp [Instr.index, asIntOf, run_underlying ht, hb, h1]

theorem slStr_rel {lo hi : Option X} {ol oh : Option Operand} (hl : ORel G env a lo ol) (hh : ORel G env a hi oh) {s : ByteArray} {v : V} (h : slStrV (bounds env s.size lo hi) (.str s) = some v) {t : TypeId} (ht : P.underlying t = some .string) :
    ∃ r, (Instr.sliceAt t (.string s) (ol.map a.eval) (oh.map a.eval) none).run P w = .ok r w ∧ VRel G v r := by
  obtain ⟨⟨l, hq⟩, h1, h2⟩ := Option.map_eq_some_iff.1 h
  subst h2
  obtain ⟨h3, h4⟩ := bounds_run (P := P) (w := w) hl hh h1 (Nat.le_refl _) false
  refine ⟨_, ?_, .str _⟩
  simp [Instr.sliceAt, Instr.slice, run_underlying ht, h3]

theorem seg_rel {cs : List V} {b o : Nat} {f : Nat → Value} (hp : ∀ i, i < cs.length → G.pm b (o + i) = some (f i)) (hw : ∀ i, i < cs.length → VRel G (cs.getD i .junk) (f i)) (h1 : ∀ i, i < cs.length → (f i).oneCell' = true) (k : SK) (hk : k ≠ .nil) (c m cap : Nat) (hcap : m ≤ cap) (hf : k = .full → cap = m) (z : Nat) (o' : Nat) (ho : z ≠ 0 → o' = o + c) :
    VRel G (.sl k ((cs.drop c).take z) m) (.slice (some ⟨b, o', none⟩) m cap) := by
  refine .sl k _ m b o' cap hk hcap hf (fun i => f (c + i)) (fun i hi => ?_) (fun i hi => ?_) (fun i hi => ?_) <;> rw [List.length_take, List.length_drop] at hi
  · rw [ho (by omega), Nat.add_assoc]; exact hp _ (by omega)
  · rw [getD_take _ _ _ _ (by omega), getD_drop]; exact hw _ (by omega)
  · exact h1 _ (by omega)

theorem slK_ne {k : SK} (h : k ≠ .nil) (f : Bool) : slK k f ≠ .nil := by cases k <;> cases f <;> simp [slK] at h ⊢
theorem slK_full {k : SK} {f : Bool} (h : slK k f = .full) : k = .full ∧ f = true := by cases k <;> cases f <;> simp [slK] at h ⊢

theorem sl_rel {u v : V} {x : Value} (hu : VRel G u x) {lo hi mx : Option X} {ol oh om : Option Operand} (hl : ORel G env a lo ol) (hh : ORel G env a hi oh) (hm : ORel G env a mx om) {sz : Nat} (h : slV env sz lo hi mx u = some v) {t e : TypeId} (ht : P.underlying t = some (.slice e)) (hsz : szOf P e = some sz) :
    ∃ r, (Instr.sliceAt t x (ol.map a.eval) (oh.map a.eval) (om.map a.eval)).run P w = .ok r w ∧ VRel G v r := by
  cases u with
  | sl k cs nn =>
    simp only [slV] at h
    split at h
    · rename_i l hq hb
      have hom : om = none := by cases om with | none => rfl | some o => exact hm.elim
      subst hom
      split at h <;> cases h
      rename_i hlen
      cases hu with
      | slnil _ hk =>
        obtain ⟨h3, h4, h5⟩ := bounds_run (P := P) (w := w) hl hh hb (Nat.le_refl _) true
        have : l = 0 ∧ hq = 0 := by omega
        obtain ⟨rfl, rfl⟩ := this
        refine ⟨.slice none 0 0, ?_, ?_⟩
        · simp [Instr.sliceAt, Instr.slice, run_underlying ht, h3, run_sizeOf hsz]
        · simp only [Nat.sub_self, Nat.zero_mul, List.take_zero]
          refine .slnil _ ?_
          rcases hk with rfl | rfl
          · exact .inl rfl
          · exact .inr rfl
      | slz a =>
        obtain ⟨h3, h4, h5⟩ := bounds_run (P := P) (w := w) hl hh hb (Nat.le_refl _) true
        have : l = 0 ∧ hq = 0 := by omega
        obtain ⟨rfl, rfl⟩ := this
        refine ⟨.slice (some a) 0 0, ?_, ?_⟩
        · simp [Instr.sliceAt, Instr.slice, run_underlying ht, h3, run_sizeOf hsz]
        · simp only [Nat.sub_self, Nat.zero_mul, List.take_zero]
          exact .slz a
      | sl _ _ _ b o cap hk hn hf f hp hw h1 =>
        obtain ⟨h3, h4, h5⟩ := bounds_run (P := P) (w := w) hl hh hb hn true
        refine ⟨.slice (some (if cap = l then ⟨b, o, none⟩ else ⟨b, o + l * sz, none⟩)) (hq - l) (cap - l), ?_, ?_⟩
        · simp [Instr.sliceAt, Instr.slice, run_underlying ht, h3, run_sizeOf hsz]
          split <;> simp [add_lit]
        · have := seg_rel (G := G) hp hw h1 (slK k hi.isNone) (slK_ne hk _) (l * sz) (hq - l) (cap - l) (by omega) (fun e => by
            obtain ⟨e1, e2⟩ := slK_full e
            have := hf e1
            have : hq = nn := by
              cases hi with
              | none =>
                simp only [bounds, boundOf] at hb
                split at hb <;> try (cases hb; done)
                rename_i q1 q2 q3 q4
                split at hb <;> cases hb
                simpa using q3.symm
              | some x => cases e2
            omega) ((hq - l) * sz) (if cap = l then o else o + l * sz) (fun hz => by
              rw [if_neg]
              intro e
              exact hz (by rw [show hq - l = 0 by omega, Nat.zero_mul]))
          split <;> rename_i e <;> simpa [e] using this
    · rename_i mm l hq hb
      split at h <;> try (cases h; done)
      rename_i m hnat
      split at h <;> cases h
      rename_i hc
      obtain ⟨hlen, hhi, hhm, hmn, hk1, hk2⟩ := hc
      cases om with
      | none => exact hm.elim
      | some om =>
        cases hi with
        | none => cases hhi
        | some xh =>
          cases oh with
          | none => exact hh.elim
          | some oh =>
            obtain ⟨km, im, em, im0, imc⟩ := natOf_rel hm hnat
            cases hu with
            | slnil _ hk => exact absurd hk (by simp [hk1, hk2])
            | slz a => exact absurd rfl hk2
            | sl _ _ _ b o cap hk hn hf f hp hw h1 =>
              simp only [bounds, boundOf] at hb
              split at hb <;> try (cases hb; done)
              rename_i q1 q2 q3 q4
              split at hb <;> cases hb
              rename_i hle
              obtain ⟨kh, ih, eh, ih0, ihc⟩ := natOf_rel hh q3
              have e1 := run_sliceBound' (P := P) (w := w) (y := cap) (k := km) im0 imc (by omega) .slice3Acap
              have e2 := run_sliceBound' (P := P) (w := w) (y := m) (k := kh) ih0 ihc (by omega) .slice3B
              have e3 : (match ol.map a.eval with | some v => Instr.sliceBound v hq .slice3C | none => pure 0 : Sem Nat).run P w = .ok l w := by
                cases lo with
                | none =>
                  cases ol with
                  | none => cases q4; rfl
                  | some o => exact hl.elim
                | some x =>
                  cases ol with
                  | none => exact hl.elim
                  | some o =>
                    obtain ⟨k, i, e, i0, ic⟩ := natOf_rel hl q4
                    simp only [Option.map_some, e]
                    exact run_sliceBound' i0 ic (by omega) _
              have hsb : (Instr.sliceBounds true nn cap (ol.map a.eval) (some (.int kh ih)) (some (.int km im))).run P w = .ok (l, hq, m) w := by
                unfold Instr.sliceBounds
                cases hol : ol.map a.eval with
                | none => rw [hol] at e3; simp only [Sem.run_pure] at e3; cases e3; simp [e1, e2]
                | some u => rw [hol] at e3; simp [e1, e2, e3]
              refine ⟨.slice (some (if m = l then ⟨b, o, none⟩ else ⟨b, o + l * sz, none⟩)) (hq - l) (m - l), ?_, ?_⟩
              · simp [Instr.sliceAt, Instr.slice, run_underlying ht, em, eh, hsb, run_sizeOf hsz]
                split <;> simp [add_lit]
              · have := seg_rel (G := G) hp hw h1 (if m = hq then .full else .some) (by split <;> simp) (l * sz) (hq - l) (m - l) (by omega) (fun e => by
                  split at e
                  · omega
                  · cases e) ((hq - l) * sz) (if m = l then o else o + l * sz) (fun hz => by
                    rw [if_neg]
                    intro e
                    exact hz (by rw [show hq - l = 0 by omega, Nat.zero_mul]))
                by_cases e : m = l <;> simpa [e] using this
    · cases h
  | hsl id off sz' nn =>
    simp only [slV] at h
    split at h <;> try (cases h; done)
    rename_i l hq hb
    have hom : om = none := by cases om with | none => rfl | some o => exact hm.elim
    subst hom
    split at h <;> cases h
    rename_i hss
    subst hss
    cases hu with
    | hsl _ _ _ _ b ll m cap o hι hn hmm hll ho =>
      obtain ⟨h3, h4, h5⟩ := bounds_run (P := P) (w := w) hl hh hb hn true
      have hmul : (cap - l) * sz' = cap * sz' - l * sz' := Nat.sub_mul _ _ _
      have hle : l * sz' ≤ cap * sz' := Nat.mul_le_mul_right _ (by omega)
      refine ⟨.slice (some (if cap = l then ⟨b, o, none⟩ else ⟨b, o + l * sz', none⟩)) (hq - l) (cap - l), ?_, ?_⟩
      · simp [Instr.sliceAt, Instr.slice, run_underlying ht, h3, run_sizeOf hsz]
        split <;> simp [add_lit]
      · have := VRel.hsl (G := G) id (off + l * sz') sz' (hq - l) b ll m (cap - l) (if cap = l then o else o + l * sz') hι (by omega) (by omega) (by omega) (fun hz => by
          rw [if_neg (by omega), ho (by omega)])
        split <;> rename_i e <;> simpa [e] using this
  | _ => simp only [slV] at h; cases h

theorem slw_rel (hs : StRel B w0 G st w) {u v : V} {x : Value} (hu : VRel G u x) {lo hi : Option X} {ol oh : Option Operand} (hl : ORel G env a lo ol) (hh : ORel G env a hi oh) {sz : Nat} (h : slwV st env sz lo hi u = some v) {t e : TypeId} (ht : P.underlying t = some (.slice e)) (hsz : szOf P e = some sz) :
    ∃ r, (Instr.sliceAt t x (ol.map a.eval) (oh.map a.eval) none).run P w = .ok r w ∧ VRel G v r := by
  cases u <;> simp only [slwV] at h <;> try (cases h; done)
  rename_i id off sz' nn
  split at h <;> try (cases h; done)
  rename_i cs hst
  split at h <;> try (cases h; done)
  rename_i hq l q1 q2
  split at h <;> cases h
  rename_i hc
  obtain ⟨rfl, hs0, hhi, hlh, hfit⟩ := hc
  cases hu with
  | hsl _ _ _ _ b ll m cap o hι hn hmm hll ho =>
    obtain ⟨b', l', m', k1, k2, C, T, k3, k4, k5, k6, k7, k8⟩ := hs.obj id _ hst
    rw [hι] at k1
    obtain ⟨rfl, rfl, rfl⟩ : b = b' ∧ ll = l' ∧ m = m' := by cases k1; exact ⟨rfl, rfl, rfl⟩
    have hcap : hq ≤ cap := by
      have : hq * sz' ≤ cap * sz' := by omega
      exact Nat.le_of_mul_le_mul_right this hs0
    cases hi with
    | none => cases hhi
    | some xh =>
      cases oh with
      | none => exact hh.elim
      | some oh =>
        have hb : bounds env cap lo (some xh) = some (l, hq) := by
          simp only [bounds, boundOf] at q1 q2 ⊢
          rw [q1, q2]
          simp [hlh, hcap]
        obtain ⟨h3, h4, h5⟩ := bounds_run (P := P) (w := w) hl hh hb (Nat.le_refl _) true
        have h3' : (Instr.sliceBounds true nn cap (ol.map a.eval) (some (a.eval oh)) none).run P w = .ok (l, hq, cap) w := h3
        have hmul : (cap - l) * sz' = cap * sz' - l * sz' := Nat.sub_mul _ _ _
        have hle : l * sz' ≤ cap * sz' := Nat.mul_le_mul_right _ (by omega)
        refine ⟨.slice (some (if cap = l then ⟨b, o, none⟩ else ⟨b, o + l * sz', none⟩)) (hq - l) (cap - l), ?_, ?_⟩
        · simp [Instr.sliceAt, Instr.slice, run_underlying ht, h3', run_sizeOf hsz]
          split <;> simp [add_lit]
        · have := VRel.hsl (G := G) id (off + l * sz') sz' (hq - l) b ll m (cap - l) (if cap = l then o else o + l * sz') hι (by omega) (by omega) (by omega) (fun hz => by
            rw [if_neg (by omega), ho (by omega)])
          split <;> rename_i e <;> simpa [e] using this

theorem chk3_rel {u v : V} {x : Value} (hu : VRel G u x) {lo hi mx : Option X} {ol oh om : Option Operand} (hl : ORel G env a lo ol) (hh : ORel G env a hi oh) (hm : ORel G env a mx om) {sz : Nat} (h : chk3V env lo hi mx u = some v) {t e : TypeId} (ht : P.underlying t = some (.slice e)) (hsz : szOf P e = some sz) :
    ∃ r, (Instr.sliceAt t x (ol.map a.eval) (oh.map a.eval) (om.map a.eval)).run P w = .ok r w ∧ VRel G v r := by
  cases u <;> simp only [chk3V] at h <;> try (cases h; done)
  rename_i id off sz' nn
  split at h <;> try (cases h; done)
  rename_i m hq l q1 q2 q3
  split at h <;> cases h
  rename_i hc
  obtain ⟨hmx, hhi, hlh, hhm, hmn⟩ := hc
  cases hu with
  | hsl _ _ _ _ b ll mm cap o hι hn hmm hll ho =>
    cases mx with
    | none => cases hmx
    | some xm =>
      cases hi with
      | none => cases hhi
      | some xh =>
        cases om with
        | none => exact hm.elim
        | some om =>
          cases oh with
          | none => exact hh.elim
          | some oh =>
            simp only [boundOf] at q1 q2
            obtain ⟨km, im, em, im0, imc⟩ := natOf_rel hm q1
            obtain ⟨kh, ih, eh, ih0, ihc⟩ := natOf_rel hh q2
            have e1 := run_sliceBound' (P := P) (w := w) (y := cap) (k := km) im0 imc (by omega) .slice3Acap
            have e2 := run_sliceBound' (P := P) (w := w) (y := m) (k := kh) ih0 ihc (by omega) .slice3B
            have e3 : (match ol.map a.eval with | some v => Instr.sliceBound v hq .slice3C | none => pure 0 : Sem Nat).run P w = .ok l w := by
              cases lo with
              | none =>
                cases ol with
                | none => cases q3; rfl
                | some o => exact hl.elim
              | some x =>
                cases ol with
                | none => exact hl.elim
                | some o =>
                  obtain ⟨k, i, e, i0, ic⟩ := natOf_rel hl q3
                  simp only [Option.map_some, e]
                  exact run_sliceBound' i0 ic (by omega) _
            have hsb : (Instr.sliceBounds true nn cap (ol.map a.eval) (some (.int kh ih)) (some (.int km im))).run P w = .ok (l, hq, m) w := by
              unfold Instr.sliceBounds
              cases hol : ol.map a.eval with
              | none => rw [hol] at e3; simp only [Sem.run_pure] at e3; cases e3; simp [e1, e2]
              | some u => rw [hol] at e3; simp [e1, e2, e3]
            refine ⟨.slice (some (if m = l then ⟨b, o, none⟩ else ⟨b, o + l * sz, none⟩)) (hq - l) (m - l), ?_, .junk _⟩
            simp [Instr.sliceAt, Instr.slice, run_underlying ht, em, eh, hsb, run_sizeOf hsz]
            split <;> simp [add_lit]

theorem slArr_rel (hs : StRel B w0 G st w) {u v : V} {x : Value} (hu : VRel G u x) {lo hi : Option X} {ol oh : Option Operand} (hl : ORel G env a lo ol) (hh : ORel G env a hi oh) {al : Bool} {m sz : Nat} (h : slArrV st env al m sz lo hi u = some v) {t e : TypeId} (ht : P.underlying t = some (.array m e)) (hsz : szOf P e = some sz) :
    ∃ r, (Instr.sliceAt t x (ol.map a.eval) (oh.map a.eval) none).run P w = .ok r w ∧ VRel G v r := by
  unfold slArrV at h
  split at h <;> try (cases h; done)
  rename_i l hq hb
  obtain ⟨h3, h4, h5⟩ := bounds_run (P := P) (w := w) hl hh hb (Nat.le_refl _) false
  have hrun : ∀ (b o : Nat), (Instr.sliceAt t (.pointer (some ⟨b, o, none⟩)) (ol.map a.eval) (oh.map a.eval) none).run P w = .ok (.slice (some (if m = l then ⟨b, o, none⟩ else ⟨b, o + l * sz, none⟩)) (hq - l) (m - l)) w := by
    intro b o
    simp [Instr.sliceAt, Instr.sureAddr, run_underlying ht, h3, run_sizeOf hsz]
    split <;> simp [add_lit]
  cases al with
  | true =>
    simp only [if_true] at h
    split at h <;> try (cases h; done)
    rename_i id o
    split at h <;> try (cases h; done)
    rename_i cs hst
    split at h <;> cases h
    rename_i hlen
    cases hu with
    | ptr _ _ b ll mm hι =>
      obtain ⟨b', l', m', k1, k2, C, T, k3, k4, k5, k6, k7, k8⟩ := hs.obj id _ hst
      rw [hι] at k1
      cases k1
      refine ⟨_, hrun b o, ?_⟩
      have hmul : (m - l) * sz = m * sz - l * sz := Nat.sub_mul _ _ _
      have hle : l * sz ≤ m * sz := Nat.mul_le_mul_right _ (by omega)
      have := VRel.hsl (G := G) id (o + l * sz) sz (hq - l) b ll mm (m - l) (if m = l then o else o + l * sz) hι (by omega) (by omega) (by omega) (fun hz => by rw [if_neg (by omega)])
      split <;> rename_i e <;> simpa [e] using this
  | false =>
    simp only [Bool.false_eq_true, if_false] at h
    split at h <;> try (cases h; done)
    · rename_i id o
      split at h <;> try (cases h; done)
      rename_i cs hst
      obtain ⟨c, hc, rfl⟩ := Option.map_eq_some_iff.1 h
      obtain ⟨hc1, rfl⟩ := segOf_some hc
      cases hu with
      | ptr _ _ b ll mm hι =>
        obtain ⟨b', l', m', k1, k2, k5, k7⟩ := hs.obj id _ hst
        rw [hι] at k1
        cases k1
        refine ⟨_, hrun b o, ?_⟩
        have hdt : (((cs.drop o).take (m * sz)).drop (l * sz)).take ((hq - l) * sz) = (cs.drop (o + l * sz)).take ((hq - l) * sz) := by
          have hmul : (hq - l) * sz = hq * sz - l * sz := Nat.sub_mul _ _ _
          have hle : hq * sz ≤ m * sz := Nat.mul_le_mul_right _ (by omega)
          rw [List.drop_take, List.drop_drop, List.take_take, Nat.min_eq_left (by omega)]
        rw [hdt]
        let f : Nat → Value := fun i => (G.pm b (0 + i)).getD undef
        have hf : ∀ i, i < cs.length → G.pm b (0 + i) = some (f i) ∧ VRel G (cs.getD i .junk) (f i) ∧ (f i).oneCell' = true := fun i hi => by
          obtain ⟨y, e1, e2, e3⟩ := k7 i hi
          have : f i = y := by show (G.pm b (0 + i)).getD undef = y; rw [Nat.zero_add, e1]; rfl
          rw [this, Nat.zero_add]
          exact ⟨e1, e2, e3⟩
        have := seg_rel (G := G) (fun i hi => (hf i hi).1) (fun i hi => (hf i hi).2.1) (fun i hi => (hf i hi).2.2) (if hq = m then .full else .some) (by split <;> simp) (o + l * sz) (hq - l) (m - l) (by omega) (fun e => by
          split at e
          · omega
          · cases e) ((hq - l) * sz) (if m = l then o else o + l * sz) (fun hz => by
            rw [if_neg, Nat.zero_add]
            intro e
            exact hz (by rw [show hq - l = 0 by omega, Nat.zero_mul]))
        by_cases e : m = l <;> simpa [e] using this
    · rename_i cs
      obtain ⟨c, hc, rfl⟩ := Option.map_eq_some_iff.1 h
      obtain ⟨hc1, rfl⟩ := segOf_some hc
      cases hu with
      | eptr _ b o f hp hw h1 =>
        refine ⟨_, hrun b o, ?_⟩
        have hdt : (((cs.drop 0).take (m * sz)).drop (l * sz)).take ((hq - l) * sz) = (cs.drop (l * sz)).take ((hq - l) * sz) := by
          have hmul : (hq - l) * sz = hq * sz - l * sz := Nat.sub_mul _ _ _
          have hle : hq * sz ≤ m * sz := Nat.mul_le_mul_right _ (by omega)
          rw [List.drop_take, List.drop_drop, List.take_take, Nat.min_eq_left (by omega), Nat.zero_add]
        rw [hdt]
        have := seg_rel (G := G) hp hw h1 (if hq = m then .full else .some) (by split <;> simp) (l * sz) (hq - l) (m - l) (by omega) (fun e => by
          split at e
          · omega
          · cases e) ((hq - l) * sz) (if m = l then o else o + l * sz) (fun hz => by
            rw [if_neg]
            intro e
            exact hz (by rw [show hq - l = 0 by omega, Nat.zero_mul]))
        by_cases e : m = l <;> simpa [e] using this

/-- The elements of a slice, as the machine reads them. -/
theorem elems_rel (hs : StRel B w0 G st w) {u : V} {x : Value} (hu : VRel G u x) {sz : Nat} {ys : List V} {m : Nat} (h : elems st sz u = some (ys, m)) :
    (Builtin.lenOf x).run P w = .ok m w ∧ ys.length = m * sz ∧ ∃ xs, CRel G ys xs ∧ (Builtin.firstCells sz m x).run P w = .ok xs.toArray w := by
  cases hu <;> simp only [elems] at h <;> try (cases h; done)
  · rename_i s
    split at h <;> cases h
    rename_i hsz
    subst hsz
    refine ⟨rfl, by simp [toBytesV], s.data.toList.map fun b => .int .u8 b.toNat, ?_, ?_⟩
    · refine CRel.mk (by simp [toBytesV]) (fun i hi => ?_) (fun i hi => ?_) <;> simp only [toBytesV, List.length_map] at hi
      · simp only [toBytesV, List.getD_eq_getElem?_getD, List.getElem?_map, List.getElem?_eq_getElem hi, Option.map_some, Option.getD_some]
        exact .int _ _
      · simp only [List.getD_eq_getElem?_getD, List.getElem?_map, List.getElem?_eq_getElem hi, Option.map_some, Option.getD_some]
        rfl
    · have e : s.extract 0 s.size = s := by
        apply ByteArray.ext
        simp
      simp only [Builtin.firstCells, e, Sem.run_pure]
      congr 1
      apply Array.ext'
      simp
  · rename_i k hk
    split at h <;> cases h
    exact ⟨rfl, by simp, [], CRel.nil, by simp [Builtin.firstCells]⟩
  · split at h <;> cases h
    exact ⟨rfl, by simp, [], CRel.nil, by simp [Builtin.firstCells]; exact run_loadCells_list (P := P) w _ [] (fun j v hv => by simp at hv)⟩
  · rename_i k cs nn b o cap hk hn hf f hp hw h1
    split at h <;> cases h
    rename_i hlen
    obtain ⟨xs, k1, k2, k3, k4⟩ := pm_cells hs hp hw h1
    refine ⟨rfl, hlen, xs, k1, ?_⟩
    simp only [Builtin.firstCells]
    have := run_loadCells_list (P := P) w ⟨b, o, none⟩ xs (fun j v hv => by rw [add_lit]; exact k4 j v hv)
    rwa [k2, hlen] at this
  · rename_i id off sz' nn b l m' cap o hι hn hm hl ho
    split at h <;> try (cases h; done)
    rename_i hsz
    subst hsz
    obtain ⟨c, hc, he⟩ := Option.map_eq_some_iff.1 h
    cases he
    obtain ⟨xs, k1, k2, k3⟩ := seg_cells hs hc hι
    refine ⟨rfl, by rw [← k1.length, k2], xs, k1, ?_⟩
    simp only [Builtin.firstCells]
    by_cases h0 : m * sz' = 0
    · rw [h0]
      have : xs = [] := List.eq_nil_of_length_eq_zero (by rw [k2, h0])
      subst this
      rfl
    · have : o = off := ho (by intro e; apply h0; rw [show m = 0 by omega, Nat.zero_mul])
      subst this
      have := run_loadCells_list (P := P) w ⟨b, o, none⟩ xs (fun j v hv => by rw [add_lit]; exact k3 j v hv)
      rwa [k2] at this

theorem bytesOf_rel : ∀ {ys : List V} {xs : List Value} {bs : List UInt8}, LRel G ys xs → bytesOf ys = some bs → ∃ ns : List Int, xs = ns.map (Value.int .u8) ∧ bs = ns.map fun n => UInt8.ofNat n.toNat
  | [], xs, bs, h, hb => by cases hb; exact ⟨[], by rw [h.nil_inv]; rfl, rfl⟩
  | y :: ys, xs, bs, h, hb => by
    obtain ⟨x, zs, rfl, h1, h2⟩ := h.cons_inv
    unfold bytesOf at hb
    split at hb
    · rename_i e
      cases e
    · rename_i i l e
      cases e
      obtain ⟨bs', h3, rfl⟩ := Option.map_eq_some_iff.1 hb
      obtain ⟨ns, h4, h5⟩ := bytesOf_rel h2 h3
      cases h1
      exact ⟨i :: ns, by simp [h4], by simp [h5]⟩
    · cases hb

theorem foldl_push : ∀ (ns : List Int) (r : ByteArray), ns.foldl (fun r n => r.push (UInt8.ofNat n.toNat)) r = ⟨r.data ++ (ns.map fun n => UInt8.ofNat n.toNat).toArray⟩
  | [], r => by simp
  | n :: ns, r => by
    simp only [List.foldl_cons, List.map_cons]
    rw [foldl_push ns]
    simp [ByteArray.push]

theorem toStr_rel (hs : StRel B w0 G st w) {u v : V} {x : Value} (hu : VRel G u x) (h : toStrV st u = some v) {s d e : TypeId} (h1 : P.underlying s = some (.slice e)) (h2 : P.underlying d = some .string) (h3 : P.underlying e = some (.int .u8)) :
    ∃ y, (convert s d x).run P w = .ok y w ∧ VRel G v y := by
  have h' : (∀ s, u ≠ .str s) ∧ ((elems st 1 u).bind fun l => (bytesOf l.1).map fun b => V.str ⟨b.toArray⟩) = some v := by
    cases u <;> simp only [toStrV] at h <;> first | (cases h; done) | exact ⟨fun s e => (by cases e), h⟩
  obtain ⟨hns, h'⟩ := h'
  obtain ⟨⟨ys, m⟩, k1, k2⟩ := Option.bind_eq_some_iff.1 h'
  obtain ⟨bs, k3, rfl⟩ := Option.map_eq_some_iff.1 k2
  obtain ⟨g1, g2, xs, g3, g4⟩ := elems_rel (P := P) hs hu k1
  obtain ⟨ns, e1, e2⟩ := bytesOf_rel g3.1 k3
  refine ⟨_, ?_, .str _⟩
  have hsl : ∃ ao cap, x = .slice ao m cap := by
    cases hu <;> simp only [elems] at k1 <;> try (cases k1; done)
    · exact absurd rfl (hns _)
    · split at k1 <;> cases k1
      exact ⟨_, _, rfl⟩
    · split at k1 <;> cases k1
      exact ⟨_, _, rfl⟩
    · split at k1 <;> cases k1
      exact ⟨_, _, rfl⟩
    · split at k1 <;> try (cases k1; done)
      obtain ⟨c, hc, he⟩ := Option.map_eq_some_iff.1 k1
      cases he
      exact ⟨_, _, rfl⟩
  obtain ⟨ao, cap, rfl⟩ := hsl
  have hbs : (ByteArray.mk bs.toArray) = ns.foldl (fun r n => r.push (UInt8.ofNat n.toNat)) ByteArray.empty := by
    rw [foldl_push, e2]
    simp
  cases ao with
  | none =>
    simp only [Builtin.firstCells, Sem.run_pure] at g4
    have hx0 : xs = [] := by
      injection g4 with g5
      simpa using congrArg Array.toList g5.symm
    subst hx0
    have hn0 : ns = [] := by cases ns with | nil => rfl | cons a l => cases e1
    subst hn0
    rw [hbs]
    simp [convert, run_underlying h1, run_underlying h2, run_underlying h3, Conv.bytesToString]
  | some ad =>
    simp only [Builtin.firstCells, Nat.mul_one] at g4
    rw [e1] at g4
    have := run_bytesToString (P := P) w ad m cap ns g4
    simp only [convert, Sem.run_bind, run_underlying h1, run_underlying h2, run_underlying h3, Result.andThen_ok, this, hbs]

def bytesX (s : ByteArray) : List Value := s.data.toList.map fun b => Value.int .u8 b.toNat

theorem bytesX_rel (s : ByteArray) : CRel G (toBytesV s) (bytesX s) := by
  refine CRel.mk (by simp [toBytesV, bytesX]) (fun i hi => ?_) (fun i hi => ?_) <;> simp only [toBytesV, List.length_map] at hi
  · simp only [toBytesV, bytesX, List.getD_eq_getElem?_getD, List.getElem?_map, List.getElem?_eq_getElem hi, Option.map_some, Option.getD_some]
    exact .int _ _
  · simp only [bytesX, List.getD_eq_getElem?_getD, List.getElem?_map, List.getElem?_eq_getElem hi, Option.map_some, Option.getD_some]
    rfl

theorem toBytes_rel (hs : StRel B w0 G st w) (s : ByteArray) {c d e : TypeId} (h1 : P.underlying c = some .string) (h2 : P.underlying d = some (.slice e)) (h3 : P.underlying e = some (.int .u8)) :
    ∃ y w' G', (convert c d (.string s)).run P w = .ok y w' ∧ G.le G' ∧ VRel G' (.sl .some (toBytesV s) s.size) y ∧ StRel B w0 G' st w' := by
  have hrun := run_bytes_of_string (P := P) w c d e s h1 h2 h3
  have hs' := hs.ext (below_drew w)
  have hge := grownCap_ge w s.size 0 e
  have hrow : bytesRow s (grownCap w s.size 0 e) = (bytesX s ++ List.replicate (grownCap w s.size 0 e - s.size) (Value.int .u8 0)).toArray := by
    unfold bytesRow bytesX
    apply Array.ext'
    simp
  rw [hrow] at hrun
  obtain ⟨g1, g2⟩ := hs'.addPm (bytesX s) e (_, _) (List.replicate (grownCap w s.size 0 e - s.size) (Value.int .u8 0))
  refine ⟨_, _, _, hrun, g1, ?_, g2⟩
  have hX := bytesX_rel (G := Gh.addPm G w.drew.heap.size (bytesX s)) s
  refine .sl .some _ _ w.heap.size 0 _ (by simp) hge (fun e => by cases e) (fun i => (bytesX s).getD i undef) (fun i hi => ?_) (fun i hi => hX.val i hi) (fun i hi => hX.one i hi)
  show (Gh.addPm G w.drew.heap.size _).pm w.drew.heap.size (0 + i) = _
  have hlen := hX.length
  rw [Gh.addPm_new, Nat.zero_add, List.getD_eq_getElem?_getD, List.getElem?_eq_getElem (by omega)]
  rfl

theorem bsl_rel (hs : StRel B w0 G st w) (he : EnvRel G n env a) {t e : TypeId} {len s : Nat} {zs cs : List V} {ops : Array (Nat × Operand)} {ps : List (Nat × Nat × X)} (hz : zeroOf P e = some zs) (hu : P.underlying t = some (.slice e))
    (hsz : szOf P e = some s) (hzl : zs.length = s) (hbig : len * s ≤ 16777216) (hp : parts1 n (fun i => some (i * s, s)) ops.toList = some ps)
    (hf : fillV (repV zs len) (ps.map fun p => (p.1, p.2.1, p.2.2.ev env)) = some cs) :
    ∃ y w' G', (Instr.buildSlice t len (ops.map fun (i, x) => (i, a.eval x))).run P w = .ok y w' ∧ G.le G' ∧ VRel G' (.sl .full cs len) y ∧ StRel B w0 G' st w' := by
  obtain ⟨C, h1, h2⟩ := buildSlice_run (w := w) he hz hu hsz hzl hbig hp hf
  obtain ⟨g1, g2⟩ := hs.addPm C.toList e (0, 0) []
  simp only [List.append_nil, Array.toArray_toList] at g2
  refine ⟨_, _, _, h1, g1, ?_, g2⟩
  have hlen := h2.length
  refine .sl .full _ _ w.heap.size 0 _ (by simp) (Nat.le_refl _) (fun _ => rfl) (fun i => C.toList.getD i undef) (fun i hi => ?_) (fun i hi => (h2.val i hi).mono g1) (fun i hi => h2.one i hi)
  rw [Gh.addPm_new, Nat.zero_add, List.getD_eq_getElem?_getD, List.getElem?_eq_getElem (by omega)]
  rfl

theorem len_rel (hs : StRel B w0 G st w) {u v : V} {x : Value} (hu : VRel G u x) {t : TypeId} {m : POp} {xx : X} (hm : compBuiltin P n .len [t] [xx] = some m) (hxx : xx.ev env = u) (h : opV m env st = some v) (ty : TypeId) :
    ∃ y, (Builtin.len_ #[t] ty #[x]).run P w = .ok y w ∧ VRel G v y := by
  simp only [compBuiltin] at hm
  split at hm <;> cases hm
  · rename_i ht
    simp only [opV, hxx] at h
    cases hu <;> simp only [lenStrV] at h <;> cases h
    exact ⟨_, by simp [Builtin.len_, run_underlying ht, goInt], .int _ _⟩
  · rename_i k e ht
    simp only [opV] at h
    cases h
    exact ⟨_, by simp [Builtin.len_, run_underlying ht, goInt], .int _ _⟩
  · rename_i e ht
    simp only [opV, hxx] at h
    cases hu <;> simp only [lenSlV] at h <;> cases h
    · exact ⟨_, by simp [Builtin.len_, run_underlying ht, goInt], .int _ _⟩
    · exact ⟨_, by simp [Builtin.len_, run_underlying ht, goInt], .int _ _⟩
    · exact ⟨_, by simp [Builtin.len_, run_underlying ht, goInt], .int _ _⟩
    · exact ⟨_, by simp [Builtin.len_, run_underlying ht, goInt], .int _ _⟩
  · rename_i k e ht
    simp only [opV, hxx] at h
    cases hu <;> simp only [lenMapV] at h <;> try (cases h; done)
    · cases h
      exact ⟨_, by simp [Builtin.len_, run_underlying ht, goInt], .int _ _⟩
    · rename_i id b l m hι
      split at h <;> cases h
      · rename_i es hst
        obtain ⟨b', l', m', k1, k2, E, clk, k3, k4, k5, k6, k7⟩ := hs.obj id _ hst
        rw [hι] at k1
        cases k1
        refine ⟨.int .i64 es.length, ?_, .int _ _⟩
        simp [Builtin.len_, run_underlying ht, run_getObj k3 (fun a b c e => by cases e), goInt, k4]
      · rename_i es bs clk hst
        obtain ⟨b', l', m', k1, k2, E, k3, k4, k5, k6, k7⟩ := hs.obj id _ hst
        rw [hι] at k1
        cases k1
        refine ⟨.int .i64 es.length, ?_, .int _ _⟩
        simp [Builtin.len_, run_underlying ht, run_getObj k3 (fun a b c e => by cases e), goInt, k4]

theorem foldV_rel (f : V → V → Option V) (g : Value → Value → Sem Value) (hfg : ∀ {u v r : V} {x y : Value}, VRel G u x → VRel G v y → f u v = some r → ∃ z, (g x y).run P w = .ok z w ∧ VRel G r z) : ∀ {l : List V} {xs : List Value} {u v : V} {x : Value}, VRel G u x → LRel G l xs → foldV f u l = some v →
    ∃ z, (xs.foldlM g x).run P w = .ok z w ∧ VRel G v z
  | [], xs, u, v, x, hu, hl, h => by
    cases h
    rw [hl.nil_inv]
    exact ⟨x, rfl, hu⟩
  | y :: l, xs, u, v, x, hu, hl, h => by
    obtain ⟨z, zs, rfl, h1, h2⟩ := hl.cons_inv
    simp only [foldV] at h
    obtain ⟨r, h3, h4⟩ := Option.bind_eq_some_iff.1 h
    obtain ⟨q, h5, h6⟩ := hfg hu h1 h3
    obtain ⟨z', h7, h8⟩ := foldV_rel f g hfg h6 h2 h4
    exact ⟨z', by simp [List.foldlM_cons, h5, h7], h8⟩

theorem max2_rel {u v r : V} {x y : Value} (hu : VRel G u x) (hv : VRel G v y) (h : max2V u v = some r) : ∃ z, (Builtin.max2 x y).run P w = .ok z w ∧ VRel G r z := by
  cases hu <;> simp only [max2V] at h <;> try (cases h; done)
  cases hv <;> simp only [max2V] at h <;> try (cases h; done)
  split at h <;> cases h
  exact ⟨_, rfl, .int _ _⟩
theorem min2_rel {u v r : V} {x y : Value} (hu : VRel G u x) (hv : VRel G v y) (h : min2V u v = some r) : ∃ z, (Builtin.min2 x y).run P w = .ok z w ∧ VRel G r z := by
  cases hu <;> simp only [min2V] at h <;> try (cases h; done)
  cases hv <;> simp only [min2V] at h <;> try (cases h; done)
  split at h <;> cases h
  exact ⟨_, rfl, .int _ _⟩

theorem ext_rel {u v : V} {x : Value} (hu : VRel G u x) {i : Nat} (h : extV i u = some v) : ∃ y, (Instr.extract x i).run P w = .ok y w ∧ VRel G v y := by
  cases hu <;> simp only [extV] at h <;> try (cases h; done)
  rename_i cs xs hl hv
  obtain ⟨hi, rfl⟩ := List.getElem?_eq_some_iff.1 h
  have := hv i hi
  rw [List.getD_eq_getElem?_getD, List.getElem?_eq_getElem hi] at this
  refine ⟨xs.getD i undef, ?_, this⟩
  have hx : xs[i]? = some (xs.getD i undef) := by
    rw [Array.getD_eq_getD_getElem?, Array.getElem?_eq_getElem (by omega)]; rfl
  show (match xs[i]? with | some v => (Pure.pure v : Sem Value) | none => stuck "Extract: no such component").run P w = _
  rw [hx]
  rfl
end
end Go.Ab
