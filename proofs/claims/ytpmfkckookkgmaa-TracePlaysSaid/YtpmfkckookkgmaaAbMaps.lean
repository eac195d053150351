/-
  Maps: looking up, putting in, taking out.
-/
import Derived.Test.YtpmfkckookkgmaaAbOps3
set_option linter.unusedSimpArgs false
set_option linter.unusedVariables false
namespace Go.Ab
open Go Go.RowKit

theorem forIn_units {P : Program} {w : World} (f : Nat → Unit → Sem (ForInStep Unit)) : ∀ (c i : Nat), (∀ j, i ≤ j → j < i + c → ∀ s, (f j s).run P w = .ok (.yield ()) w) →
    (forIn (List.range' i c) () f).run P w = .ok () w
  | 0, i, _ => by simp
  | c + 1, i, h => by
    simp only [List.range'_succ, List.forIn_cons, Sem.run_bind, h i (Nat.le_refl _) (by omega) (), Result.andThen_ok]
    exact forIn_units f c (i + 1) (fun j h1 h2 s => h j (by omega) (by omega) s)

theorem forIn_fields {P : Program} {w : World} (f : Field → Unit → Sem (ForInStep Unit)) : ∀ (l : List Field), (∀ x ∈ l, ∀ s, (f x s).run P w = .ok (.yield ()) w) →
    (forIn l () f).run P w = .ok () w
  | [], _ => by simp
  | x :: l, h => by
    simp only [List.forIn_cons, Sem.run_bind, h x (by simp) (), Result.andThen_ok]
    exact forIn_fields f l (fun y hy s => h y (by simp [hy]) s)

theorem flatFs_mem {P : Program} {g : TypeId → Option Nat} : ∀ {fs : List Field} {n m : Nat}, flatFs P g fs n = some m → ∀ f ∈ fs, ∃ q, g f.type = some q ∧ f.name ≠ "_" ∧ f.offset + q ≤ m
  | [], n, m, h, f, hf => by simp at hf
  | x :: fs, n, m, h, f, hf => by
    simp only [flatFs] at h
    split at h
    · cases h
    · rename_i hno
      simp only [Bool.or_eq_true, decide_eq_true_eq, not_or, ne_eq, Decidable.not_not] at hno
      obtain ⟨q, g1, g2⟩ := Option.bind_eq_some_iff.1 h
      split at g2
      · rcases List.mem_cons.1 hf with rfl | hf
        · have := flatFs_le g2
          exact ⟨q, g1, hno.1, by omega⟩
        · exact flatFs_mem g2 f hf
      · cases g2

theorem check_flat {P : Program} {w : World} (em : Bool) : ∀ (d k : Nat) (t : TypeId) (n : Nat) (xs : List Value) (ag : Bool), flatTy P d t = some n → packOf P t = some (ag, n) → d ≤ k → xs.length = n →
    (Instr.checkKey em k t (packX ag xs)).run P w = .ok () w
  | 0, k, t, n, xs, ag, h, _, _, _ => by cases h
  | d + 1, 0, t, n, xs, ag, _, _, hk, _ => by omega
  | d + 1, k + 1, t, n, xs, ag, h, hag, hk, hx => by
    have h0 := h
    unfold flatTy at h
    split at h
    · rename_i kd hu
      simp only [Instr.checkKey, Sem.run_bind, run_underlying hu, Result.andThen_ok]
      generalize packX ag xs = x
      cases x <;> rfl
    · rename_i fs hu
      split at h
      · cases h
      · obtain ⟨m, h1, h2⟩ := Option.bind_eq_some_iff.1 h
        split at h2
        · cases h2
          have : ag = true := by
            have := (packOf_some hag).1
            simp [isAg, hu] at this
            exact this
          subst this
          simp only [packX, if_true, Instr.checkKey, Sem.run_bind, run_underlying hu, Result.andThen_ok]
          rw [← Array.forIn_toList]
          rw [forIn_fields]
          · rfl
          intro f hf s
          obtain ⟨q, g1, g2, g3⟩ := flatFs_mem h1 f hf
          obtain ⟨af, p1, p2⟩ := flat_pack g1
          have e1 := run_part_seg (P := P) p1 (w := w) (xs := xs) (off := f.offset) (by simp only; omega)
          have e2 := check_flat (w := w) em d k f.type q ((xs.drop f.offset).take q) af g1 p1 (by omega) (by simp; omega)
          simp only [ne_eq, g2, not_false_eq_true, if_true, Sem.run_bind, e1, e2, Result.andThen_ok, Sem.run_pure]
        · cases h2
    · rename_i len e hu
      split at h
      · cases h
      · obtain ⟨m, h1, h2⟩ := Option.bind_eq_some_iff.1 h
        split at h2
        · rename_i hs
          cases h2
          simp only [Bool.and_eq_true, decide_eq_true_eq] at hs
          have : ag = true := by
            have := (packOf_some hag).1
            simp [isAg, hu] at this
            exact this
          subst this
          obtain ⟨ae, p1, p2⟩ := flat_pack h1
          simp only [packX, if_true, Instr.checkKey, Sem.run_bind, run_underlying hu, Result.andThen_ok]
          rw [Std.Legacy.Range.forIn_eq_forIn_range']
          have hr : List.range' ([:len] : Std.Legacy.Range).start ([:len] : Std.Legacy.Range).size ([:len] : Std.Legacy.Range).step = List.range' 0 len := by simp [Std.Legacy.Range.size]
          rw [hr]
          rw [forIn_units]
          · rfl
          intro j j1 j2 s
          have hle : (j + 1) * m ≤ len * m := Nat.mul_le_mul_right _ (by omega)
          rw [Nat.add_mul, Nat.one_mul] at hle
          have e1 := run_part_seg (P := P) p1 (w := w) (xs := xs) (off := j * m) (by simp only; omega)
          have e2 := check_flat (w := w) em d k e m ((xs.drop (j * m)).take m) ae h1 p1 (by omega) (by simp; omega)
          simp only [Sem.run_bind, run_sizeOf hs.1, e1, e2, Result.andThen_ok, Sem.run_pure]
        · cases h2
    · cases h

/-- The type of the keys is such that the kind of keys fits. -/
def keyFits (P : Program) (t : TypeId) : KK → Prop
  | .int => ∃ k, P.underlying t = some (.int k)
  | .str => P.underlying t = some .string
  | .agg n => flatTy P 20 t = some n ∧ isAg P t = some true

theorem compKey_fits {P : Program} {t : TypeId} {kk : KK} (h : compKey P t = some kk) : keyFits P t kk := by
  unfold compKey at h
  split at h <;> try (cases h; done)
  · rename_i hu; cases h; exact ⟨_, hu⟩
  · rename_i hu; cases h; exact hu
  · rename_i hu
    obtain ⟨n, hn, he⟩ := Option.map_eq_some_iff.1 h
    cases he
    exact ⟨hn, by simp [isAg, hu]⟩
  · rename_i hu
    obtain ⟨n, hn, he⟩ := Option.map_eq_some_iff.1 h
    cases he
    exact ⟨hn, by simp [isAg, hu]⟩

section
variable {P : Program} {G : Gh} {w : World}

theorem flat_agg {t : TypeId} {n : Nat} (hn : flatTy P 20 t = some n) (hag : isAg P t = some true) : packOf P t = some (true, n) := by
  obtain ⟨ag, hp, hs⟩ := flat_pack hn
  have h1 := (packOf_some hp).1
  rw [hag] at h1
  have h2 : true = ag := Option.some.inj h1
  rw [hp, ← h2]

theorem checkKey_run {t : TypeId} {kk : KK} (hf : keyFits P t kk) {k : V} {x : Value} (hk : VRel G k x) (hi : isKey kk k = true) (em : Bool) : (Instr.checkKey em 10000 t x).run P w = .ok () w := by
  cases kk with
  | int =>
    obtain ⟨q, hu⟩ := hf
    show (Instr.checkKey em (9999 + 1) t x).run P w = _
    generalize 9999 = d
    simp only [Instr.checkKey, Sem.run_bind, run_underlying hu, Result.andThen_ok]
    cases x <;> rfl
  | str =>
    show (Instr.checkKey em (9999 + 1) t x).run P w = _
    generalize 9999 = d
    simp only [Instr.checkKey, Sem.run_bind, run_underlying (show P.underlying t = some .string from hf), Result.andThen_ok]
    cases x <;> rfl
  | agg n =>
    obtain ⟨hn, hag⟩ := hf
    cases k <;> simp only [isKey] at hi <;> try (cases hi; done)
    obtain ⟨xs, rfl, hx⟩ := hk.agg_inv
    have := check_flat (w := w) em 20 10000 t n xs.toList true hn (flat_agg hn hag) (by omega) (by rw [hx.length]; simpa using hi)
    simpa [packX] using this

theorem keyEq_isKey {kk : KK} {k k' : V} {b : Bool} (h : keyEq kk k k' = some b) : isKey kk k = true ∧ isKey kk k' = true := by
  cases kk <;> cases k <;> simp only [keyEq] at h <;> try (cases h; done)
  · cases k' <;> simp only [keyEq] at h <;> try (cases h; done)
    exact ⟨rfl, rfl⟩
  · cases k' <;> simp only [keyEq] at h <;> try (cases h; done)
    exact ⟨rfl, rfl⟩
  · cases k' <;> simp only [keyEq] at h <;> try (cases h; done)
    split at h <;> try (cases h; done)
    rename_i hl
    exact ⟨by simp [isKey, hl], by simp [isKey, ← eqL_length h, hl]⟩

/-- The kind of keys that are looked at at once. -/
theorem keyEq_now {t : TypeId} {d : TypeDesc} {kk : KK} (hu : P.underlying t = some d) (hf : keyFits P t kk) {k k' : V} {x y : Value} (hk : VRel G k x) (hk' : VRel G k' y) {b : Bool} (h : keyEq kk k k' = some b) :
    (match kk with | .agg _ => Instr.sameNow d x y = none ∧ (Op.equal t x y).run P w = .ok b w | _ => Instr.sameNow d x y = some b) := by
  cases kk with
  | int =>
    obtain ⟨q, hq⟩ := hf
    rw [hu] at hq
    cases hq
    cases hk <;> simp only [keyEq] at h <;> try (cases h; done)
    cases hk' <;> simp only [keyEq] at h <;> try (cases h; done)
    simp only [Instr.sameNow]
    exact h
  | str =>
    have hq : P.underlying t = some .string := hf
    rw [hu] at hq
    cases hq
    cases hk <;> simp only [keyEq] at h <;> try (cases h; done)
    cases hk' <;> simp only [keyEq] at h <;> try (cases h; done)
    simp only [Instr.sameNow]
    exact h
  | agg n =>
    have h2 : (Op.equal t x y).run P w = .ok b w := by
      refine eqK_sound (e := .agg n) hf hk hk' ?_
      cases k <;> simp only [keyEq] at h <;> try (cases h; done)
      cases k' <;> simp only [keyEq] at h <;> try (cases h; done)
      exact h
    refine ⟨?_, h2⟩
    cases k <;> simp only [keyEq] at h <;> try (cases h; done)
    obtain ⟨xs, rfl, _⟩ := hk.agg_inv
    cases d <;> rfl

theorem mfindI_find {kk : KK} {k : V} : ∀ {es : List (V × V)} {r : Option V} (i : Nat), mfind kk k es = some r → ∃ q, mfindI kk k es i = some q ∧ (match q with | none => r = none | some j => i ≤ j ∧ j - i < es.length ∧ r = some (es.getD (j - i) default).2)
  | [], r, i, h => by cases h; exact ⟨none, rfl, rfl⟩
  | (k', v) :: es, r, i, h => by
    simp only [mfind] at h
    split at h <;> rename_i hq
    · cases h
      exact ⟨some i, by simp [mfindI, hq], Nat.le_refl _, by simp, by simp⟩
    · obtain ⟨q, h1, h2⟩ := mfindI_find (i + 1) h
      refine ⟨q, by simp [mfindI, hq, h1], ?_⟩
      cases q with
      | none => exact h2
      | some j =>
        obtain ⟨h3, h4, h5⟩ := h2
        refine ⟨by omega, by simp; omega, ?_⟩
        rw [h5, show j - i = (j - (i + 1)) + 1 by omega]
        rfl
    · cases h

theorem mfindI_put {kk : KK} {k v : V} : ∀ {es es' : List (V × V)} (i : Nat), mput kk k v es = some es' → ∃ q, mfindI kk k es i = some q ∧ (match q with | none => es' = es ++ [(k, v)] | some j => i ≤ j ∧ j - i < es.length ∧ es' = es.set (j - i) (k, v) ∧ keyEq kk k (es.getD (j - i) default).1 = some true)
  | [], es', i, h => by cases h; exact ⟨none, rfl, rfl⟩
  | (k', v') :: es, es', i, h => by
    simp only [mput] at h
    split at h <;> rename_i hq
    · cases h
      exact ⟨some i, by simp [mfindI, hq], Nat.le_refl _, by simp, by simp, by simpa using hq⟩
    · obtain ⟨es1, h0, rfl⟩ := Option.map_eq_some_iff.1 h
      obtain ⟨q, h1, h2⟩ := mfindI_put (i + 1) h0
      refine ⟨q, by simp [mfindI, hq, h1], ?_⟩
      cases q with
      | none => simp only at h2 ⊢; rw [h2]; rfl
      | some j =>
        obtain ⟨h3, h4, h5, h6⟩ := h2
        refine ⟨by omega, by simp; omega, ?_, ?_⟩
        · rw [h5, show j - i = (j - (i + 1)) + 1 by omega]
          rfl
        · rw [show j - i = (j - (i + 1)) + 1 by omega]
          exact h6
    · cases h

theorem mfindI_rem {kk : KK} {k : V} : ∀ {es es' : List (V × V)} (i : Nat), mrem kk k es = some es' → ∃ q, mfindI kk k es i = some q ∧ (match q with | none => es' = es | some j => i ≤ j ∧ j - i < es.length ∧ es' = es.eraseIdx (j - i))
  | [], es', i, h => by cases h; exact ⟨none, rfl, rfl⟩
  | (k', v') :: es, es', i, h => by
    simp only [mrem] at h
    split at h <;> rename_i hq
    · cases h
      exact ⟨some i, by simp [mfindI, hq], Nat.le_refl _, by simp, by simp⟩
    · obtain ⟨es1, h0, rfl⟩ := Option.map_eq_some_iff.1 h
      obtain ⟨q, h1, h2⟩ := mfindI_rem (i + 1) h0
      refine ⟨q, by simp [mfindI, hq, h1], ?_⟩
      cases q with
      | none => simp only at h2 ⊢; rw [h2]
      | some j =>
        obtain ⟨h3, h4, h5⟩ := h2
        refine ⟨by omega, by simp; omega, ?_⟩
        rw [h5, show j - i = (j - (i + 1)) + 1 by omega]
        rfl
    · cases h

/-- The entries of a map, one by one. -/
def EsRel (G : Gh) (es : List (V × V)) (E : List MapEntry) : Prop := E.length = es.length ∧ ∀ i, i < es.length → VRel G (es.getD i default).1 (E.getD i default).key ∧ VRel G (es.getD i default).2 (E.getD i default).val

theorem EsRel.cons_inv {e : V × V} {es : List (V × V)} {E : List MapEntry} (h : EsRel G (e :: es) E) : ∃ x F, E = x :: F ∧ VRel G e.1 x.key ∧ VRel G e.2 x.val ∧ EsRel G es F := by
  cases E with
  | nil => exact absurd h.1 (by simp)
  | cons x F => exact ⟨x, F, rfl, (h.2 0 (by simp)).1, (h.2 0 (by simp)).2, by simpa using h.1, fun i hi => h.2 (i + 1) (by simpa using hi)⟩

theorem findAsking_run {t : TypeId} {n : Nat} (hf : keyFits P t (.agg n)) {d : TypeDesc} (hu : P.underlying t = some d) {k : V} {x : Value} (hk : VRel G k x) : ∀ {es : List (V × V)} {E : List MapEntry} {q : Option Nat} (i : Nat), EsRel G es E → mfindI (.agg n) k es i = some q →
    (Instr.findAsking t x E i).run P w = .ok (q.map fun j => (j, (E.getD (j - i) default).val)) w
  | [], E, q, i, hE, h => by
    cases h
    rw [List.eq_nil_of_length_eq_zero hE.1]
    rfl
  | (k', v) :: es, E, q, i, hE, h => by
    obtain ⟨y, F, rfl, h1, h2, h3⟩ := hE.cons_inv
    simp only [mfindI] at h
    split at h <;> rename_i hq
    · cases h
      have := (keyEq_now (w := w) hu hf hk h1 hq).2
      simp [Instr.findAsking, this]
    · have := (keyEq_now (w := w) hu hf hk h1 hq).2
      have ih := findAsking_run hf hu hk (i + 1) h3 h
      simp only [Instr.findAsking, Sem.run_bind, this, Result.andThen_ok, Bool.false_eq_true, if_false, ih]
      cases q with
      | none => rfl
      | some j =>
        obtain hj : i + 1 ≤ j := by
          clear ih this hq hE h1 h2 h3
          revert h
          generalize hii : i + 1 = ii
          intro h
          have key : ∀ (es : List (V × V)) (a : Nat), mfindI (.agg n) k es a = some (some j) → a ≤ j := by
            intro es
            induction es with
            | nil => intro a h; cases h
            | cons e es ih =>
              intro a h
              obtain ⟨k1, v1⟩ := e
              simp only [mfindI] at h
              split at h
              · cases h; exact Nat.le_refl _
              · have := ih (a + 1) h; omega
              · cases h
          exact key es ii h
        simp only [Option.map_some, show j - i = (j - (i + 1)) + 1 by omega, List.getD_cons_succ]
    · cases h

theorem findNow_run {t : TypeId} {kk : KK} (hf : keyFits P t kk) {d : TypeDesc} (hu : P.underlying t = some d) (hkk : ∀ n, kk ≠ .agg n) {k : V} {x : Value} (hk : VRel G k x) : ∀ {es : List (V × V)} {E : List MapEntry} {q : Option Nat} (i : Nat), EsRel G es E → mfindI kk k es i = some q →
    Instr.findNow d x E i = some (q.map fun j => (j, (E.getD (j - i) default).val))
  | [], E, q, i, hE, h => by
    cases h
    rw [List.eq_nil_of_length_eq_zero hE.1]
    rfl
  | (k', v) :: es, E, q, i, hE, h => by
    obtain ⟨y, F, rfl, h1, h2, h3⟩ := hE.cons_inv
    have hs : ∀ b, keyEq kk k k' = some b → Instr.sameNow d x y.key = some b := fun b hq => by
      have := keyEq_now (w := default) hu hf hk h1 hq
      cases kk with
      | agg n => exact absurd rfl (hkk n)
      | int => exact this
      | str => exact this
    simp only [mfindI] at h
    split at h <;> rename_i hq
    · cases h
      simp [Instr.findNow, hs _ hq]
    · have ih := findNow_run hf hu hkk hk (i + 1) h3 h
      simp only [Instr.findNow, hs _ hq, ih]
      cases q with
      | none => rfl
      | some j =>
        have key : ∀ (es : List (V × V)) (a : Nat), mfindI kk k es a = some (some j) → a ≤ j := by
          intro es
          induction es with
          | nil => intro a h; cases h
          | cons e es ih =>
            intro a h
            obtain ⟨k1, v1⟩ := e
            simp only [mfindI] at h
            split at h
            · cases h; exact Nat.le_refl _
            · have := ih (a + 1) h; omega
            · cases h
        have := key es (i + 1) h
        simp only [Option.map_some, show j - i = (j - (i + 1)) + 1 by omega, List.getD_cons_succ]
    · cases h

theorem keyFits_desc {t : TypeId} {kk : KK} (hf : keyFits P t kk) : ∃ d, P.underlying t = some d := by
  cases kk with
  | int => obtain ⟨k, h⟩ := hf; exact ⟨_, h⟩
  | str => exact ⟨_, hf⟩
  | agg n =>
    obtain ⟨h, h2⟩ := hf
    unfold isAg at h2
    cases hu : P.underlying t with
    | none => rw [hu] at h2; cases h2
    | some d => exact ⟨d, rfl⟩

theorem findKey_run {t : TypeId} {kk : KK} (hf : keyFits P t kk) {k : V} {x : Value} (hk : VRel G k x) {es : List (V × V)} {E : List MapEntry} {q : Option Nat} (hE : EsRel G es E) (h : mfindI kk k es 0 = some q) :
    (Instr.findKey t x E).run P w = .ok (q.map fun j => (j, (E.getD j default).val)) w := by
  obtain ⟨d, hu⟩ := keyFits_desc hf
  unfold Instr.findKey
  simp only [Sem.run_bind, run_underlying hu, Result.andThen_ok]
  by_cases hkk : ∃ n, kk = .agg n
  · obtain ⟨n, rfl⟩ := hkk
    cases es with
    | nil =>
      cases h
      rw [List.eq_nil_of_length_eq_zero hE.1]
      rfl
    | cons e es =>
      have ha := findAsking_run (w := w) hf hu hk 0 hE h
      obtain ⟨y, F, rfl, h1, h2, h3⟩ := hE.cons_inv
      have hn : Instr.findNow d x (y :: F) 0 = none := by
        obtain ⟨k', v⟩ := e
        simp only [mfindI] at h
        have : ∃ b, keyEq (.agg n) k k' = some b := by
          split at h
          · exact ⟨_, ‹_›⟩
          · exact ⟨_, ‹_›⟩
          · cases h
        obtain ⟨b, hb⟩ := this
        simp [Instr.findNow, (keyEq_now (w := default) hu hf hk h1 hb).1]
      rw [hn]
      simpa using ha
  · have := findNow_run hf hu (fun n e => hkk ⟨n, e⟩) hk 0 hE h
    rw [this]
    simp

theorem run_getObj {r : Nat} {o : Obj} (h : w.heap[r]? = some o) (hc : ∀ a b c, o ≠ .cells a b c) : (getObj r).run P w = .ok o w := by
  cases o <;> first
    | exact absurd rfl (hc _ _ _)
    | simp [getObj, Sem.run, h]

theorem run_setObj {r : Nat} {o o' : Obj} (h : w.heap[r]? = some o) (hc : ∀ a b c, o ≠ .cells a b c) : (setObj r o').run P w = .ok () { w with heap := w.heap.setIfInBounds r o' } := by
  cases o <;> first
    | exact absurd rfl (hc _ _ _)
    | simp [setObj, Sem.run, h]

variable {B : Nat} {w0 : World} {st : St}

theorem toList_getD (E : Array MapEntry) (i : Nat) : E.toList.getD i default = E.getD i default := by rw [Array.getD_eq_getD_getElem?, List.getD_eq_getElem?_getD, Array.getElem?_toList]

/-- A map's block. -/
theorem mp_run (h : StRel B w0 G st w) {id : Nat} {x : Value} (hm : VRel G (.map (some id)) x) {es : List (V × V)} (hst : st id = some (.mp es)) :
    ∃ b l mm E clk, x = .map (some b) ∧ G.ι id = some (b, l, mm) ∧ w.heap[b]? = some (.map E clk) ∧ EsRel G es E.toList ∧ (E.toList.map (·.born)).Pairwise (· < ·) ∧ ∀ e ∈ E.toList, e.born < clk := by
  cases hm with
  | map id b l mm hι =>
    obtain ⟨b', l', m', k1, k2, E, clk, k3, k4, k5, k6, k7⟩ := h.obj id _ hst
    rw [hι] at k1
    cases k1
    exact ⟨b, l, mm, E, clk, rfl, hι, k3, ⟨by simpa using k4, fun i hi => by rw [toList_getD]; exact k5 i hi⟩, k6, k7⟩

theorem mpi_run (h : StRel B w0 G st w) {id : Nat} {x : Value} (hm : VRel G (.map (some id)) x) {es : List (V × V)} {bs : List Nat} {clk : Nat} (hst : st id = some (.mpi es bs clk)) :
    ∃ b l mm E, x = .map (some b) ∧ G.ι id = some (b, l, mm) ∧ w.heap[b]? = some (.map E clk) ∧ EsRel G es E.toList ∧ E.toList.map (·.born) = bs ∧ bs.Pairwise (· < ·) ∧ ∀ x ∈ bs, x < clk := by
  cases hm with
  | map id b l mm hι =>
    obtain ⟨b', l', m', k1, k2, E, k3, k4, k5, k6, k7, k8⟩ := h.obj id _ hst
    rw [hι] at k1
    cases k1
    exact ⟨b, l, mm, E, rfl, hι, k3, ⟨by simpa using k4, fun i hi => by rw [toList_getD]; exact k5 i hi⟩, k6, k7, k8⟩

theorem mapOf_run (h : StRel B w0 G st w) {m : V} {x : Value} (hm : VRel G m x) {es : List (V × V)} (he : mapOf st m = some es) :
    (x = .map none ∧ es = []) ∨ ∃ b E clk, x = .map (some b) ∧ w.heap[b]? = some (.map E clk) ∧ EsRel G es E.toList := by
  cases hm with
  | nilmap => cases he; exact .inl ⟨rfl, rfl⟩
  | map id b l mm hι =>
    right
    have hm : VRel G (.map (some id)) (.map (some b)) := .map id b l mm hι
    simp only [mapOf] at he
    split at he
    · rename_i es' hst
      cases he
      obtain ⟨b', _, _, E, clk, e1, _, e3, e4, _⟩ := mp_run h hm hst
      exact ⟨b', E, clk, e1, e3, e4⟩
    · rename_i es' bs clk hst
      cases he
      obtain ⟨b', _, _, E, e1, _, e3, e4, _⟩ := mpi_run h hm hst
      exact ⟨b', E, clk, e1, e3, e4⟩
    · cases he
  | _ => cases he

theorem lookup_run (h : StRel B w0 G st w) {t kt e : TypeId} {kk : KK} {z : V} (ht : P.underlying t = some (.map kt e)) (hkf : keyFits P kt kk) (hz : zeroV P e = some z) {m k v : V} {x y : Value}
    (hm : VRel G m x) (hk : VRel G k y) {ok : Bool} (hl : lookupV st kk z ok m k = some v) : ∃ r, (Instr.lookup t x y ok).run P w = .ok r w ∧ VRel G v r := by
  unfold lookupV at hl
  split at hl <;> try (cases hl; done)
  rename_i hik
  simp only [Option.bind_eq_bind] at hl
  obtain ⟨es, h1, hl⟩ := Option.bind_eq_some_iff.1 hl
  obtain ⟨r, h2, hl⟩ := Option.bind_eq_some_iff.1 hl
  cases hl
  obtain ⟨q, h3, h4⟩ := mfindI_find 0 h2
  obtain ⟨zz, hz1, hz2⟩ := Option.bind_eq_some_iff.1 hz
  obtain ⟨i, hz3, hz4⟩ := Option.bind_eq_some_iff.1 hz1
  have hzr : VRel G z zz := ofVal_rel hz2
  have hzv := run_zeroValue (P := P) hz3 hz4 w
  have fin : ∀ (E : List MapEntry) (em : Bool), EsRel G es E → ∃ rr, (do
      Instr.checkKey em 10000 kt y
      let (v, ok') ← match ← Instr.findKey kt y E with
        | some (_, v) => pure (v, true)
        | none => pure (← zeroValue e, false)
      pure (if ok then Value.tuple #[v, .bool ok'] else v) : Sem Value).run P w = .ok rr w ∧ VRel G (if ok then V.tup [r.getD z, .bool r.isSome] else r.getD z) rr := by
    intro E em hE
    have hc := checkKey_run (P := P) (w := w) hkf hk hik em
    have hf := findKey_run (w := w) hkf hk hE h3
    have pairRel : ∀ (v : V) (b : Bool) (u : Value), VRel G v u → VRel G (.tup [v, .bool b]) (.tuple #[u, .bool b]) := fun v b u hu => .tup _ _ rfl (fun i hi => by
      match i, hi with
      | 0, _ => exact hu
      | 1, _ => exact .bool b)
    cases q with
    | none =>
      subst h4
      refine ⟨if ok then .tuple #[zz, .bool false] else zz, ?_, ?_⟩
      · simp [hc, hf, hzv]
      · cases ok
        · exact hzr
        · exact pairRel _ _ _ hzr
    | some j =>
      obtain ⟨h5, h6, h7⟩ := h4
      subst h7
      have hv := (hE.2 j (by omega)).2
      refine ⟨if ok then .tuple #[(E.getD j default).val, .bool true] else (E.getD j default).val, ?_, ?_⟩
      · simp [hc, hf]
      · simp only [Nat.sub_zero] at *
        cases ok
        · exact hv
        · exact pairRel _ _ _ hv
  rcases mapOf_run h hm h1 with ⟨rfl, rfl⟩ | ⟨b, E, clk, rfl, g3, g4⟩
  · obtain ⟨rr, f1, f2⟩ := fin [] true ⟨rfl, fun i hi => absurd hi (by simp)⟩
    refine ⟨rr, ?_, f2⟩
    simp only [Instr.lookup, Sem.run_bind, run_underlying ht, Result.andThen_ok, Sem.run_pure] at f1 ⊢
    exact f1
  · obtain ⟨rr, f1, f2⟩ := fin E.toList E.isEmpty g4
    refine ⟨rr, ?_, f2⟩
    simp only [Instr.lookup, Sem.run_bind, run_underlying ht, Result.andThen_ok, run_getObj g3 (fun a b c e => by cases e), Sem.run_pure] at f1 ⊢
    exact f1

theorem sameBits_int (n : Nat) (k : IntKind) (a : Int) : Instr.sameBits n (.int k a) (.int k a) = true := by
  cases n <;> simp [Instr.sameBits]

theorem eqX_same (n : Nat) : ∀ {xs ys : List Value}, eqX xs ys = some true → (ys.zip xs).all (fun (x, y) => Instr.sameBits n x y) = true ∧ xs.length = ys.length
  | [], [], _ => by simp
  | [], _ :: _, h => by simp [eqX] at h
  | x :: _, [], h => by cases x <;> simp [eqX] at h
  | x :: xs, y :: ys, h => by
    cases x <;> cases y <;> simp only [eqX] at h <;> try (cases h; done)
    split at h
    · rename_i hk
      subst hk
      obtain ⟨r, h1, h2⟩ := Option.map_eq_some_iff.1 h
      simp only [Bool.and_eq_true, beq_iff_eq] at h2
      obtain ⟨rfl, rfl⟩ := h2
      obtain ⟨h3, h4⟩ := eqX_same n h1
      exact ⟨by simp only [List.zip_cons_cons, List.all_cons, sameBits_int, Bool.true_and]; exact h3, by simp [h4]⟩
    · cases h

theorem keyEq_same {kk : KK} {k k' : V} {x y : Value} (hk : VRel G k x) (hk' : VRel G k' y) (h : keyEq kk k k' = some true) : Instr.sameBits 10000 y x = true := by
  cases kk with
  | int =>
    cases hk <;> simp only [keyEq] at h <;> try (cases h; done)
    cases hk' <;> simp only [keyEq] at h <;> try (cases h; done)
    split at h
    · rename_i e
      subst e
      simp only [Option.some.injEq, beq_iff_eq] at h
      subst h
      exact sameBits_int _ _ _
    · cases h
  | str =>
    cases hk <;> simp only [keyEq] at h <;> try (cases h; done)
    cases hk' <;> simp only [keyEq] at h <;> try (cases h; done)
    simp only [Option.some.injEq] at h
    rw [beq_toListBytes, beq_iff_eq] at h
    show Instr.sameBits (9999 + 1) _ _ = true
    generalize 9999 = d
    simp only [Instr.sameBits]
    rw [beq_toListBytes, beq_iff_eq]
    exact h.symm
  | agg n =>
    cases k <;> simp only [keyEq] at h <;> try (cases h; done)
    cases k' <;> simp only [keyEq] at h <;> try (cases h; done)
    split at h <;> try (cases h; done)
    obtain ⟨xs, rfl, hx⟩ := hk.agg_inv
    obtain ⟨ys, rfl, hy⟩ := hk'.agg_inv
    have hq := eqL_eqX hx.1 hy.1 h
    obtain ⟨h1, h2⟩ := eqX_same 9999 hq
    show Instr.sameBits (9999 + 1) (.agg ys) (.agg xs) = true
    generalize 9999 = d at h1 ⊢
    simp only [Instr.sameBits, Bool.and_eq_true, beq_iff_eq]
    exact ⟨by simpa using h2.symm, h1⟩

theorem getD_set {α : Type} (l : List α) (i j : Nat) (x d : α) (hi : i < l.length) : (l.set i x).getD j d = if j = i then x else l.getD j d := by
  rw [List.getD_eq_getElem?_getD, List.getElem?_set]
  by_cases h : i = j
  · subst h; simp [hi]
  · rw [if_neg h, if_neg (fun e => h e.symm), List.getD_eq_getElem?_getD]

theorem EsRel.set {es : List (V × V)} {E : List MapEntry} (h : EsRel G es E) (i : Nat) (hi : i < es.length) {k v : V} {e : MapEntry} (hk : VRel G k e.key) (hv : VRel G v e.val) : EsRel G (es.set i (k, v)) (E.set i e) := by
  refine ⟨by simp [h.1], fun j hj => ?_⟩
  rw [List.length_set] at hj
  rw [getD_set _ _ _ _ _ hi, getD_set _ _ _ _ _ (by rw [h.1]; exact hi)]
  by_cases e : j = i
  · simp only [e, if_true]; exact ⟨hk, hv⟩
  · simp only [e, if_false]; exact h.2 j hj

theorem EsRel.push {es : List (V × V)} {E : List MapEntry} (h : EsRel G es E) {k v : V} {e : MapEntry} (hk : VRel G k e.key) (hv : VRel G v e.val) : EsRel G (es ++ [(k, v)]) (E ++ [e]) := by
  refine ⟨by simp [h.1], fun j hj => ?_⟩
  simp only [List.length_append, List.length_singleton] at hj
  by_cases e' : j < es.length
  · rw [List.getD_eq_getElem?_getD, List.getElem?_append_left e', List.getD_eq_getElem?_getD, List.getElem?_append_left (by rw [h.1]; exact e'), ← List.getD_eq_getElem?_getD, ← List.getD_eq_getElem?_getD]
    exact h.2 j e'
  · have hj' : j = es.length := by omega
    subst hj'
    rw [List.getD_eq_getElem?_getD, List.getElem?_append_right (Nat.le_refl _), List.getD_eq_getElem?_getD, List.getElem?_append_right (by rw [h.1]; omega)]
    simp only [Nat.sub_self, h.1]
    exact ⟨hk, hv⟩

theorem EsRel.erase {es : List (V × V)} {E : List MapEntry} (h : EsRel G es E) (i : Nat) (hi : i < es.length) : EsRel G (es.eraseIdx i) (E.eraseIdx i) := by
  have hi' : i < E.length := by rw [h.1]; exact hi
  refine ⟨by rw [List.length_eraseIdx_of_lt hi', List.length_eraseIdx_of_lt hi, h.1], fun j hj => ?_⟩
  rw [List.length_eraseIdx_of_lt hi] at hj
  rw [List.getD_eq_getElem?_getD, List.getElem?_eraseIdx, List.getD_eq_getElem?_getD, List.getElem?_eraseIdx]
  by_cases e : j < i
  · rw [if_pos e, if_pos e, ← List.getD_eq_getElem?_getD, ← List.getD_eq_getElem?_getD]; exact h.2 j (by omega)
  · rw [if_neg e, if_neg e, ← List.getD_eq_getElem?_getD, ← List.getD_eq_getElem?_getD]; exact h.2 (j + 1) (by omega)

theorem EsRel.obj {es : List (V × V)} {E : Array MapEntry} (h : EsRel G es E.toList) : E.size = es.length ∧ ∀ i, i < es.length → VRel G (es.getD i default).1 (E.getD i default).key ∧ VRel G (es.getD i default).2 (E.getD i default).val :=
  ⟨by simpa using h.1, fun i hi => by
    have e : E.toList.getD i default = E.getD i default := by rw [Array.getD_eq_getD_getElem?, List.getD_eq_getElem?_getD, Array.getElem?_toList]
    rw [← e]
    exact h.2 i hi⟩

/-- A map's block is written. -/
theorem StRel.setMap (h : StRel B w0 G st w) {id b l mm : Nat} {es es' : List (V × V)} {E E' : Array MapEntry} {clk clk' : Nat} (hid : st id = some (.mp es)) (hι : G.ι id = some (b, l, mm)) (hb : w.heap[b]? = some (.map E clk))
    (hE : EsRel G es' E'.toList) (h1 : (E'.toList.map (·.born)).Pairwise (· < ·)) (h2 : ∀ e ∈ E'.toList, e.born < clk') :
    StRel B w0 G (st.upd id (.mp es')) { w with heap := w.heap.setIfInBounds b (.map E' clk') } := by
  have hlt := lt_of_heap hb
  refine h.setObj hid (fun cs e => by cases e) hι rfl rfl rfl (by simp) (fun k hk => ?_) (fun o => ?_) ⟨E', clk', ?_, hE.obj.1, hE.obj.2, h1, h2⟩
  · simp only [Array.getElem?_setIfInBounds_ne (Ne.symm hk)]
  · cases hp : G.pm b o with
    | none => rfl
    | some v =>
      have := h.pm b o v hp
      simp [World.cell?, hb] at this
  · simp [hlt]

theorem map_eraseIdx' {α β : Type} (f : α → β) (l : List α) (j : Nat) : (l.eraseIdx j).map f = (l.map f).eraseIdx j := by
  induction l generalizing j with
  | nil => simp
  | cons a l ih => cases j <;> simp [ih]

theorem mfindI_some {kk : KK} {k : V} : ∀ {es : List (V × V)} {j : Nat} (i : Nat), mfindI kk k es i = some (some j) → ∃ _ : Unit, i ≤ j ∧ j - i < es.length
  | [], j, i, h => by simp [mfindI] at h
  | (k', v') :: es, j, i, h => by
    simp only [mfindI] at h
    split at h
    · cases h; exact ⟨(), Nat.le_refl _, by simp⟩
    · obtain ⟨_, h1, h2⟩ := mfindI_some (i + 1) h
      exact ⟨(), by omega, by simp only [List.length_cons]; omega⟩
    · cases h

/-- A block of a map that is gone through is written. -/
theorem StRel.setMapI (h : StRel B w0 G st w) {id b l mm : Nat} {ob : AObj} (hid : st id = some ob) (hro : ∀ cs, ob ≠ .ro cs) {es' : List (V × V)} {bs' : List Nat} {E E' : Array MapEntry} {clk clk' : Nat} (hι : G.ι id = some (b, l, mm)) (hb : w.heap[b]? = some (.map E clk))
    (hE : EsRel G es' E'.toList) (h0 : E'.toList.map (·.born) = bs') (h1 : bs'.Pairwise (· < ·)) (h2 : ∀ x ∈ bs', x < clk') :
    StRel B w0 G (st.upd id (.mpi es' bs' clk')) { w with heap := w.heap.setIfInBounds b (.map E' clk') } := by
  have hlt := lt_of_heap hb
  refine h.setObj hid hro hι rfl rfl rfl (by simp) (fun k hk => ?_) (fun o => ?_) ⟨E', ?_, hE.obj.1, hE.obj.2, h0, h1, h2⟩
  · simp only [Array.getElem?_setIfInBounds_ne (Ne.symm hk)]
  · cases hp : G.pm b o with
    | none => rfl
    | some v =>
      have := h.pm b o v hp
      simp [World.cell?, hb] at this
  · simp [hlt]

theorem mset_run (h : StRel B w0 G st w) {t kt e : TypeId} {kk : KK} (ht : P.underlying t = some (.map kt e)) (hkf : keyFits P kt kk) {m k v : V} {x y z : Value}
    (hm : VRel G m x) (hk : VRel G k y) (hv : VRel G v z) {st' : St} (hl : msetS st kk m k v = some st') : ∃ w', (Instr.mapUpdate t x y z).run P w = .ok () w' ∧ StRel B w0 G st' w' := by
  cases m <;> simp only [msetS] at hl <;> try (cases hl; done)
  rename_i mo
  cases mo with
  | none => simp only [msetS] at hl; cases hl
  | some id =>
    simp only [msetS] at hl
    split at hl <;> try (cases hl; done)
    rename_i hik
    split at hl <;> try (cases hl; done)
    rename_i es hst
    obtain ⟨es', hp, he⟩ := Option.map_eq_some_iff.1 hl
    subst he
    have g1 := hst
    obtain ⟨b, l, mm, E, clk, rfl, g2, g3, g4, g5, g6⟩ := mp_run h hm hst
    · obtain ⟨q, h3, h4⟩ := mfindI_put 0 hp
      have hc := checkKey_run (P := P) (w := w) hkf hk hik false
      have hf := findKey_run (w := w) hkf hk g4 h3
      have hgo := run_getObj (P := P) g3 (fun a b c e => by cases e)
      cases q with
      | none =>
        subst h4
        refine ⟨{ w with heap := w.heap.setIfInBounds b (.map (E.push { key := y, val := z, born := clk }) (clk + 1)) }, ?_, ?_⟩
        · simp only [Option.map_none] at hf
          simp only [Instr.mapUpdate, Sem.run_bind, run_underlying ht, Result.andThen_ok, hgo, hc, hf, run_setObj g3 (fun a b c e => by cases e)]
        · refine h.setMap g1 g2 g3 (by simpa using g4.push (e := { key := y, val := z, born := clk }) hk hv) ?_ ?_
          · simp only [Array.toList_push, List.map_append, List.map_cons, List.map_nil]
            rw [List.pairwise_append]
            refine ⟨g5, by simp, fun a ha c hc => ?_⟩
            simp only [List.mem_singleton] at hc
            obtain ⟨e, he, rfl⟩ := List.mem_map.1 ha
            rw [hc]
            exact g6 e he
          · intro e he
            simp only [Array.toList_push, List.mem_append, List.mem_singleton] at he
            rcases he with he | rfl
            · have := g6 e he; omega
            · simp
      | some j =>
        obtain ⟨h5, h6, h7, h8⟩ := h4
        simp only [Nat.sub_zero] at h6 h7 h8
        subst h7
        have hjE : j < E.size := by have := g4.1; simp at this; omega
        have hEj : E.toList.getD j default = E[j] := by rw [List.getD_eq_getElem?_getD, Array.getElem?_toList, Array.getElem?_eq_getElem hjE]; rfl
        have hsb := keyEq_same hk (g4.2 j h6).1 h8
        rw [hEj] at hsb
        have hks : (Instr.keyThatStays (((E[j]?).map (·.key)).getD y) y).run P w = .ok y w := by
          rw [Array.getElem?_eq_getElem hjE]
          simp [Instr.keyThatStays, hsb]
        refine ⟨{ w with heap := w.heap.setIfInBounds b (.map (E.modify j fun e => { e with key := y, val := z }) clk) }, ?_, ?_⟩
        · simp only [Option.map_some] at hf
          simp only [Instr.mapUpdate, Sem.run_bind, run_underlying ht, Result.andThen_ok, hgo, hc, hf, hks, run_setObj g3 (fun a b c e => by cases e)]
        · have hmod : (E.modify j fun e => { e with key := y, val := z }).toList = E.toList.set j { E[j] with key := y, val := z } := by
            apply List.ext_getElem?
            intro i
            rw [Array.getElem?_toList, Array.getElem?_modify, List.getElem?_set]
            by_cases hi : j = i
            · subst hi; simp [hjE]
            · simp [hi]
          have hbn : ((E.modify j fun e => { e with key := y, val := z }).toList.map (·.born)) = E.toList.map (·.born) := by
            rw [hmod]
            apply List.ext_getElem?
            intro i
            rw [List.getElem?_map, List.getElem?_map, List.getElem?_set]
            by_cases hi : j = i
            · subst hi; simp [hjE]
            · simp [hi]
          refine h.setMap g1 g2 g3 (by rw [hmod]; exact g4.set j h6 hk hv) (by rw [hbn]; exact g5) (fun e he => ?_)
          have hm : e.born ∈ (E.modify j fun e => { e with key := y, val := z }).toList.map (·.born) := List.mem_map.2 ⟨e, he, rfl⟩
          rw [hbn] at hm
          obtain ⟨e', he', hb'⟩ := List.mem_map.1 hm
          rw [← hb']
          exact g6 e' he'

theorem mdel_run (h : StRel B w0 G st w) {t u kt e : TypeId} {kk : KK} {ty : TypeId} (ht : P.underlying t = some (.map kt e)) (hkf : keyFits P kt kk) {m k : V} {x y : Value}
    (hm : VRel G m x) (hk : VRel G k y) {st' : St} (hl : mdelS st kk m k = some st') : ∃ w', (Builtin.delete_ #[t, u] ty #[x, y]).run P w = .ok (.tuple #[]) w' ∧ StRel B w0 G st' w' := by
  cases m <;> simp only [mdelS] at hl <;> try (cases hl; done)
  rename_i mo
  cases mo with
  | none =>
    simp only [mdelS] at hl
    split at hl <;> cases hl
    rename_i hik
    have hc := checkKey_run (P := P) (w := w) hkf hk hik true
    cases hm
    refine ⟨w, ?_, h⟩
    simp [Builtin.delete_, run_underlying ht, hc]
  | some id =>
    simp only [mdelS] at hl
    split at hl <;> try (cases hl; done)
    rename_i hik
    split at hl <;> try (cases hl; done)
    case h_2 es bs clk hst =>
      obtain ⟨q, h3, h4⟩ := Option.map_eq_some_iff.1 hl
      obtain ⟨b, l, mm, E, rfl, g2, g3, g4, g5, g6, g7⟩ := mpi_run h hm hst
      have hc := checkKey_run (P := P) (w := w) hkf hk hik E.isEmpty
      have hf := findKey_run (w := w) hkf hk g4 h3
      have hgo := run_getObj (P := P) g3 (fun a b c e => by cases e)
      have hlt := lt_of_heap g3
      cases q with
      | none =>
        cases h4
        refine ⟨{ w with heap := w.heap.setIfInBounds b (.map E clk) }, ?_, ?_⟩
        · simp only [Option.map_none] at hf
          simp [Builtin.delete_, run_underlying ht, hgo, hc, hf, run_setObj g3 (fun a b c e => by cases e)]
        · have : ({ w with heap := w.heap.setIfInBounds b (.map E clk) } : World) = w := by
            have he : w.heap.setIfInBounds b (.map E clk) = w.heap := by
              apply Array.ext_getElem?
              intro i
              by_cases hi : i = b
              · subst hi; simp only [Array.getElem?_setIfInBounds_self_of_lt hlt, g3]
              · rw [Array.getElem?_setIfInBounds_ne (fun e => hi e.symm)]
            rw [he]
          rw [this]
          exact h
      | some j =>
        cases h4
        obtain ⟨q, f1, f2⟩ := mfindI_some 0 h3
        simp only [Nat.sub_zero] at f2
        have hjE : j < E.size := by have := g4.1; simp at this; omega
        have hE' : (E.eraseIdxIfInBounds j).toList = E.toList.eraseIdx j := by
          rw [Array.eraseIdxIfInBounds, dif_pos hjE, Array.toList_eraseIdx]
        refine ⟨{ w with heap := w.heap.setIfInBounds b (.map (E.eraseIdxIfInBounds j) clk) }, ?_, ?_⟩
        · simp only [Option.map_some] at hf
          simp [Builtin.delete_, run_underlying ht, hgo, hc, hf, run_setObj g3 (fun a b c e => by cases e)]
        · refine h.setMapI hst (fun cs e => by cases e) g2 g3 (by rw [hE']; exact g4.erase j f2) (by rw [hE', ← g5]; exact (map_eraseIdx' _ _ _)) (g6.sublist (List.eraseIdx_sublist _ _)) (fun x hx => g7 x (List.mem_of_mem_eraseIdx hx))
    rename_i es hst
    obtain ⟨es', hp, he⟩ := Option.map_eq_some_iff.1 hl
    subst he
    have g1 := hst
    obtain ⟨b, l, mm, E, clk, rfl, g2, g3, g4, g5, g6⟩ := mp_run h hm hst
    · obtain ⟨q, h3, h4⟩ := mfindI_rem 0 hp
      have hc := checkKey_run (P := P) (w := w) hkf hk hik E.isEmpty
      have hf := findKey_run (w := w) hkf hk g4 h3
      have hgo := run_getObj (P := P) g3 (fun a b c e => by cases e)
      cases q with
      | none =>
        subst h4
        refine ⟨{ w with heap := w.heap.setIfInBounds b (.map E clk) }, ?_, h.setMap g1 g2 g3 g4 g5 g6⟩
        simp only [Option.map_none] at hf
        simp [Builtin.delete_, run_underlying ht, hgo, hc, hf, run_setObj g3 (fun a b c e => by cases e)]
      | some j =>
        obtain ⟨h5, h6, h7⟩ := h4
        simp only [Nat.sub_zero] at h6 h7
        subst h7
        have hjE : j < E.size := by have := g4.1; simp at this; omega
        have hE' : (E.eraseIdxIfInBounds j).toList = E.toList.eraseIdx j := by
          rw [Array.eraseIdxIfInBounds, dif_pos hjE, Array.toList_eraseIdx]
        refine ⟨{ w with heap := w.heap.setIfInBounds b (.map (E.eraseIdxIfInBounds j) clk) }, ?_, h.setMap g1 g2 g3 (by rw [hE']; exact g4.erase j h6) ?_ ?_⟩
        · simp only [Option.map_some] at hf
          simp [Builtin.delete_, run_underlying ht, hgo, hc, hf, run_setObj g3 (fun a b c e => by cases e)]
        · rw [hE']
          exact g5.sublist ((List.eraseIdx_sublist _ _).map _)
        · rw [hE']
          intro e he
          exact g6 e (List.mem_of_mem_eraseIdx he)
end
end Go.Ab
