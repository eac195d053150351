/-
  Of the operations of a region in no fixed order: which may change places. Here: abstractly.
-/
import Derived.Test.YtpmfkckookkgmaaAbFrame
set_option linter.unusedSimpArgs false
set_option linter.unusedVariables false
namespace Go.Ab
open Go Go.RowKit

def POp.xs : POp → List X
  | .mv x | .nilck x | .not x | .neg x | .inv x | .conv _ x | .same x | .toStr x | .toBytes x | .fldA _ x | .fld _ _ _ x | .load _ _ x | .lenStr x | .lenSl x | .lenMap x | .ext _ x | .box x | .clear _ _ x | .rngStr x | .nextStr x | .rngMap x | .nextMap x | .entry x => [x]
  | .pick c a b => [c, a, b]
  | .bin _ x y | .eqa _ _ x y | .idxArr _ _ x y | .idxSl _ x y | .idx _ _ _ x y | .idxStr x y | .store _ x y | .lookup _ _ _ x y | .mdel _ x y | .mksl _ _ _ _ x y | .app _ _ x y | .appz _ _ x y => [x, y]
  | .mset _ x y z => [x, y, z]
  | .build _ ps | .bsl _ _ _ _ ps => ps.map fun p => p.2.2
  | .slStr x lo hi | .slArr _ _ _ x lo hi | .slw _ x lo hi => x :: (lo.toList ++ hi.toList)
  | .sl _ x lo hi mx | .chk3 x lo hi mx => x :: (lo.toList ++ (hi.toList ++ mx.toList))
  | .lenK _ | .mkmap | .alloc _ => []
  | .mkf _ l | .max l | .min l | .call _ l => l
  | .callv f l => f :: l

def X.slots : X → List Nat
  | .t i => [i]
  | .k _ => []

def POp.slots (o : POp) : List Nat := o.xs.flatMap X.slots

/-- Two frames alike at all that an operation looks at. -/
def Alike (l : List X) (env env' : Env) : Prop := ∀ x ∈ l, X.ev env x = X.ev env' x

theorem Alike.of {l : List X} {env env' : Env} (h : ∀ t ∈ l.flatMap X.slots, env t = env' t) : Alike l env env' := fun x hx => by
  cases x with
  | t i => exact h i (List.mem_flatMap.2 ⟨_, hx, by simp [X.slots]⟩)
  | k v => rfl

theorem Alike.head {x : X} {l : List X} {env env' : Env} (h : Alike (x :: l) env env') : x.ev env = x.ev env' := h x (by simp)
theorem Alike.tail {x : X} {l : List X} {env env' : Env} (h : Alike (x :: l) env env') : Alike l env env' := fun y hy => h y (by simp [hy])
theorem Alike.left {l m : List X} {env env' : Env} (h : Alike (l ++ m) env env') : Alike l env env' := fun y hy => h y (by simp [hy])
theorem Alike.right {l m : List X} {env env' : Env} (h : Alike (l ++ m) env env') : Alike m env env' := fun y hy => h y (by simp [hy])
theorem Alike.evs {l : List X} {env env' : Env} (h : Alike l env env') : l.map (·.ev env) = l.map (·.ev env') := List.map_congr_left h
theorem Alike.parts {l : List (Nat × Nat × X)} {env env' : Env} (h : Alike (l.map fun p => p.2.2) env env') : l.map (fun p => (p.1, p.2.1, p.2.2.ev env)) = l.map (fun p => (p.1, p.2.1, p.2.2.ev env')) :=
  List.map_congr_left fun p hp => by rw [h p.2.2 (List.mem_map.2 ⟨p, hp, rfl⟩)]

theorem boundOf_alike {x : Option X} {env env' : Env} (h : Alike x.toList env env') (d : Nat) : boundOf env d x = boundOf env' d x := by
  cases x with
  | none => rfl
  | some x => simp only [boundOf, h x (by simp)]

theorem bounds_alike {lo hi : Option X} {env env' : Env} (h : Alike lo.toList env env') (h' : Alike hi.toList env env') (n : Nat) : bounds env n lo hi = bounds env' n lo hi := by
  simp only [bounds, boundOf_alike h, boundOf_alike h']

theorem slV_alike {lo hi mx : Option X} {env env' : Env} (h : Alike lo.toList env env') (h' : Alike hi.toList env env') (h'' : Alike mx.toList env env') (sz : Nat) (v : V) : slV env sz lo hi mx v = slV env' sz lo hi mx v := by
  have hm : ∀ x, mx = some x → x.ev env = x.ev env' := fun x e => h'' x (by simp [e])
  cases v with
  | sl k cs n =>
    simp only [slV, bounds_alike h h']
    generalize bounds env' n lo hi = b
    cases mx with
    | none => cases b <;> rfl
    | some x => cases b with
      | none => rfl
      | some q => simp only [hm x rfl]
  | hsl id off sz' n =>
    simp only [slV, bounds_alike h h']
  | _ => rfl

theorem slArrV_alike {lo hi : Option X} {env env' : Env} (h : Alike lo.toList env env') (h' : Alike hi.toList env env') (st : St) (al : Bool) (n sz : Nat) (v : V) : slArrV st env al n sz lo hi v = slArrV st env' al n sz lo hi v := by
  unfold slArrV
  simp only [bounds_alike h h']

theorem slwV_alike {lo hi : Option X} {env env' : Env} (h : Alike lo.toList env env') (h' : Alike hi.toList env env') (st : St) (sz : Nat) (v : V) : slwV st env sz lo hi v = slwV st env' sz lo hi v := by
  unfold slwV
  simp only [boundOf_alike h, boundOf_alike h']

theorem chk3V_alike {lo hi mx : Option X} {env env' : Env} (h : Alike lo.toList env env') (h' : Alike hi.toList env env') (h'' : Alike mx.toList env env') (v : V) : chk3V env lo hi mx v = chk3V env' lo hi mx v := by
  unfold chk3V
  simp only [boundOf_alike h, boundOf_alike h', boundOf_alike h'']

theorem opV_alike (o : POp) {env env' : Env} (h : Alike o.xs env env') (st : St) : opV o env st = opV o env' st := by
  cases o <;> simp only [POp.xs] at h
  case slStr x lo hi => simp only [opV, h.head, bounds_alike h.tail.left h.tail.right]
  case sl sz x lo hi mx => simp only [opV, h.head, slV_alike h.tail.left h.tail.right.left h.tail.right.right]
  case slArr al n sz x lo hi => simp only [opV, h.head, slArrV_alike h.tail.left h.tail.right]
  case slw sz x lo hi => simp only [opV, h.head, slwV_alike h.tail.left h.tail.right]
  case chk3 x lo hi mx => simp only [opV, h.head, chk3V_alike h.tail.left h.tail.right.left h.tail.right.right]
  case build z ps => simp only [opV, h.parts]
  case bsl b sz n z ps => cases b <;> simp only [opV, h.parts]
  case mkf f l => simp only [opV, h.evs]
  case max l => cases l with | nil => rfl | cons x l => simp only [opV, h.head, h.tail.evs]
  case min l => cases l with | nil => rfl | cons x l => simp only [opV, h.head, h.tail.evs]
  all_goals first
    | rfl
    | (simp only [opV, h.head]; done)
    | (simp only [opV, h.head, h.tail.head]; done)
    | (simp only [opV, h.head, h.tail.head, h.tail.tail.head]; done)

theorem opS_alike (o : POp) {env env' : Env} (h : Alike o.xs env env') (st : St) : opS o env st = opS o env' st := by
  cases o <;> simp only [POp.xs] at h
  all_goals first
    | rfl
    | (simp only [opS, h.head, h.tail.head]; done)
    | (simp only [opS, h.head, h.tail.head, h.tail.tail.head]; done)

theorem opA_alike (o : POp) {env env' : Env} (h : Alike o.xs env env') (st : St) : opA o env st = opA o env' st := by
  cases o <;> simp only [POp.xs] at h
  case bsl b sz n z ps => cases b <;> simp only [opA, h.parts]
  all_goals first
    | rfl
    | (simp only [opA, h.head]; done)

theorem stepP_alike {P : Program} (o : POp) {env env' : Env} (h : Alike o.xs env env') (st : St) (K : V → St → Prop) : stepP P o env st K = stepP P o env' st K := by
  have h1 := opV_alike o h st
  have h2 := opS_alike o h st
  have h3 := opA_alike o h st
  cases o
  case call f l => simp only [POp.xs] at h; simp only [stepP, h.evs]
  case callv f l => simp only [POp.xs] at h; simp only [stepP, h.head, h.tail.evs]
  case app sz b x y => simp only [POp.xs] at h; simp only [stepP, h.head, h.tail.head]
  case mksl ob sz b z x y => simp only [POp.xs] at h; simp only [stepP, h.head, h.tail.head]
  case clear sz z x => simp only [POp.xs] at h; simp only [stepP, h.head]
  case nextStr x => simp only [POp.xs] at h; simp only [stepP, h.head]
  case rngMap x => simp only [POp.xs] at h; simp only [stepP, h.head]
  case nextMap x => simp only [POp.xs] at h; simp only [stepP, h.head]
  case appz sz b x y => simp only [POp.xs] at h; simp only [stepP, h.head, h.tail.head]
  all_goals
    simp only [stepP, h1, h2, h3]

theorem stepP_mono {P : Program} (o : POp) {env : Env} {st : St} {K K' : V → St → Prop} (hk : ∀ v s, K v s → K' v s) (h : stepP P o env st K) : stepP P o env st K' := by
  have key : ∀ (o : POp), (if o.makes then match opA o env st with | some (ob, mk) => ∀ id, st id = none → K (mk id) (st.upd id ob) | none => False
      else if o.writes then match opS o env st with | some st' => K .junk st' | none => False
      else match opV o env st with | some v => K v st | none => False) →
      (if o.makes then match opA o env st with | some (ob, mk) => ∀ id, st id = none → K' (mk id) (st.upd id ob) | none => False
      else if o.writes then match opS o env st with | some st' => K' .junk st' | none => False
      else match opV o env st with | some v => K' v st | none => False) := by
    intro o h
    split
    · rename_i hm
      rw [if_pos hm] at h
      split <;> rename_i hx <;> rw [hx] at h
      · exact fun id hid => hk _ _ (h id hid)
      · exact h
    · rename_i hm
      rw [if_neg hm] at h
      split
      · rename_i hw
        rw [if_pos hw] at h
        split <;> rename_i hx <;> rw [hx] at h
        · exact hk _ _ h
        · exact h
      · rename_i hw
        rw [if_neg hw] at h
        split <;> rename_i hx <;> rw [hx] at h
        · exact hk _ _ h
        · exact h
  have key := key o
  cases o
  case call f l => exact ACalls.mono h hk
  case callv f l =>
    simp only [stepP] at h ⊢
    split at h
    · exact ⟨h.1, ACalls.mono h.2 hk⟩
    · exact h
  case app sz b x y =>
    simp only [stepP] at h ⊢
    cases he : elems st sz (y.ev env) with
    | none => rw [he] at h; exact h
    | some q =>
      obtain ⟨ys, m⟩ := q
      rw [he] at h
      simp only at h ⊢
      generalize x.ev env = xv at h ⊢
      cases xv with
      | sl k cs n =>
        obtain ⟨h1, h2, h3, h4, h5⟩ := h
        exact ⟨h1, h2, h3, fun e => hk _ _ (h4 e), fun e id hid => hk _ _ (h5 e id hid)⟩
      | hsl id off sz' n =>
        simp only at h ⊢
        split at h <;> try exact h
        obtain ⟨h1, h2, h3⟩ := h
        refine ⟨h1, h2, ?_⟩
        split at h3
        · rename_i hc
          rw [if_pos hc]
          exact hk _ _ h3
        · rename_i hc
          rw [if_neg hc]
          exact ⟨h3.1, h3.2.1, fun id' hid' => hk _ _ (h3.2.2 id' hid')⟩
      | _ => exact h
  case mksl ob sz b z x y =>
    simp only [stepP] at h ⊢
    split at h <;> try exact h
    obtain ⟨h1, h2, h3, h4⟩ := h
    refine ⟨h1, h2, h3, ?_⟩
    split at h4
    · rename_i hc
      rw [if_pos hc]
      exact fun id hid => hk _ _ (h4 id hid)
    · rename_i hc
      rw [if_neg hc]
      exact hk _ _ h4
  case clear sz z x =>
    simp only [stepP] at h ⊢
    generalize x.ev env = xv at h ⊢
    cases xv with
    | hsl id off sz' n =>
      simp only at h ⊢
      split at h <;> try exact h
      exact ⟨h.1, h.2.1, h.2.2.1, hk _ _ h.2.2.2⟩
    | sl k cs n => cases k <;> cases cs <;> cases n <;> first | exact h.elim | exact hk _ _ h
    | _ => exact h
  case nextStr x =>
    simp only [stepP] at h ⊢
    split at h <;> try exact h
    split at h <;> try exact h
    split at h
    · rename_i hc
      rw [if_pos hc]
      exact hk _ _ h
    · rename_i hc
      rw [if_neg hc]
      exact hk _ _ h
  case rngMap x =>
    simp only [stepP] at h ⊢
    split at h <;> try exact h
    · exact fun it hit => hk _ _ (h it hit)
    · split at h <;> try exact h
      exact fun it hit bs clk e1 e2 e3 => hk _ _ (h it hit bs clk e1 e2 e3)
  case nextMap x =>
    simp only [stepP] at h ⊢
    split at h <;> try exact h
    split at h <;> try exact h
    · exact hk _ _ h
    · split at h <;> try exact h
      exact ⟨h.1, h.2.1, h.2.2.1, fun e => hk _ _ (h.2.2.2.1 e), fun i hi hn => hk _ _ (h.2.2.2.2 i hi hn)⟩
  case appz sz b x y =>
    simp only [stepP] at h ⊢
    cases he : elems st sz (y.ev env) with
    | none => rw [he] at h; exact h
    | some q =>
      obtain ⟨ys, m⟩ := q
      rw [he] at h
      simp only at h ⊢
      generalize x.ev env = xv at h ⊢
      cases xv with
      | sl k cs n =>
        obtain ⟨h1, h2, h3, h4, h5⟩ := h
        exact ⟨h1, h2, h3, fun e => hk _ _ (h4 e), fun e => hk _ _ (h5 e)⟩
      | hsl id off sz' n =>
        simp only at h ⊢
        split at h <;> try exact h
        obtain ⟨h1, h2, h3, h4, h5⟩ := h
        exact ⟨h1, h2, h3, h4, hk _ _ h5⟩
      | _ => exact h
  all_goals exact key h

theorem stillP_alike {P : Program} (o : POp) {env env' : Env} (h : Alike o.xs env env') (st : St) (K : V → Prop) : stillP P o env st K = stillP P o env' st K := by
  have h1 := opV_alike o h st
  cases o
  case call f l => simp only [POp.xs] at h; simp only [stillP, h.evs]
  case callv f l => simp only [POp.xs] at h; simp only [stillP, h.head, h.tail.evs]
  case mksl ob sz b z x y => cases ob <;> simp only [POp.xs] at h <;> simp only [stillP, h.head, h.tail.head, h1]
  all_goals
    simp only [stillP, h1]

theorem stillP_iff {P : Program} (o : POp) {env : Env} {st : St} {K : V → Prop} : stillP P o env st K ↔ ∃ v, stillP P o env st (· = v) ∧ K v := by
  cases o
  case call f l => simp only [stillP]; exact ⟨fun ⟨v, h, k⟩ => ⟨v, ⟨v, h, rfl⟩, k⟩, fun ⟨v, ⟨u, h, e⟩, k⟩ => ⟨u, h, e ▸ k⟩⟩
  case callv f l =>
    simp only [stillP]
    split
    · exact ⟨fun ⟨ho, v, h, k⟩ => ⟨v, ⟨ho, v, h, rfl⟩, k⟩, fun ⟨v, ⟨ho, u, h, e⟩, k⟩ => ⟨ho, u, h, e ▸ k⟩⟩
    · simp
  case mksl ob sz b z x y =>
    cases ob with
    | true => simp [stillP, opV]
    | false =>
      simp only [stillP]
      split
      · exact ⟨fun ⟨h, k⟩ => ⟨_, ⟨h, rfl⟩, k⟩, fun ⟨v, ⟨h, e⟩, k⟩ => ⟨h, e ▸ k⟩⟩
      · simp
  all_goals
    simp only [stillP]
    split
    · simp
    · simp

/-- Whether what an operation gives hangs on the frame alone. -/
def POp.pure : POp → Bool
  | .mv _ | .pick .. | .nilck _ | .bin .. | .eqa .. | .not _ | .neg _ | .inv _ | .conv .. | .same _ | .toBytes _ | .fldA .. | .fld .. | .idxArr .. | .idxSl .. | .idx .. | .idxStr .. | .build .. | .bsl false .. | .slStr .. | .sl .. | .lenStr _ | .lenSl _ | .lenK _ | .mkf .. | .ext .. | .max _ | .min _ | .chk3 .. | .mksl false .. => true
  | _ => false

theorem stillP_pure {P : Program} {o : POp} (hp : o.pure = true) {env : Env} {st st' : St} {K : V → Prop} : stillP P o env st K = stillP P o env st' K := by
  cases o
  case bsl b sz n z ps => cases b <;> first | rfl | (simp [POp.pure] at hp; done)
  case mksl ob sz b z x y => cases ob <;> first | rfl | (simp [POp.pure] at hp; done)
  case max l => cases l <;> rfl
  case min l => cases l <;> rfl
  all_goals first
    | rfl
    | (simp [POp.pure] at hp; done)

theorem guardP_mono {g : Option (Nat × Bool)} {env : Env} {p p' q q' : Prop} (hp : p → p') (hq : q → q') (h : guardP g env p q) : guardP g env p' q' := by
  unfold guardP at *
  split
  · exact hp h
  · rename_i t b
    simp only at h
    split at h
    · split at h
      · rename_i hc
        rw [if_pos hc]
        exact hp h
      · rename_i hc
        rw [if_neg hc]
        exact hq h
    · exact hq h
    · exact h

/-- Two operations of which neither looks at the other's slot, nor writes it. -/
def PO.reads (o : PO) : List Nat := o.op.slots ++ (match o.guard with | some (t, _) => [t] | none => [])

def PO.apart (p q : PO) : Bool :=
  (match p.dst with | some d => !q.reads.contains d && q.dst != some d | none => true) && (match q.dst with | some d => !p.reads.contains d | none => true)

theorem PO.apart_spec {p q : PO} (h : p.apart q = true) : (∀ d, p.dst = some d → d ∉ q.reads) ∧ (∀ d, p.dst = some d → q.dst ≠ some d) ∧ (∀ d, q.dst = some d → d ∉ p.reads) := by
  refine ⟨fun d hd => ?_, fun d hd => ?_, fun d hd => ?_⟩ <;> simp [PO.apart, hd] at h
  · exact h.1.1
  · exact h.1.2
  · exact h.2

theorem PO.apart_symm {p q : PO} (h : p.apart q = true) : q.apart p = true := by
  obtain ⟨h1, h2, h3⟩ := PO.apart_spec h
  unfold PO.apart
  simp only [Bool.and_eq_true]
  constructor
  · cases hq : q.dst with
    | none => rfl
    | some d =>
      simp only [Bool.and_eq_true, Bool.not_eq_true', bne_iff_ne, ne_eq]
      exact ⟨by simpa using h3 d hq, fun e => h2 d e hq⟩
  · cases hp : p.dst with
    | none => rfl
    | some d => simpa using h1 d hp

theorem put_reads {o : PO} {env : Env} {d : Option Nat} {v : V} (h : ∀ x, d = some x → x ∉ o.reads) : ∀ t ∈ o.reads, (env.put d v) t = env t := by
  intro t ht
  cases d with
  | none => rfl
  | some x =>
    have : t ≠ x := fun e => h x rfl (e ▸ ht)
    simp [Env.put, Env.upd, this]

theorem put_alike {o : PO} {env : Env} {d : Option Nat} {v : V} (h : ∀ x, d = some x → x ∉ o.reads) : Alike o.op.xs (env.put d v) env :=
  Alike.of fun t ht => put_reads h t (List.mem_append_left _ ht)

theorem put_guard {o : PO} {env : Env} {d : Option Nat} {v : V} (h : ∀ x, d = some x → x ∉ o.reads) (p q : Prop) : guardP o.guard (env.put d v) p q = guardP o.guard env p q := by
  unfold guardP
  cases hg : o.guard with
  | none => rfl
  | some g =>
    obtain ⟨t, b⟩ := g
    have := put_reads (env := env) (v := v) h t (List.mem_append_right _ (by simp [hg]))
    simp only [this]

theorem put_comm {env : Env} {x y : Option Nat} {v u : V} (h : ∀ d, x = some d → y ≠ some d) : (env.put x v).put y u = (env.put y u).put x v := by
  cases x with
  | none => rfl
  | some d =>
    cases y with
    | none => rfl
    | some e =>
      have hne : d ≠ e := fun he => h d rfl (he ▸ rfl)
      funext t
      simp only [Env.put, Env.upd]
      by_cases h1 : t = e
      · subst h1
        rw [if_pos rfl, if_neg (fun q => hne q.symm), if_pos rfl]
      · rw [if_neg h1, if_neg h1]

/-- An operation under its guard, that leaves the heap as it is: what comes to its slot. -/
def stillG (P : Program) (o : PO) (env : Env) (st : St) (v : V) : Prop := guardP o.guard env (stillP P o.op env st (· = v)) (v = .tup [])

theorem guard_still {P : Program} (o : PO) {env : Env} {st : St} {K : V → Prop} : guardP o.guard env (stillP P o.op env st K) (K (.tup [])) ↔ ∃ v, stillG P o env st v ∧ K v := by
  have h0 : ∀ {p q : V → Prop}, (∃ v, (p v ∧ q v)) ↔ ∃ v, p v ∧ q v := Iff.rfl
  unfold stillG guardP
  cases hg : o.guard with
  | none => exact stillP_iff o.op
  | some g =>
    obtain ⟨t, b⟩ := g
    simp only
    split
    · split
      · exact stillP_iff o.op
      · simp
    · simp
    · simp

def stepG (P : Program) (c : Cls) (o : PO) (env : Env) (st : St) (K : V → St → Prop) : Prop := guardP o.guard env (stepC P c o.op env st K) (K (.tup []) st)

theorem runD_cons {P : Program} {c : Cls} {o : PO} {l : List (Cls × PO)} {env : Env} {st : St} {K : Env → St → Prop} :
    runD P ((c, o) :: l) env st K = stepG P c o env st fun v st' => runD P l (env.put o.dst v) st' K := rfl

theorem stepG_still {P : Program} {c : Cls} (hc : c = .e ∨ c = .s) (o : PO) {env : Env} {st : St} {K : V → St → Prop} : stepG P c o env st K ↔ ∃ v, stillG P o env st v ∧ K v st := by
  rcases hc with rfl | rfl <;> exact guard_still o (K := fun v => K v st)

theorem stepG_mono {P : Program} {c : Cls} {o : PO} {env : Env} {st : St} {K K' : V → St → Prop} (hk : ∀ v s, K v s → K' v s) (h : stepG P c o env st K) : stepG P c o env st K' := by
  refine guardP_mono (fun h => ?_) (hk _ _) h
  cases c with
  | x => exact stepP_mono _ hk h
  | a => exact stepP_mono _ hk h
  | _ =>
    obtain ⟨v, h1, h2⟩ := (stillP_iff o.op).1 h
    exact (stillP_iff o.op).2 ⟨v, h1, hk _ _ h2⟩

theorem stillG_put {P : Program} {o : PO} {env : Env} {st : St} {v : V} {d : Option Nat} {u : V} (h : ∀ x, d = some x → x ∉ o.reads) : stillG P o (env.put d u) st v = stillG P o env st v := by
  unfold stillG
  rw [put_guard h, stillP_alike o.op (put_alike h)]

theorem stepG_put {P : Program} {o : PO} {env : Env} {st : St} {K : V → St → Prop} {d : Option Nat} {u : V} (h : ∀ x, d = some x → x ∉ o.reads) : stepG P .x o (env.put d u) st K = stepG P .x o env st K := by
  unfold stepG stepC
  rw [put_guard h, stepP_alike o.op (put_alike h)]

theorem stillG_pure {P : Program} {o : PO} (hp : o.op.pure = true) {env : Env} {st st' : St} {v : V} : stillG P o env st v = stillG P o env st' v := by
  unfold stillG
  rw [stillP_pure hp (st := st) (st' := st')]

theorem stepG_frame {P : Program} {c : Cls} {o : PO} {env : Env} {st fr : St} {K : V → St → Prop} (hd : Disj st fr) (h : stepG P c o env st K) : stepG P c o env (st.add fr) (Beside fr K) :=
  guardP_mono (fun h => stepC_frame hd c o.op h) (fun h => ⟨st, hd, rfl, h⟩) h

/-- An operation that makes an object, whatever there is. -/
def PO.allocs (o : PO) : Bool := o.guard.isNone && match o.op with | .alloc _ | .mkmap => true | _ => false

/-- Whether the second may go ahead of the first. -/
def okPair (p q : Cls × PO) : Bool :=
  p.2.apart q.2 && match q.1, p.1 with
    | .a, _ => q.2.allocs
    | .x, .e => p.2.op.pure
    | .e, .e | .e, .s | .s, .e | .s, .s => true
    | _, _ => false

theorem move_still {P : Program} {ci : Cls} {i : PO} (hci : ci = .e ∨ ci = .s) {l2 : List (Cls × PO)} {K : Env → St → Prop} : ∀ (l1 : List (Cls × PO)) (env : Env) (st : St), (∀ p ∈ l1, okPair p (ci, i) = true) →
    runD P (l1 ++ (ci, i) :: l2) env st K → runD P ((ci, i) :: (l1 ++ l2)) env st K
  | [], env, st, _, h => h
  | (cj, j) :: l1, env, st, hok, h => by
    have hp := hok (cj, j) (by simp)
    simp only [okPair, Bool.and_eq_true] at hp
    obtain ⟨hap, hp⟩ := hp
    have hcj : cj = .e ∨ cj = .s := by rcases hci with rfl | rfl <;> cases cj <;> simp at hp ⊢
    obtain ⟨a1, a2, a3⟩ := PO.apart_spec hap
    rw [List.cons_append, runD_cons, stepG_still hcj] at h
    obtain ⟨vj, h1, h2⟩ := h
    have ih := move_still hci l1 _ st (fun p hp => hok p (by simp [hp])) h2
    rw [runD_cons, stepG_still hci] at ih
    obtain ⟨vi, h3, h4⟩ := ih
    rw [stillG_put a1] at h3
    rw [runD_cons, stepG_still hci]
    refine ⟨vi, h3, ?_⟩
    rw [List.cons_append, runD_cons, stepG_still hcj]
    refine ⟨vj, ?_, ?_⟩
    · rw [stillG_put a3]
      exact h1
    · rw [← put_comm a2]
      exact h4

theorem move_step {P : Program} {i : PO} {l2 : List (Cls × PO)} {K : Env → St → Prop} : ∀ (l1 : List (Cls × PO)) (env : Env) (st : St), (∀ p ∈ l1, okPair p (.x, i) = true) →
    runD P (l1 ++ (.x, i) :: l2) env st K → runD P ((.x, i) :: (l1 ++ l2)) env st K
  | [], env, st, _, h => h
  | (cj, j) :: l1, env, st, hok, h => by
    have hp := hok (cj, j) (by simp)
    simp only [okPair, Bool.and_eq_true] at hp
    obtain ⟨hap, hp⟩ := hp
    have hcj : cj = .e := by cases cj <;> simp at hp ⊢
    subst hcj
    have hpu : j.op.pure = true := hp
    obtain ⟨a1, a2, a3⟩ := PO.apart_spec hap
    rw [List.cons_append, runD_cons, stepG_still (.inl rfl)] at h
    obtain ⟨vj, h1, h2⟩ := h
    have ih := move_step l1 _ st (fun p hp => hok p (by simp [hp])) h2
    rw [runD_cons, stepG_put a1] at ih
    rw [runD_cons]
    refine stepG_mono (fun v s h3 => ?_) ih
    rw [List.cons_append, runD_cons, stepG_still (.inl rfl)]
    refine ⟨vj, ?_, ?_⟩
    · rw [stillG_put a3, stillG_pure hpu (st := s) (st' := st)]
      exact h1
    · rw [← put_comm a2]
      exact h3

theorem stepG_putC {P : Program} {c : Cls} {o : PO} {env : Env} {st : St} {K : V → St → Prop} {d : Option Nat} {u : V} (h : ∀ x, d = some x → x ∉ o.reads) : stepG P c o (env.put d u) st K = stepG P c o env st K := by
  unfold stepG stepC
  rw [put_guard h]
  cases c <;> simp only [stepP_alike o.op (put_alike h), stillP_alike o.op (put_alike h)]

theorem allocs_spec {P : Program} {i : PO} (h : i.allocs = true) : ∃ (ob : AObj) (mk : Nat → V), ∀ (env : Env) (st : St) (K : V → St → Prop), stepG P .a i env st K ↔ ∀ id, st id = none → K (mk id) (st.upd id ob) := by
  obtain ⟨dst, op, g⟩ := i
  simp only [PO.allocs, Bool.and_eq_true, Option.isNone_iff_eq_none] at h
  obtain ⟨rfl, h⟩ := h
  cases op <;> first | (cases h; done) | skip
  · exact ⟨.mp [], fun id => .map (some id), fun env st K => Iff.rfl⟩
  · rename_i z
    exact ⟨.cells z, fun id => .ptr (some (id, 0)), fun env st K => Iff.rfl⟩

theorem move_alloc {P : Program} {i : PO} (hi : i.allocs = true) {l2 : List (Cls × PO)} {K : Env → St → Prop} : ∀ (l1 : List (Cls × PO)) (env : Env) (st : St), (∀ p ∈ l1, okPair p (.a, i) = true) →
    runD P (l1 ++ (.a, i) :: l2) env st K → runD P ((.a, i) :: (l1 ++ l2)) env st K
  | [], env, st, _, h => h
  | (cj, j) :: l1, env, st, hok, h => by
    have hp := hok (cj, j) (by simp)
    simp only [okPair, Bool.and_eq_true] at hp
    obtain ⟨a1, a2, a3⟩ := PO.apart_spec hp.1
    obtain ⟨ob, mk, hal⟩ := allocs_spec (P := P) hi
    rw [List.cons_append, runD_cons] at h
    rw [runD_cons, hal]
    intro id hid
    have hd : Disj st (fun k => if k = id then some ob else none) := fun k => by
      by_cases e : k = id
      · exact .inl (e ▸ hid)
      · exact .inr (by simp [e])
    have hadd : ∀ s : St, s id = none → s.add (fun k => if k = id then some ob else none) = s.upd id ob := fun s hs => by
      funext k
      by_cases e : k = id
      · subst e
        simp [St.add, St.upd, hs]
      · simp only [St.add, St.upd, e, if_false]
        cases s k <;> rfl
    have h1 := stepG_frame hd h
    rw [hadd st hid] at h1
    rw [List.cons_append, runD_cons, stepG_putC a3]
    refine stepG_mono (fun v s hk => ?_) h1
    obtain ⟨s', hd', rfl, hk⟩ := hk
    have hs' : s' id = none := (hd' id).resolve_right (by simp)
    have ih := move_alloc hi l1 _ s' (fun p hp => hok p (by simp [hp])) hk
    rw [runD_cons, hal] at ih
    have := ih id hs'
    rw [hadd s' hs', ← put_comm a2]
    exact this

theorem move {P : Program} {q : Cls × PO} {l1 l2 : List (Cls × PO)} {K : Env → St → Prop} {env : Env} {st : St} (hok : ∀ p ∈ l1, okPair p q = true) (h : runD P (l1 ++ q :: l2) env st K) : runD P (q :: (l1 ++ l2)) env st K := by
  obtain ⟨c, o⟩ := q
  cases c with
  | x => exact move_step l1 env st hok h
  | e => exact move_still (.inl rfl) l1 env st hok h
  | s => exact move_still (.inr rfl) l1 env st hok h
  | a =>
    cases l1 with
    | nil => exact h
    | cons p l1 =>
      have := hok p (by simp)
      simp only [okPair, Bool.and_eq_true] at this
      exact move_alloc this.2 _ env st hok h

/-! ### what code leaves as it is -/

theorem Same.trans {W : List Nat} {a b c : Env} (h : Same W a b) (k : Same W b c) : Same W a c := fun t ht => (k t ht).trans (h t ht)
theorem Same.mono {W W' : List Nat} {a b : Env} (hw : ∀ t ∈ W, t ∈ W') (h : Same W a b) : Same W' a b := fun t ht => h t fun e => ht (hw t e)

theorem Same.put (env : Env) (d : Option Nat) (v : V) : Same d.toList env (env.put d v) := fun t ht => by
  cases d with
  | none => rfl
  | some x =>
    have : t ≠ x := by simpa using ht
    simp [Env.put, Env.upd, this]

theorem runP_frame {P : Program} {K K' : Env → St → Prop} : ∀ (l : List PO) (env : Env) (st : St), (∀ env' st', Same (l.flatMap (·.dst.toList)) env env' → K env' st' → K' env' st') → runP P l env st K → runP P l env st K'
  | [], env, st, hk, h => hk _ _ (Same.refl _ _) h
  | o :: l, env, st, hk, h => by
    have next : ∀ v st', runP P l (env.put o.dst v) st' K → runP P l (env.put o.dst v) st' K' := fun v st' h =>
      runP_frame l _ st' (fun env' st' hs hk' => hk _ _ (((Same.put env o.dst v).mono (by intro t ht; simp only [List.flatMap_cons, List.mem_append]; exact .inl ht)).trans (hs.mono (by intro t ht; simp only [List.flatMap_cons, List.mem_append]; exact .inr ht))) hk') h
    exact guardP_mono (stepP_mono _ next) (next _ _) h

theorem runD_frame {P : Program} {K K' : Env → St → Prop} : ∀ (l : List (Cls × PO)) (env : Env) (st : St), (∀ env' st', Same (l.flatMap (·.2.dst.toList)) env env' → K env' st' → K' env' st') → runD P l env st K → runD P l env st K'
  | [], env, st, hk, h => hk _ _ (Same.refl _ _) h
  | (c, o) :: l, env, st, hk, h => by
    have next : ∀ v st', runD P l (env.put o.dst v) st' K → runD P l (env.put o.dst v) st' K' := fun v st' h =>
      runD_frame l _ st' (fun env' st' hs hk' => hk _ _ (((Same.put env o.dst v).mono (by intro t ht; simp only [List.flatMap_cons, List.mem_append]; exact .inl ht)).trans (hs.mono (by intro t ht; simp only [List.flatMap_cons, List.mem_append]; exact .inr ht))) hk') h
    rw [runD_cons] at h ⊢
    exact stepG_mono next h

theorem frzP_frame {K K' : Env → St → Prop} : ∀ (l : List Nat) (env : Env) (st : St), (∀ env' st', Same l env env' → K env' st' → K' env' st') → frzP l env st K → frzP l env st K'
  | [], env, st, hk, h => hk _ _ (Same.refl _ _) h
  | t :: l, env, st, hk, h => by
    simp only [frzP] at h ⊢
    split at h <;> try exact h
    rename_i v s hv
    exact frzP_frame l _ s (fun env' st' hs hk' => hk _ _ (((Same.put env (some t) v).mono (by intro t ht; simpa using Or.inl (by simpa using ht))).trans (hs.mono (by intro t ht; simp [ht]))) hk') h

theorem vc_frame {P : Program} : ∀ (c : PC) (Q Q' : Ex → Env → St → Prop) (env : Env) (st : St), (∀ e env' st', Same c.writes env env' → Q e env' st' → Q' e env' st') → vc P c Q env st → vc P c Q' env st := by
  intro c
  induction c with
  | skip => exact fun Q Q' env st hq h => hq _ _ _ (Same.refl _ _) h
  | exit id => exact fun Q Q' env st hq h => hq _ _ _ (Same.refl _ _) h
  | ret => exact fun Q Q' env st hq h => hq _ _ _ (Same.refl _ _) h
  | ops l => exact fun Q Q' env st hq h => runP_frame l env st (fun env' st' hs => hq _ _ _ hs) h
  | draw l => exact fun Q Q' env st hq h => runD_frame l env st (fun env' st' hs => hq _ _ _ hs) h
  | frz l => exact fun Q Q' env st hq h => frzP_frame l env st (fun env' st' hs => hq _ _ _ hs) h
  | seq a b iha ihb =>
    intro Q Q' env st hq h
    refine iha _ _ env st (fun e env' st' hs h' => ?_) h
    cases e with
    | normal => exact ihb _ _ env' st' (fun e env'' st'' hs' h'' => hq _ _ _ ((hs.mono (by intro t ht; simp [PC.writes, ht])).trans (hs'.mono (by intro t ht; simp [PC.writes, ht]))) h'') h'
    | exit id => exact hq _ _ _ (hs.mono (by intro t ht; simp [PC.writes, ht])) h'
    | ret => exact hq _ _ _ (hs.mono (by intro t ht; simp [PC.writes, ht])) h'
  | cond c a b iha ihb =>
    intro Q Q' env st hq h
    simp only [vc] at h ⊢
    split at h <;> try exact h
    split at h
    · rename_i ht
      rw [if_pos ht]
      exact iha _ _ env st (fun e env' st' hs h' => hq _ _ _ (hs.mono (by intro t ht; simp [PC.writes, ht])) h') h
    · rename_i ht
      rw [if_neg ht]
      exact ihb _ _ env st (fun e env' st' hs h' => hq _ _ _ (hs.mono (by intro t ht; simp [PC.writes, ht])) h') h
  | block id c ih =>
    intro Q Q' env st hq h
    refine ih _ _ env st (fun e env' st' hs h' => ?_) h
    cases e with
    | exit j =>
      simp only at h' ⊢
      split at h'
      · rename_i he
        rw [if_pos he]
        exact hq _ _ _ hs h'
      · rename_i he
        rw [if_neg he]
        exact hq _ _ _ hs h'
    | normal => exact hq _ _ _ hs h'
    | ret => exact hq _ _ _ hs h'
  | loop c ih =>
    intro Q Q' env st hq h
    obtain ⟨I, μ, h0, hr⟩ := h
    refine ⟨I, μ, h0, fun env' st' hs hI => ?_⟩
    refine ih _ _ env' st' (fun e env'' st'' hs' h' => ?_) (hr env' st' hs hI)
    cases e with
    | normal => exact h'
    | exit id => exact hq _ _ _ (hs.trans hs') h'
    | ret => exact hq _ _ _ (hs.trans hs') h'

/-! ### another heap beside -/

theorem runP_beside {P : Program} {fr : St} {K : Env → St → Prop} : ∀ (l : List PO) (env : Env) (st : St), Disj st fr → runP P l env st K → runP P l env (st.add fr) (Beside fr K)
  | [], env, st, hd, h => ⟨st, hd, rfl, h⟩
  | o :: l, env, st, hd, h => by
    have next : ∀ v s, Beside fr (fun v st' => runP P l (env.put o.dst v) st' K) v s → runP P l (env.put o.dst v) s (Beside fr K) := by
      rintro v s ⟨s', h1, rfl, h3⟩
      exact runP_beside l _ s' h1 h3
    exact guardP_mono (fun h => stepP_mono _ next (stepP_frame hd o.op h)) (fun h => next _ _ ⟨st, hd, rfl, h⟩) h

theorem runD_beside {P : Program} {fr : St} {K : Env → St → Prop} : ∀ (l : List (Cls × PO)) (env : Env) (st : St), Disj st fr → runD P l env st K → runD P l env (st.add fr) (Beside fr K)
  | [], env, st, hd, h => ⟨st, hd, rfl, h⟩
  | (c, o) :: l, env, st, hd, h => by
    rw [runD_cons] at h ⊢
    refine stepG_mono ?_ (stepG_frame hd h)
    rintro v s ⟨s', h1, rfl, h3⟩
    exact runD_beside l _ s' h1 h3

theorem frzOb_beside {fr st s : St} (hd : Disj st fr) {id : Nat} (h : frzOb st id = some s) : Disj s fr ∧ frzOb (st.add fr) id = some (s.add fr) := by
  unfold frzOb at h
  split at h <;> cases h
  · rename_i cs hid
    refine ⟨hd.upd (hd.some hid) _, ?_⟩
    simp only [frzOb, add_some hid, upd_add]
  · rename_i cs hid
    refine ⟨hd, ?_⟩
    simp only [frzOb, add_some hid]

theorem frzV_beside {fr st s : St} (hd : Disj st fr) {v u : V} (h : frzV st v = some (u, s)) : Disj s fr ∧ frzV (st.add fr) v = some (u, s.add fr) := by
  have triv : some (v, st) = some (u, s) → Disj s fr ∧ some (v, st.add fr) = some (u, s.add fr) := fun h => by cases h; exact ⟨hd, rfl⟩
  cases v with
  | ptr p =>
    cases p with
    | none => exact triv h
    | some q =>
      obtain ⟨id, o⟩ := q
      simp only [frzV] at h ⊢
      obtain ⟨s', h1, h2⟩ := Option.map_eq_some_iff.1 h
      cases h2
      obtain ⟨g1, g2⟩ := frzOb_beside hd h1
      exact ⟨g1, by rw [g2]; rfl⟩
  | hsl id off sz n =>
    simp only [frzV] at h ⊢
    obtain ⟨s', h1, h2⟩ := Option.bind_eq_some_iff.1 h
    obtain ⟨c, h3, h4⟩ := Option.map_eq_some_iff.1 h2
    cases h4
    obtain ⟨g1, g2⟩ := frzOb_beside hd h1
    refine ⟨g1, ?_⟩
    rw [g2]
    simp only [Option.bind_some]
    rw [seg_sub (sub_add _ fr) h3]
    rfl
  | map mo =>
    cases mo with
    | none => exact triv h
    | some id =>
      simp only [frzV] at h ⊢
      cases hid : st id with
      | none => rw [hid] at h; cases h
      | some ob =>
        rw [hid] at h
        rw [add_some hid]
        cases ob <;> (cases h; first | exact ⟨hd, rfl⟩ | exact ⟨hd.upd (hd.some hid) _, by rw [upd_add]⟩)
  | _ => exact triv h

theorem frzP_beside {fr : St} {K : Env → St → Prop} : ∀ (l : List Nat) (env : Env) (st : St), Disj st fr → frzP l env st K → frzP l env (st.add fr) (Beside fr K)
  | [], env, st, hd, h => ⟨st, hd, rfl, h⟩
  | t :: l, env, st, hd, h => by
    simp only [frzP] at h ⊢
    cases hx : frzV st (env t) with
    | none => rw [hx] at h; exact h.elim
    | some q =>
      obtain ⟨v, s⟩ := q
      rw [hx] at h
      obtain ⟨g1, g2⟩ := frzV_beside hd hx
      rw [g2]
      exact frzP_beside l _ s g1 h

theorem vc_beside {P : Program} {fr : St} : ∀ (c : PC) (Q : Ex → Env → St → Prop) (env : Env) (st : St), Disj st fr → vc P c Q env st → vc P c (fun e => Beside fr (Q e)) env (st.add fr) := by
  intro c
  induction c with
  | skip => exact fun Q env st hd h => ⟨st, hd, rfl, h⟩
  | exit id => exact fun Q env st hd h => ⟨st, hd, rfl, h⟩
  | ret => exact fun Q env st hd h => ⟨st, hd, rfl, h⟩
  | ops l => exact fun Q env st hd h => runP_beside l env st hd h
  | draw l => exact fun Q env st hd h => runD_beside l env st hd h
  | frz l => exact fun Q env st hd h => frzP_beside l env st hd h
  | seq a b iha ihb =>
    intro Q env st hd h
    refine vc_frame a _ _ env _ (fun e env' s _ h' => ?_) (iha _ env st hd h)
    obtain ⟨s', h1, rfl, h3⟩ := h'
    cases e with
    | normal => exact ihb _ env' s' h1 h3
    | exit id => exact ⟨s', h1, rfl, h3⟩
    | ret => exact ⟨s', h1, rfl, h3⟩
  | cond c a b iha ihb =>
    intro Q env st hd h
    simp only [vc] at h ⊢
    split at h <;> try exact h
    split at h
    · rename_i ht
      rw [if_pos ht]
      exact iha _ env st hd h
    · rename_i ht
      rw [if_neg ht]
      exact ihb _ env st hd h
  | block id c ih =>
    intro Q env st hd h
    refine vc_frame c _ _ env _ (fun e env' s _ h' => ?_) (ih _ env st hd h)
    obtain ⟨s', h1, rfl, h3⟩ := h'
    cases e with
    | exit j =>
      simp only at h3 ⊢
      split at h3
      · rename_i he
        rw [if_pos he]
        exact ⟨s', h1, rfl, h3⟩
      · rename_i he
        rw [if_neg he]
        exact ⟨s', h1, rfl, h3⟩
    | normal => exact ⟨s', h1, rfl, h3⟩
    | ret => exact ⟨s', h1, rfl, h3⟩
  | loop c ih =>
    intro Q env st hd h
    obtain ⟨I, μ, h0, hr⟩ := h
    have back : ∀ s' : St, Disj s' fr → (fun i => if (fr i).isSome = true then none else (s'.add fr) i) = s' := fun s' hd' => by
      funext i
      rcases hd' i with e | e
      · rw [e]
        split
        · rfl
        · rename_i hn
          simp only [St.add, e]
          cases hf : fr i with
          | none => rfl
          | some o => rw [hf] at hn; simp at hn
      · rw [e]
        simp only [Option.isSome_none, Bool.false_eq_true, if_false, St.add]
        cases hs : s' i with
        | none => exact e
        | some o => rfl
    refine ⟨Beside fr I, fun env s => μ env (fun i => if (fr i).isSome = true then none else s i), ⟨st, hd, rfl, h0⟩, ?_⟩
    rintro env' s hs ⟨s', h1, rfl, h3⟩
    refine vc_frame c _ _ env' _ (fun e env'' s2 _ h' => ?_) (ih _ env' s' h1 (hr env' s' hs h3))
    obtain ⟨s2', k1, rfl, k3⟩ := h'
    cases e with
    | normal =>
      obtain ⟨s3, k4, k5, k6⟩ := k3
      refine ⟨s3.add fr, sub_add_sub k4 k1, ⟨s3, k1.sub k4, rfl, k5⟩, ?_⟩
      show μ env'' (fun i => if (fr i).isSome = true then none else (s3.add fr) i) < μ env' (fun i => if (fr i).isSome = true then none else (s'.add fr) i)
      rw [back _ h1, back _ (k1.sub k4)]
      exact k6
    | exit id => exact ⟨s2', k1, rfl, k3⟩
    | ret => exact ⟨s2', k1, rfl, k3⟩

end Go.Ab
