/-
  What is shown of a function's code in the small language holds of the machine's.
-/
import Derived.Test.YtpmfkckookkgmaaAbStep5
import Derived.Test.YtpmfkckookkgmaaAbMove
import Derived.Deep.LoopGhost
set_option linter.unusedSimpArgs false
set_option linter.unusedVariables false
namespace Go.Ab
open Go Go.RowKit

/-- The numbers of functions: which function of a program is meant by each number of ours. -/
abbrev Fn := Nat → FuncId

/-! ### the code, brought into the small language -/

def edges (ops : Array Oper) (i : Nat) : List Nat := match ops[i]? with | some o => (o.after.toList.filter (Region.binds .any ·)).map (·.on) | none => []

/-- Whether one operation waits for another. -/
def before (ops : Array Oper) : Nat → Nat → Nat → Bool
  | 0, _, _ => false
  | k + 1, i, j => (edges ops i).any fun m => m == j || before ops k m j

abbrev DI := Nat × Cls × PO

def clsOf (calls : Cls) (o : POp) : Cls := if o.pure then .e else match o with | .toStr _ | .load .. | .slArr .. | .slw .. | .lenMap _ | .lookup .. | .entry _ => .s | .call .. | .callv .. => calls | .alloc _ | .mkmap => .a | _ => .x

def orderD (ops : Array Oper) (cls : Nat → Cls) : Nat → List Nat → List Nat
  | 0, _ => []
  | k + 1, rem =>
    let rs := rem.filter fun i => (edges ops i).all fun m => !rem.contains m
    match rs.find? (fun i => cls i == .e), rs.find? (fun i => cls i != .a), rs with
    | some i, _, _ => i :: orderD ops cls k (rem.erase i)
    | none, some i, _ => i :: orderD ops cls k (rem.erase i)
    | none, none, i :: _ => i :: orderD ops cls k (rem.erase i)
    | none, none, [] => []

def pairD (ops : Array Oper) (p q : DI) : Bool := p.1 != q.1 && !(edges ops p.1).contains q.1 && (before ops ops.size q.1 p.1 || okPair p.2 q.2)

def pairsD (ops : Array Oper) : List DI → Bool
  | [] => true
  | p :: l => !(edges ops p.1).contains p.1 && (edges ops p.1).all (· < ops.size) && l.all (pairD ops p) && pairsD ops l

def itemsD (P : Program) (n : Nat) (an : An) (calls : Cls) (ops : Array Oper) : List Nat → Option (List DI)
  | [] => some []
  | i :: l => match ops[i]? with
    | some o => match compPO P n an ops o, itemsD P n an calls ops l with
      | some p, some ps => some ((i, clsOf calls p.op, p) :: ps)
      | _, _ => none
    | none => none

def tryD (P : Program) (n : Nat) (an : An) (calls : Cls) (ops : Array Oper) : Option (List DI) :=
  match compPOs P n an ops ops.toList with
  | some ps =>
    let cs := ps.map fun p => clsOf calls p.op
    match itemsD P n an calls ops (orderD ops (fun i => cs.getD i .x) ops.size (List.range ops.size)) with
    | some l => if (List.range ops.size).all (fun i => (l.map (·.1)).contains i) && pairsD ops l && decide (l.length ≤ ops.size) then some l else none
    | none => none
  | none => none

def compReg (P : Program) (n : Nat) (an : An) (ops : Array Oper) (draw : Bool) : Option PC :=
  if draw then
    match tryD P n an .x ops with
    | some l => some (.draw (l.map (·.2)))
    | none => (tryD P n an .s ops).map fun l => .draw (l.map (·.2))
  else (compPOs P n an ops ops.toList).map .ops

def compCode (P : Program) (n : Nat) (an : An) : Code → Option PC
  | .skip => some .skip
  | .label _ => some .skip
  | .region id ops draw =>
    match compReg P n an ops draw with
    | some b => match an.frz.lookup id with
      | some l => if l.all (· < n) then some (.seq (.frz l) b) else none
      | none => some b
    | none => none
  | .seq a b => match compCode P n an a, compCode P n an b with
    | some x, some y => some (.seq x y)
    | _, _ => none
  | .cond c a b => match ofX n c, compCode P n an a, compCode P n an b with
    | some z, some x, some y => some (.cond z x y)
    | _, _, _ => none
  | .block id c => (compCode P n an c).map (.block id)
  | .loop c => (compCode P n an c).map .loop
  | .exit id => some (.exit id)
  | .ret => some .ret
  | _ => none

def compRes (P : Program) (n : Nat) : ResultVar → Option PR
  | .tmp t => if t < n then some (.t t) else none
  | .cell t ty => if t < n then (packOf P ty).map fun p => .cell t p.1 p.2 else none

def compRess (P : Program) (n : Nat) : List ResultVar → Option (List PR)
  | [] => some []
  | r :: l => match compRes P n r, compRess P n l with
    | some x, some xs => some (x :: xs)
    | _, _ => none

def compFn (P : Program) (an : An) (f : FuncId) : Option PF :=
  match P.funcs[f]? with
  | some fn => match fn.body with
    | some c => match compCode P fn.ntmps an c, compRess P fn.ntmps fn.results.toList with
      | some pc, some rs => some ⟨fn.ntmps, fn.params.size, rs, pc⟩
      | _, _ => none
    | none => none
  | none => none

/-! ### that it holds -/

section
variable {P : Program} {B : Nat} {w0 : World} {n : Nat} {an : An} {ops : Array Oper}

/-- A state of the machine that stands for one of ours, and for which something holds. -/
def Stands (B : Nat) (w0 : World) (G0 : Gh) (n : Nat) (K : Env → St → Prop) (a : Act) (w : World) : Prop :=
  ∃ G env st, G0.le G ∧ EnvRel G n env a ∧ StRel B w0 G st w ∧ K env st

theorem guard_wanted {G : Gh} {env : Env} {a : Act} {o : Oper} {p : PO} (hc : compPO P n an ops o = some p) (he : EnvRel G n env a) {yes no : Prop} (h : guardP p.guard env yes no) :
    compOp P n an o = some p.op ∧ p.dst = o.dst ∧ (∀ d, o.dst = some d → d < n) ∧ ((Region.wanted o (yielded ops a.tmps) = true ∧ yes) ∨ (Region.wanted o (yielded ops a.tmps) = false ∧ no)) := by
  unfold compPO at hc
  obtain ⟨q, h1, hc⟩ := bind_some hc
  split at hc <;> try (cases hc; done)
  rename_i hall
  have hd : ∀ d, o.dst = some d → d < n := fun d e => by simpa [e] using hall
  split at hc
  · rename_i hg
    cases hc
    exact ⟨h1, rfl, hd, .inl ⟨by simp [Region.wanted, hg], h⟩⟩
  · rename_i g b hg
    split at hc <;> try (cases hc; done)
    rename_i t ht
    split at hc <;> try (cases hc; done)
    rename_i htn
    cases hc
    refine ⟨h1, rfl, hd, ?_⟩
    simp only [guardP] at h
    split at h <;> try exact h.elim
    case h_2 vs hev =>
      have hr := he.2.2 t htn
      rw [hev] at hr
      have hlt : t < a.tmps.size := by rw [he.1]; exact htn
      rw [Array.getD_eq_getD_getElem?, Array.getElem?_eq_getElem hlt] at hr
      simp only [Option.getD_some] at hr
      have hy : yielded ops a.tmps g = none := by
        simp only [yielded, ht, Option.bind_some, Array.getElem?_eq_getElem hlt]
        generalize a.tmps[t] = z at hr
        cases hr
        rfl
      exact .inr ⟨by simp [Region.wanted, hg, hy], h⟩
    rename_i c hev
    have hr := he.2.2 t htn
    rw [hev] at hr
    have hx : a.tmps[t]? = some (.bool c) := by
      have hlt : t < a.tmps.size := by rw [he.1]; exact htn
      rw [Array.getElem?_eq_getElem hlt]
      rw [Array.getD_eq_getD_getElem?, Array.getElem?_eq_getElem hlt] at hr
      simp only [Option.getD_some] at hr
      generalize a.tmps[t] = z at hr
      cases hr
      rfl
    have hy : yielded ops a.tmps g = some c := by simp [yielded, ht, hx]
    simp only [Region.wanted, hg, hy]
    split at h
    · rename_i e
      exact .inl ⟨by simp [e], h⟩
    · rename_i e
      exact .inr ⟨by simpa using e, h⟩

theorem put_rel {G : Gh} {env : Env} {a : Act} (he : EnvRel G n env a) {d : Option Nat} (hd : ∀ x, d = some x → x < n) {v : V} {x : Value} (hv : VRel G v x) : EnvRel G n (env.put d v) (a.put d x) := by
  cases d with
  | none => exact he
  | some d => exact he.put (hd d rfl) hv

theorem stillP_step {o : POp} {env : Env} {st : St} {K : V → Prop} (h : stillP P o env st K) : stepP P o env st fun v st' => st' = st ∧ K v := by
  have key : ∀ (o : POp), pureP o = true → (match opV o env st with | some v => K v | none => False) → stepP P o env st fun v st' => st' = st ∧ K v := by
    intro o hp h
    have h' : (match opV o env st with | some v => (st = st ∧ K v) | none => False) := by
      split at h
      · rename_i v hv
        exact ⟨rfl, h⟩
      · exact h
    cases o <;> first
      | exact h'
      | (simp only [pureP] at hp; cases hp; done)
      | skip
    rename_i ob sz nn z parts
    cases ob with
    | false => exact h'
    | true => simp only [pureP] at hp; cases hp
  cases o
  case call f l => obtain ⟨v, h1, h2⟩ := h; exact ACalls.mono h1 fun u s e => ⟨e.2, e.1 ▸ h2⟩
  case callv f l =>
    simp only [stillP] at h
    simp only [stepP]
    split at h <;> try exact h.elim
    obtain ⟨ho, v, h1, h2⟩ := h
    exact ⟨ho, ACalls.mono h1 fun u s e => ⟨e.2, e.1 ▸ h2⟩⟩
  case bsl b sz nn z parts => cases b with
    | false => exact key _ rfl h
    | true => exact h.elim
  case mksl ob sz b z x y => cases ob with
    | true => exact h.elim
    | false =>
      simp only [stillP] at h
      simp only [stepP]
      split at h <;> try exact h.elim
      exact ⟨h.1.1, h.1.2.1, h.1.2.2, by rw [if_neg (by simp)]; exact ⟨trivial, h.2⟩⟩
  all_goals first
    | exact key _ rfl h
    | exact h.elim

theorem stepC_step {c : Cls} {o : POp} {env : Env} {st : St} {K : V → St → Prop} (h : stepC P c o env st K) : stepP P o env st K := by
  cases c with
  | x => exact h
  | a => exact h
  | _ => exact stepP_mono o (fun v s e => by obtain ⟨rfl, hk⟩ := e; exact hk) (stillP_step h)

/-- One operation of a region. -/
theorem oper_sound {G0 G : Gh} {env : Env} {a : Act} {st : St} {w : World} {o : Oper} {p : PO} (hc : compPO P n an ops o = some p) (hle : G0.le G) (he : EnvRel G n env a) (hs : StRel B w0 G st w) {c : Cls} {K : Env → St → Prop}
    (h : stepG P c p env st fun v st' => K (env.put p.dst v) st') {next : Act → World → Prop} {Q : Exit → Act → World → Prop} (hn : ∀ a w, Stands B w0 G0 n K a w → next a w) :
    if Region.wanted o (yielded ops a.tmps) = true then o.wp P a w next Q ∨ (o.asks P a w ∧ LetsOut Q) else next (a.put o.dst undef) w := by
  obtain ⟨h1, h2, h3, h4⟩ := guard_wanted hc he h
  rcases h4 with ⟨hw, hy⟩ | ⟨hw, hy⟩
  · rw [if_pos hw]
    left
    refine step_sound h1 he hs (stepC_step hy) fun v x G' st' w' g1 g2 g3 g4 => hn _ _ ⟨G', _, st', Gh.le_trans hle g1, ?_, g3, g4⟩
    rw [h2]
    exact put_rel (he.mono g1) h3 g2
  · rw [if_neg (by rw [hw]; simp)]
    refine hn _ _ ⟨G, _, st, hle, ?_, hs, hy⟩
    rw [h2]
    exact put_rel he h3 (.tup [] #[] rfl (fun i hi => absurd hi (Nat.not_lt_zero _)))

theorem list_sound {G0 : Gh} {K : Env → St → Prop} {Q : Exit → Act → World → Prop} (hQ : ∀ a w, Stands B w0 G0 n K a w → Q .normal a w) : ∀ (l : List Oper) (ps : List PO), compPOs P n an ops l = some ps → ∀ {G : Gh} {env : Env} {a : Act} {st : St} {w : World}, G0.le G → EnvRel G n env a → StRel B w0 G st w → runP P ps env st K → wpList P ops Q l a w
  | [], ps, hc, G, env, a, st, w, hle, he, hs, h => by
    cases hc
    exact hQ _ _ ⟨G, env, st, hle, he, hs, h⟩
  | o :: l, ps, hc, G, env, a, st, w, hle, he, hs, h => by
    simp only [compPOs] at hc
    split at hc <;> try (cases hc; done)
    rename_i p ps' h1 h2
    cases hc
    exact oper_sound (c := .x) (K := fun env st => runP P ps' env st K) h1 hle he hs h fun a w ⟨G', env', st', g1, g2, g3, g4⟩ => list_sound hQ l ps' h2 g1 g2 g3 g4

/-! ### drawn regions -/

theorem itemsD_spec {calls : Cls} : ∀ (l : List Nat) (r : List DI), itemsD P n an calls ops l = some r → ∀ q ∈ r, ∃ o, ops[q.1]? = some o ∧ compPO P n an ops o = some q.2.2
  | [], r, h, q, hq => by cases h; cases hq
  | i :: l, r, h, q, hq => by
    simp only [itemsD] at h
    split at h <;> try (cases h; done)
    rename_i o ho
    split at h <;> try (cases h; done)
    rename_i p ps h1 h2
    cases h
    rcases List.mem_cons.1 hq with rfl | hq
    · exact ⟨o, ho, h1⟩
    · exact itemsD_spec l ps h2 q hq

/-- What is left of a region, and the marks of what has been done. -/
structure Left (ops : Array Oper) (r : List DI) (listed : Array Bool) : Prop where
  mem : ∀ i, i < ops.size → (listed.getD i true = false ↔ i ∈ r.map (·.1))
  size : listed.size = ops.size
  pairs : pairsD ops r = true
  lt : ∀ q ∈ r, q.1 < ops.size
  shut : ∀ i, i < ops.size → i ∉ r.map (·.1) → ∀ m ∈ edges ops i, m ∉ r.map (·.1)

theorem pairsD_remove : ∀ (l1 : List DI) {q : DI} {l2 : List DI}, pairsD ops (l1 ++ q :: l2) = true → pairsD ops (l1 ++ l2) = true ∧ (∀ p ∈ l1, pairD ops p q = true) ∧ (∀ p ∈ l2, pairD ops q p = true)
  | [], q, l2, h => by
    simp only [List.nil_append, pairsD, Bool.and_eq_true] at h
    exact ⟨h.2, by simp, by simpa using h.1.2⟩
  | p :: l1, q, l2, h => by
    simp only [List.cons_append, pairsD, Bool.and_eq_true, List.all_append, List.all_cons] at h ⊢
    obtain ⟨⟨h0, h1, h2, h3⟩, h4⟩ := h
    obtain ⟨i1, i2, i3⟩ := pairsD_remove l1 h4
    refine ⟨⟨⟨h0, h1, h3⟩, i1⟩, fun x hx => ?_, i3⟩
    rcases List.mem_cons.1 hx with rfl | hx
    · exact h2
    · exact i2 x hx

theorem before_left {r : List DI} (shut : ∀ i, i < ops.size → i ∉ r.map (·.1) → ∀ m ∈ edges ops i, m ∉ r.map (·.1)) : ∀ (k i j : Nat), before ops k i j = true → (∀ m ∈ edges ops i, m ∉ r.map (·.1)) → j ∉ r.map (·.1)
  | 0, i, j, h, _ => by cases h
  | k + 1, i, j, h, he => by
    simp only [before, List.any_eq_true, Bool.or_eq_true, beq_iff_eq] at h
    obtain ⟨m, hm, h⟩ := h
    rcases h with rfl | h
    · exact he m hm
    · refine before_left shut k m j h ?_
      rcases Nat.lt_or_ge m ops.size with hlt | hge
      · exact shut m hlt (he m hm)
      · intro x hx
        simp [edges, Array.getElem?_eq_none hge] at hx

theorem mem_edges {i : Nat} {o : Oper} (ho : ops[i]? = some o) {m : Nat} : m ∈ edges ops i ↔ ∃ e ∈ o.after, Region.binds .any e = true ∧ e.on = m := by
  simp only [edges, ho, List.mem_map, List.mem_filter, Array.mem_toList_iff, and_assoc]

theorem pairsD_edges : ∀ {r : List DI}, pairsD ops r = true → ∀ q ∈ r, q.1 ∉ edges ops q.1 ∧ ∀ m ∈ edges ops q.1, m < ops.size
  | [], _, q, hq => by cases hq
  | p :: r, h, q, hq => by
    simp only [pairsD, Bool.and_eq_true, Bool.not_eq_true', List.all_eq_true, decide_eq_true_eq] at h
    rcases List.mem_cons.1 hq with rfl | hq
    · exact ⟨by simpa using h.1.1.1, h.1.1.2⟩
    · exact pairsD_edges h.2 q hq

theorem ready_left {r : List DI} {listed : Array Bool} (hL : Left ops r listed) {i : Nat} (hi : i ∈ Region.ready .any ops listed) :
    ∃ q l1 l2, r = l1 ++ q :: l2 ∧ q.1 = i ∧ (∀ m ∈ edges ops i, m ∉ r.map (·.1)) ∧ ∀ p ∈ l1, okPair p.2 q.2 = true := by
  obtain ⟨h0, o, ho, hall⟩ := mem_ready.1 hi
  have hlt : i < ops.size := (Array.getElem?_eq_some_iff.1 ho).1
  obtain ⟨q, hq, rfl⟩ := List.mem_map.1 ((hL.mem i hlt).1 h0)
  obtain ⟨l1, l2, rfl⟩ := List.append_of_mem hq
  have hreq : ∀ m ∈ edges ops q.1, m ∉ (l1 ++ q :: l2).map (·.1) := by
    intro m hm
    obtain ⟨e, he, hb, rfl⟩ := (mem_edges ho).1 hm
    have hl := hall e he hb
    have hlt : e.on < ops.size := (pairsD_edges hL.pairs q (by simp)).2 _ hm
    intro hmem
    have h1 := (hL.mem _ hlt).2 hmem
    have hsz : e.on < listed.size := by rw [hL.size]; exact hlt
    rw [Array.getD_eq_getD_getElem?, Array.getElem?_eq_getElem hsz] at hl h1
    simp only [Option.getD_some] at hl h1
    rw [hl] at h1
    cases h1
  refine ⟨q, l1, l2, rfl, rfl, hreq, fun p hp => ?_⟩
  obtain ⟨_, h2, _⟩ := pairsD_remove l1 hL.pairs
  have h3 := h2 p hp
  simp only [pairD, Bool.and_eq_true, Bool.or_eq_true] at h3
  rcases h3.2 with h4 | h4
  · exact absurd (List.mem_map.2 ⟨p, by simp [hp], rfl⟩) (before_left hL.shut _ _ _ h4 hreq)
  · exact h4

theorem left_step {l1 l2 : List DI} {q : DI} {listed : Array Bool} (hL : Left ops (l1 ++ q :: l2) listed) (hreq : ∀ m ∈ edges ops q.1, m ∉ (l1 ++ q :: l2).map (·.1)) : Left ops (l1 ++ l2) (listed.setIfInBounds q.1 true) := by
  obtain ⟨h1, h2, h3⟩ := pairsD_remove l1 hL.pairs
  have hq : q.1 < ops.size := hL.lt q (by simp)
  have hne : q.1 ∉ (l1 ++ l2).map (·.1) := by
    intro h
    obtain ⟨p, hp, e⟩ := List.mem_map.1 h
    rcases List.mem_append.1 hp with hp | hp
    · have := h2 p hp
      simp [pairD, e] at this
    · have := h3 p hp
      simp [pairD, e] at this
  refine ⟨fun i hi => ?_, by simp [hL.size], h1, fun p hp => hL.lt p (by rcases List.mem_append.1 hp with h | h <;> simp [h]), fun i hi hni m hm hmr => ?_⟩
  · by_cases e : i = q.1
    · subst e
      constructor
      · intro h
        rw [Array.getD_eq_getD_getElem?, Array.getElem?_setIfInBounds_self_of_lt (by rw [hL.size]; exact hq)] at h
        cases h
      · exact fun h => absurd h hne
    · rw [getD_set_ne true (fun h => e h.symm), hL.mem i hi]
      simp [e]
  · by_cases e : i = q.1
    · subst e
      refine hreq m hm ?_
      simp only [List.map_append, List.map_cons, List.mem_append, List.mem_cons] at hmr ⊢
      rcases hmr with h | h
      · exact .inl h
      · exact .inr (.inr h)
    · have : i ∉ (l1 ++ q :: l2).map (·.1) := by
        simp only [List.map_append, List.map_cons, List.mem_append, List.mem_cons] at hni ⊢
        rintro (h | h | h)
        · exact hni (.inl h)
        · exact e h
        · exact hni (.inr h)
      refine hL.shut i hi this m hm ?_
      simp only [List.map_append, List.map_cons, List.mem_append, List.mem_cons] at hmr ⊢
      rcases hmr with h | h
      · exact .inl h
      · exact .inr (.inr h)

theorem draw_sound {G0 : Gh} {K : Env → St → Prop} {Q : Exit → Act → World → Prop} (hQ : ∀ a w, Stands B w0 G0 n K a w → Q .normal a w) : ∀ (fuel : Nat) (r : List DI) (listed : Array Bool), r.length ≤ fuel → Left ops r listed → (∀ q ∈ r, ∃ o, ops[q.1]? = some o ∧ compPO P n an ops o = some q.2.2) →
    ∀ {G : Gh} {env : Env} {a : Act} {st : St} {w : World}, G0.le G → EnvRel G n env a → StRel B w0 G st w → runD P (r.map (·.2)) env st K → wpAny P .any ops Q fuel listed a w := by
  have fin : ∀ (r : List DI) (listed : Array Bool), Left ops r listed → (∀ q ∈ r, ∃ o, ops[q.1]? = some o ∧ compPO P n an ops o = some q.2.2) → Region.ready .any ops listed = [] → r = [] := by
    intro r listed hL hc hr
    cases r with
    | nil => rfl
    | cons q r =>
      exfalso
      obtain ⟨o, ho, _⟩ := hc q (by simp)
      have hmem : q.1 ∈ Region.ready .any ops listed := by
        refine mem_ready.2 ⟨(hL.mem _ (hL.lt q (by simp))).2 (by simp), o, ho, fun e he hb => ?_⟩
        have hm : e.on ∈ edges ops q.1 := (mem_edges ho).2 ⟨e, he, hb, rfl⟩
        obtain ⟨hself, hlt⟩ := pairsD_edges hL.pairs q (by simp)
        have hp := hL.pairs
        simp only [pairsD, Bool.and_eq_true, List.all_eq_true] at hp
        have hni : e.on ∉ (q :: r).map (·.1) := by
          intro h
          rw [List.map_cons, List.mem_cons] at h
          rcases h with h | h
          · exact hself (h ▸ hm)
          · obtain ⟨p, hpr, e'⟩ := List.mem_map.1 h
            have := hp.1.2 p hpr
            simp only [pairD, Bool.and_eq_true, Bool.not_eq_true'] at this
            rw [e'] at this
            simp [hm] at this
        have hsz : e.on < listed.size := by rw [hL.size]; exact hlt _ hm
        rw [Array.getD_eq_getD_getElem?, Array.getElem?_eq_getElem hsz]
        have h1 := mt (hL.mem _ (hlt _ hm)).1 hni
        rw [Array.getD_eq_getD_getElem?, Array.getElem?_eq_getElem hsz] at h1
        simpa using h1
      rw [hr] at hmem
      cases hmem
  intro fuel
  induction fuel with
  | zero =>
    intro r listed hf hL hc G env a st w hle he hs h
    have : r = [] := List.eq_nil_of_length_eq_zero (by omega)
    subst this
    refine ⟨?_, hQ _ _ ⟨G, env, st, hle, he, hs, h⟩⟩
    cases hr : Region.ready .any ops listed with
    | nil => rfl
    | cons i l =>
      obtain ⟨q, l1, l2, e, _⟩ := ready_left hL (i := i) (by rw [hr]; simp)
      simp at e
  | succ fuel ih =>
    intro r listed hf hL hc G env a st w hle he hs h
    refine ⟨fun hr => ?_, fun i hi => ?_⟩
    · have := fin r listed hL hc hr
      subst this
      exact hQ _ _ ⟨G, env, st, hle, he, hs, h⟩
    · obtain ⟨q, l1, l2, rfl, rfl, hreq, hok⟩ := ready_left hL hi
      obtain ⟨o, ho, hpo⟩ := hc q (by simp)
      have hm := move (P := P) (q := q.2) (l1 := l1.map (·.2)) (l2 := l2.map (·.2)) (K := K) (env := env) (st := st) (fun p hp => by obtain ⟨x, hx, rfl⟩ := List.mem_map.1 hp; exact hok x hx) (by simpa using h)
      have hL' := left_step hL hreq
      unfold wpOp
      simp only [ho]
      obtain ⟨qi, qc, qp⟩ := q
      rw [runD_cons] at hm
      exact oper_sound (c := qc) (K := fun env st => runD P (l1.map (·.2) ++ l2.map (·.2)) env st K) hpo hle he hs hm fun a w ⟨G', env', st', g1, g2, g3, g4⟩ =>
        ih (l1 ++ l2) _ (by simp at hf ⊢; omega) hL' (fun p hp => hc p (by rcases List.mem_append.1 hp with h | h <;> simp [h])) g1 g2 g3 (by simpa using g4)

theorem left_start {r : List DI} (h1 : ((List.range ops.size).all (fun i => (r.map (·.1)).contains i)) = true) (h2 : pairsD ops r = true) (hc : ∀ q ∈ r, ∃ o, ops[q.1]? = some o ∧ compPO P n an ops o = some q.2.2) : Left ops r (Array.replicate ops.size false) := by
  simp only [List.all_eq_true, List.mem_range] at h1
  have hin : ∀ i, i < ops.size → i ∈ r.map (·.1) := fun i hi => by simpa using h1 i hi
  refine ⟨fun i hi => ⟨fun _ => hin i hi, fun _ => ?_⟩, by simp, h2, fun q hq => ?_, fun i hi hni => absurd (hin i hi) hni⟩
  · simp [hi]
  · obtain ⟨o, ho, _⟩ := hc q hq
    exact (Array.getElem?_eq_some_iff.1 ho).1

theorem tryD_spec {calls : Cls} {l : List DI} (h : tryD P n an calls ops = some l) : l.length ≤ ops.size ∧ Left ops l (Array.replicate ops.size false) ∧ ∀ q ∈ l, ∃ o, ops[q.1]? = some o ∧ compPO P n an ops o = some q.2.2 := by
  unfold tryD at h
  split at h <;> try (cases h; done)
  simp only at h
  split at h <;> try (cases h; done)
  rename_i l' hi
  split at h <;> try (cases h; done)
  rename_i hcond
  cases h
  simp only [Bool.and_eq_true, decide_eq_true_eq] at hcond
  have hs := itemsD_spec _ _ hi
  exact ⟨hcond.2, left_start hcond.1.1 hcond.1.2 hs, hs⟩

theorem region_sound (hm : P.follows .mixedOrders = true) {draw : Bool} {pc : PC} (hc : compReg P n an ops draw = some pc) {G0 G : Gh} {env : Env} {a : Act} {st : St} {w : World} {id : Nat} {Q : Ex → Env → St → Prop} {Q' : Exit → Act → World → Prop}
    (hQ : ∀ a w, Stands B w0 G0 n (Q .normal) a w → Q' .normal a w) (hle : G0.le G) (he : EnvRel G n env a) (hs : StRel B w0 G st w) (h : vc P pc Q env st) : (Code.region id ops draw).wp P Q' a w := by
  unfold compReg at hc
  have dr : ∀ {calls : Cls} {l : List DI}, tryD P n an calls ops = some l → runD P (l.map (·.2)) env st (Q .normal) → (Code.region id ops true).wp P Q' a w := by
    intro calls l ht hr
    obtain ⟨hlen, hL, hi⟩ := tryD_spec ht
    exact wp_region_any hm (draw_sound hQ _ l _ hlen hL hi hle he (hs.ext (below_drew w)) hr)
  cases draw with
  | false =>
    simp only [Bool.false_eq_true, if_false] at hc
    obtain ⟨ps, h1, rfl⟩ := Option.map_eq_some_iff.1 hc
    exact wp_region_list (list_sound hQ _ ps h1 hle he hs h)
  | true =>
    simp only [if_true] at hc
    split at hc
    · rename_i l hl
      cases hc
      exact dr hl h
    · obtain ⟨l, hl, rfl⟩ := Option.map_eq_some_iff.1 hc
      exact dr hl h
end
end Go.Ab
