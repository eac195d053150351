/-
  What is shown over a heap holds with another heap beside it.
-/
import Derived.Test.YtpmfkckookkgmaaAbVC
set_option linter.unusedSimpArgs false
set_option linter.unusedVariables false
namespace Go.Ab
open Go Go.RowKit

theorem add_some {st fr : St} {i : Nat} {o : AObj} (h : st i = some o) : (st.add fr) i = some o := by simp [St.add, h]
theorem add_none {st fr : St} {i : Nat} : (st.add fr) i = none ↔ st i = none ∧ fr i = none := by
  unfold St.add
  cases st i <;> simp
theorem sub_add (st fr : St) : St.sub st (st.add fr) := fun _ _ h => add_some h
theorem upd_add (st fr : St) (id : Nat) (o : AObj) : (st.upd id o).add fr = (st.add fr).upd id o := by
  funext i
  by_cases h : i = id <;> simp [St.add, St.upd, h]
theorem Disj.some {st fr : St} (h : Disj st fr) {i : Nat} {o : AObj} (hi : st i = some o) : fr i = none := (h i).resolve_left (by rw [hi]; simp)
theorem Disj.upd {st fr : St} (h : Disj st fr) {id : Nat} (hid : fr id = none) (o : AObj) : Disj (st.upd id o) fr := fun i => by
  by_cases e : i = id
  · exact .inr (e ▸ hid)
  · simpa [St.upd, e] using h i
theorem Disj.del {st fr : St} (h : Disj st fr) (id : Nat) : Disj (st.del id) fr := fun i => by
  by_cases e : i = id
  · exact .inl (by simp [St.del, e])
  · simpa [St.del, e] using h i
theorem Disj.sub {st st' fr : St} (h : Disj st' fr) (hs : St.sub st st') : Disj st fr := fun i => by
  rcases h i with h | h
  · cases e : st i with
    | none => exact .inl rfl
    | some o => rw [hs i o e] at h; cases h
  · exact .inr h
theorem sub_add_sub {st st' fr : St} (h : St.sub st st') (hd : Disj st' fr) : St.sub (st.add fr) (st'.add fr) := fun i o hi => by
  cases e : st i with
  | some x =>
    rw [add_some e] at hi
    cases hi
    exact add_some (h i _ e)
  | none =>
    simp only [St.add, e] at hi
    have : st' i = none := (hd i).resolve_right (by rw [hi]; simp)
    simp only [St.add, this, hi]
theorem del_add {st fr : St} {id : Nat} (h : fr id = none) : (st.del id).add fr = (st.add fr).del id := by
  funext i
  by_cases e : i = id
  · subst e
    simp [St.add, St.del, h]
  · simp [St.add, St.del, e]
theorem add_assoc (a b c : St) : (a.add b).add c = a.add (b.add c) := by
  funext i
  simp only [St.add]
  cases a i <;> rfl
theorem disj_right {a b c : St} (h : Disj a b) (k : Disj (a.add b) c) : Disj a (b.add c) := fun i => by
  rcases k i with e | e
  · exact .inl (add_none.1 e).1
  · rcases h i with h | h
    · exact .inl h
    · exact .inr (add_none.2 ⟨h, e⟩)
theorem disj_left {a b c : St} (h : Disj a (b.add c)) : Disj a b := fun i => (h i).imp id fun e => (add_none.1 e).1
theorem disj_out {a b c : St} (h : Disj a (b.add c)) (hbc : Disj b c) : Disj (a.add b) c := fun i => by
  rcases hbc i with e | e
  · rcases h i with h | h
    · exact .inl (add_none.2 ⟨h, e⟩)
    · exact .inr (add_none.1 h).2
  · exact .inr e
theorem disj_bc {a b c : St} (k : Disj (a.add b) c) : Disj b c := fun i => by
  rcases k i with e | e
  · exact .inl (add_none.1 e).2
  · exact .inr e

/-- A postcondition with another heap beside it. -/
def Beside (fr : St) {α : Type} (K : α → St → Prop) : α → St → Prop := fun v s => ∃ s', Disj s' fr ∧ s = s'.add fr ∧ K v s'

section
variable {P : Program} {st st' fr : St} {env : Env}

theorem seg_sub (h : St.sub st st') {id off sz : Nat} {c : List V} (hc : st.seg id off sz = some c) : st'.seg id off sz = some c := by
  unfold St.seg at *
  cases hid : st id with
  | none => rw [hid] at hc; cases hc
  | some o => rw [hid] at hc; rw [h id o hid]; exact hc

theorem ldCells_sub (h : St.sub st st') {sz : Nat} {v : V} {c : List V} (hc : ldCells st sz v = some c) : ldCells st' sz v = some c := by
  unfold ldCells at *
  split at hc
  · exact seg_sub h hc
  · exact hc
  · cases hc

theorem elems_sub (h : St.sub st st') {sz : Nat} {v : V} {c : List V × Nat} (hc : elems st sz v = some c) : elems st' sz v = some c := by
  unfold elems at *
  split at hc
  · exact hc
  · split at hc <;> try (cases hc; done)
    rename_i e
    rw [if_pos e]
    obtain ⟨l, h1, h2⟩ := Option.map_eq_some_iff.1 hc
    rw [seg_sub h h1]
    simpa using h2
  · exact hc
  · cases hc

theorem opV_sub (h : St.sub st st') {o : POp} {v : V} (hv : opV o env st = some v) : opV o env st' = some v := by
  cases o
  case bsl b sz n z ps => cases b <;> exact hv
  case max l => cases l <;> exact hv
  case min l => cases l <;> exact hv
  case toStr x =>
    simp only [opV, toStrV] at hv ⊢
    split at hv
    · cases hv
    · obtain ⟨l, h1, h2⟩ := Option.bind_eq_some_iff.1 hv
      rw [elems_sub h h1]
      exact h2
  case load ag sz x =>
    simp only [opV] at hv ⊢
    obtain ⟨l, h1, h2⟩ := Option.bind_eq_some_iff.1 hv
    rw [ldCells_sub h h1]
    exact h2
  case slArr al n sz x lo hi =>
    simp only [opV, slArrV] at hv ⊢
    cases hb : bounds env n lo hi with
    | none => rw [hb] at hv; cases hv
    | some q =>
      rw [hb] at hv
      obtain ⟨l, u⟩ := q
      simp only at hv ⊢
      cases al with
      | true =>
        simp only [if_true] at hv ⊢
        split at hv <;> try (cases hv; done)
        rename_i id o hx
        split at hv <;> try (cases hv; done)
        rename_i cs hid
        simp only [hx, h id _ hid]
        exact hv
      | false =>
        simp only [Bool.false_eq_true, if_false] at hv ⊢
        split at hv <;> try (cases hv; done)
        · rename_i id o hx
          split at hv <;> try (cases hv; done)
          rename_i cs hid
          simp only [hx, h id _ hid]
          exact hv
        · rename_i cs hx
          first | exact hv | (simp only [hx]; exact hv)
  case slw sz x lo hi =>
    simp only [opV, slwV] at hv ⊢
    split at hv <;> try (cases hv; done)
    rename_i id off sz' n hx
    split at hv <;> try (cases hv; done)
    rename_i cs hid
    simp only [hx, h id _ hid]
    exact hv
  case lenMap x =>
    simp only [opV, lenMapV] at hv ⊢
    split at hv <;> try (cases hv; done)
    · rename_i hx
      first | exact hv | (simp only [hx]; exact hv)
    · rename_i id hx
      split at hv <;> try (cases hv; done)
      all_goals
        rename_i hid
        simp only [hx, h id _ hid]
        exact hv
  case entry x =>
    simp only [opV, entryV] at hv ⊢
    split at hv <;> try (cases hv; done)
    rename_i it hx
    split at hv <;> try (cases hv; done)
    rename_i id a seen stp hit
    split at hv <;> try (cases hv; done)
    rename_i es bs clk hid
    simp only [hx, h it _ hit, h id _ hid]
    exact hv
  case lookup kk z ok m k =>
    simp only [opV, lookupV] at hv ⊢
    split at hv <;> try (cases hv; done)
    rename_i hk
    rw [if_pos hk]
    obtain ⟨es, h1, h2⟩ := Option.bind_eq_some_iff.1 hv
    have : mapOf st' (m.ev env) = some es := by
      unfold mapOf at *
      split at h1 <;> try (cases h1; done)
      · exact h1
      · rename_i id hx
        split at h1 <;> try (cases h1; done)
        all_goals
          rename_i hid
          simp only [h id _ hid]
          exact h1
    refine Option.bind_eq_some_iff.2 ⟨es, this, h2⟩
  all_goals exact hv

theorem opS_add (hd : Disj st fr) {o : POp} {s : St} (hs : opS o env st = some s) : Disj s fr ∧ opS o env (st.add fr) = some (s.add fr) := by
  have key : ∀ {id : Nat} {ob ob' : AObj}, st id = some ob → Disj (st.upd id ob') fr ∧ (st.add fr).upd id ob' = (st.upd id ob').add fr := fun hid => ⟨hd.upd (hd.some hid) _, (upd_add _ _ _ _).symm⟩
  cases o <;> simp only [opS] at hs <;> try (cases hs; done)
  case store sz x y =>
    simp only [opS, storeS] at hs ⊢
    split at hs <;> try (cases hs; done)
    rename_i id o hx
    split at hs <;> try (cases hs; done)
    rename_i cs hid
    split at hs <;> try (cases hs; done)
    rename_i vs hy
    split at hs <;> cases hs
    rename_i hc
    refine ⟨(key hid).1, ?_⟩
    simp only [hx, add_some hid, hy, if_pos hc, (key hid).2]
  case mset kk m k v =>
    unfold msetS at hs
    split at hs <;> try (cases hs; done)
    rename_i id hx
    split at hs <;> try (cases hs; done)
    rename_i hk
    split at hs <;> try (cases hs; done)
    rename_i es hid
    obtain ⟨es', h1, rfl⟩ := Option.map_eq_some_iff.1 hs
    refine ⟨(key hid).1, ?_⟩
    simp only [opS, msetS, hx, if_pos hk, add_some hid, h1, Option.map_some, (key hid).2]
  case mdel kk m k =>
    unfold mdelS at hs
    split at hs <;> try (cases hs; done)
    · rename_i hx
      split at hs <;> cases hs
      rename_i hk
      refine ⟨hd, ?_⟩
      simp only [opS, mdelS, hx, if_pos hk]
    · rename_i id hx
      split at hs <;> try (cases hs; done)
      rename_i hk
      split at hs <;> try (cases hs; done)
      · rename_i es hid
        obtain ⟨es', h1, rfl⟩ := Option.map_eq_some_iff.1 hs
        refine ⟨(key hid).1, ?_⟩
        simp only [opS, mdelS, hx, if_pos hk, add_some hid, h1, Option.map_some, (key hid).2]
      · rename_i es bs clk hid
        obtain ⟨q, h1, h2⟩ := Option.map_eq_some_iff.1 hs
        simp only [opS, mdelS, hx, if_pos hk, add_some hid, h1, Option.map_some]
        cases q with
        | none => cases h2; exact ⟨hd, rfl⟩
        | some j =>
          cases h2
          exact ⟨(key hid).1, congrArg some (key hid).2⟩

theorem opA_same {o : POp} (st st' : St) : opA o env st = opA o env st' := by cases o <;> first | rfl | (rename_i b _ _ _ _; cases b <;> rfl)

theorem ACalls.frame {f : FuncId} {args : List V} {K : V → St → Prop} (hd : Disj st fr) (h : ACalls P f args st K) : ACalls P f args (st.add fr) (Beside fr K) := by
  intro fr2 hd2 B w0 G w xs hs ha
  rw [add_assoc] at hs
  refine (h (fr.add fr2) (disj_right hd hd2) B w0 G w xs hs ha).mono fun e w' ⟨v, x, G', s, h1, h2, h3, h4, h5, h6⟩ => ?_
  exact ⟨v, x, G', s.add fr, h1, h2, h3, disj_out h4 (disj_bc hd2), by rw [add_assoc]; exact h5, s, disj_left h4, rfl, h6⟩

theorem stepP_frame (hd : Disj st fr) (o : POp) {K : V → St → Prop} (h : stepP P o env st K) : stepP P o env (st.add fr) (Beside fr K) := by
  have key : ∀ (o : POp), (if o.makes then match opA o env st with | some (ob, mk) => ∀ id, st id = none → K (mk id) (st.upd id ob) | none => False
      else if o.writes then match opS o env st with | some st' => K .junk st' | none => False
      else match opV o env st with | some v => K v st | none => False) →
      (if o.makes then match opA o env (st.add fr) with | some (ob, mk) => ∀ id, (st.add fr) id = none → Beside fr K (mk id) ((st.add fr).upd id ob) | none => False
      else if o.writes then match opS o env (st.add fr) with | some st' => Beside fr K .junk st' | none => False
      else match opV o env (st.add fr) with | some v => Beside fr K v (st.add fr) | none => False) := by
    intro o h
    split
    · rename_i hm
      rw [if_pos hm] at h
      rw [opA_same (st.add fr) st]
      split <;> rename_i hx <;> rw [hx] at h
      · intro id hid
        obtain ⟨h1, h2⟩ := add_none.1 hid
        exact ⟨_, hd.upd h2 _, (upd_add _ _ _ _).symm, h id h1⟩
      · exact h
    · rename_i hm
      rw [if_neg hm] at h
      split
      · rename_i hw
        rw [if_pos hw] at h
        cases hx : opS o env st with
        | none => rw [hx] at h; exact h.elim
        | some s =>
          rw [hx] at h
          obtain ⟨h1, h2⟩ := opS_add hd hx
          rw [h2]
          exact ⟨s, h1, rfl, h⟩
      · rename_i hw
        rw [if_neg hw] at h
        cases hx : opV o env st with
        | none => rw [hx] at h; exact h.elim
        | some v =>
          rw [hx] at h
          rw [opV_sub (sub_add st fr) hx]
          exact ⟨st, hd, rfl, h⟩
  have key := key o
  cases o
  case call f l => exact ACalls.frame hd h
  case callv f l =>
    simp only [stepP] at h ⊢
    split at h
    · exact ⟨h.1, ACalls.frame hd h.2⟩
    · exact h
  case app sz b x y =>
    simp only [stepP] at h ⊢
    cases he : elems st sz (y.ev env) with
    | none => rw [he] at h; exact h.elim
    | some q =>
      obtain ⟨ys, m⟩ := q
      rw [he] at h
      rw [elems_sub (sub_add st fr) he]
      simp only at h ⊢
      generalize x.ev env = xv at h ⊢
      cases xv with
      | sl k cs n =>
        obtain ⟨h1, h2, h3, h4, h5⟩ := h
        refine ⟨h1, h2, h3, fun e => ⟨st, hd, rfl, h4 e⟩, fun e id hid => ?_⟩
        obtain ⟨g1, g2⟩ := add_none.1 hid
        exact ⟨_, hd.upd g2 _, (upd_add _ _ _ _).symm, h5 e id g1⟩
      | hsl id off sz' n =>
        simp only at h ⊢
        cases hid : st id with
        | none => rw [hid] at h; exact h.elim
        | some ob =>
          rw [hid] at h
          rw [add_some hid]
          cases ob with
          | cells cs =>
            simp only at h ⊢
            obtain ⟨h1, h2, h3⟩ := h
            refine ⟨h1, h2, ?_⟩
            have hf := hd.some hid
            split at h3
            · rename_i hc
              rw [if_pos hc]
              exact ⟨_, hd.upd hf _, (upd_add _ _ _ _).symm, h3⟩
            · rename_i hc
              rw [if_neg hc]
              refine ⟨h3.1, h3.2.1, fun id' hid' => ?_⟩
              rw [← del_add hf] at hid' ⊢
              obtain ⟨g1, g2⟩ := add_none.1 hid'
              exact ⟨_, (hd.del id).upd g2 _, (upd_add _ _ _ _).symm, h3.2.2 id' g1⟩
          | _ => exact h.elim
      | _ => exact h.elim
  case mksl ob sz b z x y =>
    simp only [stepP] at h ⊢
    split at h <;> try exact h
    obtain ⟨h1, h2, h3, h4⟩ := h
    refine ⟨h1, h2, h3, ?_⟩
    split at h4
    · rename_i hc
      rw [if_pos hc]
      intro id hid
      obtain ⟨g1, g2⟩ := add_none.1 hid
      exact ⟨_, hd.upd g2 _, (upd_add _ _ _ _).symm, h4 id g1⟩
    · rename_i hc
      rw [if_neg hc]
      exact ⟨st, hd, rfl, h4⟩
  case clear sz z x =>
    simp only [stepP] at h ⊢
    generalize x.ev env = xv at h ⊢
    cases xv with
    | hsl id off sz' n =>
      simp only at h ⊢
      cases hid : st id with
      | none => rw [hid] at h; exact h.elim
      | some ob =>
        rw [hid] at h
        rw [add_some hid]
        cases ob with
        | cells cs => exact ⟨h.1, h.2.1, h.2.2.1, _, hd.upd (hd.some hid) _, (upd_add _ _ _ _).symm, h.2.2.2⟩
        | _ => exact h.elim
    | sl k cs n => cases k <;> cases cs <;> cases n <;> first | exact h.elim | exact ⟨st, hd, rfl, h⟩
    | _ => exact h.elim
  case nextStr x =>
    simp only [stepP] at h ⊢
    split at h <;> try exact h.elim
    rename_i it hx
    split at h <;> try exact h.elim
    rename_i s pos hit
    simp only [add_some hit]
    split at h
    · rename_i hc
      rw [if_pos hc]
      exact ⟨_, hd.upd (hd.some hit) _, (upd_add _ _ _ _).symm, h⟩
    · rename_i hc
      rw [if_neg hc]
      exact ⟨st, hd, rfl, h⟩
  case rngMap x =>
    simp only [stepP] at h ⊢
    split at h <;> try exact h.elim
    · intro it hit
      obtain ⟨g1, g2⟩ := add_none.1 hit
      exact ⟨_, hd.upd g2 _, (upd_add _ _ _ _).symm, h it g1⟩
    · rename_i id hx
      split at h <;> try exact h.elim
      rename_i es hid
      simp only [add_some hid]
      intro it hit bs clk e1 e2 e3
      obtain ⟨g1, g2⟩ := add_none.1 hit
      refine ⟨_, (hd.upd (hd.some hid) (.mpi es bs clk)).upd g2 _, ?_, h it g1 bs clk e1 e2 e3⟩
      rw [upd_add, upd_add]
  case nextMap x =>
    simp only [stepP] at h ⊢
    split at h <;> try exact h.elim
    rename_i it hx
    split at h <;> try exact h.elim
    · rename_i hit
      simp only [add_some hit]
      exact ⟨st, hd, rfl, h⟩
    · rename_i id since seen stp hit
      simp only [add_some hit]
      split at h <;> try exact h.elim
      rename_i es bs clk hid
      simp only [add_some hid]
      refine ⟨h.1, h.2.1, h.2.2.1, fun e => ⟨st, hd, rfl, h.2.2.2.1 e⟩, fun i hi hn => ⟨_, hd.upd (hd.some hit) _, (upd_add _ _ _ _).symm, h.2.2.2.2 i hi hn⟩⟩
  case appz sz b x y =>
    simp only [stepP] at h ⊢
    cases he : elems st sz (y.ev env) with
    | none => rw [he] at h; exact h.elim
    | some q =>
      obtain ⟨ys, m⟩ := q
      rw [he] at h
      rw [elems_sub (sub_add st fr) he]
      simp only at h ⊢
      generalize x.ev env = xv at h ⊢
      cases xv with
      | sl k cs n =>
        obtain ⟨h1, h2, h3, h4, h5⟩ := h
        exact ⟨h1, h2, h3, fun e => ⟨st, hd, rfl, h4 e⟩, fun e => ⟨st, hd, rfl, h5 e⟩⟩
      | hsl id off sz' n =>
        simp only at h ⊢
        cases hid : st id with
        | none => rw [hid] at h; exact h.elim
        | some ob =>
          rw [hid] at h
          rw [add_some hid]
          cases ob with
          | cells cs =>
            simp only at h ⊢
            obtain ⟨h1, h2, h3, h4, h5⟩ := h
            exact ⟨h1, h2, h3, h4, _, hd.upd (hd.some hid) _, (upd_add _ _ _ _).symm, h5⟩
          | _ => exact h.elim
      | _ => exact h.elim
  all_goals exact key h

theorem stillP_frame (hd : Disj st fr) (o : POp) {K : V → Prop} (h : stillP P o env st K) : stillP P o env (st.add fr) K := by
  have key : ∀ (o : POp), (match opV o env st with | some v => K v | none => False) → (match opV o env (st.add fr) with | some v => K v | none => False) := by
    intro o h
    cases hx : opV o env st with
    | none => rw [hx] at h; exact h.elim
    | some v =>
      rw [hx] at h
      rw [opV_sub (sub_add st fr) hx]
      exact h
  have call : ∀ {f : FuncId} {args : List V} {v : V}, ACalls P f args st (fun v' st' => v' = v ∧ st' = st) → ACalls P f args (st.add fr) (fun v' st' => v' = v ∧ st' = st.add fr) := fun h =>
    (h.frame hd).mono fun u s ⟨s', _, h2, h3, h4⟩ => ⟨h3, by rw [h2, h4]⟩
  have key := key o
  cases o
  case call f l => obtain ⟨v, h1, h2⟩ := h; exact ⟨v, call h1, h2⟩
  case callv f l =>
    simp only [stillP] at h ⊢
    split at h
    · obtain ⟨ho, v, h1, h2⟩ := h
      exact ⟨ho, v, call h1, h2⟩
    · exact h
  case mksl ob sz b z x y => cases ob with
    | false => exact h
    | true => exact h.elim
  all_goals exact key h

theorem still_frame (hd : Disj st fr) (o : POp) {K : V → St → Prop} (h : stillP P o env st fun v => K v st) : stillP P o env (st.add fr) fun v => Beside fr K v (st.add fr) := by
  have h1 := stillP_frame (P := P) (env := env) hd o h
  clear h
  cases o
  case call f l => obtain ⟨v, h2, h3⟩ := h1; exact ⟨v, h2, st, hd, rfl, h3⟩
  case callv f l =>
    simp only [stillP] at h1 ⊢
    split at h1
    · obtain ⟨ho, v, h2, h3⟩ := h1
      exact ⟨ho, v, h2, st, hd, rfl, h3⟩
    · exact h1
  case mksl ob sz b z x y =>
    cases ob with
    | false =>
      simp only [stillP] at h1 ⊢
      split at h1
      · exact ⟨h1.1, st, hd, rfl, h1.2⟩
      · exact h1
    | true => exact h1.elim
  all_goals
    simp only [stillP] at h1 ⊢
    split at h1
    · exact ⟨st, hd, rfl, h1⟩
    · exact h1

theorem stepC_frame (hd : Disj st fr) (c : Cls) (o : POp) {K : V → St → Prop} (h : stepC P c o env st K) : stepC P c o env (st.add fr) (Beside fr K) := by
  cases c with
  | x => exact stepP_frame hd o h
  | a => exact stepP_frame hd o h
  | _ => exact still_frame hd o h
end
end Go.Ab
