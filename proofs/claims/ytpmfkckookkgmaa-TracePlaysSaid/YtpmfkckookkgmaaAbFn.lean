/-
  A function's contract out of what is shown of its code.
-/
import Derived.Test.YtpmfkckookkgmaaAbCode
set_option linter.unusedSimpArgs false
set_option linter.unusedVariables false
namespace Go.Ab
open Go Go.RowKit

section
variable {P : Program} {B : Nat} {w0 : World} {n : Nat} {an : An}

theorem frzOb_sound {G : Gh} {st s : St} {w : World} (hs : StRel B w0 G st w) {id : Nat} (h : frzOb st id = some s) : ∃ G', G.le G' ∧ StRel B w0 G' s w ∧ ∃ cs, s id = some (.ro cs) := by
  unfold frzOb at h
  split at h <;> cases h
  · rename_i cs hid
    obtain ⟨b, l, m, h1, _⟩ := hs.obj id _ hid
    obtain ⟨G', h2, h3⟩ := hs.freeze hid h1
    exact ⟨G', h2, h3, cs, St.upd_same _ _ _⟩
  · rename_i cs hid
    exact ⟨G, G.le_refl, hs, cs, hid⟩

theorem frzMap_sound {G : Gh} {st : St} {w : World} (hs : StRel B w0 G st w) {id : Nat} {u : V} {s : St} {x : Value} (hv : VRel G (.map (some id)) x) (h : frzV st (.map (some id)) = some (u, s)) : ∃ G', G.le G' ∧ StRel B w0 G' s w ∧ VRel G' u x := by
  simp only [frzV] at h
  split at h
  · rename_i es bs clk hst
    cases h
    exact ⟨G, G.le_refl, hs.toMp hv hst, hv⟩
  · cases h; exact ⟨G, G.le_refl, hs, hv⟩
  · cases h

theorem frzV_sound {G : Gh} {st s : St} {w : World} (hs : StRel B w0 G st w) {v u : V} {x : Value} (hv : VRel G v x) (h : frzV st v = some (u, s)) : ∃ G', G.le G' ∧ StRel B w0 G' s w ∧ VRel G' u x := by
  cases v with
  | map mo =>
    cases mo with
    | none => cases h; exact ⟨G, G.le_refl, hs, hv⟩
    | some id => exact frzMap_sound hs hv h
  | ptr p =>
    cases p with
    | none => cases h; exact ⟨G, G.le_refl, hs, hv⟩
    | some q =>
      obtain ⟨id, o⟩ := q
      simp only [frzV] at h
      obtain ⟨s', h1, h2⟩ := Option.map_eq_some_iff.1 h
      cases h2
      obtain ⟨G', g1, g2, _⟩ := frzOb_sound hs h1
      exact ⟨G', g1, g2, hv.mono g1⟩
  | hsl id off sz nn =>
    simp only [frzV] at h
    obtain ⟨s', h1, h2⟩ := Option.bind_eq_some_iff.1 h
    obtain ⟨c, h3, h4⟩ := Option.map_eq_some_iff.1 h2
    cases h4
    obtain ⟨G', g1, g2, cs, hid⟩ := frzOb_sound hs h1
    refine ⟨G', g1, g2, ?_⟩
    cases hv with
    | hsl _ _ _ _ b l m cap o hι hn hm hl ho =>
      obtain ⟨b', l', m', k1, k2, k3, k4⟩ := g2.obj id _ hid
      rw [g1.ι _ _ hι] at k1
      obtain ⟨rfl, rfl, rfl⟩ : b = b' ∧ l = l' ∧ m = m' := by cases k1; exact ⟨rfl, rfl, rfl⟩
      simp only [St.seg, hid, segOf] at h3
      split at h3 <;> cases h3
      rename_i hle
      have hlen : ((cs.drop off).take (nn * sz)).length = nn * sz := by simp; omega
      have hget : ∀ i, i < nn * sz → ((cs.drop off).take (nn * sz)).getD i .junk = cs.getD (off + i) .junk := fun i hi => by
        simp [List.getD_eq_getElem?_getD, List.getElem?_take, hi, List.getElem?_drop]
      rcases Nat.eq_zero_or_pos cap with h0 | h0
      · have hz : nn = 0 := by omega
        subst hz
        refine .sl .some _ 0 b o cap (by simp) (Nat.zero_le _) (fun e => by cases e) (fun _ => undef) (fun i hi => ?_) (fun i hi => ?_) (fun i hi => ?_) <;> (rw [hlen] at hi; simp at hi)
      · have := ho (by omega)
        subst this
        have key : ∀ i, i < nn * sz → ∃ y, G'.pm b (o + i) = some y ∧ VRel G' (cs.getD (o + i) .junk) y ∧ y.oneCell' = true := fun i hi => k4 (o + i) (by omega)
        have pick : ∀ i, i < nn * sz → ∃ y, (G'.pm b (o + i)).getD undef = y ∧ G'.pm b (o + i) = some y ∧ VRel G' (cs.getD (o + i) .junk) y ∧ y.oneCell' = true := fun i hi => by
          obtain ⟨y, q1, q2, q3⟩ := key i hi
          exact ⟨y, by rw [q1]; rfl, q1, q2, q3⟩
        refine .sl .some _ nn b o cap (by simp) hn (fun e => by cases e) (fun i => (G'.pm b (o + i)).getD undef) (fun i hi => ?_) (fun i hi => ?_) (fun i hi => ?_) <;> rw [hlen] at hi <;> obtain ⟨y, q1, q2, q3, q4⟩ := pick i hi
        · rw [q1]; exact q2
        · rw [hget i hi, q1]; exact q3
        · rw [q1]; exact q4
  | agg cs => cases h; exact ⟨G, G.le_refl, hs, hv⟩
  | _ => cases h; exact ⟨G, G.le_refl, hs, hv⟩

theorem frz_same {n : Nat} {G : Gh} {env : Env} {a : Act} (he : EnvRel G n env a) {t : Nat} {v : V} (hv : VRel G v (a.tmps.getD t undef)) : EnvRel G n (env.upd t v) a := by
  refine ⟨he.1, he.2.1, fun u hu => ?_⟩
  by_cases e : u = t
  · subst e
    simp only [Env.upd, if_true]
    exact hv
  · simp only [Env.upd, if_neg e]
    exact he.2.2 u hu

theorem frzP_sound {G0 : Gh} {K : Env → St → Prop} {a : Act} {w : World} : ∀ (l : List Nat) {G : Gh} {env : Env} {st : St}, (∀ t ∈ l, t < n) → G0.le G → EnvRel G n env a → StRel B w0 G st w → frzP l env st K → Stands B w0 G0 n K a w
  | [], G, env, st, _, hle, he, hs, h => ⟨G, env, st, hle, he, hs, h⟩
  | t :: l, G, env, st, hl, hle, he, hs, h => by
    simp only [frzP] at h
    split at h <;> try exact h.elim
    rename_i v s hv
    obtain ⟨G', g1, g2, g3⟩ := frzV_sound hs (he.2.2 t (hl t (by simp))) hv
    exact frzP_sound l (fun u hu => hl u (by simp [hu])) (Gh.le_trans hle g1) (frz_same (he.mono g1) g3) g2 h

/-- What holds at an exit. -/
def Ends (B : Nat) (w0 : World) (G0 : Gh) (n : Nat) (Q : Ex → Env → St → Prop) : Exit → Act → World → Prop
  | .normal, a, w => Stands B w0 G0 n (Q .normal) a w
  | .exit id, a, w => Stands B w0 G0 n (Q (.exit id)) a w
  | .ret, a, w => Stands B w0 G0 n (Q .ret) a w
  | _, _, _ => False

theorem Stands.mono {G0 : Gh} {K K' : Env → St → Prop} {a : Act} {w : World} (hk : ∀ env st, K env st → K' env st) (h : Stands B w0 G0 n K a w) : Stands B w0 G0 n K' a w := by
  obtain ⟨G, env, st, h1, h2, h3, h4⟩ := h
  exact ⟨G, env, st, h1, h2, h3, hk _ _ h4⟩

theorem Stands.le {G0 G1 : Gh} (hle : G0.le G1) {K : Env → St → Prop} {a : Act} {w : World} (h : Stands B w0 G1 n K a w) : Stands B w0 G0 n K a w := by
  obtain ⟨G, env, st, h1, h2, h3, h4⟩ := h
  exact ⟨G, env, st, Gh.le_trans hle h1, h2, h3, h4⟩

theorem Ends.le {G0 G1 : Gh} (hle : G0.le G1) {Q : Ex → Env → St → Prop} {e : Exit} {a : Act} {w : World} (h : Ends B w0 G1 n Q e a w) : Ends B w0 G0 n Q e a w := by
  cases e <;> first | exact Stands.le hle h | exact h

theorem code_sound (hm : P.follows .mixedOrders = true) : ∀ (c : Code) (pc : PC), compCode P n an c = some pc → ∀ (Q : Ex → Env → St → Prop) {G : Gh} {env : Env} {a : Act} {st : St} {w : World}, EnvRel G n env a → StRel B w0 G st w → vc P pc Q env st → c.wp P (Ends B w0 G n Q) a w := by
  intro c
  induction c with
  | skip =>
    intro pc hc Q G env a st w he hs h
    cases hc
    exact wp_skip ⟨G, env, st, G.le_refl, he, hs, h⟩
  | label l =>
    intro pc hc Q G env a st w he hs h
    cases hc
    exact wp_label ⟨G, env, st, G.le_refl, he, hs, h⟩
  | exit id =>
    intro pc hc Q G env a st w he hs h
    cases hc
    exact wp_exit ⟨G, env, st, G.le_refl, he, hs, h⟩
  | ret =>
    intro pc hc Q G env a st w he hs h
    cases hc
    exact wp_ret ⟨G, env, st, G.le_refl, he, hs, h⟩
  | region id ops draw =>
    intro pc hc Q G env a st w he hs h
    simp only [compCode] at hc
    split at hc <;> try (cases hc; done)
    rename_i b hb
    split at hc
    · rename_i l hl
      split at hc <;> cases hc
      rename_i hall
      have h' : frzP l env st (fun env st => vc P b Q env st) := h
      obtain ⟨G1, env1, st1, g1, g2, g3, g4⟩ := frzP_sound (G0 := G) l (fun t ht => by simpa using List.all_eq_true.1 hall t ht) G.le_refl he hs h'
      exact region_sound hm hb (fun a w h => h) g1 g2 g3 g4
    · cases hc
      exact region_sound hm hb (fun a w h => h) G.le_refl he hs h
  | seq x y ihx ihy =>
    intro pc hc Q G env a st w he hs h
    simp only [compCode] at hc
    split at hc <;> try (cases hc; done)
    rename_i px py hx hy
    cases hc
    refine wp_seq (wp_mono (ihx px hx _ he hs h) fun e a w hq => ?_)
    cases e with
    | normal =>
      obtain ⟨G1, env1, st1, g1, g2, g3, g4⟩ := hq
      exact wp_mono (ihy py hy _ g2 g3 g4) fun e a w hq => hq.le g1
    | exit id => exact hq
    | ret => exact hq
    | goto l => exact hq
    | panic c => exact hq
    | outgrown => exact hq
  | cond c x y ihx ihy =>
    intro pc hc Q G env a st w he hs h
    simp only [compCode] at hc
    split at hc <;> try (cases hc; done)
    rename_i z px py hz hx hy
    cases hc
    simp only [vc] at h
    split at h <;> try exact h.elim
    rename_i t ht
    have hr := ofX_rel he hz
    rw [ht] at hr
    have hce : a.eval c = .bool t := by generalize a.eval c = q at hr; cases hr; rfl
    refine wp_cond hce ?_
    cases t with
    | true => exact ihx px hx _ he hs (by simpa using h)
    | false => exact ihy py hy _ he hs (by simpa using h)
  | block id c ih =>
    intro pc hc Q G env a st w he hs h
    simp only [compCode] at hc
    obtain ⟨px, hx, rfl⟩ := Option.map_eq_some_iff.1 hc
    refine wp_block (wp_mono (ih px hx _ he hs h) fun e a w hq => ?_)
    cases e with
    | exit j =>
      simp only [Exit.inBlock]
      obtain ⟨G1, env1, st1, g1, g2, g3, g4⟩ := hq
      simp only at g4
      split
      · rename_i e
        rw [if_pos e] at g4
        exact ⟨G1, env1, st1, g1, g2, g3, g4⟩
      · rename_i e
        rw [if_neg e] at g4
        exact ⟨G1, env1, st1, g1, g2, g3, g4⟩
    | normal => exact hq
    | ret => exact hq
    | goto l => exact hq
    | panic c => exact hq
    | outgrown => exact hq
  | loop c ih =>
    intro pc hc Q G env a st w he hs h
    simp only [compCode] at hc
    obtain ⟨px, hx, rfl⟩ := Option.map_eq_some_iff.1 hc
    obtain ⟨I, μ, h0, hr⟩ := h
    refine wp_loop_ghost (fun k a w => Stands B w0 G n (fun env' st' => Same px.writes env env' ∧ I env' st' ∧ μ env' st' = k) a w) (μ env st) ⟨G, env, st, G.le_refl, he, hs, Same.refl _ _, h0, rfl⟩ ?_
    rintro k a w ⟨G1, env1, st1, g1, g2, g3, g4, g5, rfl⟩
    have h1 := vc_frame px _ (fun e env2 st2 => Same px.writes env1 env2 ∧ match e with | .normal => (∃ s, St.sub s st2 ∧ I env2 s ∧ μ env2 s < μ env1 st1) | e => Q e env2 st2) env1 st1 (fun e env2 st2 hs hq => ⟨hs, hq⟩) (hr env1 st1 g4 g5)
    refine wp_mono (ih px hx _ g2 g3 h1) fun e a w hq => ?_
    cases e with
    | normal =>
      obtain ⟨G2, env2, st2, k1, k2, k3, k4, s, k5, k6, k7⟩ := hq
      exact ⟨_, k7, G2, env2, s, Gh.le_trans g1 k1, k2, k3.sub k5, g4.trans k4, k6, rfl⟩
    | exit id => exact (Stands.mono (fun _ _ h => h.2) hq).le g1
    | ret => exact (Stands.mono (fun _ _ h => h.2) hq).le g1
    | goto l => exact hq
    | panic c => exact hq
    | outgrown => exact hq
  | rangeFunc f ps x y _ _ => intro pc hc; cases hc
  | scope c _ => intro pc hc; cases hc
  | goto l => intro pc hc; cases hc
  | refuse s => intro pc hc; cases hc

/-! ### functions -/

theorem res_run {G : Gh} {env : Env} {a : Act} {st : St} {w : World} (he : EnvRel G n env a) (hs : StRel B w0 G st w) {r : ResultVar} {p : PR} (hc : compRes P n r = some p) {v : V} (hv : resOne env st p = some v) :
    ∃ x, ((match r with | .tmp t => pure (a.tmps.getD t undef) | .cell ad t => (do loadVar t (← asAddr (a.tmps.getD ad undef))) : Sem Value)).run P w = .ok x w ∧ VRel G v x := by
  cases r with
  | tmp t =>
    simp only [compRes] at hc
    split at hc <;> cases hc
    rename_i ht
    cases hv
    exact ⟨_, rfl, he.2.2 t ht⟩
  | cell ad t =>
    simp only [compRes] at hc
    split at hc <;> try (cases hc; done)
    rename_i ht
    obtain ⟨q, hq, rfl⟩ := Option.map_eq_some_iff.1 hc
    obtain ⟨y, h1, h2⟩ := load_sound hs hq (he.2.2 ad ht) hv
    refine ⟨y, ?_, h2⟩
    obtain ⟨c, hcc, hpk⟩ := Option.bind_eq_some_iff.1 hv
    obtain ⟨b, o, xs, hx, k1, k2, k3⟩ := ldCells_rel hs (he.2.2 ad ht) hcc
    simp only [hx] at h1 ⊢
    simpa [Instr.loadAt, Instr.sureAddr, asAddr] using h1

theorem ress_run {G : Gh} {env : Env} {a : Act} {st : St} {w : World} (he : EnvRel G n env a) (hs : StRel B w0 G st w) : ∀ {l : List ResultVar} {ps : List PR}, compRess P n l = some ps → ∀ {vs : List V}, resAll env st ps = some vs →
    ∃ xs, (l.mapM (fun r => (match r with | .tmp t => pure (a.tmps.getD t undef) | .cell ad t => (do loadVar t (← asAddr (a.tmps.getD ad undef))) : Sem Value))).run P w = .ok xs w ∧ LRel G vs xs
  | [], ps, hc, vs, hv => by
    cases hc
    cases hv
    exact ⟨[], by simp, rfl, fun i hi => by simp at hi⟩
  | r :: l, ps, hc, vs, hv => by
    simp only [compRess] at hc
    split at hc <;> try (cases hc; done)
    rename_i p ps' h1 h2
    cases hc
    simp only [resAll] at hv
    obtain ⟨v, h3, hv⟩ := Option.bind_eq_some_iff.1 hv
    obtain ⟨vs', h4, rfl⟩ := Option.map_eq_some_iff.1 hv
    obtain ⟨x, h5, h6⟩ := res_run he hs h1 h3
    obtain ⟨xs, h7, h8⟩ := ress_run he hs h2 h4
    refine ⟨x :: xs, ?_, by simp [h8.1], fun i hi => ?_⟩
    · rw [List.mapM_cons, Sem.run_bind, h5, Result.andThen_ok, Sem.run_bind, h7]
      rfl
    · cases i with
      | zero => exact h6
      | succ i => exact h8.2 i (by simpa using hi)

theorem results_run {G : Gh} {env : Env} {a : Act} {st : St} {w : World} (he : EnvRel G n env a) (hs : StRel B w0 G st w) {fn : Func} {ps : List PR} (hc : compRess P n fn.results.toList = some ps) {v : V} (hv : resV env st ps = some v) :
    ∃ x, (results fn a.tmps).run P w = .ok x w ∧ VRel G v x := by
  obtain ⟨vs, h1, rfl⟩ := Option.map_eq_some_iff.1 hv
  obtain ⟨xs, h2, h3⟩ := ress_run he hs hc h1
  unfold results
  rw [Array.mapM_eq_mapM_toList]
  have hrun : ∀ (f : ResultVar → Sem Value), (fn.results.toList.mapM f).run P w = .ok xs w → ((do let vs ← List.toArray <$> fn.results.toList.mapM f; pure (if h : vs.size = 1 then vs[0] else .tuple vs)) : Sem Value).run P w = .ok (if h : xs.toArray.size = 1 then xs.toArray[0] else .tuple xs.toArray) w := by
    intro f hf
    simp only [map_eq_pure_bind, bind_assoc, pure_bind, Sem.run_bind, hf, Result.andThen_ok, Sem.run_pure]
  refine ⟨_, hrun _ ?_, ?_⟩
  · exact h2
  · match vs, xs, h3 with
    | [], [], _ => exact .tup _ _ rfl fun i hi => by simp at hi
    | [v], [x], h => exact h.2 0 (by simp)
    | v :: u :: l, x :: y :: m, h =>
      have : ¬ ((x :: y :: m).toArray.size = 1) := by simp
      rw [dif_neg this]
      refine .tup _ _ (by have := h.1; simpa using this) fun i hi => ?_
      have := h.2 i hi
      rw [getD_toList]
      simpa using this
    | [], x :: _, h => exact absurd h.1 (by simp)
    | [v], [], h => exact absurd h.1 (by simp)
    | [v], x :: y :: m, h => exact absurd h.1 (by simp)
    | v :: u :: l, [], h => exact absurd h.1 (by simp)
    | v :: u :: l, [x], h => exact absurd h.1 (by simp)

theorem argEnv_getD : ∀ (l : List V) (t : Nat), argEnv l t = l.getD t .junk
  | [], t => by simp [argEnv]
  | v :: l, 0 => rfl
  | v :: l, t + 1 => by rw [argEnv, argEnv_getD l t]; rfl

theorem acalls_of_shows (hm : P.follows .mixedOrders = true) {f : FuncId} {F : PF} (hc : compFn P an f = some F) {args : List V} {st : St} {R : V → St → Prop} (hl : args.length ≤ F.n) (h : F.shows P args st R) : ACalls P f args st R := by
  unfold compFn at hc
  split at hc <;> try (cases hc; done)
  rename_i fn hf
  split at hc <;> try (cases hc; done)
  rename_i c hb
  split at hc <;> try (cases hc; done)
  rename_i pc rs h1 h2
  cases hc
  intro fr hd B w0 G w xs hs ha
  refine calls_of_wp hf hb ?_
  have he : EnvRel G fn.ntmps (argEnv args) { tmps := xs.toArray ++ Array.replicate (fn.ntmps - xs.toArray.size) undef, defers := [] } := by
    have hlen : xs.length = args.length := ha.1
    have hl' : args.length ≤ fn.ntmps := hl
    refine ⟨by simp; omega, rfl, fun t ht => ?_⟩
    rw [argEnv_getD]
    by_cases hta : t < args.length
    · have := ha.2 t hta
      have e : (xs.toArray ++ Array.replicate (fn.ntmps - xs.toArray.size) undef).getD t undef = xs.getD t undef := by
        rw [Array.getD_eq_getD_getElem?, Array.getElem?_append_left (by simp; omega), List.getD_eq_getElem?_getD]
        simp
      rw [e]
      exact this
    · rw [List.getD_eq_getElem?_getD, List.getElem?_eq_none (by omega)]
      exact .junk _
  refine wp_mono (code_sound hm c pc h1 _ he hs (vc_beside pc _ _ _ hd h)) fun e a w' hq => ?_
  have fin : ∀ (Q : Env → St → Prop), (∀ env st', Q env st' → match resV env st' rs with | some v => ∃ s, St.sub s st' ∧ R v s | none => False) → Stands B w0 G fn.ntmps (Beside fr Q) a w' → a.defers = [] ∧ ∃ v, (results fn a.tmps).run P w' = .ok v w' ∧ ∃ v' x G' st', Ending.returned v = .returned x ∧ G.le G' ∧ VRel G' v' x ∧ Disj st' fr ∧ StRel B w0 G' (st'.add fr) w' ∧ R v' st' := by
    rintro Q hQ ⟨G1, env1, st1, g1, g2, g3, st2, g4, rfl, g5⟩
    have h5 := hQ _ _ g5
    split at h5 <;> try exact h5.elim
    rename_i v hv
    obtain ⟨s, hsub, hR⟩ := h5
    obtain ⟨x, h6, h7⟩ := results_run g2 (g3.sub (sub_add st2 fr)) h2 hv
    exact ⟨g2.2.1, x, h6, v, x, G1, s, rfl, g1, h7, g4.sub hsub, g3.sub (sub_add_sub hsub g4), hR⟩
  cases e with
  | normal => exact fin _ (fun env st' hq => hq.2) hq
  | ret => exact fin _ (fun env st' hq => hq.2) hq
  | exit id =>
    obtain ⟨G1, env1, st1, g1, g2, g3, st2, g4, rfl, g5⟩ := hq
    rcases g5.1 with e | e <;> cases e
  | goto l => exact hq.elim
  | panic c => exact hq.elim
  | outgrown => exact hq.elim
end
end Go.Ab
