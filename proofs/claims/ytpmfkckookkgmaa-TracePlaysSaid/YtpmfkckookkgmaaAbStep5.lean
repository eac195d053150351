/-
  One operation of the machine's code under what is to be shown of it: the join.
-/
import Derived.Test.YtpmfkckookkgmaaAbStep4
set_option linter.unusedSimpArgs false
set_option linter.unusedVariables false
namespace Go.Ab
open Go Go.RowKit
section
variable {P : Program} {B : Nat} {w0 : World} {G : Gh} {st : St} {w : World} {n : Nat} {env : Env} {a : Act} {an : An}

set_option maxHeartbeats 2000000 in
theorem step_sound {o : Oper} {p : POp} (hc : compOp P n an o = some p) (he : EnvRel G n env a) (hs : StRel B w0 G st w) {K : V → St → Prop} (h : stepP P p env st K) {next : Act → World → Prop} {Q : Exit → Act → World → Prop}
    (hn : ∀ v x G' st' w', G.le G' → VRel G' v x → StRel B w0 G' st' w' → K v st' → next (a.put o.dst x) w') : o.wp P a w next Q := by
  have pure_case : pureP p = true → o.wp P a w next Q := fun hp => by
    obtain ⟨v, hv, hK⟩ := stepP_pure hp h
    exact wp_of_gives (opV_sound hc he hs hv) fun x G' w' h1 h2 h3 => hn v x G' st w' h1 h2 h3 hK
  obtain ⟨dst, op, ty, pos, after, guard⟩ := o
  cases op with
  | alloc e =>
    obtain ⟨z, h1, rfl⟩ := Option.map_eq_some_iff.1 hc
    obtain ⟨x, w', G', g1, g2, g3, g4, g5⟩ := alloc_sound hs h1
    exact wp_of_value (run_value g1) (hn _ x G' _ w' g3 g4 g5 (h _ g2))
  | box e x =>
    obtain ⟨y, h1, rfl⟩ := Option.map_eq_some_iff.1 hc
    have h' : (match ((y.ev env).cells?.map fun cs => ((AObj.cells cs, fun id => V.ptr (some (id, 0))) : AObj × (Nat → V))) with | some (ob, mk) => ∀ id, st id = none → K (mk id) (st.upd id ob) | none => False) := h
    cases hcs : (y.ev env).cells? with
    | none => rw [hcs] at h'; exact h'.elim
    | some cs =>
      rw [hcs] at h'
      obtain ⟨r, w', G', g1, g2, g3, g4, g5⟩ := box_sound (P := P) (e := e) hs (ofX_rel he h1) hcs
      exact wp_of_value (run_value g1) (hn _ r G' _ w' g3 g4 g5 (h' _ g2))
  | buildSlice t len ps =>
    have hc0 := hc
    simp only [compOp] at hc
    split at hc <;> try (cases hc; done)
    rename_i e hu
    obtain ⟨s, h0, hc⟩ := bind_some hc
    obtain ⟨z, h1, hc⟩ := bind_some hc
    split at hc <;> try (cases hc; done)
    rename_i hcond
    simp only [Bool.and_eq_true, decide_eq_true_eq] at hcond
    obtain ⟨q, h2, hc⟩ := bind_some hc
    cases hc
    generalize hob : (dst.any fun x => an.obj.contains x) = ob at h pure_case
    cases ob with
    | false => exact pure_case rfl
    | true =>
      have h' : (match ((fillV (repV z len) (q.map fun p => (p.1, p.2.1, p.2.2.ev env))).map fun cs => ((AObj.cells cs, fun id => V.hsl id 0 s len) : AObj × (Nat → V))) with | some (ob, mk) => ∀ id, st id = none → K (mk id) (st.upd id ob) | none => False) := h
      cases hcs : fillV (repV z len) (q.map fun p => (p.1, p.2.1, p.2.2.ev env)) with
      | none => rw [hcs] at h'; exact h'.elim
      | some cs =>
        rw [hcs] at h'
        obtain ⟨r, w', G', g1, g2, g3, g4, g5⟩ := bslo_sound (P := P) hs he h1 hu h0 hcond.1.1 hcond.2 h2 hcs
        exact wp_of_value (run_value g1) (hn _ r G' _ w' g3 g4 g5 (h' _ g2))
  | store t x y =>
    obtain ⟨q, h1, hc⟩ := bind_some hc
    obtain ⟨x', h2, hc⟩ := bind_some hc
    obtain ⟨y', h3, hc⟩ := bind_some hc
    cases hc
    have h' : (match storeS st q (x'.ev env) (y'.ev env) with | some st' => K .junk st' | none => False) := h
    cases hst : storeS st q (x'.ev env) (y'.ev env) with
    | none => rw [hst] at h'; exact h'.elim
    | some st' =>
      rw [hst] at h'
      obtain ⟨w', g1, g2⟩ := store_sound (P := P) hs h1 (ofX_rel he h2) (ofX_rel he h3) hst
      exact wp_of_skip (run_unit g1) (hn .junk undef G st' w' G.le_refl (.junk _) g2 h')
  | mapUpdate t m k x =>
    simp only [compOp] at hc
    split at hc <;> try (cases hc; done)
    rename_i kt e ht
    obtain ⟨kk, h1, hc⟩ := bind_some hc
    obtain ⟨m', h3, hc⟩ := bind_some hc
    obtain ⟨k', h4, hc⟩ := bind_some hc
    obtain ⟨v', h5, hc⟩ := bind_some hc
    cases hc
    have h' : (match msetS st kk (m'.ev env) (k'.ev env) (v'.ev env) with | some st' => K .junk st' | none => False) := h
    cases hst : msetS st kk (m'.ev env) (k'.ev env) (v'.ev env) with
    | none => rw [hst] at h'; exact h'.elim
    | some st' =>
      rw [hst] at h'
      obtain ⟨w', g1, g2⟩ := mset_run (P := P) hs ht (compKey_fits h1) (ofX_rel he h3) (ofX_rel he h4) (ofX_rel he h5) hst
      exact wp_of_skip (run_unit g1) (hn .junk undef G st' w' G.le_refl (.junk _) g2 h')
  | insert t m k x =>
    simp only [compOp] at hc
    split at hc <;> try (cases hc; done)
    rename_i kt e ht
    obtain ⟨kk, h1, hc⟩ := bind_some hc
    obtain ⟨m', h3, hc⟩ := bind_some hc
    obtain ⟨k', h4, hc⟩ := bind_some hc
    obtain ⟨v', h5, hc⟩ := bind_some hc
    cases hc
    have h' : (match msetS st kk (m'.ev env) (k'.ev env) (v'.ev env) with | some st' => K .junk st' | none => False) := h
    cases hst : msetS st kk (m'.ev env) (k'.ev env) (v'.ev env) with
    | none => rw [hst] at h'; exact h'.elim
    | some st' =>
      rw [hst] at h'
      obtain ⟨w', g1, g2⟩ := mset_run (P := P) hs ht (compKey_fits h1) (ofX_rel he h3) (ofX_rel he h4) (ofX_rel he h5) hst
      exact wp_of_skip (run_unit g1) (hn .junk undef G st' w' G.le_refl (.junk _) g2 h')
  | makeMap t r =>
    cases r <;> cases hc
    obtain ⟨x, w', G', g1, g2, g3, g4, g5⟩ := mkmap_sound (P := P) hs t
    exact wp_of_value (run_value g1) (hn _ x G' _ w' g3 g4 g5 (h _ g2))
  | makeSlice t l c =>
    simp only [compOp] at hc
    split at hc <;> try (cases hc; done)
    rename_i e ht
    obtain ⟨i, h1, hc⟩ := bind_some hc
    obtain ⟨z, h2, hc⟩ := bind_some hc
    split at hc <;> try (cases hc; done)
    rename_i hby
    obtain ⟨l', h3, hc⟩ := bind_some hc
    obtain ⟨c', h4, hc⟩ := bind_some hc
    cases hc
    generalize hob : (dst.any fun x => an.obj.contains x) = ob at h
    have h' : (match natOf (l'.ev env), natOf (c'.ev env) with
      | some n, some c => n ≤ c ∧ c * i.bytes ≤ 140737488355328 ∧ z.length = i.size ∧ (if ob = true then ∀ id, st id = none → K (.hsl id 0 i.size n) (st.upd id (.cells (repV z n))) else K (.sl .some (repV z n) n) st)
      | _, _ => False) := h
    split at h' <;> try (exact h'.elim)
    rename_i k cc hk hcc
    obtain ⟨e1, e2, e3, e4⟩ := h'
    obtain ⟨⟨r, w', G', g1, g2, g3, g4⟩, ⟨r2, w2, G2, j1, j2, j3, j4, j5⟩⟩ := mksl_sound (P := P) hs ht h1 h2 (ofX_rel he h3) (ofX_rel he h4) hk hcc e1 e2 e3 (by
      have := Nat.le_mul_of_pos_right cc hby
      omega)
    cases ob with
    | false => exact wp_of_value (run_value g1) (hn _ r G' _ w' g2 g3 g4 (by simpa using e4))
    | true => exact wp_of_value (run_value j1) (hn _ r2 G2 _ w2 j3 j4 j5 (by simp only [if_true] at e4; exact e4 _ j2))
  | call c =>
    obtain ⟨callee, args, tys⟩ := c
    have hc0 := hc
    simp only [compOp] at hc
    split at hc
    · rename_i f
      split at hc <;> try (cases hc; done)
      rename_i hok
      obtain ⟨q, h1, rfl⟩ := Option.map_eq_some_iff.1 hc
      refine call_wp hs (ofXs_rel he h1) h ?_ hn
      have : args.map a.eval = (args.toList.map a.eval).toArray := by
        apply Array.ext'
        simp
      simp only [execOp, resolve, Sem.run_bind, Act.eval, Deferred.ofValue, Sem.run_pure, Result.andThen_ok, invoke, okFn_call hok, Array.empty_append, Array.append_empty]
      rw [← this]
    · obtain ⟨x', h1, hc⟩ := bind_some hc
      obtain ⟨q, h2, hc⟩ := bind_some hc
      cases hc
      rename_i x hne _
      have h' : (match x'.ev env with | .func f cap => okFn P f = true ∧ ACalls P f (q.map (·.ev env) ++ cap) st K | _ => False) := h
      have hx := ofX_rel he h1
      split at h' <;> try (exact h'.elim)
      rename_i f cap hev
      rw [hev] at hx
      have hl := ofXs_rel he h2
      generalize hxe : a.eval x = xv at hx
      cases hx with
      | func _ _ xs hlen hv =>
        refine call_wp hs (hl.append (show LRel G cap xs.toList from ⟨by simpa using hlen, fun i hi => by rw [← getD_toList]; exact hv i hi⟩)) h'.2 ?_ hn
        have : args.map a.eval = (args.toList.map a.eval).toArray := by
          apply Array.ext'
          simp
        simp only [execOp, resolve, Sem.run_bind, hxe, Deferred.ofValue, Sem.run_pure, Result.andThen_ok, invoke, okFn_call h'.1, Array.empty_append]
        congr 2
        apply Array.ext'
        simp
    · rename_i b
      obtain ⟨p0, hc1, hz⟩ := Option.map_eq_some_iff.1 hc
      generalize hzz : (Option.any (fun x => an.apz.contains x) dst) = zz at hz
      clear hc
      have hc := hc1
      clear hc1
      have pc2 : pureP p0 = true → p0.turnZ zz = p0 → Oper.wp P { dst := dst, op := Op.call { callee := Callee.builtin b, args := args, argTypes := tys }, type := ty, pos := pos, after := after, guard := guard } a w next Q := fun hp hq => pure_case (by rw [← hz, hq]; exact hp)
      clear pure_case hc0
      obtain ⟨xs, h1, hc⟩ := Option.bind_eq_some_iff.1 hc
      have hl := ofXs_rel he h1
      have htys : tys = tys.toList.toArray := (Array.toArray_toList).symm
      have hargs : args.map a.eval = (args.toList.map a.eval).toArray := by
        apply Array.ext'
        simp
      have hrun : ∀ {s : Sem Value} {r : Value} {w' : World}, (∀ cs, builtin b tys ty cs (args.map a.eval) = (do pure (Next.value (← s)))) → s.run P w = .ok r w' → (execOp a.eval ⟨dst, .call ⟨.builtin b, args, tys⟩, ty, pos, after, guard⟩).run P w = .ok (.value r) w' := by
        intro s r w' e h
        show ((builtin b tys ty _ (args.map a.eval)).run P w) = _
        rw [e]
        exact run_value h
      have two : ∀ {x y : X}, xs = [x, y] → ∃ o1 o2, args.toList = [o1, o2] ∧ VRel G (x.ev env) (a.eval o1) ∧ VRel G (y.ev env) (a.eval o2) := by
        intro x y e
        rw [e] at hl
        have hlen := hl.1
        simp only [List.length_map, List.length_cons, List.length_nil] at hlen
        generalize args.toList = al at hlen hl
        match al, hlen, hl with
        | [o1, o2], _, hl => exact ⟨o1, o2, rfl, hl.head, hl.tail.head⟩
      unfold compBuiltin at hc
      split at hc
      · have : pureP p0 = true ∧ p0.turnZ zz = p0 := by
          split at hc <;> cases hc <;> exact ⟨rfl, rfl⟩
        exact pc2 this.1 this.2
      · cases hc; exact pc2 rfl rfl
      · cases hc; exact pc2 rfl rfl
      · rename_i t u x y hts _
        obtain ⟨o1, o2, ho, hx, hy⟩ := two rfl
        obtain ⟨e, i, z, c1, c2, c3, c4, c5, c6, c7, rfl⟩ := compAppend_some hc
        cases zz with
        | true =>
          have hpz : p = .appz i.size i.bytes x y := hz.symm
          subst hpz
          have h' : (match elems st i.size (y.ev env) with
            | none => False
            | some (ys, m) =>
              match x.ev env with
              | .sl k cs n =>
                (k = .nil ∨ k = .full) ∧ cs.length = n * i.size ∧ (n + m) * i.bytes ≤ 140737488355328 ∧ (m = 0 → K (.sl k cs n) st) ∧ (m ≠ 0 → K (.sl .some (cs ++ ys) (n + m)) st)
              | .hsl id off sz' n =>
                match st id with
                | some (.cells cs) =>
                  sz' = i.size ∧ (n + m) * i.bytes ≤ 140737488355328 ∧ off = 0 ∧ n * i.size ≤ cs.length ∧
                  K (.sl .some (cs.take (n * i.size) ++ ys) (n + m)) (st.upd id (.ro (cs.take (n * i.size) ++ List.replicate (cs.length - n * i.size) .junk)))
                | _ => False
              | _ => False) := h
          split at h' <;> try (exact h'.elim)
          rename_i ys m hel
          obtain ⟨r, v, w', G', st', g1, g2, g3, g4, g5⟩ := appz_sound (ty := ty) hs c1 c2 c3 c4 c5 c6 c7 hy hel h' hx
          refine wp_of_value (hrun (fun cs => ?_) g1) (hn v r G' st' w' g2 g3 g4 g5)
          simp only [builtin]
          rw [hargs, ho, htys, hts]
          rfl
        | false =>
        have hpz : p = .app i.size i.bytes x y := hz.symm
        subst hpz
        have h' : (match elems st i.size (y.ev env) with
          | none => False
          | some (ys, m) =>
            match x.ev env with
            | .sl k cs n =>
              (k = .nil ∨ k = .full) ∧ cs.length = n * i.size ∧ (n + m) * i.bytes ≤ 140737488355328 ∧
              (m = 0 → K (.sl k cs n) st) ∧ (m ≠ 0 → ∀ id, st id = none → K (.hsl id 0 i.size (n + m)) (st.upd id (.cells (cs ++ ys))))
            | .hsl id off sz' n =>
              match st id with
              | some (.cells cs) =>
                sz' = i.size ∧ (n + m) * i.bytes ≤ 140737488355328 ∧
                if off + (n + m) * i.size ≤ cs.length then K (.hsl id off i.size (n + m)) (st.upd id (.cells (spliceV cs (off + n * i.size) ys)))
                else off = 0 ∧ cs.length = n * i.size ∧ ∀ id', (st.del id) id' = none → K (.hsl id' 0 i.size (n + m)) ((st.del id).upd id' (.cells (cs ++ ys)))
              | _ => False
            | _ => False) := h
        split at h' <;> try (exact h'.elim)
        rename_i ys m hel
        obtain ⟨r, v, w', G', st', g1, g2, g3, g4, g5⟩ := app_sound (ty := ty) hs c1 c2 c3 c4 c5 c6 c7 hy hel h' hx
        refine wp_of_value (hrun (fun cs => ?_) g1) (hn v r G' st' w' g2 g3 g4 g5)
        simp only [builtin]
        rw [hargs, ho, htys, hts]
        rfl
      · rename_i t x hts _
        split at hc <;> try (cases hc; done)
        rename_i e ht
        split at hc <;> try (cases hc; done)
        rename_i sz zs hsz hz2
        cases hc
        have hpz : p = .clear sz zs x := hz.symm
        subst hpz
        clear hz
        have hz := hz2
        have hone : ∃ o1, args.toList = [o1] ∧ VRel G (x.ev env) (a.eval o1) := by
          have hlen := hl.1
          simp only [List.length_map, List.length_cons, List.length_nil] at hlen
          generalize args.toList = al at hlen hl
          match al, hlen, hl with
          | [o1], _, hl => exact ⟨o1, rfl, hl.head⟩
        obtain ⟨o1, ho, hx⟩ := hone
        have h' : (match x.ev env with
          | .hsl id off sz' n =>
            match st id with
            | some (.cells cs) => sz' = sz ∧ zs.length = sz ∧ off + n * sz ≤ cs.length ∧ K .junk (st.upd id (.cells (spliceV cs off (repV zs n))))
            | _ => False
          | .sl .nil [] 0 => K .junk st
          | _ => False) := h
        have hargs1 : args.map a.eval = #[a.eval o1] := by rw [hargs, ho]; rfl
        generalize hxe : x.ev env = xa at h' hx
        cases xa with
        | hsl id off sz' nn =>
          simp only at h'
          split at h' <;> try exact h'.elim
          rename_i cs hst
          obtain ⟨e1, e2, e3, e4⟩ := h'
          subst e1
          obtain ⟨w', g1, g2⟩ := clear_sound (P := P) (ty := ty) hs hx hst ht hz e2 e3
          refine wp_of_value (hrun (fun cs => ?_) g1) (hn .junk _ G _ w' G.le_refl (.junk _) g2 e4)
          simp only [builtin]
          rw [hargs1, htys, hts]
        | sl k cs nn =>
          have hnil : k = .nil ∧ cs = [] ∧ nn = 0 := by
            cases k <;> cases cs <;> cases nn <;> first | exact h'.elim | exact ⟨rfl, rfl, rfl⟩
          obtain ⟨rfl, rfl, rfl⟩ := hnil
          generalize hxo : a.eval o1 = xo at hx hargs1
          cases hx with
          | slnil _ _ =>
            have g1 : (Builtin.clear_ #[t] ty #[.slice none 0 0]).run P w = .ok (.tuple #[]) w := by
              simp [Builtin.clear_, run_underlying ht]
            refine wp_of_value (hrun (fun cs => ?_) g1) (hn .junk _ G _ w G.le_refl (.junk _) hs h')
            simp only [builtin]
            rw [hargs1, htys, hts]
          | sl _ _ _ _ _ _ hk => exact absurd rfl hk
        | _ => exact h'.elim
      · rename_i t u m k hts _
        obtain ⟨o1, o2, ho, hx, hy⟩ := two rfl
        split at hc <;> try (cases hc; done)
        rename_i kt e ht
        obtain ⟨kk, h2, rfl⟩ := Option.map_eq_some_iff.1 hc
        have hpz : p = .mdel kk m k := hz.symm
        subst hpz
        have h' : (match mdelS st kk (m.ev env) (k.ev env) with | some st' => K .junk st' | none => False) := h
        cases hst : mdelS st kk (m.ev env) (k.ev env) with
        | none => rw [hst] at h'; exact h'.elim
        | some st' =>
          rw [hst] at h'
          obtain ⟨w', g1, g2⟩ := mdel_run (P := P) (u := u) (ty := ty) hs ht (compKey_fits h2) hx hy hst
          refine wp_of_value (hrun (fun cs => ?_) g1) (hn .junk _ G st' w' G.le_refl (.junk _) g2 h')
          simp only [builtin]
          rw [hargs, ho, htys, hts]
          rfl
      · cases hc
    · cases hc
  | move x => obtain ⟨y, h1, rfl⟩ := Option.map_eq_some_iff.1 hc; exact pure_case rfl
  | assign x => obtain ⟨y, h1, rfl⟩ := Option.map_eq_some_iff.1 hc; exact pure_case rfl
  | nilCheck x => obtain ⟨y, h1, rfl⟩ := Option.map_eq_some_iff.1 hc; exact pure_case rfl
  | extract x i => obtain ⟨y, h1, rfl⟩ := Option.map_eq_some_iff.1 hc; exact pure_case rfl
  | pick c x y =>
    obtain ⟨c', h1, hc⟩ := bind_some hc
    obtain ⟨x', h2, hc⟩ := bind_some hc
    obtain ⟨y', h3, hc⟩ := bind_some hc
    cases hc
    exact pure_case rfl
  | build t ps =>
    obtain ⟨z, h1, hc⟩ := bind_some hc
    split at hc
    · split at hc <;> try (cases hc; done)
      obtain ⟨q, h2, hc⟩ := bind_some hc
      cases hc
      exact pure_case rfl
    · obtain ⟨s, h0, hc⟩ := bind_some hc
      obtain ⟨q, h2, hc⟩ := bind_some hc
      cases hc
      exact pure_case rfl
    · cases hc
  | load t x =>
    obtain ⟨q, h1, hc⟩ := bind_some hc
    obtain ⟨y, h2, hc⟩ := bind_some hc
    cases hc
    exact pure_case rfl
  | ready g => cases hc
  | waits g => cases hc
  | binOp op t x y u =>
    obtain ⟨x', hx1, hc⟩ := bind_some hc
    obtain ⟨y', hy1, hc⟩ := bind_some hc
    have bincase : p = .bin op x' y' → pureP p = true := by intro e; subst e; rfl
    refine pure_case ?_
    by_cases h1 : op = .eql
    · subst h1
      obtain ⟨r, h3, hc⟩ := bind_some hc
      cases r with
      | none => exact bincase (Option.some.inj hc).symm
      | some e => cases hc; rfl
    · by_cases h2 : op = .neq
      · subst h2
        obtain ⟨r, h3, hc⟩ := bind_some hc
        cases r with
        | none => exact bincase (Option.some.inj hc).symm
        | some e => cases hc; rfl
      · refine bincase ?_
        cases op <;> first
          | exact absurd rfl h1
          | exact absurd rfl h2
          | exact (Option.some.inj hc).symm
  | unOp op t x =>
    obtain ⟨x', h1, hc⟩ := bind_some hc
    cases op <;> cases hc <;> exact pure_case rfl
  | convert s d x =>
    obtain ⟨x', h1, hc⟩ := bind_some hc
    split at hc
    · cases hc; exact pure_case rfl
    · cases hc; exact pure_case rfl
    · split at hc <;> cases hc
      exact pure_case rfl
    · split at hc <;> cases hc
      exact pure_case rfl
    · cases hc
  | sliceToArrayPointer d x => cases hc
  | makeInterface t x => cases hc
  | makeFunc fn first caps =>
    cases fn <;> simp only [compOp] at hc <;> try (cases hc; done)
    split at hc <;> try (cases hc; done)
    obtain ⟨q, h1, rfl⟩ := Option.map_eq_some_iff.1 hc
    exact pure_case rfl
  | makeChan t x => cases hc
  | slice t x lo hi mx =>
    obtain ⟨x', h1, hc⟩ := bind_some hc
    obtain ⟨lo', h2, hc⟩ := bind_some hc
    obtain ⟨hi', h3, hc⟩ := bind_some hc
    split at hc
    · split at hc <;> cases hc
      exact pure_case rfl
    · obtain ⟨s, h4, hc⟩ := bind_some hc
      obtain ⟨mx', h5, hc⟩ := bind_some hc
      split at hc
      · split at hc <;> (cases hc; exact pure_case rfl)
      · cases hc
        exact pure_case rfl
    · split at hc <;> try (cases hc; done)
      obtain ⟨s, h4, hc⟩ := bind_some hc
      cases hc
      exact pure_case rfl
    · cases hc
  | fieldAddr t x i =>
    simp only [compOp] at hc
    split at hc <;> try (cases hc; done)
    split at hc <;> try (cases hc; done)
    split at hc <;> try (cases hc; done)
    obtain ⟨x', h1, rfl⟩ := Option.map_eq_some_iff.1 hc
    exact pure_case rfl
  | field t x i =>
    simp only [compOp] at hc
    split at hc <;> try (cases hc; done)
    split at hc <;> try (cases hc; done)
    obtain ⟨q, h1, hc⟩ := bind_some hc
    obtain ⟨x', h2, hc⟩ := bind_some hc
    cases hc
    exact pure_case rfl
  | indexAddr t x i =>
    obtain ⟨x', h1, hc⟩ := bind_some hc
    obtain ⟨i', h2, hc⟩ := bind_some hc
    split at hc
    · obtain ⟨s, h3, rfl⟩ := Option.map_eq_some_iff.1 hc
      exact pure_case rfl
    · obtain ⟨s, h3, rfl⟩ := Option.map_eq_some_iff.1 hc
      exact pure_case rfl
    · cases hc
  | index t x i =>
    obtain ⟨x', h1, hc⟩ := bind_some hc
    obtain ⟨i', h2, hc⟩ := bind_some hc
    split at hc
    · obtain ⟨s, h3, hc⟩ := bind_some hc
      obtain ⟨ag, h4, hc⟩ := bind_some hc
      split at hc <;> cases hc
      exact pure_case rfl
    · cases hc
      exact pure_case rfl
    · cases hc
  | lookup t m k ok =>
    simp only [compOp] at hc
    split at hc <;> try (cases hc; done)
    obtain ⟨kk, h1, hc⟩ := bind_some hc
    obtain ⟨z, h2, hc⟩ := bind_some hc
    obtain ⟨m', h3, hc⟩ := bind_some hc
    obtain ⟨k', h4, hc⟩ := bind_some hc
    cases hc
    exact pure_case rfl
  | mapEntry t m k => cases hc
  | entryStore t m k x => cases hc
  | range t x =>
    simp only [compOp] at hc
    split at hc <;> try (cases hc; done)
    · rename_i ht
      obtain ⟨y, h1, rfl⟩ := Option.map_eq_some_iff.1 hc
      have h' : (match (match y.ev env with | .str s => some ((AObj.siter s 0, fun id => V.ptr (some (id, 0))) : AObj × (Nat → V)) | _ => none) with | some (ob, mk) => ∀ id, st id = none → K (mk id) (st.upd id ob) | none => False) := h
      have hx := ofX_rel he h1
      generalize hxe : a.eval x = xv at hx
      generalize y.ev env = yv at h' hx
      cases yv <;> simp only at h'
      rename_i s
      cases hx
      obtain ⟨r, w', G', g1, g2, g3, g4, g5⟩ := rngStr_sound (P := P) hs ht s
      exact wp_of_value (by simp only [execOp, hxe]; exact run_value g1) (hn _ r G' _ w' g3 g4 g5 (h' _ g2))
    · rename_i ht
      obtain ⟨y, h1, rfl⟩ := Option.map_eq_some_iff.1 hc
      obtain ⟨r, u, w', G', st', g1, g2, g3, g4, g5⟩ := rngMap_sound (P := P) hs ht h (ofX_rel he h1)
      exact wp_of_value (run_value g1) (hn u r G' st' w' g2 g3 g4 g5)
  | next it s =>
    obtain ⟨y, h1, rfl⟩ := Option.map_eq_some_iff.1 hc
    cases s with
    | true =>
      obtain ⟨r, u, w', G', st', g1, g2, g3, g4, g5⟩ := nextStr_sound (P := P) (ty := ty) hs h (ofX_rel he h1)
      exact wp_of_value (run_value g1) (hn u r G' st' w' g2 g3 g4 g5)
    | false =>
      obtain ⟨r, u, w', G', st', g1, g2, g3, g4, g5⟩ := nextMap_sound (P := P) (ty := ty) hs h (ofX_rel he h1)
      exact wp_of_value (run_value g1) (hn u r G' st' w' g2 g3 g4 g5)
  | entry it =>
    obtain ⟨y, h1, rfl⟩ := Option.map_eq_some_iff.1 hc
    exact pure_case rfl
  | typeAssert x t u ok => cases hc
  | go c => cases hc
  | defer c => cases hc
  | panic x => cases hc
  | send ch x => cases hc
  | recv t ch ok => cases hc
  | select cs b => cases hc
end
end Go.Ab
