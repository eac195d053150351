/-
  Each operation of the machine's code that changes nothing gives what the small language says: all of them.
-/
import Derived.Test.YtpmfkckookkgmaaAbStep
import Derived.Test.YtpmfkckookkgmaaAbIter
set_option linter.unusedSimpArgs false
set_option linter.unusedVariables false
namespace Go.Ab
open Go Go.RowKit

section
variable {P : Program} {B : Nat} {w0 : World} {G : Gh} {st : St} {w : World} {n : Nat} {env : Env} {a : Act} {an : An}

theorem bind_some {α β : Type} {x : Option α} {f : α → Option β} {r : β} (h : (x >>= f) = some r) : ∃ y, x = some y ∧ f y = some r := Option.bind_eq_some_iff.1 h

theorem Gives.of {v : V} {s : Sem Value} (h : ∃ y w' G', s.run P w = .ok y w' ∧ G.le G' ∧ VRel G' v y ∧ StRel B w0 G' st w') : Gives P B w0 G st v ((do pure (Next.value (← s)) : Sem Next).run P w) := by
  obtain ⟨y, w', G', h1, h2, h3, h4⟩ := h
  exact ⟨y, w', G', run_value h1, h2, h3, h4⟩

theorem Gives.of0 (hs : StRel B w0 G st w) {v : V} {s : Sem Value} (h : ∃ y, s.run P w = .ok y w ∧ VRel G v y) : Gives P B w0 G st v ((do pure (Next.value (← s)) : Sem Next).run P w) := by
  obtain ⟨y, h1, h2⟩ := h
  exact ⟨y, w, G, run_value h1, G.le_refl, h2, hs⟩

theorem opV_sound {o : Oper} {p : POp} (hc : compOp P n an o = some p) (he : EnvRel G n env a) (hs : StRel B w0 G st w) {v : V} (hv : opV p env st = some v) :
    Gives P B w0 G st v ((execOp a.eval o).run P w) := by
  obtain ⟨dst, op, ty, pos, after, guard⟩ := o
  cases op with
  | move x =>
    obtain ⟨y, h1, rfl⟩ := Option.map_eq_some_iff.1 hc
    cases hv
    exact Gives.now hs (ofX_rel he h1)
  | assign x =>
    obtain ⟨y, h1, rfl⟩ := Option.map_eq_some_iff.1 hc
    cases hv
    exact Gives.now hs (ofX_rel he h1)
  | pick c x y =>
    obtain ⟨c', h1, hc⟩ := bind_some hc
    obtain ⟨x', h2, hc⟩ := bind_some hc
    obtain ⟨y', h3, hc⟩ := bind_some hc
    cases hc
    have hr := ofX_rel he h1
    simp only [opV] at hv
    split at hv <;> try (cases hv; done)
    rename_i t ht
    rw [ht] at hr
    cases hv
    have hce : a.eval c = .bool t := by generalize a.eval c = z at hr; cases hr; rfl
    refine ⟨if t then a.eval x else a.eval y, w, G, ?_, G.le_refl, ?_, hs⟩
    · simp [execOp, hce, asBool]
    · cases t
      · exact ofX_rel he h3
      · exact ofX_rel he h2
  | alloc e => obtain ⟨y, h1, rfl⟩ := Option.map_eq_some_iff.1 hc; cases hv
  | box e x => obtain ⟨y, h1, rfl⟩ := Option.map_eq_some_iff.1 hc; cases hv
  | build t ps =>
    obtain ⟨z, h1, hc⟩ := bind_some hc
    split at hc
    · rename_i fs hu
      split at hc <;> try (cases hc; done)
      rename_i hall
      obtain ⟨q, h2, hc⟩ := bind_some hc
      cases hc
      simp only [opV] at hv
      obtain ⟨cs, h3, rfl⟩ := Option.map_eq_some_iff.1 hv
      obtain ⟨C, h4, h5⟩ := build_struct (w := w) he h1 hu hall h2 h3
      exact Gives.ret hs h4 h5
    · rename_i len e hu
      obtain ⟨s, h0, hc⟩ := bind_some hc
      obtain ⟨q, h2, hc⟩ := bind_some hc
      cases hc
      simp only [opV] at hv
      obtain ⟨cs, h3, rfl⟩ := Option.map_eq_some_iff.1 hv
      obtain ⟨C, h4, h5⟩ := build_array (w := w) he h1 hu h0 h2 h3
      exact Gives.ret hs h4 h5
    · cases hc
  | buildSlice t len ps =>
    simp only [compOp] at hc
    split at hc <;> try (cases hc; done)
    rename_i e hu
    obtain ⟨s, h0, hc⟩ := bind_some hc
    obtain ⟨z, h1, hc⟩ := bind_some hc
    split at hc <;> try (cases hc; done)
    rename_i hcond
    simp only [Bool.and_eq_true, decide_eq_true_eq] at hcond
    obtain ⟨q, h2, hc⟩ := bind_some hc
    cases hc
    generalize hob : (dst.any fun x => an.obj.contains x) = ob at hv
    cases ob with
    | true => cases hv
    | false =>
      simp only [opV] at hv
      obtain ⟨cs, h3, rfl⟩ := Option.map_eq_some_iff.1 hv
      exact Gives.of (bsl_rel hs he h1 hu h0 hcond.1.1 hcond.2 h2 h3)
  | load t x =>
    obtain ⟨q, h1, hc⟩ := bind_some hc
    obtain ⟨y, h2, hc⟩ := bind_some hc
    cases hc
    exact Gives.of0 hs (load_sound hs h1 (ofX_rel he h2) hv)
  | store t x y =>
    obtain ⟨q, h1, hc⟩ := bind_some hc
    obtain ⟨y, h2, hc⟩ := bind_some hc
    obtain ⟨y', h3, hc⟩ := bind_some hc
    cases hc
    cases hv
  | ready g => cases hc
  | waits g => cases hc
  | nilCheck x =>
    obtain ⟨y, h1, rfl⟩ := Option.map_eq_some_iff.1 hc
    obtain ⟨h2, h3⟩ := nilck_rel (P := P) (w := w) (a := a) (ofX_rel he h1) hv
    exact ⟨_, w, G, h3 _ x rfl rfl, G.le_refl, h2, hs⟩
  | binOp op t x y u =>
    obtain ⟨x', hx1, hc⟩ := bind_some hc
    obtain ⟨y', hy1, hc⟩ := bind_some hc
    have hx := ofX_rel he hx1
    have hy := ofX_rel he hy1
    have eqcase : ∀ (neg : Bool) (e : EK), compEq P t = some (some e) → opV (.eqa e neg x' y') env st = some v → op = (if neg then .neq else .eql) → Gives P B w0 G st v ((execOp a.eval ⟨dst, .binOp op t x y u, ty, pos, after, guard⟩).run P w) := by
      intro neg e hce hv hop
      simp only [opV] at hv
      obtain ⟨r, h3, rfl⟩ := Option.map_eq_some_iff.1 hv
      have hf := compEq_fits hce
      have heq := eqK_sound (P := P) (w := w) hf hx hy h3
      refine Gives.of0 hs ⟨.bool (if neg then !r else r), ?_, .bool _⟩
      have hg : (eqGuard op t x y (a.eval x) (a.eval y)).run P w = .ok () w := by
        cases e with
        | agg m =>
          have hg := flat_guard hf.1 hf.2
          simp only [eqK] at h3
          generalize hxe : a.eval x = xv at hx
          generalize hye : a.eval y = yv at hy
          generalize X.ev env x' = xa at *
          generalize X.ev env y' = ya at *
          cases xa <;> cases ya <;> first | (cases h3; done) | skip
          obtain ⟨xs, rfl, _⟩ := hx.agg_inv
          obtain ⟨ys, rfl, _⟩ := hy.agg_inv
          exact run_eqGuard_agg w op t x y xs ys hg
        | _ =>
          rw [eqGuard_ok]
          · rfl
          · intro xs e
            rw [e] at hx
            generalize X.ev env x' = xa at *
            cases hx <;> cases (X.ev env y') <;> first | (cases h3; done) | (simp only [eqK] at h3; cases h3; done)
          · intro e
            rw [e] at hx
            generalize X.ev env x' = xa at *
            cases hx
            cases (X.ev env y') <;> first | (cases h3; done) | (simp only [eqK] at h3; cases h3; done)
      have hb : (binOp op t (a.eval x) (a.eval y)).run P w = .ok (.bool (if neg then !r else r)) w := by
        subst hop
        generalize hxe : a.eval x = xv at *
        generalize hye : a.eval y = yv at *
        generalize X.ev env x' = xa at *
        generalize X.ev env y' = ya at *
        have key : ∀ (o : BinOp), (o = .eql ∨ o = .neq) → binOp o t xv yv = (if o = .eql then (do pure (.bool (← Op.equal t xv yv))) else do pure (.bool (!(← Op.equal t xv yv)))) := by
          intro o ho
          cases e <;> cases hx <;> simp only [eqK] at h3 <;> (try (cases h3; done)) <;> cases hy <;> simp only [eqK] at h3 <;> (try (cases h3; done)) <;> rcases ho with rfl | rfl <;> rfl
        rw [key _ (by cases neg <;> simp)]
        cases neg <;> simp [heq]
      simp [hg, hb]
    have bincase : p = .bin op x' y' → Gives P B w0 G st v ((execOp a.eval ⟨dst, .binOp op t x y u, ty, pos, after, guard⟩).run P w) := by
      intro e
      subst e
      have hv' : binV op (x'.ev env) (y'.ev env) = some v := hv
      exact Gives.of0 hs (bin_sound hx hy hv' t x y)
    by_cases h1 : op = .eql
    · subst h1
      obtain ⟨r, h3, hc⟩ := bind_some hc
      cases r with
      | none => exact bincase (Option.some.inj hc).symm
      | some e => cases hc; exact eqcase false e h3 hv rfl
    · by_cases h2 : op = .neq
      · subst h2
        obtain ⟨r, h3, hc⟩ := bind_some hc
        cases r with
        | none => exact bincase (Option.some.inj hc).symm
        | some e => cases hc; exact eqcase true e h3 hv rfl
      · refine bincase ?_
        cases op <;> first
          | exact absurd rfl h1
          | exact absurd rfl h2
          | exact (Option.some.inj hc).symm
  | unOp op t x =>
    obtain ⟨x', h1, hc⟩ := bind_some hc
    have hx := ofX_rel he h1
    cases op <;> cases hc
    · exact Gives.of0 hs (negV_rel hx hv)
    · exact Gives.of0 hs (invV_rel hx hv)
    · exact Gives.of0 hs (notV_rel hx hv)
  | convert s d x =>
    obtain ⟨x', h1, hc⟩ := bind_some hc
    have hx := ofX_rel he h1
    split at hc
    · rename_i sd k h2 h3
      cases hc
      exact Gives.of0 hs (convV_rel hx hv h2 h3)
    · rename_i h2 h3
      cases hc
      simp only [opV] at hv
      split at hv <;> cases hv
      rename_i q hq
      rw [hq] at hx
      refine Gives.of0 hs ⟨a.eval x, ?_, hx⟩
      generalize a.eval x = z at hx
      cases hx
      simp [convert, run_underlying h2, run_underlying h3]
    · rename_i e h2 h3
      split at hc <;> cases hc
      have h4' : P.underlying e = some (.int .u8) := by assumption
      exact Gives.of0 hs (toStr_rel hs hx hv h2 h3 h4')
    · rename_i e h2 h3
      split at hc <;> cases hc
      have h4' : P.underlying e = some (.int .u8) := by assumption
      simp only [opV] at hv
      split at hv <;> cases hv
      rename_i q hq
      rw [hq] at hx
      have hxe : a.eval x = .string q := by generalize a.eval x = z at hx; cases hx; rfl
      have := toBytes_rel (P := P) hs q h2 h3 h4'
      rw [← hxe] at this
      exact Gives.of this
    · cases hc
  | sliceToArrayPointer d x => cases hc
  | makeInterface t x => cases hc
  | makeFunc fn first caps =>
    cases fn <;> simp only [compOp] at hc <;> try (cases hc; done)
    rename_i f
    split at hc <;> try (cases hc; done)
    rename_i hfirst
    obtain ⟨q, h1, rfl⟩ := Option.map_eq_some_iff.1 hc
    cases hv
    have hl := ofXs_rel he h1
    refine Gives.of0 hs ⟨.func (.func f) #[] (caps.map a.eval), ?_, ?_⟩
    · have : first = #[] := by simpa using hfirst
      simp [Instr.makeFunc, this]
    · refine .func f _ _ (by have := hl.1; simpa using this) (fun i hi => ?_)
      have := hl.2 i hi
      rw [getD_toList]
      simpa using this
  | makeMap t r =>
    cases r <;> cases hc
    cases hv
  | makeChan t x => cases hc
  | makeSlice t l c =>
    simp only [compOp] at hc
    split at hc <;> try (cases hc; done)
    obtain ⟨i, h1, hc⟩ := bind_some hc
    obtain ⟨z, h2, hc⟩ := bind_some hc
    split at hc <;> try (cases hc; done)
    obtain ⟨l', h3, hc⟩ := bind_some hc
    obtain ⟨c', h4, hc⟩ := bind_some hc
    cases hc
    cases hv
  | slice t x lo hi mx =>
    obtain ⟨x', h1, hc⟩ := bind_some hc
    obtain ⟨lo', h2, hc⟩ := bind_some hc
    obtain ⟨hi', h3, hc⟩ := bind_some hc
    have hx := ofX_rel he h1
    have hlo := ofXo_rel he h2
    have hhi := ofXo_rel he h3
    split at hc
    · rename_i ht
      split at hc <;> cases hc
      rename_i hmx
      have hm : mx = none := by cases mx with | none => rfl | some q => simp_all
      subst hm
      simp only [opV] at hv
      split at hv <;> try (cases hv; done)
      rename_i s hq
      rw [hq] at hx
      have hxe : a.eval x = .string s := by generalize a.eval x = z at hx; cases hx; rfl
      have := slStr_rel (P := P) (w := w) hlo hhi hv ht
      rw [← hxe] at this
      exact Gives.of0 hs this
    · rename_i e ht
      obtain ⟨s, h4, hc⟩ := bind_some hc
      obtain ⟨mx', h5, hc⟩ := bind_some hc
      split at hc
      · split at hc
        · rename_i hmx
          cases hc
          have hm : mx = none := by simpa using hmx
          subst hm
          exact Gives.of0 hs (slw_rel hs hx hlo hhi hv ht h4)
        · cases hc
          exact Gives.of0 hs (chk3_rel hx hlo hhi (ofXo_rel he h5) hv ht h4)
      · cases hc
        exact Gives.of0 hs (sl_rel hx hlo hhi (ofXo_rel he h5) hv ht h4)
    · rename_i m e ht
      split at hc <;> try (cases hc; done)
      rename_i hmx
      have hm : mx = none := by simpa using hmx
      subst hm
      obtain ⟨s, h4, hc⟩ := bind_some hc
      cases hc
      exact Gives.of0 hs (slArr_rel hs hx hlo hhi hv ht h4)
    · cases hc
  | fieldAddr t x i =>
    simp only [compOp] at hc
    split at hc <;> try (cases hc; done)
    rename_i fs ht
    split at hc <;> try (cases hc; done)
    rename_i f hf
    split at hc <;> try (cases hc; done)
    rename_i hsz
    obtain ⟨x', h1, rfl⟩ := Option.map_eq_some_iff.1 hc
    obtain ⟨b, o, h2, h3⟩ := fldA_rel (ofX_rel he h1) hv
    refine Gives.of0 hs ⟨_, ?_, h3⟩
    have : ∃ s, szOf P f.type = some s ∧ s ≠ 0 := by
      cases hz : szOf P f.type with
      | none => rw [hz] at hsz; cases hsz
      | some s => rw [hz] at hsz; exact ⟨s, rfl, by simpa using hsz⟩
    obtain ⟨s, h4, h5⟩ := this
    simp [Instr.fieldAt, run_underlying ht, hf, h2, Instr.sureAddr, fieldPlace, run_sizeOf h4, h5, add_lit]
  | field t x i =>
    simp only [compOp] at hc
    split at hc <;> try (cases hc; done)
    rename_i fs ht
    split at hc <;> try (cases hc; done)
    rename_i f hf
    obtain ⟨q, h1, hc⟩ := bind_some hc
    obtain ⟨x', h2, hc⟩ := bind_some hc
    cases hc
    have hx := ofX_rel he h2
    simp only [opV] at hv
    generalize X.ev env x' = xa at *
    cases xa <;> simp only [fldV] at hv <;> try (cases hv; done)
    obtain ⟨C, r, h3, h4, h5⟩ := fld_sound (w := w) hx h1 hv
    refine Gives.of0 hs ⟨r, ?_, h5⟩
    simp [Instr.field, run_underlying ht, hf, h3, asAgg, h4]
  | indexAddr t x i =>
    obtain ⟨x', h1, hc⟩ := bind_some hc
    obtain ⟨i', h2, hc⟩ := bind_some hc
    have hx := ofX_rel he h1
    have hi := ofX_rel he h2
    split at hc
    · rename_i m e ht
      obtain ⟨s, h3, rfl⟩ := Option.map_eq_some_iff.1 hc
      exact Gives.of0 hs (idxArr_rel hx hi hv ht h3)
    · rename_i e ht
      obtain ⟨s, h3, rfl⟩ := Option.map_eq_some_iff.1 hc
      exact Gives.of0 hs (idxSl_rel hx hi hv ht h3)
    · cases hc
  | index t x i =>
    obtain ⟨x', h1, hc⟩ := bind_some hc
    obtain ⟨i', h2, hc⟩ := bind_some hc
    have hx := ofX_rel he h1
    have hi := ofX_rel he h2
    split at hc
    · rename_i m e ht
      obtain ⟨s, h3, hc⟩ := bind_some hc
      obtain ⟨ag, h4, hc⟩ := bind_some hc
      split at hc <;> cases hc
      rename_i hcond
      exact Gives.of0 hs (idx_rel hx hi hv ht h3 h4 (by simp_all))
    · rename_i ht
      cases hc
      exact Gives.of0 hs (idxStr_rel hx hi hv ht)
    · cases hc
  | lookup t m k ok =>
    simp only [compOp] at hc
    split at hc <;> try (cases hc; done)
    rename_i kt e ht
    obtain ⟨kk, h1, hc⟩ := bind_some hc
    obtain ⟨z, h2, hc⟩ := bind_some hc
    obtain ⟨m', h3, hc⟩ := bind_some hc
    obtain ⟨k', h4, hc⟩ := bind_some hc
    cases hc
    exact Gives.of0 hs (lookup_run hs ht (compKey_fits h1) h2 (ofX_rel he h3) (ofX_rel he h4) hv)
  | mapUpdate t m k x =>
    simp only [compOp] at hc
    split at hc <;> try (cases hc; done)
    obtain ⟨kk, h1, hc⟩ := bind_some hc
    obtain ⟨m', h3, hc⟩ := bind_some hc
    obtain ⟨k', h4, hc⟩ := bind_some hc
    obtain ⟨v', h5, hc⟩ := bind_some hc
    cases hc
    cases hv
  | insert t m k x =>
    simp only [compOp] at hc
    split at hc <;> try (cases hc; done)
    obtain ⟨kk, h1, hc⟩ := bind_some hc
    obtain ⟨m', h3, hc⟩ := bind_some hc
    obtain ⟨k', h4, hc⟩ := bind_some hc
    obtain ⟨v', h5, hc⟩ := bind_some hc
    cases hc
    cases hv
  | mapEntry t m k => cases hc
  | entryStore t m k x => cases hc
  | range t x =>
    simp only [compOp] at hc
    split at hc <;> try (cases hc; done)
    · obtain ⟨y, h1, rfl⟩ := Option.map_eq_some_iff.1 hc; cases hv
    · obtain ⟨y, h1, rfl⟩ := Option.map_eq_some_iff.1 hc; cases hv
  | next it s =>
    obtain ⟨y, h1, rfl⟩ := Option.map_eq_some_iff.1 hc
    cases s <;> cases hv
  | entry it =>
    obtain ⟨y, h1, rfl⟩ := Option.map_eq_some_iff.1 hc
    exact Gives.of0 hs (entry_sound hs (ofX_rel he h1) hv)
  | typeAssert x t u ok => cases hc
  | extract x i =>
    obtain ⟨x', h1, rfl⟩ := Option.map_eq_some_iff.1 hc
    exact Gives.of0 hs (ext_rel (ofX_rel he h1) hv)
  | call c =>
    obtain ⟨callee, args, tys⟩ := c
    simp only [compOp] at hc
    split at hc
    · split at hc <;> try (cases hc; done)
      obtain ⟨q, h1, rfl⟩ := Option.map_eq_some_iff.1 hc
      cases hv
    · obtain ⟨q, h1, hc⟩ := bind_some hc
      obtain ⟨q2, h2, hc⟩ := bind_some hc
      cases hc
      cases hv
    · rename_i b
      obtain ⟨p0, hc1, hz⟩ := Option.map_eq_some_iff.1 hc
      have hv0 : opV p0 env st = some v := by
        cases p0 <;> first
          | (rw [← hz] at hv; exact hv)
          | (rw [← hz] at hv; unfold POp.turnZ at hv; simp only at hv; split at hv <;> cases hv)
      clear hv hz hc
      have hc := hc1
      have hv := hv0
      clear hc1 hv0
      generalize p0 = p at hc hv
      obtain ⟨xs, h1, hc⟩ := Option.bind_eq_some_iff.1 hc
      have hl := ofXs_rel he h1
      have hrun : ∀ (s : Sem Value), (∀ cs, builtin b tys ty cs (args.map a.eval) = (do pure (Next.value (← s)))) → Gives P B w0 G st v ((do pure (Next.value (← s)) : Sem Next).run P w) → Gives P B w0 G st v ((execOp a.eval ⟨dst, .call ⟨.builtin b, args, tys⟩, ty, pos, after, guard⟩).run P w) := by
        intro s e h
        show Gives P B w0 G st v ((builtin b tys ty _ (args.map a.eval)).run P w)
        rw [e]
        exact h
      have htys : tys = tys.toList.toArray := (Array.toArray_toList).symm
      have hargs : args.map a.eval = (args.toList.map a.eval).toArray := by
        apply Array.ext'
        simp
      have hc0 := hc
      unfold compBuiltin at hc
      split at hc
      · -- len
        rename_i t xx hts _
        have hx : ∃ o, args.toList = [o] := by
          have hlen := hl.1
          simp only [List.length_map, List.length_cons, List.length_nil] at hlen
          generalize args.toList = al at hlen
          match al, hlen with
          | [o], _ => exact ⟨o, rfl⟩
        obtain ⟨o, ho⟩ := hx
        rw [ho] at hl hargs
        refine hrun (Builtin.len_ #[t] ty #[a.eval o]) (fun cs => by simp only [builtin]; rw [hargs, htys, hts]; rfl) (Gives.of0 hs ?_)
        rw [hts] at hc0
        exact len_rel hs hl.head hc0 rfl hv ty
      · -- max
        rename_i x l
        cases hc
        simp only [opV] at hv
        obtain ⟨z, zs, hzs, h3, h4⟩ := hl.cons_inv
        obtain ⟨q, h5, h6⟩ := foldV_rel (P := P) (w := w) max2V Builtin.max2 max2_rel h3 h4 hv
        refine hrun (Builtin.max_ tys ty (args.map a.eval)) (fun cs => rfl) (Gives.of0 hs ⟨q, ?_, h6⟩)
        rw [hargs, hzs]
        exact h5
      · -- min
        rename_i x l
        cases hc
        simp only [opV] at hv
        obtain ⟨z, zs, hzs, h3, h4⟩ := hl.cons_inv
        obtain ⟨q, h5, h6⟩ := foldV_rel (P := P) (w := w) min2V Builtin.min2 min2_rel h3 h4 hv
        refine hrun (Builtin.min_ tys ty (args.map a.eval)) (fun cs => rfl) (Gives.of0 hs ⟨q, ?_, h6⟩)
        rw [hargs, hzs]
        exact h5
      · -- append
        have : ∃ a b c d, p = .app a b c d := by
          unfold compAppend at hc
          (repeat' split at hc) <;> first
            | (cases hc; done)
            | exact ⟨_, _, _, _, (Option.some.inj hc).symm⟩
        obtain ⟨_, _, _, _, rfl⟩ := this
        cases hv
      · -- clear
        exfalso
        split at hc <;> try (cases hc; done)
        split at hc <;> try (cases hc; done)
        cases hc
        cases hv
      · -- delete
        exfalso
        split at hc <;> try (cases hc; done)
        obtain ⟨kk, h2, rfl⟩ := Option.map_eq_some_iff.1 hc
        cases hv
      · cases hc
    · cases hc
  | go c => cases hc
  | defer c => cases hc
  | panic x => cases hc
  | send ch x => cases hc
  | recv t ch ok => cases hc
  | select cs b => cases hc
end
end Go.Ab
