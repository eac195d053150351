import Derived.Test.YtgodabkifdmfcaaGreatJ2
import Derived.Test.YtgodabkifdmfcaaGreatJ1
import Derived.Deep.LoopGhost
/-
  One operation of the machine's code under what is to be shown of it.
-/
set_option linter.unusedSimpArgs false
set_option linter.unusedVariables false
namespace Go.Ab
open Go Go.RowKit

/-- Operations that change nothing. -/
def pureP : POp → Bool
  | .store .. | .mset .. | .mdel .. | .mkmap | .alloc _ | .box _ | .bsl true .. | .mksl .. | .app .. | .clear .. | .call .. | .callv .. | .rngStr _ | .nextStr _ | .rngMap _ | .nextMap _ | .appz .. | .appf .. => false
  | _ => true

section
variable {P : Program} {B : Nat} {w0 : World} {G : Gh} {st : St} {w : World} {n : Nat} {env : Env} {a : Act} {an : An}

theorem stepP_appf {sz b : Nat} {x y : X} {K : V → St → Prop} (h : stepP P (.appf sz b x y) env st K) : stepP P (.app sz b x y) env st K := by
  simp only [stepP] at h ⊢
  split at h
  · exact h
  · generalize x.ev env = xv at h ⊢
    cases xv <;> first | exact h | exact h.elim

theorem stepP_pure {p : POp} (hp : pureP p = true) {K : V → St → Prop} (h : stepP P p env st K) : ∃ v, opV p env st = some v ∧ K v st := by
  have key : (match opV p env st with | some v => K v st | none => False) → ∃ v, opV p env st = some v ∧ K v st := by
    intro h
    cases hv : opV p env st with
    | none => rw [hv] at h; exact h.elim
    | some v => rw [hv] at h; exact ⟨v, rfl, h⟩
  cases p <;> first
    | exact key h
    | (simp only [pureP] at hp; cases hp; done)
    | skip
  · rename_i obj sz nn zero parts
    cases obj with
    | true => simp only [pureP] at hp; cases hp
    | false => exact key h

theorem wp_of_gives {o : Oper} {next : Act → World → Prop} {Q : Exit → Act → World → Prop} {v : V} (h : Gives P B w0 G st v ((execOp a.eval o).run P w))
    (hn : ∀ x G' w', G.le G' → VRel G' v x → StRel B w0 G' st w' → next (a.put o.dst x) w') : o.wp P a w next Q := by
  obtain ⟨x, w', G', h1, h2, h3, h4⟩ := h
  unfold Oper.wp
  rw [h1]
  exact hn x G' w' h2 h3 h4

theorem wp_of_value {o : Oper} {next : Act → World → Prop} {Q : Exit → Act → World → Prop} {x : Value} {w' : World} (h : (execOp a.eval o).run P w = .ok (.value x) w') (hn : next (a.put o.dst x) w') : o.wp P a w next Q := by
  unfold Oper.wp
  rw [h]
  exact hn

theorem wp_of_skip {o : Oper} {next : Act → World → Prop} {Q : Exit → Act → World → Prop} {w' : World} (h : (execOp a.eval o).run P w = .ok .skip w') (hn : next (a.put o.dst undef) w') : o.wp P a w next Q := by
  unfold Oper.wp
  rw [h]
  exact hn

theorem run_unit {s : Sem Unit} {w w' : World} (h : s.run P w = .ok () w') : ((do s; pure Next.skip) : Sem Next).run P w = .ok .skip w' := by
  simp [h]

theorem okFn_call {f : FuncId} (h : okFn P f = true) (args : Array Value) : (callFunc f args).run P w = .ok (.enter f args) w := by
  unfold okFn at h
  cases hf : P.funcs[f]? with
  | none => rw [hf] at h; cases h
  | some fn =>
    rw [hf] at h
    simp only [Option.any_some, Bool.and_eq_true, bne_iff_ne, ne_eq] at h
    obtain ⟨c, hc⟩ := Option.isSome_iff_exists.1 h.2
    simp [callFunc, hf, h.1, hc]

theorem St.add_none (st : St) : st.add (fun _ => none) = st := by
  funext i
  simp only [St.add]
  cases st i <;> rfl

theorem call_wp {f : FuncId} {args : List V} {xs : List Value} {K : V → St → Prop} (hs : StRel B w0 G st w) (hl : LRel G args xs) (h : ACalls P f args st K) {o : Oper} {next : Act → World → Prop} {Q : Exit → Act → World → Prop}
    (hrun : (execOp a.eval o).run P w = .ok (.enter f xs.toArray) w) (hn : ∀ v x G' st' w', G.le G' → VRel G' v x → StRel B w0 G' st' w' → K v st' → next (a.put o.dst x) w') : o.wp P a w next Q := by
  unfold Oper.wp
  rw [hrun]
  refine (h (fun _ => none) (fun _ => .inr rfl) B w0 G w xs (by rw [St.add_none]; exact hs) hl).mono fun e w' ⟨v, x, G', st', he, h1, h2, _, h3, h4⟩ => ?_
  subst he
  rw [St.add_none] at h3
  exact hn v x G' st' w' h1 h2 h3 h4

theorem natOf_run {v : V} {x : Value} (hv : VRel G v x) {k : Nat} (h : natOf v = some k) : ∃ kd : IntKind, x = .int kd (k : Int) := by
  obtain ⟨kd, i, rfl, h0, h1⟩ := natOf_rel hv h
  exact ⟨kd, by rw [← h1, Int.toNat_of_nonneg h0]⟩

theorem repV_add (z : List V) (d : Nat) : ∀ k, repV z (k + d) = repV z k ++ repV z d
  | 0 => by simp [repV]
  | k + 1 => by rw [show k + 1 + d = (k + d) + 1 by omega]; simp only [repV, repV_add z d k, List.append_assoc]

theorem take_repV (z : List V) {k c : Nat} (h : k ≤ c) : (repV z c).take (k * z.length) = repV z k := by
  obtain ⟨d, rfl⟩ := Nat.exists_eq_add_of_le h
  rw [repV_add, ← length_repV, List.take_left]

theorem mksl_sound (hs : StRel B w0 G st w) {t e : TypeId} {i : TypeInfo} {zs : List V} (ht : P.underlying t = some (.slice e)) (hi : P.info? e = some i) (hz : zeroOf P e = some zs) {v1 v2 : V} {x y : Value} (h1 : VRel G v1 x) (h2 : VRel G v2 y) {k c : Nat} (hk : natOf v1 = some k) (hc : natOf v2 = some c)
    (hle : k ≤ c) (hb : c * i.bytes ≤ 140737488355328) (hzl : zs.length = i.size) (hc63 : c ≤ 9223372036854775807) :
    (∃ r w' G', (Instr.makeSlice t x y).run P w = .ok r w' ∧ G.le G' ∧ VRel G' (.sl .some (repV zs k) k) r ∧ StRel B w0 G' st w') ∧
    ∃ r w' G', (Instr.makeSlice t x y).run P w = .ok r w' ∧ st G.N = none ∧ G.le G' ∧ VRel G' (.hsl G.N 0 i.size k) r ∧ StRel B w0 G' (st.upd G.N (.cells (repV zs k))) w' := by
  obtain ⟨kd, rfl⟩ := natOf_run h1 hk
  obtain ⟨kd2, rfl⟩ := natOf_run h2 hc
  obtain ⟨i', z, g1, g2, g3⟩ := zeroOf_rel (G := G) hz
  rw [hi] at g1
  cases g1
  have hzs : z.cells.size = i.size := by have := g3.length; simp at this; omega
  have hb' : (i.bytes : Int) * (c : Int) ≤ 281474976710656 := by
    have : ((c * i.bytes : Nat) : Int) ≤ 140737488355328 := by omega
    rw [Int.natCast_mul] at this
    rw [Int.mul_comm]
    omega
  have hrun := run_make (P := P) w t e i z ht hi g2 kd kd2 (k : Int) (c : Int) (by omega) (by omega) hb' (by omega)
  simp only [Int.toNat_natCast] at hrun
  have hmade : (madeCells z.cells (c * i.size)) = zerosX z.cells (c * i.size) := rfl
  have hrel := zerosX_rel g3 c
  rw [hzs] at hrel
  have hsplit : (zerosX z.cells (c * i.size)).toList = (zerosX z.cells (c * i.size)).toList.take (k * i.size) ++ (zerosX z.cells (c * i.size)).toList.drop (k * i.size) := (List.take_append_drop _ _).symm
  have hpart : CRel G (repV zs k) ((zerosX z.cells (c * i.size)).toList.take (k * i.size)) := by
    have h1 := hrel.take (k * i.size)
    have h2 : (repV zs c).take (k * i.size) = repV zs k := by
      rw [← hzl]
      exact take_repV zs hle
    rw [h2] at h1
    exact h1
  rw [hmade] at hrun
  have harr : zerosX z.cells (c * i.size) = ((zerosX z.cells (c * i.size)).toList.take (k * i.size) ++ (zerosX z.cells (c * i.size)).toList.drop (k * i.size)).toArray := by
    apply Array.ext'
    simp
  rw [harr] at hrun
  constructor
  · obtain ⟨q1, q2⟩ := hs.addPm ((zerosX z.cells (c * i.size)).toList.take (k * i.size)) e (0, 0) ((zerosX z.cells (c * i.size)).toList.drop (k * i.size))
    refine ⟨_, _, _, hrun, q1, ?_, q2⟩
    refine .sl .some _ _ w.heap.size 0 _ (by simp) hle (fun e => by cases e) (fun j => ((zerosX z.cells (c * i.size)).toList.take (k * i.size)).getD j undef) (fun j hj => ?_) (fun j hj => (hpart.val j hj).mono q1) (fun j hj => hpart.one j hj)
    have := hpart.length
    rw [Gh.addPm_new, Nat.zero_add, List.getD_eq_getElem?_getD, List.getElem?_eq_getElem (by omega)]
    rfl
  · obtain ⟨q1, q2⟩ := hs.newCells (ys := (zerosX z.cells (c * i.size)).toList.drop (k * i.size)) hpart e
    refine ⟨_, _, _, hrun, q1, G.addObj_le _, .hsl G.N 0 i.size k w.heap.size _ _ c 0 (G.addObj_new _) hle ?_ ?_ (fun _ => rfl), q2⟩
    · rw [← List.length_append, List.take_append_drop]
      simp [zerosX]
    · rw [length_repV, hzl, Nat.zero_add]
      exact Nat.mul_le_mul_right _ hle

theorem clear_sound (hs : StRel B w0 G st w) {id off sz nn : Nat} {cs : List V} {x : Value} (hx : VRel G (.hsl id off sz nn) x) (hst : st id = some (.cells cs)) {t e ty : TypeId} {zs : List V} (ht : P.underlying t = some (.slice e)) (hz : zeroOf P e = some zs) (hzl : zs.length = sz) (hfit : off + nn * sz ≤ cs.length) :
    ∃ w', (Builtin.clear_ #[t] ty #[x]).run P w = .ok (.tuple #[]) w' ∧ StRel B w0 G (st.upd id (.cells (spliceV cs off (repV zs nn)))) w' := by
  obtain ⟨i, z, g1, g2, g3⟩ := zeroOf_rel (G := G) hz
  cases hx with
  | hsl _ _ _ _ b l m cap o hι hn hm hl ho =>
    obtain ⟨b', l', m', k1, k2, C, T, k3, k4, k5, k6, k7, k8⟩ := hs.obj id _ hst
    rw [hι] at k1
    obtain ⟨rfl, rfl, rfl⟩ : b = b' ∧ l = l' ∧ m = m' := by cases k1; exact ⟨rfl, rfl, rfl⟩
    have hrel := zerosX_rel g3 nn
    have hzsz : z.cells.size = sz := by have := g3.length; simp at this; omega
    have hzc : Builtin.zeroCells z.cells nn = zerosX z.cells (nn * z.cells.size) := rfl
    have hlen := hrel.length
    rw [length_repV, hzl] at hlen
    have hsp := hs.splice hst hι k3 hrel (o := off) (by rw [length_repV, hzl]; exact hfit)
    rcases Nat.eq_zero_or_pos nn with h0 | h0
    · subst h0
      refine ⟨w, ?_, ?_⟩
      · simp [Builtin.clear_, run_underlying ht]
      · have : (zerosX z.cells (0 * z.cells.size)).toList = [] := List.eq_nil_of_length_eq_zero (by rw [hlen, Nat.zero_mul])
        rw [this] at hsp
        simp only [List.append_nil, List.length_nil, Nat.add_zero, List.take_append_drop, Array.toArray_toList] at hsp
        rw [setRow_self w b C T (0, 0) k3] at hsp
        exact hsp
    · have hoff := ho (by omega)
      subst hoff
      refine ⟨_, ?_, hsp⟩
      have hrun := run_storeCells_at P b o T (zerosX z.cells (nn * z.cells.size)).toList 0 C w k3 (by rw [hlen]; omega) hrel.2
      simp only [Nat.add_zero] at hrun
      obtain ⟨q, rfl⟩ : ∃ q, nn = q + 1 := ⟨nn - 1, by omega⟩
      simp only [Builtin.clear_, List.getElem?_toArray, List.getElem?_cons_zero, Sem.run_bind, run_underlying ht, Result.andThen_ok, run_zeroValue g1 g2, hzc, hrun, Sem.run_pure]

end
end Go.Ab
/-
  One operation of the machine's code under what is to be shown of it: the join.
-/
set_option linter.unusedSimpArgs false
set_option linter.unusedVariables false
namespace Go.Ab
open Go Go.RowKit
section
variable {P : Program} {B : Nat} {w0 : World} {G : Gh} {st : St} {w : World} {n : Nat} {env : Env} {a : Act} {an : An}

set_option maxHeartbeats 2000000 in
theorem step_sound {o : Oper} {p : POp} (hc : compOp P n an o = some p) (he : EnvRel G n env a) (hs : StRel B w0 G st w) {K : V → St → Prop} (h : stepP P p env st K) {next : Act → World → Prop} {Q : Exit → Act → World → Prop}
    (hn : ∀ v x G' st' w', G.le G' → VRel G' v x → StRel B w0 G' st' w' → K v st' → next (a.put o.dst x) w') : o.wp P a w next Q := by
  have pure_case : pureP p = true → o.wp P a w next Q := fun hp => by
    obtain ⟨v, hv, hK⟩ := stepP_pure hp h
    exact wp_of_gives (opV_sound hc he hs hv) fun x G' w' h1 h2 h3 => hn v x G' st w' h1 h2 h3 hK
  obtain ⟨dst, op, ty, pos, after, guard⟩ := o
  cases op with
  | alloc e =>
    obtain ⟨z, h1, rfl⟩ := Option.map_eq_some_iff.1 hc
    obtain ⟨x, w', G', g1, g2, g3, g4, g5⟩ := alloc_sound hs h1
    exact wp_of_value (run_value g1) (hn _ x G' _ w' g3 g4 g5 (h _ g2))
  | box e x =>
    obtain ⟨y, h1, rfl⟩ := Option.map_eq_some_iff.1 hc
    have h' : (match ((y.ev env).cells?.map fun cs => ((AObj.cells cs, fun id => V.ptr (some (id, 0))) : AObj × (Nat → V))) with | some (ob, mk) => ∀ id, st id = none → K (mk id) (st.upd id ob) | none => False) := h
    cases hcs : (y.ev env).cells? with
    | none => rw [hcs] at h'; exact h'.elim
    | some cs =>
      rw [hcs] at h'
      obtain ⟨r, w', G', g1, g2, g3, g4, g5⟩ := box_sound (P := P) (e := e) hs (ofX_rel he h1) hcs
      exact wp_of_value (run_value g1) (hn _ r G' _ w' g3 g4 g5 (h' _ g2))
  | buildSlice t len ps =>
    have hc0 := hc
    simp only [compOp] at hc
    split at hc <;> try (cases hc; done)
    rename_i e hu
    obtain ⟨s, h0, hc⟩ := bind_some hc
    obtain ⟨z, h1, hc⟩ := bind_some hc
    split at hc <;> try (cases hc; done)
    rename_i hcond
    simp only [Bool.and_eq_true, decide_eq_true_eq] at hcond
    obtain ⟨q, h2, hc⟩ := bind_some hc
    cases hc
    generalize hob : (dst.any fun x => an.obj.contains x) = ob at h pure_case
    cases ob with
    | false => exact pure_case rfl
    | true =>
      have h' : (match ((fillV (repV z len) (q.map fun p => (p.1, p.2.1, p.2.2.ev env))).map fun cs => ((AObj.cells cs, fun id => V.hsl id 0 s len) : AObj × (Nat → V))) with | some (ob, mk) => ∀ id, st id = none → K (mk id) (st.upd id ob) | none => False) := h
      cases hcs : fillV (repV z len) (q.map fun p => (p.1, p.2.1, p.2.2.ev env)) with
      | none => rw [hcs] at h'; exact h'.elim
      | some cs =>
        rw [hcs] at h'
        obtain ⟨r, w', G', g1, g2, g3, g4, g5⟩ := bslo_sound (P := P) hs he h1 hu h0 hcond.1.1 hcond.2 h2 hcs
        exact wp_of_value (run_value g1) (hn _ r G' _ w' g3 g4 g5 (h' _ g2))
  | store t x y =>
    obtain ⟨q, h1, hc⟩ := bind_some hc
    obtain ⟨x', h2, hc⟩ := bind_some hc
    obtain ⟨y', h3, hc⟩ := bind_some hc
    cases hc
    have h' : (match storeS st q (x'.ev env) (y'.ev env) with | some st' => K .junk st' | none => False) := h
    cases hst : storeS st q (x'.ev env) (y'.ev env) with
    | none => rw [hst] at h'; exact h'.elim
    | some st' =>
      rw [hst] at h'
      obtain ⟨w', g1, g2⟩ := store_sound (P := P) hs h1 (ofX_rel he h2) (ofX_rel he h3) hst
      exact wp_of_skip (run_unit g1) (hn .junk undef G st' w' G.le_refl (.junk _) g2 h')
  | mapUpdate t m k x =>
    simp only [compOp] at hc
    split at hc <;> try (cases hc; done)
    rename_i kt e ht
    obtain ⟨kk, h1, hc⟩ := bind_some hc
    obtain ⟨m', h3, hc⟩ := bind_some hc
    obtain ⟨k', h4, hc⟩ := bind_some hc
    obtain ⟨v', h5, hc⟩ := bind_some hc
    cases hc
    have h' : (match msetS st kk (m'.ev env) (k'.ev env) (v'.ev env) with | some st' => K .junk st' | none => False) := h
    cases hst : msetS st kk (m'.ev env) (k'.ev env) (v'.ev env) with
    | none => rw [hst] at h'; exact h'.elim
    | some st' =>
      rw [hst] at h'
      obtain ⟨w', g1, g2⟩ := mset_run (P := P) hs ht (compKey_fits h1) (ofX_rel he h3) (ofX_rel he h4) (ofX_rel he h5) hst
      exact wp_of_skip (run_unit g1) (hn .junk undef G st' w' G.le_refl (.junk _) g2 h')
  | insert t m k x =>
    simp only [compOp] at hc
    split at hc <;> try (cases hc; done)
    rename_i kt e ht
    obtain ⟨kk, h1, hc⟩ := bind_some hc
    obtain ⟨m', h3, hc⟩ := bind_some hc
    obtain ⟨k', h4, hc⟩ := bind_some hc
    obtain ⟨v', h5, hc⟩ := bind_some hc
    cases hc
    have h' : (match msetS st kk (m'.ev env) (k'.ev env) (v'.ev env) with | some st' => K .junk st' | none => False) := h
    cases hst : msetS st kk (m'.ev env) (k'.ev env) (v'.ev env) with
    | none => rw [hst] at h'; exact h'.elim
    | some st' =>
      rw [hst] at h'
      obtain ⟨w', g1, g2⟩ := mset_run (P := P) hs ht (compKey_fits h1) (ofX_rel he h3) (ofX_rel he h4) (ofX_rel he h5) hst
      exact wp_of_skip (run_unit g1) (hn .junk undef G st' w' G.le_refl (.junk _) g2 h')
  | makeMap t r =>
    cases r <;> cases hc
    obtain ⟨x, w', G', g1, g2, g3, g4, g5⟩ := mkmap_sound (P := P) hs t
    exact wp_of_value (run_value g1) (hn _ x G' _ w' g3 g4 g5 (h _ g2))
  | makeSlice t l c =>
    simp only [compOp] at hc
    split at hc <;> try (cases hc; done)
    rename_i e ht
    obtain ⟨i, h1, hc⟩ := bind_some hc
    obtain ⟨z, h2, hc⟩ := bind_some hc
    split at hc <;> try (cases hc; done)
    rename_i hby
    obtain ⟨l', h3, hc⟩ := bind_some hc
    obtain ⟨c', h4, hc⟩ := bind_some hc
    cases hc
    generalize hob : (dst.any fun x => an.obj.contains x) = ob at h
    have h' : (match natOf (l'.ev env), natOf (c'.ev env) with
      | some n, some c => n ≤ c ∧ c * i.bytes ≤ 140737488355328 ∧ z.length = i.size ∧ (if ob = true then ∀ id, st id = none → K (.hsl id 0 i.size n) (st.upd id (.cells (repV z n))) else K (.sl .some (repV z n) n) st)
      | _, _ => False) := h
    split at h' <;> try (exact h'.elim)
    rename_i k cc hk hcc
    obtain ⟨e1, e2, e3, e4⟩ := h'
    obtain ⟨⟨r, w', G', g1, g2, g3, g4⟩, ⟨r2, w2, G2, j1, j2, j3, j4, j5⟩⟩ := mksl_sound (P := P) hs ht h1 h2 (ofX_rel he h3) (ofX_rel he h4) hk hcc e1 e2 e3 (by
      have := Nat.le_mul_of_pos_right cc hby
      omega)
    cases ob with
    | false => exact wp_of_value (run_value g1) (hn _ r G' _ w' g2 g3 g4 (by simpa using e4))
    | true => exact wp_of_value (run_value j1) (hn _ r2 G2 _ w2 j3 j4 j5 (by simp only [if_true] at e4; exact e4 _ j2))
  | call c =>
    obtain ⟨callee, args, tys⟩ := c
    have hc0 := hc
    simp only [compOp] at hc
    split at hc
    · rename_i f
      split at hc
      rotate_left
      · split at hc <;> try (cases hc; done)
        obtain ⟨q, h1, hc⟩ := Option.bind_eq_some_iff.1 hc
        split at hc <;> try (cases hc; done)
        cases hc
        exact pure_case rfl
      rename_i hok
      obtain ⟨q, h1, rfl⟩ := Option.map_eq_some_iff.1 hc
      refine call_wp hs (ofXs_rel he h1) h ?_ hn
      have : args.map a.eval = (args.toList.map a.eval).toArray := by
        apply Array.ext'
        simp
      simp only [execOp, resolve, Sem.run_bind, Act.eval, Deferred.ofValue, Sem.run_pure, Result.andThen_ok, invoke, okFn_call hok, Array.empty_append, Array.append_empty]
      rw [← this]
    · obtain ⟨x', h1, hc⟩ := bind_some hc
      obtain ⟨q, h2, hc⟩ := bind_some hc
      cases hc
      rename_i x hne _
      have h' : (match x'.ev env with | .func f cap => okFn P f = true ∧ ACalls P f (q.map (·.ev env) ++ cap) st K | _ => False) := h
      have hx := ofX_rel he h1
      split at h' <;> try (exact h'.elim)
      rename_i f cap hev
      rw [hev] at hx
      have hl := ofXs_rel he h2
      generalize hxe : a.eval x = xv at hx
      cases hx with
      | func _ _ xs hlen hv =>
        refine call_wp hs (hl.append (show LRel G cap xs.toList from ⟨by simpa using hlen, fun i hi => by rw [← getD_toList]; exact hv i hi⟩)) h'.2 ?_ hn
        have : args.map a.eval = (args.toList.map a.eval).toArray := by
          apply Array.ext'
          simp
        simp only [execOp, resolve, Sem.run_bind, hxe, Deferred.ofValue, Sem.run_pure, Result.andThen_ok, invoke, okFn_call h'.1, Array.empty_append]
        congr 2
        apply Array.ext'
        simp
    · rename_i b
      obtain ⟨p0, hc1, hz⟩ := Option.map_eq_some_iff.1 hc
      generalize hzz : (Option.any (fun x => an.apz.contains x) dst) = zz at hz
      generalize hff : (Option.any (fun x => an.obj.contains x) dst) = ff at hz
      clear hc
      have hc := hc1
      clear hc1
      have pc2 : pureP p0 = true → p0.turnZ zz ff = p0 → Oper.wp P { dst := dst, op := Op.call { callee := Callee.builtin b, args := args, argTypes := tys }, type := ty, pos := pos, after := after, guard := guard } a w next Q := fun hp hq => pure_case (by rw [← hz, hq]; exact hp)
      clear pure_case hc0
      obtain ⟨xs, h1, hc⟩ := Option.bind_eq_some_iff.1 hc
      have hl := ofXs_rel he h1
      have htys : tys = tys.toList.toArray := (Array.toArray_toList).symm
      have hargs : args.map a.eval = (args.toList.map a.eval).toArray := by
        apply Array.ext'
        simp
      have hrun : ∀ {s : Sem Value} {r : Value} {w' : World}, (∀ cs, builtin b tys ty cs (args.map a.eval) = (do pure (Next.value (← s)))) → s.run P w = .ok r w' → (execOp a.eval ⟨dst, .call ⟨.builtin b, args, tys⟩, ty, pos, after, guard⟩).run P w = .ok (.value r) w' := by
        intro s r w' e h
        show ((builtin b tys ty _ (args.map a.eval)).run P w) = _
        rw [e]
        exact run_value h
      have two : ∀ {x y : X}, xs = [x, y] → ∃ o1 o2, args.toList = [o1, o2] ∧ VRel G (x.ev env) (a.eval o1) ∧ VRel G (y.ev env) (a.eval o2) := by
        intro x y e
        rw [e] at hl
        have hlen := hl.1
        simp only [List.length_map, List.length_cons, List.length_nil] at hlen
        generalize args.toList = al at hlen hl
        match al, hlen, hl with
        | [o1, o2], _, hl => exact ⟨o1, o2, rfl, hl.head, hl.tail.head⟩
      unfold compBuiltin at hc
      split at hc
      · have : pureP p0 = true ∧ p0.turnZ zz ff = p0 := by
          split at hc <;> cases hc <;> exact ⟨rfl, rfl⟩
        exact pc2 this.1 this.2
      · cases hc; exact pc2 rfl rfl
      · cases hc; exact pc2 rfl rfl
      · rename_i t u x y hts _
        obtain ⟨o1, o2, ho, hx, hy⟩ := two rfl
        obtain ⟨e, i, z, c1, c2, c3, c4, c5, c6, c7, rfl⟩ := compAppend_some hc
        cases zz with
        | true =>
          have hpz : p = .appz i.size i.bytes x y := hz.symm
          subst hpz
          have h' : (match elems st i.size (y.ev env) with
            | none => False
            | some (ys, m) =>
              match x.ev env with
              | .sl k cs n =>
                (k = .nil ∨ k = .full) ∧ cs.length = n * i.size ∧ (n + m) * i.bytes ≤ 140737488355328 ∧ (m = 0 → K (.sl k cs n) st) ∧ (m ≠ 0 → K (.sl .some (cs ++ ys) (n + m)) st)
              | .hsl id off sz' n =>
                match st id with
                | some (.cells cs) =>
                  sz' = i.size ∧ (n + m) * i.bytes ≤ 140737488355328 ∧ off = 0 ∧ n * i.size ≤ cs.length ∧
                  K (.sl .some (cs.take (n * i.size) ++ ys) (n + m)) (st.upd id (.ro (cs.take (n * i.size) ++ List.replicate (cs.length - n * i.size) .junk)))
                | _ => False
              | _ => False) := h
          split at h' <;> try (exact h'.elim)
          rename_i ys m hel
          obtain ⟨r, v, w', G', st', g1, g2, g3, g4, g5⟩ := appz_sound (ty := ty) hs c1 c2 c3 c4 c5 c6 c7 hy hel h' hx
          refine wp_of_value (hrun (fun cs => ?_) g1) (hn v r G' st' w' g2 g3 g4 g5)
          simp only [builtin]
          rw [hargs, ho, htys, hts]
          rfl
        | false =>
        replace h : stepP P (.app i.size i.bytes x y) env st K := by
          cases ff with
          | false =>
            have hpz : p = .app i.size i.bytes x y := hz.symm
            rw [← hpz]; exact h
          | true =>
            have hpz : p = .appf i.size i.bytes x y := hz.symm
            rw [hpz] at h
            exact stepP_appf h
        have h' : (match elems st i.size (y.ev env) with
          | none => False
          | some (ys, m) =>
            match x.ev env with
            | .sl k cs n =>
              (k = .nil ∨ k = .full) ∧ cs.length = n * i.size ∧ (n + m) * i.bytes ≤ 140737488355328 ∧
              (m = 0 → K (.sl k cs n) st) ∧ (m ≠ 0 → ∀ id, st id = none → K (.hsl id 0 i.size (n + m)) (st.upd id (.cells (cs ++ ys))))
            | .hsl id off sz' n =>
              match st id with
              | some (.cells cs) =>
                sz' = i.size ∧ (n + m) * i.bytes ≤ 140737488355328 ∧
                if off + (n + m) * i.size ≤ cs.length then K (.hsl id off i.size (n + m)) (st.upd id (.cells (spliceV cs (off + n * i.size) ys)))
                else off = 0 ∧ cs.length = n * i.size ∧ ∀ id', (st.del id) id' = none → K (.hsl id' 0 i.size (n + m)) ((st.del id).upd id' (.cells (cs ++ ys)))
              | _ => False
            | _ => False) := h
        split at h' <;> try (exact h'.elim)
        rename_i ys m hel
        obtain ⟨r, v, w', G', st', g1, g2, g3, g4, g5⟩ := app_sound (ty := ty) hs c1 c2 c3 c4 c5 c6 c7 hy hel h' hx
        refine wp_of_value (hrun (fun cs => ?_) g1) (hn v r G' st' w' g2 g3 g4 g5)
        simp only [builtin]
        rw [hargs, ho, htys, hts]
        rfl
      · rename_i t x hts _
        split at hc <;> try (cases hc; done)
        rename_i e ht
        split at hc <;> try (cases hc; done)
        rename_i sz zs hsz hz2
        cases hc
        have hpz : p = .clear sz zs x := hz.symm
        subst hpz
        clear hz
        have hz := hz2
        have hone : ∃ o1, args.toList = [o1] ∧ VRel G (x.ev env) (a.eval o1) := by
          have hlen := hl.1
          simp only [List.length_map, List.length_cons, List.length_nil] at hlen
          generalize args.toList = al at hlen hl
          match al, hlen, hl with
          | [o1], _, hl => exact ⟨o1, rfl, hl.head⟩
        obtain ⟨o1, ho, hx⟩ := hone
        have h' : (match x.ev env with
          | .hsl id off sz' n =>
            match st id with
            | some (.cells cs) => sz' = sz ∧ zs.length = sz ∧ off + n * sz ≤ cs.length ∧ K .junk (st.upd id (.cells (spliceV cs off (repV zs n))))
            | _ => False
          | .sl .nil [] 0 => K .junk st
          | _ => False) := h
        have hargs1 : args.map a.eval = #[a.eval o1] := by rw [hargs, ho]; rfl
        generalize hxe : x.ev env = xa at h' hx
        cases xa with
        | hsl id off sz' nn =>
          simp only at h'
          split at h' <;> try exact h'.elim
          rename_i cs hst
          obtain ⟨e1, e2, e3, e4⟩ := h'
          subst e1
          obtain ⟨w', g1, g2⟩ := clear_sound (P := P) (ty := ty) hs hx hst ht hz e2 e3
          refine wp_of_value (hrun (fun cs => ?_) g1) (hn .junk _ G _ w' G.le_refl (.junk _) g2 e4)
          simp only [builtin]
          rw [hargs1, htys, hts]
        | sl k cs nn =>
          have hnil : k = .nil ∧ cs = [] ∧ nn = 0 := by
            cases k <;> cases cs <;> cases nn <;> first | exact h'.elim | exact ⟨rfl, rfl, rfl⟩
          obtain ⟨rfl, rfl, rfl⟩ := hnil
          generalize hxo : a.eval o1 = xo at hx hargs1
          cases hx with
          | slnil _ _ =>
            have g1 : (Builtin.clear_ #[t] ty #[.slice none 0 0]).run P w = .ok (.tuple #[]) w := by
              simp [Builtin.clear_, run_underlying ht]
            refine wp_of_value (hrun (fun cs => ?_) g1) (hn .junk _ G _ w G.le_refl (.junk _) hs h')
            simp only [builtin]
            rw [hargs1, htys, hts]
          | sl _ _ _ _ _ _ hk => exact absurd rfl hk
        | _ => exact h'.elim
      · rename_i t u m k hts _
        obtain ⟨o1, o2, ho, hx, hy⟩ := two rfl
        split at hc <;> try (cases hc; done)
        rename_i kt e ht
        obtain ⟨kk, h2, rfl⟩ := Option.map_eq_some_iff.1 hc
        have hpz : p = .mdel kk m k := hz.symm
        subst hpz
        have h' : (match mdelS st kk (m.ev env) (k.ev env) with | some st' => K .junk st' | none => False) := h
        cases hst : mdelS st kk (m.ev env) (k.ev env) with
        | none => rw [hst] at h'; exact h'.elim
        | some st' =>
          rw [hst] at h'
          obtain ⟨w', g1, g2⟩ := mdel_run (P := P) (u := u) (ty := ty) hs ht (compKey_fits h2) hx hy hst
          refine wp_of_value (hrun (fun cs => ?_) g1) (hn .junk _ G st' w' G.le_refl (.junk _) g2 h')
          simp only [builtin]
          rw [hargs, ho, htys, hts]
          rfl
      · cases hc
    · cases hc
  | move x => obtain ⟨y, h1, rfl⟩ := Option.map_eq_some_iff.1 hc; exact pure_case rfl
  | assign x => obtain ⟨y, h1, rfl⟩ := Option.map_eq_some_iff.1 hc; exact pure_case rfl
  | nilCheck x => obtain ⟨y, h1, rfl⟩ := Option.map_eq_some_iff.1 hc; exact pure_case rfl
  | extract x i => obtain ⟨y, h1, rfl⟩ := Option.map_eq_some_iff.1 hc; exact pure_case rfl
  | pick c x y =>
    obtain ⟨c', h1, hc⟩ := bind_some hc
    obtain ⟨x', h2, hc⟩ := bind_some hc
    obtain ⟨y', h3, hc⟩ := bind_some hc
    cases hc
    exact pure_case rfl
  | build t ps =>
    obtain ⟨z, h1, hc⟩ := bind_some hc
    split at hc
    · split at hc <;> try (cases hc; done)
      obtain ⟨q, h2, hc⟩ := bind_some hc
      cases hc
      exact pure_case rfl
    · obtain ⟨s, h0, hc⟩ := bind_some hc
      obtain ⟨q, h2, hc⟩ := bind_some hc
      cases hc
      exact pure_case rfl
    · cases hc
  | load t x =>
    obtain ⟨q, h1, hc⟩ := bind_some hc
    obtain ⟨y, h2, hc⟩ := bind_some hc
    cases hc
    exact pure_case (by split <;> rfl)
  | ready g => cases hc
  | waits g => cases hc
  | binOp op t x y u =>
    obtain ⟨x', hx1, hc⟩ := bind_some hc
    obtain ⟨y', hy1, hc⟩ := bind_some hc
    have bincase : p = .bin op x' y' → pureP p = true := by intro e; subst e; rfl
    refine pure_case ?_
    by_cases h1 : op = .eql
    · subst h1
      obtain ⟨r, h3, hc⟩ := bind_some hc
      cases r with
      | none => exact bincase (Option.some.inj hc).symm
      | some e => cases hc; rfl
    · by_cases h2 : op = .neq
      · subst h2
        obtain ⟨r, h3, hc⟩ := bind_some hc
        cases r with
        | none => exact bincase (Option.some.inj hc).symm
        | some e => cases hc; rfl
      · refine bincase ?_
        cases op <;> first
          | exact absurd rfl h1
          | exact absurd rfl h2
          | exact (Option.some.inj hc).symm
  | unOp op t x =>
    obtain ⟨x', h1, hc⟩ := bind_some hc
    cases op <;> cases hc <;> exact pure_case rfl
  | convert s d x =>
    obtain ⟨x', h1, hc⟩ := bind_some hc
    split at hc
    · cases hc; exact pure_case rfl
    · cases hc; exact pure_case rfl
    · split at hc <;> cases hc
      exact pure_case rfl
    · split at hc <;> cases hc
      exact pure_case rfl
    · cases hc
  | sliceToArrayPointer d x => cases hc
  | makeInterface t x => cases hc
  | makeFunc fn first caps =>
    cases fn <;> simp only [compOp] at hc <;> try (cases hc; done)
    split at hc <;> try (cases hc; done)
    obtain ⟨q, h1, rfl⟩ := Option.map_eq_some_iff.1 hc
    exact pure_case rfl
  | makeChan t x => cases hc
  | slice t x lo hi mx =>
    obtain ⟨x', h1, hc⟩ := bind_some hc
    obtain ⟨lo', h2, hc⟩ := bind_some hc
    obtain ⟨hi', h3, hc⟩ := bind_some hc
    split at hc
    · split at hc <;> cases hc
      exact pure_case rfl
    · obtain ⟨s, h4, hc⟩ := bind_some hc
      obtain ⟨mx', h5, hc⟩ := bind_some hc
      split at hc
      · split at hc <;> (cases hc; exact pure_case rfl)
      · cases hc
        exact pure_case rfl
    · split at hc <;> try (cases hc; done)
      obtain ⟨s, h4, hc⟩ := bind_some hc
      cases hc
      exact pure_case rfl
    · cases hc
  | fieldAddr t x i =>
    simp only [compOp] at hc
    split at hc <;> try (cases hc; done)
    split at hc <;> try (cases hc; done)
    split at hc <;> try (cases hc; done)
    obtain ⟨x', h1, rfl⟩ := Option.map_eq_some_iff.1 hc
    exact pure_case rfl
  | field t x i =>
    simp only [compOp] at hc
    split at hc <;> try (cases hc; done)
    split at hc <;> try (cases hc; done)
    obtain ⟨q, h1, hc⟩ := bind_some hc
    obtain ⟨x', h2, hc⟩ := bind_some hc
    cases hc
    exact pure_case rfl
  | indexAddr t x i =>
    obtain ⟨x', h1, hc⟩ := bind_some hc
    obtain ⟨i', h2, hc⟩ := bind_some hc
    split at hc
    · obtain ⟨s, h3, rfl⟩ := Option.map_eq_some_iff.1 hc
      exact pure_case rfl
    · obtain ⟨s, h3, rfl⟩ := Option.map_eq_some_iff.1 hc
      exact pure_case rfl
    · cases hc
  | index t x i =>
    obtain ⟨x', h1, hc⟩ := bind_some hc
    obtain ⟨i', h2, hc⟩ := bind_some hc
    split at hc
    · obtain ⟨s, h3, hc⟩ := bind_some hc
      obtain ⟨ag, h4, hc⟩ := bind_some hc
      split at hc <;> cases hc
      exact pure_case rfl
    · cases hc
      exact pure_case rfl
    · cases hc
  | lookup t m k ok =>
    simp only [compOp] at hc
    split at hc <;> try (cases hc; done)
    obtain ⟨kk, h1, hc⟩ := bind_some hc
    obtain ⟨z, h2, hc⟩ := bind_some hc
    obtain ⟨m', h3, hc⟩ := bind_some hc
    obtain ⟨k', h4, hc⟩ := bind_some hc
    cases hc
    exact pure_case rfl
  | mapEntry t m k => cases hc
  | entryStore t m k x => cases hc
  | range t x =>
    simp only [compOp] at hc
    split at hc <;> try (cases hc; done)
    · rename_i ht
      obtain ⟨y, h1, rfl⟩ := Option.map_eq_some_iff.1 hc
      have h' : (match (match y.ev env with | .str s => some ((AObj.siter s 0, fun id => V.ptr (some (id, 0))) : AObj × (Nat → V)) | _ => none) with | some (ob, mk) => ∀ id, st id = none → K (mk id) (st.upd id ob) | none => False) := h
      have hx := ofX_rel he h1
      generalize hxe : a.eval x = xv at hx
      generalize y.ev env = yv at h' hx
      cases yv <;> simp only at h'
      rename_i s
      cases hx
      obtain ⟨r, w', G', g1, g2, g3, g4, g5⟩ := rngStr_sound (P := P) hs ht s
      exact wp_of_value (by simp only [execOp, hxe]; exact run_value g1) (hn _ r G' _ w' g3 g4 g5 (h' _ g2))
    · rename_i ht
      obtain ⟨y, h1, rfl⟩ := Option.map_eq_some_iff.1 hc
      obtain ⟨r, u, w', G', st', g1, g2, g3, g4, g5⟩ := rngMap_sound (P := P) hs ht h (ofX_rel he h1)
      exact wp_of_value (run_value g1) (hn u r G' st' w' g2 g3 g4 g5)
  | next it s =>
    obtain ⟨y, h1, rfl⟩ := Option.map_eq_some_iff.1 hc
    cases s with
    | true =>
      obtain ⟨r, u, w', G', st', g1, g2, g3, g4, g5⟩ := nextStr_sound (P := P) (ty := ty) hs h (ofX_rel he h1)
      exact wp_of_value (run_value g1) (hn u r G' st' w' g2 g3 g4 g5)
    | false =>
      obtain ⟨r, u, w', G', st', g1, g2, g3, g4, g5⟩ := nextMap_sound (P := P) (ty := ty) hs h (ofX_rel he h1)
      exact wp_of_value (run_value g1) (hn u r G' st' w' g2 g3 g4 g5)
  | entry it =>
    obtain ⟨y, h1, rfl⟩ := Option.map_eq_some_iff.1 hc
    exact pure_case rfl
  | typeAssert x t u ok => cases hc
  | go c => cases hc
  | defer c => cases hc
  | panic x => cases hc
  | send ch x => cases hc
  | recv t ch ok => cases hc
  | select cs b => cases hc
end
end Go.Ab
/-
  What is shown over a heap holds with another heap beside it.
-/
set_option linter.unusedSimpArgs false
set_option linter.unusedVariables false
namespace Go.Ab
open Go Go.RowKit

theorem add_some {st fr : St} {i : Nat} {o : AObj} (h : st i = some o) : (st.add fr) i = some o := by simp [St.add, h]
theorem add_none {st fr : St} {i : Nat} : (st.add fr) i = none ↔ st i = none ∧ fr i = none := by
  unfold St.add
  cases st i <;> simp
theorem sub_add (st fr : St) : St.sub st (st.add fr) := fun _ _ h => add_some h
theorem upd_add (st fr : St) (id : Nat) (o : AObj) : (st.upd id o).add fr = (st.add fr).upd id o := by
  funext i
  by_cases h : i = id <;> simp [St.add, St.upd, h]
theorem Disj.some {st fr : St} (h : Disj st fr) {i : Nat} {o : AObj} (hi : st i = some o) : fr i = none := (h i).resolve_left (by rw [hi]; simp)
theorem Disj.upd {st fr : St} (h : Disj st fr) {id : Nat} (hid : fr id = none) (o : AObj) : Disj (st.upd id o) fr := fun i => by
  by_cases e : i = id
  · exact .inr (e ▸ hid)
  · simpa [St.upd, e] using h i
theorem Disj.del {st fr : St} (h : Disj st fr) (id : Nat) : Disj (st.del id) fr := fun i => by
  by_cases e : i = id
  · exact .inl (by simp [St.del, e])
  · simpa [St.del, e] using h i
theorem Disj.sub {st st' fr : St} (h : Disj st' fr) (hs : St.sub st st') : Disj st fr := fun i => by
  rcases h i with h | h
  · cases e : st i with
    | none => exact .inl rfl
    | some o => rw [hs i o e] at h; cases h
  · exact .inr h
theorem sub_add_sub {st st' fr : St} (h : St.sub st st') (hd : Disj st' fr) : St.sub (st.add fr) (st'.add fr) := fun i o hi => by
  cases e : st i with
  | some x =>
    rw [add_some e] at hi
    cases hi
    exact add_some (h i _ e)
  | none =>
    simp only [St.add, e] at hi
    have : st' i = none := (hd i).resolve_right (by rw [hi]; simp)
    simp only [St.add, this, hi]
theorem del_add {st fr : St} {id : Nat} (h : fr id = none) : (st.del id).add fr = (st.add fr).del id := by
  funext i
  by_cases e : i = id
  · subst e
    simp [St.add, St.del, h]
  · simp [St.add, St.del, e]
theorem add_assoc (a b c : St) : (a.add b).add c = a.add (b.add c) := by
  funext i
  simp only [St.add]
  cases a i <;> rfl
theorem disj_right {a b c : St} (h : Disj a b) (k : Disj (a.add b) c) : Disj a (b.add c) := fun i => by
  rcases k i with e | e
  · exact .inl (add_none.1 e).1
  · rcases h i with h | h
    · exact .inl h
    · exact .inr (add_none.2 ⟨h, e⟩)
theorem disj_left {a b c : St} (h : Disj a (b.add c)) : Disj a b := fun i => (h i).imp id fun e => (add_none.1 e).1
theorem disj_out {a b c : St} (h : Disj a (b.add c)) (hbc : Disj b c) : Disj (a.add b) c := fun i => by
  rcases hbc i with e | e
  · rcases h i with h | h
    · exact .inl (add_none.2 ⟨h, e⟩)
    · exact .inr (add_none.1 h).2
  · exact .inr e
theorem disj_bc {a b c : St} (k : Disj (a.add b) c) : Disj b c := fun i => by
  rcases k i with e | e
  · exact .inl (add_none.1 e).2
  · exact .inr e

/-- A postcondition with another heap beside it. -/
def Beside (fr : St) {α : Type} (K : α → St → Prop) : α → St → Prop := fun v s => ∃ s', Disj s' fr ∧ s = s'.add fr ∧ K v s'

section
variable {P : Program} {st st' fr : St} {env : Env}

theorem seg_sub (h : St.sub st st') {id off sz : Nat} {c : List V} (hc : st.seg id off sz = some c) : st'.seg id off sz = some c := by
  unfold St.seg at *
  cases hid : st id with
  | none => rw [hid] at hc; cases hc
  | some o => rw [hid] at hc; rw [h id o hid]; exact hc

theorem ldCells_sub (h : St.sub st st') {sz : Nat} {v : V} {c : List V} (hc : ldCells st sz v = some c) : ldCells st' sz v = some c := by
  unfold ldCells at *
  split at hc
  · exact seg_sub h hc
  · exact hc
  · cases hc

theorem elems_sub (h : St.sub st st') {sz : Nat} {v : V} {c : List V × Nat} (hc : elems st sz v = some c) : elems st' sz v = some c := by
  unfold elems at *
  split at hc
  · exact hc
  · split at hc <;> try (cases hc; done)
    rename_i e
    rw [if_pos e]
    obtain ⟨l, h1, h2⟩ := Option.map_eq_some_iff.1 hc
    rw [seg_sub h h1]
    simpa using h2
  · exact hc
  · cases hc

theorem opV_sub (h : St.sub st st') {o : POp} {v : V} (hv : opV o env st = some v) : opV o env st' = some v := by
  cases o
  case bsl b sz n z ps => cases b <;> exact hv
  case max l => cases l <;> exact hv
  case min l => cases l <;> exact hv
  case toStr x =>
    simp only [opV, toStrV] at hv ⊢
    split at hv
    · cases hv
    · obtain ⟨l, h1, h2⟩ := Option.bind_eq_some_iff.1 hv
      rw [elems_sub h h1]
      exact h2
  case load ag sz x =>
    simp only [opV] at hv ⊢
    obtain ⟨l, h1, h2⟩ := Option.bind_eq_some_iff.1 hv
    rw [ldCells_sub h h1]
    exact h2
  case slArr al n sz x lo hi =>
    simp only [opV, slArrV] at hv ⊢
    cases hb : bounds env n lo hi with
    | none => rw [hb] at hv; cases hv
    | some q =>
      rw [hb] at hv
      obtain ⟨l, u⟩ := q
      simp only at hv ⊢
      cases al with
      | true =>
        simp only [if_true] at hv ⊢
        split at hv <;> try (cases hv; done)
        rename_i id o hx
        split at hv <;> try (cases hv; done)
        rename_i cs hid
        simp only [hx, h id _ hid]
        exact hv
      | false =>
        simp only [Bool.false_eq_true, if_false] at hv ⊢
        split at hv <;> try (cases hv; done)
        · rename_i id o hx
          split at hv <;> try (cases hv; done)
          rename_i cs hid
          simp only [hx, h id _ hid]
          exact hv
        · rename_i cs hx
          first | exact hv | (simp only [hx]; exact hv)
  case slw sz x lo hi =>
    simp only [opV, slwV] at hv ⊢
    split at hv <;> try (cases hv; done)
    rename_i id off sz' n hx
    split at hv <;> try (cases hv; done)
    rename_i cs hid
    simp only [hx, h id _ hid]
    exact hv
  case lenMap x =>
    simp only [opV, lenMapV] at hv ⊢
    split at hv <;> try (cases hv; done)
    · rename_i hx
      first | exact hv | (simp only [hx]; exact hv)
    · rename_i id hx
      split at hv <;> try (cases hv; done)
      all_goals
        rename_i hid
        simp only [hx, h id _ hid]
        exact hv
  case entry x =>
    simp only [opV, entryV] at hv ⊢
    split at hv <;> try (cases hv; done)
    rename_i it hx
    split at hv <;> try (cases hv; done)
    rename_i id a seen stp hit
    split at hv <;> try (cases hv; done)
    rename_i es bs clk hid
    simp only [hx, h it _ hit, h id _ hid]
    exact hv
  case lookup kk z ok m k =>
    simp only [opV, lookupV] at hv ⊢
    split at hv <;> try (cases hv; done)
    rename_i hk
    rw [if_pos hk]
    obtain ⟨es, h1, h2⟩ := Option.bind_eq_some_iff.1 hv
    have : mapOf st' (m.ev env) = some es := by
      unfold mapOf at *
      split at h1 <;> try (cases h1; done)
      · exact h1
      · rename_i id hx
        split at h1 <;> try (cases h1; done)
        all_goals
          rename_i hid
          simp only [h id _ hid]
          exact h1
    refine Option.bind_eq_some_iff.2 ⟨es, this, h2⟩
  all_goals exact hv

theorem opS_add (hd : Disj st fr) {o : POp} {s : St} (hs : opS o env st = some s) : Disj s fr ∧ opS o env (st.add fr) = some (s.add fr) := by
  have key : ∀ {id : Nat} {ob ob' : AObj}, st id = some ob → Disj (st.upd id ob') fr ∧ (st.add fr).upd id ob' = (st.upd id ob').add fr := fun hid => ⟨hd.upd (hd.some hid) _, (upd_add _ _ _ _).symm⟩
  cases o <;> simp only [opS] at hs <;> try (cases hs; done)
  case store sz x y =>
    simp only [opS, storeS] at hs ⊢
    split at hs <;> try (cases hs; done)
    rename_i id o hx
    split at hs <;> try (cases hs; done)
    rename_i cs hid
    split at hs <;> try (cases hs; done)
    rename_i vs hy
    split at hs <;> cases hs
    rename_i hc
    refine ⟨(key hid).1, ?_⟩
    simp only [hx, add_some hid, hy, if_pos hc, (key hid).2]
  case mset kk m k v =>
    unfold msetS at hs
    split at hs <;> try (cases hs; done)
    rename_i id hx
    split at hs <;> try (cases hs; done)
    rename_i hk
    split at hs <;> try (cases hs; done)
    rename_i es hid
    obtain ⟨es', h1, rfl⟩ := Option.map_eq_some_iff.1 hs
    refine ⟨(key hid).1, ?_⟩
    simp only [opS, msetS, hx, if_pos hk, add_some hid, h1, Option.map_some, (key hid).2]
  case mdel kk m k =>
    unfold mdelS at hs
    split at hs <;> try (cases hs; done)
    · rename_i hx
      split at hs <;> cases hs
      rename_i hk
      refine ⟨hd, ?_⟩
      simp only [opS, mdelS, hx, if_pos hk]
    · rename_i id hx
      split at hs <;> try (cases hs; done)
      rename_i hk
      split at hs <;> try (cases hs; done)
      · rename_i es hid
        obtain ⟨es', h1, rfl⟩ := Option.map_eq_some_iff.1 hs
        refine ⟨(key hid).1, ?_⟩
        simp only [opS, mdelS, hx, if_pos hk, add_some hid, h1, Option.map_some, (key hid).2]
      · rename_i es bs clk hid
        obtain ⟨q, h1, h2⟩ := Option.map_eq_some_iff.1 hs
        simp only [opS, mdelS, hx, if_pos hk, add_some hid, h1, Option.map_some]
        cases q with
        | none => cases h2; exact ⟨hd, rfl⟩
        | some j =>
          cases h2
          exact ⟨(key hid).1, congrArg some (key hid).2⟩

theorem opA_same {o : POp} (st st' : St) : opA o env st = opA o env st' := by cases o <;> first | rfl | (rename_i b _ _ _ _; cases b <;> rfl)

theorem ACalls.frame {f : FuncId} {args : List V} {K : V → St → Prop} (hd : Disj st fr) (h : ACalls P f args st K) : ACalls P f args (st.add fr) (Beside fr K) := by
  intro fr2 hd2 B w0 G w xs hs ha
  rw [add_assoc] at hs
  refine (h (fr.add fr2) (disj_right hd hd2) B w0 G w xs hs ha).mono fun e w' ⟨v, x, G', s, h1, h2, h3, h4, h5, h6⟩ => ?_
  exact ⟨v, x, G', s.add fr, h1, h2, h3, disj_out h4 (disj_bc hd2), by rw [add_assoc]; exact h5, s, disj_left h4, rfl, h6⟩

theorem stepP_frame (hd : Disj st fr) (o : POp) {K : V → St → Prop} (h : stepP P o env st K) : stepP P o env (st.add fr) (Beside fr K) := by
  have key : ∀ (o : POp), (if o.makes then match opA o env st with | some (ob, mk) => ∀ id, st id = none → K (mk id) (st.upd id ob) | none => False
      else if o.writes then match opS o env st with | some st' => K .junk st' | none => False
      else match opV o env st with | some v => K v st | none => False) →
      (if o.makes then match opA o env (st.add fr) with | some (ob, mk) => ∀ id, (st.add fr) id = none → Beside fr K (mk id) ((st.add fr).upd id ob) | none => False
      else if o.writes then match opS o env (st.add fr) with | some st' => Beside fr K .junk st' | none => False
      else match opV o env (st.add fr) with | some v => Beside fr K v (st.add fr) | none => False) := by
    intro o h
    split
    · rename_i hm
      rw [if_pos hm] at h
      rw [opA_same (st.add fr) st]
      split <;> rename_i hx <;> rw [hx] at h
      · intro id hid
        obtain ⟨h1, h2⟩ := add_none.1 hid
        exact ⟨_, hd.upd h2 _, (upd_add _ _ _ _).symm, h id h1⟩
      · exact h
    · rename_i hm
      rw [if_neg hm] at h
      split
      · rename_i hw
        rw [if_pos hw] at h
        cases hx : opS o env st with
        | none => rw [hx] at h; exact h.elim
        | some s =>
          rw [hx] at h
          obtain ⟨h1, h2⟩ := opS_add hd hx
          rw [h2]
          exact ⟨s, h1, rfl, h⟩
      · rename_i hw
        rw [if_neg hw] at h
        cases hx : opV o env st with
        | none => rw [hx] at h; exact h.elim
        | some v =>
          rw [hx] at h
          rw [opV_sub (sub_add st fr) hx]
          exact ⟨st, hd, rfl, h⟩
  have key := key o
  cases o
  case call f l => exact ACalls.frame hd h
  case callv f l =>
    simp only [stepP] at h ⊢
    split at h
    · exact ⟨h.1, ACalls.frame hd h.2⟩
    · exact h
  case app sz b x y =>
    simp only [stepP] at h ⊢
    cases he : elems st sz (y.ev env) with
    | none => rw [he] at h; exact h.elim
    | some q =>
      obtain ⟨ys, m⟩ := q
      rw [he] at h
      rw [elems_sub (sub_add st fr) he]
      simp only at h ⊢
      generalize x.ev env = xv at h ⊢
      cases xv with
      | sl k cs n =>
        obtain ⟨h1, h2, h3, h4, h5⟩ := h
        refine ⟨h1, h2, h3, fun e => ⟨st, hd, rfl, h4 e⟩, fun e id hid => ?_⟩
        obtain ⟨g1, g2⟩ := add_none.1 hid
        exact ⟨_, hd.upd g2 _, (upd_add _ _ _ _).symm, h5 e id g1⟩
      | hsl id off sz' n =>
        simp only at h ⊢
        cases hid : st id with
        | none => rw [hid] at h; exact h.elim
        | some ob =>
          rw [hid] at h
          rw [add_some hid]
          cases ob with
          | cells cs =>
            simp only at h ⊢
            obtain ⟨h1, h2, h3⟩ := h
            refine ⟨h1, h2, ?_⟩
            have hf := hd.some hid
            split at h3
            · rename_i hc
              rw [if_pos hc]
              exact ⟨_, hd.upd hf _, (upd_add _ _ _ _).symm, h3⟩
            · rename_i hc
              rw [if_neg hc]
              refine ⟨h3.1, h3.2.1, fun id' hid' => ?_⟩
              rw [← del_add hf] at hid' ⊢
              obtain ⟨g1, g2⟩ := add_none.1 hid'
              exact ⟨_, (hd.del id).upd g2 _, (upd_add _ _ _ _).symm, h3.2.2 id' g1⟩
          | _ => exact h.elim
      | _ => exact h.elim
  case mksl ob sz b z x y =>
    simp only [stepP] at h ⊢
    split at h <;> try exact h
    obtain ⟨h1, h2, h3, h4⟩ := h
    refine ⟨h1, h2, h3, ?_⟩
    split at h4
    · rename_i hc
      rw [if_pos hc]
      intro id hid
      obtain ⟨g1, g2⟩ := add_none.1 hid
      exact ⟨_, hd.upd g2 _, (upd_add _ _ _ _).symm, h4 id g1⟩
    · rename_i hc
      rw [if_neg hc]
      exact ⟨st, hd, rfl, h4⟩
  case clear sz z x =>
    simp only [stepP] at h ⊢
    generalize x.ev env = xv at h ⊢
    cases xv with
    | hsl id off sz' n =>
      simp only at h ⊢
      cases hid : st id with
      | none => rw [hid] at h; exact h.elim
      | some ob =>
        rw [hid] at h
        rw [add_some hid]
        cases ob with
        | cells cs => exact ⟨h.1, h.2.1, h.2.2.1, _, hd.upd (hd.some hid) _, (upd_add _ _ _ _).symm, h.2.2.2⟩
        | _ => exact h.elim
    | sl k cs n => cases k <;> cases cs <;> cases n <;> first | exact h.elim | exact ⟨st, hd, rfl, h⟩
    | _ => exact h.elim
  case nextStr x =>
    simp only [stepP] at h ⊢
    split at h <;> try exact h.elim
    rename_i it hx
    split at h <;> try exact h.elim
    rename_i s pos hit
    simp only [add_some hit]
    split at h
    · rename_i hc
      rw [if_pos hc]
      exact ⟨_, hd.upd (hd.some hit) _, (upd_add _ _ _ _).symm, h⟩
    · rename_i hc
      rw [if_neg hc]
      exact ⟨st, hd, rfl, h⟩
  case rngMap x =>
    simp only [stepP] at h ⊢
    split at h <;> try exact h.elim
    · intro it hit
      obtain ⟨g1, g2⟩ := add_none.1 hit
      exact ⟨_, hd.upd g2 _, (upd_add _ _ _ _).symm, h it g1⟩
    · rename_i id hx
      split at h <;> try exact h.elim
      rename_i es hid
      simp only [add_some hid]
      intro it hit bs clk e1 e2 e3
      obtain ⟨g1, g2⟩ := add_none.1 hit
      refine ⟨_, (hd.upd (hd.some hid) (.mpi es bs clk)).upd g2 _, ?_, h it g1 bs clk e1 e2 e3⟩
      rw [upd_add, upd_add]
  case nextMap x =>
    simp only [stepP] at h ⊢
    split at h <;> try exact h.elim
    rename_i it hx
    split at h <;> try exact h.elim
    · rename_i hit
      simp only [add_some hit]
      exact ⟨st, hd, rfl, h⟩
    · rename_i id since seen stp hit
      simp only [add_some hit]
      split at h <;> try exact h.elim
      rename_i es bs clk hid
      simp only [add_some hid]
      refine ⟨h.1, h.2.1, h.2.2.1, fun e => ⟨st, hd, rfl, h.2.2.2.1 e⟩, fun i hi hn => ⟨_, hd.upd (hd.some hit) _, (upd_add _ _ _ _).symm, h.2.2.2.2 i hi hn⟩⟩
  case appz sz b x y =>
    simp only [stepP] at h ⊢
    cases he : elems st sz (y.ev env) with
    | none => rw [he] at h; exact h.elim
    | some q =>
      obtain ⟨ys, m⟩ := q
      rw [he] at h
      rw [elems_sub (sub_add st fr) he]
      simp only at h ⊢
      generalize x.ev env = xv at h ⊢
      cases xv with
      | sl k cs n =>
        obtain ⟨h1, h2, h3, h4, h5⟩ := h
        exact ⟨h1, h2, h3, fun e => ⟨st, hd, rfl, h4 e⟩, fun e => ⟨st, hd, rfl, h5 e⟩⟩
      | hsl id off sz' n =>
        simp only at h ⊢
        cases hid : st id with
        | none => rw [hid] at h; exact h.elim
        | some ob =>
          rw [hid] at h
          rw [add_some hid]
          cases ob with
          | cells cs =>
            simp only at h ⊢
            obtain ⟨h1, h2, h3, h4, h5⟩ := h
            exact ⟨h1, h2, h3, h4, _, hd.upd (hd.some hid) _, (upd_add _ _ _ _).symm, h5⟩
          | _ => exact h.elim
      | _ => exact h.elim
  case appf sz b x y =>
    simp only [stepP] at h ⊢
    cases he : elems st sz (y.ev env) with
    | none => rw [he] at h; exact h.elim
    | some q =>
      obtain ⟨ys, m⟩ := q
      rw [he] at h
      rw [elems_sub (sub_add st fr) he]
      simp only at h ⊢
      generalize x.ev env = xv at h ⊢
      cases xv with
      | sl k cs n =>
        obtain ⟨h1, h2, h3, h4, h5⟩ := h
        exact ⟨h1, h2, h3, fun e => ⟨st, hd, rfl, h4 e⟩, fun e id hid => ⟨_, hd.upd (add_none.1 hid).2 _, (upd_add _ _ _ _).symm, h5 e id (add_none.1 hid).1⟩⟩
      | _ => exact h.elim
  all_goals exact key h

theorem stillP_frame (hd : Disj st fr) (o : POp) {K : V → Prop} (h : stillP P o env st K) : stillP P o env (st.add fr) K := by
  have key : ∀ (o : POp), (match opV o env st with | some v => K v | none => False) → (match opV o env (st.add fr) with | some v => K v | none => False) := by
    intro o h
    cases hx : opV o env st with
    | none => rw [hx] at h; exact h.elim
    | some v =>
      rw [hx] at h
      rw [opV_sub (sub_add st fr) hx]
      exact h
  have call : ∀ {f : FuncId} {args : List V} {v : V}, ACalls P f args st (fun v' st' => v' = v ∧ st' = st) → ACalls P f args (st.add fr) (fun v' st' => v' = v ∧ st' = st.add fr) := fun h =>
    (h.frame hd).mono fun u s ⟨s', _, h2, h3, h4⟩ => ⟨h3, by rw [h2, h4]⟩
  have key := key o
  cases o
  case call f l => obtain ⟨v, h1, h2⟩ := h; exact ⟨v, call h1, h2⟩
  case callv f l =>
    simp only [stillP] at h ⊢
    split at h
    · obtain ⟨ho, v, h1, h2⟩ := h
      exact ⟨ho, v, call h1, h2⟩
    · exact h
  case mksl ob sz b z x y => cases ob with
    | false => exact h
    | true => exact h.elim
  all_goals exact key h

theorem still_frame (hd : Disj st fr) (o : POp) {K : V → St → Prop} (h : stillP P o env st fun v => K v st) : stillP P o env (st.add fr) fun v => Beside fr K v (st.add fr) := by
  have h1 := stillP_frame (P := P) (env := env) hd o h
  clear h
  cases o
  case call f l => obtain ⟨v, h2, h3⟩ := h1; exact ⟨v, h2, st, hd, rfl, h3⟩
  case callv f l =>
    simp only [stillP] at h1 ⊢
    split at h1
    · obtain ⟨ho, v, h2, h3⟩ := h1
      exact ⟨ho, v, h2, st, hd, rfl, h3⟩
    · exact h1
  case mksl ob sz b z x y =>
    cases ob with
    | false =>
      simp only [stillP] at h1 ⊢
      split at h1
      · exact ⟨h1.1, st, hd, rfl, h1.2⟩
      · exact h1
    | true => exact h1.elim
  all_goals
    simp only [stillP] at h1 ⊢
    split at h1
    · exact ⟨st, hd, rfl, h1⟩
    · exact h1

theorem stepC_frame (hd : Disj st fr) (c : Cls) (o : POp) {K : V → St → Prop} (h : stepC P c o env st K) : stepC P c o env (st.add fr) (Beside fr K) := by
  cases c with
  | x => exact stepP_frame hd o h
  | a => exact stepP_frame hd o h
  | _ => exact still_frame hd o h
end
end Go.Ab
/-
  Of the operations of a region in no fixed order: which may change places. Here: abstractly.
-/
set_option linter.unusedSimpArgs false
set_option linter.unusedVariables false
namespace Go.Ab
open Go Go.RowKit

def POp.xs : POp → List X
  | .mv x | .nilck x | .not x | .neg x | .inv x | .conv _ x | .same x | .toStr x | .toBytes x | .fldA _ x | .fld _ _ _ x | .load _ _ x | .loadE _ _ x | .lenStr x | .lenSl x | .lenMap x | .ext _ x | .box x | .clear _ _ x | .rngStr x | .nextStr x | .rngMap x | .nextMap x | .entry x => [x]
  | .pick c a b => [c, a, b]
  | .bin _ x y | .eqa _ _ x y | .idxArr _ _ x y | .idxSl _ x y | .idx _ _ _ x y | .idxStr x y | .store _ x y | .lookup _ _ _ x y | .mdel _ x y | .mksl _ _ _ _ x y | .app _ _ x y | .appz _ _ x y | .appf _ _ x y => [x, y]
  | .mset _ x y z | .carry _ x y z => [x, y, z]
  | .build _ ps | .bsl _ _ _ _ ps => ps.map fun p => p.2.2
  | .slStr x lo hi | .slArr _ _ _ x lo hi | .slw _ x lo hi => x :: (lo.toList ++ hi.toList)
  | .sl _ x lo hi mx | .chk3 x lo hi mx => x :: (lo.toList ++ (hi.toList ++ mx.toList))
  | .lenK _ | .mkmap | .alloc _ => []
  | .mkf _ l | .max l | .min l | .call _ l => l
  | .callv f l => f :: l

def X.slots : X → List Nat
  | .t i => [i]
  | .k _ => []

def POp.slots (o : POp) : List Nat := o.xs.flatMap X.slots

/-- Two frames alike at all that an operation looks at. -/
def Alike (l : List X) (env env' : Env) : Prop := ∀ x ∈ l, X.ev env x = X.ev env' x

theorem Alike.of {l : List X} {env env' : Env} (h : ∀ t ∈ l.flatMap X.slots, env t = env' t) : Alike l env env' := fun x hx => by
  cases x with
  | t i => exact h i (List.mem_flatMap.2 ⟨_, hx, by simp [X.slots]⟩)
  | k v => rfl

theorem Alike.head {x : X} {l : List X} {env env' : Env} (h : Alike (x :: l) env env') : x.ev env = x.ev env' := h x (by simp)
theorem Alike.tail {x : X} {l : List X} {env env' : Env} (h : Alike (x :: l) env env') : Alike l env env' := fun y hy => h y (by simp [hy])
theorem Alike.left {l m : List X} {env env' : Env} (h : Alike (l ++ m) env env') : Alike l env env' := fun y hy => h y (by simp [hy])
theorem Alike.right {l m : List X} {env env' : Env} (h : Alike (l ++ m) env env') : Alike m env env' := fun y hy => h y (by simp [hy])
theorem Alike.evs {l : List X} {env env' : Env} (h : Alike l env env') : l.map (·.ev env) = l.map (·.ev env') := List.map_congr_left h
theorem Alike.parts {l : List (Nat × Nat × X)} {env env' : Env} (h : Alike (l.map fun p => p.2.2) env env') : l.map (fun p => (p.1, p.2.1, p.2.2.ev env)) = l.map (fun p => (p.1, p.2.1, p.2.2.ev env')) :=
  List.map_congr_left fun p hp => by rw [h p.2.2 (List.mem_map.2 ⟨p, hp, rfl⟩)]

theorem boundOf_alike {x : Option X} {env env' : Env} (h : Alike x.toList env env') (d : Nat) : boundOf env d x = boundOf env' d x := by
  cases x with
  | none => rfl
  | some x => simp only [boundOf, h x (by simp)]

theorem bounds_alike {lo hi : Option X} {env env' : Env} (h : Alike lo.toList env env') (h' : Alike hi.toList env env') (n : Nat) : bounds env n lo hi = bounds env' n lo hi := by
  simp only [bounds, boundOf_alike h, boundOf_alike h']

theorem slV_alike {lo hi mx : Option X} {env env' : Env} (h : Alike lo.toList env env') (h' : Alike hi.toList env env') (h'' : Alike mx.toList env env') (sz : Nat) (v : V) : slV env sz lo hi mx v = slV env' sz lo hi mx v := by
  have hm : ∀ x, mx = some x → x.ev env = x.ev env' := fun x e => h'' x (by simp [e])
  cases v with
  | sl k cs n =>
    simp only [slV, bounds_alike h h']
    generalize bounds env' n lo hi = b
    cases mx with
    | none => cases b <;> rfl
    | some x => cases b with
      | none => rfl
      | some q => simp only [hm x rfl]
  | hsl id off sz' n =>
    simp only [slV, bounds_alike h h']
  | _ => rfl

theorem slArrV_alike {lo hi : Option X} {env env' : Env} (h : Alike lo.toList env env') (h' : Alike hi.toList env env') (st : St) (al : Bool) (n sz : Nat) (v : V) : slArrV st env al n sz lo hi v = slArrV st env' al n sz lo hi v := by
  unfold slArrV
  simp only [bounds_alike h h']

theorem slwV_alike {lo hi : Option X} {env env' : Env} (h : Alike lo.toList env env') (h' : Alike hi.toList env env') (st : St) (sz : Nat) (v : V) : slwV st env sz lo hi v = slwV st env' sz lo hi v := by
  unfold slwV
  simp only [boundOf_alike h, boundOf_alike h']

theorem chk3V_alike {lo hi mx : Option X} {env env' : Env} (h : Alike lo.toList env env') (h' : Alike hi.toList env env') (h'' : Alike mx.toList env env') (v : V) : chk3V env lo hi mx v = chk3V env' lo hi mx v := by
  unfold chk3V
  simp only [boundOf_alike h, boundOf_alike h', boundOf_alike h'']

theorem opV_alike (o : POp) {env env' : Env} (h : Alike o.xs env env') (st : St) : opV o env st = opV o env' st := by
  cases o <;> simp only [POp.xs] at h
  case slStr x lo hi => simp only [opV, h.head, bounds_alike h.tail.left h.tail.right]
  case sl sz x lo hi mx => simp only [opV, h.head, slV_alike h.tail.left h.tail.right.left h.tail.right.right]
  case slArr al n sz x lo hi => simp only [opV, h.head, slArrV_alike h.tail.left h.tail.right]
  case slw sz x lo hi => simp only [opV, h.head, slwV_alike h.tail.left h.tail.right]
  case chk3 x lo hi mx => simp only [opV, h.head, chk3V_alike h.tail.left h.tail.right.left h.tail.right.right]
  case build z ps => simp only [opV, h.parts]
  case bsl b sz n z ps => cases b <;> simp only [opV, h.parts]
  case mkf f l => simp only [opV, h.evs]
  case max l => cases l with | nil => rfl | cons x l => simp only [opV, h.head, h.tail.evs]
  case min l => cases l with | nil => rfl | cons x l => simp only [opV, h.head, h.tail.evs]
  all_goals first
    | rfl
    | (simp only [opV, h.head]; done)
    | (simp only [opV, h.head, h.tail.head]; done)
    | (simp only [opV, h.head, h.tail.head, h.tail.tail.head]; done)

theorem opS_alike (o : POp) {env env' : Env} (h : Alike o.xs env env') (st : St) : opS o env st = opS o env' st := by
  cases o <;> simp only [POp.xs] at h
  all_goals first
    | rfl
    | (simp only [opS, h.head, h.tail.head]; done)
    | (simp only [opS, h.head, h.tail.head, h.tail.tail.head]; done)

theorem opA_alike (o : POp) {env env' : Env} (h : Alike o.xs env env') (st : St) : opA o env st = opA o env' st := by
  cases o <;> simp only [POp.xs] at h
  case bsl b sz n z ps => cases b <;> simp only [opA, h.parts]
  all_goals first
    | rfl
    | (simp only [opA, h.head]; done)

theorem stepP_alike {P : Program} (o : POp) {env env' : Env} (h : Alike o.xs env env') (st : St) (K : V → St → Prop) : stepP P o env st K = stepP P o env' st K := by
  have h1 := opV_alike o h st
  have h2 := opS_alike o h st
  have h3 := opA_alike o h st
  cases o
  case call f l => simp only [POp.xs] at h; simp only [stepP, h.evs]
  case callv f l => simp only [POp.xs] at h; simp only [stepP, h.head, h.tail.evs]
  case app sz b x y => simp only [POp.xs] at h; simp only [stepP, h.head, h.tail.head]
  case mksl ob sz b z x y => simp only [POp.xs] at h; simp only [stepP, h.head, h.tail.head]
  case clear sz z x => simp only [POp.xs] at h; simp only [stepP, h.head]
  case nextStr x => simp only [POp.xs] at h; simp only [stepP, h.head]
  case rngMap x => simp only [POp.xs] at h; simp only [stepP, h.head]
  case nextMap x => simp only [POp.xs] at h; simp only [stepP, h.head]
  case appz sz b x y => simp only [POp.xs] at h; simp only [stepP, h.head, h.tail.head]
  case appf sz b x y => simp only [POp.xs] at h; simp only [stepP, h.head, h.tail.head]
  all_goals
    simp only [stepP, h1, h2, h3]

theorem stepP_mono {P : Program} (o : POp) {env : Env} {st : St} {K K' : V → St → Prop} (hk : ∀ v s, K v s → K' v s) (h : stepP P o env st K) : stepP P o env st K' := by
  have key : ∀ (o : POp), (if o.makes then match opA o env st with | some (ob, mk) => ∀ id, st id = none → K (mk id) (st.upd id ob) | none => False
      else if o.writes then match opS o env st with | some st' => K .junk st' | none => False
      else match opV o env st with | some v => K v st | none => False) →
      (if o.makes then match opA o env st with | some (ob, mk) => ∀ id, st id = none → K' (mk id) (st.upd id ob) | none => False
      else if o.writes then match opS o env st with | some st' => K' .junk st' | none => False
      else match opV o env st with | some v => K' v st | none => False) := by
    intro o h
    split
    · rename_i hm
      rw [if_pos hm] at h
      split <;> rename_i hx <;> rw [hx] at h
      · exact fun id hid => hk _ _ (h id hid)
      · exact h
    · rename_i hm
      rw [if_neg hm] at h
      split
      · rename_i hw
        rw [if_pos hw] at h
        split <;> rename_i hx <;> rw [hx] at h
        · exact hk _ _ h
        · exact h
      · rename_i hw
        rw [if_neg hw] at h
        split <;> rename_i hx <;> rw [hx] at h
        · exact hk _ _ h
        · exact h
  have key := key o
  cases o
  case call f l => exact ACalls.mono h hk
  case callv f l =>
    simp only [stepP] at h ⊢
    split at h
    · exact ⟨h.1, ACalls.mono h.2 hk⟩
    · exact h
  case app sz b x y =>
    simp only [stepP] at h ⊢
    cases he : elems st sz (y.ev env) with
    | none => rw [he] at h; exact h
    | some q =>
      obtain ⟨ys, m⟩ := q
      rw [he] at h
      simp only at h ⊢
      generalize x.ev env = xv at h ⊢
      cases xv with
      | sl k cs n =>
        obtain ⟨h1, h2, h3, h4, h5⟩ := h
        exact ⟨h1, h2, h3, fun e => hk _ _ (h4 e), fun e id hid => hk _ _ (h5 e id hid)⟩
      | hsl id off sz' n =>
        simp only at h ⊢
        split at h <;> try exact h
        obtain ⟨h1, h2, h3⟩ := h
        refine ⟨h1, h2, ?_⟩
        split at h3
        · rename_i hc
          rw [if_pos hc]
          exact hk _ _ h3
        · rename_i hc
          rw [if_neg hc]
          exact ⟨h3.1, h3.2.1, fun id' hid' => hk _ _ (h3.2.2 id' hid')⟩
      | _ => exact h
  case mksl ob sz b z x y =>
    simp only [stepP] at h ⊢
    split at h <;> try exact h
    obtain ⟨h1, h2, h3, h4⟩ := h
    refine ⟨h1, h2, h3, ?_⟩
    split at h4
    · rename_i hc
      rw [if_pos hc]
      exact fun id hid => hk _ _ (h4 id hid)
    · rename_i hc
      rw [if_neg hc]
      exact hk _ _ h4
  case clear sz z x =>
    simp only [stepP] at h ⊢
    generalize x.ev env = xv at h ⊢
    cases xv with
    | hsl id off sz' n =>
      simp only at h ⊢
      split at h <;> try exact h
      exact ⟨h.1, h.2.1, h.2.2.1, hk _ _ h.2.2.2⟩
    | sl k cs n => cases k <;> cases cs <;> cases n <;> first | exact h.elim | exact hk _ _ h
    | _ => exact h
  case nextStr x =>
    simp only [stepP] at h ⊢
    split at h <;> try exact h
    split at h <;> try exact h
    split at h
    · rename_i hc
      rw [if_pos hc]
      exact hk _ _ h
    · rename_i hc
      rw [if_neg hc]
      exact hk _ _ h
  case rngMap x =>
    simp only [stepP] at h ⊢
    split at h <;> try exact h
    · exact fun it hit => hk _ _ (h it hit)
    · split at h <;> try exact h
      exact fun it hit bs clk e1 e2 e3 => hk _ _ (h it hit bs clk e1 e2 e3)
  case nextMap x =>
    simp only [stepP] at h ⊢
    split at h <;> try exact h
    split at h <;> try exact h
    · exact hk _ _ h
    · split at h <;> try exact h
      exact ⟨h.1, h.2.1, h.2.2.1, fun e => hk _ _ (h.2.2.2.1 e), fun i hi hn => hk _ _ (h.2.2.2.2 i hi hn)⟩
  case appz sz b x y =>
    simp only [stepP] at h ⊢
    cases he : elems st sz (y.ev env) with
    | none => rw [he] at h; exact h
    | some q =>
      obtain ⟨ys, m⟩ := q
      rw [he] at h
      simp only at h ⊢
      generalize x.ev env = xv at h ⊢
      cases xv with
      | sl k cs n =>
        obtain ⟨h1, h2, h3, h4, h5⟩ := h
        exact ⟨h1, h2, h3, fun e => hk _ _ (h4 e), fun e => hk _ _ (h5 e)⟩
      | hsl id off sz' n =>
        simp only at h ⊢
        split at h <;> try exact h
        obtain ⟨h1, h2, h3, h4, h5⟩ := h
        exact ⟨h1, h2, h3, h4, hk _ _ h5⟩
      | _ => exact h
  case appf sz b x y =>
    simp only [stepP] at h ⊢
    cases he : elems st sz (y.ev env) with
    | none => rw [he] at h; exact h
    | some q =>
      obtain ⟨ys, m⟩ := q
      rw [he] at h
      simp only at h ⊢
      generalize x.ev env = xv at h ⊢
      cases xv with
      | sl k cs n =>
        obtain ⟨h1, h2, h3, h4, h5⟩ := h
        exact ⟨h1, h2, h3, fun e => hk _ _ (h4 e), fun e id hid => hk _ _ (h5 e id hid)⟩
      | _ => exact h
  all_goals exact key h

theorem stillP_alike {P : Program} (o : POp) {env env' : Env} (h : Alike o.xs env env') (st : St) (K : V → Prop) : stillP P o env st K = stillP P o env' st K := by
  have h1 := opV_alike o h st
  cases o
  case call f l => simp only [POp.xs] at h; simp only [stillP, h.evs]
  case callv f l => simp only [POp.xs] at h; simp only [stillP, h.head, h.tail.evs]
  case mksl ob sz b z x y => cases ob <;> simp only [POp.xs] at h <;> simp only [stillP, h.head, h.tail.head, h1]
  all_goals
    simp only [stillP, h1]

theorem stillP_iff {P : Program} (o : POp) {env : Env} {st : St} {K : V → Prop} : stillP P o env st K ↔ ∃ v, stillP P o env st (· = v) ∧ K v := by
  cases o
  case call f l => simp only [stillP]; exact ⟨fun ⟨v, h, k⟩ => ⟨v, ⟨v, h, rfl⟩, k⟩, fun ⟨v, ⟨u, h, e⟩, k⟩ => ⟨u, h, e ▸ k⟩⟩
  case callv f l =>
    simp only [stillP]
    split
    · exact ⟨fun ⟨ho, v, h, k⟩ => ⟨v, ⟨ho, v, h, rfl⟩, k⟩, fun ⟨v, ⟨ho, u, h, e⟩, k⟩ => ⟨ho, u, h, e ▸ k⟩⟩
    · simp
  case mksl ob sz b z x y =>
    cases ob with
    | true => simp [stillP, opV]
    | false =>
      simp only [stillP]
      split
      · exact ⟨fun ⟨h, k⟩ => ⟨_, ⟨h, rfl⟩, k⟩, fun ⟨v, ⟨h, e⟩, k⟩ => ⟨h, e ▸ k⟩⟩
      · simp
  all_goals
    simp only [stillP]
    split
    · simp
    · simp

/-- Whether what an operation gives hangs on the frame alone. -/
def POp.pure : POp → Bool
  | .mv _ | .pick .. | .nilck _ | .bin .. | .eqa .. | .not _ | .neg _ | .inv _ | .conv .. | .same _ | .toBytes _ | .fldA .. | .fld .. | .idxArr .. | .idxSl .. | .idx .. | .idxStr .. | .build .. | .bsl false .. | .slStr .. | .sl .. | .lenStr _ | .lenSl _ | .lenK _ | .mkf .. | .ext .. | .max _ | .min _ | .chk3 .. | .mksl false .. | .carry .. | .loadE .. => true
  | _ => false

theorem stillP_pure {P : Program} {o : POp} (hp : o.pure = true) {env : Env} {st st' : St} {K : V → Prop} : stillP P o env st K = stillP P o env st' K := by
  cases o
  case bsl b sz n z ps => cases b <;> first | rfl | (simp [POp.pure] at hp; done)
  case mksl ob sz b z x y => cases ob <;> first | rfl | (simp [POp.pure] at hp; done)
  case max l => cases l <;> rfl
  case min l => cases l <;> rfl
  all_goals first
    | rfl
    | (simp [POp.pure] at hp; done)

theorem guardP_mono {g : Option (Nat × Bool)} {env : Env} {p p' q q' : Prop} (hp : p → p') (hq : q → q') (h : guardP g env p q) : guardP g env p' q' := by
  unfold guardP at *
  split
  · exact hp h
  · rename_i t b
    simp only at h
    split at h
    · split at h
      · rename_i hc
        rw [if_pos hc]
        exact hp h
      · rename_i hc
        rw [if_neg hc]
        exact hq h
    · exact hq h
    · exact h

/-- Two operations of which neither looks at the other's slot, nor writes it. -/
def PO.reads (o : PO) : List Nat := o.op.slots ++ (match o.guard with | some (t, _) => [t] | none => [])

def PO.apart (p q : PO) : Bool :=
  (match p.dst with | some d => !q.reads.contains d && q.dst != some d | none => true) && (match q.dst with | some d => !p.reads.contains d | none => true)

theorem PO.apart_spec {p q : PO} (h : p.apart q = true) : (∀ d, p.dst = some d → d ∉ q.reads) ∧ (∀ d, p.dst = some d → q.dst ≠ some d) ∧ (∀ d, q.dst = some d → d ∉ p.reads) := by
  refine ⟨fun d hd => ?_, fun d hd => ?_, fun d hd => ?_⟩ <;> simp [PO.apart, hd] at h
  · exact h.1.1
  · exact h.1.2
  · exact h.2

theorem PO.apart_symm {p q : PO} (h : p.apart q = true) : q.apart p = true := by
  obtain ⟨h1, h2, h3⟩ := PO.apart_spec h
  unfold PO.apart
  simp only [Bool.and_eq_true]
  constructor
  · cases hq : q.dst with
    | none => rfl
    | some d =>
      simp only [Bool.and_eq_true, Bool.not_eq_true', bne_iff_ne, ne_eq]
      exact ⟨by simpa using h3 d hq, fun e => h2 d e hq⟩
  · cases hp : p.dst with
    | none => rfl
    | some d => simpa using h1 d hp

theorem put_reads {o : PO} {env : Env} {d : Option Nat} {v : V} (h : ∀ x, d = some x → x ∉ o.reads) : ∀ t ∈ o.reads, (env.put d v) t = env t := by
  intro t ht
  cases d with
  | none => rfl
  | some x =>
    have : t ≠ x := fun e => h x rfl (e ▸ ht)
    simp [Env.put, Env.upd, this]

theorem put_alike {o : PO} {env : Env} {d : Option Nat} {v : V} (h : ∀ x, d = some x → x ∉ o.reads) : Alike o.op.xs (env.put d v) env :=
  Alike.of fun t ht => put_reads h t (List.mem_append_left _ ht)

theorem put_guard {o : PO} {env : Env} {d : Option Nat} {v : V} (h : ∀ x, d = some x → x ∉ o.reads) (p q : Prop) : guardP o.guard (env.put d v) p q = guardP o.guard env p q := by
  unfold guardP
  cases hg : o.guard with
  | none => rfl
  | some g =>
    obtain ⟨t, b⟩ := g
    have := put_reads (env := env) (v := v) h t (List.mem_append_right _ (by simp [hg]))
    simp only [this]

theorem put_comm {env : Env} {x y : Option Nat} {v u : V} (h : ∀ d, x = some d → y ≠ some d) : (env.put x v).put y u = (env.put y u).put x v := by
  cases x with
  | none => rfl
  | some d =>
    cases y with
    | none => rfl
    | some e =>
      have hne : d ≠ e := fun he => h d rfl (he ▸ rfl)
      funext t
      simp only [Env.put, Env.upd]
      by_cases h1 : t = e
      · subst h1
        rw [if_pos rfl, if_neg (fun q => hne q.symm), if_pos rfl]
      · rw [if_neg h1, if_neg h1]

/-- An operation under its guard, that leaves the heap as it is: what comes to its slot. -/
def stillG (P : Program) (o : PO) (env : Env) (st : St) (v : V) : Prop := guardP o.guard env (stillP P o.op env st (· = v)) (v = .tup [])

theorem guard_still {P : Program} (o : PO) {env : Env} {st : St} {K : V → Prop} : guardP o.guard env (stillP P o.op env st K) (K (.tup [])) ↔ ∃ v, stillG P o env st v ∧ K v := by
  have h0 : ∀ {p q : V → Prop}, (∃ v, (p v ∧ q v)) ↔ ∃ v, p v ∧ q v := Iff.rfl
  unfold stillG guardP
  cases hg : o.guard with
  | none => exact stillP_iff o.op
  | some g =>
    obtain ⟨t, b⟩ := g
    simp only
    split
    · split
      · exact stillP_iff o.op
      · simp
    · simp
    · simp

def stepG (P : Program) (c : Cls) (o : PO) (env : Env) (st : St) (K : V → St → Prop) : Prop := guardP o.guard env (stepC P c o.op env st K) (K (.tup []) st)

theorem runD_cons {P : Program} {c : Cls} {o : PO} {l : List (Cls × PO)} {env : Env} {st : St} {K : Env → St → Prop} :
    runD P ((c, o) :: l) env st K = stepG P c o env st fun v st' => runD P l (env.put o.dst v) st' K := rfl

theorem stepG_still {P : Program} {c : Cls} (hc : c = .e ∨ c = .s) (o : PO) {env : Env} {st : St} {K : V → St → Prop} : stepG P c o env st K ↔ ∃ v, stillG P o env st v ∧ K v st := by
  rcases hc with rfl | rfl <;> exact guard_still o (K := fun v => K v st)

theorem stepG_mono {P : Program} {c : Cls} {o : PO} {env : Env} {st : St} {K K' : V → St → Prop} (hk : ∀ v s, K v s → K' v s) (h : stepG P c o env st K) : stepG P c o env st K' := by
  refine guardP_mono (fun h => ?_) (hk _ _) h
  cases c with
  | x => exact stepP_mono _ hk h
  | a => exact stepP_mono _ hk h
  | _ =>
    obtain ⟨v, h1, h2⟩ := (stillP_iff o.op).1 h
    exact (stillP_iff o.op).2 ⟨v, h1, hk _ _ h2⟩

theorem stillG_put {P : Program} {o : PO} {env : Env} {st : St} {v : V} {d : Option Nat} {u : V} (h : ∀ x, d = some x → x ∉ o.reads) : stillG P o (env.put d u) st v = stillG P o env st v := by
  unfold stillG
  rw [put_guard h, stillP_alike o.op (put_alike h)]

theorem stepG_put {P : Program} {o : PO} {env : Env} {st : St} {K : V → St → Prop} {d : Option Nat} {u : V} (h : ∀ x, d = some x → x ∉ o.reads) : stepG P .x o (env.put d u) st K = stepG P .x o env st K := by
  unfold stepG stepC
  rw [put_guard h, stepP_alike o.op (put_alike h)]

theorem stillG_pure {P : Program} {o : PO} (hp : o.op.pure = true) {env : Env} {st st' : St} {v : V} : stillG P o env st v = stillG P o env st' v := by
  unfold stillG
  rw [stillP_pure hp (st := st) (st' := st')]

theorem stepG_frame {P : Program} {c : Cls} {o : PO} {env : Env} {st fr : St} {K : V → St → Prop} (hd : Disj st fr) (h : stepG P c o env st K) : stepG P c o env (st.add fr) (Beside fr K) :=
  guardP_mono (fun h => stepC_frame hd c o.op h) (fun h => ⟨st, hd, rfl, h⟩) h

/-- An operation that makes an object, whatever there is. -/
def PO.allocs (o : PO) : Bool := o.guard.isNone && match o.op with | .alloc _ | .mkmap => true | _ => false

/-- A step that writes, and one that looks at what is not written by it. -/
def okX (conf : List (Nat × Nat)) (p q : POp) : Bool := match p, q with
  | .slArr false .., .app .. | .slArr false .., .appf .. | .slArr false .., .store .. | .load .., .appf .. | .load .., .mksl true .. | .slArr false .., .mksl true .. => true
  | .load _ _ (.t a), .store _ (.t b) _ => conf.contains (a, b)
  | _, _ => false

/-- Whether the second may go ahead of the first. -/
def okPair (conf : List (Nat × Nat)) (p q : Cls × PO) : Bool :=
  p.2.apart q.2 && match q.1, p.1 with
    | .a, _ => q.2.allocs
    | .x, .e => p.2.op.pure
    | .x, .s => p.2.guard.isNone && q.2.guard.isNone && okX conf p.2.op q.2.op
    | .e, .e | .e, .s | .s, .e | .s, .s => true
    | _, _ => false

theorem seg_keep {st s : St} {id : Nat} (h : s id = st id) (o sz : Nat) : s.seg id o sz = st.seg id o sz := by
  unfold St.seg
  rw [h]
theorem seg_keep_some {st s : St} {id : Nat} {ob : AObj} (h : st id = some ob) (h' : s id = some ob) (o sz : Nat) : s.seg id o sz = st.seg id o sz := seg_keep (h'.trans h.symm) o sz

/-- What is read of arrays that nobody writes stays as it is. -/
theorem slArr_keep {st s : St} (h : ∀ id cs, st id = some (.ro cs) → s id = some (.ro cs)) {env : Env} {n sz : Nat} {lo hi : Option X} {x v : V} (hv : slArrV st env false n sz lo hi x = some v) : slArrV s env false n sz lo hi x = some v := by
  unfold slArrV at hv ⊢
  split at hv
  · cases hv
  · rename_i b l u hb
    simp only [Bool.false_eq_true, if_false] at hv ⊢
    split at hv
    · rename_i id o
      split at hv
      · rename_i cs hc
        simp only [h _ _ hc]
        exact hv
      · cases hv
    · exact hv
    · cases hv

theorem okX_keeps {P : Program} {conf : List (Nat × Nat)} {p q : POp} (hx : okX conf p q = true) {env : Env} (hc : Conf conf env) {st : St} {K : V → St → Prop} {u : V} (hu : opV p env st = some u) (h : stepP P q env st K) :
    stepP P q env st fun v s => K v s ∧ opV p env s = some u := by
  have key : ∀ {R : St → Prop}, (∀ s, (∀ id ob, st id = some ob → s id = some ob) → R s) → ∀ id ob, st id = none → R (st.upd id ob) := fun hR id ob hid => hR _ fun j o hj => by
    have : j ≠ id := fun e => by rw [e, hid] at hj; cases hj
    simp [St.upd, this, hj]
  have grows : ∀ s : St, (∀ id ob, st id = some ob → s id = some ob) → opV p env s = some u := fun s hs => opV_sub hs hu
  have ro : ∀ s : St, (∀ id cs, st id = some (.ro cs) → s id = some (.ro cs)) → (∃ al n sz x lo hi, p = .slArr al n sz x lo hi ∧ al = false) → opV p env s = some u := by
    rintro s hs ⟨al, n, sz, x, lo, hi, rfl, rfl⟩
    exact slArr_keep hs hu
  cases q <;> try (cases p <;> simp [okX] at hx; done)
  case mksl ob sz b z l c =>
    cases ob with
    | false => cases p <;> simp [okX] at hx
    | true =>
      simp only [stepP] at h ⊢
      split at h <;> try exact h
      refine ⟨h.1, h.2.1, h.2.2.1, ?_⟩
      have h4 := h.2.2.2
      simp only [if_true] at h4 ⊢
      exact fun id hid => ⟨h4 id hid, key grows _ _ hid⟩
  case appf sz b x y =>
    simp only [stepP] at h ⊢
    split at h
    · exact h
    · split at h
      · exact ⟨h.1, h.2.1, h.2.2.1, fun e => ⟨h.2.2.2.1 e, hu⟩, fun e id hid => ⟨h.2.2.2.2 e id hid, key grows _ _ hid⟩⟩
      · exact h
  case app sz b x y =>
    have hp : ∃ al n sz x lo hi, p = .slArr al n sz x lo hi ∧ al = false := by
      cases p <;> simp [okX] at hx
      rename_i al n sz x lo hi
      cases al
      · exact ⟨_, _, _, _, _, _, rfl, rfl⟩
      · simp at hx
    simp only [stepP] at h ⊢
    split at h
    · exact h
    · split at h
      · exact ⟨h.1, h.2.1, h.2.2.1, fun e => ⟨h.2.2.2.1 e, hu⟩, fun e id hid => ⟨h.2.2.2.2 e id hid, key grows _ _ hid⟩⟩
      · split at h
        · rename_i id off sz' n _ _ cs hid
          refine ⟨h.1, h.2.1, ?_⟩
          have h3 := h.2.2
          split at h3
          · rename_i hle
            rw [if_pos hle]
            refine ⟨h3, ro _ (fun j c hj => ?_) hp⟩
            have : j ≠ id := fun e => by rw [e, hid] at hj; cases hj
            simp [St.upd, this, hj]
          · rename_i hle
            rw [if_neg hle]
            refine ⟨h3.1, h3.2.1, fun id' hid' => ⟨h3.2.2 id' hid', ro _ (fun j c hj => ?_) hp⟩⟩
            have h1 : j ≠ id := fun e => by rw [e, hid] at hj; cases hj
            have h2 : j ≠ id' := fun e => by
              rw [← e] at hid'
              simp [St.del, h1, hj] at hid'
            simp [St.upd, St.del, h1, h2, hj]
        · exact h
      · exact h
  case store sz x y =>
    have h' : (match storeS st sz (x.ev env) (y.ev env) with | some st' => K .junk st' | none => False) := h
    show (match storeS st sz (x.ev env) (y.ev env) with | some st' => K .junk st' ∧ opV p env st' = some u | none => False)
    cases hst : storeS st sz (x.ev env) (y.ev env) with
    | none => rw [hst] at h'; exact h'.elim
    | some st' =>
      rw [hst] at h'
      refine ⟨h', ?_⟩
      unfold storeS at hst
      split at hst <;> try (cases hst; done)
      rename_i _ id o hxe
      split at hst <;> try (cases hst; done)
      rename_i cs hid
      split at hst <;> try (cases hst; done)
      rename_i vs hvs
      split at hst <;> cases hst
      have other : ∀ j, j ≠ id → (st.upd id (.cells (spliceV cs o vs))) j = st j := fun j hj => by simp [St.upd, hj]
      cases p <;> try (simp [okX] at hx; done)
      case slArr al n sz' x' lo hi =>
        cases al
        · refine ro _ (fun j c hj => ?_) ⟨_, _, _, _, _, _, rfl, rfl⟩
          rw [other j (fun e => by rw [e, hid] at hj; cases hj), hj]
        · simp [okX] at hx
      case load ag sz' x' =>
        cases x' with
        | k v => simp [okX] at hx
        | t a =>
          cases x with
          | k v => simp [okX] at hx
          | t b =>
            simp only [okX, List.contains_iff_mem] at hx
            have hap := hc _ hx
            simp only at hap
            have hb : env b = .ptr (some (id, o)) := hxe
            rw [hb] at hap
            unfold apartV at hap
            split at hap
            · rename_i i1 o1 i2 o2 ha hb'
              cases hb'
              have hseg := seg_keep (other i1 hap) o1 sz'
              simp only [opV, X.ev, ha, ldCells, hseg] at hu ⊢
              exact hu
            · exact hap.elim

theorem move_still {P : Program} {conf : List (Nat × Nat)} {ci : Cls} {i : PO} (hci : ci = .e ∨ ci = .s) {l2 : List (Cls × PO)} {K : Env → St → Prop} : ∀ (l1 : List (Cls × PO)) (env : Env) (st : St), (∀ p ∈ l1, okPair conf p (ci, i) = true) →
    runD P (l1 ++ (ci, i) :: l2) env st K → runD P ((ci, i) :: (l1 ++ l2)) env st K
  | [], env, st, _, h => h
  | (cj, j) :: l1, env, st, hok, h => by
    have hp := hok (cj, j) (by simp)
    simp only [okPair, Bool.and_eq_true] at hp
    obtain ⟨hap, hp⟩ := hp
    have hcj : cj = .e ∨ cj = .s := by rcases hci with rfl | rfl <;> cases cj <;> simp at hp ⊢
    obtain ⟨a1, a2, a3⟩ := PO.apart_spec hap
    rw [List.cons_append, runD_cons, stepG_still hcj] at h
    obtain ⟨vj, h1, h2⟩ := h
    have ih := move_still hci l1 _ st (fun p hp => hok p (by simp [hp])) h2
    rw [runD_cons, stepG_still hci] at ih
    obtain ⟨vi, h3, h4⟩ := ih
    rw [stillG_put a1] at h3
    rw [runD_cons, stepG_still hci]
    refine ⟨vi, h3, ?_⟩
    rw [List.cons_append, runD_cons, stepG_still hcj]
    refine ⟨vj, ?_, ?_⟩
    · rw [stillG_put a3]
      exact h1
    · rw [← put_comm a2]
      exact h4

theorem conf_put {conf : List (Nat × Nat)} {env : Env} (h : Conf conf env) {d : Option Nat} (hd : ∀ x, d = some x → ∀ r ∈ conf, x ≠ r.1 ∧ x ≠ r.2) (v : V) : Conf conf (env.put d v) := fun r hr => by
  have := h r hr
  cases d with
  | none => exact this
  | some x =>
    obtain ⟨h1, h2⟩ := hd x rfl r hr
    simp only [Env.put, Env.upd]
    rw [if_neg (fun e => h1 e.symm), if_neg (fun e => h2 e.symm)]
    exact this

theorem move_step {P : Program} {conf : List (Nat × Nat)} {i : PO} {l2 : List (Cls × PO)} {K : Env → St → Prop} : ∀ (l1 : List (Cls × PO)) (env : Env) (st : St), Conf conf env → (∀ p ∈ l1, ∀ d, p.2.dst = some d → ∀ r ∈ conf, d ≠ r.1 ∧ d ≠ r.2) → (∀ p ∈ l1, okPair conf p (.x, i) = true) →
    runD P (l1 ++ (.x, i) :: l2) env st K → runD P ((.x, i) :: (l1 ++ l2)) env st K
  | [], env, st, _, _, _, h => h
  | (cj, j) :: l1, env, st, hconf, hun, hok, h => by
    have hp := hok (cj, j) (by simp)
    simp only [okPair, Bool.and_eq_true] at hp
    obtain ⟨hap, hp⟩ := hp
    obtain ⟨a1, a2, a3⟩ := PO.apart_spec hap
    have hcj : cj = .e ∨ cj = .s := by cases cj <;> simp at hp ⊢
    rw [List.cons_append, runD_cons, stepG_still hcj] at h
    obtain ⟨vj, h1, h2⟩ := h
    have ih := move_step l1 _ st (conf_put hconf (hun (cj, j) (by simp)) vj) (fun p hp => hun p (by simp [hp])) (fun p hp => hok p (by simp [hp])) h2
    rw [runD_cons, stepG_put a1] at ih
    rw [runD_cons]
    rcases hcj with rfl | rfl
    · have hpu : j.op.pure = true := hp
      refine stepG_mono (fun v s h3 => ?_) ih
      rw [List.cons_append, runD_cons, stepG_still (.inl rfl)]
      refine ⟨vj, ?_, ?_⟩
      · rw [stillG_put a3, stillG_pure hpu (st := s) (st' := st)]
        exact h1
      · rw [← put_comm a2]
        exact h3
    · simp only [Bool.and_eq_true, Option.isNone_iff_eq_none] at hp
      obtain ⟨⟨g1, g2⟩, hx⟩ := hp
      have hop : opV j.op env st = some vj := by
        unfold stillG guardP at h1
        rw [g1] at h1
        simp only at h1
        obtain ⟨dst, op, g⟩ := j
        cases op <;> try (cases hi : i.op <;> simp [okX, hi] at hx; done)
        all_goals
          simp only [stillP] at h1 ⊢
          split at h1
          · rename_i v hv
            rw [hv, h1]
          · exact h1.elim
      have ih' : stepP P i.op env st fun v s => runD P (l1 ++ l2) ((env.put j.dst vj).put i.dst v) s K := by
        unfold stepG guardP at ih
        rw [g2] at ih
        exact ih
      have ih2 := okX_keeps hx hconf hop ih'
      show guardP i.guard env (stepP P i.op env st _) _
      unfold guardP
      rw [g2]
      refine stepP_mono _ (fun v s h3 => ?_) ih2
      rw [List.cons_append, runD_cons, stepG_still (.inr rfl)]
      refine ⟨vj, ?_, ?_⟩
      · rw [stillG_put a3]
        unfold stillG guardP
        rw [g1]
        simp only
        have h4 := h3.2
        obtain ⟨dst, op, g⟩ := j
        cases op <;> try (cases hi : i.op <;> simp [okX, hi] at hx; done)
        all_goals
          simp only [stillP] at h4 ⊢
          rw [h4]
      · rw [← put_comm a2]
        exact h3.1

theorem stepG_putC {P : Program} {c : Cls} {o : PO} {env : Env} {st : St} {K : V → St → Prop} {d : Option Nat} {u : V} (h : ∀ x, d = some x → x ∉ o.reads) : stepG P c o (env.put d u) st K = stepG P c o env st K := by
  unfold stepG stepC
  rw [put_guard h]
  cases c <;> simp only [stepP_alike o.op (put_alike h), stillP_alike o.op (put_alike h)]

theorem allocs_spec {P : Program} {i : PO} (h : i.allocs = true) : ∃ (ob : AObj) (mk : Nat → V), ∀ (env : Env) (st : St) (K : V → St → Prop), stepG P .a i env st K ↔ ∀ id, st id = none → K (mk id) (st.upd id ob) := by
  obtain ⟨dst, op, g⟩ := i
  simp only [PO.allocs, Bool.and_eq_true, Option.isNone_iff_eq_none] at h
  obtain ⟨rfl, h⟩ := h
  cases op <;> first | (cases h; done) | skip
  · exact ⟨.mp [], fun id => .map (some id), fun env st K => Iff.rfl⟩
  · rename_i z
    exact ⟨.cells z, fun id => .ptr (some (id, 0)), fun env st K => Iff.rfl⟩

theorem move_alloc {P : Program} {conf : List (Nat × Nat)} {i : PO} (hi : i.allocs = true) {l2 : List (Cls × PO)} {K : Env → St → Prop} : ∀ (l1 : List (Cls × PO)) (env : Env) (st : St), (∀ p ∈ l1, okPair conf p (.a, i) = true) →
    runD P (l1 ++ (.a, i) :: l2) env st K → runD P ((.a, i) :: (l1 ++ l2)) env st K
  | [], env, st, _, h => h
  | (cj, j) :: l1, env, st, hok, h => by
    have hp := hok (cj, j) (by simp)
    simp only [okPair, Bool.and_eq_true] at hp
    obtain ⟨a1, a2, a3⟩ := PO.apart_spec hp.1
    obtain ⟨ob, mk, hal⟩ := allocs_spec (P := P) hi
    rw [List.cons_append, runD_cons] at h
    rw [runD_cons, hal]
    intro id hid
    have hd : Disj st (fun k => if k = id then some ob else none) := fun k => by
      by_cases e : k = id
      · exact .inl (e ▸ hid)
      · exact .inr (by simp [e])
    have hadd : ∀ s : St, s id = none → s.add (fun k => if k = id then some ob else none) = s.upd id ob := fun s hs => by
      funext k
      by_cases e : k = id
      · subst e
        simp [St.add, St.upd, hs]
      · simp only [St.add, St.upd, e, if_false]
        cases s k <;> rfl
    have h1 := stepG_frame hd h
    rw [hadd st hid] at h1
    rw [List.cons_append, runD_cons, stepG_putC a3]
    refine stepG_mono (fun v s hk => ?_) h1
    obtain ⟨s', hd', rfl, hk⟩ := hk
    have hs' : s' id = none := (hd' id).resolve_right (by simp)
    have ih := move_alloc hi l1 _ s' (fun p hp => hok p (by simp [hp])) hk
    rw [runD_cons, hal] at ih
    have := ih id hs'
    rw [hadd s' hs', ← put_comm a2]
    exact this

theorem move {P : Program} {conf : List (Nat × Nat)} {q : Cls × PO} {l1 l2 : List (Cls × PO)} {K : Env → St → Prop} {env : Env} {st : St} (hconf : Conf conf env) (hun : ∀ p ∈ l1, ∀ d, p.2.dst = some d → ∀ r ∈ conf, d ≠ r.1 ∧ d ≠ r.2) (hok : ∀ p ∈ l1, okPair conf p q = true) (h : runD P (l1 ++ q :: l2) env st K) : runD P (q :: (l1 ++ l2)) env st K := by
  obtain ⟨c, o⟩ := q
  cases c with
  | x => exact move_step l1 env st hconf hun hok h
  | e => exact move_still (.inl rfl) l1 env st hok h
  | s => exact move_still (.inr rfl) l1 env st hok h
  | a =>
    cases l1 with
    | nil => exact h
    | cons p l1 =>
      have := hok p (by simp)
      simp only [okPair, Bool.and_eq_true] at this
      exact move_alloc this.2 _ env st hok h

/-! ### what code leaves as it is -/

theorem Same.trans {W : List Nat} {a b c : Env} (h : Same W a b) (k : Same W b c) : Same W a c := fun t ht => (k t ht).trans (h t ht)
theorem Same.mono {W W' : List Nat} {a b : Env} (hw : ∀ t ∈ W, t ∈ W') (h : Same W a b) : Same W' a b := fun t ht => h t fun e => ht (hw t e)

theorem Same.put (env : Env) (d : Option Nat) (v : V) : Same d.toList env (env.put d v) := fun t ht => by
  cases d with
  | none => rfl
  | some x =>
    have : t ≠ x := by simpa using ht
    simp [Env.put, Env.upd, this]

theorem runP_frame {P : Program} {K K' : Env → St → Prop} : ∀ (l : List PO) (env : Env) (st : St), (∀ env' st', Same (l.flatMap (·.dst.toList)) env env' → K env' st' → K' env' st') → runP P l env st K → runP P l env st K'
  | [], env, st, hk, h => hk _ _ (Same.refl _ _) h
  | o :: l, env, st, hk, h => by
    have next : ∀ v st', runP P l (env.put o.dst v) st' K → runP P l (env.put o.dst v) st' K' := fun v st' h =>
      runP_frame l _ st' (fun env' st' hs hk' => hk _ _ (((Same.put env o.dst v).mono (by intro t ht; simp only [List.flatMap_cons, List.mem_append]; exact .inl ht)).trans (hs.mono (by intro t ht; simp only [List.flatMap_cons, List.mem_append]; exact .inr ht))) hk') h
    exact guardP_mono (stepP_mono _ next) (next _ _) h

theorem runD_frame {P : Program} {K K' : Env → St → Prop} : ∀ (l : List (Cls × PO)) (env : Env) (st : St), (∀ env' st', Same (l.flatMap (·.2.dst.toList)) env env' → K env' st' → K' env' st') → runD P l env st K → runD P l env st K'
  | [], env, st, hk, h => hk _ _ (Same.refl _ _) h
  | (c, o) :: l, env, st, hk, h => by
    have next : ∀ v st', runD P l (env.put o.dst v) st' K → runD P l (env.put o.dst v) st' K' := fun v st' h =>
      runD_frame l _ st' (fun env' st' hs hk' => hk _ _ (((Same.put env o.dst v).mono (by intro t ht; simp only [List.flatMap_cons, List.mem_append]; exact .inl ht)).trans (hs.mono (by intro t ht; simp only [List.flatMap_cons, List.mem_append]; exact .inr ht))) hk') h
    rw [runD_cons] at h ⊢
    exact stepG_mono next h

theorem frzP_frame {K K' : Env → St → Prop} : ∀ (l : List Nat) (env : Env) (st : St), (∀ env' st', Same l env env' → K env' st' → K' env' st') → frzP l env st K → frzP l env st K'
  | [], env, st, hk, h => hk _ _ (Same.refl _ _) h
  | t :: l, env, st, hk, h => by
    simp only [frzP] at h ⊢
    split at h <;> try exact h
    rename_i v s hv
    exact frzP_frame l _ s (fun env' st' hs hk' => hk _ _ (((Same.put env (some t) v).mono (by intro t ht; simpa using Or.inl (by simpa using ht))).trans (hs.mono (by intro t ht; simp [ht]))) hk') h

theorem vc_frame {P : Program} : ∀ (c : PC) (Q Q' : Ex → Env → St → Prop) (env : Env) (st : St), (∀ e env' st', Same c.writes env env' → Q e env' st' → Q' e env' st') → vc P c Q env st → vc P c Q' env st := by
  intro c
  induction c with
  | skip => exact fun Q Q' env st hq h => hq _ _ _ (Same.refl _ _) h
  | exit id => exact fun Q Q' env st hq h => hq _ _ _ (Same.refl _ _) h
  | ret => exact fun Q Q' env st hq h => hq _ _ _ (Same.refl _ _) h
  | ops l => exact fun Q Q' env st hq h => runP_frame l env st (fun env' st' hs => hq _ _ _ hs) h
  | draw l => exact fun Q Q' env st hq h => runD_frame l env st (fun env' st' hs => hq _ _ _ hs) h
  | draw2 conf l => exact fun Q Q' env st hq h => ⟨h.1, runD_frame l env st (fun env' st' hs => hq _ _ _ hs) h.2⟩
  | frz l => exact fun Q Q' env st hq h => frzP_frame l env st (fun env' st' hs => hq _ _ _ hs) h
  | seq a b iha ihb =>
    intro Q Q' env st hq h
    refine iha _ _ env st (fun e env' st' hs h' => ?_) h
    cases e with
    | normal => exact ihb _ _ env' st' (fun e env'' st'' hs' h'' => hq _ _ _ ((hs.mono (by intro t ht; simp [PC.writes, ht])).trans (hs'.mono (by intro t ht; simp [PC.writes, ht]))) h'') h'
    | exit id => exact hq _ _ _ (hs.mono (by intro t ht; simp [PC.writes, ht])) h'
    | ret => exact hq _ _ _ (hs.mono (by intro t ht; simp [PC.writes, ht])) h'
  | cond c a b iha ihb =>
    intro Q Q' env st hq h
    simp only [vc] at h ⊢
    split at h <;> try exact h
    split at h
    · rename_i ht
      rw [if_pos ht]
      exact iha _ _ env st (fun e env' st' hs h' => hq _ _ _ (hs.mono (by intro t ht; simp [PC.writes, ht])) h') h
    · rename_i ht
      rw [if_neg ht]
      exact ihb _ _ env st (fun e env' st' hs h' => hq _ _ _ (hs.mono (by intro t ht; simp [PC.writes, ht])) h') h
  | block id c ih =>
    intro Q Q' env st hq h
    refine ih _ _ env st (fun e env' st' hs h' => ?_) h
    cases e with
    | exit j =>
      simp only at h' ⊢
      split at h'
      · rename_i he
        rw [if_pos he]
        exact hq _ _ _ hs h'
      · rename_i he
        rw [if_neg he]
        exact hq _ _ _ hs h'
    | normal => exact hq _ _ _ hs h'
    | ret => exact hq _ _ _ hs h'
  | loop c ih =>
    intro Q Q' env st hq h
    obtain ⟨I, μ, h0, hr⟩ := h
    refine ⟨I, μ, h0, fun env' st' hs hI => ?_⟩
    refine ih _ _ env' st' (fun e env'' st'' hs' h' => ?_) (hr env' st' hs hI)
    cases e with
    | normal => exact h'
    | exit id => exact hq _ _ _ (hs.trans hs') h'
    | ret => exact hq _ _ _ (hs.trans hs') h'

/-! ### another heap beside -/

theorem runP_beside {P : Program} {fr : St} {K : Env → St → Prop} : ∀ (l : List PO) (env : Env) (st : St), Disj st fr → runP P l env st K → runP P l env (st.add fr) (Beside fr K)
  | [], env, st, hd, h => ⟨st, hd, rfl, h⟩
  | o :: l, env, st, hd, h => by
    have next : ∀ v s, Beside fr (fun v st' => runP P l (env.put o.dst v) st' K) v s → runP P l (env.put o.dst v) s (Beside fr K) := by
      rintro v s ⟨s', h1, rfl, h3⟩
      exact runP_beside l _ s' h1 h3
    exact guardP_mono (fun h => stepP_mono _ next (stepP_frame hd o.op h)) (fun h => next _ _ ⟨st, hd, rfl, h⟩) h

theorem runD_beside {P : Program} {fr : St} {K : Env → St → Prop} : ∀ (l : List (Cls × PO)) (env : Env) (st : St), Disj st fr → runD P l env st K → runD P l env (st.add fr) (Beside fr K)
  | [], env, st, hd, h => ⟨st, hd, rfl, h⟩
  | (c, o) :: l, env, st, hd, h => by
    rw [runD_cons] at h ⊢
    refine stepG_mono ?_ (stepG_frame hd h)
    rintro v s ⟨s', h1, rfl, h3⟩
    exact runD_beside l _ s' h1 h3

theorem frzOb_beside {fr st s : St} (hd : Disj st fr) {id : Nat} (h : frzOb st id = some s) : Disj s fr ∧ frzOb (st.add fr) id = some (s.add fr) := by
  unfold frzOb at h
  split at h <;> cases h
  · rename_i cs hid
    refine ⟨hd.upd (hd.some hid) _, ?_⟩
    simp only [frzOb, add_some hid, upd_add]
  · rename_i cs hid
    refine ⟨hd, ?_⟩
    simp only [frzOb, add_some hid]

theorem frzV_beside {fr st s : St} (hd : Disj st fr) {v u : V} (h : frzV st v = some (u, s)) : Disj s fr ∧ frzV (st.add fr) v = some (u, s.add fr) := by
  have triv : some (v, st) = some (u, s) → Disj s fr ∧ some (v, st.add fr) = some (u, s.add fr) := fun h => by cases h; exact ⟨hd, rfl⟩
  cases v with
  | ptr p =>
    cases p with
    | none => exact triv h
    | some q =>
      obtain ⟨id, o⟩ := q
      simp only [frzV] at h ⊢
      obtain ⟨s', h1, h2⟩ := Option.bind_eq_some_iff.1 h
      split at h2 <;> cases h2
      rename_i cs hid
      obtain ⟨g1, g2⟩ := frzOb_beside hd h1
      refine ⟨g1, ?_⟩
      rw [g2]
      simp only [Option.bind_some, add_some hid]
  | hsl id off sz n =>
    simp only [frzV] at h ⊢
    obtain ⟨s', h1, h2⟩ := Option.bind_eq_some_iff.1 h
    obtain ⟨c, h3, h4⟩ := Option.map_eq_some_iff.1 h2
    cases h4
    obtain ⟨g1, g2⟩ := frzOb_beside hd h1
    refine ⟨g1, ?_⟩
    rw [g2]
    simp only [Option.bind_some]
    rw [seg_sub (sub_add _ fr) h3]
    rfl
  | map mo =>
    cases mo with
    | none => exact triv h
    | some id =>
      simp only [frzV] at h ⊢
      cases hid : st id with
      | none => rw [hid] at h; cases h
      | some ob =>
        rw [hid] at h
        rw [add_some hid]
        cases ob <;> (cases h; first | exact ⟨hd, rfl⟩ | exact ⟨hd.upd (hd.some hid) _, by rw [upd_add]⟩)
  | _ => exact triv h

theorem frzP_beside {fr : St} {K : Env → St → Prop} : ∀ (l : List Nat) (env : Env) (st : St), Disj st fr → frzP l env st K → frzP l env (st.add fr) (Beside fr K)
  | [], env, st, hd, h => ⟨st, hd, rfl, h⟩
  | t :: l, env, st, hd, h => by
    simp only [frzP] at h ⊢
    cases hx : frzV st (env t) with
    | none => rw [hx] at h; exact h.elim
    | some q =>
      obtain ⟨v, s⟩ := q
      rw [hx] at h
      obtain ⟨g1, g2⟩ := frzV_beside hd hx
      rw [g2]
      exact frzP_beside l _ s g1 h

theorem vc_beside {P : Program} {fr : St} : ∀ (c : PC) (Q : Ex → Env → St → Prop) (env : Env) (st : St), Disj st fr → vc P c Q env st → vc P c (fun e => Beside fr (Q e)) env (st.add fr) := by
  intro c
  induction c with
  | skip => exact fun Q env st hd h => ⟨st, hd, rfl, h⟩
  | exit id => exact fun Q env st hd h => ⟨st, hd, rfl, h⟩
  | ret => exact fun Q env st hd h => ⟨st, hd, rfl, h⟩
  | ops l => exact fun Q env st hd h => runP_beside l env st hd h
  | draw l => exact fun Q env st hd h => runD_beside l env st hd h
  | draw2 conf l => exact fun Q env st hd h => ⟨h.1, runD_beside l env st hd h.2⟩
  | frz l => exact fun Q env st hd h => frzP_beside l env st hd h
  | seq a b iha ihb =>
    intro Q env st hd h
    refine vc_frame a _ _ env _ (fun e env' s _ h' => ?_) (iha _ env st hd h)
    obtain ⟨s', h1, rfl, h3⟩ := h'
    cases e with
    | normal => exact ihb _ env' s' h1 h3
    | exit id => exact ⟨s', h1, rfl, h3⟩
    | ret => exact ⟨s', h1, rfl, h3⟩
  | cond c a b iha ihb =>
    intro Q env st hd h
    simp only [vc] at h ⊢
    split at h <;> try exact h
    split at h
    · rename_i ht
      rw [if_pos ht]
      exact iha _ env st hd h
    · rename_i ht
      rw [if_neg ht]
      exact ihb _ env st hd h
  | block id c ih =>
    intro Q env st hd h
    refine vc_frame c _ _ env _ (fun e env' s _ h' => ?_) (ih _ env st hd h)
    obtain ⟨s', h1, rfl, h3⟩ := h'
    cases e with
    | exit j =>
      simp only at h3 ⊢
      split at h3
      · rename_i he
        rw [if_pos he]
        exact ⟨s', h1, rfl, h3⟩
      · rename_i he
        rw [if_neg he]
        exact ⟨s', h1, rfl, h3⟩
    | normal => exact ⟨s', h1, rfl, h3⟩
    | ret => exact ⟨s', h1, rfl, h3⟩
  | loop c ih =>
    intro Q env st hd h
    obtain ⟨I, μ, h0, hr⟩ := h
    have back : ∀ s' : St, Disj s' fr → (fun i => if (fr i).isSome = true then none else (s'.add fr) i) = s' := fun s' hd' => by
      funext i
      rcases hd' i with e | e
      · rw [e]
        split
        · rfl
        · rename_i hn
          simp only [St.add, e]
          cases hf : fr i with
          | none => rfl
          | some o => rw [hf] at hn; simp at hn
      · rw [e]
        simp only [Option.isSome_none, Bool.false_eq_true, if_false, St.add]
        cases hs : s' i with
        | none => exact e
        | some o => rfl
    refine ⟨Beside fr I, fun env s => μ env (fun i => if (fr i).isSome = true then none else s i), ⟨st, hd, rfl, h0⟩, ?_⟩
    rintro env' s hs ⟨s', h1, rfl, h3⟩
    refine vc_frame c _ _ env' _ (fun e env'' s2 _ h' => ?_) (ih _ env' s' h1 (hr env' s' hs h3))
    obtain ⟨s2', k1, rfl, k3⟩ := h'
    cases e with
    | normal =>
      obtain ⟨s3, k4, k5, k6⟩ := k3
      refine ⟨s3.add fr, sub_add_sub k4 k1, ⟨s3, k1.sub k4, rfl, k5⟩, ?_⟩
      show μ env'' (fun i => if (fr i).isSome = true then none else (s3.add fr) i) < μ env' (fun i => if (fr i).isSome = true then none else (s'.add fr) i)
      rw [back _ h1, back _ (k1.sub k4)]
      exact k6
    | exit id => exact ⟨s2', k1, rfl, k3⟩
    | ret => exact ⟨s2', k1, rfl, k3⟩

end Go.Ab
/-
  What is shown of a function's code in the small language holds of the machine's.
-/
set_option linter.unusedSimpArgs false
set_option linter.unusedVariables false
namespace Go.Ab
open Go Go.RowKit

/-- The numbers of functions: which function of a program is meant by each number of ours. -/
abbrev Fn := Nat → FuncId

/-! ### the code, brought into the small language -/

def edges (ops : Array Oper) (i : Nat) : List Nat := match ops[i]? with | some o => (o.after.toList.filter (Region.binds .any ·)).map (·.on) | none => []

/-- Whether one operation waits for another. -/
def before (ops : Array Oper) : Nat → Nat → Nat → Bool
  | 0, _, _ => false
  | k + 1, i, j => (edges ops i).any fun m => m == j || before ops k m j

abbrev DI := Nat × Cls × PO

def clsOf (calls : Cls) (o : POp) : Cls := if o.pure then .e else match o with | .toStr _ | .load .. | .slArr .. | .slw .. | .lenMap _ | .lookup .. | .entry _ => .s | .call .. | .callv .. => calls | .alloc _ | .mkmap => .a | _ => .x

/-- The same; of calls whose slots are marked nothing is changed. -/
def clsD (an : An) (calls : Cls) (p : PO) : Cls := match p.op with
  | .call .. | .callv .. => if p.dst.any (an.wide.contains ·) then .s else clsOf calls p.op
  | _ => clsOf calls p.op

def orderD (ops : Array Oper) (cls : Nat → Cls) : Nat → List Nat → List Nat
  | 0, _ => []
  | k + 1, rem =>
    let rs := rem.filter fun i => (edges ops i).all fun m => !rem.contains m
    match rs.find? (fun i => cls i == .e), rs.find? (fun i => cls i != .a), rs with
    | some i, _, _ => i :: orderD ops cls k (rem.erase i)
    | none, some i, _ => i :: orderD ops cls k (rem.erase i)
    | none, none, i :: _ => i :: orderD ops cls k (rem.erase i)
    | none, none, [] => []

/-- The same; what looks at memory goes ahead of what writes. -/
def orderE (ops : Array Oper) (cls : Nat → Cls) : Nat → List Nat → List Nat
  | 0, _ => []
  | k + 1, rem =>
    let rs := rem.filter fun i => (edges ops i).all fun m => !rem.contains m
    match rs.find? (fun i => cls i == .e), rs.find? (fun i => cls i == .s), rs.find? (fun i => cls i != .a), rs with
    | some i, _, _, _ => i :: orderE ops cls k (rem.erase i)
    | none, some i, _, _ => i :: orderE ops cls k (rem.erase i)
    | none, none, some i, _ => i :: orderE ops cls k (rem.erase i)
    | none, none, none, i :: _ => i :: orderE ops cls k (rem.erase i)
    | none, none, none, [] => []

def pairD (conf : List (Nat × Nat)) (ops : Array Oper) (p q : DI) : Bool := p.1 != q.1 && !(edges ops p.1).contains q.1 && (before ops ops.size q.1 p.1 || okPair conf p.2 q.2)

def pairsD (conf : List (Nat × Nat)) (ops : Array Oper) : List DI → Bool
  | [] => true
  | p :: l => !(edges ops p.1).contains p.1 && (edges ops p.1).all (· < ops.size) && l.all (pairD conf ops p) && pairsD conf ops l

/-- Of which slots it matters that they point to unlike objects: loads and stores of a region, of slots that it doesn't write. -/
def confD (l : List DI) : List (Nat × Nat) :=
  let w := l.flatMap fun q => q.2.2.dst.toList
  let ld := l.flatMap fun q => match q.2.2.op with | .load _ _ (.t a) => if w.contains a then [] else [a] | _ => []
  let sr := l.flatMap fun q => match q.2.2.op with | .store _ (.t b) _ => if w.contains b then [] else [b] | _ => []
  (ld.flatMap fun a => (sr.filter (· != a)).map fun b => (a, b)).eraseDups

def itemsD (P : Program) (n : Nat) (an : An) (calls : Cls) (ops : Array Oper) : List Nat → Option (List DI)
  | [] => some []
  | i :: l => match ops[i]? with
    | some o => match compPO P n an ops o, itemsD P n an calls ops l with
      | some p, some ps => some ((i, clsD an calls p, p) :: ps)
      | _, _ => none
    | none => none

def tryD (P : Program) (n : Nat) (an : An) (calls : Cls) (ops : Array Oper) : Option (List DI) :=
  match compPOs P n an ops ops.toList with
  | some ps =>
    let cs := ps.map fun p => clsD an calls p
    match itemsD P n an calls ops (orderD ops (fun i => cs.getD i .x) ops.size (List.range ops.size)) with
    | some l => if (List.range ops.size).all (fun i => (l.map (·.1)).contains i) && pairsD [] ops l && decide (l.length ≤ ops.size) then some l else none
    | none => none
  | none => none

def tryE (P : Program) (n : Nat) (an : An) (calls : Cls) (ops : Array Oper) : Option (List DI) :=
  match compPOs P n an ops ops.toList with
  | some ps =>
    let cs := ps.map fun p => clsD an calls p
    match itemsD P n an calls ops (orderE ops (fun i => cs.getD i .x) ops.size (List.range ops.size)) with
    | some l => if (List.range ops.size).all (fun i => (l.map (·.1)).contains i) && pairsD (confD l) ops l && decide (l.length ≤ ops.size) then some l else none
    | none => none
  | none => none

def compReg (P : Program) (n : Nat) (an : An) (ops : Array Oper) (draw : Bool) : Option PC :=
  if draw then
    match tryD P n an .x ops with
    | some l => some (.draw (l.map (·.2)))
    | none => match tryD P n an .s ops with
      | some l => some (.draw (l.map (·.2)))
      | none => match tryE P n an .x ops with
        | some l => some (.draw2 (confD l) (l.map (·.2)))
        | none => (tryE P n an .s ops).map fun l => .draw2 (confD l) (l.map (·.2))
  else (compPOs P n an ops ops.toList).map .ops

def compCode (P : Program) (n : Nat) (an : An) : Code → Option PC
  | .skip => some .skip
  | .label _ => some .skip
  | .region id ops draw =>
    match compReg P n an ops draw with
    | some b => match an.frz.lookup id with
      | some l => if l.all (· < n) then some (.seq (.frz l) b) else none
      | none => some b
    | none => none
  | .seq a b => match compCode P n an a, compCode P n an b with
    | some x, some y => some (.seq x y)
    | _, _ => none
  | .cond c a b => match ofX n c, compCode P n an a, compCode P n an b with
    | some z, some x, some y => some (.cond z x y)
    | _, _, _ => none
  | .block id c => (compCode P n an c).map (.block id)
  | .loop c => (compCode P n an c).map .loop
  | .exit id => some (.exit id)
  | .ret => some .ret
  | _ => none

def compRes (P : Program) (n : Nat) : ResultVar → Option PR
  | .tmp t => if t < n then some (.t t) else none
  | .cell t ty => if t < n then (packOf P ty).map fun p => .cell t p.1 p.2 else none

def compRess (P : Program) (n : Nat) : List ResultVar → Option (List PR)
  | [] => some []
  | r :: l => match compRes P n r, compRess P n l with
    | some x, some xs => some (x :: xs)
    | _, _ => none

def compFn (P : Program) (an : An) (f : FuncId) : Option PF :=
  match P.funcs[f]? with
  | some fn => match fn.body with
    | some c => match compCode P fn.ntmps an c, compRess P fn.ntmps fn.results.toList with
      | some pc, some rs => some ⟨fn.ntmps, fn.params.size, rs, pc⟩
      | _, _ => none
    | none => none
  | none => none

/-! ### that it holds -/

section
variable {P : Program} {B : Nat} {w0 : World} {n : Nat} {an : An} {ops : Array Oper}

/-- A state of the machine that stands for one of ours, and for which something holds. -/
def Stands (B : Nat) (w0 : World) (G0 : Gh) (n : Nat) (K : Env → St → Prop) (a : Act) (w : World) : Prop :=
  ∃ G env st, G0.le G ∧ EnvRel G n env a ∧ StRel B w0 G st w ∧ K env st

theorem guard_wanted {G : Gh} {env : Env} {a : Act} {o : Oper} {p : PO} (hc : compPO P n an ops o = some p) (he : EnvRel G n env a) {yes no : Prop} (h : guardP p.guard env yes no) :
    compOp P n an o = some p.op ∧ p.dst = o.dst ∧ (∀ d, o.dst = some d → d < n) ∧ ((Region.wanted o (yielded ops a.tmps) = true ∧ yes) ∨ (Region.wanted o (yielded ops a.tmps) = false ∧ no)) := by
  unfold compPO at hc
  obtain ⟨q, h1, hc⟩ := bind_some hc
  split at hc <;> try (cases hc; done)
  rename_i hall
  have hd : ∀ d, o.dst = some d → d < n := fun d e => by simpa [e] using hall
  split at hc
  · rename_i hg
    cases hc
    exact ⟨h1, rfl, hd, .inl ⟨by simp [Region.wanted, hg], h⟩⟩
  · rename_i g b hg
    split at hc <;> try (cases hc; done)
    rename_i t ht
    split at hc <;> try (cases hc; done)
    rename_i htn
    cases hc
    refine ⟨h1, rfl, hd, ?_⟩
    simp only [guardP] at h
    split at h <;> try exact h.elim
    case h_2 vs hev =>
      have hr := he.2.2 t htn
      rw [hev] at hr
      have hlt : t < a.tmps.size := by rw [he.1]; exact htn
      rw [Array.getD_eq_getD_getElem?, Array.getElem?_eq_getElem hlt] at hr
      simp only [Option.getD_some] at hr
      have hy : yielded ops a.tmps g = none := by
        simp only [yielded, ht, Option.bind_some, Array.getElem?_eq_getElem hlt]
        generalize a.tmps[t] = z at hr
        cases hr
        rfl
      exact .inr ⟨by simp [Region.wanted, hg, hy], h⟩
    rename_i c hev
    have hr := he.2.2 t htn
    rw [hev] at hr
    have hx : a.tmps[t]? = some (.bool c) := by
      have hlt : t < a.tmps.size := by rw [he.1]; exact htn
      rw [Array.getElem?_eq_getElem hlt]
      rw [Array.getD_eq_getD_getElem?, Array.getElem?_eq_getElem hlt] at hr
      simp only [Option.getD_some] at hr
      generalize a.tmps[t] = z at hr
      cases hr
      rfl
    have hy : yielded ops a.tmps g = some c := by simp [yielded, ht, hx]
    simp only [Region.wanted, hg, hy]
    split at h
    · rename_i e
      exact .inl ⟨by simp [e], h⟩
    · rename_i e
      exact .inr ⟨by simpa using e, h⟩

theorem put_rel {G : Gh} {env : Env} {a : Act} (he : EnvRel G n env a) {d : Option Nat} (hd : ∀ x, d = some x → x < n) {v : V} {x : Value} (hv : VRel G v x) : EnvRel G n (env.put d v) (a.put d x) := by
  cases d with
  | none => exact he
  | some d => exact he.put (hd d rfl) hv

theorem stillP_step {o : POp} {env : Env} {st : St} {K : V → Prop} (h : stillP P o env st K) : stepP P o env st fun v st' => st' = st ∧ K v := by
  have key : ∀ (o : POp), pureP o = true → (match opV o env st with | some v => K v | none => False) → stepP P o env st fun v st' => st' = st ∧ K v := by
    intro o hp h
    have h' : (match opV o env st with | some v => (st = st ∧ K v) | none => False) := by
      split at h
      · rename_i v hv
        exact ⟨rfl, h⟩
      · exact h
    cases o <;> first
      | exact h'
      | (simp only [pureP] at hp; cases hp; done)
      | skip
    rename_i ob sz nn z parts
    cases ob with
    | false => exact h'
    | true => simp only [pureP] at hp; cases hp
  cases o
  case call f l => obtain ⟨v, h1, h2⟩ := h; exact ACalls.mono h1 fun u s e => ⟨e.2, e.1 ▸ h2⟩
  case callv f l =>
    simp only [stillP] at h
    simp only [stepP]
    split at h <;> try exact h.elim
    obtain ⟨ho, v, h1, h2⟩ := h
    exact ⟨ho, ACalls.mono h1 fun u s e => ⟨e.2, e.1 ▸ h2⟩⟩
  case bsl b sz nn z parts => cases b with
    | false => exact key _ rfl h
    | true => exact h.elim
  case mksl ob sz b z x y => cases ob with
    | true => exact h.elim
    | false =>
      simp only [stillP] at h
      simp only [stepP]
      split at h <;> try exact h.elim
      exact ⟨h.1.1, h.1.2.1, h.1.2.2, by rw [if_neg (by simp)]; exact ⟨trivial, h.2⟩⟩
  all_goals first
    | exact key _ rfl h
    | exact h.elim

theorem stepC_step {c : Cls} {o : POp} {env : Env} {st : St} {K : V → St → Prop} (h : stepC P c o env st K) : stepP P o env st K := by
  cases c with
  | x => exact h
  | a => exact h
  | _ => exact stepP_mono o (fun v s e => by obtain ⟨rfl, hk⟩ := e; exact hk) (stillP_step h)

/-- One operation of a region. -/
theorem oper_sound {G0 G : Gh} {env : Env} {a : Act} {st : St} {w : World} {o : Oper} {p : PO} (hc : compPO P n an ops o = some p) (hle : G0.le G) (he : EnvRel G n env a) (hs : StRel B w0 G st w) {c : Cls} {K : Env → St → Prop}
    (h : stepG P c p env st fun v st' => K (env.put p.dst v) st') {next : Act → World → Prop} {Q : Exit → Act → World → Prop} (hn : ∀ a w, Stands B w0 G0 n K a w → next a w) :
    if Region.wanted o (yielded ops a.tmps) = true then o.wp P a w next Q ∨ (o.asks P a w ∧ LetsOut Q) else next (a.put o.dst undef) w := by
  obtain ⟨h1, h2, h3, h4⟩ := guard_wanted hc he h
  rcases h4 with ⟨hw, hy⟩ | ⟨hw, hy⟩
  · rw [if_pos hw]
    left
    refine step_sound h1 he hs (stepC_step hy) fun v x G' st' w' g1 g2 g3 g4 => hn _ _ ⟨G', _, st', Gh.le_trans hle g1, ?_, g3, g4⟩
    rw [h2]
    exact put_rel (he.mono g1) h3 g2
  · rw [if_neg (by rw [hw]; simp)]
    refine hn _ _ ⟨G, _, st, hle, ?_, hs, hy⟩
    rw [h2]
    exact put_rel he h3 (.tup [] #[] rfl (fun i hi => absurd hi (Nat.not_lt_zero _)))

theorem list_sound {G0 : Gh} {K : Env → St → Prop} {Q : Exit → Act → World → Prop} (hQ : ∀ a w, Stands B w0 G0 n K a w → Q .normal a w) : ∀ (l : List Oper) (ps : List PO), compPOs P n an ops l = some ps → ∀ {G : Gh} {env : Env} {a : Act} {st : St} {w : World}, G0.le G → EnvRel G n env a → StRel B w0 G st w → runP P ps env st K → wpList P ops Q l a w
  | [], ps, hc, G, env, a, st, w, hle, he, hs, h => by
    cases hc
    exact hQ _ _ ⟨G, env, st, hle, he, hs, h⟩
  | o :: l, ps, hc, G, env, a, st, w, hle, he, hs, h => by
    simp only [compPOs] at hc
    split at hc <;> try (cases hc; done)
    rename_i p ps' h1 h2
    cases hc
    exact oper_sound (c := .x) (K := fun env st => runP P ps' env st K) h1 hle he hs h fun a w ⟨G', env', st', g1, g2, g3, g4⟩ => list_sound hQ l ps' h2 g1 g2 g3 g4

/-! ### drawn regions -/

theorem itemsD_spec {calls : Cls} : ∀ (l : List Nat) (r : List DI), itemsD P n an calls ops l = some r → ∀ q ∈ r, ∃ o, ops[q.1]? = some o ∧ compPO P n an ops o = some q.2.2
  | [], r, h, q, hq => by cases h; cases hq
  | i :: l, r, h, q, hq => by
    simp only [itemsD] at h
    split at h <;> try (cases h; done)
    rename_i o ho
    split at h <;> try (cases h; done)
    rename_i p ps h1 h2
    cases h
    rcases List.mem_cons.1 hq with rfl | hq
    · exact ⟨o, ho, h1⟩
    · exact itemsD_spec l ps h2 q hq

/-- What is left of a region, and the marks of what has been done. -/
structure Left (conf : List (Nat × Nat)) (ops : Array Oper) (r : List DI) (listed : Array Bool) : Prop where
  mem : ∀ i, i < ops.size → (listed.getD i true = false ↔ i ∈ r.map (·.1))
  size : listed.size = ops.size
  pairs : pairsD conf ops r = true
  lt : ∀ q ∈ r, q.1 < ops.size
  shut : ∀ i, i < ops.size → i ∉ r.map (·.1) → ∀ m ∈ edges ops i, m ∉ r.map (·.1)

theorem pairsD_remove {conf : List (Nat × Nat)} : ∀ (l1 : List DI) {q : DI} {l2 : List DI}, pairsD conf ops (l1 ++ q :: l2) = true → pairsD conf ops (l1 ++ l2) = true ∧ (∀ p ∈ l1, pairD conf ops p q = true) ∧ (∀ p ∈ l2, pairD conf ops q p = true)
  | [], q, l2, h => by
    simp only [List.nil_append, pairsD, Bool.and_eq_true] at h
    exact ⟨h.2, by simp, by simpa using h.1.2⟩
  | p :: l1, q, l2, h => by
    simp only [List.cons_append, pairsD, Bool.and_eq_true, List.all_append, List.all_cons] at h ⊢
    obtain ⟨⟨h0, h1, h2, h3⟩, h4⟩ := h
    obtain ⟨i1, i2, i3⟩ := pairsD_remove l1 h4
    refine ⟨⟨⟨h0, h1, h3⟩, i1⟩, fun x hx => ?_, i3⟩
    rcases List.mem_cons.1 hx with rfl | hx
    · exact h2
    · exact i2 x hx

theorem before_left {r : List DI} (shut : ∀ i, i < ops.size → i ∉ r.map (·.1) → ∀ m ∈ edges ops i, m ∉ r.map (·.1)) : ∀ (k i j : Nat), before ops k i j = true → (∀ m ∈ edges ops i, m ∉ r.map (·.1)) → j ∉ r.map (·.1)
  | 0, i, j, h, _ => by cases h
  | k + 1, i, j, h, he => by
    simp only [before, List.any_eq_true, Bool.or_eq_true, beq_iff_eq] at h
    obtain ⟨m, hm, h⟩ := h
    rcases h with rfl | h
    · exact he m hm
    · refine before_left shut k m j h ?_
      rcases Nat.lt_or_ge m ops.size with hlt | hge
      · exact shut m hlt (he m hm)
      · intro x hx
        simp [edges, Array.getElem?_eq_none hge] at hx

theorem mem_edges {i : Nat} {o : Oper} (ho : ops[i]? = some o) {m : Nat} : m ∈ edges ops i ↔ ∃ e ∈ o.after, Region.binds .any e = true ∧ e.on = m := by
  simp only [edges, ho, List.mem_map, List.mem_filter, Array.mem_toList_iff, and_assoc]

theorem pairsD_edges {conf : List (Nat × Nat)} : ∀ {r : List DI}, pairsD conf ops r = true → ∀ q ∈ r, q.1 ∉ edges ops q.1 ∧ ∀ m ∈ edges ops q.1, m < ops.size
  | [], _, q, hq => by cases hq
  | p :: r, h, q, hq => by
    simp only [pairsD, Bool.and_eq_true, Bool.not_eq_true', List.all_eq_true, decide_eq_true_eq] at h
    rcases List.mem_cons.1 hq with rfl | hq
    · exact ⟨by simpa using h.1.1.1, h.1.1.2⟩
    · exact pairsD_edges h.2 q hq

theorem ready_left {conf : List (Nat × Nat)} {r : List DI} {listed : Array Bool} (hL : Left conf ops r listed) {i : Nat} (hi : i ∈ Region.ready .any ops listed) :
    ∃ q l1 l2, r = l1 ++ q :: l2 ∧ q.1 = i ∧ (∀ m ∈ edges ops i, m ∉ r.map (·.1)) ∧ ∀ p ∈ l1, okPair conf p.2 q.2 = true := by
  obtain ⟨h0, o, ho, hall⟩ := mem_ready.1 hi
  have hlt : i < ops.size := (Array.getElem?_eq_some_iff.1 ho).1
  obtain ⟨q, hq, rfl⟩ := List.mem_map.1 ((hL.mem i hlt).1 h0)
  obtain ⟨l1, l2, rfl⟩ := List.append_of_mem hq
  have hreq : ∀ m ∈ edges ops q.1, m ∉ (l1 ++ q :: l2).map (·.1) := by
    intro m hm
    obtain ⟨e, he, hb, rfl⟩ := (mem_edges ho).1 hm
    have hl := hall e he hb
    have hlt : e.on < ops.size := (pairsD_edges hL.pairs q (by simp)).2 _ hm
    intro hmem
    have h1 := (hL.mem _ hlt).2 hmem
    have hsz : e.on < listed.size := by rw [hL.size]; exact hlt
    rw [Array.getD_eq_getD_getElem?, Array.getElem?_eq_getElem hsz] at hl h1
    simp only [Option.getD_some] at hl h1
    rw [hl] at h1
    cases h1
  refine ⟨q, l1, l2, rfl, rfl, hreq, fun p hp => ?_⟩
  obtain ⟨_, h2, _⟩ := pairsD_remove l1 hL.pairs
  have h3 := h2 p hp
  simp only [pairD, Bool.and_eq_true, Bool.or_eq_true] at h3
  rcases h3.2 with h4 | h4
  · exact absurd (List.mem_map.2 ⟨p, by simp [hp], rfl⟩) (before_left hL.shut _ _ _ h4 hreq)
  · exact h4

theorem left_step {conf : List (Nat × Nat)} {l1 l2 : List DI} {q : DI} {listed : Array Bool} (hL : Left conf ops (l1 ++ q :: l2) listed) (hreq : ∀ m ∈ edges ops q.1, m ∉ (l1 ++ q :: l2).map (·.1)) : Left conf ops (l1 ++ l2) (listed.setIfInBounds q.1 true) := by
  obtain ⟨h1, h2, h3⟩ := pairsD_remove l1 hL.pairs
  have hq : q.1 < ops.size := hL.lt q (by simp)
  have hne : q.1 ∉ (l1 ++ l2).map (·.1) := by
    intro h
    obtain ⟨p, hp, e⟩ := List.mem_map.1 h
    rcases List.mem_append.1 hp with hp | hp
    · have := h2 p hp
      simp [pairD, e] at this
    · have := h3 p hp
      simp [pairD, e] at this
  refine ⟨fun i hi => ?_, by simp [hL.size], h1, fun p hp => hL.lt p (by rcases List.mem_append.1 hp with h | h <;> simp [h]), fun i hi hni m hm hmr => ?_⟩
  · by_cases e : i = q.1
    · subst e
      constructor
      · intro h
        rw [Array.getD_eq_getD_getElem?, Array.getElem?_setIfInBounds_self_of_lt (by rw [hL.size]; exact hq)] at h
        cases h
      · exact fun h => absurd h hne
    · rw [getD_set_ne true (fun h => e h.symm), hL.mem i hi]
      simp [e]
  · by_cases e : i = q.1
    · subst e
      refine hreq m hm ?_
      simp only [List.map_append, List.map_cons, List.mem_append, List.mem_cons] at hmr ⊢
      rcases hmr with h | h
      · exact .inl h
      · exact .inr (.inr h)
    · have : i ∉ (l1 ++ q :: l2).map (·.1) := by
        simp only [List.map_append, List.map_cons, List.mem_append, List.mem_cons] at hni ⊢
        rintro (h | h | h)
        · exact hni (.inl h)
        · exact e h
        · exact hni (.inr h)
      refine hL.shut i hi this m hm ?_
      simp only [List.map_append, List.map_cons, List.mem_append, List.mem_cons] at hmr ⊢
      rcases hmr with h | h
      · exact .inl h
      · exact .inr (.inr h)

theorem draw_sound {conf : List (Nat × Nat)} {G0 : Gh} {K : Env → St → Prop} {Q : Exit → Act → World → Prop} (hQ : ∀ a w, Stands B w0 G0 n K a w → Q .normal a w) : ∀ (fuel : Nat) (r : List DI) (listed : Array Bool), r.length ≤ fuel → Left conf ops r listed → (∀ q ∈ r, ∃ o, ops[q.1]? = some o ∧ compPO P n an ops o = some q.2.2) → (∀ q ∈ r, ∀ d, q.2.2.dst = some d → ∀ p ∈ conf, d ≠ p.1 ∧ d ≠ p.2) →
    ∀ {G : Gh} {env : Env} {a : Act} {st : St} {w : World}, G0.le G → EnvRel G n env a → StRel B w0 G st w → Conf conf env → runD P (r.map (·.2)) env st K → wpAny P .any ops Q fuel listed a w := by
  have fin : ∀ (r : List DI) (listed : Array Bool), Left conf ops r listed → (∀ q ∈ r, ∃ o, ops[q.1]? = some o ∧ compPO P n an ops o = some q.2.2) → Region.ready .any ops listed = [] → r = [] := by
    intro r listed hL hc hr
    cases r with
    | nil => rfl
    | cons q r =>
      exfalso
      obtain ⟨o, ho, _⟩ := hc q (by simp)
      have hmem : q.1 ∈ Region.ready .any ops listed := by
        refine mem_ready.2 ⟨(hL.mem _ (hL.lt q (by simp))).2 (by simp), o, ho, fun e he hb => ?_⟩
        have hm : e.on ∈ edges ops q.1 := (mem_edges ho).2 ⟨e, he, hb, rfl⟩
        obtain ⟨hself, hlt⟩ := pairsD_edges hL.pairs q (by simp)
        have hp := hL.pairs
        simp only [pairsD, Bool.and_eq_true, List.all_eq_true] at hp
        have hni : e.on ∉ (q :: r).map (·.1) := by
          intro h
          rw [List.map_cons, List.mem_cons] at h
          rcases h with h | h
          · exact hself (h ▸ hm)
          · obtain ⟨p, hpr, e'⟩ := List.mem_map.1 h
            have := hp.1.2 p hpr
            simp only [pairD, Bool.and_eq_true, Bool.not_eq_true'] at this
            rw [e'] at this
            simp [hm] at this
        have hsz : e.on < listed.size := by rw [hL.size]; exact hlt _ hm
        rw [Array.getD_eq_getD_getElem?, Array.getElem?_eq_getElem hsz]
        have h1 := mt (hL.mem _ (hlt _ hm)).1 hni
        rw [Array.getD_eq_getD_getElem?, Array.getElem?_eq_getElem hsz] at h1
        simpa using h1
      rw [hr] at hmem
      cases hmem
  intro fuel
  induction fuel with
  | zero =>
    intro r listed hf hL hc hun G env a st w hle he hs hconf h
    have : r = [] := List.eq_nil_of_length_eq_zero (by omega)
    subst this
    refine ⟨?_, hQ _ _ ⟨G, env, st, hle, he, hs, h⟩⟩
    cases hr : Region.ready .any ops listed with
    | nil => rfl
    | cons i l =>
      obtain ⟨q, l1, l2, e, _⟩ := ready_left hL (i := i) (by rw [hr]; simp)
      simp at e
  | succ fuel ih =>
    intro r listed hf hL hc hun G env a st w hle he hs hconf h
    refine ⟨fun hr => ?_, fun i hi => ?_⟩
    · have := fin r listed hL hc hr
      subst this
      exact hQ _ _ ⟨G, env, st, hle, he, hs, h⟩
    · obtain ⟨q, l1, l2, rfl, rfl, hreq, hok⟩ := ready_left hL hi
      obtain ⟨o, ho, hpo⟩ := hc q (by simp)
      have hm := move (P := P) (q := q.2) (l1 := l1.map (·.2)) (l2 := l2.map (·.2)) (K := K) (env := env) (st := st) hconf (fun p hp => by obtain ⟨x, hx, rfl⟩ := List.mem_map.1 hp; exact hun x (by simp [hx])) (fun p hp => by obtain ⟨x, hx, rfl⟩ := List.mem_map.1 hp; exact hok x hx) (by simpa using h)
      have hL' := left_step hL hreq
      unfold wpOp
      simp only [ho]
      obtain ⟨qi, qc, qp⟩ := q
      rw [runD_cons] at hm
      have hm' := stepG_mono (fun v s (hk : runD P (l1.map (·.2) ++ l2.map (·.2)) (env.put qp.dst v) s K) => And.intro (conf_put hconf (hun (qi, qc, qp) (by simp)) v) hk) hm
      exact oper_sound (c := qc) (K := fun env st => Conf conf env ∧ runD P (l1.map (·.2) ++ l2.map (·.2)) env st K) hpo hle he hs hm' fun a w ⟨G', env', st', g1, g2, g3, g4⟩ =>
        ih (l1 ++ l2) _ (by simp at hf ⊢; omega) hL' (fun p hp => hc p (by rcases List.mem_append.1 hp with h | h <;> simp [h])) (fun p hp => hun p (by rcases List.mem_append.1 hp with h | h <;> simp [h])) g1 g2 g3 g4.1 (by simpa using g4.2)

theorem left_start {conf : List (Nat × Nat)} {r : List DI} (h1 : ((List.range ops.size).all (fun i => (r.map (·.1)).contains i)) = true) (h2 : pairsD conf ops r = true) (hc : ∀ q ∈ r, ∃ o, ops[q.1]? = some o ∧ compPO P n an ops o = some q.2.2) : Left conf ops r (Array.replicate ops.size false) := by
  simp only [List.all_eq_true, List.mem_range] at h1
  have hin : ∀ i, i < ops.size → i ∈ r.map (·.1) := fun i hi => by simpa using h1 i hi
  refine ⟨fun i hi => ⟨fun _ => hin i hi, fun _ => ?_⟩, by simp, h2, fun q hq => ?_, fun i hi hni => absurd (hin i hi) hni⟩
  · simp [hi]
  · obtain ⟨o, ho, _⟩ := hc q hq
    exact (Array.getElem?_eq_some_iff.1 ho).1

theorem tryD_spec {calls : Cls} {l : List DI} (h : tryD P n an calls ops = some l) : l.length ≤ ops.size ∧ Left [] ops l (Array.replicate ops.size false) ∧ ∀ q ∈ l, ∃ o, ops[q.1]? = some o ∧ compPO P n an ops o = some q.2.2 := by
  unfold tryD at h
  split at h <;> try (cases h; done)
  simp only at h
  split at h <;> try (cases h; done)
  rename_i l' hi
  split at h <;> try (cases h; done)
  rename_i hcond
  cases h
  simp only [Bool.and_eq_true, decide_eq_true_eq] at hcond
  have hs := itemsD_spec _ _ hi
  exact ⟨hcond.2, left_start hcond.1.1 hcond.1.2 hs, hs⟩

theorem tryE_spec {calls : Cls} {l : List DI} (h : tryE P n an calls ops = some l) : l.length ≤ ops.size ∧ Left (confD l) ops l (Array.replicate ops.size false) ∧ ∀ q ∈ l, ∃ o, ops[q.1]? = some o ∧ compPO P n an ops o = some q.2.2 := by
  unfold tryE at h
  split at h <;> try (cases h; done)
  simp only at h
  split at h <;> try (cases h; done)
  rename_i l' hi
  split at h <;> try (cases h; done)
  rename_i hcond
  cases h
  simp only [Bool.and_eq_true, decide_eq_true_eq] at hcond
  have hs := itemsD_spec _ _ hi
  exact ⟨hcond.2, left_start hcond.1.1 hcond.1.2 hs, hs⟩

theorem confD_apart (l : List DI) : ∀ q ∈ l, ∀ d, q.2.2.dst = some d → ∀ p ∈ confD l, d ≠ p.1 ∧ d ≠ p.2 := by
  intro q hq d hd p hp
  have hw : d ∈ l.flatMap fun q => q.2.2.dst.toList := List.mem_flatMap.2 ⟨q, hq, by simp [hd]⟩
  simp only [confD, List.mem_eraseDups, List.mem_flatMap, List.mem_map, List.mem_filter] at hp
  obtain ⟨a, ⟨q1, _, h1⟩, b, ⟨⟨q2, _, h2⟩, _⟩, rfl⟩ := hp
  simp only
  constructor
  · rintro rfl
    split at h1
    · split at h1
      · simp at h1
      · rename_i hn
        simp only [List.mem_singleton] at h1
        subst h1
        exact hn (by simpa using hw)
    · simp at h1
  · rintro rfl
    split at h2
    · split at h2
      · simp at h2
      · rename_i hn
        simp only [List.mem_singleton] at h2
        subst h2
        exact hn (by simpa using hw)
    · simp at h2

theorem region_sound (hm : P.follows .mixedOrders = true) {draw : Bool} {pc : PC} (hc : compReg P n an ops draw = some pc) {G0 G : Gh} {env : Env} {a : Act} {st : St} {w : World} {id : Nat} {Q : Ex → Env → St → Prop} {Q' : Exit → Act → World → Prop}
    (hQ : ∀ a w, Stands B w0 G0 n (Q .normal) a w → Q' .normal a w) (hle : G0.le G) (he : EnvRel G n env a) (hs : StRel B w0 G st w) (h : vc P pc Q env st) : (Code.region id ops draw).wp P Q' a w := by
  unfold compReg at hc
  have dr : ∀ {calls : Cls} {l : List DI}, tryD P n an calls ops = some l → runD P (l.map (·.2)) env st (Q .normal) → (Code.region id ops true).wp P Q' a w := by
    intro calls l ht hr
    obtain ⟨hlen, hL, hi⟩ := tryD_spec ht
    exact wp_region_any hm (draw_sound hQ _ l _ hlen hL hi (fun q _ d _ p hp => by cases hp) hle he (hs.ext (below_drew w)) (fun p hp => by cases hp) hr)
  have de : ∀ {calls : Cls} {l : List DI}, tryE P n an calls ops = some l → vc P (.draw2 (confD l) (l.map (·.2))) Q env st → (Code.region id ops true).wp P Q' a w := by
    intro calls l ht hr
    obtain ⟨hlen, hL, hi⟩ := tryE_spec ht
    exact wp_region_any hm (draw_sound hQ _ l _ hlen hL hi (confD_apart l) hle he (hs.ext (below_drew w)) hr.1 hr.2)
  cases draw with
  | false =>
    simp only [Bool.false_eq_true, if_false] at hc
    obtain ⟨ps, h1, rfl⟩ := Option.map_eq_some_iff.1 hc
    exact wp_region_list (list_sound hQ _ ps h1 hle he hs h)
  | true =>
    simp only [if_true] at hc
    split at hc
    · rename_i l hl
      cases hc
      exact dr hl h
    · split at hc
      · rename_i l hl
        cases hc
        exact dr hl h
      · split at hc
        · rename_i l hl
          cases hc
          exact de hl h
        · obtain ⟨l, hl, rfl⟩ := Option.map_eq_some_iff.1 hc
          exact de hl h
end
end Go.Ab
/-
  A function's contract out of what is shown of its code.
-/
set_option linter.unusedSimpArgs false
set_option linter.unusedVariables false
namespace Go.Ab
open Go Go.RowKit

section
variable {P : Program} {B : Nat} {w0 : World} {n : Nat} {an : An}

theorem frzOb_sound {G : Gh} {st s : St} {w : World} (hs : StRel B w0 G st w) {id : Nat} (h : frzOb st id = some s) : ∃ G', G.le G' ∧ StRel B w0 G' s w ∧ ∃ cs, s id = some (.ro cs) := by
  unfold frzOb at h
  split at h <;> cases h
  · rename_i cs hid
    obtain ⟨b, l, m, h1, _⟩ := hs.obj id _ hid
    obtain ⟨G', h2, h3⟩ := hs.freeze hid h1
    exact ⟨G', h2, h3, cs, St.upd_same _ _ _⟩
  · rename_i cs hid
    exact ⟨G, G.le_refl, hs, cs, hid⟩

theorem frzMap_sound {G : Gh} {st : St} {w : World} (hs : StRel B w0 G st w) {id : Nat} {u : V} {s : St} {x : Value} (hv : VRel G (.map (some id)) x) (h : frzV st (.map (some id)) = some (u, s)) : ∃ G', G.le G' ∧ StRel B w0 G' s w ∧ VRel G' u x := by
  simp only [frzV] at h
  split at h
  · rename_i es bs clk hst
    cases h
    exact ⟨G, G.le_refl, hs.toMp hv hst, hv⟩
  · cases h; exact ⟨G, G.le_refl, hs, hv⟩
  · cases h

theorem frzV_sound {G : Gh} {st s : St} {w : World} (hs : StRel B w0 G st w) {v u : V} {x : Value} (hv : VRel G v x) (h : frzV st v = some (u, s)) : ∃ G', G.le G' ∧ StRel B w0 G' s w ∧ VRel G' u x := by
  cases v with
  | map mo =>
    cases mo with
    | none => cases h; exact ⟨G, G.le_refl, hs, hv⟩
    | some id => exact frzMap_sound hs hv h
  | ptr p =>
    cases p with
    | none => cases h; exact ⟨G, G.le_refl, hs, hv⟩
    | some q =>
      obtain ⟨id, o⟩ := q
      simp only [frzV] at h
      obtain ⟨s', h1, h2⟩ := Option.bind_eq_some_iff.1 h
      split at h2 <;> cases h2
      rename_i cs hid
      obtain ⟨G', g1, g2, _⟩ := frzOb_sound hs h1
      refine ⟨G', g1, g2, ?_⟩
      cases hv with
      | ptr _ _ b l m hι =>
        obtain ⟨b', l', m', k1, k2, k3, k4⟩ := g2.obj id _ hid
        rw [g1.ι _ _ hι] at k1
        obtain ⟨rfl, rfl, rfl⟩ : b = b' ∧ l = l' ∧ m = m' := by cases k1; exact ⟨rfl, rfl, rfl⟩
        have hget : ∀ i, (cs.drop o).getD i .junk = cs.getD (o + i) .junk := fun i => by simp [List.getD_eq_getElem?_getD, List.getElem?_drop]
        have key : ∀ i, i < (cs.drop o).length → ∃ y, (G'.pm b (o + i)).getD undef = y ∧ G'.pm b (o + i) = some y ∧ VRel G' (cs.getD (o + i) .junk) y ∧ y.oneCell' = true := fun i hi => by
          rw [List.length_drop] at hi
          obtain ⟨y, q1, q2, q3⟩ := k4 (o + i) (by omega)
          exact ⟨y, by rw [q1]; rfl, q1, q2, q3⟩
        refine .eptr _ b o (fun i => (G'.pm b (o + i)).getD undef) (fun i hi => ?_) (fun i hi => ?_) (fun i hi => ?_) <;> obtain ⟨y, q1, q2, q3, q4⟩ := key i hi
        · rw [q1]; exact q2
        · rw [hget i, q1]; exact q3
        · rw [q1]; exact q4
  | hsl id off sz nn =>
    simp only [frzV] at h
    obtain ⟨s', h1, h2⟩ := Option.bind_eq_some_iff.1 h
    obtain ⟨c, h3, h4⟩ := Option.map_eq_some_iff.1 h2
    cases h4
    obtain ⟨G', g1, g2, cs, hid⟩ := frzOb_sound hs h1
    refine ⟨G', g1, g2, ?_⟩
    cases hv with
    | hsl _ _ _ _ b l m cap o hι hn hm hl ho =>
      obtain ⟨b', l', m', k1, k2, k3, k4⟩ := g2.obj id _ hid
      rw [g1.ι _ _ hι] at k1
      obtain ⟨rfl, rfl, rfl⟩ : b = b' ∧ l = l' ∧ m = m' := by cases k1; exact ⟨rfl, rfl, rfl⟩
      simp only [St.seg, hid, segOf] at h3
      split at h3 <;> cases h3
      rename_i hle
      have hlen : ((cs.drop off).take (nn * sz)).length = nn * sz := by simp; omega
      have hget : ∀ i, i < nn * sz → ((cs.drop off).take (nn * sz)).getD i .junk = cs.getD (off + i) .junk := fun i hi => by
        simp [List.getD_eq_getElem?_getD, List.getElem?_take, hi, List.getElem?_drop]
      rcases Nat.eq_zero_or_pos cap with h0 | h0
      · have hz : nn = 0 := by omega
        subst hz
        refine .sl .some _ 0 b o cap (by simp) (Nat.zero_le _) (fun e => by cases e) (fun _ => undef) (fun i hi => ?_) (fun i hi => ?_) (fun i hi => ?_) <;> (rw [hlen] at hi; simp at hi)
      · have := ho (by omega)
        subst this
        have key : ∀ i, i < nn * sz → ∃ y, G'.pm b (o + i) = some y ∧ VRel G' (cs.getD (o + i) .junk) y ∧ y.oneCell' = true := fun i hi => k4 (o + i) (by omega)
        have pick : ∀ i, i < nn * sz → ∃ y, (G'.pm b (o + i)).getD undef = y ∧ G'.pm b (o + i) = some y ∧ VRel G' (cs.getD (o + i) .junk) y ∧ y.oneCell' = true := fun i hi => by
          obtain ⟨y, q1, q2, q3⟩ := key i hi
          exact ⟨y, by rw [q1]; rfl, q1, q2, q3⟩
        refine .sl .some _ nn b o cap (by simp) hn (fun e => by cases e) (fun i => (G'.pm b (o + i)).getD undef) (fun i hi => ?_) (fun i hi => ?_) (fun i hi => ?_) <;> rw [hlen] at hi <;> obtain ⟨y, q1, q2, q3, q4⟩ := pick i hi
        · rw [q1]; exact q2
        · rw [hget i hi, q1]; exact q3
        · rw [q1]; exact q4
  | agg cs => cases h; exact ⟨G, G.le_refl, hs, hv⟩
  | _ => cases h; exact ⟨G, G.le_refl, hs, hv⟩

theorem frz_same {n : Nat} {G : Gh} {env : Env} {a : Act} (he : EnvRel G n env a) {t : Nat} {v : V} (hv : VRel G v (a.tmps.getD t undef)) : EnvRel G n (env.upd t v) a := by
  refine ⟨he.1, he.2.1, fun u hu => ?_⟩
  by_cases e : u = t
  · subst e
    simp only [Env.upd, if_true]
    exact hv
  · simp only [Env.upd, if_neg e]
    exact he.2.2 u hu

theorem frzP_sound {G0 : Gh} {K : Env → St → Prop} {a : Act} {w : World} : ∀ (l : List Nat) {G : Gh} {env : Env} {st : St}, (∀ t ∈ l, t < n) → G0.le G → EnvRel G n env a → StRel B w0 G st w → frzP l env st K → Stands B w0 G0 n K a w
  | [], G, env, st, _, hle, he, hs, h => ⟨G, env, st, hle, he, hs, h⟩
  | t :: l, G, env, st, hl, hle, he, hs, h => by
    simp only [frzP] at h
    split at h <;> try exact h.elim
    rename_i v s hv
    obtain ⟨G', g1, g2, g3⟩ := frzV_sound hs (he.2.2 t (hl t (by simp))) hv
    exact frzP_sound l (fun u hu => hl u (by simp [hu])) (Gh.le_trans hle g1) (frz_same (he.mono g1) g3) g2 h

/-- What holds at an exit. -/
def Ends (B : Nat) (w0 : World) (G0 : Gh) (n : Nat) (Q : Ex → Env → St → Prop) : Exit → Act → World → Prop
  | .normal, a, w => Stands B w0 G0 n (Q .normal) a w
  | .exit id, a, w => Stands B w0 G0 n (Q (.exit id)) a w
  | .ret, a, w => Stands B w0 G0 n (Q .ret) a w
  | _, _, _ => False

theorem Stands.mono {G0 : Gh} {K K' : Env → St → Prop} {a : Act} {w : World} (hk : ∀ env st, K env st → K' env st) (h : Stands B w0 G0 n K a w) : Stands B w0 G0 n K' a w := by
  obtain ⟨G, env, st, h1, h2, h3, h4⟩ := h
  exact ⟨G, env, st, h1, h2, h3, hk _ _ h4⟩

theorem Stands.le {G0 G1 : Gh} (hle : G0.le G1) {K : Env → St → Prop} {a : Act} {w : World} (h : Stands B w0 G1 n K a w) : Stands B w0 G0 n K a w := by
  obtain ⟨G, env, st, h1, h2, h3, h4⟩ := h
  exact ⟨G, env, st, Gh.le_trans hle h1, h2, h3, h4⟩

theorem Ends.le {G0 G1 : Gh} (hle : G0.le G1) {Q : Ex → Env → St → Prop} {e : Exit} {a : Act} {w : World} (h : Ends B w0 G1 n Q e a w) : Ends B w0 G0 n Q e a w := by
  cases e <;> first | exact Stands.le hle h | exact h

theorem code_sound (hm : P.follows .mixedOrders = true) : ∀ (c : Code) (pc : PC), compCode P n an c = some pc → ∀ (Q : Ex → Env → St → Prop) {G : Gh} {env : Env} {a : Act} {st : St} {w : World}, EnvRel G n env a → StRel B w0 G st w → vc P pc Q env st → c.wp P (Ends B w0 G n Q) a w := by
  intro c
  induction c with
  | skip =>
    intro pc hc Q G env a st w he hs h
    cases hc
    exact wp_skip ⟨G, env, st, G.le_refl, he, hs, h⟩
  | label l =>
    intro pc hc Q G env a st w he hs h
    cases hc
    exact wp_label ⟨G, env, st, G.le_refl, he, hs, h⟩
  | exit id =>
    intro pc hc Q G env a st w he hs h
    cases hc
    exact wp_exit ⟨G, env, st, G.le_refl, he, hs, h⟩
  | ret =>
    intro pc hc Q G env a st w he hs h
    cases hc
    exact wp_ret ⟨G, env, st, G.le_refl, he, hs, h⟩
  | region id ops draw =>
    intro pc hc Q G env a st w he hs h
    simp only [compCode] at hc
    split at hc <;> try (cases hc; done)
    rename_i b hb
    split at hc
    · rename_i l hl
      split at hc <;> cases hc
      rename_i hall
      have h' : frzP l env st (fun env st => vc P b Q env st) := h
      obtain ⟨G1, env1, st1, g1, g2, g3, g4⟩ := frzP_sound (G0 := G) l (fun t ht => by simpa using List.all_eq_true.1 hall t ht) G.le_refl he hs h'
      exact region_sound hm hb (fun a w h => h) g1 g2 g3 g4
    · cases hc
      exact region_sound hm hb (fun a w h => h) G.le_refl he hs h
  | seq x y ihx ihy =>
    intro pc hc Q G env a st w he hs h
    simp only [compCode] at hc
    split at hc <;> try (cases hc; done)
    rename_i px py hx hy
    cases hc
    refine wp_seq (wp_mono (ihx px hx _ he hs h) fun e a w hq => ?_)
    cases e with
    | normal =>
      obtain ⟨G1, env1, st1, g1, g2, g3, g4⟩ := hq
      exact wp_mono (ihy py hy _ g2 g3 g4) fun e a w hq => hq.le g1
    | exit id => exact hq
    | ret => exact hq
    | goto l => exact hq
    | panic c => exact hq
    | outgrown => exact hq
  | cond c x y ihx ihy =>
    intro pc hc Q G env a st w he hs h
    simp only [compCode] at hc
    split at hc <;> try (cases hc; done)
    rename_i z px py hz hx hy
    cases hc
    simp only [vc] at h
    split at h <;> try exact h.elim
    rename_i t ht
    have hr := ofX_rel he hz
    rw [ht] at hr
    have hce : a.eval c = .bool t := by generalize a.eval c = q at hr; cases hr; rfl
    refine wp_cond hce ?_
    cases t with
    | true => exact ihx px hx _ he hs (by simpa using h)
    | false => exact ihy py hy _ he hs (by simpa using h)
  | block id c ih =>
    intro pc hc Q G env a st w he hs h
    simp only [compCode] at hc
    obtain ⟨px, hx, rfl⟩ := Option.map_eq_some_iff.1 hc
    refine wp_block (wp_mono (ih px hx _ he hs h) fun e a w hq => ?_)
    cases e with
    | exit j =>
      simp only [Exit.inBlock]
      obtain ⟨G1, env1, st1, g1, g2, g3, g4⟩ := hq
      simp only at g4
      split
      · rename_i e
        rw [if_pos e] at g4
        exact ⟨G1, env1, st1, g1, g2, g3, g4⟩
      · rename_i e
        rw [if_neg e] at g4
        exact ⟨G1, env1, st1, g1, g2, g3, g4⟩
    | normal => exact hq
    | ret => exact hq
    | goto l => exact hq
    | panic c => exact hq
    | outgrown => exact hq
  | loop c ih =>
    intro pc hc Q G env a st w he hs h
    simp only [compCode] at hc
    obtain ⟨px, hx, rfl⟩ := Option.map_eq_some_iff.1 hc
    obtain ⟨I, μ, h0, hr⟩ := h
    refine wp_loop_ghost (fun k a w => Stands B w0 G n (fun env' st' => Same px.writes env env' ∧ I env' st' ∧ μ env' st' = k) a w) (μ env st) ⟨G, env, st, G.le_refl, he, hs, Same.refl _ _, h0, rfl⟩ ?_
    rintro k a w ⟨G1, env1, st1, g1, g2, g3, g4, g5, rfl⟩
    have h1 := vc_frame px _ (fun e env2 st2 => Same px.writes env1 env2 ∧ match e with | .normal => (∃ s, St.sub s st2 ∧ I env2 s ∧ μ env2 s < μ env1 st1) | e => Q e env2 st2) env1 st1 (fun e env2 st2 hs hq => ⟨hs, hq⟩) (hr env1 st1 g4 g5)
    refine wp_mono (ih px hx _ g2 g3 h1) fun e a w hq => ?_
    cases e with
    | normal =>
      obtain ⟨G2, env2, st2, k1, k2, k3, k4, s, k5, k6, k7⟩ := hq
      exact ⟨_, k7, G2, env2, s, Gh.le_trans g1 k1, k2, k3.sub k5, g4.trans k4, k6, rfl⟩
    | exit id => exact (Stands.mono (fun _ _ h => h.2) hq).le g1
    | ret => exact (Stands.mono (fun _ _ h => h.2) hq).le g1
    | goto l => exact hq
    | panic c => exact hq
    | outgrown => exact hq
  | rangeFunc f ps x y _ _ => intro pc hc; cases hc
  | scope c _ => intro pc hc; cases hc
  | goto l => intro pc hc; cases hc
  | refuse s => intro pc hc; cases hc

/-! ### functions -/

theorem res_run {G : Gh} {env : Env} {a : Act} {st : St} {w : World} (he : EnvRel G n env a) (hs : StRel B w0 G st w) {r : ResultVar} {p : PR} (hc : compRes P n r = some p) {v : V} (hv : resOne env st p = some v) :
    ∃ x, ((match r with | .tmp t => pure (a.tmps.getD t undef) | .cell ad t => (do loadVar t (← asAddr (a.tmps.getD ad undef))) : Sem Value)).run P w = .ok x w ∧ VRel G v x := by
  cases r with
  | tmp t =>
    simp only [compRes] at hc
    split at hc <;> cases hc
    rename_i ht
    cases hv
    exact ⟨_, rfl, he.2.2 t ht⟩
  | cell ad t =>
    simp only [compRes] at hc
    split at hc <;> try (cases hc; done)
    rename_i ht
    obtain ⟨q, hq, rfl⟩ := Option.map_eq_some_iff.1 hc
    obtain ⟨y, h1, h2⟩ := load_sound hs hq (he.2.2 ad ht) hv
    refine ⟨y, ?_, h2⟩
    obtain ⟨c, hcc, hpk⟩ := Option.bind_eq_some_iff.1 hv
    obtain ⟨b, o, xs, hx, k1, k2, k3⟩ := ldCells_rel hs (he.2.2 ad ht) hcc
    simp only [hx] at h1 ⊢
    simpa [Instr.loadAt, Instr.sureAddr, asAddr] using h1

theorem ress_run {G : Gh} {env : Env} {a : Act} {st : St} {w : World} (he : EnvRel G n env a) (hs : StRel B w0 G st w) : ∀ {l : List ResultVar} {ps : List PR}, compRess P n l = some ps → ∀ {vs : List V}, resAll env st ps = some vs →
    ∃ xs, (l.mapM (fun r => (match r with | .tmp t => pure (a.tmps.getD t undef) | .cell ad t => (do loadVar t (← asAddr (a.tmps.getD ad undef))) : Sem Value))).run P w = .ok xs w ∧ LRel G vs xs
  | [], ps, hc, vs, hv => by
    cases hc
    cases hv
    exact ⟨[], by simp, rfl, fun i hi => by simp at hi⟩
  | r :: l, ps, hc, vs, hv => by
    simp only [compRess] at hc
    split at hc <;> try (cases hc; done)
    rename_i p ps' h1 h2
    cases hc
    simp only [resAll] at hv
    obtain ⟨v, h3, hv⟩ := Option.bind_eq_some_iff.1 hv
    obtain ⟨vs', h4, rfl⟩ := Option.map_eq_some_iff.1 hv
    obtain ⟨x, h5, h6⟩ := res_run he hs h1 h3
    obtain ⟨xs, h7, h8⟩ := ress_run he hs h2 h4
    refine ⟨x :: xs, ?_, by simp [h8.1], fun i hi => ?_⟩
    · rw [List.mapM_cons, Sem.run_bind, h5, Result.andThen_ok, Sem.run_bind, h7]
      rfl
    · cases i with
      | zero => exact h6
      | succ i => exact h8.2 i (by simpa using hi)

theorem results_run {G : Gh} {env : Env} {a : Act} {st : St} {w : World} (he : EnvRel G n env a) (hs : StRel B w0 G st w) {fn : Func} {ps : List PR} (hc : compRess P n fn.results.toList = some ps) {v : V} (hv : resV env st ps = some v) :
    ∃ x, (results fn a.tmps).run P w = .ok x w ∧ VRel G v x := by
  obtain ⟨vs, h1, rfl⟩ := Option.map_eq_some_iff.1 hv
  obtain ⟨xs, h2, h3⟩ := ress_run he hs hc h1
  unfold results
  rw [Array.mapM_eq_mapM_toList]
  have hrun : ∀ (f : ResultVar → Sem Value), (fn.results.toList.mapM f).run P w = .ok xs w → ((do let vs ← List.toArray <$> fn.results.toList.mapM f; pure (if h : vs.size = 1 then vs[0] else .tuple vs)) : Sem Value).run P w = .ok (if h : xs.toArray.size = 1 then xs.toArray[0] else .tuple xs.toArray) w := by
    intro f hf
    simp only [map_eq_pure_bind, bind_assoc, pure_bind, Sem.run_bind, hf, Result.andThen_ok, Sem.run_pure]
  refine ⟨_, hrun _ ?_, ?_⟩
  · exact h2
  · match vs, xs, h3 with
    | [], [], _ => exact .tup _ _ rfl fun i hi => by simp at hi
    | [v], [x], h => exact h.2 0 (by simp)
    | v :: u :: l, x :: y :: m, h =>
      have : ¬ ((x :: y :: m).toArray.size = 1) := by simp
      rw [dif_neg this]
      refine .tup _ _ (by have := h.1; simpa using this) fun i hi => ?_
      have := h.2 i hi
      rw [getD_toList]
      simpa using this
    | [], x :: _, h => exact absurd h.1 (by simp)
    | [v], [], h => exact absurd h.1 (by simp)
    | [v], x :: y :: m, h => exact absurd h.1 (by simp)
    | v :: u :: l, [], h => exact absurd h.1 (by simp)
    | v :: u :: l, [x], h => exact absurd h.1 (by simp)

theorem argEnv_getD : ∀ (l : List V) (t : Nat), argEnv l t = l.getD t .junk
  | [], t => by simp [argEnv]
  | v :: l, 0 => rfl
  | v :: l, t + 1 => by rw [argEnv, argEnv_getD l t]; rfl

theorem acalls_of_shows (hm : P.follows .mixedOrders = true) {f : FuncId} {F : PF} (hc : compFn P an f = some F) {args : List V} {st : St} {R : V → St → Prop} (hl : args.length ≤ F.n) (h : F.shows P args st R) : ACalls P f args st R := by
  unfold compFn at hc
  split at hc <;> try (cases hc; done)
  rename_i fn hf
  split at hc <;> try (cases hc; done)
  rename_i c hb
  split at hc <;> try (cases hc; done)
  rename_i pc rs h1 h2
  cases hc
  intro fr hd B w0 G w xs hs ha
  refine calls_of_wp hf hb ?_
  have he : EnvRel G fn.ntmps (argEnv args) { tmps := xs.toArray ++ Array.replicate (fn.ntmps - xs.toArray.size) undef, defers := [] } := by
    have hlen : xs.length = args.length := ha.1
    have hl' : args.length ≤ fn.ntmps := hl
    refine ⟨by simp; omega, rfl, fun t ht => ?_⟩
    rw [argEnv_getD]
    by_cases hta : t < args.length
    · have := ha.2 t hta
      have e : (xs.toArray ++ Array.replicate (fn.ntmps - xs.toArray.size) undef).getD t undef = xs.getD t undef := by
        rw [Array.getD_eq_getD_getElem?, Array.getElem?_append_left (by simp; omega), List.getD_eq_getElem?_getD]
        simp
      rw [e]
      exact this
    · rw [List.getD_eq_getElem?_getD, List.getElem?_eq_none (by omega)]
      exact .junk _
  refine wp_mono (code_sound hm c pc h1 _ he hs (vc_beside pc _ _ _ hd h)) fun e a w' hq => ?_
  have fin : ∀ (Q : Env → St → Prop), (∀ env st', Q env st' → match resV env st' rs with | some v => ∃ s, St.sub s st' ∧ R v s | none => False) → Stands B w0 G fn.ntmps (Beside fr Q) a w' → a.defers = [] ∧ ∃ v, (results fn a.tmps).run P w' = .ok v w' ∧ ∃ v' x G' st', Ending.returned v = .returned x ∧ G.le G' ∧ VRel G' v' x ∧ Disj st' fr ∧ StRel B w0 G' (st'.add fr) w' ∧ R v' st' := by
    rintro Q hQ ⟨G1, env1, st1, g1, g2, g3, st2, g4, rfl, g5⟩
    have h5 := hQ _ _ g5
    split at h5 <;> try exact h5.elim
    rename_i v hv
    obtain ⟨s, hsub, hR⟩ := h5
    obtain ⟨x, h6, h7⟩ := results_run g2 (g3.sub (sub_add st2 fr)) h2 hv
    exact ⟨g2.2.1, x, h6, v, x, G1, s, rfl, g1, h7, g4.sub hsub, g3.sub (sub_add_sub hsub g4), hR⟩
  cases e with
  | normal => exact fin _ (fun env st' hq => hq.2) hq
  | ret => exact fin _ (fun env st' hq => hq.2) hq
  | exit id =>
    obtain ⟨G1, env1, st1, g1, g2, g3, st2, g4, rfl, g5⟩ := hq
    rcases g5.1 with e | e <;> cases e
  | goto l => exact hq.elim
  | panic c => exact hq.elim
  | outgrown => exact hq.elim
end
end Go.Ab
