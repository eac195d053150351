/-
  One operation of the machine's code under what is to be shown of it.
-/
import Derived.Test.YtpmfkckookkgmaaAbStep3
set_option linter.unusedSimpArgs false
set_option linter.unusedVariables false
namespace Go.Ab
open Go Go.RowKit

/-- Operations that change nothing. -/
def pureP : POp → Bool
  | .store .. | .mset .. | .mdel .. | .mkmap | .alloc _ | .box _ | .bsl true .. | .mksl .. | .app .. | .clear .. | .call .. | .callv .. | .rngStr _ | .nextStr _ | .rngMap _ | .nextMap _ | .appz .. => false
  | _ => true

section
variable {P : Program} {B : Nat} {w0 : World} {G : Gh} {st : St} {w : World} {n : Nat} {env : Env} {a : Act} {an : An}

theorem stepP_pure {p : POp} (hp : pureP p = true) {K : V → St → Prop} (h : stepP P p env st K) : ∃ v, opV p env st = some v ∧ K v st := by
  have key : (match opV p env st with | some v => K v st | none => False) → ∃ v, opV p env st = some v ∧ K v st := by
    intro h
    cases hv : opV p env st with
    | none => rw [hv] at h; exact h.elim
    | some v => rw [hv] at h; exact ⟨v, rfl, h⟩
  cases p <;> first
    | exact key h
    | (simp only [pureP] at hp; cases hp; done)
    | skip
  · rename_i obj sz nn zero parts
    cases obj with
    | true => simp only [pureP] at hp; cases hp
    | false => exact key h

theorem wp_of_gives {o : Oper} {next : Act → World → Prop} {Q : Exit → Act → World → Prop} {v : V} (h : Gives P B w0 G st v ((execOp a.eval o).run P w))
    (hn : ∀ x G' w', G.le G' → VRel G' v x → StRel B w0 G' st w' → next (a.put o.dst x) w') : o.wp P a w next Q := by
  obtain ⟨x, w', G', h1, h2, h3, h4⟩ := h
  unfold Oper.wp
  rw [h1]
  exact hn x G' w' h2 h3 h4

theorem wp_of_value {o : Oper} {next : Act → World → Prop} {Q : Exit → Act → World → Prop} {x : Value} {w' : World} (h : (execOp a.eval o).run P w = .ok (.value x) w') (hn : next (a.put o.dst x) w') : o.wp P a w next Q := by
  unfold Oper.wp
  rw [h]
  exact hn

theorem wp_of_skip {o : Oper} {next : Act → World → Prop} {Q : Exit → Act → World → Prop} {w' : World} (h : (execOp a.eval o).run P w = .ok .skip w') (hn : next (a.put o.dst undef) w') : o.wp P a w next Q := by
  unfold Oper.wp
  rw [h]
  exact hn

theorem run_unit {s : Sem Unit} {w w' : World} (h : s.run P w = .ok () w') : ((do s; pure Next.skip) : Sem Next).run P w = .ok .skip w' := by
  simp [h]

theorem okFn_call {f : FuncId} (h : okFn P f = true) (args : Array Value) : (callFunc f args).run P w = .ok (.enter f args) w := by
  unfold okFn at h
  cases hf : P.funcs[f]? with
  | none => rw [hf] at h; cases h
  | some fn =>
    rw [hf] at h
    simp only [Option.any_some, Bool.and_eq_true, bne_iff_ne, ne_eq] at h
    obtain ⟨c, hc⟩ := Option.isSome_iff_exists.1 h.2
    simp [callFunc, hf, h.1, hc]

theorem St.add_none (st : St) : st.add (fun _ => none) = st := by
  funext i
  simp only [St.add]
  cases st i <;> rfl

theorem call_wp {f : FuncId} {args : List V} {xs : List Value} {K : V → St → Prop} (hs : StRel B w0 G st w) (hl : LRel G args xs) (h : ACalls P f args st K) {o : Oper} {next : Act → World → Prop} {Q : Exit → Act → World → Prop}
    (hrun : (execOp a.eval o).run P w = .ok (.enter f xs.toArray) w) (hn : ∀ v x G' st' w', G.le G' → VRel G' v x → StRel B w0 G' st' w' → K v st' → next (a.put o.dst x) w') : o.wp P a w next Q := by
  unfold Oper.wp
  rw [hrun]
  refine (h (fun _ => none) (fun _ => .inr rfl) B w0 G w xs (by rw [St.add_none]; exact hs) hl).mono fun e w' ⟨v, x, G', st', he, h1, h2, _, h3, h4⟩ => ?_
  subst he
  rw [St.add_none] at h3
  exact hn v x G' st' w' h1 h2 h3 h4

theorem natOf_run {v : V} {x : Value} (hv : VRel G v x) {k : Nat} (h : natOf v = some k) : ∃ kd : IntKind, x = .int kd (k : Int) := by
  obtain ⟨kd, i, rfl, h0, h1⟩ := natOf_rel hv h
  exact ⟨kd, by rw [← h1, Int.toNat_of_nonneg h0]⟩

theorem repV_add (z : List V) (d : Nat) : ∀ k, repV z (k + d) = repV z k ++ repV z d
  | 0 => by simp [repV]
  | k + 1 => by rw [show k + 1 + d = (k + d) + 1 by omega]; simp only [repV, repV_add z d k, List.append_assoc]

theorem take_repV (z : List V) {k c : Nat} (h : k ≤ c) : (repV z c).take (k * z.length) = repV z k := by
  obtain ⟨d, rfl⟩ := Nat.exists_eq_add_of_le h
  rw [repV_add, ← length_repV, List.take_left]

theorem mksl_sound (hs : StRel B w0 G st w) {t e : TypeId} {i : TypeInfo} {zs : List V} (ht : P.underlying t = some (.slice e)) (hi : P.info? e = some i) (hz : zeroOf P e = some zs) {v1 v2 : V} {x y : Value} (h1 : VRel G v1 x) (h2 : VRel G v2 y) {k c : Nat} (hk : natOf v1 = some k) (hc : natOf v2 = some c)
    (hle : k ≤ c) (hb : c * i.bytes ≤ 140737488355328) (hzl : zs.length = i.size) (hc63 : c ≤ 9223372036854775807) :
    (∃ r w' G', (Instr.makeSlice t x y).run P w = .ok r w' ∧ G.le G' ∧ VRel G' (.sl .some (repV zs k) k) r ∧ StRel B w0 G' st w') ∧
    ∃ r w' G', (Instr.makeSlice t x y).run P w = .ok r w' ∧ st G.N = none ∧ G.le G' ∧ VRel G' (.hsl G.N 0 i.size k) r ∧ StRel B w0 G' (st.upd G.N (.cells (repV zs k))) w' := by
  obtain ⟨kd, rfl⟩ := natOf_run h1 hk
  obtain ⟨kd2, rfl⟩ := natOf_run h2 hc
  obtain ⟨i', z, g1, g2, g3⟩ := zeroOf_rel (G := G) hz
  rw [hi] at g1
  cases g1
  have hzs : z.cells.size = i.size := by have := g3.length; simp at this; omega
  have hb' : (i.bytes : Int) * (c : Int) ≤ 281474976710656 := by
    have : ((c * i.bytes : Nat) : Int) ≤ 140737488355328 := by omega
    rw [Int.natCast_mul] at this
    rw [Int.mul_comm]
    omega
  have hrun := run_make (P := P) w t e i z ht hi g2 kd kd2 (k : Int) (c : Int) (by omega) (by omega) hb' (by omega)
  simp only [Int.toNat_natCast] at hrun
  have hmade : (madeCells z.cells (c * i.size)) = zerosX z.cells (c * i.size) := rfl
  have hrel := zerosX_rel g3 c
  rw [hzs] at hrel
  have hsplit : (zerosX z.cells (c * i.size)).toList = (zerosX z.cells (c * i.size)).toList.take (k * i.size) ++ (zerosX z.cells (c * i.size)).toList.drop (k * i.size) := (List.take_append_drop _ _).symm
  have hpart : CRel G (repV zs k) ((zerosX z.cells (c * i.size)).toList.take (k * i.size)) := by
    have h1 := hrel.take (k * i.size)
    have h2 : (repV zs c).take (k * i.size) = repV zs k := by
      rw [← hzl]
      exact take_repV zs hle
    rw [h2] at h1
    exact h1
  rw [hmade] at hrun
  have harr : zerosX z.cells (c * i.size) = ((zerosX z.cells (c * i.size)).toList.take (k * i.size) ++ (zerosX z.cells (c * i.size)).toList.drop (k * i.size)).toArray := by
    apply Array.ext'
    simp
  rw [harr] at hrun
  constructor
  · obtain ⟨q1, q2⟩ := hs.addPm ((zerosX z.cells (c * i.size)).toList.take (k * i.size)) e (0, 0) ((zerosX z.cells (c * i.size)).toList.drop (k * i.size))
    refine ⟨_, _, _, hrun, q1, ?_, q2⟩
    refine .sl .some _ _ w.heap.size 0 _ (by simp) hle (fun e => by cases e) (fun j => ((zerosX z.cells (c * i.size)).toList.take (k * i.size)).getD j undef) (fun j hj => ?_) (fun j hj => (hpart.val j hj).mono q1) (fun j hj => hpart.one j hj)
    have := hpart.length
    rw [Gh.addPm_new, Nat.zero_add, List.getD_eq_getElem?_getD, List.getElem?_eq_getElem (by omega)]
    rfl
  · obtain ⟨q1, q2⟩ := hs.newCells (ys := (zerosX z.cells (c * i.size)).toList.drop (k * i.size)) hpart e
    refine ⟨_, _, _, hrun, q1, G.addObj_le _, .hsl G.N 0 i.size k w.heap.size _ _ c 0 (G.addObj_new _) hle ?_ ?_ (fun _ => rfl), q2⟩
    · rw [← List.length_append, List.take_append_drop]
      simp [zerosX]
    · rw [length_repV, hzl, Nat.zero_add]
      exact Nat.mul_le_mul_right _ hle

theorem clear_sound (hs : StRel B w0 G st w) {id off sz nn : Nat} {cs : List V} {x : Value} (hx : VRel G (.hsl id off sz nn) x) (hst : st id = some (.cells cs)) {t e ty : TypeId} {zs : List V} (ht : P.underlying t = some (.slice e)) (hz : zeroOf P e = some zs) (hzl : zs.length = sz) (hfit : off + nn * sz ≤ cs.length) :
    ∃ w', (Builtin.clear_ #[t] ty #[x]).run P w = .ok (.tuple #[]) w' ∧ StRel B w0 G (st.upd id (.cells (spliceV cs off (repV zs nn)))) w' := by
  obtain ⟨i, z, g1, g2, g3⟩ := zeroOf_rel (G := G) hz
  cases hx with
  | hsl _ _ _ _ b l m cap o hι hn hm hl ho =>
    obtain ⟨b', l', m', k1, k2, C, T, k3, k4, k5, k6, k7, k8⟩ := hs.obj id _ hst
    rw [hι] at k1
    obtain ⟨rfl, rfl, rfl⟩ : b = b' ∧ l = l' ∧ m = m' := by cases k1; exact ⟨rfl, rfl, rfl⟩
    have hrel := zerosX_rel g3 nn
    have hzsz : z.cells.size = sz := by have := g3.length; simp at this; omega
    have hzc : Builtin.zeroCells z.cells nn = zerosX z.cells (nn * z.cells.size) := rfl
    have hlen := hrel.length
    rw [length_repV, hzl] at hlen
    have hsp := hs.splice hst hι k3 hrel (o := off) (by rw [length_repV, hzl]; exact hfit)
    rcases Nat.eq_zero_or_pos nn with h0 | h0
    · subst h0
      refine ⟨w, ?_, ?_⟩
      · simp [Builtin.clear_, run_underlying ht]
      · have : (zerosX z.cells (0 * z.cells.size)).toList = [] := List.eq_nil_of_length_eq_zero (by rw [hlen, Nat.zero_mul])
        rw [this] at hsp
        simp only [List.append_nil, List.length_nil, Nat.add_zero, List.take_append_drop, Array.toArray_toList] at hsp
        rw [setRow_self w b C T (0, 0) k3] at hsp
        exact hsp
    · have hoff := ho (by omega)
      subst hoff
      refine ⟨_, ?_, hsp⟩
      have hrun := run_storeCells_at P b o T (zerosX z.cells (nn * z.cells.size)).toList 0 C w k3 (by rw [hlen]; omega) hrel.2
      simp only [Nat.add_zero] at hrun
      obtain ⟨q, rfl⟩ : ∃ q, nn = q + 1 := ⟨nn - 1, by omega⟩
      simp only [Builtin.clear_, List.getElem?_toArray, List.getElem?_cons_zero, Sem.run_bind, run_underlying ht, Result.andThen_ok, run_zeroValue g1 g2, hzc, hrun, Sem.run_pure]

end
end Go.Ab
