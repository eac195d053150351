/-
  Operations that write, that make objects, and calls.
-/
import Derived.Test.YtpmfkckookkgmaaAbStep2
set_option linter.unusedSimpArgs false
set_option linter.unusedVariables false
namespace Go.Ab
open Go Go.RowKit

section
variable {P : Program} {B : Nat} {w0 : World} {G : Gh} {st : St} {w : World} {n : Nat} {env : Env} {a : Act} {an : An}

/-- Some cells of an object's block are written. -/
theorem StRel.splice (h : StRel B w0 G st w) {id b l m o : Nat} {cs vs : List V} {xs : List Value} {C : Array Value} {T : TypeId} (hid : st id = some (.cells cs)) (hι : G.ι id = some (b, l, m)) (hb : w.heap[b]? = some (.cells C T (0, 0)))
    (hv : CRel G vs xs) (ho : o + vs.length ≤ cs.length) :
    StRel B w0 G (st.upd id (.cells (spliceV cs o vs))) (w.setRow b (C.toList.take o ++ xs ++ C.toList.drop (o + xs.length)).toArray) := by
  obtain ⟨b', l', m', k1, k2, C', T', k3, k4, k5, k6, k7, k8⟩ := h.obj id _ hid
  rw [hι] at k1
  cases k1
  rw [hb] at k3
  cases k3
  have hlen := hv.length
  have hrow := setRow_heap w b C (C.toList.take o ++ xs ++ C.toList.drop (o + xs.length)).toArray T (0, 0) hb
  refine h.setObj hid (fun cs e => by cases e) hι rfl rfl rfl ?_ (fun k hk => setRow_other w b k _ hk) k8 ⟨_, T, hrow, ?_, ?_, k6, ?_, k8⟩
  · simp [World.setRow]
  · simp; omega
  · rw [length_spliceV ho]; exact k5
  · have hC : CRel G cs (C.toList.take l) := CRel.mk (by simp; omega) (fun i hi => by rw [getD_take _ _ _ _ (by omega), ← getD_toList]; exact (k7 i hi).1)
      (fun i hi => by rw [getD_take _ _ _ _ (by omega), ← getD_toList]; exact (k7 i hi).2)
    have hsp := hC.splice hv o
    intro i hi
    rw [length_spliceV ho] at hi
    have h1 := hsp.val i (by rw [length_spliceV ho]; exact hi)
    have h2 := hsp.one i (by rw [length_spliceV ho]; exact hi)
    have e : (spliceX (C.toList.take l) o xs).getD i undef = (C.toList.take o ++ xs ++ C.toList.drop (o + xs.length)).toArray.getD i undef := by
      rw [getD_toList]
      simp only [spliceX, List.getD_eq_getElem?_getD, List.getElem?_append, List.getElem?_take, List.getElem?_drop, List.length_append, List.length_take, Array.length_toList]
      congr 1
      have : min o (min l C.size) = min o C.size := by omega
      simp only [this]
      split
      · split
        · split
          · rw [if_pos (by omega)]
          · rfl
        · rfl
      · rw [if_pos (by omega)]
    rw [e] at h1 h2
    exact ⟨h1, h2⟩

theorem setRow_other' (w : World) (g k : Nat) (cs : Array Value) (h : k ≠ g) : (w.setRow g cs).heap[k]? = w.heap[k]? := setRow_other w g k cs h

theorem store_sound (hs : StRel B w0 G st w) {t : TypeId} {sz : Nat} (hsz : szOf P t = some sz) {u v : V} {x y : Value} (hu : VRel G u x) (hv : VRel G v y) {st' : St} (h : storeS st sz u v = some st') :
    ∃ w', (Instr.storeAt t x y).run P w = .ok () w' ∧ StRel B w0 G st' w' := by
  cases hu <;> simp only [storeS] at h <;> try (cases h; done)
  rename_i id o b l m hι
  split at h <;> try (cases h; done)
  rename_i cs hst
  split at h <;> try (cases h; done)
  rename_i vs hvs
  split at h <;> cases h
  rename_i hb
  obtain ⟨b', l', m', k1, k2, C, T, k3, k4, k5, k6, k7, k8⟩ := hs.obj id _ hst
  rw [hι] at k1
  cases k1
  have hc := hv.cells hvs
  have hlen : y.cells.toList.length = sz := by rw [hc.length, hb.1]
  refine ⟨_, ?_, hs.splice hst hι k3 hc (by omega)⟩
  have hrun := run_storeCells_at P b o T y.cells.toList 0 C w k3 (by omega) hc.2
  simp only [Nat.add_zero] at hrun
  simp only [Instr.storeAt, Instr.sureAddr, Sem.run_bind, Sem.run_pure, Result.andThen_ok, storeVar, run_sizeOf hsz]
  rw [if_neg (by simpa using hlen)]
  exact hrun

/-- A new object of cells. -/
theorem StRel.newCells (h : StRel B w0 G st w) {cs : List V} {xs ys : List Value} (hc : CRel G cs xs) (T : TypeId) :
    st G.N = none ∧ StRel B w0 (G.addObj (w.heap.size, cs.length, xs.length + ys.length)) (st.upd G.N (.cells cs)) (w.alloc (.cells (xs ++ ys).toArray T)) := by
  have hle := G.addObj_le (w.heap.size, cs.length, xs.length + ys.length)
  refine h.addObj (.cells (xs ++ ys).toArray T) (.cells cs) cs.length (xs.length + ys.length) ⟨(xs ++ ys).toArray, T, heap_alloc_self _ _, by simp, rfl, by have := hc.length; omega, fun i hi => ?_, fun o => h.pm_lt (Nat.le_refl _) o⟩
  have hlen := hc.length
  have e : (xs ++ ys).toArray.getD i undef = xs.getD i undef := by
    rw [getD_toList]
    simp only [List.getD_eq_getElem?_getD, List.getElem?_append_left (show i < xs.length by omega)]
  rw [e]
  exact ⟨(hc.val i hi).mono hle, hc.one i hi⟩

theorem alloc_sound (hs : StRel B w0 G st w) {e : TypeId} {zs : List V} (hz : zeroOf P e = some zs) :
    ∃ x w' G', (Instr.alloc e true (.tuple #[])).run P w = .ok x w' ∧ st G.N = none ∧ G.le G' ∧ VRel G' (.ptr (some (G.N, 0))) x ∧ StRel B w0 G' (st.upd G.N (.cells zs)) w' := by
  obtain ⟨i, z, h1, h2, h3⟩ := zeroOf_rel (G := G) hz
  obtain ⟨g1, g2⟩ := hs.newCells (ys := []) h3 e
  simp only [List.append_nil, Array.toArray_toList, List.length_nil, Nat.add_zero] at g2
  refine ⟨.pointer (some ⟨w.heap.size, 0, none⟩), _, _, ?_, g1, G.addObj_le _, .ptr _ _ _ _ _ (G.addObj_new _), g2⟩
  simp only [Instr.alloc, Sem.run_bind, run_zeroValue h1 h2, Result.andThen_ok, newVar, newRow, run_newObj_alloc, Sem.run_pure]

theorem box_sound (hs : StRel B w0 G st w) {e : TypeId} {v : V} {y : Value} (hv : VRel G v y) {cs : List V} (hc : v.cells? = some cs) :
    ∃ x w' G', (Instr.box e y).run P w = .ok x w' ∧ st G.N = none ∧ G.le G' ∧ VRel G' (.ptr (some (G.N, 0))) x ∧ StRel B w0 G' (st.upd G.N (.cells cs)) w' := by
  obtain ⟨g1, g2⟩ := hs.newCells (ys := []) (hv.cells hc) e
  simp only [List.append_nil, Array.toArray_toList, List.length_nil, Nat.add_zero] at g2
  refine ⟨.pointer (some ⟨w.heap.size, 0, none⟩), _, _, ?_, g1, G.addObj_le _, .ptr _ _ _ _ _ (G.addObj_new _), g2⟩
  simp only [Instr.box, Sem.run_bind, newVar, newRow, run_newObj_alloc, Result.andThen_ok, Sem.run_pure]

theorem mkmap_sound (hs : StRel B w0 G st w) (t : TypeId) :
    ∃ x w' G', (Instr.makeMap t none).run P w = .ok x w' ∧ st G.N = none ∧ G.le G' ∧ VRel G' (.map (some G.N)) x ∧ StRel B w0 G' (st.upd G.N (.mp [])) w' := by
  obtain ⟨g1, g2⟩ := hs.addObj (.map #[] 0) (.mp []) 0 0 ⟨#[], 0, heap_alloc_self _ _, rfl, fun i hi => absurd hi (Nat.not_lt_zero _), by simp, by simp⟩
  refine ⟨.map (some w.heap.size), _, _, ?_, g1, G.addObj_le _, .map _ _ _ _ (G.addObj_new _), g2⟩
  simp [Instr.makeMap]

theorem bslo_sound (hs : StRel B w0 G st w) (he : EnvRel G n env a) {t e : TypeId} {len s : Nat} {zs cs : List V} {ops : Array (Nat × Operand)} {ps : List (Nat × Nat × X)} (hz : zeroOf P e = some zs) (hu : P.underlying t = some (.slice e))
    (hsz : szOf P e = some s) (hzl : zs.length = s) (hbig : len * s ≤ 16777216) (hp : parts1 n (fun i => some (i * s, s)) ops.toList = some ps)
    (hf : fillV (repV zs len) (ps.map fun p => (p.1, p.2.1, p.2.2.ev env)) = some cs) :
    ∃ x w' G', (Instr.buildSlice t len (ops.map fun (i, x) => (i, a.eval x))).run P w = .ok x w' ∧ st G.N = none ∧ G.le G' ∧ VRel G' (.hsl G.N 0 s len) x ∧ StRel B w0 G' (st.upd G.N (.cells cs)) w' := by
  obtain ⟨C, h1, h2⟩ := buildSlice_run (w := w) he hz hu hsz hzl hbig hp hf
  obtain ⟨g1, g2⟩ := hs.newCells (ys := []) h2 e
  simp only [List.append_nil, Array.toArray_toList, List.length_nil, Nat.add_zero] at g2
  have hfl : cs.length = len * s := by
    have key : ∀ (l : List (Nat × Nat × V)) (c c' : List V), fillV c l = some c' → c'.length = c.length := by
      intro l
      induction l with
      | nil => intro c c' h; cases h; rfl
      | cons q l ih =>
        intro c c' h
        obtain ⟨off, sz, v⟩ := q
        simp only [fillV] at h
        split at h <;> try (cases h; done)
        split at h <;> try (cases h; done)
        rename_i vs hvs hb
        rw [ih _ _ h, length_spliceV (by omega)]
    rw [key _ _ _ hf, length_repV, hzl]
  refine ⟨_, _, _, h1, g1, G.addObj_le _, .hsl _ 0 s len _ _ _ len 0 (G.addObj_new _) (Nat.le_refl _) ?_ ?_ (fun _ => rfl), g2⟩
  · have := h2.length
    omega
  · omega

/-- A block that no object and no known cell lies in is written. -/
theorem StRel.free (h : StRel B w0 G st w) {b : Nat} (hB : B ≤ b) (hno : ∀ id x, st id ≠ none → G.ι id ≠ some (b, x)) (hpm : ∀ o, G.pm b o = none) {w' : World}
    (hos : w'.os = w.os) (htape : w'.tape = w.tape) (hout : w'.output = w.output) (hsz : w'.heap.size = w.heap.size) (hk : ∀ k, k ≠ b → w'.heap[k]? = w.heap[k]?) : StRel B w0 G st w' := by
  refine ⟨⟨hos.trans h.below.os, htape.trans h.below.tape, hout.trans h.below.output, by rw [hsz]; exact h.below.size, fun k hkB => (hk k (by omega)).trans (h.below.block k hkB)⟩,
    by rw [hsz]; exact h.size, fun id b x e => by rw [hsz]; exact h.lt id b x e, fun c o v e => ?_, fun i o e => ?_, h.inj⟩
  · have hc : c ≠ b := fun e' => by
      rw [e', hpm o] at e
      cases e
    have := h.pm c o v e
    rw [← this]
    exact World.cell?_of_block (w := w) (a := ⟨c, o, none⟩) (hk c hc)
  · obtain ⟨c, l, m, j1, j2, j3⟩ := h.obj i o e
    refine ⟨c, l, m, j1, j2, j3.congr fun _ => hk c fun ec => ?_⟩
    exact hno i (l, m) (by rw [e]; simp) (by rw [j1, ec])

/-- An object in a block where there is none. -/
theorem StRel.addAt (h : StRel B w0 G st w) {b l m : Nat} {ob : AObj} (hB : B ≤ b) (hlt : b < w.heap.size) (hno : ∀ id x, st id ≠ none → G.ι id ≠ some (b, x)) (hob : ObjRel (G.addObj (b, l, m)) w b l m ob) :
    st G.N = none ∧ StRel B w0 (G.addObj (b, l, m)) (st.upd G.N ob) w := by
  have hN : st G.N = none := h.dom (G.fresh _ (Nat.le_refl _))
  have hle := G.addObj_le (b, l, m)
  refine ⟨hN, h.below, h.size, fun id c x e => ?_, h.pm, fun id ob' e => ?_, fun id id' c x x' h1 h2 e1 e2 => ?_⟩
  · by_cases hid : id = G.N
    · rw [hid, G.addObj_new] at e
      cases e
      exact hlt
    · rw [G.addObj_old _ hid] at e
      exact h.lt id c x e
  · by_cases hid : id = G.N
    · rw [hid, St.upd_same] at e
      cases e
      exact ⟨b, l, m, by rw [hid]; exact G.addObj_new _, hB, hob⟩
    · rw [St.upd_other _ _ hid] at e
      obtain ⟨c, l', m', k1, k2, k3⟩ := h.obj id ob' e
      exact ⟨c, l', m', hle.ι _ _ k1, k2, k3.mono hle (fun _ e => e)⟩
  · have key : ∀ id x, (st.upd G.N ob) id ≠ none → (G.addObj (b, l, m)).ι id = some (c, x) → (id = G.N ∧ c = b) ∨ (id ≠ G.N ∧ st id ≠ none ∧ G.ι id = some (c, x) ∧ c ≠ b) := by
      intro id x h1 e1
      by_cases hid : id = G.N
      · left
        refine ⟨hid, ?_⟩
        rw [hid, G.addObj_new] at e1
        cases e1
        rfl
      · right
        rw [G.addObj_old _ hid] at e1
        rw [St.upd_other _ _ hid] at h1
        exact ⟨hid, h1, e1, fun ec => hno id x h1 (by rw [e1, ec])⟩
    rcases key id x h1 e1 with ⟨k1, k2⟩ | ⟨k1, k2, k3, k4⟩ <;> rcases key id' x' h2 e2 with ⟨j1, j2⟩ | ⟨j1, j2, j3, j4⟩
    · rw [k1, j1]
    · exact absurd k2 j4
    · exact absurd j2 k4
    · exact h.inj id id' c x x' k2 j2 k3 j3

theorem St.del_ne {s : St} {id i : Nat} (h : (s.del id) i ≠ none) : i ≠ id ∧ s i ≠ none := by
  unfold St.del at h
  by_cases e : i = id
  · rw [if_pos e] at h; exact absurd rfl h
  · rw [if_neg e] at h; exact ⟨e, h⟩

/-- What is appended to: where it lies, and what is read. -/
theorem append_grow {x y : Value} {t u ty e : TypeId} {i : TypeInfo} {z : Value} {ao : Option Addr} {sLen sCap m : Nat} {olds news : List Value} (hx : x = .slice ao sLen sCap) (ht : P.underlying t = some (.slice e))
    (hu : (∃ e', P.underlying u = some (.slice e')) ∨ P.underlying u = some .string) (hi : P.info? e = some i) (hz : i.zero = some z) (hlen : (Builtin.lenOf y).run P w = .ok m w)
    (holds : (Builtin.firstCells i.size sLen x).run P w.drew = .ok olds.toArray w.drew) (hnews : (Builtin.firstCells i.size m y).run P w.drew = .ok news.toArray w.drew)
    (hg : sCap < sLen + m) (hb : 0 < i.bytes) (hfit : (sLen + m) * i.bytes ≤ 140737488355328) :
    (Builtin.append_ #[t, u] ty #[x, y]).run P w = .ok (.slice (some ⟨w.heap.size, 0, none⟩) (sLen + m) (grownCap w (sLen + m) sCap e))
      (w.drew.alloc (.cells (olds ++ (news ++ (Builtin.zeroCells z.cells (grownCap w (sLen + m) sCap e - (sLen + m))).toList)).toArray e)) := by
  subst hx
  have h63 : (sLen + m) ≤ 140737488355328 := Nat.le_trans (Nat.le_mul_of_pos_right _ hb) hfit
  have hn : ¬ (sLen + m ≤ sCap) := by omega
  have h63' : ¬ (9223372036854775807 < ((sLen : Int) + (m : Int))) := by omega
  have h48' : ¬ (281474976710656 < Builtin.nextslicecap (sLen + m) sCap * i.bytes) := by have := growslice_fits hg hfit; omega
  have fin : ∀ c : Nat, olds.toArray ++ news.toArray ++ Builtin.zeroCells z.cells (c - (sLen + m)) = (olds ++ (news ++ (Builtin.zeroCells z.cells (c - (sLen + m))).toList)).toArray := fun c => by
    apply Array.ext'
    simp
  have fin2 := fin (grownCap w (sLen + m) sCap e)
  rcases hu with ⟨e', hu⟩ | hu <;>
  · simp [Builtin.append_, run_underlying ht, run_underlying hu, sizeOf, typeInfo, zeroValue, hi, hz, hlen, hn, h63', h48', Question.forced, holds, hnews, newRow]
    rw [← fin2]
    unfold grownCap
    simp
    congr 2
    apply Array.ext'
    simp

theorem append_room {x y : Value} {t u ty e : TypeId} {i : TypeInfo} {ao : Option Addr} {sLen sCap m : Nat} {news : List Value} (hx : x = .slice ao sLen sCap) (ht : P.underlying t = some (.slice e))
    (hu : (∃ e', P.underlying u = some (.slice e')) ∨ P.underlying u = some .string) (hi : P.info? e = some i) (hlen : (Builtin.lenOf y).run P w = .ok m w)
    (hnews : (Builtin.firstCells i.size m y).run P w = .ok news.toArray w) (hg : sLen + m ≤ sCap) {w' : World}
    (hst : match ao with | some a => (storeCells (a.add (sLen * i.size)) news).run P w = .ok () w' | none => w' = w) :
    (Builtin.append_ #[t, u] ty #[x, y]).run P w = .ok (.slice ao (sLen + m) sCap) w' := by
  subst hx
  rcases hu with ⟨e', hu⟩ | hu <;>
  · cases ao with
    | none =>
      subst hst
      simp [Builtin.append_, run_underlying ht, run_underlying hu, sizeOf, typeInfo, hi, hlen, hg, hnews]
    | some ad =>
      simp only at hst
      simp [Builtin.append_, run_underlying ht, run_underlying hu, sizeOf, typeInfo, hi, hlen, hg, hnews, hst]

theorem compAppend_some {t u : TypeId} {x y : X} {p : POp} (h : compAppend P t u x y = some p) : ∃ e i z, P.underlying t = some (.slice e) ∧ ((∃ e', P.underlying u = some (.slice e')) ∨ P.underlying u = some .string) ∧
    P.info? e = some i ∧ i.zero = some z ∧ z.cells.size = i.size ∧ 0 < i.size ∧ 0 < i.bytes ∧ p = .app i.size i.bytes x y := by
  unfold compAppend at h
  split at h
  · rename_i e e' h1 h2
    split at h <;> try (cases h; done)
    rename_i i i' h3 h4
    split at h <;> cases h
    rename_i hc
    simp only [Bool.and_eq_true, decide_eq_true_eq] at hc
    obtain ⟨⟨⟨⟨c1, c2⟩, c3⟩, c4⟩, c5⟩ := hc
    obtain ⟨z, h5, h6⟩ := Option.map_eq_some_iff.1 c4
    exact ⟨e, i, z, h1, .inl ⟨_, h2⟩, h3, h5, h6, c1, c2, rfl⟩
  · rename_i e h1 h2
    split at h <;> try (cases h; done)
    rename_i i h3
    split at h <;> cases h
    rename_i hc
    simp only [Bool.and_eq_true, decide_eq_true_eq] at hc
    obtain ⟨⟨⟨c1, c2⟩, c3⟩, c4⟩ := hc
    obtain ⟨z, h5, h6⟩ := Option.map_eq_some_iff.1 c3
    exact ⟨e, i, z, h1, .inr h2, h3, h5, by rw [h6, c1], by omega, c2, rfl⟩
  · cases h

set_option maxHeartbeats 4000000 in
theorem app_sound (hs : StRel B w0 G st w) {t u ty e : TypeId} {i : TypeInfo} {z : Value} (ht : P.underlying t = some (.slice e)) (hu : (∃ e', P.underlying u = some (.slice e')) ∨ P.underlying u = some .string) (hi : P.info? e = some i) (hz : i.zero = some z) (hzs : z.cells.size = i.size)
    (hsz : 0 < i.size) (hby : 0 < i.bytes) {v1 v2 : V} {x y : Value} (h2 : VRel G v2 y) {ys : List V} {m : Nat} (hy : elems st i.size v2 = some (ys, m)) {K : V → St → Prop}
    (hK : match v1 with
      | .sl k cs n =>
        (k = .nil ∨ k = .full) ∧ cs.length = n * i.size ∧ (n + m) * i.bytes ≤ 140737488355328 ∧
        (m = 0 → K (.sl k cs n) st) ∧ (m ≠ 0 → ∀ id, st id = none → K (.hsl id 0 i.size (n + m)) (st.upd id (.cells (cs ++ ys))))
      | .hsl id off sz' n =>
        match st id with
        | some (.cells cs) =>
          sz' = i.size ∧ (n + m) * i.bytes ≤ 140737488355328 ∧
          if off + (n + m) * i.size ≤ cs.length then K (.hsl id off i.size (n + m)) (st.upd id (.cells (spliceV cs (off + n * i.size) ys)))
          else off = 0 ∧ cs.length = n * i.size ∧ ∀ id', (st.del id) id' = none → K (.hsl id' 0 i.size (n + m)) ((st.del id).upd id' (.cells (cs ++ ys)))
        | _ => False
      | _ => False) (h1 : VRel G v1 x) :
    ∃ r v w' G' st', (Builtin.append_ #[t, u] ty #[x, y]).run P w = .ok r w' ∧ G.le G' ∧ VRel G' v r ∧ StRel B w0 G' st' w' ∧ K v st' := by
  obtain ⟨l1, l2, ny, l3, l4⟩ := elems_rel (P := P) hs h2 hy
  have hsd := hs.ext (below_drew w)
  obtain ⟨_, _, nyd, d3, d4⟩ := elems_rel (P := P) hsd h2 hy
  -- the growing case, once
  have grow : ∀ (st2 : St) (cs : List V) (nn sCap : Nat) (ao : Option Addr) (olds : List Value), StRel B w0 G st2 w → x = .slice ao nn sCap → CRel G cs olds → cs.length = nn * i.size → (Builtin.firstCells i.size nn x).run P w.drew = .ok olds.toArray w.drew → sCap < nn + m → (nn + m) * i.bytes ≤ 140737488355328 →
      (∀ id, st2 id = none → K (.hsl id 0 i.size (nn + m)) (st2.upd id (.cells (cs ++ ys)))) → ∃ r v w' G' st', (Builtin.append_ #[t, u] ty #[x, y]).run P w = .ok r w' ∧ G.le G' ∧ VRel G' v r ∧ StRel B w0 G' st' w' ∧ K v st' := by
    intro st2 cs nn sCap ao olds hs2 hx hcs hcl hold hg hfit hk
    have hrun := append_grow (ty := ty) hx ht hu hi hz l1 hold d4 hg hby hfit
    have hs2d := hs2.ext (below_drew w)
    have hcat : CRel G (cs ++ ys) (olds ++ nyd) := hcs.append d3
    obtain ⟨g1, g2⟩ := hs2d.newCells (ys := (Builtin.zeroCells z.cells (grownCap w (nn + m) sCap e - (nn + m))).toList) hcat e
    have hge := grownCap_ge w (nn + m) sCap e
    have e1 : (olds ++ nyd ++ (Builtin.zeroCells z.cells (grownCap w (nn + m) sCap e - (nn + m))).toList) = olds ++ (nyd ++ (Builtin.zeroCells z.cells (grownCap w (nn + m) sCap e - (nn + m))).toList) := by rw [List.append_assoc]
    rw [e1] at g2
    have hsize : (olds ++ nyd).length + (Builtin.zeroCells z.cells (grownCap w (nn + m) sCap e - (nn + m))).toList.length = grownCap w (nn + m) sCap e * i.size := by
      have q1 := hcs.length
      have q2 := d3.length
      have q3 : (Builtin.zeroCells z.cells (grownCap w (nn + m) sCap e - (nn + m))).toList.length = (grownCap w (nn + m) sCap e - (nn + m)) * i.size := by rw [Array.length_toList, size_zeroCells, hzs]
      rw [List.length_append, q3, q1, hcl, q2, l2, ← Nat.add_mul, ← Nat.add_mul]
      congr 1
      omega
    have hlen : (cs ++ ys).length = (nn + m) * i.size := by rw [List.length_append, hcl, l2, Nat.add_mul]
    refine ⟨_, _, _, _, _, hrun, G.addObj_le _, .hsl G.N 0 i.size (nn + m) w.heap.size (cs ++ ys).length _ _ 0 (G.addObj_new _) hge (by rw [hsize]; omega) ?_ (fun _ => rfl), g2, hk _ g1⟩
    rw [hlen, Nat.zero_add]
    exact Nat.mul_le_mul_right _ hge
  cases v1 with
  | sl k cs nn =>
    obtain ⟨hk, hcl, hfit, hk0, hk1⟩ := hK
    obtain ⟨_, _, ox, o3, o4⟩ := elems_rel (P := P) hsd h1 (sz := i.size) (ys := cs) (m := nn) (by simp [elems, hcl])
    have hcap : ∃ ao, x = .slice ao nn nn := by
      cases h1 with
      | slnil _ hk => exact ⟨none, rfl⟩
      | slz a => exact ⟨some a, rfl⟩
      | sl _ _ _ b o cap hk2 hn hf f hp hw h1 =>
        rcases hk with rfl | rfl
        · exact absurd rfl hk2
        · exact ⟨_, by rw [hf rfl]⟩
    obtain ⟨ao, hx⟩ := hcap
    by_cases hm : m = 0
    · subst hm
      have hny : ny = [] := List.eq_nil_of_length_eq_zero (by rw [l3.length, l2, Nat.zero_mul])
      subst hny
      have hrun := append_room (ty := ty) (w' := w) hx ht hu hi l1 l4 (by omega) (by cases ao with | none => rfl | some ad => rfl)
      rw [hx] at h1
      exact ⟨_, _, w, G, st, hrun, G.le_refl, h1, hs, hk0 rfl⟩
    · exact grow st cs nn nn ao ox hs hx o3 hcl o4 (by omega) hfit (hk1 hm)
  | hsl id off sz' nn =>
    simp only at hK
    split at hK <;> try (exact hK.elim)
    rename_i cs hst
    obtain ⟨hss, hfit, hK⟩ := hK
    subst hss
    have hval := h1
    cases h1 with
    | hsl _ _ _ _ b l mm cap o hι hn hm hl ho =>
      obtain ⟨b', l', mm', k1, k2, C, T, k3, k4, k5, k6, k7, k8⟩ := hs.obj id _ hst
      rw [hι] at k1
      obtain ⟨rfl, rfl, rfl⟩ : b = b' ∧ l = l' ∧ mm = mm' := by cases k1; exact ⟨rfl, rfl, rfl⟩
      have hnl := l3.length
      -- there is room in the block
      have room : nn + m ≤ cap → ∀ (hfits : off + nn * i.size + ny.length ≤ C.size), (Builtin.append_ #[t, u] ty #[.slice (some ⟨b, o, none⟩) nn cap, y]).run P w = .ok (.slice (some ⟨b, o, none⟩) (nn + m) cap)
          (w.setRow b (C.toList.take (off + nn * i.size) ++ ny ++ C.toList.drop (off + nn * i.size + ny.length)).toArray) := by
        intro hr hfits
        by_cases hcap : cap = 0
        · have : nn = 0 ∧ m = 0 := by omega
          obtain ⟨rfl, rfl⟩ := this
          have hny : ny = [] := List.eq_nil_of_length_eq_zero (by rw [hnl, l2, Nat.zero_mul])
          subst hny
          have := append_room (ty := ty) (w' := w) (x := .slice (some ⟨b, o, none⟩) 0 cap) rfl ht hu hi l1 l4 (by omega) rfl
          rw [this]
          congr 1
          simp only [List.append_nil, List.length_nil, Nat.add_zero, List.take_append_drop, Array.toArray_toList]
          exact (setRow_self w b C T (0, 0) k3).symm
        · have hoff := ho hcap
          subst hoff
          have hst := run_storeCells_at P b (o + nn * i.size) T ny 0 C w k3 (by omega) l3.2
          simp only [Nat.add_zero] at hst
          exact append_room (ty := ty) rfl ht hu hi l1 l4 hr (by simp only [add_lit]; exact hst)
      split at hK
      · rename_i hin
        have hr : nn + m ≤ cap := by
          have : (nn + m) * i.size ≤ cap * i.size := by omega
          exact Nat.le_of_mul_le_mul_right this hsz
        have hmul : (nn + m) * i.size = nn * i.size + m * i.size := Nat.add_mul _ _ _
        have hfit2 : off + nn * i.size + ys.length ≤ cs.length := by omega
        refine ⟨_, _, _, G, _, room hr (by omega), G.le_refl, .hsl id off i.size (nn + m) b l mm cap o hι hr hm hl ho, hs.splice hst hι k3 l3 hfit2, hK⟩
      · rename_i hout
        obtain ⟨h0, hcl, hK⟩ := hK
        subst h0
        by_cases hr : nn + m ≤ cap
        · -- in the block's own room
          have hmul : (nn + m) * i.size = nn * i.size + m * i.size := Nat.add_mul _ _ _
          have hle : (nn + m) * i.size ≤ cap * i.size := Nat.mul_le_mul_right _ hr
          have hrun := room hr (by omega)
          have hs1 : StRel B w0 G (st.del id) w := hs.sub (sub_del st id)
          have hno : ∀ id' x, (st.del id) id' ≠ none → G.ι id' ≠ some (b, x) := fun id' x hne e => by
            obtain ⟨hne1, hne2⟩ := St.del_ne hne
            exact hne1 (hs.inj id' id b x (l, mm) hne2 (by rw [hst]; simp) e hι)
          have hrow := setRow_heap w b C (C.toList.take (0 + nn * i.size) ++ ny ++ C.toList.drop (0 + nn * i.size + ny.length)).toArray T (0, 0) k3
          have hs2 := hs1.free (w' := w.setRow b (C.toList.take (0 + nn * i.size) ++ ny ++ C.toList.drop (0 + nn * i.size + ny.length)).toArray) k2 hno k8 rfl rfl rfl (by simp [World.setRow]) (fun k hk => setRow_other' w b k _ hk)
          have hle2 := G.addObj_le (b, (cs ++ ys).length, mm)
          have hlen : (cs ++ ys).length = (nn + m) * i.size := by rw [List.length_append, hcl, l2, Nat.add_mul]
          have hC : CRel G cs (C.toList.take l) := CRel.mk (by simp; omega) (fun i hi => by rw [getD_take _ _ _ _ (by omega), ← getD_toList]; exact (k7 i hi).1)
            (fun i hi => by rw [getD_take _ _ _ _ (by omega), ← getD_toList]; exact (k7 i hi).2)
          have hcat := hC.append l3
          obtain ⟨g1, g2⟩ := hs2.addAt (b := b) (l := (cs ++ ys).length) (m := mm) (ob := .cells (cs ++ ys)) k2 (by simpa [World.setRow] using lt_of_heap k3) hno ⟨_, T, hrow, by simp; omega, rfl, by rw [hlen]; omega, fun j hj => by
            have e : (C.toList.take (0 + nn * i.size) ++ ny ++ C.toList.drop (0 + nn * i.size + ny.length)).toArray.getD j undef = (C.toList.take l ++ ny).getD j undef := by
              rw [getD_toList]
              simp only [Nat.zero_add, ← hcl, k5]
              rw [List.getD_eq_getElem?_getD, List.getElem?_append_left (by simp only [List.length_append, List.length_take, Array.length_toList]; rw [List.length_append] at hj; omega), ← List.getD_eq_getElem?_getD]
            rw [e]
            exact ⟨(hcat.val j hj).mono hle2, hcat.one j hj⟩, k8⟩
          refine ⟨_, _, _, _, _, hrun, hle2, .hsl G.N 0 i.size (nn + m) b (cs ++ ys).length mm cap o (G.addObj_new _) hr hm (by rw [hlen]; omega) ho, g2, hK _ g1⟩
        · obtain ⟨_, _, ox, o3, o4⟩ := elems_rel (P := P) hsd hval (sz := i.size) (ys := cs) (m := nn) (by
            simp only [elems, if_true, St.seg, hst, segOf, Nat.zero_add, ← hcl, Nat.le_refl, if_true, List.drop_zero, List.take_length, Option.map_some])
          exact grow (st.del id) cs nn cap _ ox (hs.sub (sub_del st id)) rfl o3 hcl o4 (by omega) hfit hK
  | _ => exact hK.elim

/-- An object, and all of its block, that nobody writes from now on. -/
theorem StRel.freezeAll (h : StRel B w0 G st w) {id b l m : Nat} {cs cs' : List V} {C : Array Value} {T : TypeId} (hid : st id = some (.cells cs)) (hι : G.ι id = some (b, l, m)) (hb : w.heap[b]? = some (.cells C T (0, 0)))
    (hlen : cs'.length = cs.length) (hv : ∀ i, i < cs'.length → ∀ G', G.le G' → VRel G' (cs'.getD i .junk) (C.getD i undef)) (h1 : ∀ i, i < cs'.length → (C.getD i undef).oneCell' = true) :
    G.le (G.addPm b C.toList) ∧ StRel B w0 (G.addPm b C.toList) (st.upd id (.ro cs')) w := by
  obtain ⟨b', l', m', k1, k2, C', T', k3, k4, k5, k6, k7, k8⟩ := h.obj id _ hid
  rw [hι] at k1
  cases k1
  rw [hb] at k3
  cases k3
  have hle := Gh.addPm_le (G := G) (b := b) k8 C.toList
  have hget : ∀ i, i < C.size → C.toList[i]? = some (C.getD i undef) := fun i hi => by
    rw [Array.getElem?_toList, Array.getD_eq_getD_getElem?, Array.getElem?_eq_getElem hi]
    rfl
  refine ⟨hle, h.below, h.size, h.lt, fun c o v e => ?_, fun i o e => ?_, fun i i' c x x' h1 h2 e1 e2 => ?_⟩
  · by_cases hc : c = b
    · subst hc
      rw [Gh.addPm_new] at e
      simp only [World.cell?, hb, Option.isSome_none, Bool.false_eq_true, if_false]
      rw [← e, Array.getElem?_toList]
    · exact h.pm c o v (by simpa [Gh.addPm, hc] using e)
  · by_cases hi : i = id
    · subst hi
      rw [St.upd_same] at e
      cases e
      exact ⟨b, l, m, hι, k2, hlen.trans k5, fun j hj => ⟨C.getD j undef, by rw [Gh.addPm_new]; exact hget j (by omega), hv j hj _ hle, h1 j hj⟩⟩
    · rw [St.upd_other _ _ hi] at e
      obtain ⟨c, l', m', j1, j2, j3⟩ := h.obj i o e
      refine ⟨c, l', m', j1, j2, j3.mono hle fun o' ho' => ?_⟩
      show (if c = b then C.toList[o']? else G.pm c o') = none
      rw [if_neg]
      · exact ho'
      · intro ec
        exact hi (h.inj i id c (l', m') (l, m) (by rw [e]; simp) (by rw [hid]; simp) j1 (by rw [ec]; exact hι))
  · have key : ∀ i, (st.upd id (.ro cs')) i ≠ none → st i ≠ none := fun i hi => by
      by_cases e : i = id
      · rw [e, hid]; simp
      · rw [St.upd_other _ _ e] at hi
        exact hi
    exact h.inj i i' c x x' (key i h1) (key i' h2) e1 e2

/-- What is written into an object's block behind a place of which nothing is known any more. -/
theorem StRel.beyond (h : StRel B w0 G st w) {id b l m : Nat} {cs cs' : List V} {C C' : Array Value} {T : TypeId} (hid : st id = some (.cells cs)) (hι : G.ι id = some (b, l, m)) (hb : w.heap[b]? = some (.cells C T (0, 0)))
    (hsz : C'.size = C.size) (hlen : cs'.length = cs.length) (hv : ∀ i, i < cs'.length → VRel G (cs'.getD i .junk) (C'.getD i undef) ∧ (C'.getD i undef).oneCell' = true) :
    StRel B w0 G (st.upd id (.cells cs')) (w.setRow b C') := by
  obtain ⟨b', l', m', k1, k2, D, T', k3, k4, k5, k6, k7, k8⟩ := h.obj id _ hid
  rw [hι] at k1
  cases k1
  rw [hb] at k3
  cases k3
  have hrow := setRow_heap w b C C' T (0, 0) hb
  exact h.setObj hid (fun cs e => by cases e) hι rfl rfl rfl (by simp [World.setRow]) (fun k hk => setRow_other w b k _ hk) k8 ⟨C', T, hrow, hsz.trans k4, hlen.trans k5, k6, hv, k8⟩

set_option maxHeartbeats 4000000 in
theorem appz_sound (hs : StRel B w0 G st w) {t u ty e : TypeId} {i : TypeInfo} {z : Value} (ht : P.underlying t = some (.slice e)) (hu : (∃ e', P.underlying u = some (.slice e')) ∨ P.underlying u = some .string) (hi : P.info? e = some i) (hz : i.zero = some z) (hzs : z.cells.size = i.size)
    (hsz : 0 < i.size) (hby : 0 < i.bytes) {v1 v2 : V} {x y : Value} (h2 : VRel G v2 y) {ys : List V} {m : Nat} (hy : elems st i.size v2 = some (ys, m)) {K : V → St → Prop}
    (hK : match v1 with
      | .sl k cs n =>
        (k = .nil ∨ k = .full) ∧ cs.length = n * i.size ∧ (n + m) * i.bytes ≤ 140737488355328 ∧ (m = 0 → K (.sl k cs n) st) ∧ (m ≠ 0 → K (.sl .some (cs ++ ys) (n + m)) st)
      | .hsl id off sz' n =>
        match st id with
        | some (.cells cs) =>
          sz' = i.size ∧ (n + m) * i.bytes ≤ 140737488355328 ∧ off = 0 ∧ n * i.size ≤ cs.length ∧
          K (.sl .some (cs.take (n * i.size) ++ ys) (n + m)) (st.upd id (.ro (cs.take (n * i.size) ++ List.replicate (cs.length - n * i.size) .junk)))
        | _ => False
      | _ => False) (h1 : VRel G v1 x) :
    ∃ r v w' G' st', (Builtin.append_ #[t, u] ty #[x, y]).run P w = .ok r w' ∧ G.le G' ∧ VRel G' v r ∧ StRel B w0 G' st' w' ∧ K v st' := by
  obtain ⟨l1, l2, ny, l3, l4⟩ := elems_rel (P := P) hs h2 hy
  have hsd := hs.ext (below_drew w)
  obtain ⟨_, _, nyd, d3, d4⟩ := elems_rel (P := P) hsd h2 hy
  -- the growing case, once
  have grow : ∀ (G2 : Gh) (st2 : St) (cs : List V) (nn sCap : Nat) (ao : Option Addr) (olds : List Value), G.le G2 → StRel B w0 G2 st2 w → x = .slice ao nn sCap → CRel G cs olds → cs.length = nn * i.size → (Builtin.firstCells i.size nn x).run P w.drew = .ok olds.toArray w.drew → sCap < nn + m → (nn + m) * i.bytes ≤ 140737488355328 →
      K (.sl .some (cs ++ ys) (nn + m)) st2 → ∃ r v w' G' st', (Builtin.append_ #[t, u] ty #[x, y]).run P w = .ok r w' ∧ G.le G' ∧ VRel G' v r ∧ StRel B w0 G' st' w' ∧ K v st' := by
    intro G2 st2 cs nn sCap ao olds hle2 hs2 hx hcs hcl hold hg hfit hk
    have hrun := append_grow (ty := ty) hx ht hu hi hz l1 hold d4 hg hby hfit
    have hs2d := hs2.ext (below_drew w)
    have hcat : CRel G (cs ++ ys) (olds ++ nyd) := hcs.append d3
    obtain ⟨g1, g2⟩ := hs2d.addPm (olds ++ nyd) e (0, 0) ((Builtin.zeroCells z.cells (grownCap w (nn + m) sCap e - (nn + m))).toList)
    have hge := grownCap_ge w (nn + m) sCap e
    rw [List.append_assoc] at g2
    have hlen := hcat.length
    refine ⟨_, _, _, _, _, hrun, Gh.le_trans hle2 g1, ?_, g2, hk⟩
    refine .sl .some _ _ w.heap.size 0 _ (by simp) hge (fun e => by cases e) (fun j => (olds ++ nyd).getD j undef) (fun j hj => ?_) (fun j hj => (hcat.val j hj).mono (Gh.le_trans hle2 g1)) (fun j hj => hcat.one j hj)
    rw [show w.heap.size = w.drew.heap.size from rfl, Gh.addPm_new, Nat.zero_add, List.getD_eq_getElem?_getD, List.getElem?_eq_getElem (by omega)]
    rfl
  cases v1 with
  | sl k cs nn =>
    obtain ⟨hk, hcl, hfit, hk0, hk1⟩ := hK
    obtain ⟨_, _, ox, o3, o4⟩ := elems_rel (P := P) hsd h1 (sz := i.size) (ys := cs) (m := nn) (by simp [elems, hcl])
    have hcap : ∃ ao, x = .slice ao nn nn := by
      cases h1 with
      | slnil _ hk => exact ⟨none, rfl⟩
      | slz a => exact ⟨some a, rfl⟩
      | sl _ _ _ b o cap hk2 hn hf f hp hw h1 =>
        rcases hk with rfl | rfl
        · exact absurd rfl hk2
        · exact ⟨_, by rw [hf rfl]⟩
    obtain ⟨ao, hx⟩ := hcap
    by_cases hm : m = 0
    · subst hm
      have hny : ny = [] := List.eq_nil_of_length_eq_zero (by rw [l3.length, l2, Nat.zero_mul])
      subst hny
      have hrun := append_room (ty := ty) (w' := w) hx ht hu hi l1 l4 (by omega) (by cases ao with | none => rfl | some ad => rfl)
      rw [hx] at h1
      exact ⟨_, _, w, G, st, hrun, G.le_refl, h1, hs, hk0 rfl⟩
    · exact grow G st cs nn nn ao ox G.le_refl hs hx o3 hcl o4 (by omega) hfit (hk1 hm)
  | hsl id off sz' nn =>
    simp only at hK
    split at hK <;> try (exact hK.elim)
    rename_i cs hst
    obtain ⟨hss, hfit, h0, hcl, hK⟩ := hK
    subst hss
    subst h0
    have hval := h1
    cases h1 with
    | hsl _ _ _ _ b l mm cap o hι hn hm hl ho =>
      obtain ⟨b', l', mm', k1, k2, C, T, k3, k4, k5, k6, k7, k8⟩ := hs.obj id _ hst
      rw [hι] at k1
      obtain ⟨rfl, rfl, rfl⟩ : b = b' ∧ l = l' ∧ mm = mm' := by cases k1; exact ⟨rfl, rfl, rfl⟩
      have hnl := l3.length
      have hCl : CRel G cs (C.toList.take l) := CRel.mk (by simp; omega) (fun i hi => by rw [getD_take _ _ _ _ (by omega), ← getD_toList]; exact (k7 i hi).1)
        (fun i hi => by rw [getD_take _ _ _ _ (by omega), ← getD_toList]; exact (k7 i hi).2)
      have hjl : (cs.take (nn * i.size) ++ List.replicate (cs.length - nn * i.size) V.junk).length = cs.length := by simp; omega
      have hjunk : ∀ j, j < cs.length → (cs.take (nn * i.size) ++ List.replicate (cs.length - nn * i.size) V.junk).getD j .junk = if j < nn * i.size then cs.getD j .junk else .junk := fun j hj => by
        simp only [List.getD_eq_getElem?_getD, List.getElem?_append, List.length_take, List.getElem?_take]
        split
        · rename_i h1
          rw [if_pos (by omega), if_pos (by omega)]
        · rename_i h1
          rw [if_neg (by omega)]
          simp only [List.getElem?_replicate]
          split <;> rfl
      by_cases hr : nn + m ≤ cap
      · -- in the block's own room
        have hmul : (nn + m) * i.size = nn * i.size + m * i.size := Nat.add_mul _ _ _
        have hle : (nn + m) * i.size ≤ cap * i.size := Nat.mul_le_mul_right _ hr
        have hfits : nn * i.size + ny.length ≤ C.size := by omega
        let C' : Array Value := (C.toList.take (nn * i.size) ++ ny ++ C.toList.drop (nn * i.size + ny.length)).toArray
        have hC' : C'.size = C.size := by simp [C']; omega
        have hlow : ∀ j, j < nn * i.size → C'.getD j undef = C.getD j undef := fun j hj => by
          rw [getD_toList, getD_toList]
          simp only [C', List.getD_eq_getElem?_getD, List.append_assoc]
          rw [List.getElem?_append_left (by simp; omega), List.getElem?_take, if_pos hj]
        have hmid : ∀ j, j < ny.length → C'.getD (nn * i.size + j) undef = ny.getD j undef := fun j hj => by
          rw [getD_toList]
          simp only [C', List.getD_eq_getElem?_getD, List.append_assoc]
          rw [List.getElem?_append_right (by simp; omega), List.getElem?_append_left (by simp; omega)]
          congr 2
          simp; omega
        have hone : ∀ j, j < C.size → l ≤ j → True := fun _ _ _ => trivial
        have hcells : ∀ j, j < cs.length → (C'.getD j undef).oneCell' = true := fun j hj => by
          by_cases h1 : j < nn * i.size
          · rw [hlow j h1]; exact (k7 j hj).2
          · by_cases h2 : j < nn * i.size + ny.length
            · rw [show j = nn * i.size + (j - nn * i.size) by omega, hmid _ (by omega)]
              exact l3.one _ (by omega)
            · have : C'.getD j undef = C.getD j undef := by
                rw [getD_toList, getD_toList]
                simp only [C', List.getD_eq_getElem?_getD, List.append_assoc]
                rw [List.getElem?_append_right (by simp; omega), List.getElem?_append_right (by simp; omega), List.getElem?_drop]
                congr 2
                simp; omega
              rw [this]; exact (k7 j hj).2
        have hvals : ∀ j, j < (cs.take (nn * i.size) ++ List.replicate (cs.length - nn * i.size) V.junk).length → VRel G ((cs.take (nn * i.size) ++ List.replicate (cs.length - nn * i.size) V.junk).getD j .junk) (C'.getD j undef) ∧ (C'.getD j undef).oneCell' = true := fun j hj => by
          rw [hjl] at hj
          refine ⟨?_, hcells j hj⟩
          rw [hjunk j hj]
          split
          · rename_i h1
            rw [hlow j h1]; exact (k7 j hj).1
          · exact .junk _
        have hrun : (Builtin.append_ #[t, u] ty #[.slice (some ⟨b, o, none⟩) nn cap, y]).run P w = .ok (.slice (some ⟨b, o, none⟩) (nn + m) cap) (w.setRow b C') := by
          by_cases hcap : cap = 0
          · have : nn = 0 ∧ m = 0 := by omega
            obtain ⟨rfl, rfl⟩ := this
            have hny : ny = [] := List.eq_nil_of_length_eq_zero (by rw [hnl, l2, Nat.zero_mul])
            subst hny
            have := append_room (ty := ty) (w' := w) (x := .slice (some ⟨b, o, none⟩) 0 cap) rfl ht hu hi l1 l4 (by omega) rfl
            rw [this]
            congr 1
            have hCC : C' = C := by
              simp only [C', List.append_nil, List.length_nil, Nat.add_zero, List.take_append_drop, Array.toArray_toList]
            rw [hCC]
            exact (setRow_self w b C T (0, 0) k3).symm
          · have hoff := ho hcap
            subst hoff
            have hst := run_storeCells_at P b (0 + nn * i.size) T ny 0 C w k3 (by omega) l3.2
            simp only [Nat.add_zero, Nat.zero_add] at hst
            exact append_room (ty := ty) rfl ht hu hi l1 l4 hr (by simp only [add_lit, Nat.zero_add]; exact hst)
        have hs2 := hs.beyond (C' := C') hst hι k3 hC' hjl hvals
        have hrow := setRow_heap w b C C' T (0, 0) k3
        obtain ⟨q1, q2⟩ := hs2.freezeAll (id := id) (cs' := cs.take (nn * i.size) ++ List.replicate (cs.length - nn * i.size) V.junk) (St.upd_same _ _ _) hι hrow rfl (fun j hj G' hG => (hvals j hj).1.mono hG) (fun j hj => (hvals j hj).2)
        rw [show (st.upd id (.cells (cs.take (nn * i.size) ++ List.replicate (cs.length - nn * i.size) V.junk))).upd id (.ro (cs.take (nn * i.size) ++ List.replicate (cs.length - nn * i.size) V.junk)) = st.upd id (.ro (cs.take (nn * i.size) ++ List.replicate (cs.length - nn * i.size) V.junk)) from by
          funext j; by_cases e : j = id <;> simp [St.upd, e]] at q2
        refine ⟨_, _, _, _, _, hrun, q1, ?_, q2, hK⟩
        rcases Nat.eq_zero_or_pos cap with hc0 | hc0
        · have : nn = 0 ∧ m = 0 := by omega
          obtain ⟨rfl, rfl⟩ := this
          have hys : ys = [] := List.eq_nil_of_length_eq_zero (by rw [l2, Nat.zero_mul])
          subst hys
          simp only [Nat.zero_mul, List.take_zero, List.append_nil]
          exact .sl .some [] _ b o cap (by simp) hr (fun e => by cases e) (fun _ => undef) (fun j hj => absurd hj (Nat.not_lt_zero _)) (fun j hj => absurd hj (Nat.not_lt_zero _)) (fun j hj => absurd hj (Nat.not_lt_zero _))
        · have hoff := ho (by omega)
          subst hoff
          have hlt : (cs.take (nn * i.size)).length = nn * i.size := by simp; omega
          have hvv : ∀ j, j < (cs.take (nn * i.size) ++ ys).length → VRel G ((cs.take (nn * i.size) ++ ys).getD j .junk) (C'.getD j undef) ∧ (C'.getD j undef).oneCell' = true := fun j hj => by
            simp only [List.length_append, hlt] at hj
            by_cases h1 : j < nn * i.size
            · rw [hlow j h1, List.getD_eq_getElem?_getD, List.getElem?_append_left (by omega), List.getElem?_take, if_pos h1, ← List.getD_eq_getElem?_getD]
              exact k7 j (by omega)
            · rw [show j = nn * i.size + (j - nn * i.size) by omega, hmid _ (by omega), List.getD_eq_getElem?_getD, List.getElem?_append_right (by omega), hlt, show nn * i.size + (j - nn * i.size) - nn * i.size = j - nn * i.size by omega, ← List.getD_eq_getElem?_getD]
              exact ⟨l3.val _ (by omega), l3.one _ (by omega)⟩
          refine .sl .some _ _ b 0 cap (by simp) hr (fun e => by cases e) (fun j => C'.getD j undef) (fun j hj => ?_) (fun j hj => (hvv j hj).1.mono q1) (fun j hj => (hvv j hj).2)
          simp only [List.length_append, hlt] at hj
          rw [Gh.addPm_new, Nat.zero_add, Array.getElem?_toList, Array.getD_eq_getD_getElem?, Array.getElem?_eq_getElem (by omega)]
          rfl
      · -- it grows: the old block is frozen
        have hvals : ∀ j, j < (cs.take (nn * i.size) ++ List.replicate (cs.length - nn * i.size) V.junk).length → VRel G ((cs.take (nn * i.size) ++ List.replicate (cs.length - nn * i.size) V.junk).getD j .junk) (C.getD j undef) ∧ (C.getD j undef).oneCell' = true := fun j hj => by
          rw [hjl] at hj
          refine ⟨?_, (k7 j hj).2⟩
          rw [hjunk j hj]
          split
          · exact (k7 j hj).1
          · exact .junk _
        obtain ⟨q1, q2⟩ := hs.freezeAll (id := id) (cs' := cs.take (nn * i.size) ++ List.replicate (cs.length - nn * i.size) V.junk) hst hι k3 hjl (fun j hj G' hG => (hvals j hj).1.mono hG) (fun j hj => (hvals j hj).2)
        obtain ⟨_, _, ox, o3, o4⟩ := elems_rel (P := P) hsd hval (sz := i.size) (ys := cs.take (nn * i.size)) (m := nn) (by
          simp only [elems, if_true, St.seg, hst, segOf, Nat.zero_add, hcl, if_true, List.drop_zero, Option.map_some])
        exact grow _ _ (cs.take (nn * i.size)) nn cap _ ox q1 q2 rfl o3 (by simp; omega) o4 (by omega) hfit hK
  | _ => exact hK.elim
end
end Go.Ab
