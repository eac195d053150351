import Derived.Test.YtjcpdljfkhbbkaaGreatX2
import Derived.Test.YtjcpdljfkhbbkaaGreatX1
set_option linter.unusedSimpArgs false
set_option linter.unusedVariables false
namespace Go.Ab
open Go Go.RowKit
section
variable {P : Program} {B : Nat} {w0 : World} {G : Gh} {st : St} {w : World} {n : Nat} {env : Env} {a : Act} {an : An}
theorem StRel.splice (h : StRel B w0 G st w) {id b l m o : Nat} {cs vs : List V} {xs : List Value} {C : Array Value} {T : TypeId} (hid : st id = some (.cells cs)) (hι : G.ι id = some (b, l, m)) (hb : w.heap[b]? = some (.cells C T (0, 0)))
    (hv : CRel G vs xs) (ho : o + vs.length ≤ cs.length) :
    StRel B w0 G (st.upd id (.cells (spliceV cs o vs))) (w.setRow b (C.toList.take o ++ xs ++ C.toList.drop (o + xs.length)).toArray) := by
  obtain ⟨b', l', m', k1, k2, C', T', k3, k4, k5, k6, k7, k8⟩ := h.obj id _ hid
  rw [hι] at k1
  cases k1
  rw [hb] at k3
  cases k3
  have hlen := hv.length
  have hrow := setRow_heap w b C (C.toList.take o ++ xs ++ C.toList.drop (o + xs.length)).toArray T (0, 0) hb
  refine h.setObj hid (fun cs e => by cases e) hι rfl rfl rfl ?_ (fun k hk => setRow_other w b k _ hk) k8 ⟨_, T, hrow, ?_, ?_, k6, ?_, k8⟩
  · simp [World.setRow]
  · simp; omega
  · rw [length_spliceV ho]; exact k5
  · have hC : CRel G cs (C.toList.take l) := CRel.mk (by simp; omega) (fun i hi => by rw [getD_take _ _ _ _ (by omega), ← getD_toList]; exact (k7 i hi).1)
      (fun i hi => by rw [getD_take _ _ _ _ (by omega), ← getD_toList]; exact (k7 i hi).2)
    have hsp := hC.splice hv o
    intro i hi
    rw [length_spliceV ho] at hi
    have h1 := hsp.val i (by rw [length_spliceV ho]; exact hi)
    have h2 := hsp.one i (by rw [length_spliceV ho]; exact hi)
    have e : (spliceX (C.toList.take l) o xs).getD i undef = (C.toList.take o ++ xs ++ C.toList.drop (o + xs.length)).toArray.getD i undef := by
      rw [getD_toList]
      simp only [spliceX, List.getD_eq_getElem?_getD, List.getElem?_append, List.getElem?_take, List.getElem?_drop, List.length_append, List.length_take, Array.length_toList]
      congr 1
      have : min o (min l C.size) = min o C.size := by omega
      simp only [this]
      split
      · split
        · split
          · rw [if_pos (by omega)]
          · rfl
        · rfl
      · rw [if_pos (by omega)]
    rw [e] at h1 h2
    exact ⟨h1, h2⟩
theorem setRow_other' (w : World) (g k : Nat) (cs : Array Value) (h : k ≠ g) : (w.setRow g cs).heap[k]? = w.heap[k]? := setRow_other w g k cs h
theorem store_sound (hs : StRel B w0 G st w) {t : TypeId} {sz : Nat} (hsz : szOf P t = some sz) {u v : V} {x y : Value} (hu : VRel G u x) (hv : VRel G v y) {st' : St} (h : storeS st sz u v = some st') :
    ∃ w', (Instr.storeAt t x y).run P w = .ok () w' ∧ StRel B w0 G st' w' := by
  cases hu <;> simp only [storeS] at h <;> try (cases h; done)
  rename_i id o b l m hι
  split at h <;> try (cases h; done)
  rename_i cs hst
  split at h <;> try (cases h; done)
  rename_i vs hvs
  split at h <;> cases h
  rename_i hb
  obtain ⟨b', l', m', k1, k2, C, T, k3, k4, k5, k6, k7, k8⟩ := hs.obj id _ hst
  rw [hι] at k1
  cases k1
  have hc := hv.cells hvs
  have hlen : y.cells.toList.length = sz := by rw [hc.length, hb.1]
  refine ⟨_, ?_, hs.splice hst hι k3 hc (by omega)⟩
  have hrun := run_storeCells_at P b o T y.cells.toList 0 C w k3 (by omega) hc.2
  simp only [Nat.add_zero] at hrun
  simp only [Instr.storeAt, Instr.sureAddr, Sem.run_bind, Sem.run_pure, Result.andThen_ok, storeVar, run_sizeOf hsz]
  rw [if_neg (by simpa using hlen)]
  exact hrun
theorem StRel.newCells (h : StRel B w0 G st w) {cs : List V} {xs ys : List Value} (hc : CRel G cs xs) (T : TypeId) :
    st G.N = none ∧ StRel B w0 (G.addObj (w.heap.size, cs.length, xs.length + ys.length)) (st.upd G.N (.cells cs)) (w.alloc (.cells (xs ++ ys).toArray T)) := by
  have hle := G.addObj_le (w.heap.size, cs.length, xs.length + ys.length)
  refine h.addObj (.cells (xs ++ ys).toArray T) (.cells cs) cs.length (xs.length + ys.length) ⟨(xs ++ ys).toArray, T, heap_alloc_self _ _, by simp, rfl, by have := hc.length; omega, fun i hi => ?_, fun o => h.pm_lt (Nat.le_refl _) o⟩
  have hlen := hc.length
  have e : (xs ++ ys).toArray.getD i undef = xs.getD i undef := by
    rw [getD_toList]
    simp only [List.getD_eq_getElem?_getD, List.getElem?_append_left (show i < xs.length by omega)]
  rw [e]
  exact ⟨(hc.val i hi).mono hle, hc.one i hi⟩
theorem alloc_sound (hs : StRel B w0 G st w) {e : TypeId} {zs : List V} (hz : zeroOf P e = some zs) :
    ∃ x w' G', (Instr.alloc e true (.tuple #[])).run P w = .ok x w' ∧ st G.N = none ∧ G.le G' ∧ VRel G' (.ptr (some (G.N, 0))) x ∧ StRel B w0 G' (st.upd G.N (.cells zs)) w' := by
  obtain ⟨i, z, h1, h2, h3⟩ := zeroOf_rel (G := G) hz
  obtain ⟨g1, g2⟩ := hs.newCells (ys := []) h3 e
  simp only [List.append_nil, Array.toArray_toList, List.length_nil, Nat.add_zero] at g2
  refine ⟨.pointer (some ⟨w.heap.size, 0, none⟩), _, _, ?_, g1, G.addObj_le _, .ptr _ _ _ _ _ (G.addObj_new _), g2⟩
  simp only [Instr.alloc, Sem.run_bind, run_zeroValue h1 h2, Result.andThen_ok, newVar, newRow, run_newObj_alloc, Sem.run_pure]
theorem box_sound (hs : StRel B w0 G st w) {e : TypeId} {v : V} {y : Value} (hv : VRel G v y) {cs : List V} (hc : v.cells? = some cs) :
    ∃ x w' G', (Instr.box e y).run P w = .ok x w' ∧ st G.N = none ∧ G.le G' ∧ VRel G' (.ptr (some (G.N, 0))) x ∧ StRel B w0 G' (st.upd G.N (.cells cs)) w' := by
  obtain ⟨g1, g2⟩ := hs.newCells (ys := []) (hv.cells hc) e
  simp only [List.append_nil, Array.toArray_toList, List.length_nil, Nat.add_zero] at g2
  refine ⟨.pointer (some ⟨w.heap.size, 0, none⟩), _, _, ?_, g1, G.addObj_le _, .ptr _ _ _ _ _ (G.addObj_new _), g2⟩
  simp only [Instr.box, Sem.run_bind, newVar, newRow, run_newObj_alloc, Result.andThen_ok, Sem.run_pure]
theorem mkmap_sound (hs : StRel B w0 G st w) (t : TypeId) :
    ∃ x w' G', (Instr.makeMap t none).run P w = .ok x w' ∧ st G.N = none ∧ G.le G' ∧ VRel G' (.map (some G.N)) x ∧ StRel B w0 G' (st.upd G.N (.mp [])) w' := by
  obtain ⟨g1, g2⟩ := hs.addObj (.map #[] 0) (.mp []) 0 0 ⟨#[], 0, heap_alloc_self _ _, rfl, fun i hi => absurd hi (Nat.not_lt_zero _), by simp, by simp⟩
  refine ⟨.map (some w.heap.size), _, _, ?_, g1, G.addObj_le _, .map _ _ _ _ (G.addObj_new _), g2⟩
  simp [Instr.makeMap]
theorem bslo_sound (hs : StRel B w0 G st w) (he : EnvRel G n env a) {t e : TypeId} {len s : Nat} {zs cs : List V} {ops : Array (Nat × Operand)} {ps : List (Nat × Nat × X)} (hz : zeroOf P e = some zs) (hu : P.underlying t = some (.slice e))
    (hsz : szOf P e = some s) (hzl : zs.length = s) (hbig : len * s ≤ 16777216) (hp : parts1 n (fun i => some (i * s, s)) ops.toList = some ps)
    (hf : fillV (repV zs len) (ps.map fun p => (p.1, p.2.1, p.2.2.ev env)) = some cs) :
    ∃ x w' G', (Instr.buildSlice t len (ops.map fun (i, x) => (i, a.eval x))).run P w = .ok x w' ∧ st G.N = none ∧ G.le G' ∧ VRel G' (.hsl G.N 0 s len) x ∧ StRel B w0 G' (st.upd G.N (.cells cs)) w' := by
  obtain ⟨C, h1, h2⟩ := buildSlice_run (w := w) he hz hu hsz hzl hbig hp hf
  obtain ⟨g1, g2⟩ := hs.newCells (ys := []) h2 e
  simp only [List.append_nil, Array.toArray_toList, List.length_nil, Nat.add_zero] at g2
  have hfl : cs.length = len * s := by
    have key : ∀ (l : List (Nat × Nat × V)) (c c' : List V), fillV c l = some c' → c'.length = c.length := by
      intro l
      induction l with
      | nil => intro c c' h; cases h; rfl
      | cons q l ih =>
        intro c c' h
        obtain ⟨off, sz, v⟩ := q
        simp only [fillV] at h
        split at h <;> try (cases h; done)
        split at h <;> try (cases h; done)
        rename_i vs hvs hb
        rw [ih _ _ h, length_spliceV (by omega)]
    rw [key _ _ _ hf, length_repV, hzl]
  refine ⟨_, _, _, h1, g1, G.addObj_le _, .hsl _ 0 s len _ _ _ len 0 (G.addObj_new _) (Nat.le_refl _) ?_ ?_ (fun _ => rfl), g2⟩
  · have := h2.length
    omega
  · omega
theorem StRel.free (h : StRel B w0 G st w) {b : Nat} (hB : B ≤ b) (hno : ∀ id x, st id ≠ none → G.ι id ≠ some (b, x)) (hpm : ∀ o, G.pm b o = none) {w' : World}
    (hos : w'.os = w.os) (htape : w'.tape = w.tape) (hout : w'.output = w.output) (hsz : w'.heap.size = w.heap.size) (hk : ∀ k, k ≠ b → w'.heap[k]? = w.heap[k]?) : StRel B w0 G st w' := by
  refine ⟨⟨hos.trans h.below.os, htape.trans h.below.tape, hout.trans h.below.output, by rw [hsz]; exact h.below.size, fun k hkB => (hk k (by omega)).trans (h.below.block k hkB)⟩,
    by rw [hsz]; exact h.size, fun id b x e => by rw [hsz]; exact h.lt id b x e, fun c o v e => ?_, fun i o e => ?_, h.inj⟩
  · have hc : c ≠ b := fun e' => by
      rw [e', hpm o] at e
      cases e
    have := h.pm c o v e
    rw [← this]
    exact World.cell?_of_block (w := w) (a := ⟨c, o, none⟩) (hk c hc)
  · obtain ⟨c, l, m, j1, j2, j3⟩ := h.obj i o e
    refine ⟨c, l, m, j1, j2, j3.congr fun _ => hk c fun ec => ?_⟩
    exact hno i (l, m) (by rw [e]; simp) (by rw [j1, ec])
theorem StRel.addAt (h : StRel B w0 G st w) {b l m : Nat} {ob : AObj} (hB : B ≤ b) (hlt : b < w.heap.size) (hno : ∀ id x, st id ≠ none → G.ι id ≠ some (b, x)) (hob : ObjRel (G.addObj (b, l, m)) w b l m ob) :
    st G.N = none ∧ StRel B w0 (G.addObj (b, l, m)) (st.upd G.N ob) w := by
  have hN : st G.N = none := h.dom (G.fresh _ (Nat.le_refl _))
  have hle := G.addObj_le (b, l, m)
  refine ⟨hN, h.below, h.size, fun id c x e => ?_, h.pm, fun id ob' e => ?_, fun id id' c x x' h1 h2 e1 e2 => ?_⟩
  · by_cases hid : id = G.N
    · rw [hid, G.addObj_new] at e
      cases e
      exact hlt
    · rw [G.addObj_old _ hid] at e
      exact h.lt id c x e
  · by_cases hid : id = G.N
    · rw [hid, St.upd_same] at e
      cases e
      exact ⟨b, l, m, by rw [hid]; exact G.addObj_new _, hB, hob⟩
    · rw [St.upd_other _ _ hid] at e
      obtain ⟨c, l', m', k1, k2, k3⟩ := h.obj id ob' e
      exact ⟨c, l', m', hle.ι _ _ k1, k2, k3.mono hle (fun _ e => e)⟩
  · have key : ∀ id x, (st.upd G.N ob) id ≠ none → (G.addObj (b, l, m)).ι id = some (c, x) → (id = G.N ∧ c = b) ∨ (id ≠ G.N ∧ st id ≠ none ∧ G.ι id = some (c, x) ∧ c ≠ b) := by
      intro id x h1 e1
      by_cases hid : id = G.N
      · left
        refine ⟨hid, ?_⟩
        rw [hid, G.addObj_new] at e1
        cases e1
        rfl
      · right
        rw [G.addObj_old _ hid] at e1
        rw [St.upd_other _ _ hid] at h1
        exact ⟨hid, h1, e1, fun ec => hno id x h1 (by rw [e1, ec])⟩
    rcases key id x h1 e1 with ⟨k1, k2⟩ | ⟨k1, k2, k3, k4⟩ <;> rcases key id' x' h2 e2 with ⟨j1, j2⟩ | ⟨j1, j2, j3, j4⟩
    · rw [k1, j1]
    · exact absurd k2 j4
    · exact absurd j2 k4
    · exact h.inj id id' c x x' k2 j2 k3 j3
theorem St.del_ne {s : St} {id i : Nat} (h : (s.del id) i ≠ none) : i ≠ id ∧ s i ≠ none := by
  unfold St.del at h
  by_cases e : i = id
  · rw [if_pos e] at h; exact absurd rfl h
  · rw [if_neg e] at h; exact ⟨e, h⟩
theorem append_grow {x y : Value} {t u ty e : TypeId} {i : TypeInfo} {z : Value} {ao : Option Addr} {sLen sCap m : Nat} {olds news : List Value} (hx : x = .slice ao sLen sCap) (ht : P.underlying t = some (.slice e))
    (hu : (∃ e', P.underlying u = some (.slice e')) ∨ P.underlying u = some .string) (hi : P.info? e = some i) (hz : i.zero = some z) (hlen : (Builtin.lenOf y).run P w = .ok m w)
    (holds : (Builtin.firstCells i.size sLen x).run P w.drew = .ok olds.toArray w.drew) (hnews : (Builtin.firstCells i.size m y).run P w.drew = .ok news.toArray w.drew)
    (hg : sCap < sLen + m) (hb : 0 < i.bytes) (hfit : (sLen + m) * i.bytes ≤ 140737488355328) :
    (Builtin.append_ #[t, u] ty #[x, y]).run P w = .ok (.slice (some ⟨w.heap.size, 0, none⟩) (sLen + m) (grownCap w (sLen + m) sCap e))
      (w.drew.alloc (.cells (olds ++ (news ++ (Builtin.zeroCells z.cells (grownCap w (sLen + m) sCap e - (sLen + m))).toList)).toArray e)) := by
  subst hx
  have h63 : (sLen + m) ≤ 140737488355328 := Nat.le_trans (Nat.le_mul_of_pos_right _ hb) hfit
  have hn : ¬ (sLen + m ≤ sCap) := by omega
  have h63' : ¬ (9223372036854775807 < ((sLen : Int) + (m : Int))) := by omega
  have h48' : ¬ (281474976710656 < Builtin.nextslicecap (sLen + m) sCap * i.bytes) := by have := growslice_fits hg hfit; omega
  have fin : ∀ c : Nat, olds.toArray ++ news.toArray ++ Builtin.zeroCells z.cells (c - (sLen + m)) = (olds ++ (news ++ (Builtin.zeroCells z.cells (c - (sLen + m))).toList)).toArray := fun c => by
    apply Array.ext'
    simp
  have fin2 := fin (grownCap w (sLen + m) sCap e)
  rcases hu with ⟨e', hu⟩ | hu <;>
  · simp [Builtin.append_, run_underlying ht, run_underlying hu, sizeOf, typeInfo, zeroValue, hi, hz, hlen, hn, h63', h48', Question.forced, holds, hnews, newRow]
    rw [← fin2]
    unfold grownCap
    simp
    congr 2
    apply Array.ext'
    simp
theorem append_room {x y : Value} {t u ty e : TypeId} {i : TypeInfo} {ao : Option Addr} {sLen sCap m : Nat} {news : List Value} (hx : x = .slice ao sLen sCap) (ht : P.underlying t = some (.slice e))
    (hu : (∃ e', P.underlying u = some (.slice e')) ∨ P.underlying u = some .string) (hi : P.info? e = some i) (hlen : (Builtin.lenOf y).run P w = .ok m w)
    (hnews : (Builtin.firstCells i.size m y).run P w = .ok news.toArray w) (hg : sLen + m ≤ sCap) {w' : World}
    (hst : match ao with | some a => (storeCells (a.add (sLen * i.size)) news).run P w = .ok () w' | none => w' = w) :
    (Builtin.append_ #[t, u] ty #[x, y]).run P w = .ok (.slice ao (sLen + m) sCap) w' := by
  subst hx
  rcases hu with ⟨e', hu⟩ | hu <;>
  · cases ao with
    | none =>
      subst hst
      simp [Builtin.append_, run_underlying ht, run_underlying hu, sizeOf, typeInfo, hi, hlen, hg, hnews]
    | some ad =>
      simp only at hst
      simp [Builtin.append_, run_underlying ht, run_underlying hu, sizeOf, typeInfo, hi, hlen, hg, hnews, hst]
theorem compAppend_some {t u : TypeId} {x y : X} {p : POp} (h : compAppend P t u x y = some p) : ∃ e i z, P.underlying t = some (.slice e) ∧ ((∃ e', P.underlying u = some (.slice e')) ∨ P.underlying u = some .string) ∧
    P.info? e = some i ∧ i.zero = some z ∧ z.cells.size = i.size ∧ 0 < i.size ∧ 0 < i.bytes ∧ p = .app i.size i.bytes x y := by
  unfold compAppend at h
  split at h
  · rename_i e e' h1 h2
    split at h <;> try (cases h; done)
    rename_i i i' h3 h4
    split at h <;> cases h
    rename_i hc
    simp only [Bool.and_eq_true, decide_eq_true_eq] at hc
    obtain ⟨⟨⟨⟨c1, c2⟩, c3⟩, c4⟩, c5⟩ := hc
    obtain ⟨z, h5, h6⟩ := Option.map_eq_some_iff.1 c4
    exact ⟨e, i, z, h1, .inl ⟨_, h2⟩, h3, h5, h6, c1, c2, rfl⟩
  · rename_i e h1 h2
    split at h <;> try (cases h; done)
    rename_i i h3
    split at h <;> cases h
    rename_i hc
    simp only [Bool.and_eq_true, decide_eq_true_eq] at hc
    obtain ⟨⟨⟨c1, c2⟩, c3⟩, c4⟩ := hc
    obtain ⟨z, h5, h6⟩ := Option.map_eq_some_iff.1 c3
    exact ⟨e, i, z, h1, .inr h2, h3, h5, by rw [h6, c1], by omega, c2, rfl⟩
  · cases h
set_option maxHeartbeats 4000000 in
theorem app_sound (hs : StRel B w0 G st w) {t u ty e : TypeId} {i : TypeInfo} {z : Value} (ht : P.underlying t = some (.slice e)) (hu : (∃ e', P.underlying u = some (.slice e')) ∨ P.underlying u = some .string) (hi : P.info? e = some i) (hz : i.zero = some z) (hzs : z.cells.size = i.size)
    (hsz : 0 < i.size) (hby : 0 < i.bytes) {v1 v2 : V} {x y : Value} (h2 : VRel G v2 y) {ys : List V} {m : Nat} (hy : elems st i.size v2 = some (ys, m)) {K : V → St → Prop}
    (hK : match v1 with
      | .sl k cs n =>
        (k = .nil ∨ k = .full) ∧ cs.length = n * i.size ∧ (n + m) * i.bytes ≤ 140737488355328 ∧
        (m = 0 → K (.sl k cs n) st) ∧ (m ≠ 0 → ∀ id, st id = none → K (.hsl id 0 i.size (n + m)) (st.upd id (.cells (cs ++ ys))))
      | .hsl id off sz' n =>
        match st id with
        | some (.cells cs) =>
          sz' = i.size ∧ (n + m) * i.bytes ≤ 140737488355328 ∧
          if off + (n + m) * i.size ≤ cs.length then K (.hsl id off i.size (n + m)) (st.upd id (.cells (spliceV cs (off + n * i.size) ys)))
          else off = 0 ∧ cs.length = n * i.size ∧ ∀ id', (st.del id) id' = none → K (.hsl id' 0 i.size (n + m)) ((st.del id).upd id' (.cells (cs ++ ys)))
        | _ => False
      | _ => False) (h1 : VRel G v1 x) :
    ∃ r v w' G' st', (Builtin.append_ #[t, u] ty #[x, y]).run P w = .ok r w' ∧ G.le G' ∧ VRel G' v r ∧ StRel B w0 G' st' w' ∧ K v st' := by
  obtain ⟨l1, l2, ny, l3, l4⟩ := elems_rel (P := P) hs h2 hy
  have hsd := hs.ext (below_drew w)
  obtain ⟨_, _, nyd, d3, d4⟩ := elems_rel (P := P) hsd h2 hy
  -- the growing case, once
  have grow : ∀ (st2 : St) (cs : List V) (nn sCap : Nat) (ao : Option Addr) (olds : List Value), StRel B w0 G st2 w → x = .slice ao nn sCap → CRel G cs olds → cs.length = nn * i.size → (Builtin.firstCells i.size nn x).run P w.drew = .ok olds.toArray w.drew → sCap < nn + m → (nn + m) * i.bytes ≤ 140737488355328 →
      (∀ id, st2 id = none → K (.hsl id 0 i.size (nn + m)) (st2.upd id (.cells (cs ++ ys)))) → ∃ r v w' G' st', (Builtin.append_ #[t, u] ty #[x, y]).run P w = .ok r w' ∧ G.le G' ∧ VRel G' v r ∧ StRel B w0 G' st' w' ∧ K v st' := by
    intro st2 cs nn sCap ao olds hs2 hx hcs hcl hold hg hfit hk
    have hrun := append_grow (ty := ty) hx ht hu hi hz l1 hold d4 hg hby hfit
    have hs2d := hs2.ext (below_drew w)
    have hcat : CRel G (cs ++ ys) (olds ++ nyd) := hcs.append d3
    obtain ⟨g1, g2⟩ := hs2d.newCells (ys := (Builtin.zeroCells z.cells (grownCap w (nn + m) sCap e - (nn + m))).toList) hcat e
    have hge := grownCap_ge w (nn + m) sCap e
    have e1 : (olds ++ nyd ++ (Builtin.zeroCells z.cells (grownCap w (nn + m) sCap e - (nn + m))).toList) = olds ++ (nyd ++ (Builtin.zeroCells z.cells (grownCap w (nn + m) sCap e - (nn + m))).toList) := by rw [List.append_assoc]
    rw [e1] at g2
    have hsize : (olds ++ nyd).length + (Builtin.zeroCells z.cells (grownCap w (nn + m) sCap e - (nn + m))).toList.length = grownCap w (nn + m) sCap e * i.size := by
      have q1 := hcs.length
      have q2 := d3.length
      have q3 : (Builtin.zeroCells z.cells (grownCap w (nn + m) sCap e - (nn + m))).toList.length = (grownCap w (nn + m) sCap e - (nn + m)) * i.size := by rw [Array.length_toList, size_zeroCells, hzs]
      rw [List.length_append, q3, q1, hcl, q2, l2, ← Nat.add_mul, ← Nat.add_mul]
      congr 1
      omega
    have hlen : (cs ++ ys).length = (nn + m) * i.size := by rw [List.length_append, hcl, l2, Nat.add_mul]
    refine ⟨_, _, _, _, _, hrun, G.addObj_le _, .hsl G.N 0 i.size (nn + m) w.heap.size (cs ++ ys).length _ _ 0 (G.addObj_new _) hge (by rw [hsize]; omega) ?_ (fun _ => rfl), g2, hk _ g1⟩
    rw [hlen, Nat.zero_add]
    exact Nat.mul_le_mul_right _ hge
  cases v1 with
  | sl k cs nn =>
    obtain ⟨hk, hcl, hfit, hk0, hk1⟩ := hK
    obtain ⟨_, _, ox, o3, o4⟩ := elems_rel (P := P) hsd h1 (sz := i.size) (ys := cs) (m := nn) (by simp [elems, hcl])
    have hcap : ∃ ao, x = .slice ao nn nn := by
      cases h1 with
      | slnil _ hk => exact ⟨none, rfl⟩
      | slz a => exact ⟨some a, rfl⟩
      | sl _ _ _ b o cap hk2 hn hf f hp hw h1 =>
        rcases hk with rfl | rfl
        · exact absurd rfl hk2
        · exact ⟨_, by rw [hf rfl]⟩
    obtain ⟨ao, hx⟩ := hcap
    by_cases hm : m = 0
    · subst hm
      have hny : ny = [] := List.eq_nil_of_length_eq_zero (by rw [l3.length, l2, Nat.zero_mul])
      subst hny
      have hrun := append_room (ty := ty) (w' := w) hx ht hu hi l1 l4 (by omega) (by cases ao with | none => rfl | some ad => rfl)
      rw [hx] at h1
      exact ⟨_, _, w, G, st, hrun, G.le_refl, h1, hs, hk0 rfl⟩
    · exact grow st cs nn nn ao ox hs hx o3 hcl o4 (by omega) hfit (hk1 hm)
  | hsl id off sz' nn =>
    simp only at hK
    split at hK <;> try (exact hK.elim)
    rename_i cs hst
    obtain ⟨hss, hfit, hK⟩ := hK
    subst hss
    have hval := h1
    cases h1 with
    | hsl _ _ _ _ b l mm cap o hι hn hm hl ho =>
      obtain ⟨b', l', mm', k1, k2, C, T, k3, k4, k5, k6, k7, k8⟩ := hs.obj id _ hst
      rw [hι] at k1
      obtain ⟨rfl, rfl, rfl⟩ : b = b' ∧ l = l' ∧ mm = mm' := by cases k1; exact ⟨rfl, rfl, rfl⟩
      have hnl := l3.length
      -- there is room in the block
      have room : nn + m ≤ cap → ∀ (hfits : off + nn * i.size + ny.length ≤ C.size), (Builtin.append_ #[t, u] ty #[.slice (some ⟨b, o, none⟩) nn cap, y]).run P w = .ok (.slice (some ⟨b, o, none⟩) (nn + m) cap)
          (w.setRow b (C.toList.take (off + nn * i.size) ++ ny ++ C.toList.drop (off + nn * i.size + ny.length)).toArray) := by
        intro hr hfits
        by_cases hcap : cap = 0
        · have : nn = 0 ∧ m = 0 := by omega
          obtain ⟨rfl, rfl⟩ := this
          have hny : ny = [] := List.eq_nil_of_length_eq_zero (by rw [hnl, l2, Nat.zero_mul])
          subst hny
          have := append_room (ty := ty) (w' := w) (x := .slice (some ⟨b, o, none⟩) 0 cap) rfl ht hu hi l1 l4 (by omega) rfl
          rw [this]
          congr 1
          simp only [List.append_nil, List.length_nil, Nat.add_zero, List.take_append_drop, Array.toArray_toList]
          exact (setRow_self w b C T (0, 0) k3).symm
        · have hoff := ho hcap
          subst hoff
          have hst := run_storeCells_at P b (o + nn * i.size) T ny 0 C w k3 (by omega) l3.2
          simp only [Nat.add_zero] at hst
          exact append_room (ty := ty) rfl ht hu hi l1 l4 hr (by simp only [add_lit]; exact hst)
      split at hK
      · rename_i hin
        have hr : nn + m ≤ cap := by
          have : (nn + m) * i.size ≤ cap * i.size := by omega
          exact Nat.le_of_mul_le_mul_right this hsz
        have hmul : (nn + m) * i.size = nn * i.size + m * i.size := Nat.add_mul _ _ _
        have hfit2 : off + nn * i.size + ys.length ≤ cs.length := by omega
        refine ⟨_, _, _, G, _, room hr (by omega), G.le_refl, .hsl id off i.size (nn + m) b l mm cap o hι hr hm hl ho, hs.splice hst hι k3 l3 hfit2, hK⟩
      · rename_i hout
        obtain ⟨h0, hcl, hK⟩ := hK
        subst h0
        by_cases hr : nn + m ≤ cap
        · -- in the block's own room
          have hmul : (nn + m) * i.size = nn * i.size + m * i.size := Nat.add_mul _ _ _
          have hle : (nn + m) * i.size ≤ cap * i.size := Nat.mul_le_mul_right _ hr
          have hrun := room hr (by omega)
          have hs1 : StRel B w0 G (st.del id) w := hs.sub (sub_del st id)
          have hno : ∀ id' x, (st.del id) id' ≠ none → G.ι id' ≠ some (b, x) := fun id' x hne e => by
            obtain ⟨hne1, hne2⟩ := St.del_ne hne
            exact hne1 (hs.inj id' id b x (l, mm) hne2 (by rw [hst]; simp) e hι)
          have hrow := setRow_heap w b C (C.toList.take (0 + nn * i.size) ++ ny ++ C.toList.drop (0 + nn * i.size + ny.length)).toArray T (0, 0) k3
          have hs2 := hs1.free (w' := w.setRow b (C.toList.take (0 + nn * i.size) ++ ny ++ C.toList.drop (0 + nn * i.size + ny.length)).toArray) k2 hno k8 rfl rfl rfl (by simp [World.setRow]) (fun k hk => setRow_other' w b k _ hk)
          have hle2 := G.addObj_le (b, (cs ++ ys).length, mm)
          have hlen : (cs ++ ys).length = (nn + m) * i.size := by rw [List.length_append, hcl, l2, Nat.add_mul]
          have hC : CRel G cs (C.toList.take l) := CRel.mk (by simp; omega) (fun i hi => by rw [getD_take _ _ _ _ (by omega), ← getD_toList]; exact (k7 i hi).1)
            (fun i hi => by rw [getD_take _ _ _ _ (by omega), ← getD_toList]; exact (k7 i hi).2)
          have hcat := hC.append l3
          obtain ⟨g1, g2⟩ := hs2.addAt (b := b) (l := (cs ++ ys).length) (m := mm) (ob := .cells (cs ++ ys)) k2 (by simpa [World.setRow] using lt_of_heap k3) hno ⟨_, T, hrow, by simp; omega, rfl, by rw [hlen]; omega, fun j hj => by
            have e : (C.toList.take (0 + nn * i.size) ++ ny ++ C.toList.drop (0 + nn * i.size + ny.length)).toArray.getD j undef = (C.toList.take l ++ ny).getD j undef := by
              rw [getD_toList]
              simp only [Nat.zero_add, ← hcl, k5]
              rw [List.getD_eq_getElem?_getD, List.getElem?_append_left (by simp only [List.length_append, List.length_take, Array.length_toList]; rw [List.length_append] at hj; omega), ← List.getD_eq_getElem?_getD]
            rw [e]
            exact ⟨(hcat.val j hj).mono hle2, hcat.one j hj⟩, k8⟩
          refine ⟨_, _, _, _, _, hrun, hle2, .hsl G.N 0 i.size (nn + m) b (cs ++ ys).length mm cap o (G.addObj_new _) hr hm (by rw [hlen]; omega) ho, g2, hK _ g1⟩
        · obtain ⟨_, _, ox, o3, o4⟩ := elems_rel (P := P) hsd hval (sz := i.size) (ys := cs) (m := nn) (by
            simp only [elems, if_true, St.seg, hst, segOf, Nat.zero_add, ← hcl, Nat.le_refl, if_true, List.drop_zero, List.take_length, Option.map_some])
          exact grow (st.del id) cs nn cap _ ox (hs.sub (sub_del st id)) rfl o3 hcl o4 (by omega) hfit hK
  | _ => exact hK.elim
theorem StRel.freezeAll (h : StRel B w0 G st w) {id b l m : Nat} {cs cs' : List V} {C : Array Value} {T : TypeId} (hid : st id = some (.cells cs)) (hι : G.ι id = some (b, l, m)) (hb : w.heap[b]? = some (.cells C T (0, 0)))
    (hlen : cs'.length = cs.length) (hv : ∀ i, i < cs'.length → ∀ G', G.le G' → VRel G' (cs'.getD i .junk) (C.getD i undef)) (h1 : ∀ i, i < cs'.length → (C.getD i undef).oneCell' = true) :
    G.le (G.addPm b C.toList) ∧ StRel B w0 (G.addPm b C.toList) (st.upd id (.ro cs')) w := by
  obtain ⟨b', l', m', k1, k2, C', T', k3, k4, k5, k6, k7, k8⟩ := h.obj id _ hid
  rw [hι] at k1
  cases k1
  rw [hb] at k3
  cases k3
  have hle := Gh.addPm_le (G := G) (b := b) k8 C.toList
  have hget : ∀ i, i < C.size → C.toList[i]? = some (C.getD i undef) := fun i hi => by
    rw [Array.getElem?_toList, Array.getD_eq_getD_getElem?, Array.getElem?_eq_getElem hi]
    rfl
  refine ⟨hle, h.below, h.size, h.lt, fun c o v e => ?_, fun i o e => ?_, fun i i' c x x' h1 h2 e1 e2 => ?_⟩
  · by_cases hc : c = b
    · subst hc
      rw [Gh.addPm_new] at e
      simp only [World.cell?, hb, Option.isSome_none, Bool.false_eq_true, if_false]
      rw [← e, Array.getElem?_toList]
    · exact h.pm c o v (by simpa [Gh.addPm, hc] using e)
  · by_cases hi : i = id
    · subst hi
      rw [St.upd_same] at e
      cases e
      exact ⟨b, l, m, hι, k2, hlen.trans k5, fun j hj => ⟨C.getD j undef, by rw [Gh.addPm_new]; exact hget j (by omega), hv j hj _ hle, h1 j hj⟩⟩
    · rw [St.upd_other _ _ hi] at e
      obtain ⟨c, l', m', j1, j2, j3⟩ := h.obj i o e
      refine ⟨c, l', m', j1, j2, j3.mono hle fun o' ho' => ?_⟩
      show (if c = b then C.toList[o']? else G.pm c o') = none
      rw [if_neg]
      · exact ho'
      · intro ec
        exact hi (h.inj i id c (l', m') (l, m) (by rw [e]; simp) (by rw [hid]; simp) j1 (by rw [ec]; exact hι))
  · have key : ∀ i, (st.upd id (.ro cs')) i ≠ none → st i ≠ none := fun i hi => by
      by_cases e : i = id
      · rw [e, hid]; simp
      · rw [St.upd_other _ _ e] at hi
        exact hi
    exact h.inj i i' c x x' (key i h1) (key i' h2) e1 e2
theorem StRel.beyond (h : StRel B w0 G st w) {id b l m : Nat} {cs cs' : List V} {C C' : Array Value} {T : TypeId} (hid : st id = some (.cells cs)) (hι : G.ι id = some (b, l, m)) (hb : w.heap[b]? = some (.cells C T (0, 0)))
    (hsz : C'.size = C.size) (hlen : cs'.length = cs.length) (hv : ∀ i, i < cs'.length → VRel G (cs'.getD i .junk) (C'.getD i undef) ∧ (C'.getD i undef).oneCell' = true) :
    StRel B w0 G (st.upd id (.cells cs')) (w.setRow b C') := by
  obtain ⟨b', l', m', k1, k2, D, T', k3, k4, k5, k6, k7, k8⟩ := h.obj id _ hid
  rw [hι] at k1
  cases k1
  rw [hb] at k3
  cases k3
  have hrow := setRow_heap w b C C' T (0, 0) hb
  exact h.setObj hid (fun cs e => by cases e) hι rfl rfl rfl (by simp [World.setRow]) (fun k hk => setRow_other w b k _ hk) k8 ⟨C', T, hrow, hsz.trans k4, hlen.trans k5, k6, hv, k8⟩
set_option maxHeartbeats 4000000 in
theorem appz_sound (hs : StRel B w0 G st w) {t u ty e : TypeId} {i : TypeInfo} {z : Value} (ht : P.underlying t = some (.slice e)) (hu : (∃ e', P.underlying u = some (.slice e')) ∨ P.underlying u = some .string) (hi : P.info? e = some i) (hz : i.zero = some z) (hzs : z.cells.size = i.size)
    (hsz : 0 < i.size) (hby : 0 < i.bytes) {v1 v2 : V} {x y : Value} (h2 : VRel G v2 y) {ys : List V} {m : Nat} (hy : elems st i.size v2 = some (ys, m)) {K : V → St → Prop}
    (hK : match v1 with
      | .sl k cs n =>
        (k = .nil ∨ k = .full) ∧ cs.length = n * i.size ∧ (n + m) * i.bytes ≤ 140737488355328 ∧ (m = 0 → K (.sl k cs n) st) ∧ (m ≠ 0 → K (.sl .some (cs ++ ys) (n + m)) st)
      | .hsl id off sz' n =>
        match st id with
        | some (.cells cs) =>
          sz' = i.size ∧ (n + m) * i.bytes ≤ 140737488355328 ∧ off = 0 ∧ n * i.size ≤ cs.length ∧
          K (.sl .some (cs.take (n * i.size) ++ ys) (n + m)) (st.upd id (.ro (cs.take (n * i.size) ++ List.replicate (cs.length - n * i.size) .junk)))
        | _ => False
      | _ => False) (h1 : VRel G v1 x) :
    ∃ r v w' G' st', (Builtin.append_ #[t, u] ty #[x, y]).run P w = .ok r w' ∧ G.le G' ∧ VRel G' v r ∧ StRel B w0 G' st' w' ∧ K v st' := by
  obtain ⟨l1, l2, ny, l3, l4⟩ := elems_rel (P := P) hs h2 hy
  have hsd := hs.ext (below_drew w)
  obtain ⟨_, _, nyd, d3, d4⟩ := elems_rel (P := P) hsd h2 hy
  -- the growing case, once
  have grow : ∀ (G2 : Gh) (st2 : St) (cs : List V) (nn sCap : Nat) (ao : Option Addr) (olds : List Value), G.le G2 → StRel B w0 G2 st2 w → x = .slice ao nn sCap → CRel G cs olds → cs.length = nn * i.size → (Builtin.firstCells i.size nn x).run P w.drew = .ok olds.toArray w.drew → sCap < nn + m → (nn + m) * i.bytes ≤ 140737488355328 →
      K (.sl .some (cs ++ ys) (nn + m)) st2 → ∃ r v w' G' st', (Builtin.append_ #[t, u] ty #[x, y]).run P w = .ok r w' ∧ G.le G' ∧ VRel G' v r ∧ StRel B w0 G' st' w' ∧ K v st' := by
    intro G2 st2 cs nn sCap ao olds hle2 hs2 hx hcs hcl hold hg hfit hk
    have hrun := append_grow (ty := ty) hx ht hu hi hz l1 hold d4 hg hby hfit
    have hs2d := hs2.ext (below_drew w)
    have hcat : CRel G (cs ++ ys) (olds ++ nyd) := hcs.append d3
    obtain ⟨g1, g2⟩ := hs2d.addPm (olds ++ nyd) e (0, 0) ((Builtin.zeroCells z.cells (grownCap w (nn + m) sCap e - (nn + m))).toList)
    have hge := grownCap_ge w (nn + m) sCap e
    rw [List.append_assoc] at g2
    have hlen := hcat.length
    refine ⟨_, _, _, _, _, hrun, Gh.le_trans hle2 g1, ?_, g2, hk⟩
    refine .sl .some _ _ w.heap.size 0 _ (by simp) hge (fun e => by cases e) (fun j => (olds ++ nyd).getD j undef) (fun j hj => ?_) (fun j hj => (hcat.val j hj).mono (Gh.le_trans hle2 g1)) (fun j hj => hcat.one j hj)
    rw [show w.heap.size = w.drew.heap.size from rfl, Gh.addPm_new, Nat.zero_add, List.getD_eq_getElem?_getD, List.getElem?_eq_getElem (by omega)]
    rfl
  cases v1 with
  | sl k cs nn =>
    obtain ⟨hk, hcl, hfit, hk0, hk1⟩ := hK
    obtain ⟨_, _, ox, o3, o4⟩ := elems_rel (P := P) hsd h1 (sz := i.size) (ys := cs) (m := nn) (by simp [elems, hcl])
    have hcap : ∃ ao, x = .slice ao nn nn := by
      cases h1 with
      | slnil _ hk => exact ⟨none, rfl⟩
      | slz a => exact ⟨some a, rfl⟩
      | sl _ _ _ b o cap hk2 hn hf f hp hw h1 =>
        rcases hk with rfl | rfl
        · exact absurd rfl hk2
        · exact ⟨_, by rw [hf rfl]⟩
    obtain ⟨ao, hx⟩ := hcap
    by_cases hm : m = 0
    · subst hm
      have hny : ny = [] := List.eq_nil_of_length_eq_zero (by rw [l3.length, l2, Nat.zero_mul])
      subst hny
      have hrun := append_room (ty := ty) (w' := w) hx ht hu hi l1 l4 (by omega) (by cases ao with | none => rfl | some ad => rfl)
      rw [hx] at h1
      exact ⟨_, _, w, G, st, hrun, G.le_refl, h1, hs, hk0 rfl⟩
    · exact grow G st cs nn nn ao ox G.le_refl hs hx o3 hcl o4 (by omega) hfit (hk1 hm)
  | hsl id off sz' nn =>
    simp only at hK
    split at hK <;> try (exact hK.elim)
    rename_i cs hst
    obtain ⟨hss, hfit, h0, hcl, hK⟩ := hK
    subst hss
    subst h0
    have hval := h1
    cases h1 with
    | hsl _ _ _ _ b l mm cap o hι hn hm hl ho =>
      obtain ⟨b', l', mm', k1, k2, C, T, k3, k4, k5, k6, k7, k8⟩ := hs.obj id _ hst
      rw [hι] at k1
      obtain ⟨rfl, rfl, rfl⟩ : b = b' ∧ l = l' ∧ mm = mm' := by cases k1; exact ⟨rfl, rfl, rfl⟩
      have hnl := l3.length
      have hCl : CRel G cs (C.toList.take l) := CRel.mk (by simp; omega) (fun i hi => by rw [getD_take _ _ _ _ (by omega), ← getD_toList]; exact (k7 i hi).1)
        (fun i hi => by rw [getD_take _ _ _ _ (by omega), ← getD_toList]; exact (k7 i hi).2)
      have hjl : (cs.take (nn * i.size) ++ List.replicate (cs.length - nn * i.size) V.junk).length = cs.length := by simp; omega
      have hjunk : ∀ j, j < cs.length → (cs.take (nn * i.size) ++ List.replicate (cs.length - nn * i.size) V.junk).getD j .junk = if j < nn * i.size then cs.getD j .junk else .junk := fun j hj => by
        simp only [List.getD_eq_getElem?_getD, List.getElem?_append, List.length_take, List.getElem?_take]
        split
        · rename_i h1
          rw [if_pos (by omega), if_pos (by omega)]
        · rename_i h1
          rw [if_neg (by omega)]
          simp only [List.getElem?_replicate]
          split <;> rfl
      by_cases hr : nn + m ≤ cap
      · -- in the block's own room
        have hmul : (nn + m) * i.size = nn * i.size + m * i.size := Nat.add_mul _ _ _
        have hle : (nn + m) * i.size ≤ cap * i.size := Nat.mul_le_mul_right _ hr
        have hfits : nn * i.size + ny.length ≤ C.size := by omega
        let C' : Array Value := (C.toList.take (nn * i.size) ++ ny ++ C.toList.drop (nn * i.size + ny.length)).toArray
        have hC' : C'.size = C.size := by simp [C']; omega
        have hlow : ∀ j, j < nn * i.size → C'.getD j undef = C.getD j undef := fun j hj => by
          rw [getD_toList, getD_toList]
          simp only [C', List.getD_eq_getElem?_getD, List.append_assoc]
          rw [List.getElem?_append_left (by simp; omega), List.getElem?_take, if_pos hj]
        have hmid : ∀ j, j < ny.length → C'.getD (nn * i.size + j) undef = ny.getD j undef := fun j hj => by
          rw [getD_toList]
          simp only [C', List.getD_eq_getElem?_getD, List.append_assoc]
          rw [List.getElem?_append_right (by simp; omega), List.getElem?_append_left (by simp; omega)]
          congr 2
          simp; omega
        have hone : ∀ j, j < C.size → l ≤ j → True := fun _ _ _ => trivial
        have hcells : ∀ j, j < cs.length → (C'.getD j undef).oneCell' = true := fun j hj => by
          by_cases h1 : j < nn * i.size
          · rw [hlow j h1]; exact (k7 j hj).2
          · by_cases h2 : j < nn * i.size + ny.length
            · rw [show j = nn * i.size + (j - nn * i.size) by omega, hmid _ (by omega)]
              exact l3.one _ (by omega)
            · have : C'.getD j undef = C.getD j undef := by
                rw [getD_toList, getD_toList]
                simp only [C', List.getD_eq_getElem?_getD, List.append_assoc]
                rw [List.getElem?_append_right (by simp; omega), List.getElem?_append_right (by simp; omega), List.getElem?_drop]
                congr 2
                simp; omega
              rw [this]; exact (k7 j hj).2
        have hvals : ∀ j, j < (cs.take (nn * i.size) ++ List.replicate (cs.length - nn * i.size) V.junk).length → VRel G ((cs.take (nn * i.size) ++ List.replicate (cs.length - nn * i.size) V.junk).getD j .junk) (C'.getD j undef) ∧ (C'.getD j undef).oneCell' = true := fun j hj => by
          rw [hjl] at hj
          refine ⟨?_, hcells j hj⟩
          rw [hjunk j hj]
          split
          · rename_i h1
            rw [hlow j h1]; exact (k7 j hj).1
          · exact .junk _
        have hrun : (Builtin.append_ #[t, u] ty #[.slice (some ⟨b, o, none⟩) nn cap, y]).run P w = .ok (.slice (some ⟨b, o, none⟩) (nn + m) cap) (w.setRow b C') := by
          by_cases hcap : cap = 0
          · have : nn = 0 ∧ m = 0 := by omega
            obtain ⟨rfl, rfl⟩ := this
            have hny : ny = [] := List.eq_nil_of_length_eq_zero (by rw [hnl, l2, Nat.zero_mul])
            subst hny
            have := append_room (ty := ty) (w' := w) (x := .slice (some ⟨b, o, none⟩) 0 cap) rfl ht hu hi l1 l4 (by omega) rfl
            rw [this]
            congr 1
            have hCC : C' = C := by
              simp only [C', List.append_nil, List.length_nil, Nat.add_zero, List.take_append_drop, Array.toArray_toList]
            rw [hCC]
            exact (setRow_self w b C T (0, 0) k3).symm
          · have hoff := ho hcap
            subst hoff
            have hst := run_storeCells_at P b (0 + nn * i.size) T ny 0 C w k3 (by omega) l3.2
            simp only [Nat.add_zero, Nat.zero_add] at hst
            exact append_room (ty := ty) rfl ht hu hi l1 l4 hr (by simp only [add_lit, Nat.zero_add]; exact hst)
        have hs2 := hs.beyond (C' := C') hst hι k3 hC' hjl hvals
        have hrow := setRow_heap w b C C' T (0, 0) k3
        obtain ⟨q1, q2⟩ := hs2.freezeAll (id := id) (cs' := cs.take (nn * i.size) ++ List.replicate (cs.length - nn * i.size) V.junk) (St.upd_same _ _ _) hι hrow rfl (fun j hj G' hG => (hvals j hj).1.mono hG) (fun j hj => (hvals j hj).2)
        rw [show (st.upd id (.cells (cs.take (nn * i.size) ++ List.replicate (cs.length - nn * i.size) V.junk))).upd id (.ro (cs.take (nn * i.size) ++ List.replicate (cs.length - nn * i.size) V.junk)) = st.upd id (.ro (cs.take (nn * i.size) ++ List.replicate (cs.length - nn * i.size) V.junk)) from by
          funext j; by_cases e : j = id <;> simp [St.upd, e]] at q2
        refine ⟨_, _, _, _, _, hrun, q1, ?_, q2, hK⟩
        rcases Nat.eq_zero_or_pos cap with hc0 | hc0
        · have : nn = 0 ∧ m = 0 := by omega
          obtain ⟨rfl, rfl⟩ := this
          have hys : ys = [] := List.eq_nil_of_length_eq_zero (by rw [l2, Nat.zero_mul])
          subst hys
          simp only [Nat.zero_mul, List.take_zero, List.append_nil]
          exact .sl .some [] _ b o cap (by simp) hr (fun e => by cases e) (fun _ => undef) (fun j hj => absurd hj (Nat.not_lt_zero _)) (fun j hj => absurd hj (Nat.not_lt_zero _)) (fun j hj => absurd hj (Nat.not_lt_zero _))
        · have hoff := ho (by omega)
          subst hoff
          have hlt : (cs.take (nn * i.size)).length = nn * i.size := by simp; omega
          have hvv : ∀ j, j < (cs.take (nn * i.size) ++ ys).length → VRel G ((cs.take (nn * i.size) ++ ys).getD j .junk) (C'.getD j undef) ∧ (C'.getD j undef).oneCell' = true := fun j hj => by
            simp only [List.length_append, hlt] at hj
            by_cases h1 : j < nn * i.size
            · rw [hlow j h1, List.getD_eq_getElem?_getD, List.getElem?_append_left (by omega), List.getElem?_take, if_pos h1, ← List.getD_eq_getElem?_getD]
              exact k7 j (by omega)
            · rw [show j = nn * i.size + (j - nn * i.size) by omega, hmid _ (by omega), List.getD_eq_getElem?_getD, List.getElem?_append_right (by omega), hlt, show nn * i.size + (j - nn * i.size) - nn * i.size = j - nn * i.size by omega, ← List.getD_eq_getElem?_getD]
              exact ⟨l3.val _ (by omega), l3.one _ (by omega)⟩
          refine .sl .some _ _ b 0 cap (by simp) hr (fun e => by cases e) (fun j => C'.getD j undef) (fun j hj => ?_) (fun j hj => (hvv j hj).1.mono q1) (fun j hj => (hvv j hj).2)
          simp only [List.length_append, hlt] at hj
          rw [Gh.addPm_new, Nat.zero_add, Array.getElem?_toList, Array.getD_eq_getD_getElem?, Array.getElem?_eq_getElem (by omega)]
          rfl
      · -- it grows: the old block is frozen
        have hvals : ∀ j, j < (cs.take (nn * i.size) ++ List.replicate (cs.length - nn * i.size) V.junk).length → VRel G ((cs.take (nn * i.size) ++ List.replicate (cs.length - nn * i.size) V.junk).getD j .junk) (C.getD j undef) ∧ (C.getD j undef).oneCell' = true := fun j hj => by
          rw [hjl] at hj
          refine ⟨?_, (k7 j hj).2⟩
          rw [hjunk j hj]
          split
          · exact (k7 j hj).1
          · exact .junk _
        obtain ⟨q1, q2⟩ := hs.freezeAll (id := id) (cs' := cs.take (nn * i.size) ++ List.replicate (cs.length - nn * i.size) V.junk) hst hι k3 hjl (fun j hj G' hG => (hvals j hj).1.mono hG) (fun j hj => (hvals j hj).2)
        obtain ⟨_, _, ox, o3, o4⟩ := elems_rel (P := P) hsd hval (sz := i.size) (ys := cs.take (nn * i.size)) (m := nn) (by
          simp only [elems, if_true, St.seg, hst, segOf, Nat.zero_add, hcl, if_true, List.drop_zero, Option.map_some])
        exact grow _ _ (cs.take (nn * i.size)) nn cap _ ox q1 q2 rfl o3 (by simp; omega) o4 (by omega) hfit hK
  | _ => exact hK.elim
end
end Go.Ab
set_option linter.unusedSimpArgs false
set_option linter.unusedVariables false
namespace Go.Ab
open Go Go.RowKit
def pureP : POp → Bool
  | .store .. | .mset .. | .mdel .. | .mkmap | .alloc _ | .box _ | .bsl true .. | .mksl .. | .app .. | .clear .. | .call .. | .callv .. | .rngStr _ | .nextStr _ | .rngMap _ | .nextMap _ | .appz .. | .appf .. | .appn .. | .ment .. | .estore .. => false
  | _ => true
section
variable {P : Program} {B : Nat} {w0 : World} {G : Gh} {st : St} {w : World} {n : Nat} {env : Env} {a : Act} {an : An}
theorem stepP_appf {sz b : Nat} {x y : X} {K : V → St → Prop} (h : stepP P (.appf sz b x y) env st K) : stepP P (.app sz b x y) env st K := by
  simp only [stepP] at h ⊢
  split at h
  · exact h
  · generalize x.ev env = xv at h ⊢
    cases xv <;> first | exact h | exact h.elim
theorem stepP_appn {sz b : Nat} {x y : X} {K : V → St → Prop} (h : stepP P (.appn sz b x y) env st K) : stepP P (.appz sz b x y) env st K := by
  simp only [stepP] at h ⊢
  split at h
  · exact h
  · generalize x.ev env = xv at h ⊢
    cases xv <;> first | exact h | exact h.elim
theorem stepP_pure {p : POp} (hp : pureP p = true) {K : V → St → Prop} (h : stepP P p env st K) : ∃ v, opV p env st = some v ∧ K v st := by
  have key : (match opV p env st with | some v => K v st | none => False) → ∃ v, opV p env st = some v ∧ K v st := by
    intro h
    cases hv : opV p env st with
    | none => rw [hv] at h; exact h.elim
    | some v => rw [hv] at h; exact ⟨v, rfl, h⟩
  cases p <;> first
    | exact key h
    | (simp only [pureP] at hp; cases hp; done)
    | skip
  · rename_i obj sz nn zero parts
    cases obj with
    | true => simp only [pureP] at hp; cases hp
    | false => exact key h
theorem wp_of_gives {o : Oper} {next : Act → World → Prop} {Q : Exit → Act → World → Prop} {v : V} (h : Gives P B w0 G st v ((execOp a.eval o).run P w))
    (hn : ∀ x G' w', G.le G' → VRel G' v x → StRel B w0 G' st w' → next (a.put o.dst x) w') : o.wp P a w next Q := by
  obtain ⟨x, w', G', h1, h2, h3, h4⟩ := h
  unfold Oper.wp
  rw [h1]
  exact hn x G' w' h2 h3 h4
theorem wp_of_value {o : Oper} {next : Act → World → Prop} {Q : Exit → Act → World → Prop} {x : Value} {w' : World} (h : (execOp a.eval o).run P w = .ok (.value x) w') (hn : next (a.put o.dst x) w') : o.wp P a w next Q := by
  unfold Oper.wp
  rw [h]
  exact hn
theorem wp_of_skip {o : Oper} {next : Act → World → Prop} {Q : Exit → Act → World → Prop} {w' : World} (h : (execOp a.eval o).run P w = .ok .skip w') (hn : next (a.put o.dst undef) w') : o.wp P a w next Q := by
  unfold Oper.wp
  rw [h]
  exact hn
theorem run_unit {s : Sem Unit} {w w' : World} (h : s.run P w = .ok () w') : ((do s; pure Next.skip) : Sem Next).run P w = .ok .skip w' := by
  simp [h]
theorem okFn_call {f : FuncId} (h : okFn P f = true) (args : Array Value) : (callFunc f args).run P w = .ok (.enter f args) w := by
  unfold okFn at h
  cases hf : P.funcs[f]? with
  | none => rw [hf] at h; cases h
  | some fn =>
    rw [hf] at h
    simp only [Option.any_some, Bool.and_eq_true, bne_iff_ne, ne_eq] at h
    obtain ⟨c, hc⟩ := Option.isSome_iff_exists.1 h.2
    simp [callFunc, hf, h.1, hc]
theorem St.add_none (st : St) : st.add (fun _ => none) = st := by
  funext i
  simp only [St.add]
  cases st i <;> rfl
theorem call_wp {f : FuncId} {args : List V} {xs : List Value} {K : V → St → Prop} (hs : StRel B w0 G st w) (hl : LRel G args xs) (h : ACalls P f args st K) {o : Oper} {next : Act → World → Prop} {Q : Exit → Act → World → Prop}
    (hrun : (execOp a.eval o).run P w = .ok (.enter f xs.toArray) w) (hn : ∀ v x G' st' w', G.le G' → VRel G' v x → StRel B w0 G' st' w' → K v st' → next (a.put o.dst x) w') : o.wp P a w next Q := by
  unfold Oper.wp
  rw [hrun]
  refine (h (fun _ => none) (fun _ => .inr rfl) B w0 G w xs (by rw [St.add_none]; exact hs) hl).mono fun e w' ⟨v, x, G', st', he, h1, h2, _, h3, h4⟩ => ?_
  subst he
  rw [St.add_none] at h3
  exact hn v x G' st' w' h1 h2 h3 h4
theorem natOf_run {v : V} {x : Value} (hv : VRel G v x) {k : Nat} (h : natOf v = some k) : ∃ kd : IntKind, x = .int kd (k : Int) := by
  obtain ⟨kd, i, rfl, h0, h1⟩ := natOf_rel hv h
  exact ⟨kd, by rw [← h1, Int.toNat_of_nonneg h0]⟩
theorem repV_add (z : List V) (d : Nat) : ∀ k, repV z (k + d) = repV z k ++ repV z d
  | 0 => by simp [repV]
  | k + 1 => by rw [show k + 1 + d = (k + d) + 1 by omega]; simp only [repV, repV_add z d k, List.append_assoc]
theorem take_repV (z : List V) {k c : Nat} (h : k ≤ c) : (repV z c).take (k * z.length) = repV z k := by
  obtain ⟨d, rfl⟩ := Nat.exists_eq_add_of_le h
  rw [repV_add, ← length_repV, List.take_left]
theorem mksl_sound (hs : StRel B w0 G st w) {t e : TypeId} {i : TypeInfo} {zs : List V} (ht : P.underlying t = some (.slice e)) (hi : P.info? e = some i) (hz : zeroOf P e = some zs) {v1 v2 : V} {x y : Value} (h1 : VRel G v1 x) (h2 : VRel G v2 y) {k c : Nat} (hk : natOf v1 = some k) (hc : natOf v2 = some c)
    (hle : k ≤ c) (hb : c * i.bytes ≤ 140737488355328) (hzl : zs.length = i.size) (hc63 : c ≤ 9223372036854775807) :
    (∃ r w' G', (Instr.makeSlice t x y).run P w = .ok r w' ∧ G.le G' ∧ VRel G' (.sl .some (repV zs k) k) r ∧ StRel B w0 G' st w') ∧
    ∃ r w' G', (Instr.makeSlice t x y).run P w = .ok r w' ∧ st G.N = none ∧ G.le G' ∧ VRel G' (.hsl G.N 0 i.size k) r ∧ StRel B w0 G' (st.upd G.N (.cells (repV zs k))) w' := by
  obtain ⟨kd, rfl⟩ := natOf_run h1 hk
  obtain ⟨kd2, rfl⟩ := natOf_run h2 hc
  obtain ⟨i', z, g1, g2, g3⟩ := zeroOf_rel (G := G) hz
  rw [hi] at g1
  cases g1
  have hzs : z.cells.size = i.size := by have := g3.length; simp at this; omega
  have hb' : (i.bytes : Int) * (c : Int) ≤ 281474976710656 := by
    have : ((c * i.bytes : Nat) : Int) ≤ 140737488355328 := by omega
    rw [Int.natCast_mul] at this
    rw [Int.mul_comm]
    omega
  have hrun := run_make (P := P) w t e i z ht hi g2 kd kd2 (k : Int) (c : Int) (by omega) (by omega) hb' (by omega)
  simp only [Int.toNat_natCast] at hrun
  have hmade : (madeCells z.cells (c * i.size)) = zerosX z.cells (c * i.size) := rfl
  have hrel := zerosX_rel g3 c
  rw [hzs] at hrel
  have hsplit : (zerosX z.cells (c * i.size)).toList = (zerosX z.cells (c * i.size)).toList.take (k * i.size) ++ (zerosX z.cells (c * i.size)).toList.drop (k * i.size) := (List.take_append_drop _ _).symm
  have hpart : CRel G (repV zs k) ((zerosX z.cells (c * i.size)).toList.take (k * i.size)) := by
    have h1 := hrel.take (k * i.size)
    have h2 : (repV zs c).take (k * i.size) = repV zs k := by
      rw [← hzl]
      exact take_repV zs hle
    rw [h2] at h1
    exact h1
  rw [hmade] at hrun
  have harr : zerosX z.cells (c * i.size) = ((zerosX z.cells (c * i.size)).toList.take (k * i.size) ++ (zerosX z.cells (c * i.size)).toList.drop (k * i.size)).toArray := by
    apply Array.ext'
    simp
  rw [harr] at hrun
  constructor
  · obtain ⟨q1, q2⟩ := hs.addPm ((zerosX z.cells (c * i.size)).toList.take (k * i.size)) e (0, 0) ((zerosX z.cells (c * i.size)).toList.drop (k * i.size))
    refine ⟨_, _, _, hrun, q1, ?_, q2⟩
    refine .sl .some _ _ w.heap.size 0 _ (by simp) hle (fun e => by cases e) (fun j => ((zerosX z.cells (c * i.size)).toList.take (k * i.size)).getD j undef) (fun j hj => ?_) (fun j hj => (hpart.val j hj).mono q1) (fun j hj => hpart.one j hj)
    have := hpart.length
    rw [Gh.addPm_new, Nat.zero_add, List.getD_eq_getElem?_getD, List.getElem?_eq_getElem (by omega)]
    rfl
  · obtain ⟨q1, q2⟩ := hs.newCells (ys := (zerosX z.cells (c * i.size)).toList.drop (k * i.size)) hpart e
    refine ⟨_, _, _, hrun, q1, G.addObj_le _, .hsl G.N 0 i.size k w.heap.size _ _ c 0 (G.addObj_new _) hle ?_ ?_ (fun _ => rfl), q2⟩
    · rw [← List.length_append, List.take_append_drop]
      simp [zerosX]
    · rw [length_repV, hzl, Nat.zero_add]
      exact Nat.mul_le_mul_right _ hle
theorem clear_sound (hs : StRel B w0 G st w) {id off sz nn : Nat} {cs : List V} {x : Value} (hx : VRel G (.hsl id off sz nn) x) (hst : st id = some (.cells cs)) {t e ty : TypeId} {zs : List V} (ht : P.underlying t = some (.slice e)) (hz : zeroOf P e = some zs) (hzl : zs.length = sz) (hfit : off + nn * sz ≤ cs.length) :
    ∃ w', (Builtin.clear_ #[t] ty #[x]).run P w = .ok (.tuple #[]) w' ∧ StRel B w0 G (st.upd id (.cells (spliceV cs off (repV zs nn)))) w' := by
  obtain ⟨i, z, g1, g2, g3⟩ := zeroOf_rel (G := G) hz
  cases hx with
  | hsl _ _ _ _ b l m cap o hι hn hm hl ho =>
    obtain ⟨b', l', m', k1, k2, C, T, k3, k4, k5, k6, k7, k8⟩ := hs.obj id _ hst
    rw [hι] at k1
    obtain ⟨rfl, rfl, rfl⟩ : b = b' ∧ l = l' ∧ m = m' := by cases k1; exact ⟨rfl, rfl, rfl⟩
    have hrel := zerosX_rel g3 nn
    have hzsz : z.cells.size = sz := by have := g3.length; simp at this; omega
    have hzc : Builtin.zeroCells z.cells nn = zerosX z.cells (nn * z.cells.size) := rfl
    have hlen := hrel.length
    rw [length_repV, hzl] at hlen
    have hsp := hs.splice hst hι k3 hrel (o := off) (by rw [length_repV, hzl]; exact hfit)
    rcases Nat.eq_zero_or_pos nn with h0 | h0
    · subst h0
      refine ⟨w, ?_, ?_⟩
      · simp [Builtin.clear_, run_underlying ht]
      · have : (zerosX z.cells (0 * z.cells.size)).toList = [] := List.eq_nil_of_length_eq_zero (by rw [hlen, Nat.zero_mul])
        rw [this] at hsp
        simp only [List.append_nil, List.length_nil, Nat.add_zero, List.take_append_drop, Array.toArray_toList] at hsp
        rw [setRow_self w b C T (0, 0) k3] at hsp
        exact hsp
    · have hoff := ho (by omega)
      subst hoff
      refine ⟨_, ?_, hsp⟩
      have hrun := run_storeCells_at P b o T (zerosX z.cells (nn * z.cells.size)).toList 0 C w k3 (by rw [hlen]; omega) hrel.2
      simp only [Nat.add_zero] at hrun
      obtain ⟨q, rfl⟩ : ∃ q, nn = q + 1 := ⟨nn - 1, by omega⟩
      simp only [Builtin.clear_, List.getElem?_toArray, List.getElem?_cons_zero, Sem.run_bind, run_underlying ht, Result.andThen_ok, run_zeroValue g1 g2, hzc, hrun, Sem.run_pure]
end
end Go.Ab
set_option linter.unusedSimpArgs false
set_option linter.unusedVariables false
namespace Go.Ab
open Go Go.RowKit
section
variable {P : Program} {B : Nat} {w0 : World} {G : Gh} {st : St} {w : World} {n : Nat} {env : Env} {a : Act} {an : An}
set_option maxHeartbeats 2000000 in
theorem step_sound {o : Oper} {p : POp} (hc : compOp P n an o = some p) (he : EnvRel G n env a) (hs : StRel B w0 G st w) {K : V → St → Prop} (h : stepP P p env st K) {next : Act → World → Prop} {Q : Exit → Act → World → Prop}
    (hn : ∀ v x G' st' w', G.le G' → VRel G' v x → StRel B w0 G' st' w' → K v st' → next (a.put o.dst x) w') : o.wp P a w next Q := by
  have pure_case : pureP p = true → o.wp P a w next Q := fun hp => by
    obtain ⟨v, hv, hK⟩ := stepP_pure hp h
    exact wp_of_gives (opV_sound hc he hs hv) fun x G' w' h1 h2 h3 => hn v x G' st w' h1 h2 h3 hK
  obtain ⟨dst, op, ty, pos, after, guard⟩ := o
  cases op with
  | alloc e =>
    obtain ⟨z, h1, rfl⟩ := Option.map_eq_some_iff.1 hc
    obtain ⟨x, w', G', g1, g2, g3, g4, g5⟩ := alloc_sound hs h1
    exact wp_of_value (run_value g1) (hn _ x G' _ w' g3 g4 g5 (h _ g2))
  | box e x =>
    obtain ⟨y, h1, rfl⟩ := Option.map_eq_some_iff.1 hc
    have h' : (match ((y.ev env).cells?.map fun cs => ((AObj.cells cs, fun id => V.ptr (some (id, 0))) : AObj × (Nat → V))) with | some (ob, mk) => ∀ id, st id = none → K (mk id) (st.upd id ob) | none => False) := h
    cases hcs : (y.ev env).cells? with
    | none => rw [hcs] at h'; exact h'.elim
    | some cs =>
      rw [hcs] at h'
      obtain ⟨r, w', G', g1, g2, g3, g4, g5⟩ := box_sound (P := P) (e := e) hs (ofX_rel he h1) hcs
      exact wp_of_value (run_value g1) (hn _ r G' _ w' g3 g4 g5 (h' _ g2))
  | buildSlice t len ps =>
    have hc0 := hc
    simp only [compOp] at hc
    split at hc <;> try (cases hc; done)
    rename_i e hu
    obtain ⟨s, h0, hc⟩ := bind_some hc
    obtain ⟨z, h1, hc⟩ := bind_some hc
    split at hc <;> try (cases hc; done)
    rename_i hcond
    simp only [Bool.and_eq_true, decide_eq_true_eq] at hcond
    obtain ⟨q, h2, hc⟩ := bind_some hc
    cases hc
    generalize hob : (dst.any fun x => an.obj.contains x) = ob at h pure_case
    cases ob with
    | false => exact pure_case rfl
    | true =>
      have h' : (match ((fillV (repV z len) (q.map fun p => (p.1, p.2.1, p.2.2.ev env))).map fun cs => ((AObj.cells cs, fun id => V.hsl id 0 s len) : AObj × (Nat → V))) with | some (ob, mk) => ∀ id, st id = none → K (mk id) (st.upd id ob) | none => False) := h
      cases hcs : fillV (repV z len) (q.map fun p => (p.1, p.2.1, p.2.2.ev env)) with
      | none => rw [hcs] at h'; exact h'.elim
      | some cs =>
        rw [hcs] at h'
        obtain ⟨r, w', G', g1, g2, g3, g4, g5⟩ := bslo_sound (P := P) hs he h1 hu h0 hcond.1.1 hcond.2 h2 hcs
        exact wp_of_value (run_value g1) (hn _ r G' _ w' g3 g4 g5 (h' _ g2))
  | store t x y =>
    obtain ⟨q, h1, hc⟩ := bind_some hc
    obtain ⟨x', h2, hc⟩ := bind_some hc
    obtain ⟨y', h3, hc⟩ := bind_some hc
    cases hc
    have h' : (match storeS st q (x'.ev env) (y'.ev env) with | some st' => K .junk st' | none => False) := h
    cases hst : storeS st q (x'.ev env) (y'.ev env) with
    | none => rw [hst] at h'; exact h'.elim
    | some st' =>
      rw [hst] at h'
      obtain ⟨w', g1, g2⟩ := store_sound (P := P) hs h1 (ofX_rel he h2) (ofX_rel he h3) hst
      exact wp_of_skip (run_unit g1) (hn .junk undef G st' w' G.le_refl (.junk _) g2 h')
  | mapUpdate t m k x =>
    simp only [compOp] at hc
    split at hc <;> try (cases hc; done)
    rename_i kt e ht
    obtain ⟨kk, h1, hc⟩ := bind_some hc
    obtain ⟨m', h3, hc⟩ := bind_some hc
    obtain ⟨k', h4, hc⟩ := bind_some hc
    obtain ⟨v', h5, hc⟩ := bind_some hc
    cases hc
    have h' : (match msetS st kk (m'.ev env) (k'.ev env) (v'.ev env) with | some st' => K .junk st' | none => False) := h
    cases hst : msetS st kk (m'.ev env) (k'.ev env) (v'.ev env) with
    | none => rw [hst] at h'; exact h'.elim
    | some st' =>
      rw [hst] at h'
      obtain ⟨w', g1, g2⟩ := mset_run (P := P) hs ht (compKey_fits h1) (ofX_rel he h3) (ofX_rel he h4) (ofX_rel he h5) hst
      exact wp_of_skip (run_unit g1) (hn .junk undef G st' w' G.le_refl (.junk _) g2 h')
  | insert t m k x =>
    simp only [compOp] at hc
    split at hc <;> try (cases hc; done)
    rename_i kt e ht
    obtain ⟨kk, h1, hc⟩ := bind_some hc
    obtain ⟨m', h3, hc⟩ := bind_some hc
    obtain ⟨k', h4, hc⟩ := bind_some hc
    obtain ⟨v', h5, hc⟩ := bind_some hc
    cases hc
    have h' : (match msetS st kk (m'.ev env) (k'.ev env) (v'.ev env) with | some st' => K .junk st' | none => False) := h
    cases hst : msetS st kk (m'.ev env) (k'.ev env) (v'.ev env) with
    | none => rw [hst] at h'; exact h'.elim
    | some st' =>
      rw [hst] at h'
      obtain ⟨w', g1, g2⟩ := mset_run (P := P) hs ht (compKey_fits h1) (ofX_rel he h3) (ofX_rel he h4) (ofX_rel he h5) hst
      exact wp_of_skip (run_unit g1) (hn .junk undef G st' w' G.le_refl (.junk _) g2 h')
  | makeMap t r =>
    cases r <;> cases hc
    obtain ⟨x, w', G', g1, g2, g3, g4, g5⟩ := mkmap_sound (P := P) hs t
    exact wp_of_value (run_value g1) (hn _ x G' _ w' g3 g4 g5 (h _ g2))
  | makeSlice t l c =>
    simp only [compOp] at hc
    split at hc <;> try (cases hc; done)
    rename_i e ht
    obtain ⟨i, h1, hc⟩ := bind_some hc
    obtain ⟨z, h2, hc⟩ := bind_some hc
    split at hc <;> try (cases hc; done)
    rename_i hby
    obtain ⟨l', h3, hc⟩ := bind_some hc
    obtain ⟨c', h4, hc⟩ := bind_some hc
    cases hc
    generalize hob : (dst.any fun x => an.obj.contains x) = ob at h
    have h' : (match natOf (l'.ev env), natOf (c'.ev env) with
      | some n, some c => n ≤ c ∧ c * i.bytes ≤ 140737488355328 ∧ z.length = i.size ∧ (if ob = true then ∀ id, st id = none → K (.hsl id 0 i.size n) (st.upd id (.cells (repV z n))) else K (.sl .some (repV z n) n) st)
      | _, _ => False) := h
    split at h' <;> try (exact h'.elim)
    rename_i k cc hk hcc
    obtain ⟨e1, e2, e3, e4⟩ := h'
    obtain ⟨⟨r, w', G', g1, g2, g3, g4⟩, ⟨r2, w2, G2, j1, j2, j3, j4, j5⟩⟩ := mksl_sound (P := P) hs ht h1 h2 (ofX_rel he h3) (ofX_rel he h4) hk hcc e1 e2 e3 (by
      have := Nat.le_mul_of_pos_right cc hby
      omega)
    cases ob with
    | false => exact wp_of_value (run_value g1) (hn _ r G' _ w' g2 g3 g4 (by simpa using e4))
    | true => exact wp_of_value (run_value j1) (hn _ r2 G2 _ w2 j3 j4 j5 (by simp only [if_true] at e4; exact e4 _ j2))
  | call c =>
    obtain ⟨callee, args, tys⟩ := c
    have hc0 := hc
    simp only [compOp] at hc
    split at hc
    · rename_i f
      split at hc
      rotate_left
      · split at hc <;> try (cases hc; done)
        obtain ⟨q, h1, hc⟩ := Option.bind_eq_some_iff.1 hc
        split at hc <;> try (cases hc; done)
        cases hc
        exact pure_case rfl
      rename_i hok
      obtain ⟨q, h1, rfl⟩ := Option.map_eq_some_iff.1 hc
      refine call_wp hs (ofXs_rel he h1) h ?_ hn
      have : args.map a.eval = (args.toList.map a.eval).toArray := by
        apply Array.ext'
        simp
      simp only [execOp, resolve, Sem.run_bind, Act.eval, Deferred.ofValue, Sem.run_pure, Result.andThen_ok, invoke, okFn_call hok, Array.empty_append, Array.append_empty]
      rw [← this]
    · obtain ⟨x', h1, hc⟩ := bind_some hc
      obtain ⟨q, h2, hc⟩ := bind_some hc
      cases hc
      rename_i x hne _
      have h' : (match x'.ev env with | .func f cap => okFn P f = true ∧ ACalls P f (q.map (·.ev env) ++ cap) st K | _ => False) := h
      have hx := ofX_rel he h1
      split at h' <;> try (exact h'.elim)
      rename_i f cap hev
      rw [hev] at hx
      have hl := ofXs_rel he h2
      generalize hxe : a.eval x = xv at hx
      cases hx with
      | func _ _ xs hlen hv =>
        refine call_wp hs (hl.append (show LRel G cap xs.toList from ⟨by simpa using hlen, fun i hi => by rw [← getD_toList]; exact hv i hi⟩)) h'.2 ?_ hn
        have : args.map a.eval = (args.toList.map a.eval).toArray := by
          apply Array.ext'
          simp
        simp only [execOp, resolve, Sem.run_bind, hxe, Deferred.ofValue, Sem.run_pure, Result.andThen_ok, invoke, okFn_call h'.1, Array.empty_append]
        congr 2
        apply Array.ext'
        simp
    · rename_i b
      obtain ⟨p0, hc1, hz⟩ := Option.map_eq_some_iff.1 hc
      generalize hzz : (Option.any (fun x => an.apz.contains x) dst) = zz at hz
      generalize hff : (Option.any (fun x => an.obj.contains x) dst) = ff at hz
      clear hc
      have hc := hc1
      clear hc1
      have pc2 : pureP p0 = true → p0.turnZ zz ff = p0 → Oper.wp P { dst := dst, op := Op.call { callee := Callee.builtin b, args := args, argTypes := tys }, type := ty, pos := pos, after := after, guard := guard } a w next Q := fun hp hq => pure_case (by rw [← hz, hq]; exact hp)
      clear pure_case hc0
      obtain ⟨xs, h1, hc⟩ := Option.bind_eq_some_iff.1 hc
      have hl := ofXs_rel he h1
      have htys : tys = tys.toList.toArray := (Array.toArray_toList).symm
      have hargs : args.map a.eval = (args.toList.map a.eval).toArray := by
        apply Array.ext'
        simp
      have hrun : ∀ {s : Sem Value} {r : Value} {w' : World}, (∀ cs, builtin b tys ty cs (args.map a.eval) = (do pure (Next.value (← s)))) → s.run P w = .ok r w' → (execOp a.eval ⟨dst, .call ⟨.builtin b, args, tys⟩, ty, pos, after, guard⟩).run P w = .ok (.value r) w' := by
        intro s r w' e h
        show ((builtin b tys ty _ (args.map a.eval)).run P w) = _
        rw [e]
        exact run_value h
      have two : ∀ {x y : X}, xs = [x, y] → ∃ o1 o2, args.toList = [o1, o2] ∧ VRel G (x.ev env) (a.eval o1) ∧ VRel G (y.ev env) (a.eval o2) := by
        intro x y e
        rw [e] at hl
        have hlen := hl.1
        simp only [List.length_map, List.length_cons, List.length_nil] at hlen
        generalize args.toList = al at hlen hl
        match al, hlen, hl with
        | [o1, o2], _, hl => exact ⟨o1, o2, rfl, hl.head, hl.tail.head⟩
      unfold compBuiltin at hc
      split at hc
      · have : pureP p0 = true ∧ p0.turnZ zz ff = p0 := by
          split at hc <;> cases hc <;> exact ⟨rfl, rfl⟩
        exact pc2 this.1 this.2
      · cases hc; exact pc2 rfl rfl
      · cases hc; exact pc2 rfl rfl
      · rename_i t u x y hts _
        obtain ⟨o1, o2, ho, hx, hy⟩ := two rfl
        obtain ⟨e, i, z, c1, c2, c3, c4, c5, c6, c7, rfl⟩ := compAppend_some hc
        cases zz with
        | true =>
          replace h : stepP P (.appz i.size i.bytes x y) env st K := by
            cases ff with
            | false =>
              have hpz : p = .appz i.size i.bytes x y := hz.symm
              rw [← hpz]; exact h
            | true =>
              have hpz : p = .appn i.size i.bytes x y := hz.symm
              rw [hpz] at h
              exact stepP_appn h
          have h' : (match elems st i.size (y.ev env) with
            | none => False
            | some (ys, m) =>
              match x.ev env with
              | .sl k cs n =>
                (k = .nil ∨ k = .full) ∧ cs.length = n * i.size ∧ (n + m) * i.bytes ≤ 140737488355328 ∧ (m = 0 → K (.sl k cs n) st) ∧ (m ≠ 0 → K (.sl .some (cs ++ ys) (n + m)) st)
              | .hsl id off sz' n =>
                match st id with
                | some (.cells cs) =>
                  sz' = i.size ∧ (n + m) * i.bytes ≤ 140737488355328 ∧ off = 0 ∧ n * i.size ≤ cs.length ∧
                  K (.sl .some (cs.take (n * i.size) ++ ys) (n + m)) (st.upd id (.ro (cs.take (n * i.size) ++ List.replicate (cs.length - n * i.size) .junk)))
                | _ => False
              | _ => False) := h
          split at h' <;> try (exact h'.elim)
          rename_i ys m hel
          obtain ⟨r, v, w', G', st', g1, g2, g3, g4, g5⟩ := appz_sound (ty := ty) hs c1 c2 c3 c4 c5 c6 c7 hy hel h' hx
          refine wp_of_value (hrun (fun cs => ?_) g1) (hn v r G' st' w' g2 g3 g4 g5)
          simp only [builtin]
          rw [hargs, ho, htys, hts]
          rfl
        | false =>
        replace h : stepP P (.app i.size i.bytes x y) env st K := by
          cases ff with
          | false =>
            have hpz : p = .app i.size i.bytes x y := hz.symm
            rw [← hpz]; exact h
          | true =>
            have hpz : p = .appf i.size i.bytes x y := hz.symm
            rw [hpz] at h
            exact stepP_appf h
        have h' : (match elems st i.size (y.ev env) with
          | none => False
          | some (ys, m) =>
            match x.ev env with
            | .sl k cs n =>
              (k = .nil ∨ k = .full) ∧ cs.length = n * i.size ∧ (n + m) * i.bytes ≤ 140737488355328 ∧
              (m = 0 → K (.sl k cs n) st) ∧ (m ≠ 0 → ∀ id, st id = none → K (.hsl id 0 i.size (n + m)) (st.upd id (.cells (cs ++ ys))))
            | .hsl id off sz' n =>
              match st id with
              | some (.cells cs) =>
                sz' = i.size ∧ (n + m) * i.bytes ≤ 140737488355328 ∧
                if off + (n + m) * i.size ≤ cs.length then K (.hsl id off i.size (n + m)) (st.upd id (.cells (spliceV cs (off + n * i.size) ys)))
                else off = 0 ∧ cs.length = n * i.size ∧ ∀ id', (st.del id) id' = none → K (.hsl id' 0 i.size (n + m)) ((st.del id).upd id' (.cells (cs ++ ys)))
              | _ => False
            | _ => False) := h
        split at h' <;> try (exact h'.elim)
        rename_i ys m hel
        obtain ⟨r, v, w', G', st', g1, g2, g3, g4, g5⟩ := app_sound (ty := ty) hs c1 c2 c3 c4 c5 c6 c7 hy hel h' hx
        refine wp_of_value (hrun (fun cs => ?_) g1) (hn v r G' st' w' g2 g3 g4 g5)
        simp only [builtin]
        rw [hargs, ho, htys, hts]
        rfl
      · rename_i t x hts _
        split at hc <;> try (cases hc; done)
        rename_i e ht
        split at hc <;> try (cases hc; done)
        rename_i sz zs hsz hz2
        cases hc
        have hpz : p = .clear sz zs x := hz.symm
        subst hpz
        clear hz
        have hz := hz2
        have hone : ∃ o1, args.toList = [o1] ∧ VRel G (x.ev env) (a.eval o1) := by
          have hlen := hl.1
          simp only [List.length_map, List.length_cons, List.length_nil] at hlen
          generalize args.toList = al at hlen hl
          match al, hlen, hl with
          | [o1], _, hl => exact ⟨o1, rfl, hl.head⟩
        obtain ⟨o1, ho, hx⟩ := hone
        have h' : (match x.ev env with
          | .hsl id off sz' n =>
            match st id with
            | some (.cells cs) => sz' = sz ∧ zs.length = sz ∧ off + n * sz ≤ cs.length ∧ K .junk (st.upd id (.cells (spliceV cs off (repV zs n))))
            | _ => False
          | .sl .nil [] 0 => K .junk st
          | _ => False) := h
        have hargs1 : args.map a.eval = #[a.eval o1] := by rw [hargs, ho]; rfl
        generalize hxe : x.ev env = xa at h' hx
        cases xa with
        | hsl id off sz' nn =>
          simp only at h'
          split at h' <;> try exact h'.elim
          rename_i cs hst
          obtain ⟨e1, e2, e3, e4⟩ := h'
          subst e1
          obtain ⟨w', g1, g2⟩ := clear_sound (P := P) (ty := ty) hs hx hst ht hz e2 e3
          refine wp_of_value (hrun (fun cs => ?_) g1) (hn .junk _ G _ w' G.le_refl (.junk _) g2 e4)
          simp only [builtin]
          rw [hargs1, htys, hts]
        | sl k cs nn =>
          have hnil : k = .nil ∧ cs = [] ∧ nn = 0 := by
            cases k <;> cases cs <;> cases nn <;> first | exact h'.elim | exact ⟨rfl, rfl, rfl⟩
          obtain ⟨rfl, rfl, rfl⟩ := hnil
          generalize hxo : a.eval o1 = xo at hx hargs1
          cases hx with
          | slnil _ _ =>
            have g1 : (Builtin.clear_ #[t] ty #[.slice none 0 0]).run P w = .ok (.tuple #[]) w := by
              simp [Builtin.clear_, run_underlying ht]
            refine wp_of_value (hrun (fun cs => ?_) g1) (hn .junk _ G _ w G.le_refl (.junk _) hs h')
            simp only [builtin]
            rw [hargs1, htys, hts]
          | sl _ _ _ _ _ _ hk => exact absurd rfl hk
        | _ => exact h'.elim
      · rename_i t u m k hts _
        obtain ⟨o1, o2, ho, hx, hy⟩ := two rfl
        split at hc <;> try (cases hc; done)
        rename_i kt e ht
        obtain ⟨kk, h2, rfl⟩ := Option.map_eq_some_iff.1 hc
        have hpz : p = .mdel kk m k := hz.symm
        subst hpz
        have h' : (match mdelS st kk (m.ev env) (k.ev env) with | some st' => K .junk st' | none => False) := h
        cases hst : mdelS st kk (m.ev env) (k.ev env) with
        | none => rw [hst] at h'; exact h'.elim
        | some st' =>
          rw [hst] at h'
          obtain ⟨w', g1, g2⟩ := mdel_run (P := P) (u := u) (ty := ty) hs ht (compKey_fits h2) hx hy hst
          refine wp_of_value (hrun (fun cs => ?_) g1) (hn .junk _ G st' w' G.le_refl (.junk _) g2 h')
          simp only [builtin]
          rw [hargs, ho, htys, hts]
          rfl
      · cases hc
    · cases hc
  | move x => obtain ⟨y, h1, rfl⟩ := Option.map_eq_some_iff.1 hc; exact pure_case rfl
  | assign x => obtain ⟨y, h1, rfl⟩ := Option.map_eq_some_iff.1 hc; exact pure_case rfl
  | nilCheck x => obtain ⟨y, h1, rfl⟩ := Option.map_eq_some_iff.1 hc; exact pure_case rfl
  | extract x i => obtain ⟨y, h1, rfl⟩ := Option.map_eq_some_iff.1 hc; exact pure_case rfl
  | pick c x y =>
    obtain ⟨c', h1, hc⟩ := bind_some hc
    obtain ⟨x', h2, hc⟩ := bind_some hc
    obtain ⟨y', h3, hc⟩ := bind_some hc
    cases hc
    exact pure_case rfl
  | build t ps =>
    obtain ⟨z, h1, hc⟩ := bind_some hc
    split at hc
    · split at hc <;> try (cases hc; done)
      obtain ⟨q, h2, hc⟩ := bind_some hc
      cases hc
      exact pure_case rfl
    · obtain ⟨s, h0, hc⟩ := bind_some hc
      obtain ⟨q, h2, hc⟩ := bind_some hc
      cases hc
      exact pure_case rfl
    · cases hc
  | load t x =>
    obtain ⟨q, h1, hc⟩ := bind_some hc
    obtain ⟨y, h2, hc⟩ := bind_some hc
    cases hc
    exact pure_case (by split <;> rfl)
  | ready g => cases hc
  | waits g => cases hc
  | binOp op t x y u =>
    obtain ⟨x', hx1, hc⟩ := bind_some hc
    obtain ⟨y', hy1, hc⟩ := bind_some hc
    have bincase : p = .bin op x' y' → pureP p = true := by intro e; subst e; rfl
    refine pure_case ?_
    by_cases h1 : op = .eql
    · subst h1
      obtain ⟨r, h3, hc⟩ := bind_some hc
      cases r with
      | none => exact bincase (Option.some.inj hc).symm
      | some e => cases hc; rfl
    · by_cases h2 : op = .neq
      · subst h2
        obtain ⟨r, h3, hc⟩ := bind_some hc
        cases r with
        | none => exact bincase (Option.some.inj hc).symm
        | some e => cases hc; rfl
      · refine bincase ?_
        cases op <;> first
          | exact absurd rfl h1
          | exact absurd rfl h2
          | exact (Option.some.inj hc).symm
  | unOp op t x =>
    obtain ⟨x', h1, hc⟩ := bind_some hc
    cases op <;> cases hc <;> exact pure_case rfl
  | convert s d x =>
    obtain ⟨x', h1, hc⟩ := bind_some hc
    split at hc
    · cases hc; exact pure_case rfl
    · cases hc; exact pure_case rfl
    · split at hc <;> cases hc
      exact pure_case rfl
    · split at hc <;> cases hc
      exact pure_case rfl
    · cases hc
  | sliceToArrayPointer d x => cases hc
  | makeInterface t x => cases hc
  | makeFunc fn first caps =>
    cases fn <;> simp only [compOp] at hc <;> try (cases hc; done)
    split at hc <;> try (cases hc; done)
    obtain ⟨q, h1, rfl⟩ := Option.map_eq_some_iff.1 hc
    exact pure_case rfl
  | makeChan t x => cases hc
  | slice t x lo hi mx =>
    obtain ⟨x', h1, hc⟩ := bind_some hc
    obtain ⟨lo', h2, hc⟩ := bind_some hc
    obtain ⟨hi', h3, hc⟩ := bind_some hc
    split at hc
    · split at hc <;> cases hc
      exact pure_case rfl
    · obtain ⟨s, h4, hc⟩ := bind_some hc
      obtain ⟨mx', h5, hc⟩ := bind_some hc
      split at hc
      · split at hc <;> (cases hc; exact pure_case rfl)
      · cases hc
        exact pure_case rfl
    · split at hc <;> try (cases hc; done)
      obtain ⟨s, h4, hc⟩ := bind_some hc
      cases hc
      exact pure_case rfl
    · cases hc
  | fieldAddr t x i =>
    simp only [compOp] at hc
    split at hc <;> try (cases hc; done)
    split at hc <;> try (cases hc; done)
    split at hc <;> try (cases hc; done)
    obtain ⟨x', h1, rfl⟩ := Option.map_eq_some_iff.1 hc
    exact pure_case rfl
  | field t x i =>
    simp only [compOp] at hc
    split at hc <;> try (cases hc; done)
    split at hc <;> try (cases hc; done)
    obtain ⟨q, h1, hc⟩ := bind_some hc
    obtain ⟨x', h2, hc⟩ := bind_some hc
    cases hc
    exact pure_case rfl
  | indexAddr t x i =>
    obtain ⟨x', h1, hc⟩ := bind_some hc
    obtain ⟨i', h2, hc⟩ := bind_some hc
    split at hc
    · obtain ⟨s, h3, rfl⟩ := Option.map_eq_some_iff.1 hc
      exact pure_case rfl
    · obtain ⟨s, h3, rfl⟩ := Option.map_eq_some_iff.1 hc
      exact pure_case rfl
    · cases hc
  | index t x i =>
    obtain ⟨x', h1, hc⟩ := bind_some hc
    obtain ⟨i', h2, hc⟩ := bind_some hc
    split at hc
    · obtain ⟨s, h3, hc⟩ := bind_some hc
      obtain ⟨ag, h4, hc⟩ := bind_some hc
      split at hc <;> cases hc
      exact pure_case rfl
    · cases hc
      exact pure_case rfl
    · cases hc
  | lookup t m k ok =>
    simp only [compOp] at hc
    split at hc <;> try (cases hc; done)
    obtain ⟨kk, h1, hc⟩ := bind_some hc
    obtain ⟨z, h2, hc⟩ := bind_some hc
    obtain ⟨m', h3, hc⟩ := bind_some hc
    obtain ⟨k', h4, hc⟩ := bind_some hc
    cases hc
    exact pure_case rfl
  | mapEntry t m k =>
    simp only [compOp] at hc
    split at hc <;> try (cases hc; done)
    rename_i kt e ht
    obtain ⟨kk, h1, hc⟩ := bind_some hc
    obtain ⟨z, h2, hc⟩ := bind_some hc
    obtain ⟨m', h3, hc⟩ := bind_some hc
    obtain ⟨k', h4, hc⟩ := bind_some hc
    cases hc
    obtain ⟨r, u, w', st', g1, g2, g3, g4⟩ := ment_run (P := P) hs ht (compKey_fits h1) h2 h (ofX_rel he h3) (ofX_rel he h4)
    exact wp_of_value (run_value g1) (hn u r G st' w' G.le_refl g2 g3 g4)
  | entryStore t m k x =>
    simp only [compOp] at hc
    obtain ⟨m', h3, hc⟩ := bind_some hc
    obtain ⟨k', h4, hc⟩ := bind_some hc
    obtain ⟨v', h5, hc⟩ := bind_some hc
    cases hc
    have h' : (match entS st (m'.ev env) (k'.ev env) (v'.ev env) with | some st' => K .junk st' | none => False) := h
    cases hst : entS st (m'.ev env) (k'.ev env) (v'.ev env) with
    | none => rw [hst] at h'; exact h'.elim
    | some st' =>
      rw [hst] at h'
      obtain ⟨w', g1, g2⟩ := estore_run (P := P) (t := t) hs (ofX_rel he h3) (ofX_rel he h4) (ofX_rel he h5) hst
      exact wp_of_skip (run_unit g1) (hn .junk undef G st' w' G.le_refl (.junk _) g2 h')
  | range t x =>
    simp only [compOp] at hc
    split at hc <;> try (cases hc; done)
    · rename_i ht
      obtain ⟨y, h1, rfl⟩ := Option.map_eq_some_iff.1 hc
      have h' : (match (match y.ev env with | .str s => some ((AObj.siter s 0, fun id => V.ptr (some (id, 0))) : AObj × (Nat → V)) | _ => none) with | some (ob, mk) => ∀ id, st id = none → K (mk id) (st.upd id ob) | none => False) := h
      have hx := ofX_rel he h1
      generalize hxe : a.eval x = xv at hx
      generalize y.ev env = yv at h' hx
      cases yv <;> simp only at h'
      rename_i s
      cases hx
      obtain ⟨r, w', G', g1, g2, g3, g4, g5⟩ := rngStr_sound (P := P) hs ht s
      exact wp_of_value (by simp only [execOp, hxe]; exact run_value g1) (hn _ r G' _ w' g3 g4 g5 (h' _ g2))
    · rename_i ht
      obtain ⟨y, h1, rfl⟩ := Option.map_eq_some_iff.1 hc
      obtain ⟨r, u, w', G', st', g1, g2, g3, g4, g5⟩ := rngMap_sound (P := P) hs ht h (ofX_rel he h1)
      exact wp_of_value (run_value g1) (hn u r G' st' w' g2 g3 g4 g5)
  | next it s =>
    obtain ⟨y, h1, rfl⟩ := Option.map_eq_some_iff.1 hc
    cases s with
    | true =>
      obtain ⟨r, u, w', G', st', g1, g2, g3, g4, g5⟩ := nextStr_sound (P := P) (ty := ty) hs h (ofX_rel he h1)
      exact wp_of_value (run_value g1) (hn u r G' st' w' g2 g3 g4 g5)
    | false =>
      obtain ⟨r, u, w', G', st', g1, g2, g3, g4, g5⟩ := nextMap_sound (P := P) (ty := ty) hs h (ofX_rel he h1)
      exact wp_of_value (run_value g1) (hn u r G' st' w' g2 g3 g4 g5)
  | entry it =>
    obtain ⟨y, h1, rfl⟩ := Option.map_eq_some_iff.1 hc
    exact pure_case rfl
  | typeAssert x t u ok => cases hc
  | go c => cases hc
  | defer c => cases hc
  | panic x => cases hc
  | send ch x => cases hc
  | recv t ch ok => cases hc
  | select cs b => cases hc
end
end Go.Ab
set_option linter.unusedSimpArgs false
set_option linter.unusedVariables false
namespace Go.Ab
open Go Go.RowKit
theorem add_some {st fr : St} {i : Nat} {o : AObj} (h : st i = some o) : (st.add fr) i = some o := by simp [St.add, h]
theorem add_none {st fr : St} {i : Nat} : (st.add fr) i = none ↔ st i = none ∧ fr i = none := by
  unfold St.add
  cases st i <;> simp
theorem sub_add (st fr : St) : St.sub st (st.add fr) := fun _ _ h => add_some h
theorem upd_add (st fr : St) (id : Nat) (o : AObj) : (st.upd id o).add fr = (st.add fr).upd id o := by
  funext i
  by_cases h : i = id <;> simp [St.add, St.upd, h]
theorem Disj.some {st fr : St} (h : Disj st fr) {i : Nat} {o : AObj} (hi : st i = some o) : fr i = none := (h i).resolve_left (by rw [hi]; simp)
theorem Disj.upd {st fr : St} (h : Disj st fr) {id : Nat} (hid : fr id = none) (o : AObj) : Disj (st.upd id o) fr := fun i => by
  by_cases e : i = id
  · exact .inr (e ▸ hid)
  · simpa [St.upd, e] using h i
theorem Disj.del {st fr : St} (h : Disj st fr) (id : Nat) : Disj (st.del id) fr := fun i => by
  by_cases e : i = id
  · exact .inl (by simp [St.del, e])
  · simpa [St.del, e] using h i
theorem Disj.sub {st st' fr : St} (h : Disj st' fr) (hs : St.sub st st') : Disj st fr := fun i => by
  rcases h i with h | h
  · cases e : st i with
    | none => exact .inl rfl
    | some o => rw [hs i o e] at h; cases h
  · exact .inr h
theorem sub_add_sub {st st' fr : St} (h : St.sub st st') (hd : Disj st' fr) : St.sub (st.add fr) (st'.add fr) := fun i o hi => by
  cases e : st i with
  | some x =>
    rw [add_some e] at hi
    cases hi
    exact add_some (h i _ e)
  | none =>
    simp only [St.add, e] at hi
    have : st' i = none := (hd i).resolve_right (by rw [hi]; simp)
    simp only [St.add, this, hi]
theorem del_add {st fr : St} {id : Nat} (h : fr id = none) : (st.del id).add fr = (st.add fr).del id := by
  funext i
  by_cases e : i = id
  · subst e
    simp [St.add, St.del, h]
  · simp [St.add, St.del, e]
theorem add_assoc (a b c : St) : (a.add b).add c = a.add (b.add c) := by
  funext i
  simp only [St.add]
  cases a i <;> rfl
theorem disj_right {a b c : St} (h : Disj a b) (k : Disj (a.add b) c) : Disj a (b.add c) := fun i => by
  rcases k i with e | e
  · exact .inl (add_none.1 e).1
  · rcases h i with h | h
    · exact .inl h
    · exact .inr (add_none.2 ⟨h, e⟩)
theorem disj_left {a b c : St} (h : Disj a (b.add c)) : Disj a b := fun i => (h i).imp id fun e => (add_none.1 e).1
theorem disj_out {a b c : St} (h : Disj a (b.add c)) (hbc : Disj b c) : Disj (a.add b) c := fun i => by
  rcases hbc i with e | e
  · rcases h i with h | h
    · exact .inl (add_none.2 ⟨h, e⟩)
    · exact .inr (add_none.1 h).2
  · exact .inr e
theorem disj_bc {a b c : St} (k : Disj (a.add b) c) : Disj b c := fun i => by
  rcases k i with e | e
  · exact .inl (add_none.1 e).2
  · exact .inr e
def Beside (fr : St) {α : Type} (K : α → St → Prop) : α → St → Prop := fun v s => ∃ s', Disj s' fr ∧ s = s'.add fr ∧ K v s'
section
variable {P : Program} {st st' fr : St} {env : Env}
theorem seg_sub (h : St.sub st st') {id off sz : Nat} {c : List V} (hc : st.seg id off sz = some c) : st'.seg id off sz = some c := by
  unfold St.seg at *
  cases hid : st id with
  | none => rw [hid] at hc; cases hc
  | some o => rw [hid] at hc; rw [h id o hid]; exact hc
theorem ldCells_sub (h : St.sub st st') {sz : Nat} {v : V} {c : List V} (hc : ldCells st sz v = some c) : ldCells st' sz v = some c := by
  unfold ldCells at *
  split at hc
  · exact seg_sub h hc
  · exact hc
  · cases hc
theorem elems_sub (h : St.sub st st') {sz : Nat} {v : V} {c : List V × Nat} (hc : elems st sz v = some c) : elems st' sz v = some c := by
  unfold elems at *
  split at hc
  · exact hc
  · split at hc <;> try (cases hc; done)
    rename_i e
    rw [if_pos e]
    obtain ⟨l, h1, h2⟩ := Option.map_eq_some_iff.1 hc
    rw [seg_sub h h1]
    simpa using h2
  · exact hc
  · cases hc
theorem opV_sub (h : St.sub st st') {o : POp} {v : V} (hv : opV o env st = some v) : opV o env st' = some v := by
  cases o
  case bsl b sz n z ps => cases b <;> exact hv
  case max l => cases l <;> exact hv
  case min l => cases l <;> exact hv
  case toStr x =>
    simp only [opV, toStrV] at hv ⊢
    split at hv
    · cases hv
    · obtain ⟨l, h1, h2⟩ := Option.bind_eq_some_iff.1 hv
      rw [elems_sub h h1]
      exact h2
  case load ag sz x =>
    simp only [opV] at hv ⊢
    obtain ⟨l, h1, h2⟩ := Option.bind_eq_some_iff.1 hv
    rw [ldCells_sub h h1]
    exact h2
  case slArr al n sz x lo hi =>
    simp only [opV, slArrV] at hv ⊢
    cases hb : bounds env n lo hi with
    | none => rw [hb] at hv; cases hv
    | some q =>
      rw [hb] at hv
      obtain ⟨l, u⟩ := q
      simp only at hv ⊢
      cases al with
      | true =>
        simp only [if_true] at hv ⊢
        split at hv <;> try (cases hv; done)
        rename_i id o hx
        split at hv <;> try (cases hv; done)
        rename_i cs hid
        simp only [hx, h id _ hid]
        exact hv
      | false =>
        simp only [Bool.false_eq_true, if_false] at hv ⊢
        split at hv <;> try (cases hv; done)
        · rename_i id o hx
          split at hv <;> try (cases hv; done)
          rename_i cs hid
          simp only [hx, h id _ hid]
          exact hv
        · rename_i cs hx
          first | exact hv | (simp only [hx]; exact hv)
  case slw sz x lo hi =>
    simp only [opV, slwV] at hv ⊢
    split at hv <;> try (cases hv; done)
    rename_i id off sz' n hx
    split at hv <;> try (cases hv; done)
    rename_i cs hid
    simp only [hx, h id _ hid]
    exact hv
  case lenMap x =>
    simp only [opV, lenMapV] at hv ⊢
    split at hv <;> try (cases hv; done)
    · rename_i hx
      first | exact hv | (simp only [hx]; exact hv)
    · rename_i id hx
      split at hv <;> try (cases hv; done)
      all_goals
        rename_i hid
        simp only [hx, h id _ hid]
        exact hv
  case entry x =>
    simp only [opV, entryV] at hv ⊢
    split at hv <;> try (cases hv; done)
    rename_i it hx
    split at hv <;> try (cases hv; done)
    rename_i id a seen stp hit
    split at hv <;> try (cases hv; done)
    rename_i es bs clk hid
    simp only [hx, h it _ hit, h id _ hid]
    exact hv
  case lookup kk z ok m k =>
    simp only [opV, lookupV] at hv ⊢
    split at hv <;> try (cases hv; done)
    rename_i hk
    rw [if_pos hk]
    obtain ⟨es, h1, h2⟩ := Option.bind_eq_some_iff.1 hv
    have : mapOf st' (m.ev env) = some es := by
      unfold mapOf at *
      split at h1 <;> try (cases h1; done)
      · exact h1
      · rename_i id hx
        split at h1 <;> try (cases h1; done)
        all_goals
          rename_i hid
          simp only [h id _ hid]
          exact h1
    refine Option.bind_eq_some_iff.2 ⟨es, this, h2⟩
  all_goals exact hv
theorem opS_add (hd : Disj st fr) {o : POp} {s : St} (hs : opS o env st = some s) : Disj s fr ∧ opS o env (st.add fr) = some (s.add fr) := by
  have key : ∀ {id : Nat} {ob ob' : AObj}, st id = some ob → Disj (st.upd id ob') fr ∧ (st.add fr).upd id ob' = (st.upd id ob').add fr := fun hid => ⟨hd.upd (hd.some hid) _, (upd_add _ _ _ _).symm⟩
  cases o <;> simp only [opS] at hs <;> try (cases hs; done)
  case store sz x y =>
    simp only [opS, storeS] at hs ⊢
    split at hs <;> try (cases hs; done)
    rename_i id o hx
    split at hs <;> try (cases hs; done)
    rename_i cs hid
    split at hs <;> try (cases hs; done)
    rename_i vs hy
    split at hs <;> cases hs
    rename_i hc
    refine ⟨(key hid).1, ?_⟩
    simp only [hx, add_some hid, hy, if_pos hc, (key hid).2]
  case mset kk m k v =>
    unfold msetS at hs
    split at hs <;> try (cases hs; done)
    rename_i id hx
    split at hs <;> try (cases hs; done)
    rename_i hk
    split at hs <;> try (cases hs; done)
    rename_i es hid
    obtain ⟨es', h1, rfl⟩ := Option.map_eq_some_iff.1 hs
    refine ⟨(key hid).1, ?_⟩
    simp only [opS, msetS, hx, if_pos hk, add_some hid, h1, Option.map_some, (key hid).2]
  case estore m s' v =>
    unfold entS at hs
    split at hs <;> try (cases hs; done)
    rename_i id n hx hy
    split at hs <;> try (cases hs; done)
    rename_i es bs clk hid
    obtain ⟨i, h1, h2⟩ := Option.bind_eq_some_iff.1 hs
    obtain ⟨e, h3, rfl⟩ := Option.map_eq_some_iff.1 h2
    refine ⟨(key hid).1, ?_⟩
    simp only [opS, entS, hx, hy, add_some hid, h1, Option.bind_some, h3, Option.map_some, (key hid).2]
  case mdel kk m k =>
    unfold mdelS at hs
    split at hs <;> try (cases hs; done)
    · rename_i hx
      split at hs <;> cases hs
      rename_i hk
      refine ⟨hd, ?_⟩
      simp only [opS, mdelS, hx, if_pos hk]
    · rename_i id hx
      split at hs <;> try (cases hs; done)
      rename_i hk
      split at hs <;> try (cases hs; done)
      · rename_i es hid
        obtain ⟨es', h1, rfl⟩ := Option.map_eq_some_iff.1 hs
        refine ⟨(key hid).1, ?_⟩
        simp only [opS, mdelS, hx, if_pos hk, add_some hid, h1, Option.map_some, (key hid).2]
      · rename_i es bs clk hid
        obtain ⟨q, h1, h2⟩ := Option.map_eq_some_iff.1 hs
        simp only [opS, mdelS, hx, if_pos hk, add_some hid, h1, Option.map_some]
        cases q with
        | none => cases h2; exact ⟨hd, rfl⟩
        | some j =>
          cases h2
          exact ⟨(key hid).1, congrArg some (key hid).2⟩
theorem opA_same {o : POp} (st st' : St) : opA o env st = opA o env st' := by cases o <;> first | rfl | (rename_i b _ _ _ _; cases b <;> rfl)
theorem ACalls.frame {f : FuncId} {args : List V} {K : V → St → Prop} (hd : Disj st fr) (h : ACalls P f args st K) : ACalls P f args (st.add fr) (Beside fr K) := by
  intro fr2 hd2 B w0 G w xs hs ha
  rw [add_assoc] at hs
  refine (h (fr.add fr2) (disj_right hd hd2) B w0 G w xs hs ha).mono fun e w' ⟨v, x, G', s, h1, h2, h3, h4, h5, h6⟩ => ?_
  exact ⟨v, x, G', s.add fr, h1, h2, h3, disj_out h4 (disj_bc hd2), by rw [add_assoc]; exact h5, s, disj_left h4, rfl, h6⟩
theorem stepP_frame (hd : Disj st fr) (o : POp) {K : V → St → Prop} (h : stepP P o env st K) : stepP P o env (st.add fr) (Beside fr K) := by
  have key : ∀ (o : POp), (if o.makes then match opA o env st with | some (ob, mk) => ∀ id, st id = none → K (mk id) (st.upd id ob) | none => False
      else if o.writes then match opS o env st with | some st' => K .junk st' | none => False
      else match opV o env st with | some v => K v st | none => False) →
      (if o.makes then match opA o env (st.add fr) with | some (ob, mk) => ∀ id, (st.add fr) id = none → Beside fr K (mk id) ((st.add fr).upd id ob) | none => False
      else if o.writes then match opS o env (st.add fr) with | some st' => Beside fr K .junk st' | none => False
      else match opV o env (st.add fr) with | some v => Beside fr K v (st.add fr) | none => False) := by
    intro o h
    split
    · rename_i hm
      rw [if_pos hm] at h
      rw [opA_same (st.add fr) st]
      split <;> rename_i hx <;> rw [hx] at h
      · intro id hid
        obtain ⟨h1, h2⟩ := add_none.1 hid
        exact ⟨_, hd.upd h2 _, (upd_add _ _ _ _).symm, h id h1⟩
      · exact h
    · rename_i hm
      rw [if_neg hm] at h
      split
      · rename_i hw
        rw [if_pos hw] at h
        cases hx : opS o env st with
        | none => rw [hx] at h; exact h.elim
        | some s =>
          rw [hx] at h
          obtain ⟨h1, h2⟩ := opS_add hd hx
          rw [h2]
          exact ⟨s, h1, rfl, h⟩
      · rename_i hw
        rw [if_neg hw] at h
        cases hx : opV o env st with
        | none => rw [hx] at h; exact h.elim
        | some v =>
          rw [hx] at h
          rw [opV_sub (sub_add st fr) hx]
          exact ⟨st, hd, rfl, h⟩
  have key := key o
  cases o
  case call f l => exact ACalls.frame hd h
  case callv f l =>
    simp only [stepP] at h ⊢
    split at h
    · exact ⟨h.1, ACalls.frame hd h.2⟩
    · exact h
  case app sz b x y =>
    simp only [stepP] at h ⊢
    cases he : elems st sz (y.ev env) with
    | none => rw [he] at h; exact h.elim
    | some q =>
      obtain ⟨ys, m⟩ := q
      rw [he] at h
      rw [elems_sub (sub_add st fr) he]
      simp only at h ⊢
      generalize x.ev env = xv at h ⊢
      cases xv with
      | sl k cs n =>
        obtain ⟨h1, h2, h3, h4, h5⟩ := h
        refine ⟨h1, h2, h3, fun e => ⟨st, hd, rfl, h4 e⟩, fun e id hid => ?_⟩
        obtain ⟨g1, g2⟩ := add_none.1 hid
        exact ⟨_, hd.upd g2 _, (upd_add _ _ _ _).symm, h5 e id g1⟩
      | hsl id off sz' n =>
        simp only at h ⊢
        cases hid : st id with
        | none => rw [hid] at h; exact h.elim
        | some ob =>
          rw [hid] at h
          rw [add_some hid]
          cases ob with
          | cells cs =>
            simp only at h ⊢
            obtain ⟨h1, h2, h3⟩ := h
            refine ⟨h1, h2, ?_⟩
            have hf := hd.some hid
            split at h3
            · rename_i hc
              rw [if_pos hc]
              exact ⟨_, hd.upd hf _, (upd_add _ _ _ _).symm, h3⟩
            · rename_i hc
              rw [if_neg hc]
              refine ⟨h3.1, h3.2.1, fun id' hid' => ?_⟩
              rw [← del_add hf] at hid' ⊢
              obtain ⟨g1, g2⟩ := add_none.1 hid'
              exact ⟨_, (hd.del id).upd g2 _, (upd_add _ _ _ _).symm, h3.2.2 id' g1⟩
          | _ => exact h.elim
      | _ => exact h.elim
  case mksl ob sz b z x y =>
    simp only [stepP] at h ⊢
    split at h <;> try exact h
    obtain ⟨h1, h2, h3, h4⟩ := h
    refine ⟨h1, h2, h3, ?_⟩
    split at h4
    · rename_i hc
      rw [if_pos hc]
      intro id hid
      obtain ⟨g1, g2⟩ := add_none.1 hid
      exact ⟨_, hd.upd g2 _, (upd_add _ _ _ _).symm, h4 id g1⟩
    · rename_i hc
      rw [if_neg hc]
      exact ⟨st, hd, rfl, h4⟩
  case clear sz z x =>
    simp only [stepP] at h ⊢
    generalize x.ev env = xv at h ⊢
    cases xv with
    | hsl id off sz' n =>
      simp only at h ⊢
      cases hid : st id with
      | none => rw [hid] at h; exact h.elim
      | some ob =>
        rw [hid] at h
        rw [add_some hid]
        cases ob with
        | cells cs => exact ⟨h.1, h.2.1, h.2.2.1, _, hd.upd (hd.some hid) _, (upd_add _ _ _ _).symm, h.2.2.2⟩
        | _ => exact h.elim
    | sl k cs n => cases k <;> cases cs <;> cases n <;> first | exact h.elim | exact ⟨st, hd, rfl, h⟩
    | _ => exact h.elim
  case nextStr x =>
    simp only [stepP] at h ⊢
    split at h <;> try exact h.elim
    rename_i it hx
    split at h <;> try exact h.elim
    rename_i s pos hit
    simp only [add_some hit]
    split at h
    · rename_i hc
      rw [if_pos hc]
      exact ⟨_, hd.upd (hd.some hit) _, (upd_add _ _ _ _).symm, h⟩
    · rename_i hc
      rw [if_neg hc]
      exact ⟨st, hd, rfl, h⟩
  case rngMap x =>
    simp only [stepP] at h ⊢
    split at h <;> try exact h.elim
    · intro it hit
      obtain ⟨g1, g2⟩ := add_none.1 hit
      exact ⟨_, hd.upd g2 _, (upd_add _ _ _ _).symm, h it g1⟩
    · rename_i id hx
      split at h <;> try exact h.elim
      rename_i es hid
      simp only [add_some hid]
      intro it hit bs clk e1 e2 e3
      obtain ⟨g1, g2⟩ := add_none.1 hit
      refine ⟨_, (hd.upd (hd.some hid) (.mpi es bs clk)).upd g2 _, ?_, h it g1 bs clk e1 e2 e3⟩
      rw [upd_add, upd_add]
  case ment kk zero m k =>
    simp only [stepP] at h ⊢
    split at h <;> try exact h.elim
    rename_i id hx
    split at h <;> try exact h.elim
    rename_i es hid
    simp only [add_some hid]
    refine ⟨h.1, fun bs clk e1 e2 e3 => ?_⟩
    have h2 := h.2 bs clk e1 e2 e3
    split at h2 <;> try exact h2.elim
    · exact ⟨_, hd.upd (hd.some hid) _, (upd_add _ _ _ _).symm, h2⟩
    · exact ⟨_, hd.upd (hd.some hid) _, (upd_add _ _ _ _).symm, h2⟩
  case nextMap x =>
    simp only [stepP] at h ⊢
    split at h <;> try exact h.elim
    rename_i it hx
    split at h <;> try exact h.elim
    · rename_i hit
      simp only [add_some hit]
      exact ⟨st, hd, rfl, h⟩
    · rename_i id since seen stp hit
      simp only [add_some hit]
      split at h <;> try exact h.elim
      rename_i es bs clk hid
      simp only [add_some hid]
      refine ⟨h.1, h.2.1, h.2.2.1, fun e => ⟨st, hd, rfl, h.2.2.2.1 e⟩, fun i hi hn => ⟨_, hd.upd (hd.some hit) _, (upd_add _ _ _ _).symm, h.2.2.2.2 i hi hn⟩⟩
  case appz sz b x y =>
    simp only [stepP] at h ⊢
    cases he : elems st sz (y.ev env) with
    | none => rw [he] at h; exact h.elim
    | some q =>
      obtain ⟨ys, m⟩ := q
      rw [he] at h
      rw [elems_sub (sub_add st fr) he]
      simp only at h ⊢
      generalize x.ev env = xv at h ⊢
      cases xv with
      | sl k cs n =>
        obtain ⟨h1, h2, h3, h4, h5⟩ := h
        exact ⟨h1, h2, h3, fun e => ⟨st, hd, rfl, h4 e⟩, fun e => ⟨st, hd, rfl, h5 e⟩⟩
      | hsl id off sz' n =>
        simp only at h ⊢
        cases hid : st id with
        | none => rw [hid] at h; exact h.elim
        | some ob =>
          rw [hid] at h
          rw [add_some hid]
          cases ob with
          | cells cs =>
            simp only at h ⊢
            obtain ⟨h1, h2, h3, h4, h5⟩ := h
            exact ⟨h1, h2, h3, h4, _, hd.upd (hd.some hid) _, (upd_add _ _ _ _).symm, h5⟩
          | _ => exact h.elim
      | _ => exact h.elim
  case appf sz b x y =>
    simp only [stepP] at h ⊢
    cases he : elems st sz (y.ev env) with
    | none => rw [he] at h; exact h.elim
    | some q =>
      obtain ⟨ys, m⟩ := q
      rw [he] at h
      rw [elems_sub (sub_add st fr) he]
      simp only at h ⊢
      generalize x.ev env = xv at h ⊢
      cases xv with
      | sl k cs n =>
        obtain ⟨h1, h2, h3, h4, h5⟩ := h
        exact ⟨h1, h2, h3, fun e => ⟨st, hd, rfl, h4 e⟩, fun e id hid => ⟨_, hd.upd (add_none.1 hid).2 _, (upd_add _ _ _ _).symm, h5 e id (add_none.1 hid).1⟩⟩
      | _ => exact h.elim
  case appn sz b x y =>
    simp only [stepP] at h ⊢
    cases he : elems st sz (y.ev env) with
    | none => rw [he] at h; exact h.elim
    | some q =>
      obtain ⟨ys, m⟩ := q
      rw [he] at h
      rw [elems_sub (sub_add st fr) he]
      simp only at h ⊢
      generalize x.ev env = xv at h ⊢
      cases xv with
      | sl k cs n =>
        obtain ⟨h1, h2, h3, h4, h5⟩ := h
        exact ⟨h1, h2, h3, fun e => ⟨st, hd, rfl, h4 e⟩, fun e => ⟨st, hd, rfl, h5 e⟩⟩
      | _ => exact h.elim
  all_goals exact key h
theorem stillP_frame (hd : Disj st fr) (o : POp) {K : V → Prop} (h : stillP P o env st K) : stillP P o env (st.add fr) K := by
  have key : ∀ (o : POp), (match opV o env st with | some v => K v | none => False) → (match opV o env (st.add fr) with | some v => K v | none => False) := by
    intro o h
    cases hx : opV o env st with
    | none => rw [hx] at h; exact h.elim
    | some v =>
      rw [hx] at h
      rw [opV_sub (sub_add st fr) hx]
      exact h
  have call : ∀ {f : FuncId} {args : List V} {v : V}, ACalls P f args st (fun v' st' => v' = v ∧ st' = st) → ACalls P f args (st.add fr) (fun v' st' => v' = v ∧ st' = st.add fr) := fun h =>
    (h.frame hd).mono fun u s ⟨s', _, h2, h3, h4⟩ => ⟨h3, by rw [h2, h4]⟩
  have key := key o
  cases o
  case call f l => obtain ⟨v, h1, h2⟩ := h; exact ⟨v, call h1, h2⟩
  case callv f l =>
    simp only [stillP] at h ⊢
    split at h
    · obtain ⟨ho, v, h1, h2⟩ := h
      exact ⟨ho, v, call h1, h2⟩
    · exact h
  case mksl ob sz b z x y => cases ob with
    | false => exact h
    | true => exact h.elim
  all_goals exact key h
theorem still_frame (hd : Disj st fr) (o : POp) {K : V → St → Prop} (h : stillP P o env st fun v => K v st) : stillP P o env (st.add fr) fun v => Beside fr K v (st.add fr) := by
  have h1 := stillP_frame (P := P) (env := env) hd o h
  clear h
  cases o
  case call f l => obtain ⟨v, h2, h3⟩ := h1; exact ⟨v, h2, st, hd, rfl, h3⟩
  case callv f l =>
    simp only [stillP] at h1 ⊢
    split at h1
    · obtain ⟨ho, v, h2, h3⟩ := h1
      exact ⟨ho, v, h2, st, hd, rfl, h3⟩
    · exact h1
  case mksl ob sz b z x y =>
    cases ob with
    | false =>
      simp only [stillP] at h1 ⊢
      split at h1
      · exact ⟨h1.1, st, hd, rfl, h1.2⟩
      · exact h1
    | true => exact h1.elim
  all_goals
    simp only [stillP] at h1 ⊢
    split at h1
    · exact ⟨st, hd, rfl, h1⟩
    · exact h1
theorem stepC_frame (hd : Disj st fr) (c : Cls) (o : POp) {K : V → St → Prop} (h : stepC P c o env st K) : stepC P c o env (st.add fr) (Beside fr K) := by
  cases c with
  | x => exact stepP_frame hd o h
  | a => exact stepP_frame hd o h
  | _ => exact still_frame hd o h
end
end Go.Ab
set_option linter.unusedSimpArgs false
set_option linter.unusedVariables false
namespace Go.Ab
open Go Go.RowKit
def POp.xs : POp → List X
  | .mv x | .nilck x | .not x | .neg x | .inv x | .conv _ x | .same x | .toStr x | .toBytes x | .fldA _ x | .fld _ _ _ x | .load _ _ x | .loadE _ _ x | .lenStr x | .lenSl x | .lenMap x | .ext _ x | .box x | .clear _ _ x | .rngStr x | .nextStr x | .rngMap x | .nextMap x | .entry x => [x]
  | .pick c a b => [c, a, b]
  | .bin _ x y | .eqa _ _ x y | .idxArr _ _ x y | .idxSl _ x y | .idx _ _ _ x y | .idxStr x y | .store _ x y | .lookup _ _ _ x y | .mdel _ x y | .mksl _ _ _ _ x y | .app _ _ x y | .appz _ _ x y | .appf _ _ x y | .appn _ _ x y | .ment _ _ x y => [x, y]
  | .mset _ x y z | .carry _ x y z | .estore x y z => [x, y, z]
  | .build _ ps | .bsl _ _ _ _ ps => ps.map fun p => p.2.2
  | .slStr x lo hi | .slArr _ _ _ x lo hi | .slw _ x lo hi => x :: (lo.toList ++ hi.toList)
  | .sl _ x lo hi mx | .chk3 x lo hi mx => x :: (lo.toList ++ (hi.toList ++ mx.toList))
  | .lenK _ | .mkmap | .alloc _ => []
  | .mkf _ l | .max l | .min l | .call _ l => l
  | .callv f l => f :: l
def X.slots : X → List Nat
  | .t i => [i]
  | .k _ => []
def POp.slots (o : POp) : List Nat := o.xs.flatMap X.slots
def Alike (l : List X) (env env' : Env) : Prop := ∀ x ∈ l, X.ev env x = X.ev env' x
theorem Alike.of {l : List X} {env env' : Env} (h : ∀ t ∈ l.flatMap X.slots, env t = env' t) : Alike l env env' := fun x hx => by
  cases x with
  | t i => exact h i (List.mem_flatMap.2 ⟨_, hx, by simp [X.slots]⟩)
  | k v => rfl
theorem Alike.head {x : X} {l : List X} {env env' : Env} (h : Alike (x :: l) env env') : x.ev env = x.ev env' := h x (by simp)
theorem Alike.tail {x : X} {l : List X} {env env' : Env} (h : Alike (x :: l) env env') : Alike l env env' := fun y hy => h y (by simp [hy])
theorem Alike.left {l m : List X} {env env' : Env} (h : Alike (l ++ m) env env') : Alike l env env' := fun y hy => h y (by simp [hy])
theorem Alike.right {l m : List X} {env env' : Env} (h : Alike (l ++ m) env env') : Alike m env env' := fun y hy => h y (by simp [hy])
theorem Alike.evs {l : List X} {env env' : Env} (h : Alike l env env') : l.map (·.ev env) = l.map (·.ev env') := List.map_congr_left h
theorem Alike.parts {l : List (Nat × Nat × X)} {env env' : Env} (h : Alike (l.map fun p => p.2.2) env env') : l.map (fun p => (p.1, p.2.1, p.2.2.ev env)) = l.map (fun p => (p.1, p.2.1, p.2.2.ev env')) :=
  List.map_congr_left fun p hp => by rw [h p.2.2 (List.mem_map.2 ⟨p, hp, rfl⟩)]
theorem boundOf_alike {x : Option X} {env env' : Env} (h : Alike x.toList env env') (d : Nat) : boundOf env d x = boundOf env' d x := by
  cases x with
  | none => rfl
  | some x => simp only [boundOf, h x (by simp)]
theorem bounds_alike {lo hi : Option X} {env env' : Env} (h : Alike lo.toList env env') (h' : Alike hi.toList env env') (n : Nat) : bounds env n lo hi = bounds env' n lo hi := by
  simp only [bounds, boundOf_alike h, boundOf_alike h']
theorem slV_alike {lo hi mx : Option X} {env env' : Env} (h : Alike lo.toList env env') (h' : Alike hi.toList env env') (h'' : Alike mx.toList env env') (sz : Nat) (v : V) : slV env sz lo hi mx v = slV env' sz lo hi mx v := by
  have hm : ∀ x, mx = some x → x.ev env = x.ev env' := fun x e => h'' x (by simp [e])
  cases v with
  | sl k cs n =>
    simp only [slV, bounds_alike h h']
    generalize bounds env' n lo hi = b
    cases mx with
    | none => cases b <;> rfl
    | some x => cases b with
      | none => rfl
      | some q => simp only [hm x rfl]
  | hsl id off sz' n =>
    simp only [slV, bounds_alike h h']
  | _ => rfl
theorem slArrV_alike {lo hi : Option X} {env env' : Env} (h : Alike lo.toList env env') (h' : Alike hi.toList env env') (st : St) (al : Bool) (n sz : Nat) (v : V) : slArrV st env al n sz lo hi v = slArrV st env' al n sz lo hi v := by
  unfold slArrV
  simp only [bounds_alike h h']
theorem slwV_alike {lo hi : Option X} {env env' : Env} (h : Alike lo.toList env env') (h' : Alike hi.toList env env') (st : St) (sz : Nat) (v : V) : slwV st env sz lo hi v = slwV st env' sz lo hi v := by
  unfold slwV
  simp only [boundOf_alike h, boundOf_alike h']
theorem chk3V_alike {lo hi mx : Option X} {env env' : Env} (h : Alike lo.toList env env') (h' : Alike hi.toList env env') (h'' : Alike mx.toList env env') (v : V) : chk3V env lo hi mx v = chk3V env' lo hi mx v := by
  unfold chk3V
  simp only [boundOf_alike h, boundOf_alike h', boundOf_alike h'']
theorem opV_alike (o : POp) {env env' : Env} (h : Alike o.xs env env') (st : St) : opV o env st = opV o env' st := by
  cases o <;> simp only [POp.xs] at h
  case slStr x lo hi => simp only [opV, h.head, bounds_alike h.tail.left h.tail.right]
  case sl sz x lo hi mx => simp only [opV, h.head, slV_alike h.tail.left h.tail.right.left h.tail.right.right]
  case slArr al n sz x lo hi => simp only [opV, h.head, slArrV_alike h.tail.left h.tail.right]
  case slw sz x lo hi => simp only [opV, h.head, slwV_alike h.tail.left h.tail.right]
  case chk3 x lo hi mx => simp only [opV, h.head, chk3V_alike h.tail.left h.tail.right.left h.tail.right.right]
  case build z ps => simp only [opV, h.parts]
  case bsl b sz n z ps => cases b <;> simp only [opV, h.parts]
  case mkf f l => simp only [opV, h.evs]
  case max l => cases l with | nil => rfl | cons x l => simp only [opV, h.head, h.tail.evs]
  case min l => cases l with | nil => rfl | cons x l => simp only [opV, h.head, h.tail.evs]
  all_goals first
    | rfl
    | (simp only [opV, h.head]; done)
    | (simp only [opV, h.head, h.tail.head]; done)
    | (simp only [opV, h.head, h.tail.head, h.tail.tail.head]; done)
theorem opS_alike (o : POp) {env env' : Env} (h : Alike o.xs env env') (st : St) : opS o env st = opS o env' st := by
  cases o <;> simp only [POp.xs] at h
  all_goals first
    | rfl
    | (simp only [opS, h.head, h.tail.head]; done)
    | (simp only [opS, h.head, h.tail.head, h.tail.tail.head]; done)
theorem opA_alike (o : POp) {env env' : Env} (h : Alike o.xs env env') (st : St) : opA o env st = opA o env' st := by
  cases o <;> simp only [POp.xs] at h
  case bsl b sz n z ps => cases b <;> simp only [opA, h.parts]
  all_goals first
    | rfl
    | (simp only [opA, h.head]; done)
theorem stepP_alike {P : Program} (o : POp) {env env' : Env} (h : Alike o.xs env env') (st : St) (K : V → St → Prop) : stepP P o env st K = stepP P o env' st K := by
  have h1 := opV_alike o h st
  have h2 := opS_alike o h st
  have h3 := opA_alike o h st
  cases o
  case call f l => simp only [POp.xs] at h; simp only [stepP, h.evs]
  case callv f l => simp only [POp.xs] at h; simp only [stepP, h.head, h.tail.evs]
  case app sz b x y => simp only [POp.xs] at h; simp only [stepP, h.head, h.tail.head]
  case mksl ob sz b z x y => simp only [POp.xs] at h; simp only [stepP, h.head, h.tail.head]
  case clear sz z x => simp only [POp.xs] at h; simp only [stepP, h.head]
  case nextStr x => simp only [POp.xs] at h; simp only [stepP, h.head]
  case rngMap x => simp only [POp.xs] at h; simp only [stepP, h.head]
  case nextMap x => simp only [POp.xs] at h; simp only [stepP, h.head]
  case ment kk z x y => simp only [POp.xs] at h; simp only [stepP, h.head, h.tail.head]
  case appz sz b x y => simp only [POp.xs] at h; simp only [stepP, h.head, h.tail.head]
  case appf sz b x y => simp only [POp.xs] at h; simp only [stepP, h.head, h.tail.head]
  case appn sz b x y => simp only [POp.xs] at h; simp only [stepP, h.head, h.tail.head]
  all_goals
    simp only [stepP, h1, h2, h3]
theorem stepP_mono {P : Program} (o : POp) {env : Env} {st : St} {K K' : V → St → Prop} (hk : ∀ v s, K v s → K' v s) (h : stepP P o env st K) : stepP P o env st K' := by
  have key : ∀ (o : POp), (if o.makes then match opA o env st with | some (ob, mk) => ∀ id, st id = none → K (mk id) (st.upd id ob) | none => False
      else if o.writes then match opS o env st with | some st' => K .junk st' | none => False
      else match opV o env st with | some v => K v st | none => False) →
      (if o.makes then match opA o env st with | some (ob, mk) => ∀ id, st id = none → K' (mk id) (st.upd id ob) | none => False
      else if o.writes then match opS o env st with | some st' => K' .junk st' | none => False
      else match opV o env st with | some v => K' v st | none => False) := by
    intro o h
    split
    · rename_i hm
      rw [if_pos hm] at h
      split <;> rename_i hx <;> rw [hx] at h
      · exact fun id hid => hk _ _ (h id hid)
      · exact h
    · rename_i hm
      rw [if_neg hm] at h
      split
      · rename_i hw
        rw [if_pos hw] at h
        split <;> rename_i hx <;> rw [hx] at h
        · exact hk _ _ h
        · exact h
      · rename_i hw
        rw [if_neg hw] at h
        split <;> rename_i hx <;> rw [hx] at h
        · exact hk _ _ h
        · exact h
  have key := key o
  cases o
  case call f l => exact ACalls.mono h hk
  case callv f l =>
    simp only [stepP] at h ⊢
    split at h
    · exact ⟨h.1, ACalls.mono h.2 hk⟩
    · exact h
  case app sz b x y =>
    simp only [stepP] at h ⊢
    cases he : elems st sz (y.ev env) with
    | none => rw [he] at h; exact h
    | some q =>
      obtain ⟨ys, m⟩ := q
      rw [he] at h
      simp only at h ⊢
      generalize x.ev env = xv at h ⊢
      cases xv with
      | sl k cs n =>
        obtain ⟨h1, h2, h3, h4, h5⟩ := h
        exact ⟨h1, h2, h3, fun e => hk _ _ (h4 e), fun e id hid => hk _ _ (h5 e id hid)⟩
      | hsl id off sz' n =>
        simp only at h ⊢
        split at h <;> try exact h
        obtain ⟨h1, h2, h3⟩ := h
        refine ⟨h1, h2, ?_⟩
        split at h3
        · rename_i hc
          rw [if_pos hc]
          exact hk _ _ h3
        · rename_i hc
          rw [if_neg hc]
          exact ⟨h3.1, h3.2.1, fun id' hid' => hk _ _ (h3.2.2 id' hid')⟩
      | _ => exact h
  case mksl ob sz b z x y =>
    simp only [stepP] at h ⊢
    split at h <;> try exact h
    obtain ⟨h1, h2, h3, h4⟩ := h
    refine ⟨h1, h2, h3, ?_⟩
    split at h4
    · rename_i hc
      rw [if_pos hc]
      exact fun id hid => hk _ _ (h4 id hid)
    · rename_i hc
      rw [if_neg hc]
      exact hk _ _ h4
  case clear sz z x =>
    simp only [stepP] at h ⊢
    generalize x.ev env = xv at h ⊢
    cases xv with
    | hsl id off sz' n =>
      simp only at h ⊢
      split at h <;> try exact h
      exact ⟨h.1, h.2.1, h.2.2.1, hk _ _ h.2.2.2⟩
    | sl k cs n => cases k <;> cases cs <;> cases n <;> first | exact h.elim | exact hk _ _ h
    | _ => exact h
  case nextStr x =>
    simp only [stepP] at h ⊢
    split at h <;> try exact h
    split at h <;> try exact h
    split at h
    · rename_i hc
      rw [if_pos hc]
      exact hk _ _ h
    · rename_i hc
      rw [if_neg hc]
      exact hk _ _ h
  case rngMap x =>
    simp only [stepP] at h ⊢
    split at h <;> try exact h
    · exact fun it hit => hk _ _ (h it hit)
    · split at h <;> try exact h
      exact fun it hit bs clk e1 e2 e3 => hk _ _ (h it hit bs clk e1 e2 e3)
  case ment kk z x y =>
    simp only [stepP] at h ⊢
    split at h <;> try exact h
    split at h <;> try exact h
    refine ⟨h.1, fun bs clk e1 e2 e3 => ?_⟩
    have h2 := h.2 bs clk e1 e2 e3
    split at h2 <;> first | exact hk _ _ h2 | exact h2
  case nextMap x =>
    simp only [stepP] at h ⊢
    split at h <;> try exact h
    split at h <;> try exact h
    · exact hk _ _ h
    · split at h <;> try exact h
      exact ⟨h.1, h.2.1, h.2.2.1, fun e => hk _ _ (h.2.2.2.1 e), fun i hi hn => hk _ _ (h.2.2.2.2 i hi hn)⟩
  case appz sz b x y =>
    simp only [stepP] at h ⊢
    cases he : elems st sz (y.ev env) with
    | none => rw [he] at h; exact h
    | some q =>
      obtain ⟨ys, m⟩ := q
      rw [he] at h
      simp only at h ⊢
      generalize x.ev env = xv at h ⊢
      cases xv with
      | sl k cs n =>
        obtain ⟨h1, h2, h3, h4, h5⟩ := h
        exact ⟨h1, h2, h3, fun e => hk _ _ (h4 e), fun e => hk _ _ (h5 e)⟩
      | hsl id off sz' n =>
        simp only at h ⊢
        split at h <;> try exact h
        obtain ⟨h1, h2, h3, h4, h5⟩ := h
        exact ⟨h1, h2, h3, h4, hk _ _ h5⟩
      | _ => exact h
  case appf sz b x y =>
    simp only [stepP] at h ⊢
    cases he : elems st sz (y.ev env) with
    | none => rw [he] at h; exact h
    | some q =>
      obtain ⟨ys, m⟩ := q
      rw [he] at h
      simp only at h ⊢
      generalize x.ev env = xv at h ⊢
      cases xv with
      | sl k cs n =>
        obtain ⟨h1, h2, h3, h4, h5⟩ := h
        exact ⟨h1, h2, h3, fun e => hk _ _ (h4 e), fun e id hid => hk _ _ (h5 e id hid)⟩
      | _ => exact h
  case appn sz b x y =>
    simp only [stepP] at h ⊢
    cases he : elems st sz (y.ev env) with
    | none => rw [he] at h; exact h
    | some q =>
      obtain ⟨ys, m⟩ := q
      rw [he] at h
      simp only at h ⊢
      generalize x.ev env = xv at h ⊢
      cases xv with
      | sl k cs n =>
        obtain ⟨h1, h2, h3, h4, h5⟩ := h
        exact ⟨h1, h2, h3, fun e => hk _ _ (h4 e), fun e => hk _ _ (h5 e)⟩
      | _ => exact h
  all_goals exact key h
theorem stillP_alike {P : Program} (o : POp) {env env' : Env} (h : Alike o.xs env env') (st : St) (K : V → Prop) : stillP P o env st K = stillP P o env' st K := by
  have h1 := opV_alike o h st
  cases o
  case call f l => simp only [POp.xs] at h; simp only [stillP, h.evs]
  case callv f l => simp only [POp.xs] at h; simp only [stillP, h.head, h.tail.evs]
  case mksl ob sz b z x y => cases ob <;> simp only [POp.xs] at h <;> simp only [stillP, h.head, h.tail.head, h1]
  all_goals
    simp only [stillP, h1]
theorem stillP_iff {P : Program} (o : POp) {env : Env} {st : St} {K : V → Prop} : stillP P o env st K ↔ ∃ v, stillP P o env st (· = v) ∧ K v := by
  cases o
  case call f l => simp only [stillP]; exact ⟨fun ⟨v, h, k⟩ => ⟨v, ⟨v, h, rfl⟩, k⟩, fun ⟨v, ⟨u, h, e⟩, k⟩ => ⟨u, h, e ▸ k⟩⟩
  case callv f l =>
    simp only [stillP]
    split
    · exact ⟨fun ⟨ho, v, h, k⟩ => ⟨v, ⟨ho, v, h, rfl⟩, k⟩, fun ⟨v, ⟨ho, u, h, e⟩, k⟩ => ⟨ho, u, h, e ▸ k⟩⟩
    · simp
  case mksl ob sz b z x y =>
    cases ob with
    | true => simp [stillP, opV]
    | false =>
      simp only [stillP]
      split
      · exact ⟨fun ⟨h, k⟩ => ⟨_, ⟨h, rfl⟩, k⟩, fun ⟨v, ⟨h, e⟩, k⟩ => ⟨h, e ▸ k⟩⟩
      · simp
  all_goals
    simp only [stillP]
    split
    · simp
    · simp
def POp.pure : POp → Bool
  | .mv _ | .pick .. | .nilck _ | .bin .. | .eqa .. | .not _ | .neg _ | .inv _ | .conv .. | .same _ | .toBytes _ | .fldA .. | .fld .. | .idxArr .. | .idxSl .. | .idx .. | .idxStr .. | .build .. | .bsl false .. | .slStr .. | .sl .. | .lenStr _ | .lenSl _ | .lenK _ | .mkf .. | .ext .. | .max _ | .min _ | .chk3 .. | .mksl false .. | .carry .. | .loadE .. => true
  | _ => false
theorem stillP_pure {P : Program} {o : POp} (hp : o.pure = true) {env : Env} {st st' : St} {K : V → Prop} : stillP P o env st K = stillP P o env st' K := by
  cases o
  case bsl b sz n z ps => cases b <;> first | rfl | (simp [POp.pure] at hp; done)
  case mksl ob sz b z x y => cases ob <;> first | rfl | (simp [POp.pure] at hp; done)
  case max l => cases l <;> rfl
  case min l => cases l <;> rfl
  all_goals first
    | rfl
    | (simp [POp.pure] at hp; done)
theorem guardP_mono {g : Option (Nat × Bool)} {env : Env} {p p' q q' : Prop} (hp : p → p') (hq : q → q') (h : guardP g env p q) : guardP g env p' q' := by
  unfold guardP at *
  split
  · exact hp h
  · rename_i t b
    simp only at h
    split at h
    · split at h
      · rename_i hc
        rw [if_pos hc]
        exact hp h
      · rename_i hc
        rw [if_neg hc]
        exact hq h
    · exact hq h
    · exact h
def PO.reads (o : PO) : List Nat := o.op.slots ++ (match o.guard with | some (t, _) => [t] | none => [])
def PO.apart (p q : PO) : Bool :=
  (match p.dst with | some d => !q.reads.contains d && q.dst != some d | none => true) && (match q.dst with | some d => !p.reads.contains d | none => true)
theorem PO.apart_spec {p q : PO} (h : p.apart q = true) : (∀ d, p.dst = some d → d ∉ q.reads) ∧ (∀ d, p.dst = some d → q.dst ≠ some d) ∧ (∀ d, q.dst = some d → d ∉ p.reads) := by
  refine ⟨fun d hd => ?_, fun d hd => ?_, fun d hd => ?_⟩ <;> simp [PO.apart, hd] at h
  · exact h.1.1
  · exact h.1.2
  · exact h.2
theorem put_reads {o : PO} {env : Env} {d : Option Nat} {v : V} (h : ∀ x, d = some x → x ∉ o.reads) : ∀ t ∈ o.reads, (env.put d v) t = env t := by
  intro t ht
  cases d with
  | none => rfl
  | some x =>
    have : t ≠ x := fun e => h x rfl (e ▸ ht)
    simp [Env.put, Env.upd, this]
theorem put_alike {o : PO} {env : Env} {d : Option Nat} {v : V} (h : ∀ x, d = some x → x ∉ o.reads) : Alike o.op.xs (env.put d v) env :=
  Alike.of fun t ht => put_reads h t (List.mem_append_left _ ht)
theorem put_guard {o : PO} {env : Env} {d : Option Nat} {v : V} (h : ∀ x, d = some x → x ∉ o.reads) (p q : Prop) : guardP o.guard (env.put d v) p q = guardP o.guard env p q := by
  unfold guardP
  cases hg : o.guard with
  | none => rfl
  | some g =>
    obtain ⟨t, b⟩ := g
    have := put_reads (env := env) (v := v) h t (List.mem_append_right _ (by simp [hg]))
    simp only [this]
theorem put_comm {env : Env} {x y : Option Nat} {v u : V} (h : ∀ d, x = some d → y ≠ some d) : (env.put x v).put y u = (env.put y u).put x v := by
  cases x with
  | none => rfl
  | some d =>
    cases y with
    | none => rfl
    | some e =>
      have hne : d ≠ e := fun he => h d rfl (he ▸ rfl)
      funext t
      simp only [Env.put, Env.upd]
      by_cases h1 : t = e
      · subst h1
        rw [if_pos rfl, if_neg (fun q => hne q.symm), if_pos rfl]
      · rw [if_neg h1, if_neg h1]
def stillG (P : Program) (o : PO) (env : Env) (st : St) (v : V) : Prop := guardP o.guard env (stillP P o.op env st (· = v)) (v = .tup [])
theorem guard_still {P : Program} (o : PO) {env : Env} {st : St} {K : V → Prop} : guardP o.guard env (stillP P o.op env st K) (K (.tup [])) ↔ ∃ v, stillG P o env st v ∧ K v := by
  have h0 : ∀ {p q : V → Prop}, (∃ v, (p v ∧ q v)) ↔ ∃ v, p v ∧ q v := Iff.rfl
  unfold stillG guardP
  cases hg : o.guard with
  | none => exact stillP_iff o.op
  | some g =>
    obtain ⟨t, b⟩ := g
    simp only
    split
    · split
      · exact stillP_iff o.op
      · simp
    · simp
    · simp
def stepG (P : Program) (c : Cls) (o : PO) (env : Env) (st : St) (K : V → St → Prop) : Prop := guardP o.guard env (stepC P c o.op env st K) (K (.tup []) st)
theorem runD_cons {P : Program} {c : Cls} {o : PO} {l : List (Cls × PO)} {env : Env} {st : St} {K : Env → St → Prop} :
    runD P ((c, o) :: l) env st K = stepG P c o env st fun v st' => runD P l (env.put o.dst v) st' K := rfl
theorem stepG_still {P : Program} {c : Cls} (hc : c = .e ∨ c = .s) (o : PO) {env : Env} {st : St} {K : V → St → Prop} : stepG P c o env st K ↔ ∃ v, stillG P o env st v ∧ K v st := by
  rcases hc with rfl | rfl <;> exact guard_still o (K := fun v => K v st)
theorem stepG_mono {P : Program} {c : Cls} {o : PO} {env : Env} {st : St} {K K' : V → St → Prop} (hk : ∀ v s, K v s → K' v s) (h : stepG P c o env st K) : stepG P c o env st K' := by
  refine guardP_mono (fun h => ?_) (hk _ _) h
  cases c with
  | x => exact stepP_mono _ hk h
  | a => exact stepP_mono _ hk h
  | _ =>
    obtain ⟨v, h1, h2⟩ := (stillP_iff o.op).1 h
    exact (stillP_iff o.op).2 ⟨v, h1, hk _ _ h2⟩
theorem stillG_put {P : Program} {o : PO} {env : Env} {st : St} {v : V} {d : Option Nat} {u : V} (h : ∀ x, d = some x → x ∉ o.reads) : stillG P o (env.put d u) st v = stillG P o env st v := by
  unfold stillG
  rw [put_guard h, stillP_alike o.op (put_alike h)]
theorem stepG_put {P : Program} {o : PO} {env : Env} {st : St} {K : V → St → Prop} {d : Option Nat} {u : V} (h : ∀ x, d = some x → x ∉ o.reads) : stepG P .x o (env.put d u) st K = stepG P .x o env st K := by
  unfold stepG stepC
  rw [put_guard h, stepP_alike o.op (put_alike h)]
theorem stillG_pure {P : Program} {o : PO} (hp : o.op.pure = true) {env : Env} {st st' : St} {v : V} : stillG P o env st v = stillG P o env st' v := by
  unfold stillG
  rw [stillP_pure hp (st := st) (st' := st')]
theorem stepG_frame {P : Program} {c : Cls} {o : PO} {env : Env} {st fr : St} {K : V → St → Prop} (hd : Disj st fr) (h : stepG P c o env st K) : stepG P c o env (st.add fr) (Beside fr K) :=
  guardP_mono (fun h => stepC_frame hd c o.op h) (fun h => ⟨st, hd, rfl, h⟩) h
def PO.allocs (o : PO) : Bool := o.guard.isNone && match o.op with | .alloc _ | .mkmap => true | _ => false
def okX (conf : List (Nat × Nat)) (p q : POp) : Bool := match p, q with
  | .slArr false .., .app .. | .slArr false .., .appf .. | .slArr false .., .store .. | .load .., .appf .. | .load .., .appn .. | .load .., .mksl true .. | .slArr false .., .mksl true .. => true
  | .load _ _ (.t a), .store _ (.t b) _ => conf.contains (a, b)
  | _, _ => false
def okPair (conf : List (Nat × Nat)) (p q : Cls × PO) : Bool :=
  p.2.apart q.2 && match q.1, p.1 with
    | .a, _ => q.2.allocs
    | .x, .e => p.2.op.pure
    | .x, .s => p.2.guard.isNone && q.2.guard.isNone && okX conf p.2.op q.2.op
    | .e, .e | .e, .s | .s, .e | .s, .s => true
    | _, _ => false
theorem seg_keep {st s : St} {id : Nat} (h : s id = st id) (o sz : Nat) : s.seg id o sz = st.seg id o sz := by
  unfold St.seg
  rw [h]
theorem slArr_keep {st s : St} (h : ∀ id cs, st id = some (.ro cs) → s id = some (.ro cs)) {env : Env} {n sz : Nat} {lo hi : Option X} {x v : V} (hv : slArrV st env false n sz lo hi x = some v) : slArrV s env false n sz lo hi x = some v := by
  unfold slArrV at hv ⊢
  split at hv
  · cases hv
  · rename_i b l u hb
    simp only [Bool.false_eq_true, if_false] at hv ⊢
    split at hv
    · rename_i id o
      split at hv
      · rename_i cs hc
        simp only [h _ _ hc]
        exact hv
      · cases hv
    · exact hv
    · cases hv
theorem okX_keeps {P : Program} {conf : List (Nat × Nat)} {p q : POp} (hx : okX conf p q = true) {env : Env} (hc : Conf conf env) {st : St} {K : V → St → Prop} {u : V} (hu : opV p env st = some u) (h : stepP P q env st K) :
    stepP P q env st fun v s => K v s ∧ opV p env s = some u := by
  have key : ∀ {R : St → Prop}, (∀ s, (∀ id ob, st id = some ob → s id = some ob) → R s) → ∀ id ob, st id = none → R (st.upd id ob) := fun hR id ob hid => hR _ fun j o hj => by
    have : j ≠ id := fun e => by rw [e, hid] at hj; cases hj
    simp [St.upd, this, hj]
  have grows : ∀ s : St, (∀ id ob, st id = some ob → s id = some ob) → opV p env s = some u := fun s hs => opV_sub hs hu
  have ro : ∀ s : St, (∀ id cs, st id = some (.ro cs) → s id = some (.ro cs)) → (∃ al n sz x lo hi, p = .slArr al n sz x lo hi ∧ al = false) → opV p env s = some u := by
    rintro s hs ⟨al, n, sz, x, lo, hi, rfl, rfl⟩
    exact slArr_keep hs hu
  cases q <;> try (cases p <;> simp [okX] at hx; done)
  case mksl ob sz b z l c =>
    cases ob with
    | false => cases p <;> simp [okX] at hx
    | true =>
      simp only [stepP] at h ⊢
      split at h <;> try exact h
      refine ⟨h.1, h.2.1, h.2.2.1, ?_⟩
      have h4 := h.2.2.2
      simp only [if_true] at h4 ⊢
      exact fun id hid => ⟨h4 id hid, key grows _ _ hid⟩
  case appf sz b x y =>
    simp only [stepP] at h ⊢
    split at h
    · exact h
    · split at h
      · exact ⟨h.1, h.2.1, h.2.2.1, fun e => ⟨h.2.2.2.1 e, hu⟩, fun e id hid => ⟨h.2.2.2.2 e id hid, key grows _ _ hid⟩⟩
      · exact h
  case appn sz b x y =>
    simp only [stepP] at h ⊢
    split at h
    · exact h
    · split at h
      · exact ⟨h.1, h.2.1, h.2.2.1, fun e => ⟨h.2.2.2.1 e, hu⟩, fun e => ⟨h.2.2.2.2 e, hu⟩⟩
      · exact h
  case app sz b x y =>
    have hp : ∃ al n sz x lo hi, p = .slArr al n sz x lo hi ∧ al = false := by
      cases p <;> simp [okX] at hx
      rename_i al n sz x lo hi
      cases al
      · exact ⟨_, _, _, _, _, _, rfl, rfl⟩
      · simp at hx
    simp only [stepP] at h ⊢
    split at h
    · exact h
    · split at h
      · exact ⟨h.1, h.2.1, h.2.2.1, fun e => ⟨h.2.2.2.1 e, hu⟩, fun e id hid => ⟨h.2.2.2.2 e id hid, key grows _ _ hid⟩⟩
      · split at h
        · rename_i id off sz' n _ _ cs hid
          refine ⟨h.1, h.2.1, ?_⟩
          have h3 := h.2.2
          split at h3
          · rename_i hle
            rw [if_pos hle]
            refine ⟨h3, ro _ (fun j c hj => ?_) hp⟩
            have : j ≠ id := fun e => by rw [e, hid] at hj; cases hj
            simp [St.upd, this, hj]
          · rename_i hle
            rw [if_neg hle]
            refine ⟨h3.1, h3.2.1, fun id' hid' => ⟨h3.2.2 id' hid', ro _ (fun j c hj => ?_) hp⟩⟩
            have h1 : j ≠ id := fun e => by rw [e, hid] at hj; cases hj
            have h2 : j ≠ id' := fun e => by
              rw [← e] at hid'
              simp [St.del, h1, hj] at hid'
            simp [St.upd, St.del, h1, h2, hj]
        · exact h
      · exact h
  case store sz x y =>
    have h' : (match storeS st sz (x.ev env) (y.ev env) with | some st' => K .junk st' | none => False) := h
    show (match storeS st sz (x.ev env) (y.ev env) with | some st' => K .junk st' ∧ opV p env st' = some u | none => False)
    cases hst : storeS st sz (x.ev env) (y.ev env) with
    | none => rw [hst] at h'; exact h'.elim
    | some st' =>
      rw [hst] at h'
      refine ⟨h', ?_⟩
      unfold storeS at hst
      split at hst <;> try (cases hst; done)
      rename_i _ id o hxe
      split at hst <;> try (cases hst; done)
      rename_i cs hid
      split at hst <;> try (cases hst; done)
      rename_i vs hvs
      split at hst <;> cases hst
      have other : ∀ j, j ≠ id → (st.upd id (.cells (spliceV cs o vs))) j = st j := fun j hj => by simp [St.upd, hj]
      cases p <;> try (simp [okX] at hx; done)
      case slArr al n sz' x' lo hi =>
        cases al
        · refine ro _ (fun j c hj => ?_) ⟨_, _, _, _, _, _, rfl, rfl⟩
          rw [other j (fun e => by rw [e, hid] at hj; cases hj), hj]
        · simp [okX] at hx
      case load ag sz' x' =>
        cases x' with
        | k v => simp [okX] at hx
        | t a =>
          cases x with
          | k v => simp [okX] at hx
          | t b =>
            simp only [okX, List.contains_iff_mem] at hx
            have hap := hc _ hx
            simp only at hap
            have hb : env b = .ptr (some (id, o)) := hxe
            rw [hb] at hap
            unfold apartV at hap
            split at hap
            · rename_i i1 o1 i2 o2 ha hb'
              cases hb'
              have hseg := seg_keep (other i1 hap) o1 sz'
              simp only [opV, X.ev, ha, ldCells, hseg] at hu ⊢
              exact hu
            · exact hap.elim
theorem move_still {P : Program} {conf : List (Nat × Nat)} {ci : Cls} {i : PO} (hci : ci = .e ∨ ci = .s) {l2 : List (Cls × PO)} {K : Env → St → Prop} : ∀ (l1 : List (Cls × PO)) (env : Env) (st : St), (∀ p ∈ l1, okPair conf p (ci, i) = true) →
    runD P (l1 ++ (ci, i) :: l2) env st K → runD P ((ci, i) :: (l1 ++ l2)) env st K
  | [], env, st, _, h => h
  | (cj, j) :: l1, env, st, hok, h => by
    have hp := hok (cj, j) (by simp)
    simp only [okPair, Bool.and_eq_true] at hp
    obtain ⟨hap, hp⟩ := hp
    have hcj : cj = .e ∨ cj = .s := by rcases hci with rfl | rfl <;> cases cj <;> simp at hp ⊢
    obtain ⟨a1, a2, a3⟩ := PO.apart_spec hap
    rw [List.cons_append, runD_cons, stepG_still hcj] at h
    obtain ⟨vj, h1, h2⟩ := h
    have ih := move_still hci l1 _ st (fun p hp => hok p (by simp [hp])) h2
    rw [runD_cons, stepG_still hci] at ih
    obtain ⟨vi, h3, h4⟩ := ih
    rw [stillG_put a1] at h3
    rw [runD_cons, stepG_still hci]
    refine ⟨vi, h3, ?_⟩
    rw [List.cons_append, runD_cons, stepG_still hcj]
    refine ⟨vj, ?_, ?_⟩
    · rw [stillG_put a3]
      exact h1
    · rw [← put_comm a2]
      exact h4
theorem conf_put {conf : List (Nat × Nat)} {env : Env} (h : Conf conf env) {d : Option Nat} (hd : ∀ x, d = some x → ∀ r ∈ conf, x ≠ r.1 ∧ x ≠ r.2) (v : V) : Conf conf (env.put d v) := fun r hr => by
  have := h r hr
  cases d with
  | none => exact this
  | some x =>
    obtain ⟨h1, h2⟩ := hd x rfl r hr
    simp only [Env.put, Env.upd]
    rw [if_neg (fun e => h1 e.symm), if_neg (fun e => h2 e.symm)]
    exact this
theorem move_step {P : Program} {conf : List (Nat × Nat)} {i : PO} {l2 : List (Cls × PO)} {K : Env → St → Prop} : ∀ (l1 : List (Cls × PO)) (env : Env) (st : St), Conf conf env → (∀ p ∈ l1, ∀ d, p.2.dst = some d → ∀ r ∈ conf, d ≠ r.1 ∧ d ≠ r.2) → (∀ p ∈ l1, okPair conf p (.x, i) = true) →
    runD P (l1 ++ (.x, i) :: l2) env st K → runD P ((.x, i) :: (l1 ++ l2)) env st K
  | [], env, st, _, _, _, h => h
  | (cj, j) :: l1, env, st, hconf, hun, hok, h => by
    have hp := hok (cj, j) (by simp)
    simp only [okPair, Bool.and_eq_true] at hp
    obtain ⟨hap, hp⟩ := hp
    obtain ⟨a1, a2, a3⟩ := PO.apart_spec hap
    have hcj : cj = .e ∨ cj = .s := by cases cj <;> simp at hp ⊢
    rw [List.cons_append, runD_cons, stepG_still hcj] at h
    obtain ⟨vj, h1, h2⟩ := h
    have ih := move_step l1 _ st (conf_put hconf (hun (cj, j) (by simp)) vj) (fun p hp => hun p (by simp [hp])) (fun p hp => hok p (by simp [hp])) h2
    rw [runD_cons, stepG_put a1] at ih
    rw [runD_cons]
    rcases hcj with rfl | rfl
    · have hpu : j.op.pure = true := hp
      refine stepG_mono (fun v s h3 => ?_) ih
      rw [List.cons_append, runD_cons, stepG_still (.inl rfl)]
      refine ⟨vj, ?_, ?_⟩
      · rw [stillG_put a3, stillG_pure hpu (st := s) (st' := st)]
        exact h1
      · rw [← put_comm a2]
        exact h3
    · simp only [Bool.and_eq_true, Option.isNone_iff_eq_none] at hp
      obtain ⟨⟨g1, g2⟩, hx⟩ := hp
      have hop : opV j.op env st = some vj := by
        unfold stillG guardP at h1
        rw [g1] at h1
        simp only at h1
        obtain ⟨dst, op, g⟩ := j
        cases op <;> try (cases hi : i.op <;> simp [okX, hi] at hx; done)
        all_goals
          simp only [stillP] at h1 ⊢
          split at h1
          · rename_i v hv
            rw [hv, h1]
          · exact h1.elim
      have ih' : stepP P i.op env st fun v s => runD P (l1 ++ l2) ((env.put j.dst vj).put i.dst v) s K := by
        unfold stepG guardP at ih
        rw [g2] at ih
        exact ih
      have ih2 := okX_keeps hx hconf hop ih'
      show guardP i.guard env (stepP P i.op env st _) _
      unfold guardP
      rw [g2]
      refine stepP_mono _ (fun v s h3 => ?_) ih2
      rw [List.cons_append, runD_cons, stepG_still (.inr rfl)]
      refine ⟨vj, ?_, ?_⟩
      · rw [stillG_put a3]
        unfold stillG guardP
        rw [g1]
        simp only
        have h4 := h3.2
        obtain ⟨dst, op, g⟩ := j
        cases op <;> try (cases hi : i.op <;> simp [okX, hi] at hx; done)
        all_goals
          simp only [stillP] at h4 ⊢
          rw [h4]
      · rw [← put_comm a2]
        exact h3.1
theorem stepG_putC {P : Program} {c : Cls} {o : PO} {env : Env} {st : St} {K : V → St → Prop} {d : Option Nat} {u : V} (h : ∀ x, d = some x → x ∉ o.reads) : stepG P c o (env.put d u) st K = stepG P c o env st K := by
  unfold stepG stepC
  rw [put_guard h]
  cases c <;> simp only [stepP_alike o.op (put_alike h), stillP_alike o.op (put_alike h)]
theorem allocs_spec {P : Program} {i : PO} (h : i.allocs = true) : ∃ (ob : AObj) (mk : Nat → V), ∀ (env : Env) (st : St) (K : V → St → Prop), stepG P .a i env st K ↔ ∀ id, st id = none → K (mk id) (st.upd id ob) := by
  obtain ⟨dst, op, g⟩ := i
  simp only [PO.allocs, Bool.and_eq_true, Option.isNone_iff_eq_none] at h
  obtain ⟨rfl, h⟩ := h
  cases op <;> first | (cases h; done) | skip
  · exact ⟨.mp [], fun id => .map (some id), fun env st K => Iff.rfl⟩
  · rename_i z
    exact ⟨.cells z, fun id => .ptr (some (id, 0)), fun env st K => Iff.rfl⟩
theorem move_alloc {P : Program} {conf : List (Nat × Nat)} {i : PO} (hi : i.allocs = true) {l2 : List (Cls × PO)} {K : Env → St → Prop} : ∀ (l1 : List (Cls × PO)) (env : Env) (st : St), (∀ p ∈ l1, okPair conf p (.a, i) = true) →
    runD P (l1 ++ (.a, i) :: l2) env st K → runD P ((.a, i) :: (l1 ++ l2)) env st K
  | [], env, st, _, h => h
  | (cj, j) :: l1, env, st, hok, h => by
    have hp := hok (cj, j) (by simp)
    simp only [okPair, Bool.and_eq_true] at hp
    obtain ⟨a1, a2, a3⟩ := PO.apart_spec hp.1
    obtain ⟨ob, mk, hal⟩ := allocs_spec (P := P) hi
    rw [List.cons_append, runD_cons] at h
    rw [runD_cons, hal]
    intro id hid
    have hd : Disj st (fun k => if k = id then some ob else none) := fun k => by
      by_cases e : k = id
      · exact .inl (e ▸ hid)
      · exact .inr (by simp [e])
    have hadd : ∀ s : St, s id = none → s.add (fun k => if k = id then some ob else none) = s.upd id ob := fun s hs => by
      funext k
      by_cases e : k = id
      · subst e
        simp [St.add, St.upd, hs]
      · simp only [St.add, St.upd, e, if_false]
        cases s k <;> rfl
    have h1 := stepG_frame hd h
    rw [hadd st hid] at h1
    rw [List.cons_append, runD_cons, stepG_putC a3]
    refine stepG_mono (fun v s hk => ?_) h1
    obtain ⟨s', hd', rfl, hk⟩ := hk
    have hs' : s' id = none := (hd' id).resolve_right (by simp)
    have ih := move_alloc hi l1 _ s' (fun p hp => hok p (by simp [hp])) hk
    rw [runD_cons, hal] at ih
    have := ih id hs'
    rw [hadd s' hs', ← put_comm a2]
    exact this
theorem move {P : Program} {conf : List (Nat × Nat)} {q : Cls × PO} {l1 l2 : List (Cls × PO)} {K : Env → St → Prop} {env : Env} {st : St} (hconf : Conf conf env) (hun : ∀ p ∈ l1, ∀ d, p.2.dst = some d → ∀ r ∈ conf, d ≠ r.1 ∧ d ≠ r.2) (hok : ∀ p ∈ l1, okPair conf p q = true) (h : runD P (l1 ++ q :: l2) env st K) : runD P (q :: (l1 ++ l2)) env st K := by
  obtain ⟨c, o⟩ := q
  cases c with
  | x => exact move_step l1 env st hconf hun hok h
  | e => exact move_still (.inl rfl) l1 env st hok h
  | s => exact move_still (.inr rfl) l1 env st hok h
  | a =>
    cases l1 with
    | nil => exact h
    | cons p l1 =>
      have := hok p (by simp)
      simp only [okPair, Bool.and_eq_true] at this
      exact move_alloc this.2 _ env st hok h
theorem Same.trans {W : List Nat} {a b c : Env} (h : Same W a b) (k : Same W b c) : Same W a c := fun t ht => (k t ht).trans (h t ht)
theorem Same.mono {W W' : List Nat} {a b : Env} (hw : ∀ t ∈ W, t ∈ W') (h : Same W a b) : Same W' a b := fun t ht => h t fun e => ht (hw t e)
theorem Same.put (env : Env) (d : Option Nat) (v : V) : Same d.toList env (env.put d v) := fun t ht => by
  cases d with
  | none => rfl
  | some x =>
    have : t ≠ x := by simpa using ht
    simp [Env.put, Env.upd, this]
theorem runP_frame {P : Program} {K K' : Env → St → Prop} : ∀ (l : List PO) (env : Env) (st : St), (∀ env' st', Same (l.flatMap (·.dst.toList)) env env' → K env' st' → K' env' st') → runP P l env st K → runP P l env st K'
  | [], env, st, hk, h => hk _ _ (Same.refl _ _) h
  | o :: l, env, st, hk, h => by
    have next : ∀ v st', runP P l (env.put o.dst v) st' K → runP P l (env.put o.dst v) st' K' := fun v st' h =>
      runP_frame l _ st' (fun env' st' hs hk' => hk _ _ (((Same.put env o.dst v).mono (by intro t ht; simp only [List.flatMap_cons, List.mem_append]; exact .inl ht)).trans (hs.mono (by intro t ht; simp only [List.flatMap_cons, List.mem_append]; exact .inr ht))) hk') h
    exact guardP_mono (stepP_mono _ next) (next _ _) h
theorem runD_frame {P : Program} {K K' : Env → St → Prop} : ∀ (l : List (Cls × PO)) (env : Env) (st : St), (∀ env' st', Same (l.flatMap (·.2.dst.toList)) env env' → K env' st' → K' env' st') → runD P l env st K → runD P l env st K'
  | [], env, st, hk, h => hk _ _ (Same.refl _ _) h
  | (c, o) :: l, env, st, hk, h => by
    have next : ∀ v st', runD P l (env.put o.dst v) st' K → runD P l (env.put o.dst v) st' K' := fun v st' h =>
      runD_frame l _ st' (fun env' st' hs hk' => hk _ _ (((Same.put env o.dst v).mono (by intro t ht; simp only [List.flatMap_cons, List.mem_append]; exact .inl ht)).trans (hs.mono (by intro t ht; simp only [List.flatMap_cons, List.mem_append]; exact .inr ht))) hk') h
    rw [runD_cons] at h ⊢
    exact stepG_mono next h
theorem frzP_frame {K K' : Env → St → Prop} : ∀ (l : List Nat) (env : Env) (st : St), (∀ env' st', Same l env env' → K env' st' → K' env' st') → frzP l env st K → frzP l env st K'
  | [], env, st, hk, h => hk _ _ (Same.refl _ _) h
  | t :: l, env, st, hk, h => by
    simp only [frzP] at h ⊢
    split at h <;> try exact h
    rename_i v s hv
    exact frzP_frame l _ s (fun env' st' hs hk' => hk _ _ (((Same.put env (some t) v).mono (by intro t ht; simpa using Or.inl (by simpa using ht))).trans (hs.mono (by intro t ht; simp [ht]))) hk') h
theorem vc_frame {P : Program} : ∀ (c : PC) (Q Q' : Ex → Env → St → Prop) (env : Env) (st : St), (∀ e env' st', Same c.writes env env' → Q e env' st' → Q' e env' st') → vc P c Q env st → vc P c Q' env st := by
  intro c
  induction c with
  | skip => exact fun Q Q' env st hq h => hq _ _ _ (Same.refl _ _) h
  | exit id => exact fun Q Q' env st hq h => hq _ _ _ (Same.refl _ _) h
  | ret => exact fun Q Q' env st hq h => hq _ _ _ (Same.refl _ _) h
  | ops l => exact fun Q Q' env st hq h => runP_frame l env st (fun env' st' hs => hq _ _ _ hs) h
  | draw l => exact fun Q Q' env st hq h => runD_frame l env st (fun env' st' hs => hq _ _ _ hs) h
  | draw2 conf l => exact fun Q Q' env st hq h => ⟨h.1, runD_frame l env st (fun env' st' hs => hq _ _ _ hs) h.2⟩
  | draw3 pre x y post =>
    intro Q Q' env st hq h
    have w1 : ∀ t ∈ pre.flatMap (·.2.dst.toList), t ∈ (PC.draw3 pre x y post).writes := fun t ht => by
      simp only [PC.writes, List.flatMap_append, List.mem_append]; exact .inl ht
    have w2 : ∀ t ∈ (x :: y :: post).flatMap (·.2.dst.toList), t ∈ (PC.draw3 pre x y post).writes := fun t ht => by
      simp only [PC.writes, List.flatMap_append, List.mem_append]; exact .inr ht
    have w3 : ∀ t ∈ (y :: x :: post).flatMap (·.2.dst.toList), t ∈ (PC.draw3 pre x y post).writes := fun t ht => w2 t (by
      simp only [List.flatMap_cons, List.mem_append] at ht ⊢
      rcases ht with h | h | h
      · exact .inr (.inl h)
      · exact .inl h
      · exact .inr (.inr h))
    exact runD_frame pre env st (fun e1 s1 hs1 h1 =>
      ⟨runD_frame (x :: y :: post) e1 s1 (fun env' st' hs => hq _ _ _ ((hs1.mono w1).trans (hs.mono w2))) h1.1,
       runD_frame (y :: x :: post) e1 s1 (fun env' st' hs => hq _ _ _ ((hs1.mono w1).trans (hs.mono w3))) h1.2⟩) h
  | frz l => exact fun Q Q' env st hq h => frzP_frame l env st (fun env' st' hs => hq _ _ _ hs) h
  | seq a b iha ihb =>
    intro Q Q' env st hq h
    refine iha _ _ env st (fun e env' st' hs h' => ?_) h
    cases e with
    | normal => exact ihb _ _ env' st' (fun e env'' st'' hs' h'' => hq _ _ _ ((hs.mono (by intro t ht; simp [PC.writes, ht])).trans (hs'.mono (by intro t ht; simp [PC.writes, ht]))) h'') h'
    | exit id => exact hq _ _ _ (hs.mono (by intro t ht; simp [PC.writes, ht])) h'
    | ret => exact hq _ _ _ (hs.mono (by intro t ht; simp [PC.writes, ht])) h'
  | cond c a b iha ihb =>
    intro Q Q' env st hq h
    simp only [vc] at h ⊢
    split at h <;> try exact h
    split at h
    · rename_i ht
      rw [if_pos ht]
      exact iha _ _ env st (fun e env' st' hs h' => hq _ _ _ (hs.mono (by intro t ht; simp [PC.writes, ht])) h') h
    · rename_i ht
      rw [if_neg ht]
      exact ihb _ _ env st (fun e env' st' hs h' => hq _ _ _ (hs.mono (by intro t ht; simp [PC.writes, ht])) h') h
  | block id c ih =>
    intro Q Q' env st hq h
    refine ih _ _ env st (fun e env' st' hs h' => ?_) h
    cases e with
    | exit j =>
      simp only at h' ⊢
      split at h'
      · rename_i he
        rw [if_pos he]
        exact hq _ _ _ hs h'
      · rename_i he
        rw [if_neg he]
        exact hq _ _ _ hs h'
    | normal => exact hq _ _ _ hs h'
    | ret => exact hq _ _ _ hs h'
  | loop c ih =>
    intro Q Q' env st hq h
    obtain ⟨I, μ, h0, hr⟩ := h
    refine ⟨I, μ, h0, fun env' st' hs hI => ?_⟩
    refine ih _ _ env' st' (fun e env'' st'' hs' h' => ?_) (hr env' st' hs hI)
    cases e with
    | normal => exact h'
    | exit id => exact hq _ _ _ (hs.trans hs') h'
    | ret => exact hq _ _ _ (hs.trans hs') h'
theorem runP_beside {P : Program} {fr : St} {K : Env → St → Prop} : ∀ (l : List PO) (env : Env) (st : St), Disj st fr → runP P l env st K → runP P l env (st.add fr) (Beside fr K)
  | [], env, st, hd, h => ⟨st, hd, rfl, h⟩
  | o :: l, env, st, hd, h => by
    have next : ∀ v s, Beside fr (fun v st' => runP P l (env.put o.dst v) st' K) v s → runP P l (env.put o.dst v) s (Beside fr K) := by
      rintro v s ⟨s', h1, rfl, h3⟩
      exact runP_beside l _ s' h1 h3
    exact guardP_mono (fun h => stepP_mono _ next (stepP_frame hd o.op h)) (fun h => next _ _ ⟨st, hd, rfl, h⟩) h
theorem runD_beside {P : Program} {fr : St} {K : Env → St → Prop} : ∀ (l : List (Cls × PO)) (env : Env) (st : St), Disj st fr → runD P l env st K → runD P l env (st.add fr) (Beside fr K)
  | [], env, st, hd, h => ⟨st, hd, rfl, h⟩
  | (c, o) :: l, env, st, hd, h => by
    rw [runD_cons] at h ⊢
    refine stepG_mono ?_ (stepG_frame hd h)
    rintro v s ⟨s', h1, rfl, h3⟩
    exact runD_beside l _ s' h1 h3
theorem frzOb_beside {fr st s : St} (hd : Disj st fr) {id : Nat} (h : frzOb st id = some s) : Disj s fr ∧ frzOb (st.add fr) id = some (s.add fr) := by
  unfold frzOb at h
  split at h <;> cases h
  · rename_i cs hid
    refine ⟨hd.upd (hd.some hid) _, ?_⟩
    simp only [frzOb, add_some hid, upd_add]
  · rename_i cs hid
    refine ⟨hd, ?_⟩
    simp only [frzOb, add_some hid]
theorem frzH_beside {fr st s : St} (hd : Disj st fr) {v u : V} (h : frzH st v = some (u, s)) : Disj s fr ∧ frzH (st.add fr) v = some (u, s.add fr) := by
  have triv : some (v, st) = some (u, s) → Disj s fr ∧ some (v, st.add fr) = some (u, s.add fr) := fun h => by cases h; exact ⟨hd, rfl⟩
  cases v with
  | hsl id off sz n =>
    simp only [frzH] at h ⊢
    obtain ⟨s', h1, h2⟩ := Option.bind_eq_some_iff.1 h
    obtain ⟨c, h3, h4⟩ := Option.map_eq_some_iff.1 h2
    cases h4
    obtain ⟨g1, g2⟩ := frzOb_beside hd h1
    refine ⟨g1, ?_⟩
    rw [g2]
    simp only [Option.bind_some]
    rw [seg_sub (sub_add _ fr) h3]
    rfl
  | _ => exact triv h
theorem frzL_beside {fr : St} : ∀ (cs : List V) {st s : St} {cs' : List V}, Disj st fr → frzL st cs = some (cs', s) → Disj s fr ∧ frzL (st.add fr) cs = some (cs', s.add fr)
  | [], st, s, cs', hd, h => by cases h; exact ⟨hd, rfl⟩
  | v :: cs, st, s, cs', hd, h => by
    simp only [frzL] at h ⊢
    obtain ⟨p, h1, h2⟩ := Option.bind_eq_some_iff.1 h
    obtain ⟨q, h3, h4⟩ := Option.map_eq_some_iff.1 h2
    cases h4
    obtain ⟨g1, g2⟩ := frzH_beside hd (u := p.1) (s := p.2) h1
    obtain ⟨k1, k2⟩ := frzL_beside cs g1 (cs' := q.1) (s := q.2) h3
    refine ⟨k1, ?_⟩
    rw [g2]
    simp only [Option.bind_some]
    rw [k2]
    rfl
theorem frzV_beside {fr st s : St} (hd : Disj st fr) {v u : V} (h : frzV st v = some (u, s)) : Disj s fr ∧ frzV (st.add fr) v = some (u, s.add fr) := by
  have triv : some (v, st) = some (u, s) → Disj s fr ∧ some (v, st.add fr) = some (u, s.add fr) := fun h => by cases h; exact ⟨hd, rfl⟩
  cases v with
  | eptr cs =>
    simp only [frzV] at h ⊢
    obtain ⟨q, h1, h2⟩ := Option.map_eq_some_iff.1 h
    cases h2
    obtain ⟨g1, g2⟩ := frzL_beside cs hd (cs' := q.1) (s := q.2) h1
    exact ⟨g1, by rw [g2]; rfl⟩
  | ptr p =>
    cases p with
    | none => exact triv h
    | some q =>
      obtain ⟨id, o⟩ := q
      simp only [frzV] at h ⊢
      obtain ⟨s', h1, h2⟩ := Option.bind_eq_some_iff.1 h
      split at h2 <;> cases h2
      rename_i cs hid
      obtain ⟨g1, g2⟩ := frzOb_beside hd h1
      refine ⟨g1, ?_⟩
      rw [g2]
      simp only [Option.bind_some, add_some hid]
  | hsl id off sz n =>
    simp only [frzV] at h ⊢
    obtain ⟨s', h1, h2⟩ := Option.bind_eq_some_iff.1 h
    obtain ⟨c, h3, h4⟩ := Option.map_eq_some_iff.1 h2
    cases h4
    obtain ⟨g1, g2⟩ := frzOb_beside hd h1
    refine ⟨g1, ?_⟩
    rw [g2]
    simp only [Option.bind_some]
    rw [seg_sub (sub_add _ fr) h3]
    rfl
  | map mo =>
    cases mo with
    | none => exact triv h
    | some id =>
      simp only [frzV] at h ⊢
      cases hid : st id with
      | none => rw [hid] at h; cases h
      | some ob =>
        rw [hid] at h
        rw [add_some hid]
        cases ob <;> (cases h; first | exact ⟨hd, rfl⟩ | exact ⟨hd.upd (hd.some hid) _, by rw [upd_add]⟩)
  | _ => exact triv h
theorem frzP_beside {fr : St} {K : Env → St → Prop} : ∀ (l : List Nat) (env : Env) (st : St), Disj st fr → frzP l env st K → frzP l env (st.add fr) (Beside fr K)
  | [], env, st, hd, h => ⟨st, hd, rfl, h⟩
  | t :: l, env, st, hd, h => by
    simp only [frzP] at h ⊢
    cases hx : frzV st (env t) with
    | none => rw [hx] at h; exact h.elim
    | some q =>
      obtain ⟨v, s⟩ := q
      rw [hx] at h
      obtain ⟨g1, g2⟩ := frzV_beside hd hx
      rw [g2]
      exact frzP_beside l _ s g1 h
theorem vc_beside {P : Program} {fr : St} : ∀ (c : PC) (Q : Ex → Env → St → Prop) (env : Env) (st : St), Disj st fr → vc P c Q env st → vc P c (fun e => Beside fr (Q e)) env (st.add fr) := by
  intro c
  induction c with
  | skip => exact fun Q env st hd h => ⟨st, hd, rfl, h⟩
  | exit id => exact fun Q env st hd h => ⟨st, hd, rfl, h⟩
  | ret => exact fun Q env st hd h => ⟨st, hd, rfl, h⟩
  | ops l => exact fun Q env st hd h => runP_beside l env st hd h
  | draw l => exact fun Q env st hd h => runD_beside l env st hd h
  | draw2 conf l => exact fun Q env st hd h => ⟨h.1, runD_beside l env st hd h.2⟩
  | draw3 pre x y post =>
    intro Q env st hd h
    refine runD_frame pre env _ (fun e1 s1 _ h1 => ?_) (runD_beside pre env st hd h)
    obtain ⟨s, k1, rfl, k3⟩ := h1
    exact ⟨runD_beside _ e1 s k1 k3.1, runD_beside _ e1 s k1 k3.2⟩
  | frz l => exact fun Q env st hd h => frzP_beside l env st hd h
  | seq a b iha ihb =>
    intro Q env st hd h
    refine vc_frame a _ _ env _ (fun e env' s _ h' => ?_) (iha _ env st hd h)
    obtain ⟨s', h1, rfl, h3⟩ := h'
    cases e with
    | normal => exact ihb _ env' s' h1 h3
    | exit id => exact ⟨s', h1, rfl, h3⟩
    | ret => exact ⟨s', h1, rfl, h3⟩
  | cond c a b iha ihb =>
    intro Q env st hd h
    simp only [vc] at h ⊢
    split at h <;> try exact h
    split at h
    · rename_i ht
      rw [if_pos ht]
      exact iha _ env st hd h
    · rename_i ht
      rw [if_neg ht]
      exact ihb _ env st hd h
  | block id c ih =>
    intro Q env st hd h
    refine vc_frame c _ _ env _ (fun e env' s _ h' => ?_) (ih _ env st hd h)
    obtain ⟨s', h1, rfl, h3⟩ := h'
    cases e with
    | exit j =>
      simp only at h3 ⊢
      split at h3
      · rename_i he
        rw [if_pos he]
        exact ⟨s', h1, rfl, h3⟩
      · rename_i he
        rw [if_neg he]
        exact ⟨s', h1, rfl, h3⟩
    | normal => exact ⟨s', h1, rfl, h3⟩
    | ret => exact ⟨s', h1, rfl, h3⟩
  | loop c ih =>
    intro Q env st hd h
    obtain ⟨I, μ, h0, hr⟩ := h
    have back : ∀ s' : St, Disj s' fr → (fun i => if (fr i).isSome = true then none else (s'.add fr) i) = s' := fun s' hd' => by
      funext i
      rcases hd' i with e | e
      · rw [e]
        split
        · rfl
        · rename_i hn
          simp only [St.add, e]
          cases hf : fr i with
          | none => rfl
          | some o => rw [hf] at hn; simp at hn
      · rw [e]
        simp only [Option.isSome_none, Bool.false_eq_true, if_false, St.add]
        cases hs : s' i with
        | none => exact e
        | some o => rfl
    refine ⟨Beside fr I, fun env s => μ env (fun i => if (fr i).isSome = true then none else s i), ⟨st, hd, rfl, h0⟩, ?_⟩
    rintro env' s hs ⟨s', h1, rfl, h3⟩
    refine vc_frame c _ _ env' _ (fun e env'' s2 _ h' => ?_) (ih _ env' s' h1 (hr env' s' hs h3))
    obtain ⟨s2', k1, rfl, k3⟩ := h'
    cases e with
    | normal =>
      obtain ⟨s3, k4, k5, k6⟩ := k3
      refine ⟨s3.add fr, sub_add_sub k4 k1, ⟨s3, k1.sub k4, rfl, k5⟩, ?_⟩
      show μ env'' (fun i => if (fr i).isSome = true then none else (s3.add fr) i) < μ env' (fun i => if (fr i).isSome = true then none else (s'.add fr) i)
      rw [back _ h1, back _ (k1.sub k4)]
      exact k6
    | exit id => exact ⟨s2', k1, rfl, k3⟩
    | ret => exact ⟨s2', k1, rfl, k3⟩
end Go.Ab
