/-
  Going through maps and strings; appending to what nobody writes from then on: that they hold of the machine.
-/
import Derived.Test.YtpmfkckookkgmaaAbMaps
import Derived.Maps.RangeRun
set_option linter.unusedSimpArgs false
set_option linter.unusedVariables false
namespace Go.Ab
open Go Go.RowKit Go.ChangeMaps
section
variable {P : Program} {B : Nat} {w0 : World} {G : Gh} {st : St} {w : World}

theorem heap_same {w : World} {b : Nat} {o : Obj} (h : w.heap[b]? = some o) : ({ w with heap := w.heap.setIfInBounds b o } : World) = w := by
  have he : w.heap.setIfInBounds b o = w.heap := by
    apply Array.ext_getElem?
    intro i
    by_cases hi : i = b
    · subst hi; simp only [Array.getElem?_setIfInBounds_self_of_lt (lt_of_heap h), h]
    · rw [Array.getElem?_setIfInBounds_ne (fun e => hi e.symm)]
  rw [he]

/-- A map that is gone through from now on. -/
theorem StRel.toMpi (h : StRel B w0 G st w) {id : Nat} {es : List (V × V)} {x : Value} (hm : VRel G (.map (some id)) x) (hst : st id = some (.mp es)) :
    ∃ b l mm bs clk E, x = .map (some b) ∧ G.ι id = some (b, l, mm) ∧ w.heap[b]? = some (.map E clk) ∧ bs.length = es.length ∧ bs.Pairwise (· < ·) ∧ (∀ y ∈ bs, y < clk) ∧ StRel B w0 G (st.upd id (.mpi es bs clk)) w := by
  obtain ⟨b, l, mm, E, clk, rfl, g2, g3, g4, g5, g6⟩ := mp_run h hm hst
  have hlt : ∀ y ∈ E.toList.map (·.born), y < clk := fun y hy => by
    obtain ⟨e, he, rfl⟩ := List.mem_map.1 hy
    exact g6 e he
  have := h.setMapI hst (fun cs e => by cases e) g2 g3 g4 rfl g5 hlt
  rw [heap_same g3] at this
  exact ⟨b, l, mm, E.toList.map (·.born), clk, E, rfl, g2, g3, by simp only [List.length_map]; exact g4.1, g5, hlt, this⟩

/-- It is gone through no more. -/
theorem StRel.toMp (h : StRel B w0 G st w) {id : Nat} {es : List (V × V)} {bs : List Nat} {clk : Nat} {x : Value} (hm : VRel G (.map (some id)) x) (hst : st id = some (.mpi es bs clk)) : StRel B w0 G (st.upd id (.mp es)) w := by
  obtain ⟨b, l, mm, E, rfl, g2, g3, g4, g5, g6, g7⟩ := mpi_run h hm hst
  have hlt := lt_of_heap g3
  refine h.setObj hst (fun cs e => by cases e) g2 rfl rfl rfl rfl (fun k hk => rfl) (fun o => ?_) ⟨E, clk, g3, g4.obj.1, g4.obj.2, by rw [g5]; exact g6, fun e he => g7 _ (by rw [← g5]; exact List.mem_map.2 ⟨e, he, rfl⟩)⟩
  cases hp : G.pm b o with
  | none => rfl
  | some v =>
    have := h.pm b o v hp
    simp [World.cell?, g3] at this

theorem rngMap_sound (hs : StRel B w0 G st w) {t k e : TypeId} (ht : P.underlying t = some (.map k e)) {v : V} {x : Value} {K : V → St → Prop}
    (h : match v with
      | .map none => ∀ it, st it = none → K (.ptr (some (it, 0))) (st.upd it (.mit none 0 [] 0))
      | .map (some id) =>
        match st id with
        | some (.mp es) => ∀ it, st it = none → ∀ (bs : List Nat) (clk : Nat), bs.length = es.length → bs.Pairwise (· < ·) → (∀ b ∈ bs, b < clk) → K (.ptr (some (it, 0))) ((st.upd id (.mpi es bs clk)).upd it (.mit (some id) clk [] clk))
        | _ => False
      | _ => False) (hv : VRel G v x) :
    ∃ r u w' G' st', (Instr.range t x).run P w = .ok r w' ∧ G.le G' ∧ VRel G' u r ∧ StRel B w0 G' st' w' ∧ K u st' := by
  cases v with
  | map mo =>
    cases mo with
    | none =>
      cases hv
      obtain ⟨g1, g2⟩ := hs.addObj (.mapIter none 0 #[] 0) (.mit none 0 [] 0) 0 0 ⟨none, heap_alloc_self _ _, rfl⟩
      refine ⟨.pointer (some ⟨w.heap.size, 0, none⟩), _, _, _, _, ?_, G.addObj_le _, .ptr _ _ _ _ _ (G.addObj_new _), g2, h _ g1⟩
      simp only [Instr.range, Sem.run_bind, run_underlying ht, Result.andThen_ok, Sem.run_pure, run_newObj_alloc]
    | some id =>
      simp only at h
      split at h <;> try exact h.elim
      rename_i es hst
      obtain ⟨b, l, mm, bs, clk, E, rfl, k1, k2, k3, k4, k5, k6⟩ := hs.toMpi hv hst
      have hle := G.addObj_le (w.heap.size, 0, 0)
      obtain ⟨g1, g2⟩ := k6.addObj (.mapIter (some b) clk #[] clk) (.mit (some id) clk [] clk) 0 0 ⟨some b, heap_alloc_self _ _, b, _, hle.ι _ _ k1, rfl⟩
      have g1' : st G.N = none := hs.dom (G.fresh _ (Nat.le_refl _))
      refine ⟨.pointer (some ⟨w.heap.size, 0, none⟩), _, _, _, _, ?_, hle, .ptr _ _ _ _ _ (G.addObj_new _), g2, h _ g1' bs clk k3 k4 k5⟩
      simp only [Instr.range, Sem.run_bind, run_underlying ht, Result.andThen_ok, Sem.run_pure, run_getObj k2 (fun a b c e => by cases e), run_newObj_alloc]
  | _ => exact h.elim

theorem setObj_iter (hs : StRel B w0 G st w) {it b l m : Nat} {ob : AObj} {o : Obj} (hit : st it = some ob) (hro : ∀ cs, ob ≠ .ro cs) (hι : G.ι it = some (b, l, m)) (hb : w.heap[b]? = some o) (hc : ∀ a b c, o ≠ .cells a b c) {o' : Obj} {ob' : AObj}
    (hob : ObjRel G { w with heap := w.heap.setIfInBounds b o' } b l m ob') : StRel B w0 G (st.upd it ob') { w with heap := w.heap.setIfInBounds b o' } := by
  refine hs.setObj hit hro hι rfl rfl rfl (by simp) (fun k hk => ?_) (fun c => ?_) hob
  · simp only [Array.getElem?_setIfInBounds_ne (Ne.symm hk)]
  · cases hp : G.pm b c with
    | none => rfl
    | some v =>
      have := hs.pm b c v hp
      cases o <;> first
        | exact absurd rfl (hc _ _ _)
        | (simp [World.cell?, hb] at this)

theorem nextMap_sound (hs : StRel B w0 G st w) {ty : TypeId} {v : V} {x : Value} {K : V → St → Prop}
    (h : match v with
      | .ptr (some (it, 0)) =>
        match st it with
        | some (.mit none _ _ _) => K (.tup [.bool false]) st
        | some (.mit (some id) since seen stp) =>
          match st id with
          | some (.mpi es bs clk) => (∀ b ∈ bs, b < since) ∧ since ≤ stp ∧ bs.length = es.length ∧ ((∀ b ∈ bs, b ∈ seen) → K (.tup [.bool false]) st) ∧
              ∀ i, i < es.length → bs.getD i 0 ∉ seen → K (.tup [.bool true, (es.getD i default).1, (es.getD i default).2]) (st.upd it (.mit (some id) since (seen ++ [bs.getD i 0]) clk))
          | _ => False
        | _ => False
      | _ => False) (hv : VRel G v x) :
    ∃ r u w' G' st', (Instr.next x false ty).run P w = .ok r w' ∧ G.le G' ∧ VRel G' u r ∧ StRel B w0 G' st' w' ∧ K u st' := by
  have tupF : VRel G (.tup [.bool false]) (.tuple #[.bool false]) := .tup _ _ rfl (fun i hi => by
    match i, hi with
    | 0, _ => exact .bool _)
  split at h <;> try exact h.elim
  rename_i it
  cases hv with
  | ptr _ _ b l m hι =>
    split at h <;> try exact h.elim
    · rename_i since seen stp hit
      obtain ⟨b', l', m', k1, k2, bo, k3, k4⟩ := hs.obj it _ hit
      rw [hι] at k1
      cases k1
      subst k4
      refine ⟨_, _, w, G, st, ?_, G.le_refl, tupF, hs, h⟩
      simp only [Instr.next, Sem.run_bind, run_getObj k3 (fun a b c e => by cases e), Result.andThen_ok, Sem.run_pure]
    · rename_i id since seen stp hit
      split at h <;> try exact h.elim
      rename_i es bs clk hst
      obtain ⟨h1, h2, h3, h4, h5⟩ := h
      obtain ⟨b', l', m', k1, k2, bo, k3, c, z, k4, k5⟩ := hs.obj it _ hit
      rw [hι] at k1
      cases k1
      subst k5
      obtain ⟨c', l2, m2, E, j0, j1, j2, j3, j4, j5, j6⟩ := mpi_run hs (.map id c z.1 z.2 k4) hst
      cases j0
      have hold : ∀ y ∈ E.toList, y.born < since := fun y hy => h1 _ (by rw [← j4]; exact List.mem_map.2 ⟨y, hy, rfl⟩)
      rcases run_next_at (P := P) w ty b c since stp seen.toArray E clk k3 j2 hold h2 with ⟨e1, e2⟩ | ⟨e, he, w1, hw1, hrun⟩
      · refine ⟨_, _, w, G, st, e2, G.le_refl, tupF, hs, h4 fun y hy => ?_⟩
        rw [← j4] at hy
        obtain ⟨q, hq, rfl⟩ := List.mem_map.1 hy
        have hnone : leftOf E seen.toArray = #[] := Array.eq_empty_of_size_eq_zero e1
        unfold leftOf at hnone
        rw [Array.filter_eq_empty_iff] at hnone
        have := hnone q (by simpa using hq)
        simpa using this
      · unfold leftOf at he
        have hmem : e ∈ E.toList := by simp at he; simpa using he.1
        have hns : e.born ∉ seen := by simp at he; exact he.2
        obtain ⟨i, hi, hie⟩ := List.getElem_of_mem hmem
        have hlen : E.toList.length = es.length := j3.1
        have hb : bs.getD i 0 = e.born := by
          rw [← j4, List.getD_eq_getElem?_getD, List.getElem?_map, List.getElem?_eq_getElem hi, hie]
          rfl
        have hEi : E.toList.getD i default = e := by rw [List.getD_eq_getElem?_getD, List.getElem?_eq_getElem hi, hie]; rfl
        have hs1 : StRel B w0 G st w1 := by
          rcases hw1 with rfl | rfl
          · exact hs
          · exact hs.ext (below_drew w)
        have hh : w1.heap = w.heap := by rcases hw1 with rfl | rfl <;> rfl
        have hk := h5 i (by omega) (by rw [hb]; exact hns)
        have hv := j3.2 i (by omega)
        rw [hEi] at hv
        refine ⟨_, _, _, G, _, hrun, G.le_refl, .tup _ _ rfl (fun i hi => by
          match i, hi with
          | 0, _ => exact .bool _
          | 1, _ => exact hv.1
          | 2, _ => exact hv.2), ?_, hk⟩
        unfold setBlock
        refine setObj_iter hs1 hit (fun cs e => by cases e) hι (by rw [hh]; exact k3) (fun a b c e => by cases e) ⟨some c, ?_, c, z, k4, rfl⟩
        have : b < w1.heap.size := by rw [hh]; exact lt_of_heap k3
        rw [hb]
        simp [this]

theorem entry_sound (hs : StRel B w0 G st w) {v u : V} {x : Value} (hv : VRel G v x) (h : entryV st v = some u) : ∃ r, (Instr.entry x).run P w = .ok r w ∧ VRel G u r := by
  unfold entryV at h
  split at h <;> try (cases h; done)
  rename_i it
  cases hv with
  | ptr _ _ b l m hι =>
    split at h <;> try (cases h; done)
    rename_i id since seen stp hit
    split at h <;> try (cases h; done)
    rename_i es bs clk hst
    split at h <;> try (cases h; done)
    rename_i hstp
    subst hstp
    obtain ⟨y, h1, h⟩ := Option.bind_eq_some_iff.1 h
    obtain ⟨i, h2, h⟩ := Option.bind_eq_some_iff.1 h
    obtain ⟨e, h3, rfl⟩ := Option.map_eq_some_iff.1 h
    obtain ⟨b', l', m', k1, k2, bo, k3, c, z, k4, k5⟩ := hs.obj it _ hit
    rw [hι] at k1
    cases k1
    subst k5
    obtain ⟨c', l2, m2, E, j0, j1, j2, j3, j4, j5, j6⟩ := mpi_run hs (.map id c z.1 z.2 k4) hst
    cases j0
    have hi : i < es.length := (List.getElem?_eq_some_iff.1 h3).1
    have hiE : i < E.toList.length := by rw [j3.1]; exact hi
    rw [List.findIdx?_eq_some_iff_getElem] at h2
    obtain ⟨hib, hy, _⟩ := h2
    have hborn : (E.toList[i]).born = y := by
      have e1 : bs[i]? = some y := by rw [List.getElem?_eq_getElem hib]; exact congrArg some (by simpa using hy)
      rw [← j4, List.getElem?_map, List.getElem?_eq_getElem hiE] at e1
      simpa using e1
    have hseen : seen.toArray = (seen.dropLast.toArray).push (E.toList[i]).born := by
      apply Array.ext'
      simp only [Array.toList_push]
      rw [hborn]
      obtain ⟨ys, rfl⟩ := List.getLast?_eq_some_iff.1 h1
      simp
    rw [hseen] at k3
    have hnd : (E.toList.map (·.born)).Nodup := by
      rw [j4]
      exact j5.imp (fun h e => by omega)
    have hrun := run_entry_at (P := P) w b c since seen.dropLast.toArray E stp E.toList[i] k3 j2 (List.getElem_mem hiE) hnd
    have hvv := j3.2 i hi
    have hEi : E.toList.getD i default = E.toList[i] := by rw [List.getD_eq_getElem?_getD, List.getElem?_eq_getElem hiE]; rfl
    have hei : es.getD i default = e := by rw [List.getD_eq_getElem?_getD, h3]; rfl
    rw [hEi, hei] at hvv
    exact ⟨_, hrun, .tup _ _ rfl (fun i hi => by
      match i, hi with
      | 0, _ => exact hvv.1
      | 1, _ => exact hvv.2)⟩

theorem rngStr_sound (hs : StRel B w0 G st w) {t : TypeId} (ht : P.underlying t = some .string) (s : ByteArray) :
    ∃ x w' G', (Instr.range t (.string s)).run P w = .ok x w' ∧ st G.N = none ∧ G.le G' ∧ VRel G' (.ptr (some (G.N, 0))) x ∧ StRel B w0 G' (st.upd G.N (.siter s 0)) w' := by
  obtain ⟨g1, g2⟩ := hs.addObj (.stringIter s 0) (.siter s 0) 0 0 (heap_alloc_self _ _)
  refine ⟨.pointer (some ⟨w.heap.size, 0, none⟩), _, _, ?_, g1, G.addObj_le _, .ptr _ _ _ _ _ (G.addObj_new _), g2⟩
  simp only [Instr.range, Sem.run_bind, run_underlying ht, Result.andThen_ok, Sem.run_pure, run_newObj_alloc]

theorem nextStr_sound (hs : StRel B w0 G st w) {ty : TypeId} {v : V} {x : Value} {K : V → St → Prop}
    (h : match v with
      | .ptr (some (it, 0)) =>
        match st it with
        | some (.siter s pos) =>
          if pos < s.size then K (.tup [.bool true, .int .i64 pos, .int .i32 (Utf8.decode s pos).1]) (st.upd it (.siter s (pos + (Utf8.decode s pos).2))) else K (.tup [.bool false]) st
        | _ => False
      | _ => False) (hv : VRel G v x) :
    ∃ r u w' G' st', (Instr.next x true ty).run P w = .ok r w' ∧ G.le G' ∧ VRel G' u r ∧ StRel B w0 G' st' w' ∧ K u st' := by
  split at h <;> try exact h.elim
  rename_i it
  cases hv with
  | ptr _ _ b l m hι =>
    split at h <;> try exact h.elim
    rename_i s pos hit
    obtain ⟨b', l', m', k1, k2, k3⟩ := hs.obj it _ hit
    rw [hι] at k1
    cases k1
    have k3' : w.heap[b]? = some (.stringIter s pos) := k3
    have hlt := lt_of_heap k3'
    split at h
    · rename_i hp
      refine ⟨_, _, _, G, _, ?_, G.le_refl, .tup _ (#[.bool true, goInt pos, .int .i32 (Utf8.decode s pos).1]) rfl (fun i hi => by
        match i, hi with
        | 0, _ => exact .bool _
        | 1, _ => exact .int _ _
        | 2, _ => exact .int _ _), setObj_iter (o' := .stringIter s (pos + (Utf8.decode s pos).2)) hs hit (fun cs e => by cases e) hι k3' (fun a b c e => by cases e) (by simp [ObjRel, hlt]), h⟩
      simp only [Instr.next, Sem.run_bind, run_getObj k3' (fun a b c e => by cases e), Result.andThen_ok, if_pos hp, run_setObj k3' (fun a b c e => by cases e), Sem.run_pure]
    · rename_i hp
      refine ⟨_, _, w, G, st, ?_, G.le_refl, .tup _ (#[.bool false]) rfl (fun i hi => by
        match i, hi with
        | 0, _ => exact .bool _), hs, h⟩
      simp only [Instr.next, Sem.run_bind, run_getObj k3' (fun a b c e => by cases e), Result.andThen_ok, if_neg hp, Sem.run_pure]
end
end Go.Ab
