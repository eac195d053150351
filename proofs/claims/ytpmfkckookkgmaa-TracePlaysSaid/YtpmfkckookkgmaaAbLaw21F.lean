/-
  law21: TracePlays: what a book is by a list of its peers with bytes.
-/
import Derived.Test.YtpmfkckookkgmaaAbLaw21E
set_option linter.unusedVariables false
set_option linter.unusedSimpArgs false
set_option maxRecDepth 10000
namespace Go.Ab
open Go
section
variable {P : Program} {F : Fn}

def toPeer (o : One) : Peer := ⟨o.id, o.s1, o.s2, o.h1, o.h2, o.bs.map idB⟩
structure Good (ones : List One) : Prop where
  ids : (ones.map (·.id)).Nodup
  nd : ∀ o ∈ ones, o.bs.Nodup
  le : ∀ o ∈ ones, o.bs.length ≤ 16

theorem mem_idB {x : UInt8} {l : List UInt8} : idB x ∈ l.map idB ↔ x ∈ l := by
  constructor
  · intro h
    obtain ⟨y, hy, e⟩ := List.mem_map.1 h
    rw [← idB_inj e]; exact hy
  · exact fun h => List.mem_map.2 ⟨x, h, rfl⟩
theorem nodup_idB {l : List UInt8} : (l.map idB).Nodup ↔ l.Nodup := by
  constructor
  · intro h
    induction l with
    | nil => simp
    | cons a l ih =>
      rw [List.map_cons, List.nodup_cons] at h
      rw [List.nodup_cons]
      exact ⟨fun hm => h.1 (mem_idB.2 hm), ih h.2⟩
  · exact map_nodup

theorem ones_waits (ones : List One) (x : UInt8) : waitsP (ones.map toPeer) (idB x) = false ↔ ∀ o ∈ ones, x ∉ o.bs := by
  rw [waitsP, List.any_eq_false]
  constructor
  · intro h o ho hx
    have := h (toPeer o) (List.mem_map.2 ⟨o, ho, rfl⟩)
    simp only [toPeer] at this
    exact this (decide_eq_true (mem_idB.2 hx))
  · intro h p hp
    obtain ⟨o, ho, rfl⟩ := List.mem_map.1 hp
    simp only [toPeer]
    exact fun hm => h o ho (mem_idB.1 (of_decide_eq_true hm))

theorem said_may (ones : List One) (kind : Int) (nm : List UInt8) (o : One) : saidM (ones.map toPeer) kind (nm.map idB) (toPeer o) = ((mayM ones kind nm o).1, toPeer (mayM ones kind nm o).2) := by
  obtain ⟨id, s1, s2, h1, h2, k, bs⟩ := o
  by_cases k1 : kind = 1
  · cases s1 <;> simp [saidM, mayM, k1, greetM, toPeer]
  · by_cases k2 : kind = 2
    · cases s1 <;> cases s2 <;> cases h1 <;> simp [saidM, mayM, k2, greetM, toPeer]
    · by_cases hg : (s1 && s2 && h1 && h2) = false
      · have : greetedM (toPeer ⟨id, s1, s2, h1, h2, k, bs⟩) = false := hg
        simp only [saidM, mayM, k1, k2, this, hg, if_true, if_false, or_self]
      · have hg1 : (s1 && s2 && h1 && h2) = true := Bool.not_eq_false _ ▸ hg
        have : greetedM (toPeer ⟨id, s1, s2, h1, h2, k, bs⟩) = true := hg1
        simp only [saidM, mayM, k1, k2, this, hg1, if_true, if_false, or_self]
        by_cases k6 : kind = 6
        · by_cases hn : nm = []
          · simp [k6, hn, askE, askP, toPeer]
          · have hn' : nm.map idB ≠ [] := by simpa using hn
            have hok : ((nm.map idB).Nodup ∧ ∀ x ∈ nm.map idB, waitsP (ones.map toPeer) x = false) ↔ oneOk ones nm := by
              constructor
              · rintro ⟨h1, h2⟩
                exact ⟨nodup_idB.1 h1, fun x hx => (ones_waits ones x).1 (h2 _ (mem_idB.2 hx))⟩
              · rintro ⟨h1, h2⟩
                refine ⟨nodup_idB.2 h1, fun x hx => ?_⟩
                obtain ⟨y, hy, rfl⟩ := List.mem_map.1 hx
                exact (ones_waits ones y).2 (h2 y hy)
            by_cases hb : oneOk ones nm
            · by_cases h16 : bs.length + nm.length > 16
              · have e : askE (waitsP (ones.map toPeer)) (bs.map idB).length (nm.map idB) = 3 := by
                  rw [askE, if_neg hn', if_pos (hok.2 hb), if_pos (by simpa using h16)]
                simp [k6, hn, hb, h16, toPeer, askP]
                simp at e
                simp [e]
              · have e : askE (waitsP (ones.map toPeer)) (bs.map idB).length (nm.map idB) = 0 := by
                  rw [askE, if_neg hn', if_pos (hok.2 hb), if_neg (by simpa using h16)]
                simp [k6, hn, hb, h16, toPeer, askP]
                simp at e
                simp [e]
            · have e : askE (waitsP (ones.map toPeer)) (bs.map idB).length (nm.map idB) = 5 := by
                rw [askE, if_neg hn', if_neg (fun h => hb (hok.1 h))]
              simp [k6, hn, hb, toPeer, askP]
              simp at e
              simp [e]
        · simp [k6]

def newOne (id : Int) : One := ⟨id, false, false, false, false, .nil, []⟩
/-- Where a peer lies among them, or that there is none. -/
def AtI (ones : List One) (id : Int) (a : Int) : Prop := (a = -1 ∧ ∀ o ∈ ones, o.id ≠ id) ∨ ∃ as o bs, ones = as ++ o :: bs ∧ a = (as.length : Nat) ∧ o.id = id ∧ (∀ x ∈ as, x.id ≠ id) ∧ (∀ x ∈ bs, x.id ≠ id)

theorem good_split {as bs : List One} {o : One} {id : Int} (g : Good (as ++ o :: bs)) (h : o.id = id) : (∀ x ∈ as, x.id ≠ id) ∧ (∀ x ∈ bs, x.id ≠ id) := by
  have := g.ids
  rw [List.map_append, List.map_cons, List.nodup_append, List.nodup_cons] at this
  obtain ⟨h1, ⟨h2, h3⟩, h4⟩ := this
  subst h
  constructor
  · intro x hx e
    exact h4 x.id (List.mem_map.2 ⟨x, hx, rfl⟩) o.id (by simp) e
  · intro x hx e
    exact h2 (e ▸ List.mem_map.2 ⟨x, hx, rfl⟩)

theorem upd_ones {as bs : List One} {o o' : One} {id : Int} {f : Peer → Peer} (h : o.id = id) (ha : ∀ x ∈ as, x.id ≠ id) (hf : f (toPeer o) = toPeer o') : updP id f ((as ++ o :: bs).map toPeer) = (as ++ o' :: bs).map toPeer := by
  rw [List.map_append, List.map_cons, updP_app2 (fun q hq => by
    obtain ⟨x, hx, rfl⟩ := List.mem_map.1 hq
    exact ha x hx)]
  have : (toPeer o).id = id := h
  simp [updP, this, hf]
theorem upd_ones_none {ones : List One} {id : Int} {f : Peer → Peer} (h : ∀ o ∈ ones, o.id ≠ id) : updP id f (ones.map toPeer) = ones.map toPeer :=
  updP_none fun p hp => by
    obtain ⟨x, hx, rfl⟩ := List.mem_map.1 hp
    exact h x hx
theorem find_ones {as bs : List One} {o : One} {id : Int} (h : o.id = id) (ha : ∀ x ∈ as, x.id ≠ id) : ((as ++ o :: bs).map toPeer).find? (fun p => p.id == id) = some (toPeer o) := by
  rw [List.map_append, List.find?_append]
  have : (as.map toPeer).find? (fun p => p.id == id) = none := by
    rw [List.find?_eq_none]
    intro p hp
    obtain ⟨x, hx, rfl⟩ := List.mem_map.1 hp
    simpa [toPeer] using ha x hx
  have h2 : (toPeer o).id = id := h
  rw [this, List.map_cons, List.find?_cons]
  simp [h2]
theorem find_ones_none {ones : List One} {id : Int} (h : ∀ o ∈ ones, o.id ≠ id) : (ones.map toPeer).find? (fun p => p.id == id) = none := by
  rw [List.find?_eq_none]
  intro p hp
  obtain ⟨x, hx, rfl⟩ := List.mem_map.1 hp
  simpa [toPeer] using h x hx

theorem came_none {ones : List One} {id : Int} (h : ∀ o ∈ ones, o.id ≠ id) : cameM (ones.map toPeer) id = (0, (ones ++ [newOne id]).map toPeer) := by
  have : (ones.map toPeer).any (fun p => p.id == id) = false := by
    rw [List.any_eq_false]
    intro p hp
    obtain ⟨x, hx, rfl⟩ := List.mem_map.1 hp
    simpa [toPeer] using h x hx
  simp [cameM, this, newP, newOne, toPeer]
theorem came_some {as bs : List One} {o : One} {id : Int} (h : o.id = id) : cameM ((as ++ o :: bs).map toPeer) id = (5, (as ++ o :: bs).map toPeer) := by
  have : ((as ++ o :: bs).map toPeer).any (fun p => p.id == id) = true := by
    rw [List.any_eq_true]
    exact ⟨toPeer o, by simp, by simp [toPeer, h]⟩
  rw [cameM, if_pos this]
theorem gone_none {ones : List One} {id : Int} (h : ∀ o ∈ ones, o.id ≠ id) : goneM (ones.map toPeer) id = ones.map toPeer := by
  rw [goneM, List.eraseP_of_forall_not]
  intro p hp
  obtain ⟨x, hx, rfl⟩ := List.mem_map.1 hp
  simpa [toPeer] using h x hx
theorem gone_some {as bs : List One} {o : One} {id : Int} (h : o.id = id) (ha : ∀ x ∈ as, x.id ≠ id) : goneM ((as ++ o :: bs).map toPeer) id = (as ++ bs).map toPeer := by
  rw [goneM, List.map_append, List.eraseP_append_right _ (fun p hp => by
    obtain ⟨x, hx, rfl⟩ := List.mem_map.1 hp
    simpa [toPeer] using ha x hx), List.map_cons, List.eraseP_cons_of_pos (by simp [toPeer, h]), List.map_append]

theorem erase_all (names a : List UInt8) (h : a.Nodup) : (names.map idB).foldl (fun ks x => ks.erase x) (a.map idB) = (withoutM a names).map idB := by
  induction names generalizing a with
  | nil =>
    have : withoutM a [] = a := List.filter_eq_self.2 (by simp)
    rw [this]; rfl
  | cons x l ih =>
    have e : (a.map idB).erase (idB x) = (a.filter fun y => decide (y ≠ x)).map idB := by
      rw [(map_nodup h).erase_eq_filter, List.filter_map]
      congr 1
      apply List.filter_congr
      intro y _
      by_cases hyx : y = x
      · simp [hyx]
      · have : idB y ≠ idB x := fun e => hyx (idB_inj e)
        simp [hyx, this]
    rw [List.map_cons, List.foldl_cons, e, ih _ (h.filter _)]
    congr 1
    simp only [withoutM, List.filter_filter]
    apply List.filter_congr
    intro y _
    by_cases h1 : y = x <;> simp [h1]

def heardO (kind : Int) (h0 : UInt8) (nm : List UInt8) (k7 : SK) (o : One) : One :=
  if kind = 1 then { o with h1 := true } else if kind = 2 then { o with h2 := o.h2 || o.h1 } else if kind = 7 then { o with k := k7, bs := withoutM o.bs [h0] } else if kind = 8 then { o with k := k7, bs := withoutM o.bs nm } else o
theorem heard_one (kind : Int) (h0 : UInt8) (nm : List UInt8) (k7 : SK) (o : One) (h : o.bs.Nodup) : heardM kind (idB h0) (nm.map idB) (toPeer o) = toPeer (heardO kind h0 nm k7 o) := by
  unfold heardM heardO
  by_cases k1 : kind = 1
  · simp [k1, toPeer]
  · by_cases k2 : kind = 2
    · simp [k2, toPeer]
    · by_cases e7 : kind = 7
      · have := erase_all [h0] o.bs h
        simp at this
        simp [e7, toPeer, this]
      · by_cases e8 : kind = 8
        · have := erase_all nm o.bs h
          simp [e8, toPeer, this]
        · simp [k1, k2, e7, e8]

theorem good_set {as bs : List One} {o o' : One} (g : Good (as ++ o :: bs)) (h1 : o'.id = o.id) (h2 : o'.bs.Nodup) (h3 : o'.bs.length ≤ 16) : Good (as ++ o' :: bs) := by
  refine ⟨?_, fun x hx => ?_, fun x hx => ?_⟩
  · have := g.ids
    rw [List.map_append, List.map_cons] at this ⊢
    rw [h1]; exact this
  · rcases List.mem_append.1 hx with hx | hx
    · exact g.nd x (by simp [hx])
    · rcases List.mem_cons.1 hx with rfl | hx
      · exact h2
      · exact g.nd x (by simp [hx])
  · rcases List.mem_append.1 hx with hx | hx
    · exact g.le x (by simp [hx])
    · rcases List.mem_cons.1 hx with rfl | hx
      · exact h3
      · exact g.le x (by simp [hx])
theorem good_heard {as bs : List One} {o : One} (g : Good (as ++ o :: bs)) (kind : Int) (h0 : UInt8) (nm : List UInt8) (k7 : SK) : Good (as ++ heardO kind h0 nm k7 o :: bs) := by
  have hnd := g.nd o (by simp)
  have hle := g.le o (by simp)
  have hw : ∀ out, (withoutM o.bs out).Nodup ∧ (withoutM o.bs out).length ≤ 16 := fun out => ⟨hnd.filter _, Nat.le_trans (List.length_filter_le _ _) hle⟩
  refine good_set g ?_ ?_ ?_ <;> unfold heardO <;> repeat' split
  all_goals first | rfl | exact hnd | exact hle | exact (hw _).1 | exact (hw _).2
theorem good_may {as bs : List One} {o : One} (g : Good (as ++ o :: bs)) (kind : Int) (nm : List UInt8) : Good (as ++ (mayM (as ++ o :: bs) kind nm o).2 :: bs) := by
  have hnd := g.nd o (by simp)
  have hle := g.le o (by simp)
  refine good_set g ?_ ?_ ?_ <;> unfold mayM <;> repeat' split
  all_goals first | rfl | exact hnd | exact hle | skip
  · rename_i hok h16
    have hok := Classical.not_not.1 hok
    simp only
    rw [List.nodup_append]
    refine ⟨hnd, hok.1, fun a ha b hb e => ?_⟩
    subst e
    exact hok.2 a hb o (by simp) ha
  · rename_i hok h16
    simp; omega
theorem good_del {as bs : List One} {o : One} (g : Good (as ++ o :: bs)) : Good (as ++ bs) := by
  refine ⟨?_, fun x hx => g.nd x ?_, fun x hx => g.le x ?_⟩
  · have := g.ids
    rw [List.map_append, List.map_cons] at this
    rw [List.map_append]
    exact this.sublist (List.Sublist.append_left (List.sublist_cons_self _ _) _)
  all_goals
    rcases List.mem_append.1 hx with hx | hx
    · simp [hx]
    · simp [hx]
theorem good_new {ones : List One} {id : Int} (g : Good ones) (h : ∀ o ∈ ones, o.id ≠ id) : Good (ones ++ [newOne id]) := by
  refine ⟨?_, fun x hx => ?_, fun x hx => ?_⟩
  · rw [List.map_append, List.nodup_append]
    refine ⟨g.ids, by simp, fun a ha b hb e => ?_⟩
    obtain ⟨o, ho, rfl⟩ := List.mem_map.1 ha
    simp [newOne] at hb
    exact h o ho (e.trans hb)
  all_goals
    rcases List.mem_append.1 hx with hx | hx
    · first | exact g.nd x hx | exact g.le x hx
    · rw [List.mem_singleton.1 hx]; simp [newOne]

theorem asked_ones {ones : List One} (g : Good ones) {j : Nat} (hj : j < ones.length) : askedM (ones.map toPeer) ones[j].id = ones[j].bs.length := by
  have e : ones = ones.take j ++ ones[j] :: ones.drop (j + 1) := by rw [← List.drop_eq_getElem_cons hj, List.take_append_drop]
  have g' := g
  rw [e] at g'
  have := (good_split g' rfl).1
  have hf : (ones.map toPeer).find? (fun p => p.id == ones[j].id) = some (toPeer ones[j]) := by
    have := find_ones (bs := ones.drop (j + 1)) (o := ones[j]) rfl this
    rwa [← e] at this
  rw [askedM, hf]
  simp [toPeer]
end
end Go.Ab
