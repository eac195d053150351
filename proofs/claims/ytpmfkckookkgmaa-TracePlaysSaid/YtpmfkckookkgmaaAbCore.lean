/-
  Abstract values, abstract heap, and what they say of the machine's memory: slices are carried as lists, objects (boxed variables, growing slices, maps) are numbered by themselves; a ghost tells where they lie.
-/
import Derived.WalkKit
set_option linter.unusedSimpArgs false
set_option linter.unusedVariables false
namespace Go.Ab
open Go Go.RowKit

/-- What is known of a slice beside its elements: nil; full (as long as its capacity); not nil; anything. -/
inductive SK where
  | nil | full | some | any
  deriving DecidableEq

inductive V where
  | bool (b : Bool)
  | int (k : IntKind) (n : Int)
  | str (s : ByteArray)
  | ptr (p : Option (Nat × Nat))
  | eptr (cs : List V)
  | sl (k : SK) (cs : List V) (n : Nat)
  | hsl (id off sz n : Nat)
  | map (m : Option Nat)
  | func (f : FuncId) (cap : List V)
  | nilf
  | agg (cs : List V)
  | tup (vs : List V)
  | junk
  deriving Inhabited

def V.cells : V → List V
  | .agg cs => cs
  | v => [v]

inductive AObj where
  | cells (cs : List V)
  | ro (cs : List V)
  | mp (es : List (V × V))
  | siter (s : ByteArray) (pos : Nat)
  /-- a map that is gone through: its entries, when each was laid, and the clock -/
  | mpi (es : List (V × V)) (bs : List Nat) (clk : Nat)
  /-- where one stands in going through a map: since when, which were seen, the last step -/
  | mit (m : Option Nat) (since : Nat) (seen : List Nat) (stp : Nat)

abbrev St := Nat → Option AObj
abbrev Env := Nat → V

def Env.upd (e : Env) (d : Nat) (v : V) : Env := fun t => if t = d then v else e t
def St.upd (s : St) (id : Nat) (o : AObj) : St := fun i => if i = id then some o else s i
def St.del (s : St) (id : Nat) : St := fun i => if i = id then none else s i
/-- One heap is a part of another one. -/
def St.sub (s s' : St) : Prop := ∀ i o, s i = some o → s' i = some o

theorem St.sub_refl (s : St) : St.sub s s := fun _ _ h => h

structure Gh where
  ι : Nat → Option (Nat × Nat × Nat)
  pm : Nat → Nat → Option Value
  N : Nat
  fresh : ∀ id, N ≤ id → ι id = none

structure Gh.le (G G' : Gh) : Prop where
  ι : ∀ id x, G.ι id = some x → G'.ι id = some x
  pm : ∀ b o v, G.pm b o = some v → G'.pm b o = some v

theorem Gh.le_refl (G : Gh) : G.le G := ⟨fun _ _ h => h, fun _ _ _ h => h⟩
theorem Gh.le_trans {a b c : Gh} (h : a.le b) (k : b.le c) : a.le c := ⟨fun i x e => k.ι i x (h.ι i x e), fun i o x e => k.pm i o x (h.pm i o x e)⟩

inductive VRel (G : Gh) : V → Value → Prop
  | bool (b : Bool) : VRel G (.bool b) (.bool b)
  | int (k : IntKind) (n : Int) : VRel G (.int k n) (.int k n)
  | str (s : ByteArray) : VRel G (.str s) (.string s)
  | nilptr : VRel G (.ptr none) (.pointer none)
  | ptr (id o b l m : Nat) (h : G.ι id = some (b, l, m)) : VRel G (.ptr (some (id, o))) (.pointer (some ⟨b, o, none⟩))
  | eptr (cs : List V) (b o : Nat) (f : Nat → Value) (hp : ∀ i, i < cs.length → G.pm b (o + i) = some (f i))
      (hv : ∀ i, i < cs.length → VRel G (cs.getD i .junk) (f i)) (h1 : ∀ i, i < cs.length → (f i).oneCell' = true) : VRel G (.eptr cs) (.pointer (some ⟨b, o, none⟩))
  | slnil (k : SK) (hk : k = .nil ∨ k = .any) : VRel G (.sl k [] 0) (.slice none 0 0)
  | slz (a : Addr) : VRel G (.sl .any [] 0) (.slice (some a) 0 0)
  | sl (k : SK) (cs : List V) (n b o cap : Nat) (hk : k ≠ .nil) (hn : n ≤ cap) (hf : k = .full → cap = n) (f : Nat → Value)
      (hp : ∀ i, i < cs.length → G.pm b (o + i) = some (f i)) (hv : ∀ i, i < cs.length → VRel G (cs.getD i .junk) (f i)) (h1 : ∀ i, i < cs.length → (f i).oneCell' = true) :
      VRel G (.sl k cs n) (.slice (some ⟨b, o, none⟩) n cap)
  | hsl (id off sz n b l m cap o : Nat) (h : G.ι id = some (b, l, m)) (hn : n ≤ cap) (hm : off + cap * sz ≤ m) (hl : l ≤ off + cap * sz) (ho : cap ≠ 0 → o = off) :
      VRel G (.hsl id off sz n) (.slice (some ⟨b, o, none⟩) n cap)
  | nilmap : VRel G (.map none) (.map none)
  | map (id b l m : Nat) (h : G.ι id = some (b, l, m)) : VRel G (.map (some id)) (.map (some b))
  | func (f : FuncId) (cap : List V) (xs : Array Value) (hl : xs.size = cap.length)
      (hv : ∀ i, i < cap.length → VRel G (cap.getD i .junk) (xs.getD i undef)) : VRel G (.func f cap) (.func (.func f) #[] xs)
  | nilf : VRel G .nilf .nilFunc
  | agg (cs : List V) (xs : Array Value) (hl : xs.size = cs.length)
      (hv : ∀ i, i < cs.length → VRel G (cs.getD i .junk) (xs.getD i undef)) (h1 : ∀ i, i < cs.length → (xs.getD i undef).oneCell' = true) : VRel G (.agg cs) (.agg xs)
  | tup (cs : List V) (xs : Array Value) (hl : xs.size = cs.length)
      (hv : ∀ i, i < cs.length → VRel G (cs.getD i .junk) (xs.getD i undef)) : VRel G (.tup cs) (.tuple xs)
  | junk (x : Value) : VRel G .junk x

theorem VRel.mono {G G' : Gh} (hle : G.le G') {v : V} {x : Value} (h : VRel G v x) : VRel G' v x := by
  induction h with
  | bool b => exact .bool b
  | int k n => exact .int k n
  | str s => exact .str s
  | nilptr => exact .nilptr
  | ptr id o b l m h => exact .ptr id o b l m (hle.ι _ _ h)
  | eptr cs b o f hp hv h1 ih => exact .eptr cs b o f (fun i hi => hle.pm _ _ _ (hp i hi)) ih h1
  | slnil k hk => exact .slnil k hk
  | slz a => exact .slz a
  | sl k cs n b o cap hk hn hf f hp hv h1 ih => exact .sl k cs n b o cap hk hn hf f (fun i hi => hle.pm _ _ _ (hp i hi)) ih h1
  | hsl id off sz n b l m cap o h hn hm hl ho => exact .hsl id off sz n b l m cap o (hle.ι _ _ h) hn hm hl ho
  | nilmap => exact .nilmap
  | map id b l m h => exact .map id b l m (hle.ι _ _ h)
  | func f cap xs hl hv ih => exact .func f cap xs hl ih
  | nilf => exact .nilf
  | agg cs xs hl hv h1 ih => exact .agg cs xs hl ih h1
  | tup cs xs hl hv ih => exact .tup cs xs hl ih
  | junk x => exact .junk x

/-- A list of values, cell by cell. -/
def LRel (G : Gh) (cs : List V) (xs : List Value) : Prop := xs.length = cs.length ∧ ∀ i, i < cs.length → VRel G (cs.getD i .junk) (xs.getD i undef)

theorem LRel.mono {G G' : Gh} (hle : G.le G') {cs : List V} {xs : List Value} (h : LRel G cs xs) : LRel G' cs xs := ⟨h.1, fun i hi => (h.2 i hi).mono hle⟩

def ObjRel (G : Gh) (w : World) (b l m : Nat) : AObj → Prop
  | .cells cs => ∃ C T, w.heap[b]? = some (.cells C T (0, 0)) ∧ C.size = m ∧ cs.length = l ∧ l ≤ m ∧ (∀ i, i < cs.length → VRel G (cs.getD i .junk) (C.getD i undef) ∧ (C.getD i undef).oneCell' = true) ∧ ∀ o, G.pm b o = none
  | .ro cs => cs.length = l ∧ ∀ i, i < cs.length → ∃ x, G.pm b i = some x ∧ VRel G (cs.getD i .junk) x ∧ x.oneCell' = true
  | .mp es => ∃ E clk, w.heap[b]? = some (.map E clk) ∧ E.size = es.length ∧
      (∀ i, i < es.length → VRel G (es.getD i default).1 (E.getD i default).key ∧ VRel G (es.getD i default).2 (E.getD i default).val) ∧
      (E.toList.map (·.born)).Pairwise (· < ·) ∧ ∀ e ∈ E.toList, e.born < clk
  | .siter s pos => w.heap[b]? = some (.stringIter s pos)
  | .mpi es bs clk => ∃ E, w.heap[b]? = some (.map E clk) ∧ E.size = es.length ∧
      (∀ i, i < es.length → VRel G (es.getD i default).1 (E.getD i default).key ∧ VRel G (es.getD i default).2 (E.getD i default).val) ∧
      E.toList.map (·.born) = bs ∧ bs.Pairwise (· < ·) ∧ ∀ x ∈ bs, x < clk
  | .mit mo since seen stp => ∃ bo, w.heap[b]? = some (.mapIter bo since seen.toArray stp) ∧ (match mo with | none => bo = none | some id => ∃ c x, G.ι id = some (c, x) ∧ bo = some c)

structure StRel (B : Nat) (w0 : World) (G : Gh) (st : St) (w : World) : Prop where
  below : Below B w0 w
  size : B ≤ w.heap.size
  lt : ∀ id b x, G.ι id = some (b, x) → b < w.heap.size
  pm : ∀ b o v, G.pm b o = some v → w.cell? ⟨b, o, none⟩ = some v
  obj : ∀ id ob, st id = some ob → ∃ b l m, G.ι id = some (b, l, m) ∧ B ≤ b ∧ ObjRel G w b l m ob
  inj : ∀ id id' b x x', st id ≠ none → st id' ≠ none → G.ι id = some (b, x) → G.ι id' = some (b, x') → id = id'

theorem StRel.sub {B : Nat} {w0 : World} {G : Gh} {st st' : St} {w : World} (h : StRel B w0 G st w) (hs : St.sub st' st) : StRel B w0 G st' w :=
  ⟨h.below, h.size, h.lt, h.pm, fun id ob e => h.obj id ob (hs id ob e), fun id id' b m m' h1 h2 => h.inj id id' b m m'
    (fun e => h1 (by cases hx : st' id with | none => rfl | some o => rw [hs id o hx] at e; cases e))
    (fun e => h2 (by cases hx : st' id' with | none => rfl | some o => rw [hs id' o hx] at e; cases e))⟩

/-- The slots of a frame. -/
def EnvRel (G : Gh) (n : Nat) (env : Env) (a : Act) : Prop := a.tmps.size = n ∧ a.defers = [] ∧ ∀ t, t < n → VRel G (env t) (a.tmps.getD t undef)

theorem EnvRel.mono {G G' : Gh} (hle : G.le G') {n : Nat} {env : Env} {a : Act} (h : EnvRel G n env a) : EnvRel G' n env a :=
  ⟨h.1, h.2.1, fun t ht => (h.2.2 t ht).mono hle⟩

theorem EnvRel.put {G : Gh} {n : Nat} {env : Env} {a : Act} (h : EnvRel G n env a) {d : Nat} {v : V} {x : Value} (hd : d < n) (hv : VRel G v x) :
    EnvRel G n (env.upd d v) (a.put (some d) x) := by
  obtain ⟨h1, h2, h3⟩ := h
  refine ⟨by simp [Act.put, h1], by simpa [Act.put] using h2, fun t ht => ?_⟩
  by_cases e : t = d
  · subst e
    simp [Env.upd, Act.put, h1, hd, hv]
  · have := h3 t ht
    simp only [Env.upd, e, if_false, Act.put]
    rw [Array.getD_eq_getD_getElem?, Array.getElem?_setIfInBounds_ne (by omega), ← Array.getD_eq_getD_getElem?]
    exact this

/-- A slot of which nothing is said any more. -/
theorem EnvRel.none {G : Gh} {n : Nat} {env : Env} {a : Act} (h : EnvRel G n env a) (x : Value) : EnvRel G n env (a.put none x) := h

end Go.Ab
