import Derived.Test.YtigmjhijbdpfkaaG8
import Derived.Test.YtigmjhijbdpfkaaG9
import Derived.Test.YtigmjhijbdpfkaaG7
import Derived.Test.YtigmjhijbdpfkaaG6
import Derived.Test.YtigmjhijbdpfkaaG4
import Derived.Test.YtigmjhijbdpfkaaG5
import Derived.Deep.Slices
import Derived.OpenShut
set_option linter.unusedSimpArgs false
set_option linter.unusedVariables false
namespace Go.Ab
set_option maxRecDepth 100000 in
theorem lpart_24 : lpart 8 17 (fun _ _ _ => lP16) lP24 [lA24, lA23, lA22, lA21, lA20, lA19, lA18, lA17] = true := by decide +kernel
end Go.Ab
set_option linter.unusedSimpArgs false
set_option linter.unusedVariables false
namespace Go.Ab
set_option maxRecDepth 100000 in
theorem lpart_32 : lpart 8 25 (fun _ _ _ => lP24) lP32 [lA32, lA31, lA30, lA29, lA28, lA27, lA26, lA25] = true := by decide +kernel
end Go.Ab
set_option linter.unusedSimpArgs false
set_option linter.unusedVariables false
namespace Go.Ab
set_option maxRecDepth 100000 in
theorem lpart_40 : lpart 8 33 (fun _ _ _ => lP32) lP40 [lA40, lA39, lA38, lA37, lA36, lA35, lA34, lA33] = true := by decide +kernel
end Go.Ab
set_option linter.unusedSimpArgs false
set_option linter.unusedVariables false
namespace Go.Ab
set_option maxRecDepth 100000 in
theorem luniq_all : luniqN maskL oneL ([lA40, lA39, lA38, lA37, lA36, lA35, lA34, lA33, lA32, lA31, lA30, lA29, lA28, lA27, lA26, lA25, lA24, lA23, lA22, lA21, lA20, lA19, lA18, lA17, lA16, lA15, lA14, lA13, lA12, lA11, lA10, lA9, lA8, lA7, lA6, lA5, lA4, lA3, lA2, lA1] ++ [(lgen maskL oneL (lIV oneL)).a, 0]) = true := by decide +kernel
end Go.Ab
set_option linter.unusedSimpArgs false
set_option linter.unusedVariables false
namespace Go.Ab
theorem markL_nat : QL markL fun i => (UInt8.ofNat i).toNat := fun i hi => by
  have := packL_ln 256 0 (by omega) i hi
  rw [Nat.zero_add] at this
  refine this.trans ?_
  simp
  omega
def UpW (m : UInt8) : Nat → V8 → List V8 → Prop
  | _, _, [] => True
  | h, p, v :: l => Fnd (fun k => hdrW (BitVec.ofNat 32 1) (BitVec.ofNat 32 (10 * h)) (BitVec.ofNat 32 0x207fffff) (BitVec.ofNat 32 k) p (txW (UInt8.ofNat h) (UInt8.ofNat (h / 256)) m)) 40 v ∧ UpW m (h + 1) v l
inductive RSs : List LS → List (Nat → V8) → Prop
  | nil : RSs [] []
  | cons {s : LS} {v : Nat → V8} {r : List LS} {w : List (Nat → V8)} (h : RS s v) (t : RSs r w) : RSs (s :: r) (v :: w)
theorem lchain_succ (M O : Nat) (iv L : LS) (n h : Nat) (P : LS) (out : List LS) : lchain M O iv L (n + 1) h P out =
    Option.rec (motive := fun _ => Option (List LS)) none (fun R => lchain M O iv L n (h + 1) R (R :: out)) (lmine M O iv (lmid M O iv 16777216 P (ltx M O iv markL L h)) (ltx M O iv markL L h).h (bswN (10 * h)) (bswN 0x207fffff) 40 0 0 lzero) := by
  have e : lchain M O iv L (n + 1) h P out = lbind (ltx M O iv markL L h) fun T => lbind (lmid M O iv 16777216 P T) fun mid =>
      Option.rec (motive := fun _ => Option (List LS)) none (fun R => frc (h + 1) fun h' => lchain M O iv L n h' R (R :: out)) (lmine M O iv mid T.h (bswN (10 * h)) (bswN 0x207fffff) 40 0 0 lzero) := rfl
  refine e.trans ?_
  clear e
  rw [lbind_eq, lbind_eq]
  cases lmine M O iv (lmid M O iv 16777216 P (ltx M O iv markL L h)) (ltx M O iv markL L h).h (bswN (10 * h)) (bswN 0x207fffff) 40 0 0 lzero with
  | none => rfl
  | some R => exact frc_eq (h + 1) fun h' => lchain M O iv L n h' R (R :: out)
theorem lchain_ok {L : LS} (hL : RS L fun i => lockW (UInt8.ofNat i)) : ∀ (n h : Nat) (P : LS) (p : Nat → V8) (out R : List LS), h + n ≤ 256 → RS P p → lchain maskL oneL (lIV oneL) L n h P out = some R →
    ∃ (new : List LS) (fs : List (Nat → V8)), R = new ++ out ∧ fs.length = n ∧ RSs new fs ∧ ∀ i, i < 256 → UpW (UInt8.ofNat i) h (p i) ((fs.map fun f => f i).reverse) := by
  intro n
  induction n with
  | zero =>
    intro h P p out R hh hP e
    have e0 : lchain maskL oneL (lIV oneL) L 0 h P out = some out := rfl
    rw [e0] at e
    exact ⟨[], [], (Option.some.inj e).symm, rfl, .nil, fun i _ => trivial⟩
  | succ n ih =>
    intro h P p out R hh hP e
    rw [lchain_succ] at e
    have hT := ltx_ok (h := h) markL_nat hL (by omega)
    have hf : ∀ k, RS (lhdr maskL oneL (lIV oneL) (lmid maskL oneL (lIV oneL) 16777216 P (ltx maskL oneL (lIV oneL) markL L h)) (ltx maskL oneL (lIV oneL) markL L h).h (bswN (10 * h)) (bswN 0x207fffff) (bswN k))
        fun i => (fun i k => hdrW (BitVec.ofNat 32 1) (BitVec.ofNat 32 (10 * h)) (BitVec.ofNat 32 0x207fffff) (BitVec.ofNat 32 k) (p i) (txW (UInt8.ofNat h) (UInt8.ofNat (h / 256)) (UInt8.ofNat i))) i k := fun k => by
      have e1 : bswN 1 = 16777216 := rfl
      rw [← e1]
      exact lhdrW_ok (ver := 1) hP hT
    cases hm : lmine maskL oneL (lIV oneL) (lmid maskL oneL (lIV oneL) 16777216 P (ltx maskL oneL (lIV oneL) markL L h)) (ltx maskL oneL (lIV oneL) markL L h).h (bswN (10 * h)) (bswN 0x207fffff) 40 0 0 lzero with
    | none => rw [hm] at e; cases e
    | some X =>
      rw [hm] at e
      have z : RL 0 fun _ => (0 : BitVec 32) := .zero
      have hz : RS lzero fun _ => v80 := ⟨z, z, z, z, z, z, z, z⟩
      have hd : FQ 0 fun _ => false := fun i hi => by simp [ln]
      obtain ⟨x, hx, hF⟩ := lmine_ok hf 40 0 0 lzero X (fun _ => false) (fun _ => v80) hd hz (fun i _ h => by cases h) (fun i _ _ => ⟨rfl, fun j hj => by omega⟩) hm
      obtain ⟨new, fs, h1, h2, h3, h4⟩ := ih (h + 1) X x (X :: out) R (by omega) hx e
      refine ⟨new ++ [X], fs ++ [x], by rw [h1]; simp, by simp [h2], ?_, fun i hi => ?_⟩
      · clear h1 h2 h4 e
        induction h3 with
        | nil => exact .cons hx .nil
        | cons h t ih => exact .cons h ih
      · rw [List.map_append, List.map_singleton, List.reverse_append, List.reverse_singleton, List.singleton_append]
        exact ⟨hF i hi, h4 i hi⟩
def genW : V8 := hdrW (BitVec.ofNat 32 0) (BitVec.ofNat 32 0) (BitVec.ofNat 32 0x207fffff) (BitVec.ofNat 32 0) v80 (txW (UInt8.ofNat 0) (UInt8.ofNat (0 / 256)) 0)
theorem lgen_ok : RS (lgen maskL oneL (lIV oneL)) fun _ => genW := by
  have hm : QL 0 fun _ => (0 : UInt8).toNat := fun i hi => by simp [ln]
  have hT := ltx_ok (h := 0) hm (llock_ok hm) (by omega)
  have z : RL 0 fun _ => (0 : BitVec 32) := .zero
  have hz : RS lzero fun _ => v80 := ⟨z, z, z, z, z, z, z, z⟩
  have := lhdrW_ok (ver := 0) (time := 0) (bits := 0x207fffff) (nonce := 0) hz hT
  rw [lgen]
  simp only [lbind_eq]
  exact this
theorem lallN_ok {f : Nat → Bool} : ∀ {l : List Nat}, lallN f l = true → ∀ x ∈ l, f x = true
  | [], _, x, hx => by cases hx
  | a :: l, h, x, hx => by
    have e : lallN f (a :: l) = cond (f a) (lallN f l) false := rfl
    rw [e] at h
    cases ha : f a with
    | false => rw [ha] at h; cases h
    | true =>
      rw [ha] at h
      rcases List.mem_cons.1 hx with rfl | hx
      · exact ha
      · exact lallN_ok h x hx
theorem RW.of_mem : ∀ {l : List Nat} {fs : List (Nat → BitVec 32)}, RW l fs → ∀ f ∈ fs, ∃ x ∈ l, RL x f
  | _, _, .nil, f, hf => by cases hf
  | _, _, .cons h t, f, hf => by
    rcases List.mem_cons.1 hf with rfl | hf
    · exact ⟨_, List.mem_cons_self, h⟩
    · obtain ⟨x, hx, hr⟩ := t.of_mem f hf
      exact ⟨x, List.mem_cons_of_mem _ hx, hr⟩
theorem luniqN_ok : ∀ {l : List Nat} {fs : List (Nat → BitVec 32)}, RW l fs → luniqN maskL oneL l = true → ∀ i, i < 256 → (fs.map fun f => f i).Pairwise (· ≠ ·)
  | _, _, .nil, _, i, hi => .nil
  | _, _, .cons (X := s) (x := v) (r := r) (w := w) h t, e, i, hi => by
    have e1 : luniqN maskL oneL (s :: r) = cond (lallN (fun b => lunlike maskL oneL s b) r) (luniqN maskL oneL r) false := rfl
    rw [e1] at e
    cases ha : lallN (fun b => lunlike maskL oneL s b) r with
    | false => rw [ha] at e; cases e
    | true =>
      rw [ha] at e
      rw [List.map_cons, List.pairwise_cons]
      refine ⟨fun a hm => ?_, luniqN_ok t e i hi⟩
      obtain ⟨f, hf, rfl⟩ := List.mem_map.1 hm
      obtain ⟨x, hx, hr⟩ := t.of_mem f hf
      exact lunlike_ok h hr (lallN_ok ha x hx) i hi
theorem cond_both {a b : Bool} (h : cond a b false = true) : a = true ∧ b = true := by
  cases a with
  | false => cases h
  | true => exact ⟨rfl, h⟩
theorem lbeq_ok {s t : LS} (h : lbeq s t = true) : s = t := by
  have e : lbeq s t = cond (Nat.beq s.a t.a) (cond (Nat.beq s.b t.b) (cond (Nat.beq s.c t.c) (cond (Nat.beq s.d t.d) (cond (Nat.beq s.e t.e) (cond (Nat.beq s.f t.f) (cond (Nat.beq s.g t.g) (Nat.beq s.h t.h) false) false) false) false) false) false) false := rfl
  rw [e] at h
  obtain ⟨h1, h⟩ := cond_both h
  obtain ⟨h2, h⟩ := cond_both h
  obtain ⟨h3, h⟩ := cond_both h
  obtain ⟨h4, h⟩ := cond_both h
  obtain ⟨h5, h⟩ := cond_both h
  obtain ⟨h6, h⟩ := cond_both h
  obtain ⟨h7, h8⟩ := cond_both h
  cases s
  cases t
  simp only [LS.mk.injEq]
  exact ⟨Nat.eq_of_beq_eq_true h1, Nat.eq_of_beq_eq_true h2, Nat.eq_of_beq_eq_true h3, Nat.eq_of_beq_eq_true h4, Nat.eq_of_beq_eq_true h5, Nat.eq_of_beq_eq_true h6, Nat.eq_of_beq_eq_true h7, Nat.eq_of_beq_eq_true h8⟩
theorem lfirst_ok : ∀ {l : List LS} {as : List Nat}, lfirst l as = true → l.map (·.a) = as
  | [], [], _ => rfl
  | [], _ :: _, h => by cases h
  | _ :: _, [], h => by cases h
  | s :: l, a :: as, h => by
    have e : lfirst (s :: l) (a :: as) = cond (Nat.beq s.a a) (lfirst l as) false := rfl
    rw [e] at h
    obtain ⟨h1, h2⟩ := cond_both h
    rw [List.map_cons, lfirst_ok h2, Nat.eq_of_beq_eq_true h1]
theorem lsame_ok {l : List LS} {Q : LS} {as : List Nat} (h : lsame l Q as = true) : l.head? = some Q ∧ l.map (·.a) = as := by
  obtain ⟨h1, h2⟩ := cond_both h
  refine ⟨?_, lfirst_ok h2⟩
  cases l with
  | nil => cases h1
  | cons s l =>
    have e : lbeq s Q = true := h1
    rw [lbeq_ok e]
    rfl
theorem RSs.first : ∀ {l : List LS} {fs : List (Nat → V8)}, RSs l fs → RW (l.map (·.a)) (fs.map fun f i => (f i).a)
  | _, _, .nil => .nil
  | _, _, .cons h t => .cons h.a t.first
theorem lpart_eq (n h : Nat) (pf : Nat → Nat → LS → LS) (Q : LS) (as : List Nat) : lpart n h pf Q as =
    Option.rec (motive := fun _ => Bool) false (fun l => lsame l Q as) (lchain maskL oneL (lIV oneL) (llock maskL oneL (lIV oneL) markL) n h (pf maskL oneL (lIV oneL)) []) := by
  have e : lpart n h pf Q as = frc oneL fun O => frc (4294967295 * O) fun M => lbind (lIV O) fun iv => lbind (llock M O iv markL) fun L => lbind (pf M O iv) fun P =>
    Option.rec (motive := fun _ => Bool) false (fun l => lsame l Q as) (lchain M O iv L n h P []) := rfl
  rw [e]
  simp only [lbind_eq, frc_eq]
  rfl
theorem lpart_ok {n h : Nat} {pf : Nat → Nat → LS → LS} {Q : LS} {as : List Nat} {p : Nat → V8} (hh : h + n ≤ 256) (hp : RS (pf maskL oneL (lIV oneL)) p) (e : lpart n h pf Q as = true) :
    ∃ (q : Nat → V8) (fs : List (Nat → V8)), (q :: fs).length = n ∧ RS Q q ∧ RW as ((q :: fs).map fun f i => (f i).a) ∧ ∀ i, i < 256 → UpW (UInt8.ofNat i) h (p i) (((q :: fs).map fun f => f i).reverse) := by
  rw [lpart_eq] at e
  cases hc : lchain maskL oneL (lIV oneL) (llock maskL oneL (lIV oneL) markL) n h (pf maskL oneL (lIV oneL)) [] with
  | none => rw [hc] at e; cases e
  | some R =>
    rw [hc] at e
    obtain ⟨h1, h2⟩ := lsame_ok e
    obtain ⟨new, fs, k1, k2, k3, k4⟩ := lchain_ok (llock_ok markL_nat) n h _ p _ R hh hp hc
    rw [List.append_nil] at k1
    subst k1
    cases k3 with
    | nil => cases h1
    | cons hs ht =>
      rw [List.head?_cons] at h1
      cases h1
      refine ⟨_, _, k2, hs, ?_, k4⟩
      rw [← h2]
      exact RSs.first (.cons hs ht)
theorem UpW.app {m : UInt8} : ∀ {h : Nat} {p : V8} {l1 l2 : List V8}, UpW m h p l1 → UpW m (h + l1.length) (l1.getLastD p) l2 → UpW m h p (l1 ++ l2)
  | h, p, [], l2, _, h2 => h2
  | h, p, v :: l1, l2, h1, h2 => ⟨h1.1, UpW.app h1.2 (by
    rw [List.length_cons, List.getLastD_cons] at h2
    rw [show h + 1 + l1.length = h + (l1.length + 1) by omega]
    exact h2)⟩
theorem last_rev (q : Nat → V8) (fs : List (Nat → V8)) (i : Nat) (p : V8) : (((q :: fs).map fun f => f i).reverse).getLastD p = q i := by
  rw [List.map_cons, List.reverse_cons]
  simp [List.getLastD_eq_getLast?]
theorem UpW.part {m : UInt8} {h i : Nat} {p : V8} {q : Nat → V8} {fs : List (Nat → V8)} {l2 : List V8} {n : Nat} (hn : (q :: fs).length = n) (h1 : UpW m h p (((q :: fs).map fun f => f i).reverse)) (h2 : UpW m (h + n) (q i) l2) : UpW m h p ((((q :: fs).map fun f => f i).reverse) ++ l2) := by
  refine UpW.app h1 ?_
  rw [last_rev]
  have : (((q :: fs).map fun f => f i).reverse).length = n := by rw [List.length_reverse, List.length_map, hn]
  rw [this]
  exact h2
theorem names_all (m : UInt8) : ∃ l : List V8, l.length = 40 ∧ UpW m 1 genW l ∧ (0 :: genW.a :: l.map (·.a)).Pairwise (· ≠ ·) := by
  obtain ⟨q1, f1, a1, a2, a3, a4⟩ := lpart_ok (by omega) lgen_ok lpart_8
  obtain ⟨q2, f2, b1, b2, b3, b4⟩ := lpart_ok (by omega) a2 lpart_16
  obtain ⟨q3, f3, c1, c2, c3, c4⟩ := lpart_ok (by omega) b2 lpart_24
  obtain ⟨q4, f4, d1, d2, d3, d4⟩ := lpart_ok (by omega) c2 lpart_32
  obtain ⟨q5, f5, e1, e2, e3, e4⟩ := lpart_ok (by omega) d2 lpart_40
  have hi := m.toNat_lt
  have hm : UInt8.ofNat m.toNat = m := by simp
  have z : RL 0 fun _ => (0 : BitVec 32) := .zero
  have hw : RW _ _ := (((((e3.app d3).app c3).app b3).app a3).app (.cons lgen_ok.a (.cons z .nil)))
  have hp := luniqN_ok hw luniq_all m.toNat hi
  have u := UpW.part a1 (a4 m.toNat hi) (UpW.part b1 (b4 m.toNat hi) (UpW.part c1 (c4 m.toNat hi) (UpW.part d1 (d4 m.toNat hi) (e4 m.toNat hi))))
  rw [hm] at u
  refine ⟨_, ?_, u, ?_⟩
  · simp only [List.length_append, List.length_reverse, List.length_map]
    omega
  · have h9 := List.pairwise_reverse.2 (List.Pairwise.imp (S := fun a b => b ≠ a) (fun h => Ne.symm h) hp)
    have e9 : ∀ (l1 l2 l3 l4 l5 : List (Nat → V8)) (i : Nat), (((((((l5.map fun (f : Nat → V8) (i : Nat) => (f i).a) ++ l4.map fun (f : Nat → V8) (i : Nat) => (f i).a) ++ l3.map fun (f : Nat → V8) (i : Nat) => (f i).a) ++ l2.map fun (f : Nat → V8) (i : Nat) => (f i).a) ++ l1.map fun (f : Nat → V8) (i : Nat) => (f i).a) ++ [fun _ => genW.a, fun _ => 0]).map fun (f : Nat → BitVec 32) => f i).reverse =
        0 :: genW.a :: (((l1.map fun (f : Nat → V8) => f i).reverse ++ ((l2.map fun (f : Nat → V8) => f i).reverse ++ ((l3.map fun (f : Nat → V8) => f i).reverse ++ ((l4.map fun (f : Nat → V8) => f i).reverse ++ (l5.map fun (f : Nat → V8) => f i).reverse)))).map (·.a)) := fun l1 l2 l3 l4 l5 i => by
      simp [Function.comp_def]
    rw [e9] at h9
    exact h9
end Go.Ab
set_option linter.unusedSimpArgs false
set_option linter.unusedVariables false
namespace Go.Ab
theorem leN_app : ∀ l r : List UInt8, leN (l ++ r) = leN l + 256 ^ l.length * leN r
  | [], r => by simp [leN]
  | b :: l, r => by
    rw [List.cons_append, leN, leN_app l r, leN, List.length_cons, Nat.pow_succ]
    have : 256 ^ l.length * 256 * leN r = 256 * (256 ^ l.length * leN r) := by rw [Nat.mul_comm (256 ^ l.length) 256, Nat.mul_assoc]
    omega
theorem leN_out4 (x : BitVec 32) : leN (out4 x) = x.toNat / 16777216 + 256 * (x.toNat / 65536 % 256 + 256 * (x.toNat / 256 % 256 + 256 * (x.toNat % 256))) := by
  have hx := x.isLt
  simp [out4, leN, BitVec.toNat_setWidth, Nat.shiftRight_eq_div_pow]
  omega
theorem outV_split (v : V8) : outV v = (out4 v.a ++ [v.b, v.c, v.d, v.e, v.f, v.g].flatMap out4) ++ out4 v.h := by simp [outV, V8.list]
def easyN : Nat := 8388607 * 2 ^ 232
theorem easy_tgt : tgt 545259519#32 = some easyN := by decide +kernel
theorem lin4 {n a1 a2 a3 B C D : Nat} (h1 : n = 256 * a1 + D) (h2 : a1 = 256 * a2 + C) (h3 : a2 = 256 * a3 + B) : n = 16777216 * a3 + 65536 * B + 256 * C + D := by omega
theorem lin3 {n a1 B C D : Nat} (h1 : n = 256 * a1 + D) (h2 : a1 = 256 * B + C) : n = 65536 * B + 256 * C + D := by omega
theorem bytes4 {n : Nat} (h : n < 4294967296) : ∃ A B C D : Nat, A < 256 ∧ B < 256 ∧ C < 256 ∧ D < 256 ∧ n = 16777216 * A + 65536 * B + 256 * C + D ∧ n / 16777216 = A ∧ n / 65536 % 256 = B ∧ n / 256 % 256 = C ∧ n % 256 = D ∧ n % 16777216 = 65536 * B + 256 * C + D := by
  refine ⟨n / 16777216, n / 65536 % 256, n / 256 % 256, n % 256, by omega, Nat.mod_lt _ (by decide), Nat.mod_lt _ (by decide), Nat.mod_lt _ (by decide), ?_, rfl, rfl, rfl, rfl, ?_⟩
  · have h1 : n = 256 * (n / 256) + n % 256 := by omega
    have h2 : n / 256 = 256 * (n / 65536) + n / 256 % 256 := by omega
    have h3 : n / 65536 = 256 * (n / 16777216) + n / 65536 % 256 := by omega
    exact lin4 h1 h2 h3
  · have h1 : n % 16777216 = 256 * (n % 16777216 / 256) + n % 256 := by omega
    have h2 : n % 16777216 / 256 = 256 * (n / 65536 % 256) + n / 256 % 256 := by omega
    exact lin3 h1 h2
theorem low_len (v : V8) : (out4 v.a ++ [v.b, v.c, v.d, v.e, v.f, v.g].flatMap out4).length = 28 := by simp [out4]
theorem idN_split (v : V8) : ∃ L, idN (idV v) = L + 2 ^ 224 * leN (out4 v.h) ∧ L < 2 ^ 224 ∧ (v.a.toNat ≠ 0 → L ≠ 0) := by
  have e : (idV v).toList = outV v := rfl
  have e2 : (256 : Nat) ^ 28 = 2 ^ 224 := by rw [show (256 : Nat) = 2 ^ 8 from rfl, ← Nat.pow_mul]
  refine ⟨leN (out4 v.a ++ [v.b, v.c, v.d, v.e, v.f, v.g].flatMap out4), ?_, ?_, ?_⟩
  · rw [idN, e, outV_split, leN_app, low_len, e2]
  · have := leN_lt (out4 v.a ++ [v.b, v.c, v.d, v.e, v.f, v.g].flatMap out4)
    rwa [low_len, e2] at this
  · intro ha hL
    rw [leN_app, leN_out4] at hL
    obtain ⟨A, B, C, D, -, -, -, -, h1, h2, h3, h4, h5, -⟩ := bytes4 v.a.isLt
    rw [h2, h3, h4, h5] at hL
    have := (Nat.add_eq_zero_iff.1 hL).1
    omega
theorem bit7 (n : Nat) : n.testBit 7 = decide (128 ≤ n % 256) := by
  rw [Nat.testBit_eq_decide_div_mod_eq]
  apply decide_eq_decide.2
  omega
theorem provedN_easy {h : Hdr} (hb : h.bits = 545259519#32) : provedN h 545259519#32 = if easyN < idN (hId h) then 50 else 0 := by
  rw [provedN, hb, easy_tgt]
  simp
theorem sums {L q A B C D : Nat} (hL : L < q) (hB : B < 256) (hA : A < 256) (hC : C < 256) (hD : D < 256) :
    ((65536 * B + 256 * C + D ≠ 16777087 ∧ D < 128) → ¬ 8388607 * (256 * q) < L + q * (A + 256 * (B + 256 * (C + 256 * D)))) ∧
    ((128 ≤ D ∨ (65536 * B + 256 * C + D = 16777087 ∧ L ≠ 0)) → 8388607 * (256 * q) < L + q * (A + 256 * (B + 256 * (C + 256 * D)))) := by
  have h5 : q * (8388607 * 256) = 8388607 * (256 * q) := by rw [Nat.mul_comm, Nat.mul_assoc]
  refine ⟨fun ⟨h1, h2⟩ => ?_, fun h => ?_⟩
  · have h3 : A + 256 * (B + 256 * (C + 256 * D)) + 1 ≤ 8388607 * 256 := by omega
    have h4 := Nat.mul_le_mul_left q h3
    rw [Nat.mul_add, Nat.mul_one] at h4
    omega
  · rcases h with h | ⟨h, hl⟩
    · have h3 : 8388607 * 256 + 1 ≤ A + 256 * (B + 256 * (C + 256 * D)) := by omega
      have h4 := Nat.mul_le_mul_left q h3
      rw [Nat.mul_add, Nat.mul_one] at h4
      omega
    · have h3 : 8388607 * 256 ≤ A + 256 * (B + 256 * (C + 256 * D)) := by omega
      have h4 := Nat.mul_le_mul_left q h3
      omega
theorem easyN_eq : easyN = 8388607 * (256 * 2 ^ 224) := by
  rw [easyN, show (256 : Nat) * 2 ^ 224 = 2 ^ 8 * 2 ^ 224 from rfl, ← Nat.pow_add]
theorem acc_ok {h : Hdr} {v : V8} (hid : hId h = idV v) (hb : h.bits = 545259519#32) (ha : AccW v) : provedN h 545259519#32 = 0 := by
  rw [provedN_easy hb, hid]
  obtain ⟨L, e, hL, _⟩ := idN_split v
  obtain ⟨h1, h2⟩ := ha
  rw [bit7] at h2
  have h1 := of_decide_eq_true h1
  have h2 := of_decide_eq_false h2
  obtain ⟨A, B, C, D, hA, hB, hC, hD, k1, k2, k3, k4, k5, k6⟩ := bytes4 v.h.isLt
  rw [k6] at h1
  rw [k5] at h2
  rw [if_neg]
  rw [e, leN_out4, easyN_eq, k2, k3, k4, k5]
  exact (sums hL hB hA hC hD).1 ⟨h1, by omega⟩
theorem rej_ok {h : Hdr} {v : V8} (hid : hId h = idV v) (hb : h.bits = 545259519#32) (hr : RejW v) : provedN h 545259519#32 ≠ 0 := by
  rw [provedN_easy hb, hid]
  obtain ⟨L, e, hL, hL0⟩ := idN_split v
  obtain ⟨hs, hn⟩ := hr
  unfold AccW at hn
  rw [bit7] at hn
  have hc : 128 ≤ v.h.toNat % 256 ∨ (v.h.toNat % 16777216 = 16777087 ∧ L ≠ 0) := by
    by_cases hz : v.h.toNat % 16777216 = 16777087
    · right
      refine ⟨hz, hL0 ?_⟩
      rcases hs with hs | hs
      · exact hs
      · exact absurd hz (of_decide_eq_true hs)
    · left
      apply Classical.byContradiction
      intro hlt
      exact hn ⟨decide_eq_true hz, decide_eq_false hlt⟩
  obtain ⟨A, B, C, D, hA, hB, hC, hD, k1, k2, k3, k4, k5, k6⟩ := bytes4 v.h.isLt
  rw [k6, k5] at hc
  rw [if_pos]
  · decide
  rw [e, leN_out4, easyN_eq, k2, k3, k4, k5]
  exact (sums hL hB hA hC hD).2 hc
theorem mine_go {h : Hdr} {f : Nat → V8} (hb : h.bits = 545259519#32) (hf : ∀ k, hId { h with nonce := BitVec.ofNat 32 k } = idV (f k)) {k : Nat} (ha : AccW (f k)) : ∀ (d j m : Nat), k = j + d → d < m → (∀ i, j ≤ i → i < k → RejW (f i)) →
    mineN { h with nonce := BitVec.ofNat 32 j } 545259519#32 m = some { h with nonce := BitVec.ofNat 32 k }
  | 0, j, m, hk, hm, hr => by
    obtain ⟨m, rfl⟩ : ∃ m', m = m' + 1 := ⟨m - 1, by omega⟩
    have : k = j := by omega
    subst this
    rw [mineN, if_pos (acc_ok (hf k) hb ha)]
  | d + 1, j, m, hk, hm, hr => by
    obtain ⟨m, rfl⟩ : ∃ m', m = m' + 1 := ⟨m - 1, by omega⟩
    rw [mineN, if_neg (rej_ok (hf j) hb (hr j (by omega) (by omega)))]
    have e : (BitVec.ofNat 32 j + 1 : BitVec 32) = BitVec.ofNat 32 (j + 1) := by
      rw [BitVec.ofNat_add]
      rfl
    have := mine_go hb hf ha d (j + 1) m (by omega) (by omega) fun i hi hik => hr i (by omega) hik
    rw [← this, ← e]
theorem mine_fnd {h : Hdr} {f : Nat → V8} (hb : h.bits = 545259519#32) (h0 : h.nonce = 0) (hf : ∀ k, hId { h with nonce := BitVec.ofNat 32 k } = idV (f k)) {v : V8} (hF : Fnd f 40 v) :
    ∃ x, mineN h 545259519#32 4096 = some x ∧ hId x = idV v ∧ x.time = h.time ∧ x.bits = h.bits := by
  obtain ⟨k, hk, rfl, ha, hr⟩ := hF
  have := mine_go hb hf ha k 0 4096 (by omega) (by omega) fun i _ hi => hr i hi
  have e : ({ h with nonce := BitVec.ofNat 32 0 } : Hdr) = h := by
    cases h
    simp only at h0
    subst h0
    rfl
  rw [e] at this
  exact ⟨_, this, hf k, rfl, rfl⟩
theorem upW_take {m : UInt8} : ∀ {h : Nat} {p : V8} {l : List V8} (n : Nat), UpW m h p l → UpW m h p (l.take n)
  | _, _, _, 0, _ => by rw [List.take_zero]; trivial
  | _, _, [], n + 1, _ => trivial
  | _, _, v :: l, n + 1, hu => ⟨hu.1, upW_take n hu.2⟩
theorem lastH_app (l : List Blk1) (b : Blk1) : lastH (l ++ [b]) = b.hdr := by simp [lastH]
theorem chainGo_ok {r : Rl} (hl : r.limit = 545259519#32) (hs : r.spacing = 10) (hsub : r.subsidy = 50) {m : UInt8} : ∀ (vs : List V8) (h : Nat) (p : V8) (out : List Blk1), UpW m h p vs → hId (lastH out) = idV p → (lastH out).time = BitVec.ofNat 32 (10 * (h - 1)) → 1 ≤ h → (lastH out).bits = 545259519#32 →
    ∃ bs : List Blk1, chainGo r m vs.length h out = out ++ bs ∧ bs.map (fun b => hId b.hdr) = vs.map idV
  | [], h, p, out, _, _, _, _, _ => ⟨[], by rw [List.append_nil]; rfl, rfl⟩
  | v :: vs, h, p, out, hu, hp, ht, h1, hb => by
    obtain ⟨hF, hu⟩ := hu
    have hpre : preM r (lastH out) [firstM r.subsidy h m] = ⟨1, idV p, idV (txW (UInt8.ofNat h) (UInt8.ofNat (h / 256)) m), BitVec.ofNat 32 (10 * h), 545259519#32, 0⟩ := by
      have et : BitVec.ofNat 32 (10 * (h - 1)) + BitVec.ofInt 32 10 = BitVec.ofNat 32 (10 * h) := by
        have e10 : BitVec.ofInt 32 10 = BitVec.ofNat 32 10 := rfl
        rw [e10, ← BitVec.ofNat_add]
        congr 1
        omega
      rw [preM, hp, ht, hb, hs, hsub, et]
      have : (rootM (rowsIds [firstM 50 h m])).1 = txIdM (firstM 50 h m) := rfl
      rw [this, txId_W]
    obtain ⟨x, e1, e2, e3, e4⟩ := mine_fnd (h := preM r (lastH out) [firstM r.subsidy h m]) (f := fun k => hdrW (BitVec.ofNat 32 1) (BitVec.ofNat 32 (10 * h)) (BitVec.ofNat 32 0x207fffff) (BitVec.ofNat 32 k) p (txW (UInt8.ofNat h) (UInt8.ofNat (h / 256)) m))
      (by rw [hpre]) (by rw [hpre]) (fun k => by rw [hpre]; exact hId_W _ _ _ _ _ _) hF
    have hg : growR r (lastH out) h m [] = (x, true) := by
      rw [growR, hl, e1]
    have hgb : (growB r (lastH out) h m []).hdr = x := by rw [growB, hg]
    rw [List.length_cons, chainGo, if_pos (by rw [hg])]
    obtain ⟨bs, q1, q2⟩ := chainGo_ok hl hs hsub vs (h + 1) v (out ++ [growB r (lastH out) h m []]) hu (by rw [lastH_app, hgb]; exact e2) (by rw [lastH_app, hgb, e3, hpre]; rfl) (by omega) (by rw [lastH_app, hgb, e4, hpre])
    refine ⟨growB r (lastH out) h m [] :: bs, by rw [q1]; simp, ?_⟩
    rw [List.map_cons, q2, hgb, e2, List.map_cons]
theorem idV_a {v w : V8} (h : idV v = idV w) : v.a = w.a := by
  have e : outV v = outV w := congrArg Vector.toList h
  have h1 := words_outV v []
  rw [e, words_outV] at h1
  simp only [V8.list, List.cons_append, List.cons.injEq] at h1
  exact h1.1.symm
theorem id0_V : id0 = idV v80 := by decide +kernel
def genB : Blk1 := ⟨genM, .full, [firstM 50 0 0]⟩
theorem gen_W : hId genM = idV genW := by
  have e : genM = ⟨BitVec.ofNat 32 0, idV v80, idV (txW (UInt8.ofNat 0) (UInt8.ofNat (0 / 256)) 0), BitVec.ofNat 32 0, BitVec.ofNat 32 0x207fffff, BitVec.ofNat 32 0⟩ := by
    rw [genM, txId_W, ← id0_V]
    rfl
  rw [e, hId_W]
  rfl
theorem chain_names (work : Int) (m : UInt8) (n : Nat) (hn : n ≤ 40) : ((chainM (rulesM work) genB (n : Int) m).map fun b => hId b.hdr).length = n + 1 ∧
    (id0 :: (chainM (rulesM work) genB (n : Int) m).map fun b => hId b.hdr).Pairwise (· ≠ ·) := by
  obtain ⟨l, h1, h2, h3⟩ := names_all m
  have hl : (l.take n).length = n := by rw [List.length_take]; omega
  obtain ⟨bs, q1, q2⟩ := chainGo_ok (r := rulesM work) rfl rfl rfl (l.take n) 1 genW [genB] (upW_take n h2) gen_W rfl (by omega) rfl
  rw [hl] at q1
  have e : chainM (rulesM work) genB (n : Int) m = genB :: bs := by
    rw [chainM, Int.toNat_natCast, q1]; rfl
  have em : (chainM (rulesM work) genB (n : Int) m).map (fun b => hId b.hdr) = idV genW :: (l.take n).map idV := by
    have hg : hId genB.hdr = idV genW := gen_W
    rw [e, List.map_cons, q2, hg]
  rw [em]
  refine ⟨by rw [List.length_cons, List.length_map, hl], ?_⟩
  rw [id0_V]
  have h4 : (0 :: genW.a :: (l.take n).map (·.a)).Pairwise (· ≠ ·) := by
    refine h3.sublist ?_
    rw [List.map_take]
    exact ((List.take_sublist n _).cons_cons _).cons_cons _
  have h5 : (idV v80 :: idV genW :: (l.take n).map idV) = (v80 :: genW :: l.take n).map idV := rfl
  rw [h5, List.pairwise_map]
  have h6 : (0 :: genW.a :: (l.take n).map (·.a)) = (v80 :: genW :: l.take n).map (·.a) := rfl
  rw [h6, List.pairwise_map] at h4
  exact h4.imp fun h e => h (idV_a e)
end Go.Ab
set_option linter.unusedVariables false
namespace Go.Ab
open Go
def k246 (F : Fn) : PF := PF.mk 88 0 [(.t 0)] (.seq (.ops [(PO.mk (some 0) (.mv (.k (.bool false))) none)]) (.seq (.ops [(PO.mk (some 5) (.call (F 190) [(.k (.int .i64 2))]) none), (PO.mk (some 6) (.call (F 188) [(.t 5), (.k (.int .i64 2)), (.k (w8 7))]) none), (PO.mk (some 1) (.mv (.t 6)) none)]) (.seq (.ops [(PO.mk (some 7) (.mv (.t 1)) none), (PO.mk (some 8) (.call (F 193) [(.k (w64 9)), (.t 7)]) none), (PO.mk (some 2) (.mv (.t 8)) none)]) (.seq (.seq (.ops [(PO.mk (some 9) (.mv (.t 2)) none), (PO.mk (some 10) (.eqa .ptr false (.t 9) (.k (.ptr none))) none), (PO.mk (some 11) (.mv (.t 10)) none), (PO.mk (some 12) (.mv (.t 1)) (some (11, false))), (PO.mk (some 13) (.lenSl (.t 12)) (some (11, false))), (PO.mk (some 14) (.bin .neq (.t 13) (.k (.int .i64 3))) (some (11, false))), (PO.mk (some 15) (.pick (.t 11) (.k (.bool true)) (.t 14)) none), (PO.mk (some 16) (.mv (.t 15)) none), (PO.mk (some 17) (.mv (.t 2)) (some (16, false))), (PO.mk (some 18) (.call (F 196) [(.t 17)]) (some (16, false))), (PO.mk (some 19) (.bin .neq (.t 18) (.k (.int .i64 3))) (some (16, false))), (PO.mk (some 20) (.pick (.t 16) (.k (.bool true)) (.t 19)) none)]) (.cond (.t 20) (.seq (.ops [(PO.mk (some 0) (.mv (.k (.bool false))) none)]) .ret) .skip)) (.seq (.ops [(PO.mk (some 21) (.mv (.t 2)) none), (PO.mk (some 22) (.build z106_9145 [(0, (1, (.k (.int .i64 1))))]) none), (PO.mk (some 23) (.call (F 194) [(.t 21), (.t 22)]) none), (PO.mk (some 3) (.mv (.t 23)) none)]) (.seq (.ops [(PO.mk (some 24) (.mv (.t 2)) none), (PO.mk (some 25) (.mv (.t 1)) none), (PO.mk (some 26) (.idxSl 69 (.t 25) (.k (.int .i64 0))) none), (PO.mk (some 27) (.fldA 0 (.t 26)) none), (PO.mk (some 28) (.load true 68 (.t 27)) none), (PO.mk (some 29) (.call (F 141) [(.t 28)]) none), (PO.mk (some 30) (.bsl false 32 1 zR32_w80 [(0, (32, (.t 29)))]) none), (PO.mk (some 31) (.build z106_9145 [(0, (1, (.k (.int .i64 3)))), (3, (1, (.t 30)))]) none), (PO.mk (some 32) (.call (F 194) [(.t 24), (.t 31)]) none), (PO.mk (some 4) (.mv (.t 32)) none)]) (.seq (.draw [(.e, (PO.mk (some 33) (.mv (.t 3)) none)), (.e, (PO.mk (some 34) (.lenSl (.t 33)) none)), (.e, (PO.mk (some 35) (.bin .eql (.t 34) (.k (.int .i64 2))) none)), (.e, (PO.mk (some 36) (.mv (.t 35)) none)), (.e, (PO.mk (some 37) (.mv (.t 3)) (some (36, true)))), (.e, (PO.mk (some 38) (.idxSl 106 (.t 37) (.k (.int .i64 0))) (some (36, true)))), (.e, (PO.mk (some 39) (.fldA 1 (.t 38)) (some (36, true)))), (.s, (PO.mk (some 40) (.load false 1 (.t 39)) (some (36, true)))), (.e, (PO.mk (some 41) (.bin .eql (.t 40) (.k (w64 9))) (some (36, true)))), (.e, (PO.mk (some 42) (.pick (.t 36) (.t 41) (.k (.bool false))) none)), (.e, (PO.mk (some 43) (.mv (.t 42)) none)), (.e, (PO.mk (some 44) (.mv (.t 3)) (some (43, true)))), (.e, (PO.mk (some 45) (.idxSl 106 (.t 44) (.k (.int .i64 0))) (some (43, true)))), (.e, (PO.mk (some 46) (.fldA 2 (.t 45)) (some (43, true)))), (.s, (PO.mk (some 47) (.load false 1 (.t 46)) (some (43, true)))), (.e, (PO.mk (some 48) (.bin .eql (.t 47) (.k (w32 2))) (some (43, true)))), (.e, (PO.mk (some 49) (.pick (.t 43) (.t 48) (.k (.bool false))) none)), (.e, (PO.mk (some 50) (.mv (.t 49)) none)), (.e, (PO.mk (some 51) (.mv (.t 3)) (some (50, true)))), (.e, (PO.mk (some 52) (.idxSl 106 (.t 51) (.k (.int .i64 1))) (some (50, true)))), (.e, (PO.mk (some 53) (.fldA 0 (.t 52)) (some (50, true)))), (.s, (PO.mk (some 54) (.load false 1 (.t 53)) (some (50, true)))), (.e, (PO.mk (some 55) (.bin .eql (.t 54) (.k (.int .i64 2))) (some (50, true)))), (.e, (PO.mk (some 56) (.pick (.t 50) (.t 55) (.k (.bool false))) none)), (.e, (PO.mk (some 57) (.mv (.t 56)) none)), (.e, (PO.mk (some 58) (.mv (.t 4)) (some (57, true)))), (.e, (PO.mk (some 59) (.lenSl (.t 58)) (some (57, true)))), (.e, (PO.mk (some 60) (.bin .eql (.t 59) (.k (.int .i64 1))) (some (57, true)))), (.e, (PO.mk (some 61) (.pick (.t 57) (.t 60) (.k (.bool false))) none)), (.e, (PO.mk (some 62) (.mv (.t 61)) none)), (.e, (PO.mk (some 63) (.mv (.t 4)) (some (62, true)))), (.e, (PO.mk (some 64) (.idxSl 106 (.t 63) (.k (.int .i64 0))) (some (62, true)))), (.e, (PO.mk (some 65) (.fldA 36 (.t 64)) (some (62, true)))), (.s, (PO.mk (some 66) (.load false 1 (.t 65)) (some (62, true)))), (.e, (PO.mk (some 67) (.lenSl (.t 66)) (some (62, true)))), (.e, (PO.mk (some 68) (.bin .eql (.t 67) (.k (.int .i64 2))) (some (62, true)))), (.e, (PO.mk (some 69) (.pick (.t 62) (.t 68) (.k (.bool false))) none)), (.e, (PO.mk (some 70) (.mv (.t 69)) none)), (.e, (PO.mk (some 71) (.mv (.t 4)) (some (70, true)))), (.e, (PO.mk (some 72) (.idxSl 106 (.t 71) (.k (.int .i64 0))) (some (70, true)))), (.e, (PO.mk (some 73) (.fldA 36 (.t 72)) (some (70, true)))), (.e, (PO.mk (some 77) (.mv (.t 1)) (some (70, true)))), (.e, (PO.mk (some 78) (.idxSl 69 (.t 77) (.k (.int .i64 2))) (some (70, true)))), (.e, (PO.mk (some 79) (.fldA 0 (.t 78)) (some (70, true)))), (.s, (PO.mk (some 74) (.load false 1 (.t 73)) (some (70, true)))), (.e, (PO.mk (some 75) (.idxSl 68 (.t 74) (.k (.int .i64 1))) (some (70, true)))), (.s, (PO.mk (some 76) (.load true 68 (.t 75)) (some (70, true)))), (.s, (PO.mk (some 80) (.load true 68 (.t 79)) (some (70, true)))), (.e, (PO.mk (some 81) (.eqa (.agg 68) false (.t 76) (.t 80)) (some (70, true)))), (.e, (PO.mk (some 82) (.pick (.t 70) (.t 81) (.k (.bool false))) none)), (.e, (PO.mk (some 83) (.mv (.t 82)) none)), (.x, (PO.mk (some 84) (.call (F 190) [(.k (.int .i64 2))]) (some (83, true)))), (.e, (PO.mk (some 85) (.fld false 4 1 (.t 84)) (some (83, true)))), (.e, (PO.mk (some 86) (.bin .eql (.t 85) (.k (.int .i64 2))) (some (83, true)))), (.e, (PO.mk (some 87) (.pick (.t 83) (.t 86) (.k (.bool false))) none)), (.e, (PO.mk (some 0) (.mv (.t 87)) none))]) .ret)))))))
structure OkServes (P : Program) (F : Fn) : Prop where
  mixed : P.follows .mixedOrders = true
  toOkHonest : OkHonest P F
  h246 : compFn P ⟨[], [], [], [], []⟩ (F 246) = some (k246 F)
end Go.Ab
set_option linter.unusedVariables false
namespace Go.Ab
open Go
end Go.Ab
set_option linter.unusedSimpArgs false
set_option linter.unusedVariables false
namespace Go.Ab
open Go Go.RowKit
section
variable {s : List W32} (hs : ∀ (i j : Nat) (hi : i < s.length) (hj : j < s.length), i ≤ j → s[i] ≤ s[j])
include hs
end
end Go.Ab
set_option linter.unusedSimpArgs false
set_option linter.unusedVariables false
set_option maxRecDepth 10000
namespace Go.Ab
open Go Go.RowKit
section
variable {P : Program} {F : Fn}
end
end Go.Ab
set_option linter.unusedSimpArgs false
set_option linter.unusedVariables false
set_option maxRecDepth 10000
namespace Go.Ab
open Go Go.RowKit
section
variable {P : Program} {F : Fn}
end
end Go.Ab
set_option linter.unusedSimpArgs false
set_option linter.unusedVariables false
set_option maxRecDepth 10000
namespace Go.Ab
open Go Go.RowKit
def rw0 : Rw := (⟨hdr0, id0, 0, 0, 0, 0, false⟩, .nil, [])
section
variable {P : Program} {F : Fn}
end
end Go.Ab
set_option linter.unusedSimpArgs false
set_option linter.unusedVariables false
set_option maxRecDepth 10000
namespace Go.Ab
open Go Go.RowKit
section
variable {P : Program} {F : Fn}
end
end Go.Ab
set_option linter.unusedSimpArgs false
set_option linter.unusedVariables false
set_option maxRecDepth 10000
namespace Go.Ab
open Go Go.RowKit
section
variable {l : List Rw} {n k : Nat}
end
section
variable {P : Program} {F : Fn}
end
end Go.Ab
set_option linter.unusedVariables false
namespace Go.Ab
open Go
end Go.Ab
set_option linter.unusedSimpArgs false
set_option linter.unusedVariables false
set_option maxRecDepth 10000
namespace Go.Ab
open Go Go.RowKit
section
variable {P : Program} {F : Fn}
end
end Go.Ab
set_option linter.unusedVariables false
namespace Go.Ab
open Go
end Go.Ab
set_option linter.unusedSimpArgs false
set_option linter.unusedVariables false
set_option maxRecDepth 10000
namespace Go.Ab
open Go Go.RowKit
section
end
section
variable {P : Program} {F : Fn}
end
end Go.Ab
set_option linter.unusedSimpArgs false
set_option linter.unusedVariables false
set_option maxRecDepth 10000
namespace Go.Ab
open Go Go.RowKit
theorem eqL_refl : ∀ cs : List V, (∀ v ∈ cs, ∃ k n, v = .int k n) → eqL cs cs = some true
  | [], _ => rfl
  | v :: cs, h => by
    obtain ⟨k, n, rfl⟩ := h v (by simp)
    have ih := eqL_refl cs fun u hu => h u (by simp [hu])
    simp [eqL, ih]
theorem eId_ints (x : Id) : ∀ v ∈ eId x, ∃ k n, v = .int k n := by
  intro v hv
  rw [eId_rows, rows_e8] at hv
  obtain ⟨b, -, rfl⟩ := List.mem_map.1 hv
  exact ⟨_, _, rfl⟩
theorem eHdr_ints (x : Hdr) : ∀ v ∈ eHdr x, ∃ k n, v = .int k n := by
  intro v hv
  unfold eHdr at hv
  rcases List.mem_cons.1 hv with rfl | hv
  · exact ⟨_, _, rfl⟩
  · rcases List.mem_append.1 hv with hv | hv
    · exact eId_ints _ v hv
    · rcases List.mem_append.1 hv with hv | hv
      · exact eId_ints _ v hv
      · simp at hv
        rcases hv with rfl | rfl | rfl <;> exact ⟨_, _, rfl⟩
theorem eqL_hdr (x : Hdr) : eqL (eHdr x) (eHdr x) = some true := eqL_refl _ (eHdr_ints x)
section
variable {P : Program} {F : Fn}
end
end Go.Ab
set_option linter.unusedSimpArgs false
set_option linter.unusedVariables false
set_option maxRecDepth 10000
namespace Go.Ab
open Go Go.RowKit
def idsB (l : List Blk1) : List Id := l.map fun b => hId b.hdr
def Apart (l : List Blk1) : Prop := (id0 :: idsB l).Pairwise (· ≠ ·)
theorem Apart.ne {l : List Blk1} (h : Apart l) {i j : Nat} (hi : i < l.length) (hj : j < l.length) (hij : i ≠ j) : hId l[i].hdr ≠ hId l[j].hdr := by
  have h1 := (List.pairwise_cons.1 h).2
  rw [idsB, List.pairwise_map, List.pairwise_iff_getElem] at h1
  rcases Nat.lt_or_gt_of_ne hij with hlt | hlt
  · exact h1 i j hi hj hlt
  · exact fun e => h1 j i hj hi hlt e.symm
theorem Apart.nz {l : List Blk1} (h : Apart l) {i : Nat} (hi : i < l.length) : hId l[i].hdr ≠ id0 := fun e => by
  have h1 := (List.pairwise_cons.1 h).1 (hId l[i].hdr) (List.mem_map.2 ⟨l[i], List.getElem_mem hi, rfl⟩)
  exact h1 e.symm
theorem Apart.at {l : List Blk1} (h : Apart l) {i : Nat} (hi : i < l.length) : atM l (hId l[i].hdr) = some i := by
  have key : ∀ (k : Nat), k ≤ l.length → i < k → atM (l.take k) (hId l[i].hdr) = some i := by
    intro k
    induction k with
    | zero => intro _ h; omega
    | succ k ih =>
      intro hk hik
      rw [List.take_succ_eq_append_getElem (by omega), atM_app]
      by_cases e : i = k
      · subst e
        rw [if_pos rfl, List.length_take]
        congr 1
        omega
      · rw [if_neg (h.ne hi (by omega) e)]
        exact ih (by omega) (by omega)
  have := key l.length (Nat.le_refl _) hi
  rwa [List.take_length] at this
theorem hdGo_apart {l : List Blk1} (h : Apart l) : ∀ (n i : Nat) (out : List Hdr), l.length ≤ n + i → out.length ≤ 32 → hdGo l id0 n i out = out ++ ((l.drop i).take (32 - out.length)).map (·.hdr)
  | 0, i, out, hn, ho => by
    rw [hdGo, List.drop_of_length_le (by omega)]
    simp
  | n + 1, i, out, hn, ho => by
    rw [hdGo]
    split
    · rename_i hi
      split
      · rename_i ho'
        rw [if_neg (h.nz hi), hdGo_apart h n (i + 1) _ (by omega) (by simp; omega), List.drop_eq_getElem_cons hi]
        obtain ⟨k, hk⟩ : ∃ k, 32 - out.length = k + 1 := ⟨31 - out.length, by omega⟩
        have hk2 : 32 - (out ++ [l[i].hdr]).length = k := by simp; omega
        rw [hk, hk2, List.take_succ_cons, List.map_cons]
        simp
      · rename_i ho'
        rw [show 32 - out.length = 0 by omega]
        simp
    · rename_i hi
      rw [List.drop_of_length_le (by omega)]
      simp
theorem hdM_apart {l : List Blk1} (h : Apart l) {c : Nat} (hc : c < l.length) : hdM l [hId l[c].hdr] id0 = ((l.drop (c + 1)).take 32).map (·.hdr) := by
  have e : fromM l [hId l[c].hdr] = c + 1 := by
    rw [fromM, List.findSome?_cons, h.at hc]
  rw [hdM, e, hdGo_apart h _ _ _ (by omega) (by simp)]
  simp
theorem chain_apart (work : Int) (m : UInt8) (n : Nat) (hn : n ≤ 40) : (chainM (rulesM work) genB (n : Int) m).length = n + 1 ∧ Apart (chainM (rulesM work) genB (n : Int) m) := by
  obtain ⟨h1, h2⟩ := chain_names work m n hn
  exact ⟨by simpa using h1, h2⟩
theorem ids_one (k : SK) (x : Id) : V.sl k (eId x) 1 = idsV k [x] := by simp [idsV]
def msAsk (x : Id) : Ms := { ms0 with kind := 3, names := idsV .full [x] }
theorem ms_ask (x : Id) : fillV z106_9145 [(0, 1, .int .i64 3), (3, 1, .sl .full (eId x) 1)] = some (eMs (msAsk x)) := by
  rw [ids_one]; rfl
theorem ms_hello : fillV z106_9145 [(0, 1, .int .i64 1)] = some (eMs { ms0 with kind := 1 }) := rfl
theorem fillId1 (x : Id) : fillV (repV zR32_w80 1) [(0, 32, .agg (eId x))] = some (eId x) := by
  rw [show repV zR32_w80 1 = zR32_w80 by simp [repV]]
  have : spliceV zR32_w80 0 (eId x) = eId x := by simp [spliceV, eId_len]
  simp [fillV, eId_len, this]
theorem msegHeight (m : Ms) : segOf (eMs m) 2 1 = some [w32 m.height] := seg_of_drop (cs := eMs m) (off := 2) rfl rfl (by omega)
theorem rfldWork (r : Rl) : fldV false 4 1 (.agg (eRl r)) = some (.int .i64 r.work) := rfl
section
variable {P : Program} {F : Fn}
theorem SrvR.swap {mid : Nat} {nonce : BitVec 64} {l : List Blk1} {hello : Bool} {A B : Asn} {L : List Asn} {st : St} (h : SrvR mid nonce l hello (A :: B :: L) st) : SrvR mid nonce l hello (B :: A :: L) st := by
  obtain ⟨k, aid, es, h1, h2⟩ := h
  exact ⟨k, aid, es, h1, h2.tail fun r h => h.tail fun r h => h.swap⟩
theorem eBlk_hdr (b : Blk1) : ((eBlk b).drop 0).take 68 = eHdr b.hdr := by rw [List.drop_zero, eBlk, List.take_left' (eHdr_len _)]
theorem blk_hdr {k : SK} {l : List Blk1} {st : St} {i : Nat} (hi : i < l.length) :
    idxSlV 69 (.sl k (rowsOf eBlk l) l.length) (.int .i64 (i : Int)) = some (rowP 69 (.sl k (rowsOf eBlk l) l.length) i) ∧ fldAV 0 (rowP 69 (.sl k (rowsOf eBlk l) l.length) i) = some (rowP 69 (.sl k (rowsOf eBlk l) l.length) i) ∧
      ldCells st 68 (rowP 69 (.sl k (rowsOf eBlk l) l.length) i) = some (eHdr l[i].hdr) := by
  have rd : Rd 69 eBlk (.sl k (rowsOf eBlk l) l.length) l st := .inl ⟨k, rfl⟩
  obtain ⟨r1, r2, r3, r4⟩ := rd.row eBlk_len hi
  have r5 := (r4 0 68 (by omega)).2
  rw [fldP_zero r2, eBlk_hdr] at r5
  exact ⟨r1, r2, r5⟩
theorem eqK_hdr (x : Hdr) : eqK (.agg 68) (.agg (eHdr x)) (.agg (eHdr x)) = some true := by simp [eqK, eHdr_len, eqL_hdr]
theorem ms_part {v : V} {ms : List Ms} {st : St} (rd : Rd 106 eMs v ms st) {i : Nat} (hi : i < ms.length) {o n : Nat} {cs : List V} (hs : segOf (eMs ms[i]) o n = some cs) :
    idxSlV 106 v (.int .i64 (i : Int)) = some (rowP 106 v i) ∧ fldAV o (rowP 106 v i) = some (fldP o (rowP 106 v i)) ∧ ldCells st n (fldP o (rowP 106 v i)) = some cs := by
  obtain ⟨r1, r2, r3, r4⟩ := rd.row eMs_len hi
  have hl : o + n ≤ 106 := by
    unfold segOf at hs
    split at hs
    · rename_i h
      rw [eMs_len] at h
      exact h
    · cases hs
  obtain ⟨r5, r6⟩ := r4 o n hl
  refine ⟨r1, r5, ?_⟩
  rw [r6]
  unfold segOf at hs
  rw [if_pos (by rw [eMs_len]; exact hl)] at hs
  exact hs
set_option maxHeartbeats 4000000 in
theorem spec246 (ok : OkServes P F) (st : St) : ACalls P (F 246) [] st fun v st' => v = .bool true ∧ St.sub st st' := by
  have okh := ok.toOkHonest
  refine shows_call ok.mixed ok.h246 (by simp [k246]) ?_
  simp only [k246]
  simp
  refine (spec190 okh st 2).mono ?_
  rintro v st1 ⟨rfl, rfl⟩
  simp
  refine (spec188 okh st1 (rulesM 2) genB rfl rfl 2 (by omega) 7).mono ?_
  rintro v st1 ⟨⟨k, rfl⟩, rfl⟩
  obtain ⟨hl, ha⟩ := chain_apart 2 7 2 (by omega)
  rw [show ((2 : Nat) : Int) = 2 from rfl] at hl ha
  generalize chainM (rulesM 2) genB 2 7 = l at hl ha ⊢
  simp
  refine (spec193 okh st1 9 k l (by omega)).mono ?_
  rintro v st2 ⟨mid, rfl, S⟩
  have S0 := S
  obtain ⟨k1, aid, es, hat, S1⟩ := S0
  have om := S1.get
  have hl : l.length = 3 := hl
  have hl3 : (l.length : Int) = 3 := by omega
  have hlen : lenSlV (V.sl k (rowsOf eBlk l) l.length) = some (.int .i64 3) := by rw [← hl3]; rfl
  simp [eqK, hlen]
  refine (spec196 okh om).mono ?_
  rintro v st2 ⟨rfl, rfl⟩
  simp [hl3, ms_hello]
  refine (spec194a okh S ⟨by omega, by omega⟩ { ms0 with kind := 1 } rfl).mono ?_
  rintro v3 st3 ⟨hv3, S⟩
  obtain ⟨p1, p2, p3⟩ := blk_hdr (k := k) (st := st3) (show 0 < l.length by omega)
  rw [show (((0 : Nat) : Int)) = 0 from rfl] at p1
  simp [p1, p2, p3]
  refine (spec141 okh.toOkTx.toOkHead st3 _).mono ?_
  rintro v st3 ⟨rfl, rfl⟩
  simp [fillId1, ms_ask]
  refine (spec194b okh S (by omega) (msAsk (hId l[0].hdr)) rfl .full [hId l[0].hdr] rfl (by simp)).mono ?_
  rintro v4 st4 ⟨s, hv4, S⟩
  rw [show (msAsk (hId l[0].hdr)).stop = id0 from rfl, hdM_apart ha (by omega)] at S
  have el : ((l.drop (0 + 1)).take 32).map (·.hdr) = [l[1].hdr, l[2].hdr] := by
    rw [List.drop_eq_getElem_cons (by omega), List.drop_eq_getElem_cons (by omega), List.drop_of_length_le (by omega)]
    rfl
  rw [el] at S
  have hsub : St.sub st1 st4 := by
    obtain ⟨k1, aid, es, hat, S1⟩ := S
    exact S1.was' (st0 := st1) (by simp)
  obtain ⟨a, ha'⟩ : ∃ a, a = msVer 9 (BitVec.ofNat 32 (l.length - 1)) := ⟨_, rfl⟩
  rw [← ha'] at hv3
  have rda : Rd 106 eMs v3 [a, msAck] st4 := .inl ⟨.full, hv3⟩
  have rdb : Rd 106 eMs v4 [msHeads s] st4 := .inl ⟨.full, by rw [hv4]; simp⟩
  have lna : lenSlV v3 = some (.int .i64 2) := rda.len
  have lnb : lenSlV v4 = some (.int .i64 1) := rdb.len
  have rds : Rd 68 eHdr s [l[1].hdr, l[2].hdr] st4 := by
    obtain ⟨k1, aid, es, hat, S1⟩ := S
    exact Sep.rd eHdr_len ((S1.pull 2).head fun h hh => hh.sl)
  obtain ⟨a1, a2, a3⟩ := ms_part rda (i := 0) (by simp) (msegNonce a)
  obtain ⟨b1, b2, b3⟩ := ms_part rda (i := 0) (by simp) (msegHeight a)
  obtain ⟨c1, c2, c3⟩ := ms_part rda (i := 1) (by simp) (msegKind msAck)
  obtain ⟨d1, d2, d3⟩ := ms_part rdb (i := 0) (by simp) (msegHeads (msHeads s))
  obtain ⟨e1, e2, e3, e4⟩ := rds.row eHdr_len (i := 1) (by simp)
  obtain ⟨q1, q2, q3⟩ := blk_hdr (k := k) (st := st4) (show 2 < l.length by omega)
  rw [show (((0 : Nat) : Int)) = 0 from rfl] at a1 d1
  rw [show (((1 : Nat) : Int)) = 1 from rfl] at c1 e1
  rw [show (((2 : Nat) : Int)) = 2 from rfl] at q1
  have n9 : a.nonce = 9#64 := by rw [ha']; rfl
  have n2 : a.height = 2#32 := by rw [ha', hl]; rfl
  rw [n9] at a3
  rw [n2] at b3
  have hls := rds.len
  have e3 : ldCells st4 68 (rowP 68 s 1) = some (eHdr l[2].hdr) := e3
  have hk := eqK_hdr l[2].hdr
  have hw2 : binV .eql (w32 2#32) (w32 2#32) = some (.bool true) := rfl
  have hw9 : binV .eql (w64 9#64) (w64 9#64) = some (.bool true) := rfl
  have hc3 : ldCells st4 1 (fldP 0 (rowP 106 v3 1)) = some [.int .i64 2] := c3
  have hd3 : ldCells st4 1 (fldP 36 (rowP 106 v4 0)) = some [s] := d3
  simp [lna, lnb, a1, a2, a3, b2, b3, c1, c2, hc3, d1, d2, hd3, e1, e3, q1, q2, q3, hls, hk, hw2, hw9]
  refine (spec190 okh st4 2).mono ?_
  rintro v st5 ⟨rfl, rfl⟩
  simp [rfldWork]
  exact ⟨_, sub_self _, rfl, hsub⟩
end
end Go.Ab
set_option linter.unusedVariables false
namespace Go.Ab
open Go
def k250 (F : Fn) : PF := PF.mk 29 1 [(.t 2), (.t 3)] (.seq (.ops [(PO.mk (some 2) (.mv (.k (.int .i64 0))) none), (PO.mk (some 3) (.mv (.k (.bool false))) none)]) (.seq (.ops [(PO.mk (some 4) (.mv (.k (.int .i64 0))) none)]) (.seq (.seq (.ops [(PO.mk (some 7) (.mv (.t 0)) none), (PO.mk (some 8) (.lenSl (.t 7)) none), (PO.mk (some 9) (.mv (.k (.int .i64 0))) none)]) (.block 0 (.loop (.seq (.ops [(PO.mk (some 10) (.bin .lss (.t 9) (.t 8)) none)]) (.seq (.cond (.t 10) .skip (.exit 0)) (.seq (.block 1 (.seq (.ops [(PO.mk (some 11) (.idxSl 33 (.t 7) (.t 9)) none), (PO.mk (some 12) (.load true 33 (.t 11)) none), (PO.mk (some 6) (.alloc z33_0be4) none), (PO.mk none (.store 33 (.t 6) (.t 12)) none)]) (.seq (.seq (.ops [(PO.mk (some 13) (.fldA 0 (.t 6)) none), (PO.mk (some 14) (.load false 1 (.t 13)) none), (PO.mk (some 15) (.bin .lss (.t 14) (.k (.int .i64 0))) none), (PO.mk (some 16) (.mv (.t 15)) none), (PO.mk (some 17) (.fldA 0 (.t 6)) (some (16, false))), (PO.mk (some 18) (.load false 1 (.t 17)) (some (16, false))), (PO.mk (some 19) (.bin .gtr (.t 18) (.k (.int .i64 1125899906842624))) (some (16, false))), (PO.mk (some 20) (.pick (.t 16) (.k (.bool true)) (.t 19)) none)]) (.cond (.t 20) (.seq (.ops [(PO.mk (some 2) (.mv (.k (.int .i64 0))) none), (PO.mk (some 3) (.mv (.k (.bool false))) none)]) .ret) .skip)) (.seq (.ops [(PO.mk (some 21) (.mv (.t 4)) none), (PO.mk (some 22) (.fldA 0 (.t 6)) none), (PO.mk (some 23) (.load false 1 (.t 22)) none), (PO.mk (some 24) (.bin .add (.t 21) (.t 23)) none), (PO.mk (some 4) (.mv (.t 24)) none)]) (.seq (.ops [(PO.mk (some 25) (.mv (.t 4)) none), (PO.mk (some 26) (.bin .gtr (.t 25) (.k (.int .i64 1125899906842624))) none)]) (.cond (.t 26) (.seq (.ops [(PO.mk (some 2) (.mv (.k (.int .i64 0))) none), (PO.mk (some 3) (.mv (.k (.bool false))) none)]) .ret) .skip)))))) (.ops [(PO.mk (some 27) (.bin .add (.t 9) (.k (.int .i64 1))) none), (PO.mk (some 9) (.mv (.t 27)) none)]))))))) (.seq (.ops [(PO.mk (some 28) (.mv (.t 4)) none), (PO.mk (some 2) (.mv (.t 28)) none), (PO.mk (some 3) (.mv (.k (.bool true))) none)]) .ret))))
def k249 (F : Fn) : PF := PF.mk 69 2 [(.t 4)] (.seq (.ops [(PO.mk (some 2) (.box (.t 0)) none), (PO.mk (some 4) (.mv (.k (.int .i64 0))) none)]) (.seq (.seq (.ops [(PO.mk (some 10) (.fldA 0 (.t 2)) none), (PO.mk (some 11) (.load false 1 (.t 10)) none), (PO.mk (some 12) (.lenSl (.t 11)) none), (PO.mk (some 13) (.bin .eql (.t 12) (.k (.int .i64 0))) none), (PO.mk (some 14) (.mv (.t 13)) none), (PO.mk (some 15) (.fldA 1 (.t 2)) (some (14, false))), (PO.mk (some 16) (.load false 1 (.t 15)) (some (14, false))), (PO.mk (some 17) (.lenSl (.t 16)) (some (14, false))), (PO.mk (some 18) (.bin .eql (.t 17) (.k (.int .i64 0))) (some (14, false))), (PO.mk (some 19) (.pick (.t 14) (.k (.bool true)) (.t 18)) none), (PO.mk (some 20) (.mv (.t 19)) none), (PO.mk (some 21) (.fldA 0 (.t 2)) (some (20, false))), (PO.mk (some 22) (.load false 1 (.t 21)) (some (20, false))), (PO.mk (some 23) (.lenSl (.t 22)) (some (20, false))), (PO.mk (some 24) (.bin .gtr (.t 23) (.k (.int .i64 32))) (some (20, false))), (PO.mk (some 25) (.pick (.t 20) (.k (.bool true)) (.t 24)) none), (PO.mk (some 26) (.mv (.t 25)) none), (PO.mk (some 27) (.fldA 1 (.t 2)) (some (26, false))), (PO.mk (some 28) (.load false 1 (.t 27)) (some (26, false))), (PO.mk (some 29) (.lenSl (.t 28)) (some (26, false))), (PO.mk (some 30) (.bin .gtr (.t 29) (.k (.int .i64 32))) (some (26, false))), (PO.mk (some 31) (.pick (.t 26) (.k (.bool true)) (.t 30)) none)]) (.cond (.t 31) (.seq (.ops [(PO.mk (some 4) (.mv (.k (.int .i64 120))) none)]) .ret) .skip)) (.seq (.ops [(PO.mk (some 32) POp.mkmap none), (PO.mk (some 5) (.mv (.t 32)) none)]) (.seq (.seq (.ops [(PO.mk (some 33) (.fldA 0 (.t 2)) none), (PO.mk (some 34) (.load false 1 (.t 33)) none), (PO.mk (some 35) (.lenSl (.t 34)) none), (PO.mk (some 36) (.mv (.k (.int .i64 0))) none)]) (.block 0 (.loop (.seq (.ops [(PO.mk (some 37) (.bin .lss (.t 36) (.t 35)) none)]) (.seq (.cond (.t 37) .skip (.exit 0)) (.seq (.block 1 (.seq (.ops [(PO.mk (some 38) (.idxSl 34 (.t 34) (.t 36)) none), (PO.mk (some 39) (.load true 34 (.t 38)) none), (PO.mk (some 7) (.alloc z34_1838) none), (PO.mk none (.store 34 (.t 7) (.t 39)) none)]) (.seq (.block 2 (.seq (.ops [(PO.mk (some 41) (.fldA 33 (.t 7)) none), (PO.mk (some 42) (.load false 1 (.t 41)) none), (PO.mk (some 43) (.lenSl (.t 42)) none), (PO.mk (some 44) (.bin .gtr (.t 43) (.k (.int .i64 100))) none), (PO.mk (some 40) (.mv (.t 44)) none)]) (.cond (.t 40) (.seq (.ops [(PO.mk (some 4) (.mv (.k (.int .i64 2))) none)]) .ret) (.seq (.draw [(.e, (PO.mk (some 46) (.fldA 0 (.t 7)) none)), (.e, (PO.mk (some 50) (.mv (.t 1)) none)), (.s, (PO.mk (some 47) (.load true 33 (.t 46)) none)), (.s, (PO.mk (some 48) (.call (F 197) []) none)), (.e, (PO.mk (some 49) (.eqa (.agg 33) false (.t 47) (.t 48)) none)), (.e, (PO.mk (some 51) (.eqa .bool true (.t 49) (.t 50)) none)), (.e, (PO.mk (some 45) (.mv (.t 51)) none))]) (.cond (.t 45) (.seq (.ops [(PO.mk (some 4) (.mv (.k (.int .i64 120))) none)]) .ret) (.seq (.ops [(PO.mk (some 53) (.mv (.t 5)) none), (PO.mk (some 54) (.fldA 0 (.t 7)) none), (PO.mk (some 55) (.load true 33 (.t 54)) none), (PO.mk (some 56) (.lookup (.agg 33) (.bool false) false (.t 53) (.t 55)) none), (PO.mk (some 52) (.mv (.t 56)) none)]) (.cond (.t 52) (.seq (.ops [(PO.mk (some 4) (.mv (.k (.int .i64 5))) none)]) .ret) .skip))))))) (.ops [(PO.mk (some 57) (.mv (.t 5)) none), (PO.mk (some 58) (.fldA 0 (.t 7)) none), (PO.mk (some 59) (.load true 33 (.t 58)) none), (PO.mk none (.mset (.agg 33) (.t 57) (.t 59) (.k (.bool true))) none)])))) (.ops [(PO.mk (some 60) (.bin .add (.t 36) (.k (.int .i64 1))) none), (PO.mk (some 36) (.mv (.t 60)) none)]))))))) (.seq (.seq (.ops [(PO.mk (some 62) (.fldA 1 (.t 2)) none), (PO.mk (some 63) (.load false 1 (.t 62)) none), (PO.mk (some 64) (.call (F 250) [(.t 63)]) none), (PO.mk (some 61) (.mv (.t 64)) none), (PO.mk (some 65) (.ext 0 (.t 61)) none), (PO.mk (some 66) (.ext 1 (.t 61)) none), (PO.mk (some 8) (.mv (.t 65)) none), (PO.mk (some 9) (.mv (.t 66)) none)]) (.seq (.ops [(PO.mk (some 67) (.mv (.t 9)) none), (PO.mk (some 68) (.not (.t 67)) none)]) (.cond (.t 68) (.seq (.ops [(PO.mk (some 4) (.mv (.k (.int .i64 121))) none)]) .ret) .skip))) (.seq (.ops [(PO.mk (some 4) (.mv (.k (.int .i64 0))) none)]) .ret))))))
structure OkCheck (P : Program) (F : Fn) : Prop where
  mixed : P.follows .mixedOrders = true
  toOkTx : OkTx P F
  h250 : compFn P ⟨[], [], [], [], []⟩ (F 250) = some (k250 F)
  h249 : compFn P ⟨[], [], [], [], []⟩ (F 249) = some (k249 F)
end Go.Ab
set_option linter.unusedVariables false
namespace Go.Ab
open Go
def k248 (F : Fn) : PF := PF.mk 150 3 [(.t 6)] (.seq (.ops [(PO.mk (some 3) (.box (.t 0)) none), (PO.mk (some 6) (.mv (.k (.bool false))) none)]) (.seq (.seq (.ops [(PO.mk (some 17) (.call (F 246) []) none), (PO.mk (some 18) (.not (.t 17)) none)]) (.cond (.t 18) (.seq (.ops [(PO.mk (some 6) (.mv (.k (.bool false))) none)]) .ret) .skip)) (.seq (.seq (.ops [(PO.mk (some 19) (.mv (.t 2)) none), (PO.mk (some 20) (.lenSl (.t 19)) none), (PO.mk (some 21) (.bin .gtr (.t 20) (.k (.int .i64 4))) none), (PO.mk (some 22) (.mv (.t 21)) none), (PO.mk (some 23) (.mv (.t 1)) (some (22, false))), (PO.mk (some 24) (.bin .lss (.t 23) (.k (.int .i64 0))) (some (22, false))), (PO.mk (some 25) (.pick (.t 22) (.k (.bool true)) (.t 24)) none), (PO.mk (some 26) (.mv (.t 25)) none), (PO.mk (some 27) (.mv (.t 1)) (some (26, false))), (PO.mk (some 28) (.bin .gtr (.t 27) (.k (.int .i64 1000))) (some (26, false))), (PO.mk (some 29) (.pick (.t 26) (.k (.bool true)) (.t 28)) none)]) (.cond (.t 29) (.seq (.ops [(PO.mk (some 6) (.mv (.k (.bool true))) none)]) .ret) .skip)) (.seq (.seq (.ops [(PO.mk (some 30) (.mv (.t 2)) none), (PO.mk (some 31) (.lenSl (.t 30)) none), (PO.mk (some 32) (.mv (.k (.int .i64 0))) none)]) (.block 0 (.loop (.seq (.ops [(PO.mk (some 33) (.bin .lss (.t 32) (.t 31)) none)]) (.seq (.cond (.t 33) .skip (.exit 0)) (.seq (.block 1 (.seq (.ops [(PO.mk (some 34) (.idxSl 2 (.t 30) (.t 32)) none), (PO.mk (some 35) (.load true 2 (.t 34)) none), (PO.mk (some 8) (.alloc [(.sl .nil [] 0), (.sl .nil [] 0)]) none), (PO.mk none (.store 2 (.t 8) (.t 35)) none)]) (.seq (.seq (.ops [(PO.mk (some 36) (.fldA 0 (.t 8)) none), (PO.mk (some 37) (.load false 1 (.t 36)) none), (PO.mk (some 38) (.lenSl (.t 37)) none), (PO.mk (some 39) (.bin .gtr (.t 38) (.k (.int .i64 4))) none), (PO.mk (some 40) (.mv (.t 39)) none), (PO.mk (some 41) (.fldA 1 (.t 8)) (some (40, false))), (PO.mk (some 42) (.load false 1 (.t 41)) (some (40, false))), (PO.mk (some 43) (.lenSl (.t 42)) (some (40, false))), (PO.mk (some 44) (.bin .gtr (.t 43) (.k (.int .i64 4))) (some (40, false))), (PO.mk (some 45) (.pick (.t 40) (.k (.bool true)) (.t 44)) none)]) (.cond (.t 45) (.seq (.ops [(PO.mk (some 6) (.mv (.k (.bool true))) none)]) .ret) .skip)) (.seq (.ops [(PO.mk (some 46) (.fldA 0 (.t 8)) none), (PO.mk (some 47) (.load false 1 (.t 46)) none), (PO.mk (some 48) (.lenSl (.t 47)) none), (PO.mk (some 49) (.mv (.k (.int .i64 0))) none)]) (.block 2 (.loop (.seq (.ops [(PO.mk (some 50) (.bin .lss (.t 49) (.t 48)) none)]) (.seq (.cond (.t 50) .skip (.exit 2)) (.seq (.block 3 (.seq (.ops [(PO.mk (some 51) (.idxSl 34 (.t 47) (.t 49)) none), (PO.mk (some 52) (.load true 34 (.t 51)) none), (PO.mk (some 10) (.alloc z34_1838) none), (PO.mk none (.store 34 (.t 10) (.t 52)) none)]) (.seq (.ops [(PO.mk (some 53) (.fldA 33 (.t 10)) none), (PO.mk (some 54) (.load false 1 (.t 53)) none), (PO.mk (some 55) (.lenSl (.t 54)) none), (PO.mk (some 56) (.bin .gtr (.t 55) (.k (.int .i64 200))) none)]) (.cond (.t 56) (.seq (.ops [(PO.mk (some 6) (.mv (.k (.bool true))) none)]) .ret) .skip)))) (.ops [(PO.mk (some 57) (.bin .add (.t 49) (.k (.int .i64 1))) none), (PO.mk (some 49) (.mv (.t 57)) none)])))))))))) (.ops [(PO.mk (some 58) (.bin .add (.t 32) (.k (.int .i64 1))) none), (PO.mk (some 32) (.mv (.t 58)) none)]))))))) (.seq (.ops [(PO.mk (some 59) (.fldA 66 (.t 3)) none), (PO.mk none (.store 1 (.t 59) (.k (w32 545259519))) none)]) (.seq (.ops [(PO.mk (some 60) (.call (F 190) [(.k (.int .i64 0))]) none), (PO.mk (some 11) (.alloc z74_2f53) none), (PO.mk none (.store 74 (.t 11) (.t 60)) none)]) (.seq (.ops [(PO.mk (some 62) (.load true 74 (.t 11)) none), (PO.mk (some 63) (.load true 68 (.t 3)) none), (PO.mk (some 64) (.mv (.t 1)) none), (PO.mk (some 65) (.mv (.t 2)) none), (PO.mk (some 66) (.call (F 189) [(.t 62), (.t 63), (.t 64), (.k (w8 4)), (.t 65)]) none), (PO.mk (some 61) (.mv (.t 66)) none), (PO.mk (some 67) (.ext 0 (.t 61)) none), (PO.mk (some 68) (.ext 1 (.t 61)) none), (PO.mk (some 12) (.alloc z69_adc1) none), (PO.mk none (.store 69 (.t 12) (.t 67)) none), (PO.mk (some 13) (.mv (.t 68)) none)]) (.seq (.seq (.ops [(PO.mk (some 69) (.mv (.t 13)) none), (PO.mk (some 70) (.not (.t 69)) none)]) (.cond (.t 70) (.seq (.ops [(PO.mk (some 6) (.mv (.k (.bool true))) none)]) .ret) .skip)) (.seq (.ops [(PO.mk (some 72) (.fldA 68 (.t 12)) none), (PO.mk (some 73) (.load false 1 (.t 72)) none), (PO.mk (some 74) (.call (F 192) [(.t 73)]) none), (PO.mk (some 71) (.mv (.t 74)) none), (PO.mk (some 75) (.ext 0 (.t 71)) none), (PO.mk (some 76) (.ext 1 (.t 71)) none), (PO.mk (some 14) (.alloc zR32_w80) none), (PO.mk none (.store 32 (.t 14) (.t 75)) none), (PO.mk (some 15) (.mv (.t 76)) none)]) (.seq (.ops [(PO.mk (some 77) (.load true 74 (.t 11)) none), (PO.mk (some 78) (.mv (.t 1)) none), (PO.mk (some 79) (.call (F 191) [(.t 77), (.t 78), (.k (w8 4))]) none), (PO.mk (some 16) (.alloc [(.sl .nil [] 0), (.sl .nil [] 0)]) none), (PO.mk none (.store 2 (.t 16) (.t 79)) none)]) (.seq (.draw [(.e, (PO.mk (some 80) (.fldA 0 (.t 12)) none)), (.e, (PO.mk (some 81) (.fldA 1 (.t 80)) none)), (.s, (PO.mk (some 82) (.load true 32 (.t 81)) none)), (.s, (PO.mk (some 83) (.load true 68 (.t 3)) none)), (.s, (PO.mk (some 84) (.call (F 141) [(.t 83)]) none)), (.e, (PO.mk (some 85) (.eqa (.agg 32) false (.t 82) (.t 84)) none)), (.e, (PO.mk (some 86) (.mv (.t 85)) none)), (.e, (PO.mk (some 87) (.fldA 0 (.t 12)) (some (86, true)))), (.e, (PO.mk (some 88) (.fldA 65 (.t 87)) (some (86, true)))), (.e, (PO.mk (some 90) (.fldA 65 (.t 3)) (some (86, true)))), (.s, (PO.mk (some 89) (.load false 1 (.t 88)) (some (86, true)))), (.s, (PO.mk (some 91) (.load false 1 (.t 90)) (some (86, true)))), (.e, (PO.mk (some 92) (.bin .add (.t 91) (.k (w32 10))) (some (86, true)))), (.e, (PO.mk (some 93) (.bin .eql (.t 89) (.t 92)) (some (86, true)))), (.e, (PO.mk (some 94) (.pick (.t 86) (.t 93) (.k (.bool false))) none)), (.e, (PO.mk (some 95) (.mv (.t 94)) none)), (.e, (PO.mk (some 96) (.fldA 0 (.t 12)) (some (95, true)))), (.e, (PO.mk (some 97) (.fldA 66 (.t 96)) (some (95, true)))), (.e, (PO.mk (some 99) (.fldA 66 (.t 3)) (some (95, true)))), (.s, (PO.mk (some 98) (.load false 1 (.t 97)) (some (95, true)))), (.s, (PO.mk (some 100) (.load false 1 (.t 99)) (some (95, true)))), (.e, (PO.mk (some 101) (.bin .eql (.t 98) (.t 100)) (some (95, true)))), (.e, (PO.mk (some 102) (.pick (.t 95) (.t 101) (.k (.bool false))) none)), (.e, (PO.mk (some 103) (.mv (.t 102)) none)), (.e, (PO.mk (some 104) (.fldA 0 (.t 12)) (some (103, true)))), (.e, (PO.mk (some 105) (.fldA 33 (.t 104)) (some (103, true)))), (.s, (PO.mk (some 106) (.load true 32 (.t 105)) (some (103, true)))), (.s, (PO.mk (some 107) (.load true 32 (.t 14)) (some (103, true)))), (.e, (PO.mk (some 108) (.eqa (.agg 32) false (.t 106) (.t 107)) (some (103, true)))), (.e, (PO.mk (some 109) (.pick (.t 103) (.t 108) (.k (.bool false))) none)), (.e, (PO.mk (some 110) (.mv (.t 109)) none)), (.e, (PO.mk (some 111) (.fldA 0 (.t 12)) (some (110, true)))), (.e, (PO.mk (some 113) (.fldA 0 (.t 11)) (some (110, true)))), (.s, (PO.mk (some 112) (.load true 68 (.t 111)) (some (110, true)))), (.s, (PO.mk (some 114) (.load false 1 (.t 113)) (some (110, true)))), (.s, (PO.mk (some 115) (.call (F 142) [(.t 112), (.t 114)]) (some (110, true)))), (.e, (PO.mk (some 116) (.bin .eql (.t 115) (.k (.int .i64 0))) (some (110, true)))), (.e, (PO.mk (some 117) (.pick (.t 110) (.t 116) (.k (.bool false))) none)), (.e, (PO.mk (some 118) (.mv (.t 117)) none)), (.e, (PO.mk (some 119) (.fldA 68 (.t 12)) (some (118, true)))), (.e, (PO.mk (some 122) (.mv (.t 2)) (some (118, true)))), (.e, (PO.mk (some 123) (.lenSl (.t 122)) (some (118, true)))), (.e, (PO.mk (some 124) (.bin .add (.t 123) (.k (.int .i64 1))) (some (118, true)))), (.s, (PO.mk (some 120) (.load false 1 (.t 119)) (some (118, true)))), (.e, (PO.mk (some 121) (.lenSl (.t 120)) (some (118, true)))), (.e, (PO.mk (some 125) (.bin .eql (.t 121) (.t 124)) (some (118, true)))), (.e, (PO.mk (some 126) (.pick (.t 118) (.t 125) (.k (.bool false))) none)), (.e, (PO.mk (some 127) (.mv (.t 126)) none)), (.e, (PO.mk (some 128) (.fldA 68 (.t 12)) (some (127, true)))), (.s, (PO.mk (some 129) (.load false 1 (.t 128)) (some (127, true)))), (.e, (PO.mk (some 130) (.idxSl 2 (.t 129) (.k (.int .i64 0))) (some (127, true)))), (.s, (PO.mk (some 131) (.load true 2 (.t 130)) (some (127, true)))), (.s, (PO.mk (some 132) (.call (F 198) [(.t 131)]) (some (127, true)))), (.s, (PO.mk (some 133) (.load true 2 (.t 16)) (some (127, true)))), (.s, (PO.mk (some 134) (.call (F 198) [(.t 133)]) (some (127, true)))), (.e, (PO.mk (some 135) (.eqa (.agg 32) false (.t 132) (.t 134)) (some (127, true)))), (.e, (PO.mk (some 136) (.pick (.t 127) (.t 135) (.k (.bool false))) none)), (.e, (PO.mk (some 137) (.mv (.t 136)) none)), (.e, (PO.mk (some 138) (.fldA 1 (.t 16)) (some (137, true)))), (.s, (PO.mk (some 139) (.load false 1 (.t 138)) (some (137, true)))), (.e, (PO.mk (some 140) (.idxSl 33 (.t 139) (.k (.int .i64 0))) (some (137, true)))), (.e, (PO.mk (some 141) (.fldA 0 (.t 140)) (some (137, true)))), (.s, (PO.mk (some 142) (.load false 1 (.t 141)) (some (137, true)))), (.e, (PO.mk (some 143) (.bin .eql (.t 142) (.k (.int .i64 50))) (some (137, true)))), (.e, (PO.mk (some 144) (.pick (.t 137) (.t 143) (.k (.bool false))) none)), (.e, (PO.mk (some 145) (.mv (.t 144)) none)), (.s, (PO.mk (some 146) (.load true 2 (.t 16)) (some (145, true)))), (.s, (PO.mk (some 147) (.call (F 249) [(.t 146), (.k (.bool true))]) (some (145, true)))), (.e, (PO.mk (some 148) (.bin .eql (.t 147) (.k (.int .i64 0))) (some (145, true)))), (.e, (PO.mk (some 149) (.pick (.t 145) (.t 148) (.k (.bool false))) none)), (.e, (PO.mk (some 6) (.mv (.t 149)) none))]) .ret)))))))))))
structure OkLaw19g (P : Program) (F : Fn) : Prop where
  mixed : P.follows .mixedOrders = true
  toOkServes : OkServes P F
  toOkCheck : OkCheck P F
  h248 : compFn P ⟨[], [], [], [], []⟩ (F 248) = some (k248 F)
end Go.Ab
set_option linter.unusedSimpArgs false
set_option linter.unusedVariables false
namespace Go.Ab
open Go Go.RowKit
def Gh.all (w : World) : Gh := { ι := fun _ => none, pm := fun b o => if b < w.heap.size then w.cell? ⟨b, o, none⟩ else none, N := 0, fresh := fun _ _ => rfl }
theorem stRel_all (w : World) : StRel w.heap.size w (Gh.all w) (fun _ => none) w := by
  refine ⟨Below.refl _ _, Nat.le_refl _, fun id b x h => (by cases h), fun b o v h => ?_, fun id ob h => (by cases h), fun id id' b x x' h => absurd rfl h⟩
  simp only [Gh.all] at h
  split at h
  · exact h
  · cases h
theorem calls_of_acalls {P : Program} {f : FuncId} {args : List V} {w : World} {xs : List Value} (h : ACalls P f args (fun _ => none) fun v _ => v = .bool true) (ha : LRel (Gh.all w) args xs) :
    Calls P f xs.toArray w fun e w' => e = .returned (.bool true) ∧ Below w.heap.size w w' := by
  refine (h (fun _ => none) (fun _ => .inl rfl) w.heap.size w (Gh.all w) w xs (by rw [St.add_none]; exact stRel_all w) ha).mono ?_
  rintro e w' ⟨v, x, G', st', rfl, h1, h2, h3, h4, rfl⟩
  cases h2
  exact ⟨rfl, h4.below⟩
end Go.Ab
set_option linter.unusedSimpArgs false
set_option linter.unusedVariables false
namespace Go.Ab
open Go Go.RowKit Go.ChangeShapes Go.WideShapes Go.Deep
def ofCellV : Value → V
  | .bool b => .bool b
  | .int k n => .int k n
  | .string s => .str s
  | _ => .junk
theorem ofCellV_rel (G : Gh) (x : Value) : VRel G (ofCellV x) x := by
  cases x <;> first | exact .bool _ | exact .int _ _ | exact .str _ | exact .junk _
def plainCell : Value → Bool
  | .bool _ | .int .. | .string _ | .slice .. => true
  | _ => false
theorem plainCell_one {x : Value} (h : plainCell x = true) : x.oneCell' = true := by
  cases x <;> first | rfl | cases h
def plainTy (P : Program) : Nat → TypeId → Option Nat
  | 0, _ => none
  | d + 1, t =>
    match P.underlying t with
    | some (.int _) | some .bool | some .string | some (.slice _) => some 1
    | some (.struct fs) => (flatFs P (plainTy P d) fs.toList 0).bind fun n => if P.cellsOf t = n then some n else none
    | some (.array len e) => (plainTy P d e).bind fun m => if P.cellsOf e = m ∧ P.cellsOf t = len * m then some (len * m) else none
    | _ => none
inductive Shape (P : Program) : TypeId → List V → Prop
  | int {t : TypeId} {k : IntKind} (hu : P.underlying t = some (.int k)) (n : Int) (hw : (Lit.int k n).wf = true) : Shape P t [.int k n]
  | bool {t : TypeId} (hu : P.underlying t = some .bool) (b : Bool) : Shape P t [.bool b]
  | str {t : TypeId} (hu : P.underlying t = some .string) (s : ByteArray) : Shape P t [.str s]
  | hole {t e : TypeId} (hu : P.underlying t = some (.slice e)) : Shape P t [.junk]
  | struct {t : TypeId} {fs : Array Field} (hu : P.underlying t = some (.struct fs)) (vs : List V) (h : ∀ (i : Nat) (f : Field), fs[i]? = some f → Shape P f.type ((vs.drop f.offset).take (P.cellsOf f.type))) : Shape P t vs
  | array {t : TypeId} {n : Nat} {e : TypeId} (hu : P.underlying t = some (.array n e)) (vs : List V) (h : ∀ i, i < n → Shape P e ((vs.drop (i * P.cellsOf e)).take (P.cellsOf e))) : Shape P t vs
section
variable {P : Program} {t : TypeId} {vs : List V}
theorem shape_field {fs : Array Field} (hu : P.underlying t = some (.struct fs)) (h : Shape P t vs) (i : Nat) (f : Field) (hf : fs[i]? = some f) : Shape P f.type ((vs.drop f.offset).take (P.cellsOf f.type)) := by
  cases h with
  | struct hu' _ h => rw [hu] at hu'; cases hu'; exact h i f hf
  | int hu' | bool hu' | str hu' | hole hu' | array hu' => rw [hu] at hu'; cases hu'
theorem shape_elem {n : Nat} {e : TypeId} (hu : P.underlying t = some (.array n e)) (h : Shape P t vs) (i : Nat) (hi : i < n) : Shape P e ((vs.drop (i * P.cellsOf e)).take (P.cellsOf e)) := by
  cases h with
  | array hu' _ h => rw [hu] at hu'; cases hu'; exact h i hi
  | int hu' | bool hu' | str hu' | hole hu' | struct hu' => rw [hu] at hu'; cases hu'
end
section
variable {H : Type} {enc : TypeId × Value → H} {P : Program} {w : World} {base : Nat} {spare : Nat → Bool} {held : Bool}
theorem flatFs_cover {g : TypeId → Option Nat} {Q : Nat → Prop} : ∀ (fs : List Field) (n0 n : Nat), flatFs P g fs n0 = some n → (∀ f ∈ fs, ∀ m, g f.type = some m → P.cellsOf f.type = m → ∀ j, j < m → Q (f.offset + j)) → ∀ j, n0 ≤ j → j < n → Q j
  | [], n0, n, h, _, j, h1, h2 => by
    simp only [flatFs, Option.some.injEq] at h
    omega
  | f :: fs, n0, n, h, hq, j, h1, h2 => by
    simp only [flatFs] at h
    split at h <;> try (cases h; done)
    rename_i hc
    obtain ⟨m, hm, h⟩ := Option.bind_eq_some_iff.1 h
    split at h <;> try (cases h; done)
    rename_i hsz
    have hcm : P.cellsOf f.type = m := by
      unfold szOf at hsz
      simp only [Program.cellsOf, hsz, Option.getD_some]
    have hoff : f.offset = n0 := by
      simp at hc
      exact hc.2
    by_cases hj : j < n0 + m
    · have := hq f (by simp) m hm hcm (j - n0) (by omega)
      rwa [hoff, show n0 + (j - n0) = j by omega] at this
    · exact flatFs_cover fs (n0 + m) n h (fun f hf => hq f (by simp [hf])) j (by omega) h2
theorem trod_plain : ∀ (d : Nat) (t : TypeId) (m : Nat), plainTy P d t = some m → ∀ {fuel : Nat} {cs : List Value} {x : DataW H × List MemPlace}, DataW.trod enc P w base spare held fuel t cs = some x →
    cs.length = m ∧ (∀ j, j < m → plainCell (cs.getD j undef) = true) ∧ Shape P t (cs.map ofCellV)
  | 0, t, m, hp, fuel, cs, x, h => by cases hp
  | d + 1, t, m, hp, fuel, cs, x, h => by
    simp only [plainTy] at hp
    split at hp
    · rename_i k hu
      cases hp
      obtain ⟨n, rfl, _, hwf⟩ := DataW.trod_int hu h
      refine ⟨rfl, fun j hj => ?_, .int hu n hwf⟩
      have : j = 0 := by omega
      subst this
      rfl
    · rename_i hu
      cases hp
      obtain ⟨b, rfl, _⟩ := DataW.trod_bool hu h
      refine ⟨rfl, fun j hj => ?_, .bool hu b⟩
      have : j = 0 := by omega
      subst this
      rfl
    · rename_i hu
      cases hp
      obtain ⟨s, rfl, _⟩ := DataW.trod_string hu h
      refine ⟨rfl, fun j hj => ?_, .str hu s⟩
      have : j = 0 := by omega
      subst this
      rfl
    · rename_i e hu
      cases hp
      obtain ⟨ao, len, cap, rfl⟩ : ∃ ao len cap, cs = [.slice ao len cap] := by
        rcases open_slice hu h with ⟨h0, _⟩ | ⟨a, len', cap', m, n, D, Pl, hcs, _⟩
        · exact ⟨_, _, _, h0⟩
        · exact ⟨_, _, _, hcs⟩
      refine ⟨rfl, fun j hj => ?_, .hole hu⟩
      have : j = 0 := by omega
      subst this
      rfl
    · rename_i fs hu
      obtain ⟨n, hf, hp⟩ := Option.bind_eq_some_iff.1 hp
      split at hp <;> cases hp
      rename_i hcm
      obtain ⟨xs, n', _, _, hlen, hxl, hg⟩ := DataW.trod_struct hu h
      have sub : ∀ (i : Nat) (f : Field), fs[i]? = some f → ∃ y, DataW.trod enc P w base spare held n' f.type ((cs.drop f.offset).take (P.cellsOf f.type)) = some y := fun i f hi => by
        have hlt : i < fs.size := (Array.getElem?_eq_some_iff.1 hi).1
        exact ⟨_, (hg i f hi).trans (List.getElem?_eq_getElem (by omega))⟩
      have inf : ∀ (i : Nat) (f : Field), fs[i]? = some f → ∃ m, plainTy P d f.type = some m := by
        have key : ∀ (l : List Field) (n0 n : Nat), flatFs P (plainTy P d) l n0 = some n → ∀ f ∈ l, ∃ m, plainTy P d f.type = some m := by
          intro l
          induction l with
          | nil => intro n0 n h f hf; cases hf
          | cons g l ih =>
            intro n0 n h f hf
            simp only [flatFs] at h
            split at h <;> try (cases h; done)
            obtain ⟨m, hm, h⟩ := Option.bind_eq_some_iff.1 h
            split at h <;> try (cases h; done)
            rcases List.mem_cons.1 hf with rfl | hf
            · exact ⟨m, hm⟩
            · exact ih _ _ h f hf
        intro i f hi
        exact key _ _ _ hf f (Array.mem_toList_iff.2 (Array.mem_of_getElem? hi))
      refine ⟨hlen.trans hcm, fun j hj => ?_, .struct hu _ fun i f hi => ?_⟩
      · refine flatFs_cover (P := P) (Q := fun j => plainCell (cs.getD j undef) = true) _ _ _ hf (fun f hf' m' hm' hcm' j hj => ?_) j (Nat.zero_le _) hj
        obtain ⟨i, hi⟩ := List.getElem?_of_mem hf'
        obtain ⟨y, hy⟩ := sub i f (by simpa using hi)
        obtain ⟨h1, h2, _⟩ := trod_plain d f.type m' hm' hy
        have := h2 j hj
        rw [List.length_take, List.length_drop, hcm'] at h1
        simp only [List.getD_eq_getElem?_getD, List.getElem?_take, List.getElem?_drop, hcm', if_pos hj] at this ⊢
        exact this
      · obtain ⟨m', hm'⟩ := inf i f hi
        obtain ⟨y, hy⟩ := sub i f hi
        have := (trod_plain d f.type m' hm' hy).2.2
        rwa [List.map_take, List.map_drop] at this
    · rename_i len e hu
      obtain ⟨m', hm', hp⟩ := Option.bind_eq_some_iff.1 hp
      split at hp <;> cases hp
      rename_i hc
      obtain ⟨hc1, hc2⟩ := hc
      obtain ⟨xs, n', _, _, hlen, hxl, hg⟩ := DataW.trod_array hu h
      have sub : ∀ i, i < len → ∃ y, DataW.trod enc P w base spare held n' e ((cs.drop (i * P.cellsOf e)).take (P.cellsOf e)) = some y := fun i hi => ⟨_, (hg i hi).trans (List.getElem?_eq_getElem (by omega))⟩
      refine ⟨hlen.trans hc2, fun j hj => ?_, .array hu _ fun i hi => ?_⟩
      · have hm0 : 0 < m' := by
          rcases Nat.eq_zero_or_pos m' with h0 | h0
          · subst h0; simp at hj
          · exact h0
        have hi : j / m' < len := (Nat.div_lt_iff_lt_mul hm0).2 hj
        obtain ⟨y, hy⟩ := sub _ hi
        have := (trod_plain d e m' hm' hy).2.1 (j % m') (Nat.mod_lt _ hm0)
        simp only [List.getD_eq_getElem?_getD, List.getElem?_take, List.getElem?_drop, hc1, if_pos (Nat.mod_lt _ hm0)] at this ⊢
        rwa [show j / m' * m' + j % m' = j by rw [Nat.mul_comm]; exact Nat.div_add_mod j m'] at this
      · obtain ⟨y, hy⟩ := sub i hi
        have := (trod_plain d e m' hm' hy).2.2
        rwa [List.map_take, List.map_drop] at this
    · cases hp
theorem choose_list {α : Type} {Q : Nat → α → Prop} : ∀ n : Nat, (∀ i, i < n → ∃ r, Q i r) → ∃ l : List α, l.length = n ∧ ∀ i (hi : i < l.length), Q i l[i]
  | 0, _ => ⟨[], rfl, fun i hi => by simp at hi⟩
  | n + 1, h => by
    obtain ⟨l, h1, h2⟩ := choose_list n fun i hi => h i (by omega)
    obtain ⟨r, hr⟩ := h n (by omega)
    refine ⟨l ++ [r], by simp [h1], fun i hi => ?_⟩
    by_cases e : i < l.length
    · rw [List.getElem_append_left e]
      exact h2 i e
    · have : i = n := by simp at hi; omega
      subst this
      rw [List.getElem_append_right (by omega)]
      simpa [h1] using hr
theorem rowsOf_at {α : Type} {f : α → List V} {sz : Nat} (hf : ∀ a, (f a).length = sz) : ∀ (l : List α) (i j : Nat) (hi : i < l.length), j < sz → (rowsOf f l).getD (i * sz + j) .junk = (f l[i]).getD j .junk
  | [], i, j, hi, hj => by simp at hi
  | a :: l, 0, j, hi, hj => by
    simp only [rowsOf, List.flatMap_cons, Nat.zero_mul, Nat.zero_add, List.getElem_cons_zero, List.getD_eq_getElem?_getD]
    rw [List.getElem?_append_left (by rw [hf]; exact hj)]
  | a :: l, i + 1, j, hi, hj => by
    have ih := rowsOf_at hf l i j (by simpa using hi) hj
    have e : (i + 1) * sz + j = (f a).length + (i * sz + j) := by rw [hf, Nat.succ_mul]; omega
    simp only [rowsOf, List.flatMap_cons, List.getElem_cons_succ, List.getD_eq_getElem?_getD] at ih ⊢
    rw [e, List.getElem?_append_right (by omega), Nat.add_sub_cancel_left]
    exact ih
theorem open_agg {sz d : Nat} {t : TypeId} (hp : plainTy P d t = some sz) {v : Value} (hok : ∃ cs, v = .agg cs) {dw : DataW H} {p : List MemPlace} (h : DataW.Trod enc P w base spare held t v dw p) :
    ∃ vs, vs.length = sz ∧ Shape P t vs ∧ VRel (Gh.all w) (.agg vs) v := by
  obtain ⟨cs, rfl⟩ := hok
  obtain ⟨fuel, hf⟩ := h
  rw [show (Value.agg cs).cells = cs from rfl] at hf
  obtain ⟨k1, k2, k3⟩ := trod_plain d t sz hp hf
  refine ⟨cs.toList.map ofCellV, by simpa using k1, k3, .agg _ _ (by simp) (fun i hi => ?_) (fun i hi => ?_)⟩
  · have hi' : i < cs.size := by simpa using hi
    simp only [List.getD_eq_getElem?_getD, List.getElem?_map, Array.getElem?_toList, Array.getD_eq_getD_getElem?, Array.getElem?_eq_getElem hi', Option.map_some, Option.getD_some]
    exact ofCellV_rel _ _
  · have hi' : i < cs.size := by simpa using hi
    have := plainCell_one (k2 i (by rw [← k1]; simpa using hi'))
    rw [List.getD_eq_getElem?_getD] at this
    rw [Array.getD_eq_getD_getElem?]
    rwa [Array.getElem?_toList] at this
theorem agg_of_struct {t : TypeId} {fs : Array Field} {r : Reach} {b0 : Nat} {v : Value} (hu : P.underlying t = some (.struct fs)) (h : Value.okWide P w r b0 t v) : ∃ cs, v = .agg cs := by
  simp only [Value.okWide, hu] at h
  obtain ⟨cs, h1, _⟩ := h
  exact ⟨cs, h1⟩
theorem shape_byte {t : TypeId} (hu : P.underlying t = some (.int .u8)) (vs : List V) (hl : vs.length = 1) (h : Shape P t vs) : ∃ b : UInt8, vs = e8 b := by
  cases h with
  | int hu' n hw =>
    rw [hu] at hu'; cases hu'
    have hb : 0 ≤ n ∧ n ≤ 255 := by
      simp [Lit.wf] at hw
      exact hw
    refine ⟨UInt8.ofNat n.toNat, ?_⟩
    have : n.toNat % 256 = n.toNat := Nat.mod_eq_of_lt (by omega)
    simp [e8, this]
    omega
  | bool hu' | str hu' | hole hu' | struct hu' | array hu' => rw [hu] at hu'; cases hu'
end
end Go.Ab
set_option linter.unusedSimpArgs false
set_option linter.unusedVariables false
namespace Go.Ab
open Go Go.RowKit Go.ChangeShapes Go.WideShapes Go.Deep
section
variable {H : Type} {enc : TypeId × Value → H} {P : Program} {w : World} {base : Nat} {spare : Nat → Bool} {held : Bool}
def Opens (enc : TypeId × Value → H) (P : Program) (w : World) (base : Nat) (spare : Nat → Bool) (held : Bool) {α : Type} (f : α → List V) (sz : Nat) (t : TypeId) : Prop :=
  ∀ (fuel : Nat) (cs : List Value) (x : DataW H × List MemPlace), DataW.trod enc P w base spare held fuel t cs = some x → ∃ r : α, cs.length = sz ∧ ∀ j, j < sz → VRel (Gh.all w) ((f r).getD j .junk) (cs.getD j undef) ∧ (cs.getD j undef).oneCell' = true
theorem opens_byte {t : TypeId} (hu : P.underlying t = some (.int .u8)) : Opens enc P w base spare held e8 1 t := by
  intro fuel cs x h
  obtain ⟨n, rfl, _, hwf⟩ := DataW.trod_int hu h
  obtain ⟨b, hb⟩ := shape_byte (P := P) hu [.int .u8 n] rfl (.int hu n hwf)
  refine ⟨b, rfl, fun j hj => ?_⟩
  obtain rfl : j = 0 := by omega
  rw [← hb]
  exact ⟨.int _ _, rfl⟩
theorem open_rows2 {α : Type} (f : α → List V) {sz : Nat} (hsz : 0 < sz) (hf : ∀ a, (f a).length = sz) {t e : TypeId} (ht : P.underlying t = some (.slice e)) (hc : P.cellsOf e = sz) (hsp : ∀ b, spare b = true) (ho : Opens enc P w base spare held f sz e)
    {fuel : Nat} {ao : Option Addr} {len cap : Nat} {x : DataW H × List MemPlace} (h : DataW.trod enc P w base spare held fuel t [.slice ao len cap] = some x) :
    ∃ l : List α, l.length = len ∧ VRel (Gh.all w) (.sl .any (rowsOf f l) l.length) (.slice ao len cap) := by
  rcases open_slice ht h with ⟨h0, _⟩ | ⟨a, len', cap', m, n, D, Pl, hcs, hb, hl, hm, hmm, hx, hi⟩
  · simp only [List.cons.injEq, Value.slice.injEq, and_true] at h0
    obtain ⟨rfl, rfl, rfl⟩ := h0
    exact ⟨[], rfl, .slnil _ (.inr rfl)⟩
  · simp only [List.cons.injEq, Value.slice.injEq, and_true] at hcs
    obtain ⟨rfl, rfl, rfl⟩ := hcs
    rw [hsp, if_pos rfl] at hmm
    subst hmm
    by_cases h0 : m = 0
    · subst h0
      obtain rfl : len = 0 := by omega
      exact ⟨[], rfl, .slz a⟩
    have hs : a.spot = none := by
      obtain ⟨cs', h1, h2⟩ := hi 0 (by omega)
      obtain ⟨_, k1, _⟩ := ho _ _ _ h2
      obtain ⟨_, hcl, hat⟩ := World.cells?_some h1
      have := hat 0 (by omega)
      have hlt : 0 < cs'.length := by omega
      rw [List.getElem?_eq_getElem hlt] at this
      have hq := World.cell?_spot this
      simpa [Addr.add] using hq
    obtain ⟨b, o, sp⟩ := a
    simp only at hs
    subst hs
    have row : ∀ i, i < len → ∃ r : α, ∀ j, j < sz → ∃ y, w.cell? ⟨b, o + (i * sz + j), none⟩ = some y ∧ VRel (Gh.all w) ((f r).getD j .junk) y ∧ y.oneCell' = true := fun i hil => by
      obtain ⟨cs', h1, h2⟩ := hi i (by omega)
      obtain ⟨r, k1, k2⟩ := ho _ _ _ h2
      obtain ⟨_, hcl, hat⟩ := World.cells?_some h1
      refine ⟨r, fun j hj => ⟨cs'.getD j undef, ?_, (k2 j hj).1, (k2 j hj).2⟩⟩
      have := hat j (by omega)
      rw [hc, add_lit, add_lit] at this
      rw [show o + (i * sz + j) = o + i * sz + j by omega]
      have hlt : j < cs'.length := by omega
      rw [List.getD_eq_getElem?_getD, List.getElem?_eq_getElem hlt]
      rw [List.getElem?_eq_getElem hlt] at this
      simpa using this
    obtain ⟨l, hll, hrow⟩ := choose_list len row
    have cell : ∀ i, i < (rowsOf f l).length → ∃ y, (w.cell? ⟨b, o + i, none⟩).getD undef = y ∧ w.cell? ⟨b, o + i, none⟩ = some y ∧ VRel (Gh.all w) ((rowsOf f l).getD i .junk) y ∧ y.oneCell' = true := fun i hil => by
      rw [rowsOf_length hf] at hil
      have hq : i / sz < l.length := (Nat.div_lt_iff_lt_mul hsz).2 hil
      obtain ⟨y, h1, h2, h3⟩ := hrow (i / sz) hq (i % sz) (Nat.mod_lt _ hsz)
      have e : i / sz * sz + i % sz = i := by rw [Nat.mul_comm]; exact Nat.div_add_mod i sz
      have hg := rowsOf_at hf l (i / sz) (i % sz) hq (Nat.mod_lt _ hsz)
      rw [e] at hg h1
      exact ⟨y, by rw [h1]; rfl, h1, by rw [hg]; exact h2, h3⟩
    refine ⟨l, hll, ?_⟩
    rw [hll]
    refine .sl .any _ len b o m (by simp) hl (fun e => by cases e) (fun i => (w.cell? ⟨b, o + i, none⟩).getD undef) (fun i hil => ?_) (fun i hil => ?_) (fun i hil => ?_) <;> obtain ⟨y, q1, q2, q3, q4⟩ := cell i hil
    · rw [q1]
      simp only [Gh.all]
      rw [if_pos (block_of_cell q2), q2]
    · rw [q1]; exact q3
    · rw [q1]; exact q4
def eSl {α : Type} (f : α → List V) (l : List α) : List V := [.sl .any (rowsOf f l) l.length]
theorem opens_slice {α : Type} (f : α → List V) {sz : Nat} (hsz : 0 < sz) (hf : ∀ a, (f a).length = sz) {t e : TypeId} (ht : P.underlying t = some (.slice e)) (hc : P.cellsOf e = sz) (hsp : ∀ b, spare b = true) (ho : Opens enc P w base spare held f sz e) : Opens enc P w base spare held (eSl f) 1 t := by
  intro fuel cs x h
  have hcs : ∃ ao len cap, cs = [.slice ao len cap] := by
    rcases open_slice ht h with ⟨h0, _⟩ | ⟨a, len', cap', m, n, D, Pl, hcs, _⟩
    · exact ⟨_, _, _, h0⟩
    · exact ⟨_, _, _, hcs⟩
  obtain ⟨ao, len, cap, rfl⟩ := hcs
  obtain ⟨l, hl, hv⟩ := open_rows2 f hsz hf ht hc hsp ho h
  refine ⟨l, rfl, fun j hj => ?_⟩
  obtain rfl : j = 0 := by omega
  exact ⟨hv, rfl⟩
theorem opens_fields {t : TypeId} {fs : Array Field} (hu : P.underlying t = some (.struct fs)) {fuel : Nat} {cs : List Value} {x : DataW H × List MemPlace} (h : DataW.trod enc P w base spare held fuel t cs = some x) :
    cs.length = P.cellsOf t ∧ ∀ (i : Nat) (fd : Field), fs[i]? = some fd → ∀ {α : Type} (f : α → List V) (sz : Nat), Opens enc P w base spare held f sz fd.type → P.cellsOf fd.type = sz → ∃ r : α, ∀ j, j < sz → VRel (Gh.all w) ((f r).getD j .junk) (cs.getD (fd.offset + j) undef) ∧ (cs.getD (fd.offset + j) undef).oneCell' = true := by
  obtain ⟨xs, n', _, _, hlen, hxl, hg⟩ := DataW.trod_struct hu h
  refine ⟨hlen, fun i fd hi α f sz ho hc => ?_⟩
  have hlt : i < fs.size := (Array.getElem?_eq_some_iff.1 hi).1
  obtain ⟨r, k1, k2⟩ := ho _ _ _ ((hg i fd hi).trans (List.getElem?_eq_getElem (by omega)))
  refine ⟨r, fun j hj => ?_⟩
  have := k2 j hj
  rw [hc] at this
  simp only [List.getD_eq_getElem?_getD, List.getElem?_take, List.getElem?_drop, if_pos hj] at this ⊢
  exact this
end
end Go.Ab
set_option linter.unusedSimpArgs false
set_option linter.unusedVariables false
namespace Go.Ab
open Go Go.RowKit Go.ChangeShapes Go.WideShapes Go.Deep
section
variable {P : Program} {t : TypeId} {vs : List V}
def fldAt (fs : Array Field) (i : Nat) : Option (Nat × TypeId) := (fs[i]?).map fun f => (f.offset, f.type)
theorem shape_at {fs : Array Field} (hu : P.underlying t = some (.struct fs)) (h : Shape P t vs) {i o : Nat} {ty : TypeId} (e : fldAt fs i = some (o, ty)) : Shape P ty ((vs.drop o).take (P.cellsOf ty)) := by
  unfold fldAt at e
  cases hf : fs[i]? with
  | none => rw [hf] at e; cases e
  | some f =>
    rw [hf] at e
    have e := Option.some.inj e
    have h1 : f.offset = o := congrArg Prod.fst e
    have h2 : f.type = ty := congrArg Prod.snd e
    have := shape_field hu h i f hf
    rw [h1, h2] at this
    exact this
theorem shape_u32 (hu : P.underlying t = some (.int .u32)) (h : Shape P t vs) : ∃ x : W32, vs = [w32 x] := by
  cases h with
  | int hu' n hw =>
    rw [hu] at hu'; cases hu'
    have hb : 0 ≤ n ∧ n ≤ 4294967295 := by
      simp [Lit.wf] at hw
      exact hw
    refine ⟨BitVec.ofNat 32 n.toNat, ?_⟩
    have : (BitVec.ofNat 32 n.toNat).toNat = n.toNat := by rw [BitVec.toNat_ofNat]; exact Nat.mod_eq_of_lt (by omega)
    rw [w32, this]
    congr 2
    omega
  | bool hu' | str hu' | hole hu' | struct hu' | array hu' => rw [hu] at hu'; cases hu'
theorem shape_i64 (hu : P.underlying t = some (.int .i64)) (h : Shape P t vs) : ∃ x : Int, vs = [.int .i64 x] := by
  cases h with
  | int hu' n hw => rw [hu] at hu'; cases hu'; exact ⟨n, rfl⟩
  | bool hu' | str hu' | hole hu' | struct hu' | array hu' => rw [hu] at hu'; cases hu'
theorem shape_id {tb : TypeId} (hu : P.underlying t = some (.array 32 tb)) (hb : P.underlying tb = some (.int .u8)) (cb : P.cellsOf tb = 1) (hl : vs.length = 32) (h : Shape P t vs) : ∃ x : Id, vs = eId x := by
  have row : ∀ i, i < 32 → ∃ b : UInt8, (vs.drop i).take 1 = e8 b := fun i hi => by
    have := shape_elem hu h i hi
    rw [cb, Nat.mul_one] at this
    exact shape_byte hb _ (by simp; omega) this
  obtain ⟨l, hll, hr⟩ := choose_list 32 row
  refine ⟨⟨⟨l⟩, hll⟩, ?_⟩
  have e : eId ⟨⟨l⟩, hll⟩ = l.map w8 := by rw [eId_rows, rows_e8]; rfl
  rw [e]
  apply List.ext_getElem
  · simp [hl, hll]
  · intro i h1 h2
    have hi : i < l.length := by simpa using h2
    have := hr i hi
    rw [List.drop_eq_getElem_cons h1] at this
    simp only [List.take_succ_cons, List.take_zero, e8] at this
    rw [List.getElem_map]
    exact (List.cons.inj this).1
theorem cut1 (vs : List V) (n : Nat) : vs = vs.take n ++ vs.drop n := (List.take_append_drop n vs).symm
structure HdrTy (P : Program) (t tw ti tb : TypeId) : Prop where
  flds : ∃ fs, P.underlying t = some (.struct fs) ∧ fldAt fs 0 = some (0, tw) ∧ fldAt fs 1 = some (1, ti) ∧ fldAt fs 2 = some (33, ti) ∧ fldAt fs 3 = some (65, tw) ∧ fldAt fs 4 = some (66, tw) ∧ fldAt fs 5 = some (67, tw)
  uw : P.underlying tw = some (.int .u32)
  ui : P.underlying ti = some (.array 32 tb)
  ub : P.underlying tb = some (.int .u8)
  cw : P.cellsOf tw = 1
  ci : P.cellsOf ti = 32
  cb : P.cellsOf tb = 1
theorem shape_hdr {tw ti tb : TypeId} (T : HdrTy P t tw ti tb) (hl : vs.length = 68) (h : Shape P t vs) : ∃ x : Hdr, vs = eHdr x := by
  obtain ⟨fs, hu, e0, e1, e2, e3, e4, e5⟩ := T.flds
  have s0 := shape_at hu h e0
  have s1 := shape_at hu h e1
  have s2 := shape_at hu h e2
  have s3 := shape_at hu h e3
  have s4 := shape_at hu h e4
  have s5 := shape_at hu h e5
  rw [T.cw] at s0 s3 s4 s5
  rw [T.ci] at s1 s2
  obtain ⟨v, h0⟩ := shape_u32 T.uw s0
  obtain ⟨p, h1⟩ := shape_id T.ui T.ub T.cb (by simp; omega) s1
  obtain ⟨q, h2⟩ := shape_id T.ui T.ub T.cb (by simp; omega) s2
  obtain ⟨a, h3⟩ := shape_u32 T.uw s3
  obtain ⟨b, h4⟩ := shape_u32 T.uw s4
  obtain ⟨c, h5⟩ := shape_u32 T.uw s5
  refine ⟨⟨v, p, q, a, b, c⟩, ?_⟩
  have d5 : vs.drop 67 = [w32 c] := by rw [← h5, List.take_of_length_le (by simp; omega)]
  have d4 : vs.drop 66 = w32 b :: [w32 c] := by rw [cut1 (vs.drop 66) 1, h4, List.drop_drop, d5]; rfl
  have d3 : vs.drop 65 = w32 a :: [w32 b, w32 c] := by rw [cut1 (vs.drop 65) 1, h3, List.drop_drop, d4]; rfl
  have d2 : vs.drop 33 = eId q ++ [w32 a, w32 b, w32 c] := by rw [cut1 (vs.drop 33) 32, h2, List.drop_drop, d3]
  have d1 : vs.drop 1 = eId p ++ (eId q ++ [w32 a, w32 b, w32 c]) := by rw [cut1 (vs.drop 1) 32, h1, List.drop_drop, d2]
  rw [cut1 vs 1, d1]
  rw [List.drop_zero] at h0
  rw [h0]
  rfl
end
end Go.Ab
set_option linter.unusedSimpArgs false
set_option linter.unusedVariables false
set_option maxRecDepth 10000
namespace Go.Ab
open Go Go.RowKit
def sumGo : Int → List Out1 → Int × Bool
  | n, [] => (n, true)
  | n, o :: l => if o.amt < 0 ∨ 1125899906842624 < o.amt then (0, false) else if 1125899906842624 < n + o.amt then (0, false) else sumGo (n + o.amt) l
def sumM (l : List Out1) : Int × Bool := sumGo 0 l
abbrev Pt := Id × W32
def ePt (p : Pt) : List V := eId p.1 ++ [w32 p.2]
theorem ePt_len (p : Pt) : (ePt p).length = 33 := by simp [ePt, eId_len]
def kPt (p : Pt) : V := .agg (ePt p)
theorem eqL_app : ∀ (a b c d : List V) (r s : Bool), eqL a b = some r → eqL c d = some s → eqL (a ++ c) (b ++ d) = some (r && s)
  | [], [], c, d, r, s, h1, h2 => by
    cases h1
    simpa using h2
  | [], b :: bs, c, d, r, s, h1, h2 => by cases h1
  | a :: as, [], c, d, r, s, h1, h2 => by cases a <;> cases h1
  | .int k a :: as, .int k' b :: bs, c, d, r, s, h1, h2 => by
    simp only [eqL, List.cons_append] at h1 ⊢
    split at h1
    · rename_i hk
      rw [if_pos hk]
      obtain ⟨t, h3, h4⟩ := Option.map_eq_some_iff.1 h1
      rw [eqL_app as bs c d t s h3 h2]
      subst h4
      simp [Bool.and_assoc]
    · cases h1
  | .bool _ :: _, _ :: _, _, _, _, _, h1, _ => by simp [eqL] at h1
  | .str _ :: _, _ :: _, _, _, _, _, h1, _ => by simp [eqL] at h1
  | .ptr _ :: _, _ :: _, _, _, _, _, h1, _ => by simp [eqL] at h1
  | .eptr _ :: _, _ :: _, _, _, _, _, h1, _ => by simp [eqL] at h1
  | .sl _ _ _ :: _, _ :: _, _, _, _, _, h1, _ => by simp [eqL] at h1
  | .hsl _ _ _ _ :: _, _ :: _, _, _, _, _, h1, _ => by simp [eqL] at h1
  | .map _ :: _, _ :: _, _, _, _, _, h1, _ => by simp [eqL] at h1
  | .func _ _ :: _, _ :: _, _, _, _, _, h1, _ => by simp [eqL] at h1
  | .nilf :: _, _ :: _, _, _, _, _, h1, _ => by simp [eqL] at h1
  | .agg _ :: _, _ :: _, _, _, _, _, h1, _ => by simp [eqL] at h1
  | .tup _ :: _, _ :: _, _, _, _, _, h1, _ => by simp [eqL] at h1
  | .junk :: _, _ :: _, _, _, _, _, h1, _ => by simp [eqL] at h1
  | .int _ _ :: _, .bool _ :: _, _, _, _, _, h1, _ => by simp [eqL] at h1
  | .int _ _ :: _, .str _ :: _, _, _, _, _, h1, _ => by simp [eqL] at h1
  | .int _ _ :: _, .ptr _ :: _, _, _, _, _, h1, _ => by simp [eqL] at h1
  | .int _ _ :: _, .eptr _ :: _, _, _, _, _, h1, _ => by simp [eqL] at h1
  | .int _ _ :: _, .sl _ _ _ :: _, _, _, _, _, h1, _ => by simp [eqL] at h1
  | .int _ _ :: _, .hsl _ _ _ _ :: _, _, _, _, _, h1, _ => by simp [eqL] at h1
  | .int _ _ :: _, .map _ :: _, _, _, _, _, h1, _ => by simp [eqL] at h1
  | .int _ _ :: _, .func _ _ :: _, _, _, _, _, h1, _ => by simp [eqL] at h1
  | .int _ _ :: _, .nilf :: _, _, _, _, _, h1, _ => by simp [eqL] at h1
  | .int _ _ :: _, .agg _ :: _, _, _, _, _, h1, _ => by simp [eqL] at h1
  | .int _ _ :: _, .tup _ :: _, _, _, _, _, h1, _ => by simp [eqL] at h1
  | .int _ _ :: _, .junk :: _, _, _, _, _, h1, _ => by simp [eqL] at h1
theorem eqL_w32 (x y : W32) : eqL [w32 x] [w32 y] = some (decide (x = y)) := by
  show eqL [.int .u32 (x.toNat : Int)] [.int .u32 (y.toNat : Int)] = _
  simp only [eqL, if_true, Option.map_some, Bool.and_true, Option.some.injEq]
  rw [Bool.eq_iff_iff]
  simp only [beq_iff_eq, decide_eq_true_eq]
  constructor
  · intro h
    exact BitVec.eq_of_toNat_eq (by omega)
  · intro h
    rw [h]
theorem eqL_pt (a b : Pt) : eqL (ePt a) (ePt b) = some (decide (a = b)) := by
  rw [ePt, ePt, eqL_app _ _ _ _ _ _ (eqL_id a.1 b.1) (eqL_w32 a.2 b.2)]
  congr 1
  rw [Bool.eq_iff_iff]
  simp only [Bool.and_eq_true, decide_eq_true_eq, Prod.ext_iff]
theorem keyed_pt : Keyed kPt (.agg 33) := ⟨fun k => by simp [isKey, kPt, ePt_len], fun a b => by
  simp only [keyEq, kPt]
  rw [if_pos (ePt_len a), eqL_pt]⟩
theorem lookup_lk0 {K A : Type} [DecidableEq K] {ek : K → V} {ev : A → V} {kk : KK} (hk : Keyed ek kk) {st : St} {id : Nat} {l : List (K × A)} (h : st id = some (.mp (encM ek ev l))) (z : V) (k : K) :
    lookupV st kk z false (.map (some id)) (ek k) = some (((lk k l).map ev).getD z) := by
  rw [lookup_enc hk h, if_neg (by simp)]; rfl
def In1.pt (x : In1) : Pt := (x.tx, x.ix)
def makerP : Pt := (id0, 4294967295#32)
theorem insegPt (x : In1) : segOf (eIn x) 0 33 = some (ePt x.pt) := seg_of_drop (zs := [keyV x.kk x.key]) (by rw [List.drop_zero]; simp [eIn, ePt, In1.pt]) (ePt_len _) (by omega)
def insGo (first : Bool) : List Pt → List In1 → Option Int
  | _, [] => none
  | seen, x :: l => if 100 < x.key.length then some 2 else if decide (x.pt = makerP) ≠ first then some 120 else if x.pt ∈ seen then some 5 else insGo first (x.pt :: seen) l
def txM (t : Tx1) (first : Bool) : Int :=
  if t.ins.length = 0 ∨ t.outs.length = 0 ∨ 32 < t.ins.length ∨ 32 < t.outs.length then 120 else
  match insGo first [] t.ins with
  | some e => e
  | none => if (sumM t.outs).2 = true then 0 else 121
theorem insV_len (t : Tx1) : lenSlV (insV t) = some (.int .i64 t.ins.length) := rfl
theorem outsV_len (t : Tx1) : lenSlV (outsV t) = some (.int .i64 t.outs.length) := rfl
theorem tsegIns (t : Tx1) : segOf (eTx t) 0 1 = some [insV t] := rfl
theorem tsegOuts (t : Tx1) : segOf (eTx t) 1 1 = some [outsV t] := rfl
theorem tsegAll (t : Tx1) : segOf (eTx t) 0 2 = some (eTx t) := rfl
section
variable {P : Program} {F : Fn}
set_option maxHeartbeats 2000000 in
theorem spec250 (ok : OkCheck P F) (st : St) {s : V} {l : List Out1} (hr : Rd 33 eOut s l st) (hl : l.length ≤ 100000) : ACalls P (F 250) [s] st fun v st' => v = .tup [.int .i64 (sumM l).1, .bool (sumM l).2] ∧ st' = st := by
  refine shows_call ok.mixed ok.h250 (by simp [k250]) ?_
  simp only [k250]
  have hlen := hr.len
  simp [hlen]
  refine vc_loopJ (fun c env' st' => ∃ (i : Nat) (n : Int), i ≤ l.length ∧ c = l.length - i ∧ env' 9 = .int .i64 (i : Nat) ∧ env' 4 = .int .i64 n ∧ 0 ≤ n ∧ n ≤ 1125899906842624 ∧ sumGo n (l.drop i) = sumM l ∧ Sep [Was st] st') l.length
    ⟨0, 0, by omega, by omega, by simp, by simp, by omega, by omega, by simp [sumM], Sep.start st⟩ ?_
  rintro J hJ c env' st2 hsame ⟨i, n, hi, rfl, h9, h4, hn0, hn1, hgo, S⟩
  have g7 := (hsame.get 7 rfl).trans (by simp : _ = s)
  have g8 := (hsame.get 8 rfl).trans (by simp : _ = V.int .i64 (l.length : Int))
  clear hsame
  have hsub : St.sub st st2 := S.was' (st0 := st) (by simp)
  by_cases hlt : i < l.length
  · obtain ⟨r1, r2, r3, r4⟩ := (hr.sub hsub).row eOut_len hlt
    rw [List.drop_eq_getElem_cons hlt, sumGo] at hgo
    obtain ⟨o, ho⟩ : ∃ o, o = l[i] := ⟨_, rfl⟩
    rw [← ho] at r3 hgo
    have w1 : IntKind.i64.wrap ((i : Int) + 1) = (i : Int) + 1 := wrap64 (by omega) (by omega)
    simp [g7, g8, h9, hlt, r1, r3]
    intro i6 h6
    have S := S.new h6 (.cells z33_0be4)
    have hst := store_pt (sz := 33) (o := 0) S.get (v := .agg (eOut o)) (vs := eOut o) rfl (eOut_len _) (by simp)
    rw [show spliceV z33_0be4 0 (eOut o) = eOut o by simp [spliceV, eOut_len]] at hst
    have S := S.set (.cells (eOut o))
    simp [hst] at S ⊢
    generalize st2.upd i6 (.cells (eOut o)) = st3 at S ⊢
    have o6 := S.get
    have hsa := ousegAmt o
    by_cases h1 : o.amt < 0
    · rw [if_pos (.inl h1)] at hgo
      simp [St.seg, o6, hsa, h1, ← hgo]
      exact S.was' (st0 := st) (by simp)
    · by_cases h2 : 1125899906842624 < o.amt
      · rw [if_pos (.inr h2)] at hgo
        simp [St.seg, o6, hsa, h1, h2, ← hgo]
        exact S.was' (st0 := st) (by simp)
      · rw [if_neg (by omega)] at hgo
        have w2 : IntKind.i64.wrap (n + o.amt) = n + o.amt := wrap64 (by omega) (by omega)
        by_cases h3 : 1125899906842624 < n + o.amt
        · rw [if_pos h3] at hgo
          simp [St.seg, o6, hsa, h1, h2, h3, h4, w2, ← hgo]
          exact S.was' (st0 := st) (by simp)
        · rw [if_neg h3] at hgo
          simp [St.seg, o6, hsa, h1, h2, h3, h4, h9, w1, w2]
          exact Round.mk (l.length - (i + 1)) _ (by omega) (sub_self _) (hJ _ _ _ ⟨i + 1, n + o.amt, by omega, rfl, by simp, by simp, by omega, by omega, hgo, S.drop⟩)
  · have : i = l.length := by omega
    subst this
    rw [List.drop_length, sumGo] at hgo
    simp [g7, g8, h9, h4, ← hgo]
    exact hsub
set_option maxHeartbeats 4000000 in
theorem spec249 (ok : OkCheck P F) (st : St) (t : Tx1) (first : Bool) (h1 : t.ins.length ≤ 100000) (h2 : t.outs.length ≤ 100000) (h3 : ∀ x ∈ t.ins, x.key.length ≤ 1000000) :
    ACalls P (F 249) [.agg (eTx t), .bool first] st fun v st' => v = .int .i64 (txM t first) ∧ st' = st := by
  have okt := ok.toOkTx
  refine shows_call ok.mixed ok.h249 (by simp [k249]) ?_
  simp only [k249]
  simp
  intro i2 hi2
  have S := (Sep.start st).new hi2 (.cells (eTx t))
  generalize st.upd i2 _ = st1 at S ⊢
  have o2 := S.get
  have li := insV_len t
  have lo := outsV_len t
  have si := tsegIns t
  have so := tsegOuts t
  by_cases c1 : t.ins.length = 0
  · have e : txM t first = 120 := by rw [txM, if_pos (.inl c1)]
    simp [St.seg, o2, si, so, li, lo, c1, e]
    exact S.was' (st0 := st) (by simp)
  have b1 : ((t.ins.length : Int) == 0) = false := by simpa using c1
  by_cases c2 : t.outs.length = 0
  · have e : txM t first = 120 := by rw [txM, if_pos (.inr (.inl c2))]
    simp [St.seg, o2, si, so, li, lo, b1, c2, e]
    exact S.was' (st0 := st) (by simp)
  have b2 : ((t.outs.length : Int) == 0) = false := by simpa using c2
  by_cases c3 : 32 < t.ins.length
  · have e : txM t first = 120 := by rw [txM, if_pos (.inr (.inr (.inl c3)))]
    have c3' : 32 < (t.ins.length : Int) := by omega
    simp [St.seg, o2, si, so, li, lo, b1, b2, c3', e]
    exact S.was' (st0 := st) (by simp)
  by_cases c4 : 32 < t.outs.length
  · have e : txM t first = 120 := by rw [txM, if_pos (.inr (.inr (.inr c4)))]
    have c3' : ¬ 32 < (t.ins.length : Int) := by omega
    have c4' : 32 < (t.outs.length : Int) := by omega
    simp [St.seg, o2, si, so, li, lo, b1, b2, c3', c4', e]
    exact S.was' (st0 := st) (by simp)
  have e0 : txM t first = match insGo first [] t.ins with | some e => e | none => if (sumM t.outs).2 = true then 0 else 121 := by rw [txM, if_neg (by omega)]
  have c3' : ¬ 32 < (t.ins.length : Int) := by omega
  have c4' : ¬ 32 < (t.outs.length : Int) := by omega
  simp [St.seg, o2, si, so, li, lo, b1, b2, c3', c4']
  intro i5 hi5
  have S := S.new hi5 (.mp [])
  generalize st1.upd i5 _ = st2 at S ⊢
  have o2 := S.mem (i := i2) (o := .cells (eTx t)) (by simp)
  simp [St.seg, o2, si, so, li, lo]
  refine vc_joinB (M := fun env' st' => insGo first [] t.ins = none ∧ Sep [pt i2 (.cells (eTx t)), Was st] st') ?_ ?_
  · refine vc_loopJ (fun c env' st' => ∃ (i : Nat) (seen : List Pt) (es : List (Pt × Bool)), i ≤ t.ins.length ∧ c = t.ins.length - i ∧ env' 36 = .int .i64 (i : Nat) ∧ insGo first seen (t.ins.drop i) = insGo first [] t.ins ∧ (∀ p, (lk p es).getD false = decide (p ∈ seen)) ∧
        Sep [pt i5 (.mp (encM kPt V.bool es)), pt i2 (.cells (eTx t)), Was st] st') t.ins.length
      ⟨0, [], [], by omega, by omega, by simp, by simp, by simp [lk], S⟩ ?_
    rintro J hJ c env' st3 hsame ⟨i, seen, es, hi, rfl, h36, hgo, hes, S⟩
    have g1 := (hsame.get 1 rfl).trans (by simp : _ = V.bool first)
    have g5 := (hsame.get 5 rfl).trans (by simp : _ = V.map (some i5))
    have g34 := (hsame.get 34 rfl).trans (by simp : _ = insV t)
    have g35 := (hsame.get 35 rfl).trans (by simp : _ = V.int .i64 (t.ins.length : Int))
    clear hsame
    by_cases hlt : i < t.ins.length
    · obtain ⟨r1, r2, r3, r4⟩ := (rd_ins t st3).row eIn_len hlt
      rw [List.drop_eq_getElem_cons hlt, insGo] at hgo
      have hkl := h3 t.ins[i] (List.getElem_mem hlt)
      obtain ⟨x, hx⟩ : ∃ x, x = t.ins[i] := ⟨_, rfl⟩
      rw [← hx] at r3 hgo hkl
      have w1 : IntKind.i64.wrap ((i : Int) + 1) = (i : Int) + 1 := wrap64 (by omega) (by omega)
      simp [g34, g35, h36, hlt, r1, r3]
      intro i7 hi7
      have S := S.new hi7 (.cells z34_1838)
      have hst := store_pt (sz := 34) (o := 0) S.get (v := .agg (eIn x)) (vs := eIn x) rfl (eIn_len _) (by simp)
      rw [show spliceV z34_1838 0 (eIn x) = eIn x by simp [spliceV, eIn_len]] at hst
      have S := S.set (.cells (eIn x))
      simp [hst] at S ⊢
      generalize st3.upd i7 (.cells (eIn x)) = st4 at S ⊢
      have o7 := S.get
      have o5 := S.mem (i := i5) (o := .mp (encM kPt V.bool es)) (by simp)
      have hsk := insegKey x
      have hsp := insegPt x
      have hlk : lenSlV (keyV x.kk x.key) = some (.int .i64 x.key.length) := rfl
      by_cases k1 : 100 < x.key.length
      · have k1' : 100 < (x.key.length : Int) := by omega
        rw [if_pos k1] at hgo
        rw [← hgo] at e0
        simp [St.seg, o7, hsk, hlk, k1', e0]
        exact S.was' (st0 := st) (by simp)
      · have k1' : ¬ 100 < (x.key.length : Int) := by omega
        rw [if_neg k1] at hgo
        have hm : eqK (.agg 33) (.agg (ePt x.pt)) (.agg (eId id0 ++ [w32 4294967295#32])) = some (decide (x.pt = makerP)) := by
          show eqK (.agg 33) (.agg (ePt x.pt)) (.agg (ePt makerP)) = _
          rw [eqK, if_pos (ePt_len _), eqL_pt]
        simp [St.seg, o7, hsk, hlk, k1', hsp, g1]
        refine ⟨_, spec197 okt st4, ?_⟩
        by_cases k2 : decide (x.pt = makerP) = first
        · rw [if_neg (by simpa using k2)] at hgo
          have hlu := lookup_lk0 keyed_pt (ev := V.bool) o5 (.bool false) x.pt
          have hge : ((lk x.pt es).map V.bool).getD (.bool false) = .bool (decide (x.pt ∈ seen)) := by
            rw [← hes x.pt]
            cases lk x.pt es <;> rfl
          simp only [hge, kPt] at hlu
          rw [k2] at hm
          have hb : eqK .bool (.bool first) (.bool first) = some true := by simp [eqK]
          simp [St.seg, o7, hsp, hm, hb, g1, g5, hlu]
          by_cases k3 : x.pt ∈ seen
          · rw [if_pos k3] at hgo
            rw [← hgo] at e0
            simp [k3, e0]
            exact S.was' (st0 := st) (by simp)
          · rw [if_neg k3] at hgo
            have hms := mset_enc keyed_pt (ev := V.bool) o5 x.pt true
            simp only [kPt] at hms
            simp [k3, St.seg, o7, hsp, g5, hms]
            have S := S.setAt (.mp (encM kPt V.bool (aSet x.pt true es))) 1 rfl
            simp at S
            simp [h36, w1]
            refine Round.mk (t.ins.length - (i + 1)) _ (by omega) (sub_self _) (hJ _ _ _ ⟨i + 1, x.pt :: seen, _, by omega, rfl, by simp, hgo, ?_, S.drop⟩)
            intro p
            rw [lk_aSet]
            by_cases hp : p = x.pt
            · simp [hp]
            · rw [if_neg hp, hes p]
              simp [hp]
        · rw [if_pos k2] at hgo
          rw [← hgo] at e0
          have hb : eqK .bool (.bool (decide (x.pt = makerP))) (.bool first) = some false := by
            show some (decide (x.pt = makerP) == first) = some false
            rw [beq_eq_false_iff_ne.2 k2]
          simp [St.seg, o7, hsp, hm, g1, hb, e0]
          exact S.was' (st0 := st) (by simp)
    · have : i = t.ins.length := by omega
      subst this
      rw [List.drop_length, insGo] at hgo
      simp [g35, h36]
      exact ⟨hgo.symm, S.drop⟩
  · rintro env' st3 hsame ⟨hno, S⟩
    have g2 := (hsame.get 2 rfl).trans (by simp : _ = V.ptr (some (i2, 0)))
    clear hsame
    rw [hno] at e0
    have o2 := S.get
    simp [g2, St.seg, o2, so]
    refine (spec250 ok st3 (rd_outs t st3) h2).mono ?_
    rintro v st3 ⟨rfl, rfl⟩
    cases hs : (sumM t.outs).2 with
    | true =>
      rw [hs] at e0
      simp [hs, e0]
      exact S.was' (st0 := st) (by simp)
    | false =>
      rw [hs] at e0
      simp [hs, e0]
      exact S.was' (st0 := st) (by simp)
end
end Go.Ab
set_option linter.unusedSimpArgs false
set_option linter.unusedVariables false
namespace Go.Ab
open Go Go.RowKit Go.ChangeShapes Go.WideShapes Go.Deep
def mkIn (r : Pt × List UInt8) : In1 := ⟨r.1.1, r.1.2, .any, r.2⟩
def mkTx (r : List (Pt × List UInt8) × List Out1) : Tx1 := ⟨.any, r.1.map mkIn, .any, r.2⟩
theorem rowsOf_map {α β : Type} (g : α → β) (f : β → List V) : ∀ l : List α, rowsOf (fun a => f (g a)) l = rowsOf f (l.map g)
  | [] => by simp
  | a :: l => by
    rw [rowsOf_cons, List.map_cons, rowsOf_cons, rowsOf_map g f l]
def txsOf (l : List Tx1) : V := .sl .any (rowsOf eTx l) l.length
section
variable {H : Type} {enc : TypeId × Value → H} {P : Program} {w : World} {base : Nat} {spare : Nat → Bool} {held : Bool}
theorem opens_flat {α : Type} (f : α → List V) {sz d : Nat} {t : TypeId} (hp : plainTy P d t = some sz) (hdec : ∀ vs, vs.length = sz → Shape P t vs → ∃ a, vs = f a) : Opens enc P w base spare held f sz t := by
  intro fuel cs x h
  obtain ⟨h1, h2, h3⟩ := trod_plain d t sz hp h
  obtain ⟨a, ha⟩ := hdec (cs.map ofCellV) (by simp [h1]) h3
  refine ⟨a, h1, fun j hj => ⟨?_, plainCell_one (h2 j hj)⟩⟩
  rw [← ha]
  have : (cs.map ofCellV).getD j .junk = ofCellV (cs.getD j undef) := by
    simp only [List.getD_eq_getElem?_getD, List.getElem?_map, List.getElem?_eq_getElem (show j < cs.length by omega), Option.map_some, Option.getD_some]
  rw [this]
  exact ofCellV_rel _ _
structure TxTy (P : Program) (t tis ti tp tk tos to ta tw tl tb : TypeId) : Prop where
  ftx : ∃ fs, P.underlying t = some (.struct fs) ∧ fldAt fs 0 = some (0, tis) ∧ fldAt fs 1 = some (1, tos)
  fin : ∃ fs, P.underlying ti = some (.struct fs) ∧ fldAt fs 0 = some (0, tp) ∧ fldAt fs 1 = some (33, tk)
  fpt : ∃ fs, P.underlying tp = some (.struct fs) ∧ fldAt fs 0 = some (0, ta) ∧ fldAt fs 1 = some (32, tw)
  fou : ∃ fs, P.underlying to = some (.struct fs) ∧ fldAt fs 0 = some (0, tl) ∧ fldAt fs 1 = some (1, ta)
  uis : P.underlying tis = some (.slice ti)
  uos : P.underlying tos = some (.slice to)
  uk : P.underlying tk = some (.slice tb)
  ua : P.underlying ta = some (.array 32 tb)
  ub : P.underlying tb = some (.int .u8)
  uw : P.underlying tw = some (.int .u32)
  ul : P.underlying tl = some (.int .i64)
  ct : P.cellsOf t = 2
  cis : P.cellsOf tis = 1
  cos : P.cellsOf tos = 1
  ci : P.cellsOf ti = 34
  cp : P.cellsOf tp = 33
  ck : P.cellsOf tk = 1
  co : P.cellsOf to = 33
  ca : P.cellsOf ta = 32
  cw : P.cellsOf tw = 1
  cl : P.cellsOf tl = 1
  cb : P.cellsOf tb = 1
  pp : plainTy P 8 tp = some 33
  po : plainTy P 8 to = some 33
variable {t tis ti tp tk tos to ta tw tl tb : TypeId} (T : TxTy P t tis ti tp tk tos to ta tw tl tb)
include T
theorem shape_pt {vs : List V} (hl : vs.length = 33) (h : Shape P tp vs) : ∃ p : Pt, vs = ePt p := by
  obtain ⟨fs, hu, e0, e1⟩ := T.fpt
  have s0 := shape_at hu h e0
  have s1 := shape_at hu h e1
  rw [T.ca] at s0
  rw [T.cw] at s1
  obtain ⟨p, h0⟩ := shape_id T.ua T.ub T.cb (by simp; omega) s0
  obtain ⟨x, h1⟩ := shape_u32 T.uw s1
  refine ⟨(p, x), ?_⟩
  have d1 : vs.drop 32 = [w32 x] := by rw [← h1, List.take_of_length_le (by simp; omega)]
  rw [cut1 vs 32, d1]
  rw [List.drop_zero] at h0
  rw [h0]
  rfl
theorem shape_out {vs : List V} (hl : vs.length = 33) (h : Shape P to vs) : ∃ o : Out1, vs = eOut o := by
  obtain ⟨fs, hu, e0, e1⟩ := T.fou
  have s0 := shape_at hu h e0
  have s1 := shape_at hu h e1
  rw [T.cl] at s0
  rw [T.ca] at s1
  obtain ⟨n, h0⟩ := shape_i64 T.ul s0
  obtain ⟨p, h1⟩ := shape_id T.ua T.ub T.cb (by simp; omega) s1
  refine ⟨⟨n, p⟩, ?_⟩
  have d1 : vs.drop 1 = eId p := by rw [← h1, List.take_of_length_le (by simp; omega)]
  rw [cut1 vs 1, d1]
  rw [List.drop_zero] at h0
  rw [h0]
  rfl
theorem opens_in (hsp : ∀ b, spare b = true) : Opens enc P w base spare held (fun r => eIn (mkIn r)) 34 ti := by
  intro fuel cs x h
  obtain ⟨fs, hu, e0, e1⟩ := T.fin
  obtain ⟨hl, hf⟩ := opens_fields hu h
  rw [T.ci] at hl
  unfold fldAt at e0 e1
  obtain ⟨f0, q0, k0⟩ := Option.map_eq_some_iff.1 e0
  obtain ⟨f1, q1, k1⟩ := Option.map_eq_some_iff.1 e1
  have a0 : f0.offset = 0 ∧ f0.type = tp := ⟨congrArg Prod.fst k0, congrArg Prod.snd k0⟩
  have a1 : f1.offset = 33 ∧ f1.type = tk := ⟨congrArg Prod.fst k1, congrArg Prod.snd k1⟩
  obtain ⟨p, hp⟩ := hf 0 f0 q0 ePt 33 (by rw [a0.2]; exact opens_flat ePt T.pp fun vs hl h => shape_pt T hl h) (by rw [a0.2]; exact T.cp)
  obtain ⟨k, hk⟩ := hf 1 f1 q1 (eSl e8) 1 (by rw [a1.2]; exact opens_slice e8 (sz := 1) (by omega) (fun _ => rfl) T.uk T.cb hsp (opens_byte T.ub)) (by rw [a1.2]; exact T.ck)
  rw [a0.1] at hp
  rw [a1.1] at hk
  refine ⟨(p, k), hl, fun j hj => ?_⟩
  have e : eIn (mkIn (p, k)) = ePt p ++ eSl e8 k := by
    have : keyV .any k = .sl .any (rowsOf e8 k) k.length := rfl
    simp [eIn, mkIn, ePt, eSl, this]
  show VRel (Gh.all w) ((eIn (mkIn (p, k))).getD j .junk) (cs.getD j undef) ∧ (cs.getD j undef).oneCell' = true
  rw [e]
  by_cases hj33 : j < 33
  · have := hp j hj33
    rw [Nat.zero_add] at this
    rw [List.getD_eq_getElem?_getD, List.getElem?_append_left (by rw [ePt_len]; exact hj33), ← List.getD_eq_getElem?_getD]
    exact this
  · obtain rfl : j = 33 := by omega
    have := hk 0 (by omega)
    rw [List.getD_eq_getElem?_getD, List.getElem?_append_right (by rw [ePt_len]; omega), ePt_len]
    exact this
theorem opens_tx (hsp : ∀ b, spare b = true) : Opens enc P w base spare held (fun r => eTx (mkTx r)) 2 t := by
  intro fuel cs x h
  obtain ⟨fs, hu, e0, e1⟩ := T.ftx
  obtain ⟨hl, hf⟩ := opens_fields hu h
  rw [T.ct] at hl
  unfold fldAt at e0 e1
  obtain ⟨f0, q0, k0⟩ := Option.map_eq_some_iff.1 e0
  obtain ⟨f1, q1, k1⟩ := Option.map_eq_some_iff.1 e1
  have a0 : f0.offset = 0 ∧ f0.type = tis := ⟨congrArg Prod.fst k0, congrArg Prod.snd k0⟩
  have a1 : f1.offset = 1 ∧ f1.type = tos := ⟨congrArg Prod.fst k1, congrArg Prod.snd k1⟩
  obtain ⟨p, hp⟩ := hf 0 f0 q0 (eSl fun r => eIn (mkIn r)) 1 (by rw [a0.2]; exact opens_slice _ (sz := 34) (by omega) (fun _ => eIn_len _) T.uis T.ci hsp (opens_in T hsp)) (by rw [a0.2]; exact T.cis)
  obtain ⟨k, hk⟩ := hf 1 f1 q1 (eSl eOut) 1 (by rw [a1.2]; exact opens_slice eOut (sz := 33) (by omega) eOut_len T.uos T.co hsp (opens_flat eOut T.po fun vs hl h => shape_out T hl h)) (by rw [a1.2]; exact T.cos)
  rw [a0.1] at hp
  rw [a1.1] at hk
  refine ⟨(p, k), hl, fun j hj => ?_⟩
  have e : eTx (mkTx (p, k)) = eSl (fun r => eIn (mkIn r)) p ++ eSl eOut k := by
    simp [eTx, mkTx, insV, outsV, eSl, rowsOf_map]
  show VRel (Gh.all w) ((eTx (mkTx (p, k))).getD j .junk) (cs.getD j undef) ∧ (cs.getD j undef).oneCell' = true
  rw [e]
  rcases Nat.lt_or_ge j 1 with h1 | h1
  · obtain rfl : j = 0 := by omega
    exact hp 0 (by omega)
  · obtain rfl : j = 1 := by omega
    exact hk 0 (by omega)
theorem open_txs (hsp : ∀ b, spare b = true) {ts : TypeId} (hs : P.underlying ts = some (.slice t)) {fuel : Nat} {ao : Option Addr} {len cap : Nat} {x : DataW H × List MemPlace} (h : DataW.trod enc P w base spare held fuel ts [.slice ao len cap] = some x) :
    ∃ l : List Tx1, l.length = len ∧ VRel (Gh.all w) (txsOf l) (.slice ao len cap) := by
  obtain ⟨l, hl, hr⟩ := open_rows2 (fun r => eTx (mkTx r)) (sz := 2) (by omega) (fun _ => rfl) hs T.ct hsp (opens_tx T hsp) h
  refine ⟨l.map mkTx, by simp [hl], ?_⟩
  unfold txsOf
  rw [List.length_map, ← rowsOf_map]
  exact hr
end
end Go.Ab
set_option linter.unusedSimpArgs false
set_option linter.unusedVariables false
set_option maxRecDepth 10000
namespace Go.Ab
open Go Go.RowKit
theorem tspl0 (t : Tx1) : spliceV [V.sl .nil [] 0, V.sl .nil [] 0] 0 (eTx t) = eTx t := rfl
theorem eqK_id (x : Id) : eqK (.agg 32) (.agg (eId x)) (.agg (eId x)) = some true := by simp [eqK, eId_len, eqL_id]
theorem binV_w32 (x : W32) : binV .eql (w32 x) (w32 x) = some (.bool true) := by
  show binV .eql (.int .u32 (x.toNat : Int)) (.int .u32 (x.toNat : Int)) = _
  simp [binV, binI]
theorem bsegHdr0 (b : Blk1) {o n : Nat} {cs : List V} (h : segOf (eHdr b.hdr) o n = some cs) : segOf (eBlk b) o n = some cs := by
  unfold segOf at h ⊢
  split at h
  · rename_i hle
    rw [eHdr_len] at hle
    rw [if_pos (by rw [eBlk_len]; omega)]
    cases h
    rw [eBlk, List.drop_append_of_le_length (by rw [eHdr_len]; omega), List.take_append_of_le_length (by rw [List.length_drop, eHdr_len]; omega)]
  · cases h
theorem firstM_tx (h : Nat) (m : UInt8) : txM (firstM 50 h m) true = 0 := by
  have e : insGo true [] (firstM 50 h m).ins = none := by
    show insGo true [] [⟨id0, 4294967295#32, .full, [UInt8.ofNat h, UInt8.ofNat (h / 256), m]⟩] = none
    simp [insGo, In1.pt, makerP]
  have e2 : (sumM (firstM 50 h m).outs).2 = true := by
    show (sumM [⟨50, sha [m]⟩]).2 = true
    simp [sumM, sumGo]
  rw [txM, if_neg (by simp [firstM]), e]
  simp [e2]
section
variable {P : Program} {F : Fn}
set_option maxHeartbeats 8000000 in
theorem spec248 (ok : OkLaw19g P F) (st : St) (prev : Hdr) (h : Int) (more : List Tx1) : ACalls P (F 248) [.agg (eHdr prev), .int .i64 h, txsOf more] st fun v st' => v = .bool true := by
  have okh := ok.toOkServes.toOkHonest
  have okt := okh.toOkTx
  refine shows_call ok.mixed ok.h248 (by simp [k248]) ?_
  simp only [k248]
  simp
  intro i3 h3
  have S := (Sep.start st).new h3 (.cells (eHdr prev))
  generalize st.upd i3 _ = st1 at S ⊢
  refine (spec246 ok.toOkServes st1).mono ?_
  rintro v st2 ⟨rfl, hsub⟩
  have S := S.sub hsub
  have hln : lenSlV (txsOf more) = some (.int .i64 more.length) := rfl
  simp [hln]
  by_cases c1 : 4 < more.length
  · have c1' : 4 < (more.length : Int) := by omega
    simp [c1', c1]
    exact ⟨_, sub_self _⟩
  have c1' : ¬ 4 < (more.length : Int) := by omega
  by_cases c2 : h < 0
  · simp [c1', c1, c2]
    exact ⟨_, sub_self _⟩
  by_cases c3 : 1000 < h
  · simp [c1', c1, c2, c3]
    exact ⟨_, sub_self _⟩
  obtain ⟨hn, rfl⟩ : ∃ n : Nat, h = n := ⟨h.toNat, by omega⟩
  simp [c1', c1, c2, c3, hln]
  refine vc_joinB (M := fun env' st' => (∀ t ∈ more, t.ok 4) ∧ Sep [pt i3 (.cells (eHdr prev)), Was st] st') ?_ ?_
  · refine vc_loopJ (fun c env' st' => ∃ i : Nat, i ≤ more.length ∧ c = more.length - i ∧ env' 32 = .int .i64 (i : Nat) ∧ (∀ t ∈ more.take i, t.ok 4) ∧ Sep [pt i3 (.cells (eHdr prev)), Was st] st') more.length
      ⟨0, by omega, by omega, by simp, by simp, S⟩ ?_
    rintro J hJ c env' st3 hsame ⟨i, hi, rfl, h32, hok, S⟩
    have g30 := (hsame.get 30 rfl).trans (by simp : _ = txsOf more)
    have g31 := (hsame.get 31 rfl).trans (by simp : _ = V.int .i64 (more.length : Int))
    clear hsame
    by_cases hlt : i < more.length
    · have rd : Rd 2 eTx (txsOf more) more st3 := .inl ⟨.any, rfl⟩
      obtain ⟨r1, r2, r3, r4⟩ := rd.row eTx_len hlt
      obtain ⟨t, ht⟩ : ∃ t, t = more[i] := ⟨_, rfl⟩
      rw [← ht] at r3
      have w1 : IntKind.i64.wrap ((i : Int) + 1) = (i : Int) + 1 := wrap64 (by omega) (by omega)
      simp [g30, g31, h32, hlt, r1, r3]
      intro i8 h8
      have S := S.new h8 (.cells [.sl .nil [] 0, .sl .nil [] 0])
      have hst := store_pt (sz := 2) (o := 0) S.get (v := .agg (eTx t)) (vs := eTx t) rfl rfl (by simp)
      rw [tspl0] at hst
      have S := S.set (.cells (eTx t))
      simp [hst] at S ⊢
      generalize st3.upd i8 (.cells (eTx t)) = st4 at S ⊢
      have o8 := S.get
      have li := insV_len t
      have lo := outsV_len t
      have si := tsegIns t
      have so := tsegOuts t
      by_cases k1 : 4 < t.ins.length
      · have k1' : 4 < (t.ins.length : Int) := by omega
        simp [St.seg, o8, si, so, li, lo, k1', k1]
        exact ⟨_, sub_self _⟩
      have k1' : ¬ 4 < (t.ins.length : Int) := by omega
      by_cases k2 : 4 < t.outs.length
      · have k2' : 4 < (t.outs.length : Int) := by omega
        simp [St.seg, o8, si, so, li, lo, k1', k1, k2', k2]
        exact ⟨_, sub_self _⟩
      have k2' : ¬ 4 < (t.outs.length : Int) := by omega
      simp [St.seg, o8, si, so, li, lo, k1', k1, k2', k2]
      refine vc_loopJ (fun c env' st' => ∃ j : Nat, j ≤ t.ins.length ∧ c = t.ins.length - j ∧ env' 49 = .int .i64 (j : Nat) ∧ (∀ x ∈ t.ins.take j, x.key.length ≤ 1000) ∧ Sep [pt i3 (.cells (eHdr prev)), Was st] st') t.ins.length
        ⟨0, by omega, by omega, by simp, by simp, S.drop⟩ ?_
      rintro J2 hJ2 c env2 st5 hsame ⟨j, hj, rfl, h49, hkey, S⟩
      have q32 := (hsame.get 32 rfl).trans (by simp [h32] : _ = V.int .i64 (i : Nat))
      have q47 := (hsame.get 47 rfl).trans (by simp : _ = insV t)
      have q48 := (hsame.get 48 rfl).trans (by simp : _ = V.int .i64 (t.ins.length : Int))
      clear hsame
      by_cases hjl : j < t.ins.length
      · obtain ⟨p1, p2, p3, p4⟩ := (rd_ins t st5).row eIn_len hjl
        obtain ⟨x, hx⟩ : ∃ x, x = t.ins[j] := ⟨_, rfl⟩
        rw [← hx] at p3
        have w2 : IntKind.i64.wrap ((j : Int) + 1) = (j : Int) + 1 := wrap64 (by omega) (by omega)
        simp [q47, q48, h49, hjl, p1, p3]
        intro i10 h10
        have S := S.new h10 (.cells z34_1838)
        have hst := store_pt (sz := 34) (o := 0) S.get (v := .agg (eIn x)) (vs := eIn x) rfl (eIn_len _) (by simp)
        rw [show spliceV z34_1838 0 (eIn x) = eIn x by simp [spliceV, eIn_len]] at hst
        have S := S.set (.cells (eIn x))
        simp [hst] at S ⊢
        generalize st5.upd i10 (.cells (eIn x)) = st6 at S ⊢
        have o10 := S.get
        have hsk := insegKey x
        have hlk : lenSlV (keyV x.kk x.key) = some (.int .i64 x.key.length) := rfl
        by_cases k3 : 200 < x.key.length
        · have k3' : 200 < (x.key.length : Int) := by omega
          simp [St.seg, o10, hsk, hlk, k3', k3]
          exact ⟨_, sub_self _⟩
        · have k3' : ¬ 200 < (x.key.length : Int) := by omega
          simp [St.seg, o10, hsk, hlk, k3', k3, h49, w2]
          refine Round.mk (t.ins.length - (j + 1)) _ (by omega) (sub_self _) (hJ2 _ _ _ ⟨j + 1, by omega, rfl, by simp, ?_, S.drop⟩)
          intro y hy
          rw [List.take_succ_eq_append_getElem hjl, ← hx] at hy
          rcases List.mem_append.1 hy with hy | hy
          · exact hkey y hy
          · rw [List.mem_singleton.1 hy]; omega
      · have : j = t.ins.length := by omega
        subst this
        rw [List.take_length] at hkey
        simp [q48, h49, q32, w1]
        refine Round.mk (more.length - (i + 1)) _ (by omega) (sub_self _) (hJ _ _ _ ⟨i + 1, by omega, rfl, by simp, ?_, S⟩)
        intro y hy
        rw [List.take_succ_eq_append_getElem hlt, ← ht] at hy
        rcases List.mem_append.1 hy with hy | hy
        · exact hok y hy
        · rw [List.mem_singleton.1 hy]
          exact ⟨by omega, by omega, hkey⟩
    · have : i = more.length := by omega
      subst this
      rw [List.take_length] at hok
      simp [g31, h32]
      exact ⟨hok, S⟩
  · rintro env' st3 hsame ⟨hok, S⟩
    have g1 := (hsame.get 1 rfl).trans (by simp : _ = V.int .i64 (hn : Int))
    have g2 := (hsame.get 2 rfl).trans (by simp : _ = txsOf more)
    have g3 := (hsame.get 3 rfl).trans (by simp : _ = V.ptr (some (i3, 0)))
    clear hsame
    obtain ⟨pv, hpv⟩ : ∃ pv : Hdr, pv = { prev with bits := 545259519#32 } := ⟨_, rfl⟩
    have hst := store_pt (sz := 1) (o := 66) S.get (v := w32 545259519#32) (vs := [w32 545259519#32]) rfl rfl (by rw [eHdr_len]; omega)
    rw [hspl_bits, ← hpv] at hst
    have S := S.set (.cells (eHdr pv))
    simp [g3, hst]
    generalize st3.upd i3 _ = st4 at S ⊢
    refine (spec190 okh st4 0).mono ?_
    rintro v st4 ⟨rfl, rfl⟩
    obtain ⟨r, hr⟩ : ∃ r, r = rulesM 0 := ⟨_, rfl⟩
    rw [← hr]
    simp
    intro i11 h11
    have S := S.new h11 (.cells z74_2f53)
    have hst := store_pt (sz := 74) (o := 0) S.get (v := .agg (eRl r)) (vs := eRl r) rfl (eRl_len r) (by simp)
    rw [show spliceV z74_2f53 0 (eRl r) = eRl r by simp [spliceV, eRl_len]] at hst
    have S := S.set (.cells (eRl r))
    simp [hst] at S ⊢
    generalize st4.upd i11 (.cells (eRl r)) = st5 at S ⊢
    have o11 := S.get
    have o3 := S.mem (i := i3) (o := .cells (eHdr pv)) (by simp)
    have hsa : segOf (eRl r) 0 74 = some (eRl r) := by simp [segOf, eRl_len, List.take_of_length_le]
    simp [St.seg, o11, o3, hsa, hsegAll, g1, g2, g3]
    have hml : more.length ≤ 900 := by omega
    have hok100 : ∀ t ∈ more, t.ok 100 := fun t ht => ⟨by have := (hok t ht).1; omega, by have := (hok t ht).2.1; omega, (hok t ht).2.2⟩
    refine (spec189 okh st5 r pv hn (by omega) 4 .any more hml hok100).mono ?_
    rintro v st5 ⟨rfl, rfl⟩
    obtain ⟨b, hb⟩ : ∃ b, b = growB r pv hn 4 more := ⟨_, rfl⟩
    rw [← hb]
    simp
    intro i12 h12
    have S := S.new h12 (.cells z69_adc1)
    have hst := store_pt (sz := 69) (o := 0) S.get (v := .agg (eBlk b)) (vs := eBlk b) rfl (eBlk_len b) (by simp)
    rw [show spliceV z69_adc1 0 (eBlk b) = eBlk b by simp [spliceV, eBlk_len]] at hst
    have S := S.set (.cells (eBlk b))
    simp [hst] at S ⊢
    generalize st5.upd i12 (.cells (eBlk b)) = st6 at S ⊢
    cases hg : (growR r pv hn 4 more).2 with
    | false =>
      simp [hg]
      exact ⟨_, sub_self _⟩
    | true =>
      obtain ⟨x, hm⟩ : ∃ x, mineN (preM r pv (firstM r.subsidy hn 4 :: more)) r.limit 4096 = some x := by
        unfold growR at hg
        cases e : mineN (preM r pv (firstM r.subsidy hn 4 :: more)) r.limit 4096 with
        | none => rw [e] at hg; cases hg
        | some x => exact ⟨x, rfl⟩
      have hbx : b = ⟨x, moreK more, firstM r.subsidy hn 4 :: more⟩ := by rw [hb, growB, growR, hm]
      obtain ⟨m1, m2, m3, m4, m5, m6⟩ := mineN_some hm
      have hsub50 : r.subsidy = 50 := by rw [hr]; rfl
      have hlim : r.limit = 545259519#32 := by rw [hr]; rfl
      obtain ⟨T, hT⟩ : ∃ T, T = firstM 50 hn 4 := ⟨_, rfl⟩
      rw [hsub50, ← hT] at hbx m2 m3 m4 m5
      have bh : b.hdr = x := by rw [hbx]
      have bt : b.txs = T :: more := by rw [hbx]
      have hTok : T.ok 100 := by rw [hT]; exact firstM_ok _ _ _
      have hLok : ∀ t ∈ T :: more, t.ok 100 := fun t ht => by
        rcases List.mem_cons.1 ht with rfl | ht
        · exact hTok
        · exact hok100 t ht
      have m2 : x.prev = hId pv := m2
      have m4 : x.time = pv.time + 10#32 := by rw [m4, hr]; rfl
      have m5 : x.bits = pv.bits := m5
      obtain ⟨rt, hrt⟩ : ∃ rt, rt = (rootM (rowsIds (T :: more))).1 := ⟨_, rfl⟩
      have m3 : x.root = rt := by rw [m3, hrt]; rfl
      have sPrev : segOf (eBlk b) 1 32 = some (eId (hId pv)) := by rw [← m2, ← bh]; exact bsegHdr0 b (hsegPrev _)
      have sTime : segOf (eBlk b) 65 1 = some [w32 (pv.time + 10#32)] := by rw [← m4, ← bh]; exact bsegHdr0 b (hsegTime _)
      have sBits : segOf (eBlk b) 66 1 = some [w32 pv.bits] := by rw [← m5, ← bh]; exact bsegHdr0 b (hsegBits _)
      have sRoot : segOf (eBlk b) 33 32 = some (eId rt) := by rw [← m3, ← bh]; exact bsegHdr0 b (hsegRoot _)
      have sAll : segOf (eBlk b) 0 68 = some (eHdr x) := by rw [← bh]; exact bsegH b
      obtain ⟨tv, htv⟩ : ∃ tv, tv = txsV b.tk b.txs := ⟨_, rfl⟩
      have sTxs := bsegT b
      rw [← htv] at sTxs
      have rdt : ∀ st, Rd 2 eTx tv (T :: more) st := fun st => .inl ⟨b.tk, by rw [htv, bt]; rfl⟩
      have o12 := S.get
      simp [hg, St.seg, o12, sTxs]
      refine (spec192 okt st6 (rdt st6) (by simp; omega) hLok).mono ?_
      rintro v st6 ⟨rfl, rfl⟩
      rw [← hrt]
      simp
      intro i14 h14
      have S := S.new h14 (.cells zR32_w80)
      have hst := store_z32 S.get rt
      have S := S.set (.cells (eId rt))
      simp [hst] at S ⊢
      generalize st6.upd i14 (.cells (eId rt)) = st7 at S ⊢
      have o11 := S.mem (i := i11) (o := .cells (eRl r)) (by simp)
      simp [St.seg, o11, hsa, g1]
      refine (spec191 okh st7 r hn (by omega) 4).mono ?_
      rintro v st7 ⟨rfl, rfl⟩
      rw [hsub50, ← hT]
      simp
      intro i16 h16
      have S := S.new h16 (.cells [.sl .nil [] 0, .sl .nil [] 0])
      have hst := store_pt (sz := 2) (o := 0) S.get (v := .agg (eTx T)) (vs := eTx T) rfl rfl (by simp)
      rw [tspl0] at hst
      have S := S.set (.cells (eTx T))
      simp [hst] at S ⊢
      generalize st7.upd i16 (.cells (eTx T)) = st8 at S ⊢
      have o16 := S.get
      have o14 := S.mem (i := i14) (o := .cells (eId rt)) (by simp)
      have o12 := S.mem (i := i12) (o := .cells (eBlk b)) (by simp)
      have o11 := S.mem (i := i11) (o := .cells (eRl r)) (by simp)
      have o3 := S.mem (i := i3) (o := .cells (eHdr pv)) (by simp)
      have hid := eqK_id (hId pv)
      simp [g2, g3, St.seg, o3, o12, sPrev, hsegAll]
      refine ⟨_, spec141 okt.toOkHead st8 pv, ?_⟩
      have hidr := eqK_id rt
      have hsr := segId0 rt
      have b1 := binV_w32 (pv.time + 10#32)
      have b2 := binV_w32 pv.bits
      simp [hid, g3, St.seg, o3, o12, o14, o11, sTime, sBits, sRoot, sAll, hsegTime, hsegBits, hidr, hsr, b1, b2, rsegLimit]
      refine ⟨_, spec142 okt.toOkHead st8 x r.limit, ?_⟩
      have hlt := (rdt st8).len
      have w1 : IntKind.i64.wrap ((more.length : Int) + 1) = (more.length : Int) + 1 := wrap64 (by omega) (by omega)
      obtain ⟨p1, p2, p3, p4⟩ := (rdt st8).row eTx_len (i := 0) (by simp)
      rw [show (((0 : Nat) : Int)) = 0 from rfl] at p1
      have p3 : ldCells st8 2 (rowP 2 tv 0) = some (eTx T) := p3
      have hln2 : lenSlV (txsOf more) = some (.int .i64 more.length) := rfl
      simp [m6, g2, St.seg, o12, sTxs, hlt, hln2, w1, p1, p3]
      refine ⟨_, spec198 okt st8 T hTok, ?_⟩
      simp [St.seg, o16, tsegAll]
      refine ⟨_, spec198 okt st8 T hTok, ?_⟩
      have hidT := eqK_id (txIdM T)
      have hTl : T.outs.length = 1 := by rw [hT]; rfl
      obtain ⟨q1, q2, q3, q4⟩ := (rd_outs T st8).row eOut_len (i := 0) (by omega)
      rw [show (((0 : Nat) : Int)) = 0 from rfl] at q1
      have hamt : T.outs[0].amt = 50 := by subst hT; rfl
      have q5 := (q4 0 1 (by omega)).2
      rw [fldP_zero q2] at q5
      have q6 : ((eOut T.outs[0]).drop 0).take 1 = [.int .i64 50] := by rw [← hamt]; rfl
      rw [q6] at q5
      have sOut := tsegOuts T
      simp [hidT, St.seg, o16, sOut, q1, q2, q5, tsegAll]
      have hTtx : txM T true = 0 := by rw [hT]; exact firstM_tx _ _
      refine ⟨_, spec249 ok.toOkCheck st8 T true (by have := hTok.1; omega) (by have := hTok.2.1; omega) (fun x hx => by have := hTok.2.2 x hx; omega), ?_⟩
      simp [hTtx]
      exact ⟨_, sub_self _⟩
end
end Go.Ab
