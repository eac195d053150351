import Derived.Test.YtgodabkifdmfcaaH8
import Derived.Test.YtgodabkifdmfcaaH9
import Derived.Test.YtgodabkifdmfcaaH7
import Derived.Test.YtgodabkifdmfcaaH6
import Derived.Test.YtgodabkifdmfcaaH4
import Derived.Test.YtgodabkifdmfcaaH5
import Derived.Test.YtgodabkifdmfcaaH3
import Derived.Deep.Slices
import Derived.OpenShut
set_option linter.unusedSimpArgs false
set_option linter.unusedVariables false
namespace Go.Ab
set_option maxRecDepth 100000 in
theorem lpart_24 : lpart 8 17 (fun _ _ _ => lP16) lP24 [lA24, lA23, lA22, lA21, lA20, lA19, lA18, lA17] = true := by decide +kernel
end Go.Ab
set_option linter.unusedSimpArgs false
set_option linter.unusedVariables false
namespace Go.Ab
set_option maxRecDepth 100000 in
theorem lpart_32 : lpart 8 25 (fun _ _ _ => lP24) lP32 [lA32, lA31, lA30, lA29, lA28, lA27, lA26, lA25] = true := by decide +kernel
end Go.Ab
set_option linter.unusedSimpArgs false
set_option linter.unusedVariables false
namespace Go.Ab
set_option maxRecDepth 100000 in
theorem lpart_40 : lpart 8 33 (fun _ _ _ => lP32) lP40 [lA40, lA39, lA38, lA37, lA36, lA35, lA34, lA33] = true := by decide +kernel
end Go.Ab
set_option linter.unusedSimpArgs false
set_option linter.unusedVariables false
namespace Go.Ab
set_option maxRecDepth 100000 in
theorem luniq_all : luniqN maskL oneL ([lA40, lA39, lA38, lA37, lA36, lA35, lA34, lA33, lA32, lA31, lA30, lA29, lA28, lA27, lA26, lA25, lA24, lA23, lA22, lA21, lA20, lA19, lA18, lA17, lA16, lA15, lA14, lA13, lA12, lA11, lA10, lA9, lA8, lA7, lA6, lA5, lA4, lA3, lA2, lA1] ++ [(lgen maskL oneL (lIV oneL)).a, 0]) = true := by decide +kernel
end Go.Ab
set_option linter.unusedSimpArgs false
set_option linter.unusedVariables false
namespace Go.Ab
theorem markL_nat : QL markL fun i => (UInt8.ofNat i).toNat := fun i hi => by
  have := packL_ln 256 0 (by omega) i hi
  rw [Nat.zero_add] at this
  refine this.trans ?_
  simp
  omega
def UpW (m : UInt8) : Nat → V8 → List V8 → Prop
  | _, _, [] => True
  | h, p, v :: l => Fnd (fun k => hdrW (BitVec.ofNat 32 1) (BitVec.ofNat 32 (10 * h)) (BitVec.ofNat 32 0x207fffff) (BitVec.ofNat 32 k) p (txW (UInt8.ofNat h) (UInt8.ofNat (h / 256)) m)) 40 v ∧ UpW m (h + 1) v l
inductive RSs : List LS → List (Nat → V8) → Prop
  | nil : RSs [] []
  | cons {s : LS} {v : Nat → V8} {r : List LS} {w : List (Nat → V8)} (h : RS s v) (t : RSs r w) : RSs (s :: r) (v :: w)
theorem lchain_succ (M O : Nat) (iv L : LS) (n h : Nat) (P : LS) (out : List LS) : lchain M O iv L (n + 1) h P out =
    Option.rec (motive := fun _ => Option (List LS)) none (fun R => lchain M O iv L n (h + 1) R (R :: out)) (lmine M O iv (lmid M O iv 16777216 P (ltx M O iv markL L h)) (ltx M O iv markL L h).h (bswN (10 * h)) (bswN 0x207fffff) 40 0 0 lzero) := by
  have e : lchain M O iv L (n + 1) h P out = lbind (ltx M O iv markL L h) fun T => lbind (lmid M O iv 16777216 P T) fun mid =>
      Option.rec (motive := fun _ => Option (List LS)) none (fun R => frc (h + 1) fun h' => lchain M O iv L n h' R (R :: out)) (lmine M O iv mid T.h (bswN (10 * h)) (bswN 0x207fffff) 40 0 0 lzero) := rfl
  refine e.trans ?_
  clear e
  rw [lbind_eq, lbind_eq]
  cases lmine M O iv (lmid M O iv 16777216 P (ltx M O iv markL L h)) (ltx M O iv markL L h).h (bswN (10 * h)) (bswN 0x207fffff) 40 0 0 lzero with
  | none => rfl
  | some R => exact frc_eq (h + 1) fun h' => lchain M O iv L n h' R (R :: out)
theorem lchain_ok {L : LS} (hL : RS L fun i => lockW (UInt8.ofNat i)) : ∀ (n h : Nat) (P : LS) (p : Nat → V8) (out R : List LS), h + n ≤ 256 → RS P p → lchain maskL oneL (lIV oneL) L n h P out = some R →
    ∃ (new : List LS) (fs : List (Nat → V8)), R = new ++ out ∧ fs.length = n ∧ RSs new fs ∧ ∀ i, i < 256 → UpW (UInt8.ofNat i) h (p i) ((fs.map fun f => f i).reverse) := by
  intro n
  induction n with
  | zero =>
    intro h P p out R hh hP e
    have e0 : lchain maskL oneL (lIV oneL) L 0 h P out = some out := rfl
    rw [e0] at e
    exact ⟨[], [], (Option.some.inj e).symm, rfl, .nil, fun i _ => trivial⟩
  | succ n ih =>
    intro h P p out R hh hP e
    rw [lchain_succ] at e
    have hT := ltx_ok (h := h) markL_nat hL (by omega)
    have hf : ∀ k, RS (lhdr maskL oneL (lIV oneL) (lmid maskL oneL (lIV oneL) 16777216 P (ltx maskL oneL (lIV oneL) markL L h)) (ltx maskL oneL (lIV oneL) markL L h).h (bswN (10 * h)) (bswN 0x207fffff) (bswN k))
        fun i => (fun i k => hdrW (BitVec.ofNat 32 1) (BitVec.ofNat 32 (10 * h)) (BitVec.ofNat 32 0x207fffff) (BitVec.ofNat 32 k) (p i) (txW (UInt8.ofNat h) (UInt8.ofNat (h / 256)) (UInt8.ofNat i))) i k := fun k => by
      have e1 : bswN 1 = 16777216 := rfl
      rw [← e1]
      exact lhdrW_ok (ver := 1) hP hT
    cases hm : lmine maskL oneL (lIV oneL) (lmid maskL oneL (lIV oneL) 16777216 P (ltx maskL oneL (lIV oneL) markL L h)) (ltx maskL oneL (lIV oneL) markL L h).h (bswN (10 * h)) (bswN 0x207fffff) 40 0 0 lzero with
    | none => rw [hm] at e; cases e
    | some X =>
      rw [hm] at e
      have z : RL 0 fun _ => (0 : BitVec 32) := .zero
      have hz : RS lzero fun _ => v80 := ⟨z, z, z, z, z, z, z, z⟩
      have hd : FQ 0 fun _ => false := fun i hi => by simp [ln]
      obtain ⟨x, hx, hF⟩ := lmine_ok hf 40 0 0 lzero X (fun _ => false) (fun _ => v80) hd hz (fun i _ h => by cases h) (fun i _ _ => ⟨rfl, fun j hj => by omega⟩) hm
      obtain ⟨new, fs, h1, h2, h3, h4⟩ := ih (h + 1) X x (X :: out) R (by omega) hx e
      refine ⟨new ++ [X], fs ++ [x], by rw [h1]; simp, by simp [h2], ?_, fun i hi => ?_⟩
      · clear h1 h2 h4 e
        induction h3 with
        | nil => exact .cons hx .nil
        | cons h t ih => exact .cons h ih
      · rw [List.map_append, List.map_singleton, List.reverse_append, List.reverse_singleton, List.singleton_append]
        exact ⟨hF i hi, h4 i hi⟩
def genW : V8 := hdrW (BitVec.ofNat 32 0) (BitVec.ofNat 32 0) (BitVec.ofNat 32 0x207fffff) (BitVec.ofNat 32 0) v80 (txW (UInt8.ofNat 0) (UInt8.ofNat (0 / 256)) 0)
theorem lgen_ok : RS (lgen maskL oneL (lIV oneL)) fun _ => genW := by
  have hm : QL 0 fun _ => (0 : UInt8).toNat := fun i hi => by simp [ln]
  have hT := ltx_ok (h := 0) hm (llock_ok hm) (by omega)
  have z : RL 0 fun _ => (0 : BitVec 32) := .zero
  have hz : RS lzero fun _ => v80 := ⟨z, z, z, z, z, z, z, z⟩
  have := lhdrW_ok (ver := 0) (time := 0) (bits := 0x207fffff) (nonce := 0) hz hT
  rw [lgen]
  simp only [lbind_eq]
  exact this
theorem lallN_ok {f : Nat → Bool} : ∀ {l : List Nat}, lallN f l = true → ∀ x ∈ l, f x = true
  | [], _, x, hx => by cases hx
  | a :: l, h, x, hx => by
    have e : lallN f (a :: l) = cond (f a) (lallN f l) false := rfl
    rw [e] at h
    cases ha : f a with
    | false => rw [ha] at h; cases h
    | true =>
      rw [ha] at h
      rcases List.mem_cons.1 hx with rfl | hx
      · exact ha
      · exact lallN_ok h x hx
theorem RW.of_mem : ∀ {l : List Nat} {fs : List (Nat → BitVec 32)}, RW l fs → ∀ f ∈ fs, ∃ x ∈ l, RL x f
  | _, _, .nil, f, hf => by cases hf
  | _, _, .cons h t, f, hf => by
    rcases List.mem_cons.1 hf with rfl | hf
    · exact ⟨_, List.mem_cons_self, h⟩
    · obtain ⟨x, hx, hr⟩ := t.of_mem f hf
      exact ⟨x, List.mem_cons_of_mem _ hx, hr⟩
theorem luniqN_ok : ∀ {l : List Nat} {fs : List (Nat → BitVec 32)}, RW l fs → luniqN maskL oneL l = true → ∀ i, i < 256 → (fs.map fun f => f i).Pairwise (· ≠ ·)
  | _, _, .nil, _, i, hi => .nil
  | _, _, .cons (X := s) (x := v) (r := r) (w := w) h t, e, i, hi => by
    have e1 : luniqN maskL oneL (s :: r) = cond (lallN (fun b => lunlike maskL oneL s b) r) (luniqN maskL oneL r) false := rfl
    rw [e1] at e
    cases ha : lallN (fun b => lunlike maskL oneL s b) r with
    | false => rw [ha] at e; cases e
    | true =>
      rw [ha] at e
      rw [List.map_cons, List.pairwise_cons]
      refine ⟨fun a hm => ?_, luniqN_ok t e i hi⟩
      obtain ⟨f, hf, rfl⟩ := List.mem_map.1 hm
      obtain ⟨x, hx, hr⟩ := t.of_mem f hf
      exact lunlike_ok h hr (lallN_ok ha x hx) i hi
theorem cond_both {a b : Bool} (h : cond a b false = true) : a = true ∧ b = true := by
  cases a with
  | false => cases h
  | true => exact ⟨rfl, h⟩
theorem lbeq_ok {s t : LS} (h : lbeq s t = true) : s = t := by
  have e : lbeq s t = cond (Nat.beq s.a t.a) (cond (Nat.beq s.b t.b) (cond (Nat.beq s.c t.c) (cond (Nat.beq s.d t.d) (cond (Nat.beq s.e t.e) (cond (Nat.beq s.f t.f) (cond (Nat.beq s.g t.g) (Nat.beq s.h t.h) false) false) false) false) false) false) false := rfl
  rw [e] at h
  obtain ⟨h1, h⟩ := cond_both h
  obtain ⟨h2, h⟩ := cond_both h
  obtain ⟨h3, h⟩ := cond_both h
  obtain ⟨h4, h⟩ := cond_both h
  obtain ⟨h5, h⟩ := cond_both h
  obtain ⟨h6, h⟩ := cond_both h
  obtain ⟨h7, h8⟩ := cond_both h
  cases s
  cases t
  simp only [LS.mk.injEq]
  exact ⟨Nat.eq_of_beq_eq_true h1, Nat.eq_of_beq_eq_true h2, Nat.eq_of_beq_eq_true h3, Nat.eq_of_beq_eq_true h4, Nat.eq_of_beq_eq_true h5, Nat.eq_of_beq_eq_true h6, Nat.eq_of_beq_eq_true h7, Nat.eq_of_beq_eq_true h8⟩
theorem lfirst_ok : ∀ {l : List LS} {as : List Nat}, lfirst l as = true → l.map (·.a) = as
  | [], [], _ => rfl
  | [], _ :: _, h => by cases h
  | _ :: _, [], h => by cases h
  | s :: l, a :: as, h => by
    have e : lfirst (s :: l) (a :: as) = cond (Nat.beq s.a a) (lfirst l as) false := rfl
    rw [e] at h
    obtain ⟨h1, h2⟩ := cond_both h
    rw [List.map_cons, lfirst_ok h2, Nat.eq_of_beq_eq_true h1]
theorem lsame_ok {l : List LS} {Q : LS} {as : List Nat} (h : lsame l Q as = true) : l.head? = some Q ∧ l.map (·.a) = as := by
  obtain ⟨h1, h2⟩ := cond_both h
  refine ⟨?_, lfirst_ok h2⟩
  cases l with
  | nil => cases h1
  | cons s l =>
    have e : lbeq s Q = true := h1
    rw [lbeq_ok e]
    rfl
theorem RSs.first : ∀ {l : List LS} {fs : List (Nat → V8)}, RSs l fs → RW (l.map (·.a)) (fs.map fun f i => (f i).a)
  | _, _, .nil => .nil
  | _, _, .cons h t => .cons h.a t.first
theorem lpart_eq (n h : Nat) (pf : Nat → Nat → LS → LS) (Q : LS) (as : List Nat) : lpart n h pf Q as =
    Option.rec (motive := fun _ => Bool) false (fun l => lsame l Q as) (lchain maskL oneL (lIV oneL) (llock maskL oneL (lIV oneL) markL) n h (pf maskL oneL (lIV oneL)) []) := by
  have e : lpart n h pf Q as = frc oneL fun O => frc (4294967295 * O) fun M => lbind (lIV O) fun iv => lbind (llock M O iv markL) fun L => lbind (pf M O iv) fun P =>
    Option.rec (motive := fun _ => Bool) false (fun l => lsame l Q as) (lchain M O iv L n h P []) := rfl
  rw [e]
  simp only [lbind_eq, frc_eq]
  rfl
theorem lpart_ok {n h : Nat} {pf : Nat → Nat → LS → LS} {Q : LS} {as : List Nat} {p : Nat → V8} (hh : h + n ≤ 256) (hp : RS (pf maskL oneL (lIV oneL)) p) (e : lpart n h pf Q as = true) :
    ∃ (q : Nat → V8) (fs : List (Nat → V8)), (q :: fs).length = n ∧ RS Q q ∧ RW as ((q :: fs).map fun f i => (f i).a) ∧ ∀ i, i < 256 → UpW (UInt8.ofNat i) h (p i) (((q :: fs).map fun f => f i).reverse) := by
  rw [lpart_eq] at e
  cases hc : lchain maskL oneL (lIV oneL) (llock maskL oneL (lIV oneL) markL) n h (pf maskL oneL (lIV oneL)) [] with
  | none => rw [hc] at e; cases e
  | some R =>
    rw [hc] at e
    obtain ⟨h1, h2⟩ := lsame_ok e
    obtain ⟨new, fs, k1, k2, k3, k4⟩ := lchain_ok (llock_ok markL_nat) n h _ p _ R hh hp hc
    rw [List.append_nil] at k1
    subst k1
    cases k3 with
    | nil => cases h1
    | cons hs ht =>
      rw [List.head?_cons] at h1
      cases h1
      refine ⟨_, _, k2, hs, ?_, k4⟩
      rw [← h2]
      exact RSs.first (.cons hs ht)
theorem UpW.app {m : UInt8} : ∀ {h : Nat} {p : V8} {l1 l2 : List V8}, UpW m h p l1 → UpW m (h + l1.length) (l1.getLastD p) l2 → UpW m h p (l1 ++ l2)
  | h, p, [], l2, _, h2 => h2
  | h, p, v :: l1, l2, h1, h2 => ⟨h1.1, UpW.app h1.2 (by
    rw [List.length_cons, List.getLastD_cons] at h2
    rw [show h + 1 + l1.length = h + (l1.length + 1) by omega]
    exact h2)⟩
theorem last_rev (q : Nat → V8) (fs : List (Nat → V8)) (i : Nat) (p : V8) : (((q :: fs).map fun f => f i).reverse).getLastD p = q i := by
  rw [List.map_cons, List.reverse_cons]
  simp [List.getLastD_eq_getLast?]
theorem UpW.part {m : UInt8} {h i : Nat} {p : V8} {q : Nat → V8} {fs : List (Nat → V8)} {l2 : List V8} {n : Nat} (hn : (q :: fs).length = n) (h1 : UpW m h p (((q :: fs).map fun f => f i).reverse)) (h2 : UpW m (h + n) (q i) l2) : UpW m h p ((((q :: fs).map fun f => f i).reverse) ++ l2) := by
  refine UpW.app h1 ?_
  rw [last_rev]
  have : (((q :: fs).map fun f => f i).reverse).length = n := by rw [List.length_reverse, List.length_map, hn]
  rw [this]
  exact h2
theorem names_all (m : UInt8) : ∃ l : List V8, l.length = 40 ∧ UpW m 1 genW l ∧ (0 :: genW.a :: l.map (·.a)).Pairwise (· ≠ ·) := by
  obtain ⟨q1, f1, a1, a2, a3, a4⟩ := lpart_ok (by omega) lgen_ok lpart_8
  obtain ⟨q2, f2, b1, b2, b3, b4⟩ := lpart_ok (by omega) a2 lpart_16
  obtain ⟨q3, f3, c1, c2, c3, c4⟩ := lpart_ok (by omega) b2 lpart_24
  obtain ⟨q4, f4, d1, d2, d3, d4⟩ := lpart_ok (by omega) c2 lpart_32
  obtain ⟨q5, f5, e1, e2, e3, e4⟩ := lpart_ok (by omega) d2 lpart_40
  have hi := m.toNat_lt
  have hm : UInt8.ofNat m.toNat = m := by simp
  have z : RL 0 fun _ => (0 : BitVec 32) := .zero
  have hw : RW _ _ := (((((e3.app d3).app c3).app b3).app a3).app (.cons lgen_ok.a (.cons z .nil)))
  have hp := luniqN_ok hw luniq_all m.toNat hi
  have u := UpW.part a1 (a4 m.toNat hi) (UpW.part b1 (b4 m.toNat hi) (UpW.part c1 (c4 m.toNat hi) (UpW.part d1 (d4 m.toNat hi) (e4 m.toNat hi))))
  rw [hm] at u
  refine ⟨_, ?_, u, ?_⟩
  · simp only [List.length_append, List.length_reverse, List.length_map]
    omega
  · have h9 := List.pairwise_reverse.2 (List.Pairwise.imp (S := fun a b => b ≠ a) (fun h => Ne.symm h) hp)
    have e9 : ∀ (l1 l2 l3 l4 l5 : List (Nat → V8)) (i : Nat), (((((((l5.map fun (f : Nat → V8) (i : Nat) => (f i).a) ++ l4.map fun (f : Nat → V8) (i : Nat) => (f i).a) ++ l3.map fun (f : Nat → V8) (i : Nat) => (f i).a) ++ l2.map fun (f : Nat → V8) (i : Nat) => (f i).a) ++ l1.map fun (f : Nat → V8) (i : Nat) => (f i).a) ++ [fun _ => genW.a, fun _ => 0]).map fun (f : Nat → BitVec 32) => f i).reverse =
        0 :: genW.a :: (((l1.map fun (f : Nat → V8) => f i).reverse ++ ((l2.map fun (f : Nat → V8) => f i).reverse ++ ((l3.map fun (f : Nat → V8) => f i).reverse ++ ((l4.map fun (f : Nat → V8) => f i).reverse ++ (l5.map fun (f : Nat → V8) => f i).reverse)))).map (·.a)) := fun l1 l2 l3 l4 l5 i => by
      simp [Function.comp_def]
    rw [e9] at h9
    exact h9
end Go.Ab
set_option linter.unusedSimpArgs false
set_option linter.unusedVariables false
namespace Go.Ab
theorem leN_app : ∀ l r : List UInt8, leN (l ++ r) = leN l + 256 ^ l.length * leN r
  | [], r => by simp [leN]
  | b :: l, r => by
    rw [List.cons_append, leN, leN_app l r, leN, List.length_cons, Nat.pow_succ]
    have : 256 ^ l.length * 256 * leN r = 256 * (256 ^ l.length * leN r) := by rw [Nat.mul_comm (256 ^ l.length) 256, Nat.mul_assoc]
    omega
theorem leN_out4 (x : BitVec 32) : leN (out4 x) = x.toNat / 16777216 + 256 * (x.toNat / 65536 % 256 + 256 * (x.toNat / 256 % 256 + 256 * (x.toNat % 256))) := by
  have hx := x.isLt
  simp [out4, leN, BitVec.toNat_setWidth, Nat.shiftRight_eq_div_pow]
  omega
theorem outV_split (v : V8) : outV v = (out4 v.a ++ [v.b, v.c, v.d, v.e, v.f, v.g].flatMap out4) ++ out4 v.h := by simp [outV, V8.list]
def easyN : Nat := 8388607 * 2 ^ 232
theorem easy_tgt : tgt 545259519#32 = some easyN := by decide +kernel
theorem lin4 {n a1 a2 a3 B C D : Nat} (h1 : n = 256 * a1 + D) (h2 : a1 = 256 * a2 + C) (h3 : a2 = 256 * a3 + B) : n = 16777216 * a3 + 65536 * B + 256 * C + D := by omega
theorem lin3 {n a1 B C D : Nat} (h1 : n = 256 * a1 + D) (h2 : a1 = 256 * B + C) : n = 65536 * B + 256 * C + D := by omega
theorem bytes4 {n : Nat} (h : n < 4294967296) : ∃ A B C D : Nat, A < 256 ∧ B < 256 ∧ C < 256 ∧ D < 256 ∧ n = 16777216 * A + 65536 * B + 256 * C + D ∧ n / 16777216 = A ∧ n / 65536 % 256 = B ∧ n / 256 % 256 = C ∧ n % 256 = D ∧ n % 16777216 = 65536 * B + 256 * C + D := by
  refine ⟨n / 16777216, n / 65536 % 256, n / 256 % 256, n % 256, by omega, Nat.mod_lt _ (by decide), Nat.mod_lt _ (by decide), Nat.mod_lt _ (by decide), ?_, rfl, rfl, rfl, rfl, ?_⟩
  · have h1 : n = 256 * (n / 256) + n % 256 := by omega
    have h2 : n / 256 = 256 * (n / 65536) + n / 256 % 256 := by omega
    have h3 : n / 65536 = 256 * (n / 16777216) + n / 65536 % 256 := by omega
    exact lin4 h1 h2 h3
  · have h1 : n % 16777216 = 256 * (n % 16777216 / 256) + n % 256 := by omega
    have h2 : n % 16777216 / 256 = 256 * (n / 65536 % 256) + n / 256 % 256 := by omega
    exact lin3 h1 h2
theorem low_len (v : V8) : (out4 v.a ++ [v.b, v.c, v.d, v.e, v.f, v.g].flatMap out4).length = 28 := by simp [out4]
theorem idN_split (v : V8) : ∃ L, idN (idV v) = L + 2 ^ 224 * leN (out4 v.h) ∧ L < 2 ^ 224 ∧ (v.a.toNat ≠ 0 → L ≠ 0) := by
  have e : (idV v).toList = outV v := rfl
  have e2 : (256 : Nat) ^ 28 = 2 ^ 224 := by rw [show (256 : Nat) = 2 ^ 8 from rfl, ← Nat.pow_mul]
  refine ⟨leN (out4 v.a ++ [v.b, v.c, v.d, v.e, v.f, v.g].flatMap out4), ?_, ?_, ?_⟩
  · rw [idN, e, outV_split, leN_app, low_len, e2]
  · have := leN_lt (out4 v.a ++ [v.b, v.c, v.d, v.e, v.f, v.g].flatMap out4)
    rwa [low_len, e2] at this
  · intro ha hL
    rw [leN_app, leN_out4] at hL
    obtain ⟨A, B, C, D, -, -, -, -, h1, h2, h3, h4, h5, -⟩ := bytes4 v.a.isLt
    rw [h2, h3, h4, h5] at hL
    have := (Nat.add_eq_zero_iff.1 hL).1
    omega
theorem bit7 (n : Nat) : n.testBit 7 = decide (128 ≤ n % 256) := by
  rw [Nat.testBit_eq_decide_div_mod_eq]
  apply decide_eq_decide.2
  omega
theorem provedN_easy {h : Hdr} (hb : h.bits = 545259519#32) : provedN h 545259519#32 = if easyN < idN (hId h) then 50 else 0 := by
  rw [provedN, hb, easy_tgt]
  simp
theorem sums {L q A B C D : Nat} (hL : L < q) (hB : B < 256) (hA : A < 256) (hC : C < 256) (hD : D < 256) :
    ((65536 * B + 256 * C + D ≠ 16777087 ∧ D < 128) → ¬ 8388607 * (256 * q) < L + q * (A + 256 * (B + 256 * (C + 256 * D)))) ∧
    ((128 ≤ D ∨ (65536 * B + 256 * C + D = 16777087 ∧ L ≠ 0)) → 8388607 * (256 * q) < L + q * (A + 256 * (B + 256 * (C + 256 * D)))) := by
  have h5 : q * (8388607 * 256) = 8388607 * (256 * q) := by rw [Nat.mul_comm, Nat.mul_assoc]
  refine ⟨fun ⟨h1, h2⟩ => ?_, fun h => ?_⟩
  · have h3 : A + 256 * (B + 256 * (C + 256 * D)) + 1 ≤ 8388607 * 256 := by omega
    have h4 := Nat.mul_le_mul_left q h3
    rw [Nat.mul_add, Nat.mul_one] at h4
    omega
  · rcases h with h | ⟨h, hl⟩
    · have h3 : 8388607 * 256 + 1 ≤ A + 256 * (B + 256 * (C + 256 * D)) := by omega
      have h4 := Nat.mul_le_mul_left q h3
      rw [Nat.mul_add, Nat.mul_one] at h4
      omega
    · have h3 : 8388607 * 256 ≤ A + 256 * (B + 256 * (C + 256 * D)) := by omega
      have h4 := Nat.mul_le_mul_left q h3
      omega
theorem easyN_eq : easyN = 8388607 * (256 * 2 ^ 224) := by
  rw [easyN, show (256 : Nat) * 2 ^ 224 = 2 ^ 8 * 2 ^ 224 from rfl, ← Nat.pow_add]
theorem acc_ok {h : Hdr} {v : V8} (hid : hId h = idV v) (hb : h.bits = 545259519#32) (ha : AccW v) : provedN h 545259519#32 = 0 := by
  rw [provedN_easy hb, hid]
  obtain ⟨L, e, hL, _⟩ := idN_split v
  obtain ⟨h1, h2⟩ := ha
  rw [bit7] at h2
  have h1 := of_decide_eq_true h1
  have h2 := of_decide_eq_false h2
  obtain ⟨A, B, C, D, hA, hB, hC, hD, k1, k2, k3, k4, k5, k6⟩ := bytes4 v.h.isLt
  rw [k6] at h1
  rw [k5] at h2
  rw [if_neg]
  rw [e, leN_out4, easyN_eq, k2, k3, k4, k5]
  exact (sums hL hB hA hC hD).1 ⟨h1, by omega⟩
theorem rej_ok {h : Hdr} {v : V8} (hid : hId h = idV v) (hb : h.bits = 545259519#32) (hr : RejW v) : provedN h 545259519#32 ≠ 0 := by
  rw [provedN_easy hb, hid]
  obtain ⟨L, e, hL, hL0⟩ := idN_split v
  obtain ⟨hs, hn⟩ := hr
  unfold AccW at hn
  rw [bit7] at hn
  have hc : 128 ≤ v.h.toNat % 256 ∨ (v.h.toNat % 16777216 = 16777087 ∧ L ≠ 0) := by
    by_cases hz : v.h.toNat % 16777216 = 16777087
    · right
      refine ⟨hz, hL0 ?_⟩
      rcases hs with hs | hs
      · exact hs
      · exact absurd hz (of_decide_eq_true hs)
    · left
      apply Classical.byContradiction
      intro hlt
      exact hn ⟨decide_eq_true hz, decide_eq_false hlt⟩
  obtain ⟨A, B, C, D, hA, hB, hC, hD, k1, k2, k3, k4, k5, k6⟩ := bytes4 v.h.isLt
  rw [k6, k5] at hc
  rw [if_pos]
  · decide
  rw [e, leN_out4, easyN_eq, k2, k3, k4, k5]
  exact (sums hL hB hA hC hD).2 hc
theorem mine_go {h : Hdr} {f : Nat → V8} (hb : h.bits = 545259519#32) (hf : ∀ k, hId { h with nonce := BitVec.ofNat 32 k } = idV (f k)) {k : Nat} (ha : AccW (f k)) : ∀ (d j m : Nat), k = j + d → d < m → (∀ i, j ≤ i → i < k → RejW (f i)) →
    mineN { h with nonce := BitVec.ofNat 32 j } 545259519#32 m = some { h with nonce := BitVec.ofNat 32 k }
  | 0, j, m, hk, hm, hr => by
    obtain ⟨m, rfl⟩ : ∃ m', m = m' + 1 := ⟨m - 1, by omega⟩
    have : k = j := by omega
    subst this
    rw [mineN, if_pos (acc_ok (hf k) hb ha)]
  | d + 1, j, m, hk, hm, hr => by
    obtain ⟨m, rfl⟩ : ∃ m', m = m' + 1 := ⟨m - 1, by omega⟩
    rw [mineN, if_neg (rej_ok (hf j) hb (hr j (by omega) (by omega)))]
    have e : (BitVec.ofNat 32 j + 1 : BitVec 32) = BitVec.ofNat 32 (j + 1) := by
      rw [BitVec.ofNat_add]
      rfl
    have := mine_go hb hf ha d (j + 1) m (by omega) (by omega) fun i hi hik => hr i (by omega) hik
    rw [← this, ← e]
theorem mine_fnd {h : Hdr} {f : Nat → V8} (hb : h.bits = 545259519#32) (h0 : h.nonce = 0) (hf : ∀ k, hId { h with nonce := BitVec.ofNat 32 k } = idV (f k)) {v : V8} (hF : Fnd f 40 v) :
    ∃ x, mineN h 545259519#32 4096 = some x ∧ hId x = idV v ∧ x.time = h.time ∧ x.bits = h.bits := by
  obtain ⟨k, hk, rfl, ha, hr⟩ := hF
  have := mine_go hb hf ha k 0 4096 (by omega) (by omega) fun i _ hi => hr i hi
  have e : ({ h with nonce := BitVec.ofNat 32 0 } : Hdr) = h := by
    cases h
    simp only at h0
    subst h0
    rfl
  rw [e] at this
  exact ⟨_, this, hf k, rfl, rfl⟩
theorem upW_take {m : UInt8} : ∀ {h : Nat} {p : V8} {l : List V8} (n : Nat), UpW m h p l → UpW m h p (l.take n)
  | _, _, _, 0, _ => by rw [List.take_zero]; trivial
  | _, _, [], n + 1, _ => trivial
  | _, _, v :: l, n + 1, hu => ⟨hu.1, upW_take n hu.2⟩
theorem lastH_app (l : List Blk1) (b : Blk1) : lastH (l ++ [b]) = b.hdr := by simp [lastH]
theorem chainGo_ok {r : Rl} (hl : r.limit = 545259519#32) (hs : r.spacing = 10) (hsub : r.subsidy = 50) {m : UInt8} : ∀ (vs : List V8) (h : Nat) (p : V8) (out : List Blk1), UpW m h p vs → hId (lastH out) = idV p → (lastH out).time = BitVec.ofNat 32 (10 * (h - 1)) → 1 ≤ h → (lastH out).bits = 545259519#32 →
    ∃ bs : List Blk1, chainGo r m vs.length h out = out ++ bs ∧ bs.map (fun b => hId b.hdr) = vs.map idV
  | [], h, p, out, _, _, _, _, _ => ⟨[], by rw [List.append_nil]; rfl, rfl⟩
  | v :: vs, h, p, out, hu, hp, ht, h1, hb => by
    obtain ⟨hF, hu⟩ := hu
    have hpre : preM r (lastH out) [firstM r.subsidy h m] = ⟨1, idV p, idV (txW (UInt8.ofNat h) (UInt8.ofNat (h / 256)) m), BitVec.ofNat 32 (10 * h), 545259519#32, 0⟩ := by
      have et : BitVec.ofNat 32 (10 * (h - 1)) + BitVec.ofInt 32 10 = BitVec.ofNat 32 (10 * h) := by
        have e10 : BitVec.ofInt 32 10 = BitVec.ofNat 32 10 := rfl
        rw [e10, ← BitVec.ofNat_add]
        congr 1
        omega
      rw [preM, hp, ht, hb, hs, hsub, et]
      have : (rootM (rowsIds [firstM 50 h m])).1 = txIdM (firstM 50 h m) := rfl
      rw [this, txId_W]
    obtain ⟨x, e1, e2, e3, e4⟩ := mine_fnd (h := preM r (lastH out) [firstM r.subsidy h m]) (f := fun k => hdrW (BitVec.ofNat 32 1) (BitVec.ofNat 32 (10 * h)) (BitVec.ofNat 32 0x207fffff) (BitVec.ofNat 32 k) p (txW (UInt8.ofNat h) (UInt8.ofNat (h / 256)) m))
      (by rw [hpre]) (by rw [hpre]) (fun k => by rw [hpre]; exact hId_W _ _ _ _ _ _) hF
    have hg : growR r (lastH out) h m [] = (x, true) := by
      rw [growR, hl, e1]
    have hgb : (growB r (lastH out) h m []).hdr = x := by rw [growB, hg]
    rw [List.length_cons, chainGo, if_pos (by rw [hg])]
    obtain ⟨bs, q1, q2⟩ := chainGo_ok hl hs hsub vs (h + 1) v (out ++ [growB r (lastH out) h m []]) hu (by rw [lastH_app, hgb]; exact e2) (by rw [lastH_app, hgb, e3, hpre]; rfl) (by omega) (by rw [lastH_app, hgb, e4, hpre])
    refine ⟨growB r (lastH out) h m [] :: bs, by rw [q1]; simp, ?_⟩
    rw [List.map_cons, q2, hgb, e2, List.map_cons]
theorem idV_a {v w : V8} (h : idV v = idV w) : v.a = w.a := by
  have e : outV v = outV w := congrArg Vector.toList h
  have h1 := words_outV v []
  rw [e, words_outV] at h1
  simp only [V8.list, List.cons_append, List.cons.injEq] at h1
  exact h1.1.symm
theorem id0_V : id0 = idV v80 := by decide +kernel
def genB : Blk1 := ⟨genM, .full, [firstM 50 0 0]⟩
theorem gen_W : hId genM = idV genW := by
  have e : genM = ⟨BitVec.ofNat 32 0, idV v80, idV (txW (UInt8.ofNat 0) (UInt8.ofNat (0 / 256)) 0), BitVec.ofNat 32 0, BitVec.ofNat 32 0x207fffff, BitVec.ofNat 32 0⟩ := by
    rw [genM, txId_W, ← id0_V]
    rfl
  rw [e, hId_W]
  rfl
theorem chain_names (work : Int) (m : UInt8) (n : Nat) (hn : n ≤ 40) : ((chainM (rulesM work) genB (n : Int) m).map fun b => hId b.hdr).length = n + 1 ∧
    (id0 :: (chainM (rulesM work) genB (n : Int) m).map fun b => hId b.hdr).Pairwise (· ≠ ·) := by
  obtain ⟨l, h1, h2, h3⟩ := names_all m
  have hl : (l.take n).length = n := by rw [List.length_take]; omega
  obtain ⟨bs, q1, q2⟩ := chainGo_ok (r := rulesM work) rfl rfl rfl (l.take n) 1 genW [genB] (upW_take n h2) gen_W rfl (by omega) rfl
  rw [hl] at q1
  have e : chainM (rulesM work) genB (n : Int) m = genB :: bs := by
    rw [chainM, Int.toNat_natCast, q1]; rfl
  have em : (chainM (rulesM work) genB (n : Int) m).map (fun b => hId b.hdr) = idV genW :: (l.take n).map idV := by
    have hg : hId genB.hdr = idV genW := gen_W
    rw [e, List.map_cons, q2, hg]
  rw [em]
  refine ⟨by rw [List.length_cons, List.length_map, hl], ?_⟩
  rw [id0_V]
  have h4 : (0 :: genW.a :: (l.take n).map (·.a)).Pairwise (· ≠ ·) := by
    refine h3.sublist ?_
    rw [List.map_take]
    exact ((List.take_sublist n _).cons_cons _).cons_cons _
  have h5 : (idV v80 :: idV genW :: (l.take n).map idV) = (v80 :: genW :: l.take n).map idV := rfl
  rw [h5, List.pairwise_map]
  have h6 : (0 :: genW.a :: (l.take n).map (·.a)) = (v80 :: genW :: l.take n).map (·.a) := rfl
  rw [h6, List.pairwise_map] at h4
  exact h4.imp fun h e => h (idV_a e)
end Go.Ab
set_option linter.unusedVariables false
namespace Go.Ab
open Go
def k246 (F : Fn) : PF := PF.mk 88 0 [(.t 0)] (.seq (.ops [(PO.mk (some 0) (.mv (.k (.bool false))) none)]) (.seq (.ops [(PO.mk (some 5) (.call (F 190) [(.k (.int .i64 2))]) none), (PO.mk (some 6) (.call (F 188) [(.t 5), (.k (.int .i64 2)), (.k (w8 7))]) none), (PO.mk (some 1) (.mv (.t 6)) none)]) (.seq (.ops [(PO.mk (some 7) (.mv (.t 1)) none), (PO.mk (some 8) (.call (F 193) [(.k (w64 9)), (.t 7)]) none), (PO.mk (some 2) (.mv (.t 8)) none)]) (.seq (.seq (.ops [(PO.mk (some 9) (.mv (.t 2)) none), (PO.mk (some 10) (.eqa .ptr false (.t 9) (.k (.ptr none))) none), (PO.mk (some 11) (.mv (.t 10)) none), (PO.mk (some 12) (.mv (.t 1)) (some (11, false))), (PO.mk (some 13) (.lenSl (.t 12)) (some (11, false))), (PO.mk (some 14) (.bin .neq (.t 13) (.k (.int .i64 3))) (some (11, false))), (PO.mk (some 15) (.pick (.t 11) (.k (.bool true)) (.t 14)) none), (PO.mk (some 16) (.mv (.t 15)) none), (PO.mk (some 17) (.mv (.t 2)) (some (16, false))), (PO.mk (some 18) (.call (F 196) [(.t 17)]) (some (16, false))), (PO.mk (some 19) (.bin .neq (.t 18) (.k (.int .i64 3))) (some (16, false))), (PO.mk (some 20) (.pick (.t 16) (.k (.bool true)) (.t 19)) none)]) (.cond (.t 20) (.seq (.ops [(PO.mk (some 0) (.mv (.k (.bool false))) none)]) .ret) .skip)) (.seq (.ops [(PO.mk (some 21) (.mv (.t 2)) none), (PO.mk (some 22) (.build z106_9145 [(0, (1, (.k (.int .i64 1))))]) none), (PO.mk (some 23) (.call (F 194) [(.t 21), (.t 22)]) none), (PO.mk (some 3) (.mv (.t 23)) none)]) (.seq (.ops [(PO.mk (some 24) (.mv (.t 2)) none), (PO.mk (some 25) (.mv (.t 1)) none), (PO.mk (some 26) (.idxSl 69 (.t 25) (.k (.int .i64 0))) none), (PO.mk (some 27) (.fldA 0 (.t 26)) none), (PO.mk (some 28) (.load true 68 (.t 27)) none), (PO.mk (some 29) (.call (F 141) [(.t 28)]) none), (PO.mk (some 30) (.bsl false 32 1 zR32_w80 [(0, (32, (.t 29)))]) none), (PO.mk (some 31) (.build z106_9145 [(0, (1, (.k (.int .i64 3)))), (3, (1, (.t 30)))]) none), (PO.mk (some 32) (.call (F 194) [(.t 24), (.t 31)]) none), (PO.mk (some 4) (.mv (.t 32)) none)]) (.seq (.draw [(.e, (PO.mk (some 33) (.mv (.t 3)) none)), (.e, (PO.mk (some 34) (.lenSl (.t 33)) none)), (.e, (PO.mk (some 35) (.bin .eql (.t 34) (.k (.int .i64 2))) none)), (.e, (PO.mk (some 36) (.mv (.t 35)) none)), (.e, (PO.mk (some 37) (.mv (.t 3)) (some (36, true)))), (.e, (PO.mk (some 38) (.idxSl 106 (.t 37) (.k (.int .i64 0))) (some (36, true)))), (.e, (PO.mk (some 39) (.fldA 1 (.t 38)) (some (36, true)))), (.s, (PO.mk (some 40) (.load false 1 (.t 39)) (some (36, true)))), (.e, (PO.mk (some 41) (.bin .eql (.t 40) (.k (w64 9))) (some (36, true)))), (.e, (PO.mk (some 42) (.pick (.t 36) (.t 41) (.k (.bool false))) none)), (.e, (PO.mk (some 43) (.mv (.t 42)) none)), (.e, (PO.mk (some 44) (.mv (.t 3)) (some (43, true)))), (.e, (PO.mk (some 45) (.idxSl 106 (.t 44) (.k (.int .i64 0))) (some (43, true)))), (.e, (PO.mk (some 46) (.fldA 2 (.t 45)) (some (43, true)))), (.s, (PO.mk (some 47) (.load false 1 (.t 46)) (some (43, true)))), (.e, (PO.mk (some 48) (.bin .eql (.t 47) (.k (w32 2))) (some (43, true)))), (.e, (PO.mk (some 49) (.pick (.t 43) (.t 48) (.k (.bool false))) none)), (.e, (PO.mk (some 50) (.mv (.t 49)) none)), (.e, (PO.mk (some 51) (.mv (.t 3)) (some (50, true)))), (.e, (PO.mk (some 52) (.idxSl 106 (.t 51) (.k (.int .i64 1))) (some (50, true)))), (.e, (PO.mk (some 53) (.fldA 0 (.t 52)) (some (50, true)))), (.s, (PO.mk (some 54) (.load false 1 (.t 53)) (some (50, true)))), (.e, (PO.mk (some 55) (.bin .eql (.t 54) (.k (.int .i64 2))) (some (50, true)))), (.e, (PO.mk (some 56) (.pick (.t 50) (.t 55) (.k (.bool false))) none)), (.e, (PO.mk (some 57) (.mv (.t 56)) none)), (.e, (PO.mk (some 58) (.mv (.t 4)) (some (57, true)))), (.e, (PO.mk (some 59) (.lenSl (.t 58)) (some (57, true)))), (.e, (PO.mk (some 60) (.bin .eql (.t 59) (.k (.int .i64 1))) (some (57, true)))), (.e, (PO.mk (some 61) (.pick (.t 57) (.t 60) (.k (.bool false))) none)), (.e, (PO.mk (some 62) (.mv (.t 61)) none)), (.e, (PO.mk (some 63) (.mv (.t 4)) (some (62, true)))), (.e, (PO.mk (some 64) (.idxSl 106 (.t 63) (.k (.int .i64 0))) (some (62, true)))), (.e, (PO.mk (some 65) (.fldA 36 (.t 64)) (some (62, true)))), (.s, (PO.mk (some 66) (.load false 1 (.t 65)) (some (62, true)))), (.e, (PO.mk (some 67) (.lenSl (.t 66)) (some (62, true)))), (.e, (PO.mk (some 68) (.bin .eql (.t 67) (.k (.int .i64 2))) (some (62, true)))), (.e, (PO.mk (some 69) (.pick (.t 62) (.t 68) (.k (.bool false))) none)), (.e, (PO.mk (some 70) (.mv (.t 69)) none)), (.e, (PO.mk (some 71) (.mv (.t 4)) (some (70, true)))), (.e, (PO.mk (some 72) (.idxSl 106 (.t 71) (.k (.int .i64 0))) (some (70, true)))), (.e, (PO.mk (some 73) (.fldA 36 (.t 72)) (some (70, true)))), (.e, (PO.mk (some 77) (.mv (.t 1)) (some (70, true)))), (.e, (PO.mk (some 78) (.idxSl 69 (.t 77) (.k (.int .i64 2))) (some (70, true)))), (.e, (PO.mk (some 79) (.fldA 0 (.t 78)) (some (70, true)))), (.s, (PO.mk (some 74) (.load false 1 (.t 73)) (some (70, true)))), (.e, (PO.mk (some 75) (.idxSl 68 (.t 74) (.k (.int .i64 1))) (some (70, true)))), (.s, (PO.mk (some 76) (.load true 68 (.t 75)) (some (70, true)))), (.s, (PO.mk (some 80) (.load true 68 (.t 79)) (some (70, true)))), (.e, (PO.mk (some 81) (.eqa (.agg 68) false (.t 76) (.t 80)) (some (70, true)))), (.e, (PO.mk (some 82) (.pick (.t 70) (.t 81) (.k (.bool false))) none)), (.e, (PO.mk (some 83) (.mv (.t 82)) none)), (.x, (PO.mk (some 84) (.call (F 190) [(.k (.int .i64 2))]) (some (83, true)))), (.e, (PO.mk (some 85) (.fld false 4 1 (.t 84)) (some (83, true)))), (.e, (PO.mk (some 86) (.bin .eql (.t 85) (.k (.int .i64 2))) (some (83, true)))), (.e, (PO.mk (some 87) (.pick (.t 83) (.t 86) (.k (.bool false))) none)), (.e, (PO.mk (some 0) (.mv (.t 87)) none))]) .ret)))))))
def k247 (F : Fn) : PF := PF.mk 136 2 [(.t 4)] (.seq (.ops [(PO.mk (some 4) (.mv (.k (.bool false))) none)]) (.seq (.seq (.ops [(PO.mk (some 17) (.call (F 246) []) none), (PO.mk (some 18) (.not (.t 17)) none)]) (.cond (.t 18) (.seq (.ops [(PO.mk (some 4) (.mv (.k (.bool false))) none)]) .ret) .skip)) (.seq (.seq (.ops [(PO.mk (some 19) (.mv (.t 0)) none), (PO.mk (some 20) (.bin .lss (.t 19) (.k (.int .i64 0))) none), (PO.mk (some 21) (.mv (.t 20)) none), (PO.mk (some 22) (.mv (.t 0)) (some (21, false))), (PO.mk (some 23) (.bin .gtr (.t 22) (.k (.int .i64 40))) (some (21, false))), (PO.mk (some 24) (.pick (.t 21) (.k (.bool true)) (.t 23)) none)]) (.cond (.t 24) (.seq (.ops [(PO.mk (some 4) (.mv (.k (.bool true))) none)]) .ret) .skip)) (.seq (.ops [(PO.mk (some 25) (.call (F 190) [(.k (.int .i64 0))]) none), (PO.mk (some 26) (.mv (.t 0)) none), (PO.mk (some 27) (.mv (.t 1)) none), (PO.mk (some 28) (.call (F 188) [(.t 25), (.t 26), (.t 27)]) none), (PO.mk (some 5) (.mv (.t 28)) none)]) (.seq (.ops [(PO.mk (some 29) (.mv (.t 5)) none), (PO.mk (some 30) (.call (F 193) [(.k (w64 1)), (.t 29)]) none), (PO.mk (some 6) (.mv (.t 30)) none)]) (.seq (.ops [(PO.mk (some 31) (.mv (.t 5)) none), (PO.mk (some 32) (.idxSl 69 (.t 31) (.k (.int .i64 0))) none), (PO.mk (some 33) (.fldA 0 (.t 32)) none), (PO.mk (some 34) (.load true 68 (.t 33)) none), (PO.mk (some 35) (.call (F 141) [(.t 34)]) none), (PO.mk (some 7) (.alloc zR32_w80) none), (PO.mk none (.store 32 (.t 7) (.t 35)) none)]) (.seq (.ops [(PO.mk (some 8) (.mv (.k (.sl .nil [] 0))) none)]) (.seq (.seq (.ops [(PO.mk (some 36) (.mv (.k (.int .i64 0))) none)]) (.block 0 (.loop (.seq (.ops [(PO.mk (some 37) (.bin .lss (.t 36) (.k (.int .i64 10))) none)]) (.seq (.cond (.t 37) .skip (.exit 0)) (.seq (.block 1 (.seq (.ops [(PO.mk (some 38) (.mv (.t 6)) none), (PO.mk (some 39) (.load true 32 (.t 7)) none), (PO.mk (some 40) (.bsl false 32 1 zR32_w80 [(0, (32, (.t 39)))]) none), (PO.mk (some 41) (.build z106_9145 [(0, (1, (.k (.int .i64 3)))), (3, (1, (.t 40)))]) none), (PO.mk (some 42) (.call (F 194) [(.t 38), (.t 41)]) none), (PO.mk (some 9) (.mv (.t 42)) none)]) (.seq (.seq (.ops [(PO.mk (some 43) (.mv (.t 9)) none), (PO.mk (some 44) (.lenSl (.t 43)) none), (PO.mk (some 45) (.bin .neq (.t 44) (.k (.int .i64 1))) none)]) (.cond (.t 45) (.seq (.ops [(PO.mk (some 4) (.mv (.k (.bool false))) none)]) .ret) .skip)) (.seq (.ops [(PO.mk (some 46) (.mv (.t 8)) none), (PO.mk (some 47) (.mv (.t 9)) none), (PO.mk (some 48) (.idxSl 106 (.t 47) (.k (.int .i64 0))) none), (PO.mk (some 49) (.fldA 36 (.t 48)) none), (PO.mk (some 50) (.load false 1 (.t 49)) none), (PO.mk (some 51) (.app 68 80 (.t 46) (.t 50)) none), (PO.mk (some 8) (.mv (.t 51)) none)]) (.seq (.ops [(PO.mk (some 52) (.mv (.t 8)) none), (PO.mk (some 53) (.lenSl (.t 52)) none), (PO.mk (some 54) (.bin .gtr (.t 53) (.k (.int .i64 0))) none)]) (.cond (.t 54) (.ops [(PO.mk (some 55) (.mv (.t 8)) none), (PO.mk (some 56) (.mv (.t 8)) none), (PO.mk (some 57) (.lenSl (.t 56)) none), (PO.mk (some 58) (.bin .sub (.t 57) (.k (.int .i64 1))) none), (PO.mk (some 59) (.idxSl 68 (.t 55) (.t 58)) none), (PO.mk (some 60) (.load true 68 (.t 59)) none), (PO.mk (some 61) (.call (F 141) [(.t 60)]) none), (PO.mk none (.store 32 (.t 7) (.t 61)) none)]) .skip)))))) (.ops [(PO.mk (some 62) (.bin .add (.t 36) (.k (.int .i64 1))) none), (PO.mk (some 36) (.mv (.t 62)) none)]))))))) (.seq (.seq (.ops [(PO.mk (some 63) (.mv (.t 8)) none), (PO.mk (some 64) (.lenSl (.t 63)) none), (PO.mk (some 65) (.mv (.t 5)) none), (PO.mk (some 66) (.lenSl (.t 65)) none), (PO.mk (some 67) (.bin .sub (.t 66) (.k (.int .i64 1))) none), (PO.mk (some 68) (.bin .neq (.t 64) (.t 67)) none)]) (.cond (.t 68) (.seq (.seq (.ops [(PO.mk (some 69) (.mv (.t 5)) none), (PO.mk (some 70) (.lenSl (.t 69)) none), (PO.mk (some 71) (.mv (.k (.int .i64 0))) none)]) (.block 2 (.loop (.seq (.ops [(PO.mk (some 72) (.bin .lss (.t 71) (.t 70)) none)]) (.seq (.cond (.t 72) .skip (.exit 2)) (.seq (.block 3 (.seq (.ops [(PO.mk (some 73) (.mv (.t 71)) none), (PO.mk (some 74) (.idxSl 69 (.t 69) (.t 71)) none), (PO.mk (some 75) (.load true 69 (.t 74)) none), (PO.mk (some 11) (.alloc z69_adc1) none), (PO.mk (some 10) (.mv (.t 73)) none), (PO.mk none (.store 69 (.t 11) (.t 75)) none)]) (.seq (.ops [(PO.mk (some 76) (.mv (.t 5)) none), (PO.mk (some 77) (.mv (.t 10)) none), (PO.mk (some 78) (.sl 69 (.t 76) none (some (.t 77)) none) none), (PO.mk (some 79) (.lenSl (.t 78)) none), (PO.mk (some 80) (.mv (.k (.int .i64 0))) none)]) (.block 4 (.loop (.seq (.ops [(PO.mk (some 81) (.bin .lss (.t 80) (.t 79)) none)]) (.seq (.cond (.t 81) .skip (.exit 4)) (.seq (.block 5 (.seq (.ops [(PO.mk (some 82) (.idxSl 69 (.t 78) (.t 80)) none), (PO.mk (some 83) (.load true 69 (.t 82)) none), (PO.mk (some 13) (.alloc z69_adc1) none), (PO.mk none (.store 69 (.t 13) (.t 83)) none)]) (.seq (.draw [(.e, (PO.mk (some 84) (.fldA 0 (.t 11)) none)), (.e, (PO.mk (some 87) (.fldA 0 (.t 13)) none)), (.s, (PO.mk (some 85) (.load true 68 (.t 84)) none)), (.s, (PO.mk (some 86) (.call (F 141) [(.t 85)]) none)), (.s, (PO.mk (some 88) (.load true 68 (.t 87)) none)), (.s, (PO.mk (some 89) (.call (F 141) [(.t 88)]) none)), (.e, (PO.mk (some 90) (.eqa (.agg 32) false (.t 86) (.t 89)) none))]) (.cond (.t 90) (.seq (.ops [(PO.mk (some 4) (.mv (.k (.bool true))) none)]) .ret) .skip)))) (.ops [(PO.mk (some 91) (.bin .add (.t 80) (.k (.int .i64 1))) none), (PO.mk (some 80) (.mv (.t 91)) none)]))))))))) (.ops [(PO.mk (some 92) (.bin .add (.t 71) (.k (.int .i64 1))) none), (PO.mk (some 71) (.mv (.t 92)) none)]))))))) (.seq (.ops [(PO.mk (some 4) (.mv (.k (.bool false))) none)]) .ret)) .skip)) (.seq (.seq (.ops [(PO.mk (some 93) (.mv (.t 8)) none), (PO.mk (some 94) (.lenSl (.t 93)) none), (PO.mk (some 95) (.mv (.k (.int .i64 0))) none)]) (.block 6 (.loop (.seq (.ops [(PO.mk (some 96) (.bin .lss (.t 95) (.t 94)) none)]) (.seq (.cond (.t 96) .skip (.exit 6)) (.seq (.block 7 (.seq (.ops [(PO.mk (some 97) (.mv (.t 95)) none), (PO.mk (some 98) (.idxSl 68 (.t 93) (.t 95)) none), (PO.mk (some 99) (.load true 68 (.t 98)) none), (PO.mk (some 15) (.alloc z68_39b1) none), (PO.mk (some 14) (.mv (.t 97)) none), (PO.mk none (.store 68 (.t 15) (.t 99)) none)]) (.seq (.ops [(PO.mk (some 100) (.mv (.t 6)) none), (PO.mk (some 101) (.load true 68 (.t 15)) none), (PO.mk (some 102) (.call (F 141) [(.t 101)]) none), (PO.mk (some 103) (.bsl false 32 1 zR32_w80 [(0, (32, (.t 102)))]) none), (PO.mk (some 104) (.build z106_9145 [(0, (1, (.k (.int .i64 6)))), (3, (1, (.t 103)))]) none), (PO.mk (some 105) (.call (F 194) [(.t 100), (.t 104)]) none), (PO.mk (some 16) (.mv (.t 105)) none)]) (.seq (.draw [(.e, (PO.mk (some 107) (.mv (.t 5)) none)), (.e, (PO.mk (some 108) (.mv (.t 14)) none)), (.e, (PO.mk (some 109) (.bin .add (.t 108) (.k (.int .i64 1))) none)), (.e, (PO.mk (some 110) (.idxSl 69 (.t 107) (.t 109)) none)), (.e, (PO.mk (some 111) (.fldA 0 (.t 110)) none)), (.s, (PO.mk (some 106) (.load true 68 (.t 15)) none)), (.s, (PO.mk (some 112) (.load true 68 (.t 111)) none)), (.e, (PO.mk (some 113) (.eqa (.agg 68) true (.t 106) (.t 112)) none)), (.e, (PO.mk (some 114) (.mv (.t 113)) none)), (.e, (PO.mk (some 115) (.mv (.t 16)) (some (114, false)))), (.e, (PO.mk (some 116) (.lenSl (.t 115)) (some (114, false)))), (.e, (PO.mk (some 117) (.bin .neq (.t 116) (.k (.int .i64 1))) (some (114, false)))), (.e, (PO.mk (some 118) (.pick (.t 114) (.k (.bool true)) (.t 117)) none)), (.e, (PO.mk (some 119) (.mv (.t 118)) none)), (.e, (PO.mk (some 120) (.mv (.t 16)) (some (119, false)))), (.e, (PO.mk (some 121) (.idxSl 106 (.t 120) (.k (.int .i64 0))) (some (119, false)))), (.e, (PO.mk (some 122) (.fldA 0 (.t 121)) (some (119, false)))), (.s, (PO.mk (some 123) (.load false 1 (.t 122)) (some (119, false)))), (.e, (PO.mk (some 124) (.bin .neq (.t 123) (.k (.int .i64 7))) (some (119, false)))), (.e, (PO.mk (some 125) (.pick (.t 119) (.k (.bool true)) (.t 124)) none)), (.e, (PO.mk (some 126) (.mv (.t 125)) none)), (.e, (PO.mk (some 127) (.mv (.t 16)) (some (126, false)))), (.e, (PO.mk (some 128) (.idxSl 106 (.t 127) (.k (.int .i64 0))) (some (126, false)))), (.e, (PO.mk (some 129) (.fldA 37 (.t 128)) (some (126, false)))), (.e, (PO.mk (some 130) (.fldA 0 (.t 129)) (some (126, false)))), (.s, (PO.mk (some 131) (.load true 68 (.t 130)) (some (126, false)))), (.s, (PO.mk (some 132) (.load true 68 (.t 15)) (some (126, false)))), (.e, (PO.mk (some 133) (.eqa (.agg 68) true (.t 131) (.t 132)) (some (126, false)))), (.e, (PO.mk (some 134) (.pick (.t 126) (.k (.bool true)) (.t 133)) none))]) (.cond (.t 134) (.seq (.ops [(PO.mk (some 4) (.mv (.k (.bool false))) none)]) .ret) .skip))))) (.ops [(PO.mk (some 135) (.bin .add (.t 95) (.k (.int .i64 1))) none), (PO.mk (some 95) (.mv (.t 135)) none)]))))))) (.seq (.ops [(PO.mk (some 4) (.mv (.k (.bool true))) none)]) .ret)))))))))))
structure OkLaw19 (P : Program) (F : Fn) : Prop where
  mixed : P.follows .mixedOrders = true
  toOkHonest : OkHonest P F
  h246 : compFn P ⟨[], [], [], [], []⟩ (F 246) = some (k246 F)
  h247 : compFn P ⟨[], [], [], [], []⟩ (F 247) = some (k247 F)
end Go.Ab
set_option linter.unusedSimpArgs false
set_option linter.unusedVariables false
namespace Go.Ab
open Go Go.RowKit
section
variable {s : List W32} (hs : ∀ (i j : Nat) (hi : i < s.length) (hj : j < s.length), i ≤ j → s[i] ≤ s[j])
include hs
end
end Go.Ab
set_option linter.unusedSimpArgs false
set_option linter.unusedVariables false
set_option maxRecDepth 10000
namespace Go.Ab
open Go Go.RowKit
section
variable {P : Program} {F : Fn}
end
end Go.Ab
set_option linter.unusedSimpArgs false
set_option linter.unusedVariables false
set_option maxRecDepth 10000
namespace Go.Ab
open Go Go.RowKit
section
variable {P : Program} {F : Fn}
end
end Go.Ab
set_option linter.unusedSimpArgs false
set_option linter.unusedVariables false
set_option maxRecDepth 10000
namespace Go.Ab
open Go Go.RowKit
def rw0 : Rw := (⟨hdr0, id0, 0, 0, 0, 0, false⟩, .nil, [])
section
variable {P : Program} {F : Fn}
end
end Go.Ab
set_option linter.unusedSimpArgs false
set_option linter.unusedVariables false
set_option maxRecDepth 10000
namespace Go.Ab
open Go Go.RowKit
section
variable {P : Program} {F : Fn}
end
end Go.Ab
set_option linter.unusedSimpArgs false
set_option linter.unusedVariables false
set_option maxRecDepth 10000
namespace Go.Ab
open Go Go.RowKit
section
variable {l : List Rw} {n k : Nat}
end
section
variable {P : Program} {F : Fn}
end
end Go.Ab
set_option linter.unusedVariables false
namespace Go.Ab
open Go
end Go.Ab
set_option linter.unusedSimpArgs false
set_option linter.unusedVariables false
set_option maxRecDepth 10000
namespace Go.Ab
open Go Go.RowKit
section
variable {P : Program} {F : Fn}
end
end Go.Ab
set_option linter.unusedVariables false
namespace Go.Ab
open Go
end Go.Ab
set_option linter.unusedSimpArgs false
set_option linter.unusedVariables false
set_option maxRecDepth 10000
namespace Go.Ab
open Go Go.RowKit
section
end
section
variable {P : Program} {F : Fn}
end
end Go.Ab
set_option linter.unusedSimpArgs false
set_option linter.unusedVariables false
set_option maxRecDepth 10000
namespace Go.Ab
open Go Go.RowKit
theorem eqL_refl : ∀ cs : List V, (∀ v ∈ cs, ∃ k n, v = .int k n) → eqL cs cs = some true
  | [], _ => rfl
  | v :: cs, h => by
    obtain ⟨k, n, rfl⟩ := h v (by simp)
    have ih := eqL_refl cs fun u hu => h u (by simp [hu])
    simp [eqL, ih]
theorem eId_ints (x : Id) : ∀ v ∈ eId x, ∃ k n, v = .int k n := by
  intro v hv
  rw [eId_rows, rows_e8] at hv
  obtain ⟨b, -, rfl⟩ := List.mem_map.1 hv
  exact ⟨_, _, rfl⟩
theorem eHdr_ints (x : Hdr) : ∀ v ∈ eHdr x, ∃ k n, v = .int k n := by
  intro v hv
  unfold eHdr at hv
  rcases List.mem_cons.1 hv with rfl | hv
  · exact ⟨_, _, rfl⟩
  · rcases List.mem_append.1 hv with hv | hv
    · exact eId_ints _ v hv
    · rcases List.mem_append.1 hv with hv | hv
      · exact eId_ints _ v hv
      · simp at hv
        rcases hv with rfl | rfl | rfl <;> exact ⟨_, _, rfl⟩
theorem eqL_hdr (x : Hdr) : eqL (eHdr x) (eHdr x) = some true := eqL_refl _ (eHdr_ints x)
section
variable {P : Program} {F : Fn}
end
end Go.Ab
set_option linter.unusedSimpArgs false
set_option linter.unusedVariables false
set_option maxRecDepth 10000
namespace Go.Ab
open Go Go.RowKit
def idsB (l : List Blk1) : List Id := l.map fun b => hId b.hdr
def Apart (l : List Blk1) : Prop := (id0 :: idsB l).Pairwise (· ≠ ·)
theorem Apart.ne {l : List Blk1} (h : Apart l) {i j : Nat} (hi : i < l.length) (hj : j < l.length) (hij : i ≠ j) : hId l[i].hdr ≠ hId l[j].hdr := by
  have h1 := (List.pairwise_cons.1 h).2
  rw [idsB, List.pairwise_map, List.pairwise_iff_getElem] at h1
  rcases Nat.lt_or_gt_of_ne hij with hlt | hlt
  · exact h1 i j hi hj hlt
  · exact fun e => h1 j i hj hi hlt e.symm
theorem Apart.nz {l : List Blk1} (h : Apart l) {i : Nat} (hi : i < l.length) : hId l[i].hdr ≠ id0 := fun e => by
  have h1 := (List.pairwise_cons.1 h).1 (hId l[i].hdr) (List.mem_map.2 ⟨l[i], List.getElem_mem hi, rfl⟩)
  exact h1 e.symm
theorem Apart.at {l : List Blk1} (h : Apart l) {i : Nat} (hi : i < l.length) : atM l (hId l[i].hdr) = some i := by
  have key : ∀ (k : Nat), k ≤ l.length → i < k → atM (l.take k) (hId l[i].hdr) = some i := by
    intro k
    induction k with
    | zero => intro _ h; omega
    | succ k ih =>
      intro hk hik
      rw [List.take_succ_eq_append_getElem (by omega), atM_app]
      by_cases e : i = k
      · subst e
        rw [if_pos rfl, List.length_take]
        congr 1
        omega
      · rw [if_neg (h.ne hi (by omega) e)]
        exact ih (by omega) (by omega)
  have := key l.length (Nat.le_refl _) hi
  rwa [List.take_length] at this
theorem hdGo_apart {l : List Blk1} (h : Apart l) : ∀ (n i : Nat) (out : List Hdr), l.length ≤ n + i → out.length ≤ 32 → hdGo l id0 n i out = out ++ ((l.drop i).take (32 - out.length)).map (·.hdr)
  | 0, i, out, hn, ho => by
    rw [hdGo, List.drop_of_length_le (by omega)]
    simp
  | n + 1, i, out, hn, ho => by
    rw [hdGo]
    split
    · rename_i hi
      split
      · rename_i ho'
        rw [if_neg (h.nz hi), hdGo_apart h n (i + 1) _ (by omega) (by simp; omega), List.drop_eq_getElem_cons hi]
        obtain ⟨k, hk⟩ : ∃ k, 32 - out.length = k + 1 := ⟨31 - out.length, by omega⟩
        have hk2 : 32 - (out ++ [l[i].hdr]).length = k := by simp; omega
        rw [hk, hk2, List.take_succ_cons, List.map_cons]
        simp
      · rename_i ho'
        rw [show 32 - out.length = 0 by omega]
        simp
    · rename_i hi
      rw [List.drop_of_length_le (by omega)]
      simp
theorem hdM_apart {l : List Blk1} (h : Apart l) {c : Nat} (hc : c < l.length) : hdM l [hId l[c].hdr] id0 = ((l.drop (c + 1)).take 32).map (·.hdr) := by
  have e : fromM l [hId l[c].hdr] = c + 1 := by
    rw [fromM, List.findSome?_cons, h.at hc]
  rw [hdM, e, hdGo_apart h _ _ _ (by omega) (by simp)]
  simp
theorem chain_apart (work : Int) (m : UInt8) (n : Nat) (hn : n ≤ 40) : (chainM (rulesM work) genB (n : Int) m).length = n + 1 ∧ Apart (chainM (rulesM work) genB (n : Int) m) := by
  obtain ⟨h1, h2⟩ := chain_names work m n hn
  exact ⟨by simpa using h1, h2⟩
theorem ids_one (k : SK) (x : Id) : V.sl k (eId x) 1 = idsV k [x] := by simp [idsV]
def msAsk (x : Id) : Ms := { ms0 with kind := 3, names := idsV .full [x] }
theorem ms_ask (x : Id) : fillV z106_9145 [(0, 1, .int .i64 3), (3, 1, .sl .full (eId x) 1)] = some (eMs (msAsk x)) := by
  rw [ids_one]; rfl
def msGet (x : Id) : Ms := { ms0 with kind := 6, names := idsV .full [x] }
theorem ms_get (x : Id) : fillV z106_9145 [(0, 1, .int .i64 6), (3, 1, .sl .full (eId x) 1)] = some (eMs (msGet x)) := by
  rw [ids_one]; rfl
theorem ms_hello : fillV z106_9145 [(0, 1, .int .i64 1)] = some (eMs { ms0 with kind := 1 }) := rfl
theorem fillId1 (x : Id) : fillV (repV zR32_w80 1) [(0, 32, .agg (eId x))] = some (eId x) := by
  rw [show repV zR32_w80 1 = zR32_w80 by simp [repV]]
  have : spliceV zR32_w80 0 (eId x) = eId x := by simp [spliceV, eId_len]
  simp [fillV, eId_len, this]
theorem msegHeight (m : Ms) : segOf (eMs m) 2 1 = some [w32 m.height] := seg_of_drop (cs := eMs m) (off := 2) rfl rfl (by omega)
theorem msegBlk (m : Ms) : segOf (eMs m) 37 68 = some (eHdr m.blk) := seg_of_drop (mdrop37 m) (eHdr_len _) (by omega)
theorem fldAV_again {o : Nat} {p q : V} (h : fldAV o p = some q) : fldAV 0 q = some q := by
  unfold fldAV at h
  split at h <;> cases h <;> simp [fldAV]
theorem rfldWork (r : Rl) : fldV false 4 1 (.agg (eRl r)) = some (.int .i64 r.work) := rfl
section
variable {P : Program} {F : Fn}
theorem SrvR.swap {mid : Nat} {nonce : BitVec 64} {l : List Blk1} {hello : Bool} {A B : Asn} {L : List Asn} {st : St} (h : SrvR mid nonce l hello (A :: B :: L) st) : SrvR mid nonce l hello (B :: A :: L) st := by
  obtain ⟨k, aid, es, h1, h2⟩ := h
  exact ⟨k, aid, es, h1, h2.tail fun r h => h.tail fun r h => h.swap⟩
theorem eBlk_hdr (b : Blk1) : ((eBlk b).drop 0).take 68 = eHdr b.hdr := by rw [List.drop_zero, eBlk, List.take_left' (eHdr_len _)]
theorem blk_hdr {k : SK} {l : List Blk1} {st : St} {i : Nat} (hi : i < l.length) :
    idxSlV 69 (.sl k (rowsOf eBlk l) l.length) (.int .i64 (i : Int)) = some (rowP 69 (.sl k (rowsOf eBlk l) l.length) i) ∧ fldAV 0 (rowP 69 (.sl k (rowsOf eBlk l) l.length) i) = some (rowP 69 (.sl k (rowsOf eBlk l) l.length) i) ∧
      ldCells st 68 (rowP 69 (.sl k (rowsOf eBlk l) l.length) i) = some (eHdr l[i].hdr) := by
  have rd : Rd 69 eBlk (.sl k (rowsOf eBlk l) l.length) l st := .inl ⟨k, rfl⟩
  obtain ⟨r1, r2, r3, r4⟩ := rd.row eBlk_len hi
  have r5 := (r4 0 68 (by omega)).2
  rw [fldP_zero r2, eBlk_hdr] at r5
  exact ⟨r1, r2, r5⟩
theorem eqK_hdr (x : Hdr) : eqK (.agg 68) (.agg (eHdr x)) (.agg (eHdr x)) = some true := by simp [eqK, eHdr_len, eqL_hdr]
theorem ms_part {v : V} {ms : List Ms} {st : St} (rd : Rd 106 eMs v ms st) {i : Nat} (hi : i < ms.length) {o n : Nat} {cs : List V} (hs : segOf (eMs ms[i]) o n = some cs) :
    idxSlV 106 v (.int .i64 (i : Int)) = some (rowP 106 v i) ∧ fldAV o (rowP 106 v i) = some (fldP o (rowP 106 v i)) ∧ ldCells st n (fldP o (rowP 106 v i)) = some cs := by
  obtain ⟨r1, r2, r3, r4⟩ := rd.row eMs_len hi
  have hl : o + n ≤ 106 := by
    unfold segOf at hs
    split at hs
    · rename_i h
      rw [eMs_len] at h
      exact h
    · cases hs
  obtain ⟨r5, r6⟩ := r4 o n hl
  refine ⟨r1, r5, ?_⟩
  rw [r6]
  unfold segOf at hs
  rw [if_pos (by rw [eMs_len]; exact hl)] at hs
  exact hs
set_option maxHeartbeats 4000000 in
theorem spec246 (ok : OkLaw19 P F) (st : St) : ACalls P (F 246) [] st fun v st' => v = .bool true ∧ St.sub st st' := by
  have okh := ok.toOkHonest
  refine shows_call ok.mixed ok.h246 (by simp [k246]) ?_
  simp only [k246]
  simp
  refine (spec190 okh st 2).mono ?_
  rintro v st1 ⟨rfl, rfl⟩
  simp
  refine (spec188 okh st1 (rulesM 2) genB rfl rfl 2 (by omega) 7).mono ?_
  rintro v st1 ⟨⟨k, rfl⟩, rfl⟩
  obtain ⟨hl, ha⟩ := chain_apart 2 7 2 (by omega)
  rw [show ((2 : Nat) : Int) = 2 from rfl] at hl ha
  generalize chainM (rulesM 2) genB 2 7 = l at hl ha ⊢
  simp
  refine (spec193 okh st1 9 k l (by omega)).mono ?_
  rintro v st2 ⟨mid, rfl, S⟩
  have S0 := S
  obtain ⟨k1, aid, es, hat, S1⟩ := S0
  have om := S1.get
  have hl : l.length = 3 := hl
  have hl3 : (l.length : Int) = 3 := by omega
  have hlen : lenSlV (V.sl k (rowsOf eBlk l) l.length) = some (.int .i64 3) := by rw [← hl3]; rfl
  simp [eqK, hlen]
  refine (spec196 okh om).mono ?_
  rintro v st2 ⟨rfl, rfl⟩
  simp [hl3, ms_hello]
  refine (spec194a okh S ⟨by omega, by omega⟩ { ms0 with kind := 1 } rfl).mono ?_
  rintro v3 st3 ⟨hv3, S⟩
  obtain ⟨p1, p2, p3⟩ := blk_hdr (k := k) (st := st3) (show 0 < l.length by omega)
  rw [show (((0 : Nat) : Int)) = 0 from rfl] at p1
  simp [p1, p2, p3]
  refine (spec141 okh.toOkTx.toOkHead st3 _).mono ?_
  rintro v st3 ⟨rfl, rfl⟩
  simp [fillId1, ms_ask]
  refine (spec194b okh S (by omega) (msAsk (hId l[0].hdr)) rfl .full [hId l[0].hdr] rfl (by simp)).mono ?_
  rintro v4 st4 ⟨s, hv4, S⟩
  rw [show (msAsk (hId l[0].hdr)).stop = id0 from rfl, hdM_apart ha (by omega)] at S
  have el : ((l.drop (0 + 1)).take 32).map (·.hdr) = [l[1].hdr, l[2].hdr] := by
    rw [List.drop_eq_getElem_cons (by omega), List.drop_eq_getElem_cons (by omega), List.drop_of_length_le (by omega)]
    rfl
  rw [el] at S
  have hsub : St.sub st1 st4 := by
    obtain ⟨k1, aid, es, hat, S1⟩ := S
    exact S1.was' (st0 := st1) (by simp)
  obtain ⟨a, ha'⟩ : ∃ a, a = msVer 9 (BitVec.ofNat 32 (l.length - 1)) := ⟨_, rfl⟩
  rw [← ha'] at hv3
  have rda : Rd 106 eMs v3 [a, msAck] st4 := .inl ⟨.full, hv3⟩
  have rdb : Rd 106 eMs v4 [msHeads s] st4 := .inl ⟨.full, by rw [hv4]; simp⟩
  have lna : lenSlV v3 = some (.int .i64 2) := rda.len
  have lnb : lenSlV v4 = some (.int .i64 1) := rdb.len
  have rds : Rd 68 eHdr s [l[1].hdr, l[2].hdr] st4 := by
    obtain ⟨k1, aid, es, hat, S1⟩ := S
    exact Sep.rd eHdr_len ((S1.pull 2).head fun h hh => hh.sl)
  obtain ⟨a1, a2, a3⟩ := ms_part rda (i := 0) (by simp) (msegNonce a)
  obtain ⟨b1, b2, b3⟩ := ms_part rda (i := 0) (by simp) (msegHeight a)
  obtain ⟨c1, c2, c3⟩ := ms_part rda (i := 1) (by simp) (msegKind msAck)
  obtain ⟨d1, d2, d3⟩ := ms_part rdb (i := 0) (by simp) (msegHeads (msHeads s))
  obtain ⟨e1, e2, e3, e4⟩ := rds.row eHdr_len (i := 1) (by simp)
  obtain ⟨q1, q2, q3⟩ := blk_hdr (k := k) (st := st4) (show 2 < l.length by omega)
  rw [show (((0 : Nat) : Int)) = 0 from rfl] at a1 d1
  rw [show (((1 : Nat) : Int)) = 1 from rfl] at c1 e1
  rw [show (((2 : Nat) : Int)) = 2 from rfl] at q1
  have n9 : a.nonce = 9#64 := by rw [ha']; rfl
  have n2 : a.height = 2#32 := by rw [ha', hl]; rfl
  rw [n9] at a3
  rw [n2] at b3
  have hls := rds.len
  have e3 : ldCells st4 68 (rowP 68 s 1) = some (eHdr l[2].hdr) := e3
  have hk := eqK_hdr l[2].hdr
  have hw2 : binV .eql (w32 2#32) (w32 2#32) = some (.bool true) := rfl
  have hw9 : binV .eql (w64 9#64) (w64 9#64) = some (.bool true) := rfl
  have hc3 : ldCells st4 1 (fldP 0 (rowP 106 v3 1)) = some [.int .i64 2] := c3
  have hd3 : ldCells st4 1 (fldP 36 (rowP 106 v4 0)) = some [s] := d3
  simp [lna, lnb, a1, a2, a3, b2, b3, c1, c2, hc3, d1, d2, hd3, e1, e3, q1, q2, q3, hls, hk, hw2, hw9]
  refine (spec190 okh st4 2).mono ?_
  rintro v st5 ⟨rfl, rfl⟩
  simp [rfldWork]
  exact ⟨_, sub_self _, rfl, hsub⟩
def hdAt (l : List Blk1) (c : Nat) : Hdr := match l[c]? with | some b => b.hdr | none => hdr0
theorem hdAt_eq {l : List Blk1} {c : Nat} (h : c < l.length) : hdAt l c = l[c].hdr := by
  unfold hdAt
  rw [List.getElem?_eq_getElem h]
def gotM (l : List Blk1) (c : Nat) : List Hdr := ((l.drop 1).take c).map (·.hdr)
theorem gotM_len {l : List Blk1} {N c : Nat} (hl : l.length = N + 1) (hc : c ≤ N) : (gotM l c).length = c := by
  simp [gotM, hl]; omega
theorem gotM_app {l : List Blk1} {N c : Nat} (hl : l.length = N + 1) (hc : c ≤ N) : gotM l c ++ ((l.drop (c + 1)).take 32).map (·.hdr) = gotM l (min (c + 32) N) := by
  unfold gotM
  rw [← List.map_append]
  congr 1
  have e : l.drop (c + 1) = (l.drop 1).drop c := by rw [List.drop_drop, Nat.add_comm]
  rw [e, ← List.take_add]
  have h2 : (l.drop 1).length = N := by simp [hl]
  by_cases h : c + 32 ≤ N
  · rw [Nat.min_eq_left h]
  · rw [Nat.min_eq_right (by omega), List.take_of_length_le (by omega), List.take_of_length_le (by omega)]
theorem gotM_get {l : List Blk1} {N c i : Nat} (hl : l.length = N + 1) (hc : c ≤ N) (hi : i < c) : (gotM l c)[i]'(by rw [gotM_len hl hc]; exact hi) = hdAt l (i + 1) := by
  rw [hdAt_eq (by omega)]
  simp [gotM, Nat.add_comm]
theorem round_step (N k : Nat) : min (min (32 * k) N + 32) N = min (32 * (k + 1)) N := by omega
set_option maxHeartbeats 8000000 in
theorem spec247 (ok : OkLaw19 P F) (st : St) (n : Int) (mark : UInt8) : ACalls P (F 247) [.int .i64 n, w8 mark] st fun v st' => v = .bool true := by
  have okh := ok.toOkHonest
  refine shows_call ok.mixed ok.h247 (by simp [k247]) ?_
  simp only [k247]
  simp
  refine (spec246 ok st).mono ?_
  rintro v st1 ⟨rfl, -⟩
  simp
  by_cases h1 : n < 0
  · simp [h1]
    exact ⟨_, sub_self _⟩
  by_cases h2 : 40 < n
  · simp [h1, h2]
    exact ⟨_, sub_self _⟩
  obtain ⟨N, rfl⟩ : ∃ N : Nat, n = N := ⟨n.toNat, by omega⟩
  have hN : N ≤ 40 := by omega
  simp [h1, h2]
  refine (spec190 okh st1 0).mono ?_
  rintro v st1 ⟨rfl, rfl⟩
  simp
  refine (spec188 okh st1 (rulesM 0) genB rfl rfl N (by omega) mark).mono ?_
  rintro v st1 ⟨⟨k, rfl⟩, rfl⟩
  obtain ⟨hl, ha⟩ := chain_apart 0 mark N hN
  generalize chainM (rulesM 0) genB N mark = l at hl ha ⊢
  simp
  refine (spec193 okh st1 1 k l (by omega)).mono ?_
  rintro v st2 ⟨mid, rfl, S⟩
  obtain ⟨p1, p2, p3⟩ := blk_hdr (k := k) (st := st2) (show 0 < l.length by omega)
  rw [show (((0 : Nat) : Int)) = 0 from rfl] at p1
  simp [p1, p2, p3]
  refine (spec141 okh.toOkTx.toOkHead st2 _).mono ?_
  rintro v st2 ⟨rfl, rfl⟩
  simp
  intro i7 h7
  obtain ⟨kb, aid, es, hat, S⟩ := S
  have S := S.new h7 (.cells zR32_w80)
  have hst := store_z32 S.get (hId l[0].hdr)
  have S := S.set (.cells (eId (hId l[0].hdr)))
  simp [hst] at S ⊢
  generalize st2.upd i7 (.cells (eId (hId l[0].hdr))) = st3 at S ⊢
  have S : Sep (pt mid (.cells (srvO 1 kb l aid false)) :: pt aid (.mp (encM kId kInt es)) :: pt i7 (.cells (eId (hId l[0].hdr))) :: [Was st1]) st3 := S.swap.tail fun r h => h.swap
  have S : SrvR mid 1 l false (Slx 68 eHdr (.sl .nil [] 0) [] :: pt i7 (.cells (eId (hId (hdAt l 0)))) :: [Was st1]) st3 := ⟨kb, aid, es, hat, S.tail fun r h => h.tail fun r h => by rw [hdAt_eq (by omega)]; exact h.slxNil⟩
  clear hat
  refine vc_joinB (M := fun env' st' => ∃ s8, env' 8 = s8 ∧ SrvR mid 1 l false (Slx 68 eHdr s8 (gotM l N) :: [Was st1]) st') ?_ ?_
  · refine vc_loopJ (fun c env' st' => ∃ (k : Nat) (s8 : V), k ≤ 10 ∧ c = 10 - k ∧ env' 36 = .int .i64 (k : Nat) ∧ env' 8 = s8 ∧ SrvR mid 1 l false (Slx 68 eHdr s8 (gotM l (min (32 * k) N)) :: pt i7 (.cells (eId (hId (hdAt l (min (32 * k) N))))) :: [Was st1]) st') 10
      ⟨0, .sl .nil [] 0, by omega, by omega, by simp, by simp, by simpa [gotM] using S⟩ ?_
    rintro J hJ c env' st4 hsame ⟨j, s8, hj, rfl, h36, h8, S⟩
    have g6 := (hsame.get 6 rfl).trans (by simp : _ = V.ptr (some (mid, 0)))
    have g7 := (hsame.get 7 rfl).trans (by simp : _ = V.ptr (some (i7, 0)))
    clear hsame
    by_cases hlt : j < 10
    · have w1 : IntKind.i64.wrap ((j : Int) + 1) = (j : Int) + 1 := wrap64 (by omega) (by omega)
      have hlt' : (j : Int) < 10 := by omega
      obtain ⟨c, hc⟩ : ∃ c, c = min (32 * j) N := ⟨_, rfl⟩
      have hcN : c ≤ N := by omega
      have hcs : min (c + 32) N = min (32 * (j + 1)) N := by rw [hc]; exact round_step N j
      rw [← hc] at S
      have o7 : st4 i7 = some (.cells (eId (hId (hdAt l c)))) := by
        obtain ⟨kb, aid, es, hat, S⟩ := S
        exact S.mem (by simp)
      obtain ⟨x, hx⟩ : ∃ x, x = hId (hdAt l c) := ⟨_, rfl⟩
      rw [← hx] at S o7
      simp [g6, g7, h36, hlt', St.seg, o7, segId0, fillId1, ms_ask]
      refine (spec194b okh S (by omega) (msAsk x) rfl .full [x] rfl (by simp)).mono ?_
      rintro v st5 ⟨s, rfl, S⟩
      have hh : hdM l [x] (msAsk x).stop = ((l.drop (c + 1)).take 32).map (·.hdr) := by
        rw [hx, hdAt_eq (by omega)]
        exact hdM_apart ha (by omega)
      rw [hh] at S
      obtain ⟨hs, hhs⟩ : ∃ hs, hs = ((l.drop (c + 1)).take 32).map (·.hdr) := ⟨_, rfl⟩
      have happ := gotM_app hl hcN
      rw [← hhs] at S happ
      have hsl : hs.length ≤ 32 := by rw [hhs]; simp; omega
      have rdb : Rd 106 eMs (V.sl .full (eMs (msHeads s)) 1) [msHeads s] st5 := .inl ⟨.full, by simp⟩
      obtain ⟨d1, d2, d3⟩ := ms_part rdb (i := 0) (by simp) (msegHeads (msHeads s))
      rw [show (((0 : Nat) : Int)) = 0 from rfl] at d1
      have hd3 : ldCells st5 1 (fldP 36 (rowP 106 (V.sl .full (eMs (msHeads s)) 1) 0)) = some [s] := d3
      obtain ⟨kb, aid, es, hat, S⟩ := S
      have rds : Rd 68 eHdr s hs st5 := Sep.rd eHdr_len ((S.pull 2).head fun h hh => hh.sl)
      have hel := rds.elems eHdr_len
      have hgl := gotM_len hl hcN
      simp [d1, d2, hd3, h8, hel]
      refine Sep.appx' (b := 80) eHdr_len (by omega) (S.pull 3) hs rfl rfl (by omega) ?_
      intro s' st6 S
      rw [happ, hcs] at S
      have S : Sep (Slx 68 eHdr s' (gotM l (min (32 * (j + 1)) N)) :: pt mid (.cells (srvO 1 kb l aid false)) :: pt aid (.mp (encM kId kInt es)) :: Slx 68 eHdr s hs :: pt i7 (.cells (eId x)) :: [Was st1]) st6 := S
      have rdn : Rd 68 eHdr s' (gotM l (min (32 * (j + 1)) N)) st6 := Sep.rd eHdr_len (S.head fun h hh => hh.sl)
      have hln := rdn.len
      have hgn := gotM_len hl (show min (32 * (j + 1)) N ≤ N by omega)
      rw [hgn] at hln
      obtain ⟨c', hc'⟩ : ∃ c', c' = min (32 * (j + 1)) N := ⟨_, rfl⟩
      rw [← hc'] at S rdn hln hgn
      simp [hln]
      by_cases h0 : c' = 0
      · have hc0 : c = 0 := by omega
        subst hc0
        subst h0
        simp [h36, w1]
        refine Round.mk (10 - (j + 1)) _ (by omega) (sub_self _) (hJ _ _ _ ⟨j + 1, s', by omega, rfl, by simp, by simp, kb, aid, es, hat, ?_⟩)
        rw [← hc', ← hx]
        exact ((S.pull 3).drop).swap.tail fun r h => h.swap
      · have hp : 0 < (c' : Int) := by omega
        have w2 : IntKind.i64.wrap ((c' : Int) - 1) = ((c' - 1 : Nat) : Int) := by rw [wrap64 (by omega) (by omega)]; omega
        obtain ⟨r1, r2, r3, r4⟩ := rdn.row eHdr_len (i := c' - 1) (by omega)
        rw [gotM_get hl (by omega) (by omega), show c' - 1 + 1 = c' by omega] at r3
        have hp' : 0 < c' := by omega
        simp [h0, hp', hln, w2, r1, r3]
        refine (spec141 okh.toOkTx.toOkHead st6 _).mono ?_
        rintro v st6 ⟨rfl, rfl⟩
        have o7 := S.mem (i := i7) (o := .cells (eId x)) (by simp)
        have hst := store_pt (sz := 32) (o := 0) o7 (v := .agg (eId (hId (hdAt l c')))) (vs := eId (hId (hdAt l c'))) rfl (eId_len _) (by rw [eId_len]; omega)
        rw [show spliceV (eId x) 0 (eId (hId (hdAt l c'))) = eId (hId (hdAt l c')) by simp [spliceV, eId_len]] at hst
        have S := S.setAt (.cells (eId (hId (hdAt l c')))) 4 rfl
        simp only [List.set_cons_succ, List.set_cons_zero] at S
        simp [g7, hst, h36, w1]
        refine Round.mk (10 - (j + 1)) _ (by omega) (sub_self _) (hJ _ _ _ ⟨j + 1, s', by omega, rfl, by simp, by simp, kb, aid, es, hat, ?_⟩)
        rw [← hc']
        exact ((S.pull 3).drop).swap.tail fun r h => h.swap
    · have : j = 10 := by omega
      subst this
      rw [show min (32 * 10) N = N by omega] at S
      simp [h36]
      obtain ⟨kb, aid, es, hat, S⟩ := S
      rw [h8]
      exact ⟨kb, aid, es, hat, S.tail fun r h => h.tail fun r h => h.tail fun r h => h.drop⟩
  · rintro env' st4 hsame ⟨s8, h8, S⟩
    have g5 := (hsame.get 5 rfl).trans (by simp : _ = V.sl k (rowsOf eBlk l) l.length)
    have g6 := (hsame.get 6 rfl).trans (by simp : _ = V.ptr (some (mid, 0)))
    clear hsame
    have rdg : ∀ {st' : St}, SrvR mid 1 l false (Slx 68 eHdr s8 (gotM l N) :: [Was st1]) st' → Rd 68 eHdr s8 (gotM l N) st' := fun {st'} S => by
      obtain ⟨kb, aid, es, hat, S⟩ := S
      exact Sep.rd eHdr_len ((S.pull 2).head fun h hh => hh.sl)
    have hgl := gotM_len hl (Nat.le_refl N)
    have hln := (rdg S).len
    rw [hgl] at hln
    have hlk : lenSlV (V.sl k (rowsOf eBlk l) l.length) = some (.int .i64 ((N : Int) + 1)) := by
      rw [show ((N : Int) + 1) = ((N + 1 : Nat) : Int) by omega, ← hl]; rfl
    have w3 : IntKind.i64.wrap ((N : Int) + 1 - 1) = (N : Int) := by rw [wrap64 (by omega) (by omega)]; omega
    have w4 : IntKind.i64.wrap (N : Int) = (N : Int) := wrap64 (by omega) (by omega)
    simp [g5, h8, hln, hlk, w4]
    refine vc_loopJ (fun c env' st' => ∃ i : Nat, i ≤ N ∧ c = N - i ∧ env' 95 = .int .i64 (i : Nat) ∧ SrvR mid 1 l false (Slx 68 eHdr s8 (gotM l N) :: [Was st1]) st') N
      ⟨0, by omega, by omega, by simp, S⟩ ?_
    rintro J hJ c env2 st5 hsame ⟨i, hi, rfl, h95, S⟩
    have q5 := (hsame.get 5 rfl).trans (by simp [g5] : _ = V.sl k (rowsOf eBlk l) l.length)
    have q6 := (hsame.get 6 rfl).trans (by simp [g6] : _ = V.ptr (some (mid, 0)))
    have q93 := (hsame.get 93 rfl).trans (by simp [h8] : _ = s8)
    have q94 := (hsame.get 94 rfl).trans (by simp : _ = V.int .i64 (N : Int))
    clear hsame
    by_cases hlt : i < N
    · have w1 : IntKind.i64.wrap ((i : Int) + 1) = (i : Int) + 1 := wrap64 (by omega) (by omega)
      obtain ⟨r1, r2, r3, r4⟩ := (rdg S).row eHdr_len (i := i) (by omega)
      rw [gotM_get hl (by omega) hlt] at r3
      obtain ⟨x, hx⟩ : ∃ x, x = hdAt l (i + 1) := ⟨_, rfl⟩
      have hxl : x = l[i + 1].hdr := by rw [hx, hdAt_eq (by omega)]
      rw [← hx] at r3
      simp [q93, q94, h95, hlt, r1, r3]
      intro i15 h15
      obtain ⟨kb, aid, es, hat, S⟩ := S
      have S := S.new h15 (.cells z68_39b1)
      have hst := store_pt (sz := 68) (o := 0) S.get (v := .agg (eHdr x)) (vs := eHdr x) rfl (eHdr_len _) (by simp)
      rw [z68_eq, splice_hdr, ← z68_eq] at hst
      have S := S.set (.cells (eHdr x))
      simp [hst] at S ⊢
      generalize st5.upd i15 (.cells (eHdr x)) = st6 at S ⊢
      have o15 := S.get
      have S : SrvR mid 1 l false (pt i15 (.cells (eHdr x)) :: Slx 68 eHdr s8 (gotM l N) :: [Was st1]) st6 := ⟨kb, aid, es, hat, S.swap.tail fun r h => h.swap⟩
      simp [q6, St.seg, o15, hsegAll]
      refine (spec141 okh.toOkTx.toOkHead st6 x).mono ?_
      rintro v st6 ⟨rfl, rfl⟩
      have hat2 : atM l (hId x) = some (i + 1) := by rw [hxl]; exact ha.at (by omega)
      simp [fillId1, ms_get]
      refine (spec194c okh S (by omega) (msGet (hId x)) rfl .full (hId x) rfl hat2 (by omega)).mono ?_
      intro v st7 S
      obtain ⟨kb, aid, es, hat, S⟩ := S
      have rdv : Rd 106 eMs v [msBlk l[i + 1]] st7 := Sep.slvRd eMs_len (S.pull 2)
      have o15 := S.mem (i := i15) (o := .cells (eHdr x)) (by simp)
      obtain ⟨a1, a2, a3⟩ := ms_part rdv (i := 0) (by simp) (msegKind (msBlk l[i + 1]))
      obtain ⟨b1, b2, b3⟩ := ms_part rdv (i := 0) (by simp) (msegBlk (msBlk l[i + 1]))
      rw [show (((0 : Nat) : Int)) = 0 from rfl] at a1 b1
      obtain ⟨p1, p2, p3⟩ := blk_hdr (k := k) (st := st7) (show i + 1 < l.length by omega)
      rw [show (((i + 1 : Nat) : Int)) = (i : Int) + 1 by omega] at p1
      rw [← hxl] at p3
      have hb : (msBlk l[i + 1]).blk = x := hxl.symm
      have hk7 : (msBlk l[i + 1]).kind = 7 := rfl
      simp only [List.getElem_cons_zero, hb, hk7] at a3 b3
      have hlv := rdv.len
      have hk := eqK_hdr x
      have f0 := fldAV_again b2
      simp [q5, h95, w1, p1, p2, p3, St.seg, o15, hsegAll, hk, hlv, a1, a2, a3, b2, b3, f0]
      exact Round.mk (N - (i + 1)) _ (by omega) (sub_self _) (hJ _ _ _ ⟨i + 1, by omega, rfl, by simp, kb, aid, es, hat, S.tail fun r h => h.tail fun r h => h.drop.drop⟩)
    · have : i = N := by omega
      subst this
      simp [q94, h95]
      exact ⟨_, sub_self _⟩
theorem spec247b (ok : OkLaw19 P F) (st : St) (n : Int) {m : Int} (hm : 0 ≤ m ∧ m ≤ 255) : ACalls P (F 247) [.int .i64 n, .int .u8 m] st fun v st' => v = .bool true := by
  have e : V.int .u8 m = w8 (UInt8.ofNat m.toNat) := by
    show V.int .u8 m = .int .u8 ((UInt8.ofNat m.toNat).toNat : Int)
    congr 1
    rw [UInt8.toNat_ofNat']
    omega
  rw [e]
  exact spec247 ok st n _
end
end Go.Ab
set_option linter.unusedSimpArgs false
set_option linter.unusedVariables false
namespace Go.Ab
open Go Go.RowKit
def Gh.all (w : World) : Gh := { ι := fun _ => none, pm := fun b o => if b < w.heap.size then w.cell? ⟨b, o, none⟩ else none, N := 0, fresh := fun _ _ => rfl }
theorem stRel_all (w : World) : StRel w.heap.size w (Gh.all w) (fun _ => none) w := by
  refine ⟨Below.refl _ _, Nat.le_refl _, fun id b x h => (by cases h), fun b o v h => ?_, fun id ob h => (by cases h), fun id id' b x x' h => absurd rfl h⟩
  simp only [Gh.all] at h
  split at h
  · exact h
  · cases h
theorem calls_of_acalls {P : Program} {f : FuncId} {args : List V} {w : World} {xs : List Value} (h : ACalls P f args (fun _ => none) fun v _ => v = .bool true) (ha : LRel (Gh.all w) args xs) :
    Calls P f xs.toArray w fun e w' => e = .returned (.bool true) ∧ Below w.heap.size w w' := by
  refine (h (fun _ => none) (fun _ => .inl rfl) w.heap.size w (Gh.all w) w xs (by rw [St.add_none]; exact stRel_all w) ha).mono ?_
  rintro e w' ⟨v, x, G', st', rfl, h1, h2, h3, h4, rfl⟩
  cases h2
  exact ⟨rfl, h4.below⟩
end Go.Ab
set_option linter.unusedSimpArgs false
set_option linter.unusedVariables false
namespace Go.Ab
open Go Go.RowKit Go.ChangeShapes Go.WideShapes Go.Deep
section
variable {P : Program} {t : TypeId} {vs : List V}
end
section
variable {H : Type} {enc : TypeId × Value → H} {P : Program} {w : World} {base : Nat} {spare : Nat → Bool} {held : Bool}
end
end Go.Ab
