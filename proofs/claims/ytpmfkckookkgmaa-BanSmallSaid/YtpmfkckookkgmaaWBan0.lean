/-
  The closures of ban, and slices.IndexFunc.
-/
import Derived.Test.YtpmfkckookkgmaaABan
import Derived.Test.YtpmfkckookkgmaaAbSep
set_option linter.unusedVariables false
set_option linter.unusedSimpArgs false
namespace Go.Proofs.Ytpmfkckookkgmaa
open Go Go.Ab
theorem mixedP : Try.prog.follows .mixedOrders = true := Checked.mixed Try.checked

theorem spec36 (st : St) (bid : Nat) (a u x : Int) (h : st bid = some (.cells [.int .i64 x])) : ACalls Try.prog 36 [.agg [.int .i64 a, .int .i64 u], .ptr (some (bid,0))] st (fun v st' => v = .bool (a == x) ∧ st' = st) := by
  refine shows_call mixedP comp36 (by simp [c36]) ?_
  simp [c36]
  intro id hid
  have n1 := ne_id h hid
  simp [St.seg, segOf, h, n1, sub_upd hid]

theorem spec31 (st : St) (bid : Nat) (a u x : Int) (h : st bid = some (.cells [.int .i64 x])) : ACalls Try.prog 31 [.agg [.int .i64 a, .int .i64 u], .ptr (some (bid,0))] st (fun v st' => v = .bool (decide (u ≤ x)) ∧ st' = st) := by
  refine shows_call mixedP comp31 (by simp [c31]) ?_
  simp [c31]
  intro id hid
  have n1 := ne_id h hid
  simp [St.seg, segOf, h, n1, sub_upd hid]

theorem spec35 (st : St) (rows : List V) (n : Nat) (hn : n < 2 ^ 62) (id off : Nat) (hs : st.seg id off (n * 2) = some rows) (fv : V) (p : Nat → Bool) (fid : FuncId) (cap : List V) (hfv : fv = .func fid cap) (hok : okFn Try.prog fid = true)
    (hp : ∀ i, i < n → ACalls Try.prog fid (.agg ((rows.drop (i * 2)).take 2) :: cap) st fun v st' => v = .bool (p i) ∧ st' = st) :
    ACalls Try.prog 35 [.hsl id off 2 n, fv] st fun v st' => (∃ i, i < n ∧ p i = true ∧ (∀ j, j < i → p j = false) ∧ v = .int .i64 i ∧ st' = st) ∨ ((∀ j, j < n → p j = false) ∧ v = .int .i64 (-1) ∧ st' = st) := by
  subst hfv
  refine shows_call mixedP comp35 (by simp [c35]) ?_
  simp [c35]
  refine vc_loop (fun k env' st' => ∃ i, i ≤ n ∧ k = n - i ∧ st' = st ∧ env' 8 = .int .i64 i ∧ (∀ j, j < i → p j = false)) n ⟨0, by omega, by omega, rfl, rfl, by simp⟩ ?_
  rintro k env' st' hsame ⟨i, hi, rfl, rfl, h8, hp0⟩
  have h0 : env' 0 = .hsl id off 2 n := hsame 0 (by decide)
  have h1 : env' 1 = .func fid cap := hsame 1 (by decide)
  have h7 : env' 7 = .int .i64 n := hsame 7 (by decide)
  by_cases hlt : i < n
  · simp [h0, h1, h7, h8, hlt, seg_at hs hlt, hok]
    refine (hp i hlt).mono ?_
    rintro v s ⟨rfl, rfl⟩
    simp
    cases hpi : p i
    · simp [h8, wrap64 (x := (i : Int) + 1) (by omega) (by omega)]
      refine Round.mk (n - (i + 1)) _ (by omega) (sub_self _) ⟨i + 1, by omega, rfl, rfl, by simp, fun j hj => ?_⟩
      by_cases e : j = i
      · subst e; exact hpi
      · exact hp0 j (by omega)
    · simp
      exact ⟨_, sub_self _, i, hlt, hpi, hp0, rfl, rfl⟩
  · have : i = n := by omega
    subst this
    simp [h0, h1, h7, h8]
    exact hp0
end Go.Proofs.Ytpmfkckookkgmaa
