/- Small plain lemmas on wraps and remainders, and on worlds that only drew. -/
import Derived.Test.YtbgngpgebhnpbaaCon
import Derived.Deep.QuietTactic
import Derived.BigQuiet
namespace Go.Proofs.Ytbgngpgebhnpbaa.con
open Go.ChangeShapes Go.WideShapes Go.ChangeAt Go.RowKit
theorem u64_nonneg (a : Int) : 0 ≤ IntKind.u64.wrap a ∧ IntKind.u64.wrap a < 18446744073709551616 := by
  have h1 : IntKind.u64.wrap a = a % 18446744073709551616 := by simp [IntKind.wrap, IntKind.signed, IntKind.bits]
  rw [h1]; omega
theorem wmod (a m : Int) (h1 : 0 < m) (h2 : m ≤ 9223372036854775808) : 0 ≤ wrap64 ((IntKind.u64.wrap a).tmod m) ∧ wrap64 ((IntKind.u64.wrap a).tmod m) < m := by
  obtain ⟨x, hx⟩ : ∃ x, x = IntKind.u64.wrap a := ⟨_, rfl⟩
  have hp := u64_nonneg a
  rw [← hx] at hp ⊢
  have e : x.tmod m = x % m := Int.tmod_eq_emod_of_nonneg hp.1
  rw [e]
  have b1 := Int.emod_nonneg x (by omega : m ≠ 0)
  have b2 := Int.emod_lt_of_pos x h1
  unfold wrap64; omega
theorem top_of (k : Int) : ∃ K, wrap64 (1 + wrap64 ((IntKind.u64.wrap k).tmod 2147483648)) = K ∧ 1 ≤ K ∧ K ≤ 2147483648 := by
  have h := wmod k 2147483648 (by omega) (by omega)
  refine ⟨_, rfl, ?_⟩
  generalize wrap64 ((IntKind.u64.wrap k).tmod 2147483648) = x at h ⊢
  unfold wrap64; omega
theorem cost_of (a K : Int) (h1 : 1 ≤ K) (h2 : K ≤ 2147483648) : ∃ A, wrap64 ((IntKind.u64.wrap a).tmod (K + 1)) = A ∧ 0 ≤ A ∧ A ≤ K := by
  have h := wmod a (K + 1) (by omega) (by omega)
  exact ⟨_, rfl, h.1, by omega⟩
theorem grown_drewN {w w' : World} (h : Grown w w') (n : Nat) : Grown w (w'.drewN n) := h
theorem inC {a k : Int} (h1 : 1 ≤ k) (h2 : k ≤ 2147483648) (h3 : 0 ≤ a) (h4 : a ≤ k) : InC a k := ⟨h1, h2, h3, h4⟩
theorem add_as (a b k x : Int) (w : World) (ha : InC a k) (hb : InC b k) (hx : min (a + b) k = x) :
    Calls Try.prog 9 #[.int .i64 a, .int .i64 b, .int .i64 k] w fun e w' => e = .returned (.tuple #[.int .i64 x, .int .i64 0]) ∧ w = w' := by
  subst hx; exact add_ok a b k w ha hb
theorem sub_as (a b k x e : Int) (w : World) (ha : InC a k) (hb : InC b k) (hx : subV a b k = x) (he : subE a b k = e) :
    Calls Try.prog 11 #[.int .i64 a, .int .i64 b, .int .i64 k] w fun r w' => r = .returned (.tuple #[.int .i64 x, .int .i64 e]) ∧ w = w' := by
  subst hx; subst he; exact sub_ok a b k w ha hb
theorem gap_as (a b k x : Int) (w : World) (ha : InC a k) (hb : InC b k) (hx : max (b - a) 0 = x) :
    Calls Try.prog 12 #[.int .i64 a, .int .i64 b, .int .i64 k] w fun e w' => e = .returned (.tuple #[.int .i64 x, .int .i64 0]) ∧ w = w' := by
  subst hx; exact gap_ok a b k w ha hb
end Go.Proofs.Ytbgngpgebhnpbaa.con
