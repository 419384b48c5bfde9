/- Division and its NaN; the example of the law's package: a size 0 by a weight 0 is no number; the first of four. -/
import Derived.Test.YtnnlkjbnonkjmaaFloCon
import Derived.Laws.FloatArith
import Derived.Laws.Externs
import GoSem.Extern.MathFloatBits
namespace Go.Proofs.Ytnnlkjbnonkjmaa.flo
open Go.ChangeShapes Go.WideShapes Go.ChangeAt Go.RowKit Go.Proofs.Ytnnlkjbnonkjmaa.words
set_option linter.unusedVariables false
def nanOf (w : World) (x y : Nat) : Nat := (Question.nanBits .f64 x y).cut (w.tape w.drawn (.nanBits .f64 x y))
theorem key_nan (w : World) (x y : Nat) : key (nanOf w x y) = none := by
  unfold nanOf
  generalize w.tape w.drawn (.nanBits .f64 x y) = t
  have hb : Ieee.double.binade = 2 ^ 52 := by decide
  have hi : Ieee.double.infRung = 2047 * 2 ^ 52 := by decide
  have hs : Ieee.double.signWeight = 2 ^ 63 := by decide
  have e : (Question.nanBits .f64 x y).cut t = (t % 2) * 2 ^ 63 + 0x7ff0000000000000 + 1 + (t / 2) % (2 ^ 52 - 1) := rfl
  rw [e]
  have h1 : (t / 2) % (2 ^ 52 - 1) < 2 ^ 52 - 1 := Nat.mod_lt _ (by decide)
  generalize (t / 2) % (2 ^ 52 - 1) = r at h1
  have h2 : ((t % 2) * 2 ^ 63 + 0x7ff0000000000000 + 1 + r) % 2 ^ 63 = 0x7ff0000000000000 + 1 + r := by omega
  unfold key Ieee.Format.read
  simp only [hb, hi, hs, h2]
  rw [if_neg (by omega), if_neg (by omega), if_neg (by omega)]
  rfl
theorem run_float_nan (P : Program) (w : World) (op : BinOp) (t : TypeId) (x y : Nat) (hop : op = .add ∨ op = .mul ∨ op = .quo) (h : floatBits op .f64 x y = none) :
    (binOp op t (.float .f64 x) (.float .f64 y)).run P w = .ok (.float .f64 (nanOf w x y)) w.drew := by
  unfold floatBits at h
  rcases hop with rfl | rfl | rfl <;> simp only at h
  all_goals simp [binOp, Op.floatArith, h, Question.forced]; rfl
theorem frombits (n : Int) (w : World) : (callFunc 30 #[.int .u64 n]).run Try.prog w = .ok (.value (.float .f64 n.toNat)) w := by
  rw [run_callFunc_extern (e := Extern.MathFloatBits.float64frombits) Try.func30 (by kernel_rfl) (by kernel_rfl) (by kernel_rfl) (by kernel_rfl)]
  rfl
theorem tobits (n : Nat) (w : World) : (callFunc 31 #[.float .f64 n]).run Try.prog w = .ok (.value (.int .u64 n)) w := by
  rw [run_callFunc_extern (e := Extern.MathFloatBits.float64bits) Try.func31 (by kernel_rfl) (by kernel_rfl) (by kernel_rfl) (by kernel_rfl)]
  rfl
theorem copysign_lit (w : World) : Calls Try.prog 27 #[.float .f64 0, .float .f64 13830554455654793216] w fun e w' => e = .returned (.float .f64 9223372036854775808) ∧ w = w' := by
  have f2 := fun w => tobits 0 w
  have f3 := fun w => tobits 13830554455654793216 w
  have f4 := fun w => frombits 9223372036854775808 w
  have b1 : bits BinOp.andNot IntKind.u64 0 9223372036854775808 = 0 := by decide
  have b2 : bits BinOp.and IntKind.u64 13830554455654793216 9223372036854775808 = 9223372036854775808 := by decide
  have b3 : bits BinOp.or IntKind.u64 0 9223372036854775808 = 9223372036854775808 := by decide
  go_enter Try.func27, Try.ntmps27
  go_wp2
  go_ret
  exact ⟨rfl, rfl⟩
theorem nan_lit (w : World) : Calls Try.prog 26 #[] w fun e w' => e = .returned (.float .f64 9221120237041090561) ∧ w = w' := by
  have f1 := fun w => frombits 9221120237041090561 w
  go_enter Try.func26, Try.ntmps26
  go_wp2
  go_ret
  exact ⟨rfl, rfl⟩
theorem best_lit : bestOf [9221120237041090561, 4607182418800017408, 9223372036854775808, 0] 2 := by
  refine .inr ⟨2, rfl, 9223372036854775808, rfl, fun j y h => ?_, fun j y hj h => ?_⟩
  · match j, h with
    | 0, h => injection h with h; subst h; decide +kernel
    | 1, h => injection h with h; subst h; decide +kernel
    | 2, h => injection h with h; subst h; decide +kernel
    | 3, h => injection h with h; subst h; decide +kernel
    | j + 4, h => simp at h
  · match j, hj, h with
    | 0, _, h => injection h with h; subst h; decide +kernel
    | 1, _, h => injection h with h; subst h; decide +kernel
    | j + 2, hj, _ => omega
theorem awake_any (w : World) : Calls Try.prog 9 #[] w fun e w' => e = .returned (.bool true) ∧ Below w.heap.size w w' := by
  have h0 : floatOfInt .f64 0 = 0 := by decide
  have hq := fun w => run_float_nan Try.prog w .quo 24 0 0 (.inr (.inr rfl)) (by decide)
  have hk := key_nan w 0 0
  have hn : (FloatKind.f64.format.order (nanOf w 0 0) (nanOf w 0 0) != some .eq) = true := by
    have := nan_key (nanOf w 0 0); rw [hk] at this; exact this
  obtain ⟨r, hr⟩ : ∃ r, nanOf w 0 0 = r := ⟨_, rfl⟩
  have hq0 := hq w
  rw [hr] at hn hq0
  clear hq hk hr
  go_enter Try.func9, Try.ntmps9
  go_wp2_with (first | (go_at_call 26; (with_reducible refine (nan_lit _).mono ?_); rintro e w' ⟨rfl, rfl⟩) | (go_at_call 27; (with_reducible refine (copysign_lit _).mono ?_); rintro e w' ⟨rfl, rfl⟩) | (go_at_call 16; go_in) | fail)
  have hr1 : Reads (w.drew.alloc (.cells #[.float .f64 9221120237041090561, .float .f64 4607182418800017408, .float .f64 9223372036854775808, .float .f64 0] 24)) (w.drew.alloc (.cells #[.float .f64 9221120237041090561, .float .f64 4607182418800017408, .float .f64 9223372036854775808, .float .f64 0] 24)).heap.size 1 (some ⟨w.heap.size, 0, none⟩) 4 (flts [9221120237041090561, 4607182418800017408, 9223372036854775808, 0]) := reads_block (t := 24) (heap_alloc_new _ _) rfl
  refine (first_any _ 4 4 _ _ (by omega) hr1).mono ?_
  rintro e w' ⟨⟨b, hb, rfl⟩, rfl⟩
  obtain rfl := bestOf_one hb best_lit
  go_wp2
  go_ret
  first | exact ⟨rfl, bnew (Below.refl _ _).drew _⟩ | exact ⟨rfl, (bone _ _).drew⟩
end Go.Proofs.Ytnnlkjbnonkjmaa.flo
