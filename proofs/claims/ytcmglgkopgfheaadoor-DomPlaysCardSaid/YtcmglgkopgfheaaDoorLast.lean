/- math/bits.Len64, and the last value of a set. -/
import Derived.Test.YtcmglgkopgfheaaDoorSetCon
import Derived.Lib.Strings
import Derived.Lib.Slices
import Derived.Lib.Small
import Derived.Lib.Walk
import Derived.Lib.BitFns
import Derived.Lib.Tables
import Derived.Lib.ItoaNum
namespace Go.Proofs.YtcmglgkopgfheaaDoor.bit
open Go.ChangeShapes Go.WideShapes Go.ChangeAt Go.RowKit Go.Proofs.YtcmglgkopgfheaaDoor.words
set_option linter.unusedVariables false
theorem get8 (y : Int) (h : y.toNat < Lib.len8tab.size) (h0 : 0 ≤ y) (h1 : y ≤ 255) : ((Lib.len8tab[y.toNat]'h).toNat : Int) = (Lib.bitLen y.toNat : Nat) := by
  rw [← Lib.len8_of y h0 h1]
  unfold Lib.len8
  rw [getElem?_pos Lib.len8tab y.toNat h]
  rfl
theorem wadd (k a b : Nat) (hk : k ≤ 56) (ha : a ≤ 8) (hb : b = k + a) : wrap64 ((k : Int) + wrap64 (a : Int)) = (b : Int) := by
  unfold wrap64
  omega
theorem wwrap (a : Nat) (ha : a ≤ 8) : wrap64 (wrap64 (a : Int)) = (a : Int) := by
  unfold wrap64
  omega
/-- what the length of bits is: 0 has none; the highest bit lies under it -/
theorem bl_zero : Lib.bitLen 0 = 0 := by decide
theorem bl_some {z : Nat} (hz : z < 4294967296) (h0 : z ≠ 0) : 1 ≤ Lib.bitLen z ∧ 2 ^ (Lib.bitLen z - 1) ≤ z ∧ z < 2 ^ Lib.bitLen z :=
  Lib.bitLenAux_bounds 64 z (Nat.lt_of_lt_of_le hz (by decide)) h0
set_option maxHeartbeats 4000000 in
set_option maxRecDepth 100000 in
theorem len64_any (z : Nat) (w : World) (hz : z < 4294967296) : Calls Tryd.prog 33 #[.int .u64 z] w fun e w' => e = .returned (.int .i64 (Lib.bitLen z : Nat)) ∧ w = w' := by
  obtain ⟨x, hx⟩ : ∃ x : Int, (z : Int) = x := ⟨_, rfl⟩
  have h0 : 0 ≤ x := by omega
  have h1 : x < 4294967296 := by omega
  have hxz : x.toNat = z := by omega
  rw [hx, ← hxz]
  clear hx hxz hz
  go_enter Tryd.func33, Tryd.ntmps33
  go_wp2
  all_goals first
    | (go_ret; refine ⟨congrArg Ending.returned (congrArg (Value.int IntKind.i64) ?_), rfl⟩)
    | (exfalso
       have hs := Lib.len8tab_size
       omega)
  all_goals first
    | (rw [get8 (x / 65536 / 256) _ (by omega) (by omega)]
       have e : (x / 65536 / 256).toNat = x.toNat / 16777216 := by omega
       have l := Lib.bitLen_le8' (x / 65536 / 256) (by omega) (by omega)
       have s := Lib.bitLen_shift24 x.toNat (by omega) (by omega)
       rw [e] at l ⊢
       exact wadd 24 _ _ (by decide) l s)
    | (rw [get8 (x / 65536) _ (by omega) (by omega)]
       have e : (x / 65536).toNat = x.toNat / 65536 := by omega
       have l := Lib.bitLen_le8' (x / 65536) (by omega) (by omega)
       have s := Lib.bitLen_shift16 x.toNat (by omega) (by omega)
       rw [e] at l ⊢
       exact wadd 16 _ _ (by decide) l s)
    | (rw [get8 (x / 256) _ (by omega) (by omega)]
       have e : (x / 256).toNat = x.toNat / 256 := by omega
       have l := Lib.bitLen_le8' (x / 256) (by omega) (by omega)
       have s := Lib.bitLen_shift8 x.toNat (by omega) (by omega)
       rw [e] at l ⊢
       exact wadd 8 _ _ (by decide) l s)
    | (rw [get8 x _ (by omega) (by omega)]
       have l := Lib.bitLen_le8' x (by omega) (by omega)
       exact wwrap _ l)
/-- the last of a rising list -/
theorem last_any (B n : Nat) (w : World) (hB : B < 2 ^ n) (hn : n ≤ 32) : Calls Tryd.prog 22 #[SetV B n] w fun e w' => e = .returned (.int .i64 ((Lib.bitLen B : Int) - 1)) ∧ Below w.heap.size w w' := by
  have hz : B < 4294967296 := Nat.lt_of_lt_of_le hB (Nat.pow_le_pow_right (by decide) hn)
  have hl : Lib.bitLen B ≤ 32 := Lib.bitLen_le B 32 (by decide) hz
  have hc := fun w => len64_any B w hz
  obtain ⟨l, hl'⟩ : ∃ l, Lib.bitLen B = l := ⟨_, rfl⟩
  rw [hl'] at hl hc ⊢
  clear hl'
  go_enter Tryd.func22, Tryd.ntmps22
  go_wp2_with fail
  refine (hc _).mono ?_
  rintro e w1 ⟨rfl, rfl⟩
  go_wp2
  go_ret
  exact ⟨rfl, bone w _⟩
end Go.Proofs.YtcmglgkopgfheaaDoor.bit
