/- Contracts of math/bits. -/
import Derived.Test.YtcmglgkopgfheaaDoorPop
import Derived.Test.YtcmglgkopgfheaaDoorChecked
import Derived.ProofKit
import Derived.OpenShut
namespace Go.Proofs.YtcmglgkopgfheaaDoor.bit
open Go.ChangeShapes Go.WideShapes Go.ChangeAt Go.RowKit Go.Proofs.YtcmglgkopgfheaaDoor.words
set_option linter.unusedVariables false
theorem and_nat (a b : Nat) (ha : a < 2 ^ 64) (hb : b < 2 ^ 64) : bits .and .u64 (a : Int) (b : Int) = ((a &&& b : Nat) : Int) := by
  have h1 : (BitVec.ofInt 64 (a : Int) &&& BitVec.ofInt 64 (b : Int)).toNat = a &&& b := by
    have e1 : BitVec.ofInt 64 (a : Int) = BitVec.ofNat 64 a := by simp
    have e2 : BitVec.ofInt 64 (b : Int) = BitVec.ofNat 64 b := by simp
    rw [e1, e2, BitVec.toNat_and, BitVec.toNat_ofNat, BitVec.toNat_ofNat, Nat.mod_eq_of_lt ha, Nat.mod_eq_of_lt hb]
  show IntKind.u64.wrap (((BitVec.ofInt 64 (a : Int) &&& BitVec.ofInt 64 (b : Int)).toNat : Nat) : Int) = _
  rw [h1]
  have h2 : a &&& b < 2 ^ 64 := Nat.lt_of_le_of_lt Nat.and_le_left ha
  generalize a &&& b = x at h2
  simp [IntKind.wrap, IntKind.signed, IntKind.bits]; omega
theorem and_i64 (a : Nat) (ha : a < 2 ^ 63) : bits .and .i64 (a : Int) 127 = ((a % 128 : Nat) : Int) := by
  have h1 : (BitVec.ofInt 64 (a : Int) &&& BitVec.ofInt 64 127).toNat = a % 128 := by
    have e1 : BitVec.ofInt 64 (a : Int) = BitVec.ofNat 64 a := by simp
    have e2 : BitVec.ofInt 64 127 = BitVec.ofNat 64 (2 ^ 7 - 1) := by decide
    rw [e1, e2, BitVec.toNat_and, BitVec.toNat_ofNat, BitVec.toNat_ofNat, Nat.mod_eq_of_lt (by omega : a < 2 ^ 64), Nat.mod_eq_of_lt (by decide : 2 ^ 7 - 1 < 2 ^ 64), Nat.and_two_pow_sub_one_eq_mod]
  show IntKind.i64.wrap (((BitVec.ofInt 64 (a : Int) &&& BitVec.ofInt 64 127).toNat : Nat) : Int) = _
  rw [h1]
  have h2 : a % 128 < 128 := Nat.mod_lt _ (by decide)
  generalize a % 128 = x at h2
  rw [IntKind.wrap_i64]; omega
theorem wrap_nat (a : Nat) (ha : a < 2 ^ 64) : IntKind.u64.wrap (a : Int) = (a : Int) := by
  simp [IntKind.wrap, IntKind.signed, IntKind.bits]; omega
theorem nat_wrap {a b c : Nat} (h : a + b = c) (hc : c < 2 ^ 64) : IntKind.u64.wrap ((a : Int) + (b : Int)) = (c : Int) := by
  rw [← h] at hc ⊢; exact wrap_nat (a + b) hc
theorem half_wrap {a d e c : Nat} (h : a + a / d = c) (hc : c < 2 ^ 64) : IntKind.u64.wrap ((a : Int) + (a : Int) / (d : Int)) = (c : Int) := by
  rw [← Int.natCast_ediv]; exact nat_wrap h hc
theorem half_wrap2 {a d c : Nat} (h : a / d + a = c) (hc : c < 2 ^ 64) : IntKind.u64.wrap ((a : Int) / (d : Int) + (a : Int)) = (c : Int) := by
  rw [← Int.natCast_ediv]; exact nat_wrap h hc
theorem and_half (a d b : Nat) (ha : a < 2 ^ 64) (hb : b < 2 ^ 64) : bits .and .u64 ((a : Int) / (d : Int)) (b : Int) = (((a / d) &&& b : Nat) : Int) := by
  rw [← Int.natCast_ediv]; exact and_nat (a / d) b (Nat.lt_of_le_of_lt (Nat.div_le_self _ _) ha) hb
/-- what OnesCount64 passes by -/
structure Ones (z a1 a2 x1 b1 b2 x2 c x3 y v u : Nat) : Prop where
  f1 : bits .and .u64 ((z : Int) / 2) 6148914691236517205 = (a1 : Int)
  f2 : bits .and .u64 (z : Int) 6148914691236517205 = (a2 : Int)
  f3 : IntKind.u64.wrap ((a1 : Int) + a2) = (x1 : Int)
  f4 : bits .and .u64 ((x1 : Int) / 4) 3689348814741910323 = (b1 : Int)
  f5 : bits .and .u64 (x1 : Int) 3689348814741910323 = (b2 : Int)
  f6 : IntKind.u64.wrap ((b1 : Int) + b2) = (x2 : Int)
  f7 : IntKind.u64.wrap ((x2 : Int) / 16 + x2) = (c : Int)
  f8 : bits .and .u64 (c : Int) 1085102592571150095 = (x3 : Int)
  f9 : IntKind.u64.wrap ((x3 : Int) + (x3 : Int) / 256) = (y : Int)
  f10 : IntKind.u64.wrap ((y : Int) + (y : Int) / 65536) = (v : Int)
  f11 : IntKind.u64.wrap ((v : Int) + (v : Int) / 4294967296) = (u : Int)
  f12 : IntKind.i64.wrap (u : Int) = (u : Int)
  f13 : bits .and .i64 (u : Int) 127 = ((popc 64 z : Nat) : Int)
theorem ones_facts (z : Nat) (hz : z < 2 ^ 64) : ∃ a1 a2 x1 b1 b2 x2 c x3 y v u, Ones z a1 a2 x1 b1 b2 x2 c x3 y v u := by
  obtain ⟨x3, y, v, u, e3, g3, ey, gy, ev, gv, eu, gu, hu⟩ := pop_end z
  have l1 := lt1 z
  have l2 := lt2 z
  have s3 := swar3 z
  rw [e3] at s3
  have hc : fields 4 (popc 4) 16 z / 2 ^ 4 + fields 4 (popc 4) 16 z < 2 ^ 64 := by
    generalize fields 4 (popc 4) 16 z = q at l2
    clear l1 s3 e3 g3 ey gy ev gv eu gu hu hz
    omega
  refine ⟨_, _, _, _, _, _, _, x3, y, v, u, and_half z 2 6148914691236517205 hz (by decide), and_nat z 6148914691236517205 hz (by decide), nat_wrap (swar1 z) l1, and_half _ 4 3689348814741910323 l1 (by decide), and_nat _ 3689348814741910323 l1 (by decide), nat_wrap (swar2 z) (Nat.lt_trans l2 (by decide)), half_wrap2 (d := 16) rfl hc, ?_, ?_, ?_, ?_, ?_, ?_⟩
  · rw [← s3]; exact and_nat _ 1085102592571150095 hc (by decide)
  · exact half_wrap (d := 256) (e := 0) ey (Nat.lt_trans gy (by decide))
  · exact half_wrap (d := 65536) (e := 0) ev (Nat.lt_trans gv (by decide))
  · exact half_wrap (d := 4294967296) (e := 0) eu (Nat.lt_trans gu (by decide))
  · rw [IntKind.wrap_i64]
    clear l1 l2 s3 e3 g3 ey gy ev gv eu hu hz hc
    omega
  · rw [← hu]; exact and_i64 u gu
theorem ones_any (z : Nat) (w : World) (hz : z < 2 ^ 64) : Calls Tryd.prog 29 #[.int .u64 z] w fun e w' => e = .returned (.int .i64 (popc 64 z)) ∧ w = w' := by
  obtain ⟨a1, a2, x1, b1, b2, x2, c, x3, y, v, u, ⟨f1, f2, f3, f4, f5, f6, f7, f8, f9, f10, f11, f12, f13⟩⟩ := ones_facts z hz
  go_enter Tryd.func29, Tryd.ntmps29
  go_wp2
  go_ret
  exact ⟨rfl, rfl⟩
end Go.Proofs.YtcmglgkopgfheaaDoor.bit
