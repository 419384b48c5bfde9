/- Contracts of package dom: a set is bits, and how many there may be. -/
import Derived.Test.YtcmglgkopgfheaaDoorSets
import Derived.Laws.BitsAllLaws
namespace Go.Proofs.YtcmglgkopgfheaaDoor.bit
open Go.ChangeShapes Go.WideShapes Go.ChangeAt Go.RowKit Go.Proofs.YtcmglgkopgfheaaDoor.words
set_option linter.unusedVariables false
theorem ret_val {a b : Value} (h : a = b) : Ending.returned a = .returned b := by rw [h]
theorem and_spell (a b : Nat) (ha : a < 2 ^ 64) (hb : b < 2 ^ 64) : bits .and .u64 (a : Int) (b : Int) = ((a &&& b : Nat) : Int) := and_nat a b ha hb
theorem pow_wrap (v n : Nat) (hv : v < n) (hn : n ≤ 32) : IntKind.u64.wrap ((2 : Int) ^ v) = (2 : Int) ^ v := by
  have h : 2 ^ v < 2 ^ 64 := Nat.pow_lt_pow_right (by decide) (by omega)
  have := wrap_nat (2 ^ v) h
  push_cast at this
  exact this
theorem pow_wrap' (n : Nat) (hn : n ≤ 63) : IntKind.u64.wrap ((2 : Int) ^ n) = (2 : Int) ^ n := by
  have := wrap_nat (2 ^ n) (Nat.pow_lt_pow_right (by decide) (by omega))
  push_cast at this; exact this
theorem full_cast (n : Nat) : (2 : Int) ^ n - 1 = ((2 ^ n - 1 : Nat) : Int) := by
  have hp : 1 ≤ 2 ^ n := Nat.pow_pos (by decide)
  rw [Int.natCast_sub hp]; push_cast; rfl
theorem full_spell (n : Nat) (hn : n ≤ 63) : IntKind.u64.wrap ((2 : Int) ^ n - 1) = ((2 ^ n - 1 : Nat) : Int) := by
  rw [full_cast]
  exact wrap_nat (2 ^ n - 1) (Nat.lt_of_le_of_lt (Nat.sub_le _ _) (Nat.pow_lt_pow_right (by decide) (by omega)))
theorem or_spell (a v n : Nat) (ha : a < 2 ^ n) (hv : v < n) (hn : n ≤ 32) : bits .or .u64 (a : Int) ((2 : Int) ^ v) = ((putB a v : Nat) : Int) := by
  have h2 : 2 ^ v < 2 ^ 64 := p64 (pow_lt hv) hn
  have h1 := p64 ha hn
  have := u64_or_nat a (2 ^ v) (by simpa using h1) (by simpa using h2)
  push_cast at this
  rw [this]; rfl
theorem andn_spell (a b : Nat) (ha : a < 2 ^ 64) (hb : b < 2 ^ 64) : bits .andNot .u64 (a : Int) (b : Int) = ((andn a b : Nat) : Int) := by
  rw [u64_andNot_nat a b (by simpa using ha) (by simpa using hb)]
  have e : 18446744073709551615 - b = 2 ^ 64 - (b + 1) := by omega
  rw [e]; rfl
theorem drop_spell (a v n : Nat) (ha : a < 2 ^ n) (hv : v < n) (hn : n ≤ 32) : bits .andNot .u64 (a : Int) ((2 : Int) ^ v) = ((dropB a v : Nat) : Int) := by
  have h2 : 2 ^ v < 2 ^ 64 := p64 (pow_lt hv) hn
  have := andn_spell a (2 ^ v) (p64 ha hn) h2
  push_cast at this
  exact this
theorem has_spell (a v n : Nat) (ha : a < 2 ^ n) (hn : n ≤ 32) : (bits .and .u64 ((a : Int) / 2 ^ v) 1 == 1) = a.testBit v := by
  have h1 : ((a : Int) / 2 ^ v) = ((a / 2 ^ v : Nat) : Int) := by push_cast; rfl
  have := and_nat (a / 2 ^ v) 1 (Nat.lt_of_le_of_lt (Nat.div_le_self _ _) (p64 ha hn)) (by decide)
  rw [h1, show ((1 : Int)) = ((1 : Nat) : Int) from rfl, this, Nat.and_one_is_mod]
  rw [Nat.testBit_eq_decide_div_mod_eq, Bool.eq_iff_iff]
  simp
  omega
abbrev SetV (B n : Nat) : Value := .agg #[.int .u64 B, .int .i64 n]
theorem right_in (B n v : Nat) (w : World) (hv : v < n) (hn : n ≤ 32) : Calls Tryd.prog 30 #[SetV B n, .int .i64 v] w fun e w' => e = .returned (.bool true) ∧ Below w.heap.size w w' := by
  go_enter Tryd.func30, Tryd.ntmps30
  go_wp2
  go_ret
  exact ⟨rfl, bone w (.cells #[.int .u64 B, .int .i64 n] 26)⟩
theorem right_out (B n : Nat) (v : Int) (w : World) (hv : v < 0 ∨ n ≤ v) (hn : n ≤ 32) : Calls Tryd.prog 30 #[SetV B n, .int .i64 v] w fun e w' => e = .returned (.bool false) ∧ Below w.heap.size w w' := by
  by_cases h : 0 ≤ v
  · have h2 : (n : Int) ≤ v := by omega
    clear hv
    go_enter Tryd.func30, Tryd.ntmps30
    go_wp2
    go_ret
    exact ⟨ret_bool (by simp; omega), bone w (.cells #[.int .u64 B, .int .i64 n] 26)⟩
  · clear hv
    go_enter Tryd.func30, Tryd.ntmps30
    go_wp2
    go_ret
    exact ⟨rfl, bone w (.cells #[.int .u64 B, .int .i64 n] 26)⟩
theorem has_in (B n v : Nat) (w : World) (hB : B < 2 ^ n) (hv : v < n) (hn : n ≤ 32) : Calls Tryd.prog 12 #[SetV B n, .int .i64 v] w fun e w' => e = .returned (.bool (B.testBit v)) ∧ Below w.heap.size w w' := by
  have hs := has_spell B v n hB hn
  go_enter Tryd.func12, Tryd.ntmps12
  go_wp2_with fail
  refine (right_in B n v _ hv hn).mono ?_
  rintro e w1 ⟨rfl, hb1⟩
  have hcs := ((Blk.new w 26 #[.int .u64 B, .int .i64 n]).under hb1)
  have c0 : w1.cell? ⟨w.heap.size, 0, none⟩ = some (.int .u64 B) := hcs.cell 0
  have c1 : w1.cell? ⟨w.heap.size, 1, none⟩ = some (.int .i64 n) := hcs.cell 1
  go_wp2
  go_ret
  exact ⟨rfl, bto (bone w _) hb1⟩
theorem has_out (B n : Nat) (v : Int) (w : World) (hv : v < 0 ∨ n ≤ v) (hn : n ≤ 32) : Calls Tryd.prog 12 #[SetV B n, .int .i64 v] w fun e w' => e = .returned (.bool false) ∧ Below w.heap.size w w' := by
  go_enter Tryd.func12, Tryd.ntmps12
  go_wp2_with fail
  refine (right_out B n v _ hv hn).mono ?_
  rintro e w1 ⟨rfl, hb1⟩
  go_wp2
  go_ret
  exact ⟨rfl, bto (bone w _) hb1⟩
theorem put_in (B n v : Nat) (w : World) (hB : B < 2 ^ n) (hv : v < n) (hn : n ≤ 32) : Calls Tryd.prog 17 #[SetV B n, .int .i64 v] w fun e w' => e = .returned (SetV (putB B v) n) ∧ Below w.heap.size w w' := by
  have hw := pow_wrap v n hv hn
  have ho := or_spell B v n hB hv hn
  go_enter Tryd.func17, Tryd.ntmps17
  go_wp2_with fail
  refine (right_in B n v _ hv hn).mono ?_
  rintro e w1 ⟨rfl, hb1⟩
  have hcs := (((Blk.new w 26 #[.int .u64 B, .int .i64 n]).alloc (.cells #[.int .u64 0, .int .i64 0] 26)).under hb1)
  have hrs := ((Blk.new (w.alloc (.cells #[.int .u64 B, .int .i64 n] 26)) 26 #[.int .u64 0, .int .i64 0]).under hb1)
  rw [World.size_alloc] at hrs
  have c0 : w1.cell? ⟨w.heap.size, 0, none⟩ = some (.int .u64 B) := hcs.cell 0
  have c1 : w1.cell? ⟨w.heap.size, 1, none⟩ = some (.int .i64 n) := hcs.cell 1
  have f0 : w1.frozen? ⟨w.heap.size, 0, none⟩ = false := hcs.frozen 0
  have r0 : w1.cell? ⟨w.heap.size + 1, 0, none⟩ = some (.int .u64 0) := hrs.cell 0
  have r1 : w1.cell? ⟨w.heap.size + 1, 1, none⟩ = some (.int .i64 0) := hrs.cell 1
  have s0 : w1.frozen? ⟨w.heap.size + 1, 0, none⟩ = false := hrs.frozen 0
  have s1 : w1.frozen? ⟨w.heap.size + 1, 1, none⟩ = false := hrs.frozen 1
  have hB1 : Below w.heap.size w w1 := bto (bnew (bone w _) _) hb1
  go_wp2
  go_region
  go_wp2
  refine bodyPost_ret (v := SetV (putB B v) n) (by simp [results, Tryd.results17, go_sem, r0, r1, s0, s1, c0, c1]) rfl ⟨rfl, ?_⟩
  exact (((hB1.setCell (p := ⟨w.heap.size, 0, none⟩) (Nat.le_refl _) _).drew.setCell (p := ⟨w.heap.size + 1, 0, none⟩) (by simp) _).setCell (p := ⟨w.heap.size + 1, 1, none⟩) (by simp) _)
theorem put_out (B n : Nat) (v : Int) (w : World) (hv : v < 0 ∨ n ≤ v) (hn : n ≤ 32) : Calls Tryd.prog 17 #[SetV B n, .int .i64 v] w fun e w' => e = .returned (SetV B n) ∧ Below w.heap.size w w' := by
  go_enter Tryd.func17, Tryd.ntmps17
  go_wp2_with fail
  refine (right_out B n v _ hv hn).mono ?_
  rintro e w1 ⟨rfl, hb1⟩
  have hcs := (((Blk.new w 26 #[.int .u64 B, .int .i64 n]).alloc (.cells #[.int .u64 0, .int .i64 0] 26)).under hb1)
  have hrs := ((Blk.new (w.alloc (.cells #[.int .u64 B, .int .i64 n] 26)) 26 #[.int .u64 0, .int .i64 0]).under hb1)
  rw [World.size_alloc] at hrs
  have c0 : w1.cell? ⟨w.heap.size, 0, none⟩ = some (.int .u64 B) := hcs.cell 0
  have c1 : w1.cell? ⟨w.heap.size, 1, none⟩ = some (.int .i64 n) := hcs.cell 1
  have f0 : w1.frozen? ⟨w.heap.size, 0, none⟩ = false := hcs.frozen 0
  have r0 : w1.cell? ⟨w.heap.size + 1, 0, none⟩ = some (.int .u64 0) := hrs.cell 0
  have r1 : w1.cell? ⟨w.heap.size + 1, 1, none⟩ = some (.int .i64 0) := hrs.cell 1
  have s0 : w1.frozen? ⟨w.heap.size + 1, 0, none⟩ = false := hrs.frozen 0
  have s1 : w1.frozen? ⟨w.heap.size + 1, 1, none⟩ = false := hrs.frozen 1
  have hB1 : Below w.heap.size w w1 := bto (bnew (bone w _) _) hb1
  go_wp2
  refine bodyPost_ret (v := SetV B n) (by simp [results, Tryd.results17, go_sem, r0, r1, s0, s1, c0, c1]) rfl ⟨rfl, ?_⟩
  exact ((hB1.setCell (p := ⟨w.heap.size + 1, 0, none⟩) (by simp) _).setCell (p := ⟨w.heap.size + 1, 1, none⟩) (by simp) _)
theorem drop_in (B n v : Nat) (w : World) (hB : B < 2 ^ n) (hv : v < n) (hn : n ≤ 32) : Calls Tryd.prog 15 #[SetV B n, .int .i64 v] w fun e w' => e = .returned (SetV (dropB B v) n) ∧ Below w.heap.size w w' := by
  have hw := pow_wrap v n hv hn
  have ho := drop_spell B v n hB hv hn
  go_enter Tryd.func15, Tryd.ntmps15
  go_wp2_with fail
  refine (right_in B n v _ hv hn).mono ?_
  rintro e w1 ⟨rfl, hb1⟩
  have hcs := (((Blk.new w 26 #[.int .u64 B, .int .i64 n]).alloc (.cells #[.int .u64 0, .int .i64 0] 26)).under hb1)
  have hrs := ((Blk.new (w.alloc (.cells #[.int .u64 B, .int .i64 n] 26)) 26 #[.int .u64 0, .int .i64 0]).under hb1)
  rw [World.size_alloc] at hrs
  have c0 : w1.cell? ⟨w.heap.size, 0, none⟩ = some (.int .u64 B) := hcs.cell 0
  have c1 : w1.cell? ⟨w.heap.size, 1, none⟩ = some (.int .i64 n) := hcs.cell 1
  have f0 : w1.frozen? ⟨w.heap.size, 0, none⟩ = false := hcs.frozen 0
  have r0 : w1.cell? ⟨w.heap.size + 1, 0, none⟩ = some (.int .u64 0) := hrs.cell 0
  have r1 : w1.cell? ⟨w.heap.size + 1, 1, none⟩ = some (.int .i64 0) := hrs.cell 1
  have s0 : w1.frozen? ⟨w.heap.size + 1, 0, none⟩ = false := hrs.frozen 0
  have s1 : w1.frozen? ⟨w.heap.size + 1, 1, none⟩ = false := hrs.frozen 1
  have hB1 : Below w.heap.size w w1 := bto (bnew (bone w _) _) hb1
  go_wp2
  go_region
  go_wp2
  refine bodyPost_ret (v := SetV (dropB B v) n) (by simp [results, Tryd.results15, go_sem, r0, r1, s0, s1, c0, c1]) rfl ⟨rfl, ?_⟩
  exact (((hB1.setCell (p := ⟨w.heap.size, 0, none⟩) (Nat.le_refl _) _).drew.setCell (p := ⟨w.heap.size + 1, 0, none⟩) (by simp) _).setCell (p := ⟨w.heap.size + 1, 1, none⟩) (by simp) _)
theorem drop_out (B n : Nat) (v : Int) (w : World) (hv : v < 0 ∨ n ≤ v) (hn : n ≤ 32) : Calls Tryd.prog 15 #[SetV B n, .int .i64 v] w fun e w' => e = .returned (SetV B n) ∧ Below w.heap.size w w' := by
  go_enter Tryd.func15, Tryd.ntmps15
  go_wp2_with fail
  refine (right_out B n v _ hv hn).mono ?_
  rintro e w1 ⟨rfl, hb1⟩
  have hcs := (((Blk.new w 26 #[.int .u64 B, .int .i64 n]).alloc (.cells #[.int .u64 0, .int .i64 0] 26)).under hb1)
  have hrs := ((Blk.new (w.alloc (.cells #[.int .u64 B, .int .i64 n] 26)) 26 #[.int .u64 0, .int .i64 0]).under hb1)
  rw [World.size_alloc] at hrs
  have c0 : w1.cell? ⟨w.heap.size, 0, none⟩ = some (.int .u64 B) := hcs.cell 0
  have c1 : w1.cell? ⟨w.heap.size, 1, none⟩ = some (.int .i64 n) := hcs.cell 1
  have f0 : w1.frozen? ⟨w.heap.size, 0, none⟩ = false := hcs.frozen 0
  have r0 : w1.cell? ⟨w.heap.size + 1, 0, none⟩ = some (.int .u64 0) := hrs.cell 0
  have r1 : w1.cell? ⟨w.heap.size + 1, 1, none⟩ = some (.int .i64 0) := hrs.cell 1
  have s0 : w1.frozen? ⟨w.heap.size + 1, 0, none⟩ = false := hrs.frozen 0
  have s1 : w1.frozen? ⟨w.heap.size + 1, 1, none⟩ = false := hrs.frozen 1
  have hB1 : Below w.heap.size w w1 := bto (bnew (bone w _) _) hb1
  go_wp2
  refine bodyPost_ret (v := SetV B n) (by simp [results, Tryd.results15, go_sem, r0, r1, s0, s1, c0, c1]) rfl ⟨rfl, ?_⟩
  exact ((hB1.setCell (p := ⟨w.heap.size + 1, 0, none⟩) (by simp) _).setCell (p := ⟨w.heap.size + 1, 1, none⟩) (by simp) _)
theorem only_yes (B n v : Nat) (w : World) (hB : B < 2 ^ n) (hv : v < n) (hn : n ≤ 32) (hb : B.testBit v = true) : Calls Tryd.prog 18 #[SetV B n, .int .i64 v] w fun e w' => e = .returned (SetV (onlyB B v) n) ∧ Below w.heap.size w w' := by
  have hw := pow_wrap v n hv hn
  have ho : (2 : Int) ^ v = ((onlyB B v : Nat) : Int) := by unfold onlyB; rw [if_pos hb]; push_cast; rfl
  rw [ho] at hw
  have hh := fun w => has_in B n v w hB hv hn
  rw [hb] at hh
  clear hb
  go_enter Tryd.func18, Tryd.ntmps18
  go_wp2_with fail
  refine (hh _).mono ?_
  rintro e w1 ⟨rfl, hb1⟩
  have hcs := (((Blk.new w 26 #[.int .u64 B, .int .i64 n]).alloc (.cells #[.int .u64 0, .int .i64 0] 26)).under hb1)
  have hrs := ((Blk.new (w.alloc (.cells #[.int .u64 B, .int .i64 n] 26)) 26 #[.int .u64 0, .int .i64 0]).under hb1)
  rw [World.size_alloc] at hrs
  have c0 : w1.cell? ⟨w.heap.size, 0, none⟩ = some (.int .u64 B) := hcs.cell 0
  have c1 : w1.cell? ⟨w.heap.size, 1, none⟩ = some (.int .i64 n) := hcs.cell 1
  have f0 : w1.frozen? ⟨w.heap.size, 0, none⟩ = false := hcs.frozen 0
  have r0 : w1.cell? ⟨w.heap.size + 1, 0, none⟩ = some (.int .u64 0) := hrs.cell 0
  have r1 : w1.cell? ⟨w.heap.size + 1, 1, none⟩ = some (.int .i64 0) := hrs.cell 1
  have s0 : w1.frozen? ⟨w.heap.size + 1, 0, none⟩ = false := hrs.frozen 0
  have s1 : w1.frozen? ⟨w.heap.size + 1, 1, none⟩ = false := hrs.frozen 1
  have hB1 : Below w.heap.size w w1 := bto (bnew (bone w _) _) hb1
  go_wp2
  go_region
  go_wp2
  refine bodyPost_ret (v := SetV (onlyB B v) n) (by simp [results, Tryd.results18, go_sem, r0, r1, s0, s1, c0, c1]) rfl ⟨rfl, ?_⟩
  exact ((hB1.setCell (p := ⟨w.heap.size + 1, 0, none⟩) (by simp) _).setCell (p := ⟨w.heap.size + 1, 1, none⟩) (by simp) _).drew
theorem only_no (B n : Nat) (v : Int) (w : World) (hB : B < 2 ^ n) (hn : n ≤ 32) (hno : (v < 0 ∨ n ≤ v) ∨ ∃ i : Nat, v = i ∧ i < n ∧ B.testBit i = false) : Calls Tryd.prog 18 #[SetV B n, .int .i64 v] w fun e w' => e = .returned (SetV 0 n) ∧ Below w.heap.size w w' := by
  have hh : ∀ w, Calls Tryd.prog 12 #[SetV B n, .int .i64 v] w fun e w' => e = .returned (.bool false) ∧ Below w.heap.size w w' := fun w => by
    rcases hno with h | ⟨i, rfl, hi, hb⟩
    · exact has_out B n v w h hn
    · have := has_in B n i w hB hi hn; rwa [hb] at this
  clear hno
  go_enter Tryd.func18, Tryd.ntmps18
  go_wp2_with fail
  refine (hh _).mono ?_
  rintro e w1 ⟨rfl, hb1⟩
  have hcs := (((Blk.new w 26 #[.int .u64 B, .int .i64 n]).alloc (.cells #[.int .u64 0, .int .i64 0] 26)).under hb1)
  have hrs := ((Blk.new (w.alloc (.cells #[.int .u64 B, .int .i64 n] 26)) 26 #[.int .u64 0, .int .i64 0]).under hb1)
  rw [World.size_alloc] at hrs
  have c0 : w1.cell? ⟨w.heap.size, 0, none⟩ = some (.int .u64 B) := hcs.cell 0
  have c1 : w1.cell? ⟨w.heap.size, 1, none⟩ = some (.int .i64 n) := hcs.cell 1
  have f0 : w1.frozen? ⟨w.heap.size, 0, none⟩ = false := hcs.frozen 0
  have r0 : w1.cell? ⟨w.heap.size + 1, 0, none⟩ = some (.int .u64 0) := hrs.cell 0
  have r1 : w1.cell? ⟨w.heap.size + 1, 1, none⟩ = some (.int .i64 0) := hrs.cell 1
  have s0 : w1.frozen? ⟨w.heap.size + 1, 0, none⟩ = false := hrs.frozen 0
  have s1 : w1.frozen? ⟨w.heap.size + 1, 1, none⟩ = false := hrs.frozen 1
  have hB1 : Below w.heap.size w w1 := bto (bnew (bone w _) _) hb1
  go_wp2
  refine bodyPost_ret (v := SetV 0 n) (by simp [results, Tryd.results18, go_sem, r0, r1, s0, s1, c0, c1]) rfl ⟨rfl, ?_⟩
  exact ((hB1.setCell (p := ⟨w.heap.size + 1, 0, none⟩) (by simp) _).setCell (p := ⟨w.heap.size + 1, 1, none⟩) (by simp) _)
theorem len_any (B n : Nat) (w : World) (hB : B < 2 ^ n) (hn : n ≤ 32) : Calls Tryd.prog 11 #[SetV B n] w fun e w' => e = .returned (.int .i64 ((vals B n).length : Nat)) ∧ Below w.heap.size w w' := by
  have hp := popc_vals hB (by omega)
  go_enter Tryd.func11, Tryd.ntmps11
  go_wp2_with fail
  refine (ones_any B _ (p64 hB hn)).mono ?_
  rintro e w1 ⟨rfl, rfl⟩
  go_wp2
  go_ret
  exact ⟨rfl, bone w _⟩
theorem size_any (B n : Nat) (w : World) : Calls Tryd.prog 21 #[SetV B n] w fun e w' => e = .returned (.int .i64 n) ∧ Below w.heap.size w w' := by
  go_enter Tryd.func21, Tryd.ntmps21
  go_wp2
  go_ret
  exact ⟨rfl, bone w _⟩
theorem inter_same (A B n : Nat) (w : World) (hA : A < 2 ^ n) (hB : B < 2 ^ n) (hn : n ≤ 32) : Calls Tryd.prog 10 #[SetV A n, SetV B n] w fun e w' => e = .returned (.tuple #[SetV (A &&& B) n, .int .i64 0]) ∧ Below w.heap.size w w' := by
  have ha := and_spell A B (p64 hA hn) (p64 hB hn)
  go_enter Tryd.func10, Tryd.ntmps10
  go_wp2
  refine bodyPost_ret (v := .tuple #[SetV (A &&& B) n, .int .i64 0]) (by simp [results, Tryd.results10, go_sem]) rfl ⟨rfl, ?_⟩
  exact bnew (bnew (bone w _) _) _
theorem inter_other (A B n m : Nat) (w : World) (hnm : n ≠ m) (hn : n ≤ 32) (hm : m ≤ 32) : Calls Tryd.prog 10 #[SetV A n, SetV B m] w fun e w' => e = .returned (.tuple #[SetV 0 0, .int .i64 1]) ∧ Below w.heap.size w w' := by
  have hne : ((n : Int) != (m : Int)) = true := by simp; omega
  go_enter Tryd.func10, Tryd.ntmps10
  go_wp2
  refine bodyPost_ret (v := .tuple #[SetV 0 0, .int .i64 1]) (by simp [results, Tryd.results10, go_sem]) rfl ⟨rfl, ?_⟩
  exact bnew (bnew (bone w _) _) _
theorem new_in (n : Nat) (w : World) (h1 : 1 ≤ n) (hn : n ≤ 32) : Calls Tryd.prog 19 #[.int .i64 n] w fun e w' => e = .returned (.tuple #[SetV (2 ^ n - 1) n, .int .i64 0]) ∧ Below w.heap.size w w' := by
  have hw := pow_wrap' n (by omega)
  have ho := full_spell n (by omega)
  go_enter Tryd.func19, Tryd.ntmps19
  go_wp2
  refine bodyPost_ret (v := .tuple #[SetV (2 ^ n - 1) n, .int .i64 0]) (by simp [results, Tryd.results19, go_sem]) rfl ⟨rfl, ?_⟩
  exact bone w _
theorem new_out (n : Int) (w : World) (h : n < 1 ∨ 32 < n) : Calls Tryd.prog 19 #[.int .i64 n] w fun e w' => e = .returned (.tuple #[SetV 0 0, .int .i64 1]) ∧ Below w.heap.size w w' := by
  rcases h with h | h
  · go_enter Tryd.func19, Tryd.ntmps19
    go_wp2
    exact bodyPost_ret (v := .tuple #[SetV 0 0, .int .i64 1]) (by simp [results, Tryd.results19, go_sem]) rfl ⟨rfl, bone w _⟩
  · have h' : ¬ n < 1 := by omega
    go_enter Tryd.func19, Tryd.ntmps19
    go_wp2
    exact bodyPost_ret (v := .tuple #[SetV 0 0, .int .i64 1]) (by simp [results, Tryd.results19, go_sem]) rfl ⟨rfl, bone w _⟩
theorem full_bit (n i : Nat) : (2 ^ n - 1).testBit i = decide (i < n) := Nat.testBit_two_pow_sub_one n i
/-- what is left behind v -/
theorem rest_bit {B n k i : Nat} (hB : B < 2 ^ n) (hn : n ≤ 32) (hk : k < n) : (andn B (2 ^ (k + 1) - 1)).testBit i = (B.testBit i && decide (k < i)) := by
  rw [andn_bit _ _ _ (Nat.lt_of_le_of_lt (Nat.sub_le _ _) (Nat.pow_lt_pow_right (by decide) (by omega))) (p64 hB hn), full_bit]
  congr 1
  by_cases h : k < i
  · simp [h]; omega
  · simp [h]; omega
/-- Next of a set whose rest is R -/
theorem next_low (B n R : Nat) (v : Int) (w : World) (ht : Tab w) (h0w : 0 < w.heap.size) (hn : n ≤ 32) (hlt : v < (n : Int) - 1)
    (hR : (v < 0 ∧ R = B) ∨ (∃ k : Nat, v = k ∧ R = andn B (2 ^ (k + 1) - 1))) (hB : B < 2 ^ n) (j q : Nat) (hj : j < n) (hz : R = 2 ^ j * (2 * q + 1)) :
    Calls Tryd.prog 14 #[SetV B n, .int .i64 v] w fun e w' => e = .returned (.int .i64 j) ∧ Below w.heap.size w w' := by
  have hRl : R < 2 ^ 64 := by
    rcases hR with ⟨_, rfl⟩ | ⟨k, _, rfl⟩
    · exact p64 hB hn
    · exact Nat.lt_of_le_of_lt (andn_le _ _) (p64 hB hn)
  have hR0 : ((R : Int) == 0) = false := by
    have : 0 < R := by rw [hz]; exact Nat.mul_pos (Nat.pow_pos (by decide)) (by omega)
    simp; omega
  have htr := fun w ht => trail_any R j q w ht hRl (by omega) hz
  have ht1 : Tab (w.alloc (.cells #[.int .u64 B, .int .i64 n] 26)) := ht.below h0w (bone _ _)
  rcases hR with ⟨hv, rfl⟩ | ⟨k, rfl, hRe⟩
  · clear hz hRl hB
    go_enter Tryd.func14, Tryd.ntmps14
    go_wp2_with (first
      | (go_at_call 31; (with_reducible refine (htr _ ht1).mono ?_); rintro e w' ⟨rfl, rfl⟩)
      | fail)
    go_ret
    exact ⟨rfl, bone w _⟩
  · have hw := pow_wrap' (k + 1) (by omega)
    have hs := full_spell (k + 1) (by omega)
    have ha := andn_spell B (2 ^ (k + 1) - 1) (p64 hB hn) (Nat.lt_of_le_of_lt (Nat.sub_le _ _) (Nat.pow_lt_pow_right (by decide) (by omega)))
    rw [← hRe] at ha
    have hk1 : ((k : Int) + 1).toNat = k + 1 := by omega
    clear hz hRl hB hRe
    go_enter Tryd.func14, Tryd.ntmps14
    go_wp2_with (first
      | (go_at_call 31; (with_reducible refine (htr _ ht1).mono ?_); rintro e w' ⟨rfl, rfl⟩)
      | fail)
    go_ret
    exact ⟨rfl, bone w _⟩
theorem next_none (B n : Nat) (v : Int) (w : World) (hn : n ≤ 32) (hB : B < 2 ^ n)
    (hR : (n : Int) - 1 ≤ v ∨ (v < (n : Int) - 1 ∧ v < 0 ∧ B = 0) ∨ (∃ k : Nat, v = k ∧ v < (n : Int) - 1 ∧ andn B (2 ^ (k + 1) - 1) = 0)) :
    Calls Tryd.prog 14 #[SetV B n, .int .i64 v] w fun e w' => e = .returned (.int .i64 (-1)) ∧ Below w.heap.size w w' := by
  rcases hR with h | ⟨h, hv, rfl⟩ | ⟨k, rfl, h, hRe⟩
  · clear hB
    go_enter Tryd.func14, Tryd.ntmps14
    go_wp2
    go_ret
    exact ⟨rfl, bone w _⟩
  · clear hB
    go_enter Tryd.func14, Tryd.ntmps14
    go_wp2
    go_ret
    exact ⟨rfl, bone w (.cells #[.int .u64 (0 : Nat), .int .i64 n] 26)⟩
  · have hw := pow_wrap' (k + 1) (by omega)
    have hs := full_spell (k + 1) (by omega)
    have ha := andn_spell B (2 ^ (k + 1) - 1) (p64 hB hn) (Nat.lt_of_le_of_lt (Nat.sub_le _ _) (Nat.pow_lt_pow_right (by decide) (by omega)))
    rw [hRe] at ha
    have hk1 : ((k : Int) + 1).toNat = k + 1 := by omega
    clear hB hRe
    go_enter Tryd.func14, Tryd.ntmps14
    go_wp2
    go_ret
    exact ⟨rfl, bone w _⟩
/-- what Next answers -/
def NextOf (B n : Nat) (v : Int) (w : World) (e : Ending) (w' : World) : Prop := ∃ r : Int, e = .returned (.int .i64 r) ∧ Nx B n v r ∧ Below w.heap.size w w'
theorem next_any (B n : Nat) (v : Int) (w : World) (ht : Tab w) (h0w : 0 < w.heap.size) (hn : n ≤ 32) (hB : B < 2 ^ n) :
    Calls Tryd.prog 14 #[SetV B n, .int .i64 v] w fun e w' => NextOf B n v w e w' := by
  by_cases h1 : (n : Int) - 1 ≤ v
  · exact (next_none B n v w hn hB (.inl h1)).mono fun e w' ⟨he, hb⟩ => ⟨_, he, .inl ⟨rfl, fun i hi hv => by omega⟩, hb⟩
  · have hlt : v < (n : Int) - 1 := by omega
    obtain ⟨R, hR, hbit⟩ : ∃ R, ((v < 0 ∧ R = B) ∨ (∃ k : Nat, v = k ∧ R = andn B (2 ^ (k + 1) - 1))) ∧ ∀ i : Nat, R.testBit i = (B.testBit i && decide (v < i)) := by
      by_cases hv : v < 0
      · exact ⟨B, .inl ⟨hv, rfl⟩, fun i => by rw [decide_eq_true (by omega : v < (i : Int))]; simp⟩
      · obtain ⟨k, rfl⟩ : ∃ k : Nat, v = k := ⟨v.toNat, by omega⟩
        exact ⟨_, .inr ⟨k, rfl, rfl⟩, fun i => by rw [rest_bit hB hn (by omega : k < n)]; congr 1; simp⟩
    have hRn : R < 2 ^ n := by
      rcases hR with ⟨_, rfl⟩ | ⟨k, _, rfl⟩
      · exact hB
      · exact Nat.lt_of_le_of_lt (andn_le _ _) hB
    by_cases h0 : R = 0
    · refine (next_none B n v w hn hB ?_).mono fun e w' ⟨he, hb⟩ => ⟨_, he, .inl ⟨rfl, fun i hi hv => ?_⟩, hb⟩
      · rcases hR with ⟨hv, rfl⟩ | ⟨k, hk, rfl⟩
        · exact .inr (.inl ⟨hlt, hv, h0⟩)
        · exact .inr (.inr ⟨k, hk, hlt, h0⟩)
      · have := hbit i
        rw [h0, Nat.zero_testBit, decide_eq_true hv, Bool.and_true] at this
        exact this.symm
    · obtain ⟨j, q, hj, hz⟩ := low_of n R (by omega) hRn
      obtain ⟨l1, l2⟩ := low_bit j q
      rw [← hz] at l1 l2
      refine (next_low B n R v w ht h0w hn hlt hR hB j q hj hz).mono fun e w' ⟨he, hb⟩ => ⟨_, he, .inr ⟨j, hj, rfl, ?_, ?_, fun i h1 h2 => ?_⟩, hb⟩
      · have := hbit j; rw [l1] at this; simpa using (Bool.and_eq_true_iff.1 this.symm).2
      · have := hbit j; rw [l1] at this; exact (Bool.and_eq_true_iff.1 this.symm).1
      · have := hbit i; rw [l2 i h2, decide_eq_true h1, Bool.and_true] at this; exact this.symm
theorem next_is (B n : Nat) (v r : Int) (w : World) (ht : Tab w) (h0w : 0 < w.heap.size) (hn : n ≤ 32) (hB : B < 2 ^ n) (hx : Nx B n v r) :
    Calls Tryd.prog 14 #[SetV B n, .int .i64 v] w fun e w' => e = .returned (.int .i64 r) ∧ Below w.heap.size w w' :=
  (next_any B n v w ht h0w hn hB).mono fun e w' h => by
    obtain ⟨s, he, hs, hb⟩ := h
    exact ⟨by rw [he, hs.uniq hx], hb⟩
theorem first_any (B n : Nat) (w : World) (ht : Tab w) (h0w : 0 < w.heap.size) (hn : n ≤ 32) (hB : B < 2 ^ n) :
    Calls Tryd.prog 13 #[SetV B n] w fun e w' => NextOf B n (-1) w e w' := by
  have ht1 : Tab (w.alloc (.cells #[.int .u64 B, .int .i64 n] 26)) := ht.below h0w (bone _ _)
  go_enter Tryd.func13, Tryd.ntmps13
  go_wp2_with fail
  refine (next_any B n (-1) _ ht1 (by simp) hn hB).mono ?_
  rintro e w1 ⟨r, rfl, hr, hb⟩
  go_wp2
  go_ret
  exact ⟨r, rfl, hr, bto (bone w _) hb⟩
end Go.Proofs.YtcmglgkopgfheaaDoor.bit
