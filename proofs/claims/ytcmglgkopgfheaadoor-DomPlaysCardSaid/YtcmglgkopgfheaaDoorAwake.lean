/- The document's example of sets; lists of integers alike; Len64. -/
import Derived.Test.YtcmglgkopgfheaaDoorMade
import Derived.Deep.RegionHeld3
namespace Go.Proofs.YtcmglgkopgfheaaDoor.bit
open Go.ChangeShapes Go.WideShapes Go.ChangeAt Go.RowKit Go.Proofs.YtcmglgkopgfheaaDoor.words
set_option linter.unusedVariables false
theorem nx_lit : Nx (dropB (2 ^ 4 - 1) 1) 4 0 2 := by
  refine .inr ⟨2, by decide, rfl, by decide, by decide, fun i h1 h2 => ?_⟩
  obtain rfl : i = 1 := by omega
  decide
theorem len_lit : (vals (dropB (2 ^ 4 - 1) 1) 4).length = 3 := by decide
theorem awake_any (w : World) (ht : Tab w) (h0w : 0 < w.heap.size) : Calls Tryd.prog 8 #[] w fun e w' => e = .returned (.bool true) ∧ Below w.heap.size w w' := by
  have hl : dropB (2 ^ 4 - 1) 1 < 2 ^ 4 := by decide
  have hn := new_in 4 w (by decide) (by decide)
  have hd := fun w => drop_in (2 ^ 4 - 1) 4 1 w (by decide) (by decide) (by decide)
  have hx := nx_lit
  have hc := len_lit
  obtain ⟨F, hF⟩ : ∃ F, 2 ^ 4 - 1 = F := ⟨_, rfl⟩
  rw [hF] at hl hn hd hx hc
  clear hF
  obtain ⟨D, hD⟩ : ∃ D, dropB F 1 = D := ⟨_, rfl⟩
  rw [hD] at hl hd hx hc
  clear hD
  have hx' := fun w ht h0 => next_is D 4 0 2 w ht h0 (by decide) hl hx
  have hc' := fun w => len_any D 4 w hl (by decide)
  rw [hc] at hc'
  go_enter Tryd.func8, Tryd.ntmps8
  go_wp2_with fail
  refine hn.mono ?_
  rintro e w1 ⟨rfl, hb1⟩
  have hs1 := Blk.new w1 26 #[.int .u64 F, .int .i64 (4 : Nat)]
  have hB1 := bnew hb1 (.cells #[.int .u64 F, .int .i64 (4 : Nat)] 26)
  have hsz := hb1.size
  go_wp2_with fail
  refine (hd _).mono ?_
  rintro e w2 ⟨rfl, hb2⟩
  have hs2 := hs1.under hb2
  have hc0 := hs2.cell 0
  have hc1 := hs2.cell 1
  have hf0 := hs2.frozen 0
  have hf1 := hs2.frozen 1
  have hB2 := bto hB1 hb2
  have hs3 := (hs2.set_ 0 (.int .u64 D)).set_ 1 (.int .i64 (4 : Nat))
  have hB3 := (hB2.setCell (p := ⟨w1.heap.size, 0, none⟩) (by simpa using hsz) (.int .u64 D)).setCell (p := ⟨w1.heap.size, 1, none⟩) (by simpa using hsz) (.int .i64 (4 : Nat))
  go_wp2_with fail
  refine (hc' _).mono ?_
  rintro e w3 ⟨rfl, hb3⟩
  have hB4 := bto hB3 hb3
  have hs4 := hs3.under hb3
  have d0 : w3.cell? ⟨w1.heap.size, 0, none⟩ = some (.int .u64 D) := hs4.cell 0
  have d1 : w3.cell? ⟨w1.heap.size, 1, none⟩ = some (.int .i64 (4 : Nat)) := hs4.cell 1
  have ht4 := ht.below h0w hB4
  go_wp2_with fail
  refine (hx' _ ht4 (Nat.lt_of_lt_of_le h0w hB4.size)).mono ?_
  rintro e w5 ⟨rfl, hb5⟩
  go_wp2
  go_ret
  exact ⟨rfl, bto hB4 hb5⟩
end Go.Proofs.YtcmglgkopgfheaaDoor.bit
