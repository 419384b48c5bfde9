/- IsSortedI. -/
import Derived.Test.YtjpkkkphhaajgaaGreatDoorQpP01
import Derived.Test.YtjpkkkphhaajgaaGreatDoorQpReads
import Derived.Deep.RegionHeld3
import Derived.Deep.Cut
set_option linter.all false
/- slices.IsSorted over numbers that rise. -/
namespace Go.Proofs.YtjpkkkphhaajgaaGreatDoor.words
open Go Go.RowKit Go.ChangeShapes Go.WideShapes
theorem isnanI2_any (a : Int) (w : World) : Calls Tryz.prog 112 #[.int .i64 a] w fun e w' => e = .returned (.bool false) ∧ w = w' := by
 go_enter Tryz.func112, Tryz.ntmps112
 go_wp2
 go_ret
 exact ⟨rfl, rfl⟩
theorem lessI_any (a b : Int) (w : World) : Calls Tryz.prog 49 #[.int .i64 a, .int .i64 b] w fun e w' => e = .returned (.bool (decide (a < b))) ∧ w = w' := by
 have h1 := isnanI2_any a w
 obtain ⟨q, hq⟩ : ∃ q, decide (a < b) = q := ⟨_, rfl⟩
 rw [hq]
 go_enter Tryz.func49, Tryz.ntmps49
 go_wp2_with fail
 refine h1.mono ?_
 rintro e w1 ⟨rfl, rfl⟩
 go_wp2_with fail
 go_ret
 exact ⟨by first | rfl | rw [← hq], rfl⟩
set_option maxRecDepth 100000 in
set_option maxHeartbeats 4000000 in
theorem issortedI_any (A : Option Addr) (n c : Nat) (xs : List Int) (w : World) (hn : n ≤ 1000000) (hr : Reads w w.heap.size 1 A n (nums xs)) (hp : xs.Pairwise (fun a b => a ≤ b)) :
 Calls Tryz.prog 11 #[.slice A n c] w fun e w' => e = .returned (.bool true) ∧ Below w.heap.size w w' := by
 have HR := Lib.hid hr
 have HP := Lib.hid hp
 clear hr hp
 go_enter Tryz.func11, Tryz.ntmps11
 have hw1 : IntKind.i64.wrap ((n : Int) - 1) = (n : Int) - 1 := IntWalk.i64_in _ (by omega)
 have hw2 : wrap64 ((n : Int) - 1) = (n : Int) - 1 := by unfold wrap64; omega
 go_wp2_with fail
 go_loopw [3] (fun iv wr => ∃ j : Int, iv = .int .i64 j ∧ -1 ≤ j ∧ j < n ∧ Below w.heap.size w wr) (fun iv _ => (intOf iv).toNat)
 case atStart => exact ⟨(n : Int) - 1, by first | rfl | rw [hw1] | rw [hw2], by omega, by omega, Below.refl _ _⟩
 case round =>
  clear hw1 hw2
  obtain ⟨j, rfl, hj0, hjn, hB⟩ := hrel
  by_cases h0 : 0 < j
  ·obtain ⟨q, rfl⟩ : ∃ q : Nat, j = (q : Int) + 1 := ⟨(j - 1).toNat, by omega⟩
   have hb : Below w.heap.size w wr.drew := hB.drew
   obtain ⟨ad, x, rfl, _, hx, hcx⟩ := (HR.out.below hb).num (k := q + 1) (by omega)
   obtain ⟨ad2, y, had, _, hy, hcy⟩ := (HR.out.below hb).num (k := q) (by omega)
   obtain rfl := Option.some.inj had
   have hle : y ≤ x := by
    obtain ⟨h1, rfl⟩ := List.getElem?_eq_some_iff.1 hx
    obtain ⟨h2, rfl⟩ := List.getElem?_eq_some_iff.1 hy
    exact List.pairwise_iff_getElem.1 HP.out q (q + 1) h2 h1 (by omega)
   have hls := lessI_any x y wr.drew
   rw [decide_eq_false (show ¬ x < y by omega)] at hls
   have i0 : (0 : Int) ≤ (q : Int) := by omega
   have i1 : (q : Int) + 1 < (n : Int) := by omega
   have i2 : (q : Int) < (n : Int) := by omega
   have i3 : (0 : Int) ≤ (q : Int) + 1 := by omega
   have hw1 : IntKind.i64.wrap ((q : Int) + 1 - 1) = (q : Int) := by rw [IntWalk.i64_in _ (by omega)]; omega
   have hw2 : wrap64 ((q : Int) + 1 - 1) = (q : Int) := by unfold wrap64; omega
   have hw3 : (q : Int) + 1 - 1 = (q : Int) := by omega
   have hw4 : IntKind.i64.wrap (q : Int) = (q : Int) := IntWalk.i64_in _ (by omega)
   have hw5 : wrap64 (q : Int) = (q : Int) := by unfold wrap64; omega
   have hg : decide ((0 : Int) < (q : Int) + 1) = true := decide_eq_true (by omega)
   obtain ⟨q1, hq1⟩ : ∃ q1 : Nat, q + 1 = q1 := ⟨_, rfl⟩
   have hqi : (q : Int) + 1 = (q1 : Int) := by omega
   have HQ := Lib.hid hqi
   rw [hq1] at hcx
   rw [hqi] at hw1 hw2 hw3 hg i1 i3 ⊢
   have HBB := Lib.hid hB
   clear hx hy had hB hle hq1 hqi
   go_upto_region 4 with fail
   refine wp_region_held_drew (S := (fun W => W.cell? (ad.add q1) = some (.int .i64 x) ∧ W.cell? (ad.add q) = some (.int .i64 y))) (by kernel_rfl) ⟨hcx, hcy⟩ (fun hHeld => ?_)
   refine wpAnyH_take (i := 0) (v := ?va0) rfl (by kernel_rfl) (by kernel_rfl) (by kernel_rfl) (fun _ _ _ h => h) (Or.inl ⟨by kernel_rfl, ?hya0⟩) hHeld ?resta0
   case hya0 => (intro w hSw; (try dsimp only at hSw); go_simp; try with_reducible rfl)
   try simp only [Act.put, List.setIfInBounds_toArray, List.set_cons_zero, List.set_cons_succ]
   refine wpAnyH_take (i := 1) (v := ?va1) rfl (by kernel_rfl) (by kernel_rfl) (by kernel_rfl) (fun _ _ _ h => h) (Or.inl ⟨by kernel_rfl, ?hya1⟩) hHeld ?resta1
   case hya1 => (intro w hSw; (try dsimp only at hSw); go_simp; try with_reducible rfl)
   try simp only [Act.put, List.setIfInBounds_toArray, List.set_cons_zero, List.set_cons_succ]
   refine wpAnyH_take (i := 2) (v := ?va2) rfl (by kernel_rfl) (by kernel_rfl) (by kernel_rfl) (fun _ _ _ h => h) (Or.inl ⟨by kernel_rfl, ?hya2⟩) hHeld ?resta2
   case hya2 => (intro w hSw; (try dsimp only at hSw); go_simp; try with_reducible rfl)
   try simp only [Act.put, List.setIfInBounds_toArray, List.set_cons_zero, List.set_cons_succ]
   refine wpAnyH_take (i := 3) (v := ?va3) rfl (by kernel_rfl) (by kernel_rfl) (by kernel_rfl) (fun _ _ _ h => h) (Or.inl ⟨by kernel_rfl, ?hya3⟩) hHeld ?resta3
   case hya3 => (intro w hSw; (try dsimp only at hSw); go_simp; try with_reducible rfl)
   try simp only [Act.put, List.setIfInBounds_toArray, List.set_cons_zero, List.set_cons_succ]
   refine wpAnyH_take (i := 4) (v := ?va4) rfl (by kernel_rfl) (by kernel_rfl) (by kernel_rfl) (fun _ _ _ h => h) (Or.inl ⟨by kernel_rfl, ?hya4⟩) hHeld ?resta4
   case hya4 => (intro w hSw; (try dsimp only at hSw); go_simp; try with_reducible rfl)
   try simp only [Act.put, List.setIfInBounds_toArray, List.set_cons_zero, List.set_cons_succ]
   refine wpAnyH_take (i := 5) (v := ?va5) rfl (by kernel_rfl) (by kernel_rfl) (by kernel_rfl) (fun _ _ _ h => h) (Or.inl ⟨by kernel_rfl, ?hya5⟩) hHeld ?resta5
   case hya5 => (intro w hSw; (try dsimp only at hSw); go_simp; try with_reducible rfl)
   try simp only [Act.put, List.setIfInBounds_toArray, List.set_cons_zero, List.set_cons_succ]
   refine wpAnyH_take (i := 6) (v := ?va6) rfl (by kernel_rfl) (by kernel_rfl) (by kernel_rfl) (fun _ _ _ h => h) (Or.inl ⟨by kernel_rfl, ?hya6⟩) hHeld ?resta6
   case hya6 => (intro w hSw; (try dsimp only at hSw); go_simp; try with_reducible rfl)
   try simp only [Act.put, List.setIfInBounds_toArray, List.set_cons_zero, List.set_cons_succ]
   refine wpAnyH_take (i := 7) (v := ?va7) rfl (by kernel_rfl) (by kernel_rfl) (by kernel_rfl) (fun _ _ _ h => h) (Or.inl ⟨by kernel_rfl, ?hya7⟩) hHeld ?resta7
   case hya7 => (intro w hSw; (try dsimp only at hSw); go_simp; try with_reducible rfl)
   try simp only [Act.put, List.setIfInBounds_toArray, List.set_cons_zero, List.set_cons_succ]
   refine wpAnyH_take (i := 8) (v := ?va8) rfl (by kernel_rfl) (by kernel_rfl) (by kernel_rfl) (fun _ _ _ h => h) (Or.inl ⟨by kernel_rfl, ?hya8⟩) hHeld ?resta8
   case hya8 => (intro w hSw; (try dsimp only at hSw); go_simp; try with_reducible rfl)
   try simp only [Act.put, List.setIfInBounds_toArray, List.set_cons_zero, List.set_cons_succ]
   refine wpAnyH_ready (rs := [9]) (by kernel_rfl) (by simp) ?_
   refine AllReadyH.cons rfl (fun K hK => ?_) AllReadyH.nil
   go_simp
   refine hls.mono ?_
   rintro e w2 ⟨rfl, rfl⟩
   dsimp only
   refine hK.out _ _ hHeld (fun hHeld2 => ?_)
   clear hK K hls
   refine wpAnyH_done (by kernel_rfl) ?_ _
   go_simp
   go_wp2_with fail
   go_roundw
   case measure => simp [intOf]; omega
   case rel => exact ⟨(q : Int), by first | rfl | rw [hw1] | rw [hw2] | rw [hw3], by omega, by have := HQ.out; omega, HBB.out.drew⟩
  ·have hg : decide ((0 : Int) < j) = false := decide_eq_false h0
   have HBB := Lib.hid hB
   clear hB
   go_wp2_with fail
   go_ret
   exact ⟨rfl, HBB.out⟩
end Go.Proofs.YtjpkkkphhaajgaaGreatDoor.words
