/- The values of a set, by its iterator; collected. -/
import Derived.Test.YtcmglgkopgfheaaDoorSetCon
import Derived.Test.YtcmglgkopgfheaaDoorMade
import Derived.RangeFuncBox
import Derived.RangeFuncBound
import Derived.RangeFuncLeaves
import Derived.Shelf.Abstract
import Derived.WalkKit
import Derived.OwnWalkIn
import Derived.TacticsInMore
import Derived.LoopNIn
import Derived.LoopIn
import Derived.Maps.AppendAt
namespace Go.Proofs.YtcmglgkopgfheaaDoor.bit
open Go Go.RowKit Go.Shelf Go.ChangeShapes Go.WideShapes Go.ChangeAt Go.Proofs.YtcmglgkopgfheaaDoor.words
set_option linter.unusedVariables false
attribute [local go_sem] Oper.semAt_some
theorem vals_gap {S a : Nat} : ∀ {b : Nat}, a ≤ b → (∀ i, a ≤ i → i < b → S.testBit i = false) → vals S b = vals S a
  | 0, h, _ => by rw [show a = 0 by omega]
  | b + 1, h, hz => by
    by_cases e : a = b + 1
    · rw [e]
    · rw [vals_succ, hz b (by omega) (by omega), vals_gap (by omega) fun i h1 h2 => hz i h1 (by omega)]; simp
/-- the values that have come, and the next one -/
def Come (S k : Nat) (G : List Int) (r : Int) : Prop := (r = -1 ∧ G = vals S k) ∨ (∃ j : Nat, r = j ∧ j < k ∧ S.testBit j = true ∧ G = vals S j)
theorem come_next {S k : Nat} {v r : Int} {p : Nat} (hp : v + 1 = p) (hpk : p ≤ k) (h : Nx S k v r) : Come S k (vals S p) r := by
  rcases h with ⟨rfl, hz⟩ | ⟨j, hj, rfl, hvj, hb, hz⟩
  · exact .inl ⟨rfl, (vals_gap hpk fun i h1 h2 => hz i h2 (by omega)).symm⟩
  · exact .inr ⟨j, rfl, hj, hb, (vals_gap (by omega) fun i h1 h2 => hz i (by omega) h2).symm⟩
theorem wide_fn (k : Nat) : Fence.wide.fn k := trivial
theorem vals_mono (S : Nat) {j k : Nat} (h : j ≤ k) : (vals S j).length ≤ (vals S k).length := by
  induction k with
  | zero => rw [show j = 0 by omega]; exact Nat.le_refl _
  | succ k ih =>
    by_cases e : j = k + 1
    · rw [e]; exact Nat.le_refl _
    · rw [vals_succ, List.length_append]; have := ih (by omega); omega
set_option maxRecDepth 100000 in
set_option maxHeartbeats 4000000 in
theorem vals1_in (n : Nat) (hn : 1 ≤ n) (l gs n₀ S k : Nat) (hS : S < 2 ^ k) (hk : k ≤ 32) (hgs : gs < n₀) (hz : 0 < n₀) (J Jx : List Int → World → Prop)
    (hY : ∀ pre x W, J pre W → pre.length < 32 → YieldAt Fence.wide (n - 1) Tryd.prog l #[.int .i64 x] W fun e W' =>
      (e = .returned (.bool true) ∧ J (pre ++ [x]) W' ∧ Below n₀ W W') ∨ (e = .returned (.bool false) ∧ Jx (pre ++ [x]) W'))
    (W : World) (hn₀ : n₀ ≤ W.heap.size) (hJ : AbidesFrom W.heap.size J) (ht : Tab W) (hb : Blk W gs 26 #[.int .u64 S, .int .i64 k]) (h0 : J [] W) :
    CallsIn Fence.wide n Tryd.prog 32 #[.func (.yield l) #[] #[], .pointer (some ⟨gs, 0, none⟩)] W fun e W' => (∃ v, e = .returned v) ∧
      ((∃ ys, ys = vals S k ∧ J ys W') ∨ (∃ pre, True ∧ Jx pre W')) := by
  have f13 := wide_fn 13
  have f14 := wide_fn 14
  obtain ⟨b0, b1⟩ := hb.two
  have hfi := first_any S k W ht (Nat.lt_of_lt_of_le hz hn₀) hk hS
  have hstep : Hid (∀ ys W1 W2, J ys W1 → Below W1.heap.size W1 W2 → J ys W2) := fun ys W1 W2 h hbl => hJ ys W1 W2 none h (only_of_below hbl none) (fun r e => by cases e)
  refine callsIn_of_wp Tryd.func32 rfl trivial ?_ rfl
  simp only [Tryd.ntmps32, List.size_toArray, List.length_cons, List.length_nil, Nat.reduceAdd, Nat.reduceSub, Array.replicate_succ, Array.replicate_zero, List.push_toArray, List.append_toArray, List.nil_append, List.cons_append]
  gi_wp2_with (gi_at_call 13; refine (callsIn_wide.2 hfi).mono ?_; rintro e w1 ⟨r, rfl, hr, hb1⟩)
  have hC0 := come_next (p := 0) (by omega) (by omega) hr
  have hB0 : Below n₀ W w1 := hb1.mono hn₀
  have hJ0 := hstep.out _ _ _ h0 hb1
  clear hfi hr hb1
  gi_loopw [3] (fun rv wr => ∃ (G : List Int) (r : Int), rv = .int .i64 r ∧ Come S k G r ∧ J G wr ∧ Below n₀ W wr)
    (fun rv _ => if intOf rv < 0 then 0 else k - (intOf rv).toNat)
  case atStart => exact ⟨[], r, rfl, hC0, hJ0, hB0⟩
  case round =>
    clear hC0 hJ0 hB0
    obtain ⟨G, r, rfl, hC, hJG, hB⟩ := hrel
    by_cases hr0 : 0 ≤ r
    · obtain ⟨j, rfl, hjk, hbit, hG⟩ : ∃ j : Nat, r = j ∧ j < k ∧ S.testBit j = true ∧ G = vals S j := by
        rcases hC with ⟨h, _⟩ | h
        · omega
        · exact h
      have hGl : G.length < 32 := by rw [hG]; have := vals_len_le S j; omega
      have hv := vals_succ S j
      rw [hbit, if_pos rfl, ← hG] at hv
      obtain ⟨fn, tmps, assign, body, hy, hR⟩ := hY G j wr hJG hGl
      have hnx : Hid (∀ w, Below n₀ W w → Calls Tryd.prog 14 #[SetV S k, .int .i64 j] w (NextOf S k j w)) := fun w hw => next_any S k j w (ht.below hz hw) (Nat.lt_of_lt_of_le hz (Nat.le_trans hn₀ hw.size)) hk hS
      have hbx : Hid (∀ w, Below n₀ W w → w.cell? ⟨gs, 0, none⟩ = some (.int .u64 S) ∧ w.cell? ⟨gs, 1, none⟩ = some (.int .i64 k)) := fun w hw => (hb.below hw hgs).two
      have HV := Lib.hid hv
      have HB := Lib.hid hB
      clear hC hG hbit hv hJG hB
      gi_wp2
      refine hR.mono ?_
      rintro e W3 (⟨rfl, hJ3, hk3⟩ | ⟨rfl, hJx3⟩)
      · have hB3 := HB.out.trans hk3
        obtain ⟨c0, c1⟩ := hbx.out W3 hB3
        have hn3 := hnx.out W3 hB3
        gi_wp2_with (gi_at_call 14; refine (callsIn_wide.2 hn3).mono ?_; rintro e w5 ⟨r', rfl, hr', hb5⟩)
        have HC := Lib.hid (come_next (p := j + 1) (by omega) (by omega) hr')
        go_roundw
        case rel => exact ⟨G ++ [(j : Int)], r', rfl, by rw [← HV.out]; exact HC.out, hstep.out _ _ _ hJ3 hb5, hB3.trans (hb5.mono (Nat.le_trans hn₀ hB3.size))⟩
        case measure =>
          simp only [intOf]
          rcases hr' with ⟨rfl, _⟩ | ⟨i, hi, rfl, hji, _⟩
          · have h1 : ¬ ((j : Int) < 0) := by omega
            simp [h1]; omega
          · have h1 : ¬ ((j : Int) < 0) := by omega
            have h2 : ¬ ((i : Int) < 0) := by omega
            simp [h1, h2]; omega
      · gi_wp2
        refine bodyPost_ret (results_none rfl _ _ _) rfl ?_
        exact ⟨⟨_, rfl⟩, .inr ⟨_, trivial, hJx3⟩⟩
    · obtain rfl : G = vals S k := by
        rcases hC with ⟨_, h⟩ | ⟨j, rfl, _⟩
        · exact h
        · omega
      clear hC
      gi_wp2
      go_end0
      exact ⟨⟨_, rfl⟩, .inl hJG⟩
theorem vals_stops (n : Nat) (hn : 1 ≤ n) (gs n₀ S k : Nat) (hS : S < 2 ^ k) (hk : k ≤ 32) (hgs : gs < n₀) (w : World) (hn₀ : n₀ ≤ w.heap.size) (ht : Tab w) (hb : Blk w gs 26 #[.int .u64 S, .int .i64 k]) :
    SeqStopsK Fence.wide n Tryd.prog 32 #[.pointer (some ⟨gs, 0, none⟩)] (fun x : Int => #[Value.int .i64 x]) (Below n₀) (fun ys => ys = vals S k) (fun _ => True) 32 w := fun l J Jx W hW hJ _ hY h0 =>
  vals1_in n hn l gs n₀ S k hS hk hgs (by omega) J Jx hY W (Nat.le_trans hn₀ hW.size) hJ (ht.below (by omega) hW) (hb.under hW) h0
theorem values_any (S k : Nat) (w : World) : Calls Tryd.prog 20 #[SetV S k] w fun e w' => e = .returned (.func (.func 32) #[] #[.pointer (some ⟨w.heap.size, 0, none⟩)]) ∧ w.alloc (.cells #[.int .u64 S, .int .i64 k] 26) = w' := by
  go_enter Tryd.func20, Tryd.ntmps20
  go_wp2
  go_ret
  exact ⟨rfl, rfl⟩
set_option maxRecDepth 100000 in
set_option maxHeartbeats 2000000 in
theorem append_seq (gs S k : Nat) (hS : S < 2 ^ k) (hk : k ≤ 32) (w : World) (ht : Tab w) (hb : Blk w gs 26 #[.int .u64 S, .int .i64 k]) :
    Calls Tryd.prog 35 #[.slice none 0 0, .func (.func 32) #[] #[.pointer (some ⟨gs, 0, none⟩)]] w fun e w' => ∃ A c, e = .returned (.slice A (vals S k).length c) ∧ w'.ownsRow w.heap.size 3 1 (.slice A (vals S k).length c) (vals S k).length (nums (vals S k)) ∧ Below w.heap.size w w' := by
  obtain ⟨i0, hi, hz0, hz1, hz2⟩ := info_parts infoI
  have hgs := hb.lt
  refine (callsIn_wide (n := 4)).1 ?_
  refine callsIn_of_wp_marks Tryd.func35 rfl trivial ?_ rfl
  simp only [Tryd.ntmps35, List.size_toArray, List.length_cons, List.length_nil, Nat.reduceAdd, Nat.reduceSub, Array.replicate_succ, Array.replicate_zero, List.push_toArray, List.append_toArray, List.nil_append, List.cons_append]
  gi_wp2
  have bO := Boxed.new w 27 (.slice none 0 0)
  have hB0 : Below w.heap.size w (w.alloc (.cells #[.slice none 0 0] 27)) := bone _ _
  refine wpIn_rangeFunc_ownG rfl (by omega) (gf := 32) (lb := #[.pointer (some ⟨gs, 0, none⟩)]) rfl trivial (enters_of Tryd.func32 (by kernel_rfl) rfl)
    (vals_stops (4 - 1) (by omega) gs w.heap.size S k hS hk hgs (w.alloc (.cells #[.slice none 0 0] 27)) (by simp) (ht.below (Nat.lt_of_le_of_lt (Nat.zero_le _) hgs) hB0) (hb.under hB0)) belowK_t (belowK_b (by simp)) (Below.refl _ _) (fun _ => rfl)
    (fun pre W => (∃ v, Boxed W w.heap.size 27 v ∧ W.ownsRow w.heap.size 3 1 v pre.length (pre.map (Value.int .i64)) ∧ True) ∧ Below w.heap.size w W)
    (fun _ _ _ => False)
    (OwnFrom.and (Own.from (holdsRow_own w.heap.size w.heap.size 27 3 1 (fun pre : List Int => pre.length) (fun pre : List Int => pre.map (Value.int .i64)) (fun (pre : List Int) v => True)) _) (ownFrom_below (Nat.le_refl _) (by simp)))
    (fun _ _ _ _ _ hs _ _ => hs)
    ⟨⟨_, bO, World.ownsRow_nil _ _ _ _, trivial⟩, hB0⟩
    (fun x => { tmps := #[.slice none 0 0, .func (.func 32) #[] #[.pointer (some ⟨gs, 0, none⟩)], .pointer (some ⟨w.heap.size, 0, none⟩), undef, .slice none 0 0, .int .i64 x, .func (.func 32) #[] #[.pointer (some ⟨gs, 0, none⟩)], .int .i64 x, undef, undef, undef, undef, undef], defers := [] }) ?assign ?body ?done ?stop
  case assign =>
    intro l x W K hK
    gi_wp2
    exact hK
  case body =>
    rintro l pre x W ⟨⟨v, hv, hrow, _⟩, hB⟩ hlt
    have hc := hv.cell
    gi_wp2_with (gi_at_builtin; refine wpListIn_append_own _ rfl _ _ 27 rfl w.heap.size 3 i0 (.int .i64 0) 1 8 Tryd.underlying27 hi hz0 hz1 hz2 rfl (by decide) _ _ _ rfl (hrow.alloc _) ⟨W.heap.size, 0, none⟩ 1 1 [.int .i64 x] rfl rfl (cell_one_new _ _ _) (by simp [Value.oneCell']) (by simp only [maxLen]; omega) (by omega) (by have := hB.size; simp; omega) ?_; intro v' w1 hown' hgrow _; obtain ⟨g', cap', rfl⟩ := ownsRow_succ hown'; obtain ⟨hv1, hv2, hr2, hk2, hb2⟩ := hv.appended (by decide) hrow hB.size (Nat.le_refl _) hown' hgrow; have hc1 := hv1.cell; have hf1 := hv1.frozen)
    exact ⟨hk2.from _, hb2, ⟨_, hv2, by simpa using hr2, trivial⟩, hB.trans hb2⟩
  case done =>
    rintro D ys W hD rfl ⟨⟨v, hv, hrow, _⟩, hB⟩ hK
    have hc := hv.cell
    obtain ⟨A, c, rfl⟩ := own_shape hrow
    gi_wp2
    refine ⟨by simp, .inl ⟨_, _, rfl, run_takeDeferred hK, ?_⟩⟩
    exact ⟨_, results_tmp rfl _ _ _, A, c, rfl, ownsRow_putObj hrow _ hK rfl, hB.trans (belowK_b (w := w) (Nat.le_refl _) W D _ _ (by simp at hD; omega) hK rfl rfl)⟩
  case stop =>
    rintro D c pre W _ _ h _
    exact h.elim
theorem collect_any (gs S k : Nat) (hS : S < 2 ^ k) (hk : k ≤ 32) (w : World) (ht : Tab w) (hb : Blk w gs 26 #[.int .u64 S, .int .i64 k]) :
    Calls Tryd.prog 34 #[.func (.func 32) #[] #[.pointer (some ⟨gs, 0, none⟩)]] w fun e w' => ∃ A c, e = .returned (.slice A (vals S k).length c) ∧ w'.ownsRow w.heap.size 3 1 (.slice A (vals S k).length c) (vals S k).length (nums (vals S k)) ∧ Below w.heap.size w w' := by
  have hap := append_seq gs S k hS hk w ht hb
  obtain ⟨l, hl⟩ : ∃ l, (vals S k).length = l := ⟨_, rfl⟩
  obtain ⟨L, hL⟩ : ∃ L, vals S k = L := ⟨_, rfl⟩
  rw [hl, hL] at hap
  rw [hl, hL]
  clear ht hb hL hl
  go_enter Tryd.func34, Tryd.ntmps34
  go_wp2_with fail
  refine hap.mono ?_
  rintro e w2 ⟨A, c, rfl, ho, hbl⟩
  go_wp2_with fail
  go_ret
  exact ⟨A, c, rfl, ho, hbl⟩
set_option maxRecDepth 100000 in
set_option maxHeartbeats 2000000 in
/-- a set of nothing asks nobody -/
theorem zero_stops (n : Nat) (hn : 1 ≤ n) (gs n₀ : Nat) (w : World) (hn₀ : n₀ ≤ w.heap.size) (ht : Tab w) (hz : 0 < n₀) (hb : Blk w gs 26 #[.int .u64 0, .int .i64 0]) :
    SeqStopsK Fence.wide n Tryd.prog 32 #[.pointer (some ⟨gs, 0, none⟩)] (fun x : Empty => #[Value.int .i64 0]) (Below n₀) (fun ys => True) (fun _ => False) 0 w := fun l J Jx W hW hJ _ hY h0 => by
  have f13 := wide_fn 13
  have f14 := wide_fn 14
  have hb' := hb.under hW
  obtain ⟨b0, b1⟩ := hb'.two
  have hfi : Calls Tryd.prog 13 #[.agg #[.int .u64 0, .int .i64 0]] W fun e w' => NextOf 0 0 (-1) W e w' := first_any 0 0 W (ht.below (Nat.lt_of_lt_of_le hz hn₀) hW) (Nat.lt_of_lt_of_le hz (Nat.le_trans hn₀ hW.size)) (by omega) (by decide)
  have hstep : Hid (∀ ys W1 W2, J ys W1 → Below W1.heap.size W1 W2 → J ys W2) := fun ys W1 W2 h hbl => hJ ys W1 W2 none h (only_of_below hbl none) (fun r e => by cases e)
  refine callsIn_of_wp Tryd.func32 rfl trivial ?_ rfl
  simp only [Tryd.ntmps32, List.size_toArray, List.length_cons, List.length_nil, Nat.reduceAdd, Nat.reduceSub, Array.replicate_succ, Array.replicate_zero, List.push_toArray, List.append_toArray, List.nil_append, List.cons_append]
  gi_wp2_with (gi_at_call 13; refine (callsIn_wide.2 hfi).mono ?_; rintro e w1 ⟨r, rfl, hr, hb1⟩)
  obtain rfl : r = -1 := by
    rcases hr with ⟨h, _⟩ | ⟨j, hj, _⟩
    · exact h
    · omega
  have hJ0 := hstep.out _ _ _ h0 hb1
  clear hfi hr hb1
  gi_loopw [3] (fun rv wr => rv = .int .i64 (-1) ∧ J [] wr) (fun _ _ => 0)
  case atStart => exact ⟨rfl, hJ0⟩
  case round =>
    obtain ⟨rfl, hJs⟩ := hrel
    gi_wp2
    go_end0
    exact ⟨⟨_, rfl⟩, .inl ⟨_, trivial, hJs⟩⟩
end Go.Proofs.YtcmglgkopgfheaaDoor.bit
