/- The tuples of a shape, by its iterator. -/
import Derived.Test.YtepcgokogiphhaaShapeTwo
import Derived.Test.YtepcgokogiphhaaTold
import Derived.RangeFuncBox
import Derived.RangeFuncBound
import Derived.RangeFuncLeaves
import Derived.Shelf.Abstract
import Derived.OwnWalkIn
import Derived.TacticsInMore
import Derived.LoopNIn
import Derived.LoopIn
namespace Go.Proofs.Ytepcgokogiphhaa.shp
open Go Go.RowKit Go.Shelf Go.ChangeShapes Go.WideShapes Go.ChangeAt Go.Proofs.Ytepcgokogiphhaa.words Go.Proofs.Ytepcgokogiphhaa.told
set_option linter.unusedVariables false
attribute [local go_sem] Oper.semAt_some
/-- what is yielded: a number, and a row of its own that holds the number's tuple -/
def YShape (xs : List Int) (m : Nat) (pre : List (Nat × Nat)) (x : Nat × Nat) (W0 W : World) : Prop :=
  x.1 = pre.length ∧ (x.1 : Int) < prodI xs ∧ Below W0.heap.size W0 W ∧ W.ownsRow W0.heap.size 3 1 (.slice (some ⟨x.2, 0, none⟩) m m) m (nums (tupI xs x.1))
def encT (m : Nat) (x : Nat × Nat) : Array Value := #[.int .i64 x.1, .slice (some ⟨x.2, 0, none⟩) m m]
theorem wide_fn (k : Nat) : Fence.wide.fn k := trivial
set_option maxRecDepth 100000 in
set_option maxHeartbeats 4000000 in
theorem all_in (n : Nat) (hn : 1 ≤ n) (l gb n₁ m c N : Nat) (S : Nat → Prop) (A : Option Addr) (xs : List Int) (hsz : Szs xs) (hN : prodI xs = N) (hm : xs.length = m) (hmc : m ≤ c) (hgb : ¬ S gb) (hS : ∀ i, i < n₁ → ¬ S i) (J Jx : List (Nat × Nat) → World → Prop)
    (hY : ∀ pre x W0 W1, J pre W0 → YShape xs m pre x W0 W1 → pre.length < N → YieldAt Fence.wide (n - 1) Try.prog l (encT m x) W1 fun e W' =>
      (e = .returned (.bool true) ∧ J (pre ++ [x]) W' ∧ Tch W1 W' S) ∨ (e = .returned (.bool false) ∧ Jx (pre ++ [x]) W'))
    (W : World) (hn₁ : n₁ ≤ W.heap.size) (hJ : AbidesFrom W.heap.size J) (hb : Blk W gb 28 #[.slice A m c]) (hr : Reads W n₁ 1 A m (nums xs)) (h0 : J [] W) :
    CallsIn Fence.wide n Try.prog 25 #[.func (.yield l) #[] #[], .pointer (some ⟨gb, 0, none⟩)] W fun e W' => (∃ v, e = .returned v) ∧
      ((∃ ys, (ys : List (Nat × Nat)).length = N ∧ J ys W') ∨ (∃ pre, True ∧ Jx pre W')) := by
  have f1 := wide_fn 11
  have f2 := wide_fn 12
  obtain ⟨b0, b1⟩ := hb.one
  have hP := szs_prod hsz
  rw [hN] at hP
  have hci := count_any A m c xs W (hr.more hn₁) hsz
  rw [hN] at hci
  have hstep : Hid (∀ ys W1 W2, J ys W1 → Below W1.heap.size W1 W2 → J ys W2) := fun ys W1 W2 h hbl => hJ ys W1 W2 none h (only_of_below hbl none) (fun r e => by cases e)
  refine callsIn_of_wp Try.func25 rfl trivial ?_ rfl
  simp only [Try.ntmps25, List.size_toArray, List.length_cons, List.length_nil, Nat.reduceAdd, Nat.reduceSub, Array.replicate_succ, Array.replicate_zero, List.push_toArray, List.append_toArray, List.nil_append, List.cons_append]
  gi_wp2_with (gi_at_call 11; refine (callsIn_wide.2 hci).mono ?_; rintro e w1 ⟨rfl, hb1⟩)
  have hB0 : Tch W w1 S := Tch.of_below hb1 S
  have hJ0 := hstep.out _ _ _ h0 hb1
  clear hci hb1
  have HN := Lib.hid hN
  clear hN
  gi_loopw [8] (fun iv wr => ∃ (G : List (Nat × Nat)) (j : Nat), iv = .int .i64 j ∧ G.length = j ∧ j ≤ N ∧ J G wr ∧ Tch W wr S)
    (fun iv _ => N - (intOf iv).toNat)
  case atStart => exact ⟨[], 0, rfl, rfl, by omega, hJ0, hB0⟩
  case round =>
    clear hJ0 hB0
    obtain ⟨G, j, rfl, hG, hj, hJG, hB⟩ := hrel
    by_cases hlt : j < N
    · have hsz0 : n₁ ≤ wr.heap.size := Nat.le_trans hn₁ hB.size
      have hc0 : wr.cell? ⟨gb, 0, none⟩ = some (.slice A m c) := (hB.blk hb hgb).one.1
      have ht : Calls Try.prog 12 #[.agg #[.slice A m c], .int .i64 j] wr fun e w2 => ∃ g, e = .returned (.tuple #[.slice (some ⟨g, 0, none⟩) m m, .int .i64 0]) ∧ w2.ownsRow wr.heap.size 3 1 (.slice (some ⟨g, 0, none⟩) m m) m (nums (tupI xs j)) ∧ Below wr.heap.size wr w2 :=
        (tuple_any A m c xs j wr hmc ((hB.reads hr hn₁ hS).more hsz0) hsz).mono fun e w2 ⟨hb2, h2⟩ => by
          rcases h2 with ⟨h, _⟩ | ⟨_, g, h, ho⟩
          · exact absurd ⟨by omega, by rw [HN.out]; omega⟩ h
          · rw [hm] at h ho; exact ⟨g, h, ho, hb2⟩
      have HB := Lib.hid hB
      have HG := Lib.hid hG
      clear hB hG
      gi_wp2_with (gi_at_call 12; refine (callsIn_wide.2 ht).mono ?_; rintro e w2 ⟨g, rfl, hown, hb2⟩)
      obtain ⟨fn, tmps, assign, body, hy, hR⟩ := hY G (j, g) wr w2 hJG ⟨HG.out.symm, by rw [HN.out]; omega, hb2, hown⟩ (by rw [HG.out]; omega)
      have hy' : (Instr.yield l #[.int .i64 j, .slice (some ⟨g, 0, none⟩) m m]).run Try.prog w2 = .ok (.round l fn tmps assign body) w2 := hy
      have hbx : Hid (∀ w, Tch W w S → w.cell? ⟨gb, 0, none⟩ = some (.slice A m c)) := fun w hw => (hw.blk hb hgb).one.1
      clear hy
      gi_wp2
      rw [hy']
      gi_wp2
      refine hR.mono ?_
      rintro e W3 (⟨rfl, hJ3, hk3⟩ | ⟨rfl, hJx3⟩)
      · have hB3 : Tch W W3 S := (HB.out.trans (Tch.of_below hb2 S) fun _ _ h => h).trans hk3 fun _ _ h => h
        gi_wp2
        go_roundw
        case rel => exact ⟨G ++ [(j, g)], j + 1, by go_num, by simp [HG.out], by omega, hJ3, hB3⟩
        case measure => simp [intOf]; omega
      · gi_wp2
        refine bodyPost_ret (results_none rfl _ _ _) rfl ?_
        exact ⟨⟨_, rfl⟩, .inr ⟨_, trivial, hJx3⟩⟩
    · obtain rfl : j = N := by omega
      gi_wp2
      go_end0
      exact ⟨⟨_, rfl⟩, .inl ⟨G, hG, hJG⟩⟩
theorem all_told (n : Nat) (hn : 1 ≤ n) (gb n₁ m c N : Nat) (S : Nat → Prop) (A : Option Addr) (xs : List Int) (hsz : Szs xs) (hN : prodI xs = N) (hm : xs.length = m) (hmc : m ≤ c) (hgb : ¬ S gb) (hS : ∀ i, i < n₁ → ¬ S i) (w : World) (hn₁ : n₁ ≤ w.heap.size)
    (hb : Blk w gb 28 #[.slice A m c]) (hr : Reads w n₁ 1 A m (nums xs)) :
    SeqTold n Try.prog 25 #[.pointer (some ⟨gb, 0, none⟩)] (encT m) (YShape xs m) (fun a b => Tch a b S) (fun ys => ys.length = N) (fun _ => True) N w := fun l J Jx W hW hJ _ hY h0 =>
  all_in n hn l gb n₁ m c N S A xs hsz hN hm hmc hgb hS J Jx hY W (Nat.le_trans hn₁ hW.size) hJ (hb.under hW) (hr.below (hW.mono hn₁)) h0
theorem tchK_t {S : Nat → Prop} {A B C : World} (h : Tch A B S) (k : Tch B C S) : Tch A C S := h.trans k fun _ _ h => h
theorem tchK_b {S : Nat → Prop} {w : World} (hS : ∀ i, w.heap.size ≤ i → S i) (W : World) (l : Nat) (o o' : Obj) (hl : w.heap.size ≤ l) (h : W.heap[l]? = some o) (_ : o.isCells = false) (_ : o.isWalk = false) : Tch W (W.putObj l o') S :=
  Tch.of_grown (grownBy_putObj' W l o') fun i _ e => by injection e with e; exact hS i (by omega)
theorem all_any (A : Option Addr) (m c : Nat) (w : World) : Calls Try.prog 21 #[.agg #[.slice A m c]] w fun e w' => e = .returned (.func (.func 25) #[] #[.pointer (some ⟨w.heap.size, 0, none⟩)]) ∧ w.alloc (.cells #[.slice A m c] 28) = w' := by
  go_enter Try.func21, Try.ntmps21
  go_wp2
  go_ret
  exact ⟨rfl, rfl⟩
end Go.Proofs.Ytepcgokogiphhaa.shp
