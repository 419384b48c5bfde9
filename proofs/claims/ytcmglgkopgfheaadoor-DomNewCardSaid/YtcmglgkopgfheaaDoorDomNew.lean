/- For every input DomNew returns true. No condition; the table of math/bits is tied to the program's text. -/
import Derived.Test.YtcmglgkopgfheaaDoorCards
import Derived.Test.YtcmglgkopgfheaaDoorTie
import Derived.Deep.DeepHandedRow
import Derived.Lib.LaidTab
import Derived.WalkKit
import Derived.ProofKit
import Derived.OpenShut
import Derived.ShutString
import Derived.ChangeOld
import Derived.Below
import Derived.Test.YtcmglgkopgfheaaDoorOpen
import Derived.Test.YtcmglgkopgfheaaDoorAwake
import Derived.Test.YtcmglgkopgfheaaDoorVals
import Derived.Test.YtcmglgkopgfheaaDoorLast
import Derived.Deep.RegionHeld3
import Derived.Deep.DeepCutAuto
import Derived.RangeFuncNested
namespace Go.Proofs.YtcmglgkopgfheaaDoor.domNew
open Go.Proofs.YtcmglgkopgfheaaDoor.bit Go.Proofs.YtcmglgkopgfheaaDoor.words
open Go.ChangeShapes Go.WideShapes Go.ChangeAt Go.RowKit
open Go.ChangeMaps (open_string shut_string)
set_option linter.unusedVariables false
theorem own : ownKnob Tryd.prog.godebug = none := by kernel_rfl
theorem laidOut : laidOutB Tryd.prog = true := by kernel_rfl
theorem blk_set_val {w : World} {g : Nat} {t : TypeId} {u b : Value} (h : Blk (w.setCell ⟨g, 0, none⟩ u) g t #[b]) : b = u := by
  unfold Blk at h
  simp only [World.setCell, Array.getElem?_modify] at h
  cases hq : w.heap[g]? with
  | none => simp [hq] at h
  | some o =>
    cases o with
    | cells c e f =>
      simp [hq] at h
      have h1 := h.1
      have hs : c.size = 1 := by have := congrArg Array.size h1; simpa using this
      have h2 := congrArg (fun (a : Array Value) => a[0]?) h1
      simp [hs] at h2
      exact h2.symm
    | _ => simp [hq] at h
theorem res_cell {w wf : World} {D g : Nat} {v : Value} (hg : Blk wf g 4 #[v]) (hD : D ≠ g) (hB : Below w.heap.size w wf) (hwD : w.heap.size ≤ D) (tmps : Array Value) (ht : tmps.getD 4 undef = .pointer (some ⟨g, 0, none⟩)) :
    (results Tryd.f5 tmps).run Tryd.prog (wf.putObj D (.deferred none)) = .ok v (wf.putObj D (.deferred none)) ∧ Below w.heap.size w (wf.putObj D (.deferred none)) := by
  have hgr := grownBy_putObj' wf D (.deferred none)
  have hc : (wf.putObj D (.deferred none)).cell? ⟨g, 0, none⟩ = some v := (World.cell?_of_block (a := ⟨g, 0, none⟩) (hgr.block g hg.lt (fun e => hD (by injection e with e; exact e.symm)))).trans (hg.cell 0)
  have ht' : tmps[4]?.getD undef = .pointer (some ⟨g, 0, none⟩) := by simpa using ht
  have hr : Tryd.f5.results = #[.cell 4 4] := rfl
  refine ⟨?_, hB.grown hgr hB.size (fun k e => by injection e with e; omega)⟩
  simp [results, hr, ht', asAddr, loadVar, isAgg, run_underlying (show Tryd.prog.underlying 4 = some .bool from Tryd.underlying4), hc]
theorem nx_zero {v r : Int} (h : Nx 0 0 v r) : r = -1 := by
  rcases h with ⟨h, _⟩ | ⟨j, hj, _⟩
  · exact h
  · omega
theorem vals_full (k : Nat) : (vals (2 ^ k - 1) k).length = k := by
  unfold vals
  rw [List.filter_eq_self.2 fun i hi => by rw [full_bit]; simpa using hi]
  simp
set_option maxRecDepth 100000 in
set_option maxHeartbeats 8000000 in
theorem core (n v : Int) (w : World) (hv : -9223372036854775808 ≤ v ∧ v ≤ 9223372036854775807) (ht : Tab w) (h0w : 0 < w.heap.size) :
    Calls Tryd.prog 5 #[.int .i64 n, .int .i64 v] w fun e w' => e = .returned (.bool true) ∧ Below w.heap.size w w' := by
  refine (callsIn_wide (n := 4)).1 ?_
  refine callsIn_of_wp_marks Tryd.func5 rfl trivial ?_ rfl
  simp only [Tryd.ntmps5, List.size_toArray, List.length_cons, List.length_nil, Nat.reduceAdd, Nat.reduceSub, Array.replicate_succ, Array.replicate_zero, List.push_toArray, List.append_toArray, List.nil_append, List.cons_append]
  refine wpIn_wide.2 ?_
  refine Code.wp_mono NoPanic.imp ?_
  have hbc := bone w (.cells #[.bool false] 4)
  have hcb := Blk.new w 4 #[.bool false]
  go_wp2_with fail
  refine (awake_any (w.alloc (.cells #[.bool false] 4)) (ht.below h0w hbc) (by simp)).mono ?_
  obtain ⟨g4, hg4⟩ : ∃ g, w.heap.size = g := ⟨_, rfl⟩
  obtain ⟨wa, hwa⟩ : ∃ wa, w.alloc (.cells #[.bool false] 4) = wa := ⟨_, rfl⟩
  rw [hwa, hg4] at hcb
  rw [hwa] at hbc
  rw [hwa, hg4]
  clear hwa
  rintro e w1 ⟨rfl, hb1⟩
  have hB1 := bto hbc hb1
  have hc1 := hcb.under hb1
  clear hbc hb1 hcb
  have three : (1 ≤ n ∧ n ≤ 32) ∨ n < 1 ∨ ¬ n < 1 ∧ 32 < n := by omega
  rcases three with hin | h1 | ⟨h1, h2⟩
  · obtain ⟨k, rfl⟩ : ∃ k : Nat, n = k := ⟨n.toNat, by omega⟩
    go_wp2_with fail
    refine (new_in k w1 (by omega) (by omega)).mono ?_
    rintro e w2 ⟨rfl, hb2⟩
    have hb3 := bto (bnew hb2 (.cells #[.int .u64 (2 ^ k - 1 : Nat), .int .i64 k] 26)) (bone _ (.cells #[.int .u64 0, .int .i64 0] 26))
    have hle := len_any (2 ^ k - 1) k ((w2.alloc (.cells #[.int .u64 (2 ^ k - 1 : Nat), .int .i64 k] 26)).alloc (.cells #[.int .u64 0, .int .i64 0] 26)) (by have : 0 < 2 ^ k := Nat.pow_pos (by decide); omega) (by omega)
    rw [vals_full] at hle
    go_wp2_with fail
    refine hle.mono ?_
    rintro e wc ⟨rfl, hb4⟩
    have hz := (Blk.new (w2.alloc (.cells #[.int .u64 (2 ^ k - 1 : Nat), .int .i64 k] 26)) 26 #[.int .u64 0, .int .i64 0]).under hb4
    have hz : Blk wc (w2.heap.size + 1) 26 #[.int .u64 0, .int .i64 0] := by simpa using hz
    have hc := hc1.under (bto hb3 hb4)
    have hB := bto hB1 (bto hb3 hb4)
    obtain ⟨g8, hg8⟩ : ∃ g, w2.heap.size + 1 = g := ⟨_, rfl⟩
    rw [hg8] at hz
    obtain ⟨z0, z1⟩ := hz.two
    rw [hg8]
    clear hg8 hb2 hb3 hb4 hc1 hB1 hle
    go_upto_region 8 with (fail)
    have hva : Calls Tryd.prog 20 #[.agg #[.int .u64 0, .int .i64 0]] wc fun e w' => e = .returned (.func (.func 32) #[] #[.pointer (some ⟨wc.heap.size, 0, none⟩)]) ∧ wc.alloc (.cells #[.int .u64 0, .int .i64 0] 26) = w' := values_any 0 0 wc
    go_wp2_with fail
    refine hva.mono ?_
    rintro e w5 ⟨rfl, hw5⟩
    have hbx := Blk.new wc 26 #[.int .u64 0, .int .i64 0]
    have hb5 := bone wc (.cells #[.int .u64 0, .int .i64 0] 26)
    rw [hw5] at hbx hb5
    clear hw5 hva
    go_wp2_with fail
    have ht5 := ht.below h0w (bto hB hb5)
    have h05 : 0 < w5.heap.size := Nat.lt_of_lt_of_le h0w (Nat.le_trans hB.size hb5.size)
    have hz5 := hz.under hb5
    have hc5 := hc.under hb5
    have hB5 := bto hB hb5
    clear hz hc hB z0 z1 hb5
    refine (wpIn_wide (n := 4)).1 ?_
    refine wpIn_rangeFunc_ownG rfl (by omega) (gf := 32) (lb := #[.pointer (some ⟨wc.heap.size, 0, none⟩)]) rfl trivial (enters_of Tryd.func32 (by kernel_rfl) rfl)
      (zero_stops (4 - 1) (by omega) wc.heap.size w5.heap.size w5 (Nat.le_refl _) ht5 h05 hbx) belowK_t (belowK_b (Nat.le_refl _)) (Below.refl _ _) (fun x => x.elim)
      (fun (_ : List Empty) W => Below w5.heap.size w5 W) (fun _ _ _ => False) (ownFrom_below (Nat.le_refl _) (Nat.le_refl _)) (fun _ _ _ _ _ hs _ _ => hs) (Below.refl _ _)
      (fun x : Empty => x.elim) (fun l x => x.elim) (fun l pre x => x.elim) ?done (fun D c pre W _ h _ => h.elim)
    case done =>
      rintro D ys W hD _ hI hK
      have hz6 := hz5.under hI
      have hc6 := hc5.under hI
      have hB6 := bto hB5 hI
      have ht6 := ht5.below h05 hI
      have h06 : 0 < W.heap.size := Nat.lt_of_lt_of_le h05 hI.size
      have hzc : g8 ≠ g4 := hz6.ne_ hc6 (by decide)
      have hDg : D ≠ g4 := fun e => by have := hc5.lt; omega
      obtain ⟨Fv, hFv⟩ : ∃ Fv : World → Value, ∀ w' b, Blk w' g4 4 #[b] → Fv w' = b := ⟨fun w' => (w'.cell? ⟨g4, 0, none⟩).getD undef, fun w' b h => by show (w'.cell? ⟨g4, 0, none⟩).getD undef = b; rw [show w'.cell? ⟨g4, 0, none⟩ = some b from h.cell 0]; rfl⟩
      have base : Hid (∀ w', Tch W w' (fun k => k = g4) → (∃ b, Blk w' g4 4 #[b]) → (w'.cell? ⟨g8, 0, none⟩ = some (.int .u64 0) ∧ w'.cell? ⟨g8, 1, none⟩ = some (.int .i64 0) ∧ w'.frozen? ⟨g4, 0, none⟩ = false ∧ w'.cell? ⟨g4, 0, none⟩ = some (Fv w') ∧ Tch W w' (fun k => k = g4) ∧ ∃ b, Blk w' g4 4 #[b])) := fun w' hb ⟨b, hk⟩ => ⟨(hb.blk hz6 hzc).cell 0, (hb.blk hz6 hzc).cell 1, hk.frozen 0, (hk.cell 0).trans (by rw [hFv w' b hk]; rfl), hb, b, hk⟩
      have hst : Hid (∀ wx wy, (wx.cell? ⟨g8, 0, none⟩ = some (.int .u64 0) ∧ wx.cell? ⟨g8, 1, none⟩ = some (.int .i64 0) ∧ wx.frozen? ⟨g4, 0, none⟩ = false ∧ wx.cell? ⟨g4, 0, none⟩ = some (Fv wx) ∧ Tch W wx (fun k => k = g4) ∧ ∃ b, Blk wx g4 4 #[b]) → Below wx.heap.size wx wy → (wy.cell? ⟨g8, 0, none⟩ = some (.int .u64 0) ∧ wy.cell? ⟨g8, 1, none⟩ = some (.int .i64 0) ∧ wy.frozen? ⟨g4, 0, none⟩ = false ∧ wy.cell? ⟨g4, 0, none⟩ = some (Fv wy) ∧ Tch W wy (fun k => k = g4) ∧ ∃ b, Blk wy g4 4 #[b])) := fun wx wy ⟨_, _, _, _, ht, b, hb⟩ hbl => base.out _ (ht.trans (Tch.of_below hbl (fun _ => False)) fun _ _ h => h.elim) ⟨b, hb.under hbl⟩
      have hse : Hid (∀ wx u, (wx.cell? ⟨g8, 0, none⟩ = some (.int .u64 0) ∧ wx.cell? ⟨g8, 1, none⟩ = some (.int .i64 0) ∧ wx.frozen? ⟨g4, 0, none⟩ = false ∧ wx.cell? ⟨g4, 0, none⟩ = some (Fv wx) ∧ Tch W wx (fun k => k = g4) ∧ ∃ b, Blk wx g4 4 #[b]) → ((wx.setCell ⟨g4, 0, none⟩ u).cell? ⟨g8, 0, none⟩ = some (.int .u64 0) ∧ (wx.setCell ⟨g4, 0, none⟩ u).cell? ⟨g8, 1, none⟩ = some (.int .i64 0) ∧ (wx.setCell ⟨g4, 0, none⟩ u).frozen? ⟨g4, 0, none⟩ = false ∧ (wx.setCell ⟨g4, 0, none⟩ u).cell? ⟨g4, 0, none⟩ = some (Fv (wx.setCell ⟨g4, 0, none⟩ u)) ∧ Tch W (wx.setCell ⟨g4, 0, none⟩ u) (fun k => k = g4) ∧ ∃ b, Blk (wx.setCell ⟨g4, 0, none⟩ u) g4 4 #[b])) := fun wx u ⟨_, _, _, _, ht, b, hb⟩ => base.out _ (ht.put (p := ⟨g4, 0, none⟩) u rfl) ⟨u, hb.set_ 0 u⟩
      have hs0 : Hid (W.drew.cell? ⟨g8, 0, none⟩ = some (.int .u64 0) ∧ W.drew.cell? ⟨g8, 1, none⟩ = some (.int .i64 0) ∧ W.drew.frozen? ⟨g4, 0, none⟩ = false ∧ W.drew.cell? ⟨g4, 0, none⟩ = some (Fv W.drew) ∧ Tch W W.drew (fun k => k = g4) ∧ ∃ b, Blk W.drew g4 4 #[b]) := base.out _ (Tch.refl _ _).drew ⟨_, hc6⟩
      have hdef : Hid (∀ w', (w'.cell? ⟨g8, 0, none⟩ = some (.int .u64 0) ∧ w'.cell? ⟨g8, 1, none⟩ = some (.int .i64 0) ∧ w'.frozen? ⟨g4, 0, none⟩ = false ∧ w'.cell? ⟨g4, 0, none⟩ = some (Fv w') ∧ Tch W w' (fun k => k = g4) ∧ ∃ b, Blk w' g4 4 #[b]) → w'.heap[D]? = some (.deferred (some [])) ∧ Below w.heap.size w w') := fun w' ⟨_, _, _, _, ht, _⟩ => ⟨(ht.block D (Array.getElem?_eq_some_iff.1 hK).1 hDg).trans hK, hB6.trans (ht.below hB6.size fun i hi e => by omega)⟩
      have htab : Hid (∀ w', (w'.cell? ⟨g8, 0, none⟩ = some (.int .u64 0) ∧ w'.cell? ⟨g8, 1, none⟩ = some (.int .i64 0) ∧ w'.frozen? ⟨g4, 0, none⟩ = false ∧ w'.cell? ⟨g4, 0, none⟩ = some (Fv w') ∧ Tch W w' (fun k => k = g4) ∧ ∃ b, Blk w' g4 4 #[b]) → Tab w' ∧ 0 < w'.heap.size) := fun w' ⟨_, _, _, _, ht, _⟩ => ⟨fun i hi => (World.cell?_of_block (a := ⟨0, i, none⟩) (ht.block 0 h06 (fun e => by omega))).trans (ht6 i hi), Nat.lt_of_lt_of_le h06 ht.size⟩
      have qsz : Hid (∀ w', Calls Tryd.prog 21 #[.agg #[.int .u64 0, .int .i64 0]] w' fun e w'' => e = .returned (.int .i64 0) ∧ Below w'.heap.size w' w'') := fun w' => size_any 0 0 w'
      have qle : Hid (∀ w', Calls Tryd.prog 11 #[.agg #[.int .u64 0, .int .i64 0]] w' fun e w'' => e = .returned (.int .i64 0) ∧ Below w'.heap.size w' w'') := fun w' => len_any 0 0 w' (by decide) (by decide)
      have qha : Hid (∀ w', Calls Tryd.prog 12 #[.agg #[.int .u64 0, .int .i64 0], .int .i64 v] w' fun e w'' => e = .returned (.bool false) ∧ Below w'.heap.size w' w'') := fun w' => has_out 0 0 v w' (by omega : v < 0 ∨ ((0 : Nat) : Int) ≤ v) (by decide)
      have qpu : Hid (∀ w', Calls Tryd.prog 17 #[.agg #[.int .u64 0, .int .i64 0], .int .i64 v] w' fun e w'' => e = .returned (.agg #[.int .u64 0, .int .i64 0]) ∧ Below w'.heap.size w' w'') := fun w' => put_out 0 0 v w' (by omega : v < 0 ∨ ((0 : Nat) : Int) ≤ v) (by decide)
      have qdr : Hid (∀ w', Calls Tryd.prog 15 #[.agg #[.int .u64 0, .int .i64 0], .int .i64 v] w' fun e w'' => e = .returned (.agg #[.int .u64 0, .int .i64 0]) ∧ Below w'.heap.size w' w'') := fun w' => drop_out 0 0 v w' (by omega : v < 0 ∨ ((0 : Nat) : Int) ≤ v) (by decide)
      have qon : Hid (∀ w', Calls Tryd.prog 18 #[.agg #[.int .u64 0, .int .i64 0], .int .i64 v] w' fun e w'' => e = .returned (.agg #[.int .u64 0, .int .i64 0]) ∧ Below w'.heap.size w' w'') := fun w' => only_no 0 0 v w' (by decide) (by decide) (.inl (by omega : v < 0 ∨ ((0 : Nat) : Int) ≤ v))
      have qla : Hid (∀ w', Calls Tryd.prog 22 #[.agg #[.int .u64 0, .int .i64 0]] w' fun e w'' => e = .returned (.int .i64 (-1)) ∧ Below w'.heap.size w' w'') := fun w' => last_any 0 0 w' (by decide) (by decide)
      have qfi : Hid (∀ w', (w'.cell? ⟨g8, 0, none⟩ = some (.int .u64 0) ∧ w'.cell? ⟨g8, 1, none⟩ = some (.int .i64 0) ∧ w'.frozen? ⟨g4, 0, none⟩ = false ∧ w'.cell? ⟨g4, 0, none⟩ = some (Fv w') ∧ Tch W w' (fun k => k = g4) ∧ ∃ b, Blk w' g4 4 #[b]) → Calls Tryd.prog 13 #[.agg #[.int .u64 0, .int .i64 0]] w' fun e w'' => e = .returned (.int .i64 (-1)) ∧ Below w'.heap.size w' w'') := fun w' h => (first_any 0 0 w' (htab.out _ h).1 (htab.out _ h).2 (by decide) (by decide)).mono fun e w'' ⟨r, he, hr, hb⟩ => ⟨by rw [he, nx_zero hr], hb⟩
      have qne : Hid (∀ w', (w'.cell? ⟨g8, 0, none⟩ = some (.int .u64 0) ∧ w'.cell? ⟨g8, 1, none⟩ = some (.int .i64 0) ∧ w'.frozen? ⟨g4, 0, none⟩ = false ∧ w'.cell? ⟨g4, 0, none⟩ = some (Fv w') ∧ Tch W w' (fun k => k = g4) ∧ ∃ b, Blk w' g4 4 #[b]) → Calls Tryd.prog 14 #[.agg #[.int .u64 0, .int .i64 0], .int .i64 v] w' fun e w'' => e = .returned (.int .i64 (-1)) ∧ Below w'.heap.size w' w'') := fun w' h => (next_any 0 0 v w' (htab.out _ h).1 (htab.out _ h).2 (by decide) (by decide)).mono fun e w'' ⟨r, he, hr, hb⟩ => ⟨by rw [he, nx_zero hr], hb⟩
      have hs1 := hs0.out
      have hD9 : w.heap.size ≤ D := Nat.le_trans hB5.size hD
      clear ht5 h05 hz5 hc5 hB5 hbx ht6 hz6 hc6 hB6 hI hK hzc
      go_wp2_with fail
      go_region_held3 (fun w' => w'.cell? ⟨g8, 0, none⟩ = some (.int .u64 0) ∧ w'.cell? ⟨g8, 1, none⟩ = some (.int .i64 0) ∧ w'.frozen? ⟨g4, 0, none⟩ = false ∧ w'.cell? ⟨g4, 0, none⟩ = some (Fv w') ∧ Tch W w' (fun k => k = g4) ∧ ∃ b, Blk w' g4 4 #[b])
        (first | assumption | exact hs0.out | (refine hst.out _ _ ?_ hbx; assumption) | exact hst.out _ _ hs0.out hbx | (refine hse.out _ _ ?_; assumption) | (refine hse.out _ _ (hst.out _ _ ?_ hbx); assumption))
        (first
        | (go_at_call 21; (with_reducible refine (qsz.out _).mono ?_); rintro e wx ⟨rfl, hbx⟩)
        | (go_at_call 11; (with_reducible refine (qle.out _).mono ?_); rintro e wx ⟨rfl, hbx⟩)
        | (go_at_call 12; (with_reducible refine (qha.out _).mono ?_); rintro e wx ⟨rfl, hbx⟩)
        | (go_at_call 17; (with_reducible refine (qpu.out _).mono ?_); rintro e wx ⟨rfl, hbx⟩)
        | (go_at_call 15; (with_reducible refine (qdr.out _).mono ?_); rintro e wx ⟨rfl, hbx⟩)
        | (go_at_call 18; (with_reducible refine (qon.out _).mono ?_); rintro e wx ⟨rfl, hbx⟩)
        | (go_at_call 22; (with_reducible refine (qla.out _).mono ?_); rintro e wx ⟨rfl, hbx⟩)
        | (go_at_call 13; (with_reducible refine (qfi.out _ ?_).mono ?_); (first | assumption | exact hs0.out | (refine hst.out _ _ ?_ hbx; assumption)); rintro e wx ⟨rfl, hbx⟩)
        | (go_at_call 14; (with_reducible refine (qne.out _ ?_).mono ?_); (first | assumption | exact hs0.out | (refine hst.out _ _ ?_ hbx; assumption)); rintro e wx ⟨rfl, hbx⟩))
      have hfin := hdef.out (wx.setCell ⟨g4, 0, none⟩ (.bool true)) (by assumption)
      have hbk : ∃ b, Blk (wx.setCell ⟨g4, 0, none⟩ (.bool true)) g4 4 #[b] := by
        have hh : (wx.setCell ⟨g4, 0, none⟩ (.bool true)).cell? ⟨g8, 0, none⟩ = some (.int .u64 0) ∧ (wx.setCell ⟨g4, 0, none⟩ (.bool true)).cell? ⟨g8, 1, none⟩ = some (.int .i64 0) ∧ (wx.setCell ⟨g4, 0, none⟩ (.bool true)).frozen? ⟨g4, 0, none⟩ = false ∧ (wx.setCell ⟨g4, 0, none⟩ (.bool true)).cell? ⟨g4, 0, none⟩ = some (Fv (wx.setCell ⟨g4, 0, none⟩ (.bool true))) ∧ Tch W (wx.setCell ⟨g4, 0, none⟩ (.bool true)) (fun k => k = g4) ∧ ∃ b, Blk (wx.setCell ⟨g4, 0, none⟩ (.bool true)) g4 4 #[b] := by assumption
        exact hh.2.2.2.2.2
      obtain ⟨b, hbk⟩ := hbk
      obtain rfl := blk_set_val hbk
      clear hs1 hst hse hs0 hdef htab base
      go_wp2_with fail
      refine ⟨by simp, .inl ⟨_, _, rfl, run_takeDeferred hfin.1, ?_⟩⟩
      have hlast := res_cell hbk hDg hfin.2 hD9
      exact ⟨_, (hlast _ rfl).1, rfl, (hlast #[undef, undef, undef, undef, .pointer (some ⟨g4, 0, none⟩)] rfl).2⟩
  · have g1 : decide ((1 : Int) ≤ n) = false := decide_eq_false (by omega)
    have hno : n < 1 ∨ 32 < n := by omega
    go_wp2_with fail
    refine (new_out n w1 hno).mono ?_
    rintro e w2 ⟨rfl, hb2⟩
    have hz := Blk.new (w2.alloc (.cells #[.int .u64 0, .int .i64 0] 26)) 26 #[.int .u64 0, .int .i64 0]
    have hz : Blk ((w2.alloc (.cells #[.int .u64 0, .int .i64 0] 26)).alloc (.cells #[.int .u64 0, .int .i64 0] 26)) (w2.heap.size + 1) 26 #[.int .u64 0, .int .i64 0] := by simpa using hz
    have hb3 := bto (bnew hb2 (.cells #[.int .u64 0, .int .i64 0] 26)) (bone _ (.cells #[.int .u64 0, .int .i64 0] 26))
    go_upto_region 8 with (fail)
    obtain ⟨g8, hg8⟩ : ∃ g, w2.heap.size + 1 = g := ⟨_, rfl⟩
    obtain ⟨wc, hwc⟩ : ∃ wc, (w2.alloc (.cells #[.int .u64 0, .int .i64 0] 26)).alloc (.cells #[.int .u64 0, .int .i64 0] 26) = wc := ⟨_, rfl⟩
    have hc := hc1.under hb3
    have hB := bto hB1 hb3
    rw [hwc] at hz hc hB
    rw [hg8] at hz
    rw [hwc, hg8]
    obtain ⟨z0, z1⟩ := hz.two
    clear hwc hg8 hb2 hb3 hc1 hB1 hno
    have hva : Calls Tryd.prog 20 #[.agg #[.int .u64 0, .int .i64 0]] wc fun e w' => e = .returned (.func (.func 32) #[] #[.pointer (some ⟨wc.heap.size, 0, none⟩)]) ∧ wc.alloc (.cells #[.int .u64 0, .int .i64 0] 26) = w' := values_any 0 0 wc
    go_wp2_with fail
    refine hva.mono ?_
    rintro e w5 ⟨rfl, hw5⟩
    have hbx := Blk.new wc 26 #[.int .u64 0, .int .i64 0]
    have hb5 := bone wc (.cells #[.int .u64 0, .int .i64 0] 26)
    rw [hw5] at hbx hb5
    clear hw5 hva
    go_wp2_with fail
    have ht5 := ht.below h0w (bto hB hb5)
    have h05 : 0 < w5.heap.size := Nat.lt_of_lt_of_le h0w (Nat.le_trans hB.size hb5.size)
    have hz5 := hz.under hb5
    have hc5 := hc.under hb5
    have hB5 := bto hB hb5
    clear hz hc hB z0 z1 hb5
    refine (wpIn_wide (n := 4)).1 ?_
    refine wpIn_rangeFunc_ownG rfl (by omega) (gf := 32) (lb := #[.pointer (some ⟨wc.heap.size, 0, none⟩)]) rfl trivial (enters_of Tryd.func32 (by kernel_rfl) rfl)
      (zero_stops (4 - 1) (by omega) wc.heap.size w5.heap.size w5 (Nat.le_refl _) ht5 h05 hbx) belowK_t (belowK_b (Nat.le_refl _)) (Below.refl _ _) (fun x => x.elim)
      (fun (_ : List Empty) W => Below w5.heap.size w5 W) (fun _ _ _ => False) (ownFrom_below (Nat.le_refl _) (Nat.le_refl _)) (fun _ _ _ _ _ hs _ _ => hs) (Below.refl _ _)
      (fun x : Empty => x.elim) (fun l x => x.elim) (fun l pre x => x.elim) ?done (fun D c pre W _ h _ => h.elim)
    case done =>
      rintro D ys W hD _ hI hK
      have hz6 := hz5.under hI
      have hc6 := hc5.under hI
      have hB6 := bto hB5 hI
      have ht6 := ht5.below h05 hI
      have h06 : 0 < W.heap.size := Nat.lt_of_lt_of_le h05 hI.size
      have hzc : g8 ≠ g4 := hz6.ne_ hc6 (by decide)
      have hDg : D ≠ g4 := fun e => by have := hc5.lt; omega
      obtain ⟨Fv, hFv⟩ : ∃ Fv : World → Value, ∀ w' b, Blk w' g4 4 #[b] → Fv w' = b := ⟨fun w' => (w'.cell? ⟨g4, 0, none⟩).getD undef, fun w' b h => by show (w'.cell? ⟨g4, 0, none⟩).getD undef = b; rw [show w'.cell? ⟨g4, 0, none⟩ = some b from h.cell 0]; rfl⟩
      have base : Hid (∀ w', Tch W w' (fun k => k = g4) → (∃ b, Blk w' g4 4 #[b]) → (w'.cell? ⟨g8, 0, none⟩ = some (.int .u64 0) ∧ w'.cell? ⟨g8, 1, none⟩ = some (.int .i64 0) ∧ w'.frozen? ⟨g4, 0, none⟩ = false ∧ w'.cell? ⟨g4, 0, none⟩ = some (Fv w') ∧ Tch W w' (fun k => k = g4) ∧ ∃ b, Blk w' g4 4 #[b])) := fun w' hb ⟨b, hk⟩ => ⟨(hb.blk hz6 hzc).cell 0, (hb.blk hz6 hzc).cell 1, hk.frozen 0, (hk.cell 0).trans (by rw [hFv w' b hk]; rfl), hb, b, hk⟩
      have hst : Hid (∀ wx wy, (wx.cell? ⟨g8, 0, none⟩ = some (.int .u64 0) ∧ wx.cell? ⟨g8, 1, none⟩ = some (.int .i64 0) ∧ wx.frozen? ⟨g4, 0, none⟩ = false ∧ wx.cell? ⟨g4, 0, none⟩ = some (Fv wx) ∧ Tch W wx (fun k => k = g4) ∧ ∃ b, Blk wx g4 4 #[b]) → Below wx.heap.size wx wy → (wy.cell? ⟨g8, 0, none⟩ = some (.int .u64 0) ∧ wy.cell? ⟨g8, 1, none⟩ = some (.int .i64 0) ∧ wy.frozen? ⟨g4, 0, none⟩ = false ∧ wy.cell? ⟨g4, 0, none⟩ = some (Fv wy) ∧ Tch W wy (fun k => k = g4) ∧ ∃ b, Blk wy g4 4 #[b])) := fun wx wy ⟨_, _, _, _, ht, b, hb⟩ hbl => base.out _ (ht.trans (Tch.of_below hbl (fun _ => False)) fun _ _ h => h.elim) ⟨b, hb.under hbl⟩
      have hse : Hid (∀ wx u, (wx.cell? ⟨g8, 0, none⟩ = some (.int .u64 0) ∧ wx.cell? ⟨g8, 1, none⟩ = some (.int .i64 0) ∧ wx.frozen? ⟨g4, 0, none⟩ = false ∧ wx.cell? ⟨g4, 0, none⟩ = some (Fv wx) ∧ Tch W wx (fun k => k = g4) ∧ ∃ b, Blk wx g4 4 #[b]) → ((wx.setCell ⟨g4, 0, none⟩ u).cell? ⟨g8, 0, none⟩ = some (.int .u64 0) ∧ (wx.setCell ⟨g4, 0, none⟩ u).cell? ⟨g8, 1, none⟩ = some (.int .i64 0) ∧ (wx.setCell ⟨g4, 0, none⟩ u).frozen? ⟨g4, 0, none⟩ = false ∧ (wx.setCell ⟨g4, 0, none⟩ u).cell? ⟨g4, 0, none⟩ = some (Fv (wx.setCell ⟨g4, 0, none⟩ u)) ∧ Tch W (wx.setCell ⟨g4, 0, none⟩ u) (fun k => k = g4) ∧ ∃ b, Blk (wx.setCell ⟨g4, 0, none⟩ u) g4 4 #[b])) := fun wx u ⟨_, _, _, _, ht, b, hb⟩ => base.out _ (ht.put (p := ⟨g4, 0, none⟩) u rfl) ⟨u, hb.set_ 0 u⟩
      have hs0 : Hid (W.drew.cell? ⟨g8, 0, none⟩ = some (.int .u64 0) ∧ W.drew.cell? ⟨g8, 1, none⟩ = some (.int .i64 0) ∧ W.drew.frozen? ⟨g4, 0, none⟩ = false ∧ W.drew.cell? ⟨g4, 0, none⟩ = some (Fv W.drew) ∧ Tch W W.drew (fun k => k = g4) ∧ ∃ b, Blk W.drew g4 4 #[b]) := base.out _ (Tch.refl _ _).drew ⟨_, hc6⟩
      have hdef : Hid (∀ w', (w'.cell? ⟨g8, 0, none⟩ = some (.int .u64 0) ∧ w'.cell? ⟨g8, 1, none⟩ = some (.int .i64 0) ∧ w'.frozen? ⟨g4, 0, none⟩ = false ∧ w'.cell? ⟨g4, 0, none⟩ = some (Fv w') ∧ Tch W w' (fun k => k = g4) ∧ ∃ b, Blk w' g4 4 #[b]) → w'.heap[D]? = some (.deferred (some [])) ∧ Below w.heap.size w w') := fun w' ⟨_, _, _, _, ht, _⟩ => ⟨(ht.block D (Array.getElem?_eq_some_iff.1 hK).1 hDg).trans hK, hB6.trans (ht.below hB6.size fun i hi e => by omega)⟩
      have htab : Hid (∀ w', (w'.cell? ⟨g8, 0, none⟩ = some (.int .u64 0) ∧ w'.cell? ⟨g8, 1, none⟩ = some (.int .i64 0) ∧ w'.frozen? ⟨g4, 0, none⟩ = false ∧ w'.cell? ⟨g4, 0, none⟩ = some (Fv w') ∧ Tch W w' (fun k => k = g4) ∧ ∃ b, Blk w' g4 4 #[b]) → Tab w' ∧ 0 < w'.heap.size) := fun w' ⟨_, _, _, _, ht, _⟩ => ⟨fun i hi => (World.cell?_of_block (a := ⟨0, i, none⟩) (ht.block 0 h06 (fun e => by omega))).trans (ht6 i hi), Nat.lt_of_lt_of_le h06 ht.size⟩
      have qsz : Hid (∀ w', Calls Tryd.prog 21 #[.agg #[.int .u64 0, .int .i64 0]] w' fun e w'' => e = .returned (.int .i64 0) ∧ Below w'.heap.size w' w'') := fun w' => size_any 0 0 w'
      have qle : Hid (∀ w', Calls Tryd.prog 11 #[.agg #[.int .u64 0, .int .i64 0]] w' fun e w'' => e = .returned (.int .i64 0) ∧ Below w'.heap.size w' w'') := fun w' => len_any 0 0 w' (by decide) (by decide)
      have qha : Hid (∀ w', Calls Tryd.prog 12 #[.agg #[.int .u64 0, .int .i64 0], .int .i64 v] w' fun e w'' => e = .returned (.bool false) ∧ Below w'.heap.size w' w'') := fun w' => has_out 0 0 v w' (by omega : v < 0 ∨ ((0 : Nat) : Int) ≤ v) (by decide)
      have qpu : Hid (∀ w', Calls Tryd.prog 17 #[.agg #[.int .u64 0, .int .i64 0], .int .i64 v] w' fun e w'' => e = .returned (.agg #[.int .u64 0, .int .i64 0]) ∧ Below w'.heap.size w' w'') := fun w' => put_out 0 0 v w' (by omega : v < 0 ∨ ((0 : Nat) : Int) ≤ v) (by decide)
      have qdr : Hid (∀ w', Calls Tryd.prog 15 #[.agg #[.int .u64 0, .int .i64 0], .int .i64 v] w' fun e w'' => e = .returned (.agg #[.int .u64 0, .int .i64 0]) ∧ Below w'.heap.size w' w'') := fun w' => drop_out 0 0 v w' (by omega : v < 0 ∨ ((0 : Nat) : Int) ≤ v) (by decide)
      have qon : Hid (∀ w', Calls Tryd.prog 18 #[.agg #[.int .u64 0, .int .i64 0], .int .i64 v] w' fun e w'' => e = .returned (.agg #[.int .u64 0, .int .i64 0]) ∧ Below w'.heap.size w' w'') := fun w' => only_no 0 0 v w' (by decide) (by decide) (.inl (by omega : v < 0 ∨ ((0 : Nat) : Int) ≤ v))
      have qla : Hid (∀ w', Calls Tryd.prog 22 #[.agg #[.int .u64 0, .int .i64 0]] w' fun e w'' => e = .returned (.int .i64 (-1)) ∧ Below w'.heap.size w' w'') := fun w' => last_any 0 0 w' (by decide) (by decide)
      have qfi : Hid (∀ w', (w'.cell? ⟨g8, 0, none⟩ = some (.int .u64 0) ∧ w'.cell? ⟨g8, 1, none⟩ = some (.int .i64 0) ∧ w'.frozen? ⟨g4, 0, none⟩ = false ∧ w'.cell? ⟨g4, 0, none⟩ = some (Fv w') ∧ Tch W w' (fun k => k = g4) ∧ ∃ b, Blk w' g4 4 #[b]) → Calls Tryd.prog 13 #[.agg #[.int .u64 0, .int .i64 0]] w' fun e w'' => e = .returned (.int .i64 (-1)) ∧ Below w'.heap.size w' w'') := fun w' h => (first_any 0 0 w' (htab.out _ h).1 (htab.out _ h).2 (by decide) (by decide)).mono fun e w'' ⟨r, he, hr, hb⟩ => ⟨by rw [he, nx_zero hr], hb⟩
      have qne : Hid (∀ w', (w'.cell? ⟨g8, 0, none⟩ = some (.int .u64 0) ∧ w'.cell? ⟨g8, 1, none⟩ = some (.int .i64 0) ∧ w'.frozen? ⟨g4, 0, none⟩ = false ∧ w'.cell? ⟨g4, 0, none⟩ = some (Fv w') ∧ Tch W w' (fun k => k = g4) ∧ ∃ b, Blk w' g4 4 #[b]) → Calls Tryd.prog 14 #[.agg #[.int .u64 0, .int .i64 0], .int .i64 v] w' fun e w'' => e = .returned (.int .i64 (-1)) ∧ Below w'.heap.size w' w'') := fun w' h => (next_any 0 0 v w' (htab.out _ h).1 (htab.out _ h).2 (by decide) (by decide)).mono fun e w'' ⟨r, he, hr, hb⟩ => ⟨by rw [he, nx_zero hr], hb⟩
      have hs1 := hs0.out
      have hD9 : w.heap.size ≤ D := Nat.le_trans hB5.size hD
      clear ht5 h05 hz5 hc5 hB5 hbx ht6 hz6 hc6 hB6 hI hK hzc
      go_wp2_with fail
      go_region_held3 (fun w' => w'.cell? ⟨g8, 0, none⟩ = some (.int .u64 0) ∧ w'.cell? ⟨g8, 1, none⟩ = some (.int .i64 0) ∧ w'.frozen? ⟨g4, 0, none⟩ = false ∧ w'.cell? ⟨g4, 0, none⟩ = some (Fv w') ∧ Tch W w' (fun k => k = g4) ∧ ∃ b, Blk w' g4 4 #[b])
        (first | assumption | exact hs0.out | (refine hst.out _ _ ?_ hbx; assumption) | exact hst.out _ _ hs0.out hbx | (refine hse.out _ _ ?_; assumption) | (refine hse.out _ _ (hst.out _ _ ?_ hbx); assumption))
        (first
        | (go_at_call 21; (with_reducible refine (qsz.out _).mono ?_); rintro e wx ⟨rfl, hbx⟩)
        | (go_at_call 11; (with_reducible refine (qle.out _).mono ?_); rintro e wx ⟨rfl, hbx⟩)
        | (go_at_call 12; (with_reducible refine (qha.out _).mono ?_); rintro e wx ⟨rfl, hbx⟩)
        | (go_at_call 17; (with_reducible refine (qpu.out _).mono ?_); rintro e wx ⟨rfl, hbx⟩)
        | (go_at_call 15; (with_reducible refine (qdr.out _).mono ?_); rintro e wx ⟨rfl, hbx⟩)
        | (go_at_call 18; (with_reducible refine (qon.out _).mono ?_); rintro e wx ⟨rfl, hbx⟩)
        | (go_at_call 22; (with_reducible refine (qla.out _).mono ?_); rintro e wx ⟨rfl, hbx⟩)
        | (go_at_call 13; (with_reducible refine (qfi.out _ ?_).mono ?_); (first | assumption | exact hs0.out | (refine hst.out _ _ ?_ hbx; assumption)); rintro e wx ⟨rfl, hbx⟩)
        | (go_at_call 14; (with_reducible refine (qne.out _ ?_).mono ?_); (first | assumption | exact hs0.out | (refine hst.out _ _ ?_ hbx; assumption)); rintro e wx ⟨rfl, hbx⟩))
      have hfin := hdef.out (wx.setCell ⟨g4, 0, none⟩ (.bool true)) (by assumption)
      have hbk : ∃ b, Blk (wx.setCell ⟨g4, 0, none⟩ (.bool true)) g4 4 #[b] := by
        have hh : (wx.setCell ⟨g4, 0, none⟩ (.bool true)).cell? ⟨g8, 0, none⟩ = some (.int .u64 0) ∧ (wx.setCell ⟨g4, 0, none⟩ (.bool true)).cell? ⟨g8, 1, none⟩ = some (.int .i64 0) ∧ (wx.setCell ⟨g4, 0, none⟩ (.bool true)).frozen? ⟨g4, 0, none⟩ = false ∧ (wx.setCell ⟨g4, 0, none⟩ (.bool true)).cell? ⟨g4, 0, none⟩ = some (Fv (wx.setCell ⟨g4, 0, none⟩ (.bool true))) ∧ Tch W (wx.setCell ⟨g4, 0, none⟩ (.bool true)) (fun k => k = g4) ∧ ∃ b, Blk (wx.setCell ⟨g4, 0, none⟩ (.bool true)) g4 4 #[b] := by assumption
        exact hh.2.2.2.2.2
      obtain ⟨b, hbk⟩ := hbk
      obtain rfl := blk_set_val hbk
      clear hs1 hst hse hs0 hdef htab base
      go_wp2_with fail
      refine ⟨by simp, .inl ⟨_, _, rfl, run_takeDeferred hfin.1, ?_⟩⟩
      have hlast := res_cell hbk hDg hfin.2 hD9
      exact ⟨_, (hlast _ rfl).1, rfl, (hlast #[undef, undef, undef, undef, .pointer (some ⟨g4, 0, none⟩)] rfl).2⟩
  · have g1 : decide ((1 : Int) ≤ n) = true := decide_eq_true (by omega)
    have g2 : decide (n ≤ (32 : Int)) = false := decide_eq_false (by omega)
    have hno : n < 1 ∨ 32 < n := by omega
    go_wp2_with fail
    refine (new_out n w1 hno).mono ?_
    rintro e w2 ⟨rfl, hb2⟩
    have hz := Blk.new (w2.alloc (.cells #[.int .u64 0, .int .i64 0] 26)) 26 #[.int .u64 0, .int .i64 0]
    have hz : Blk ((w2.alloc (.cells #[.int .u64 0, .int .i64 0] 26)).alloc (.cells #[.int .u64 0, .int .i64 0] 26)) (w2.heap.size + 1) 26 #[.int .u64 0, .int .i64 0] := by simpa using hz
    have hb3 := bto (bnew hb2 (.cells #[.int .u64 0, .int .i64 0] 26)) (bone _ (.cells #[.int .u64 0, .int .i64 0] 26))
    go_upto_region 8 with (fail)
    obtain ⟨g8, hg8⟩ : ∃ g, w2.heap.size + 1 = g := ⟨_, rfl⟩
    obtain ⟨wc, hwc⟩ : ∃ wc, (w2.alloc (.cells #[.int .u64 0, .int .i64 0] 26)).alloc (.cells #[.int .u64 0, .int .i64 0] 26) = wc := ⟨_, rfl⟩
    have hc := hc1.under hb3
    have hB := bto hB1 hb3
    rw [hwc] at hz hc hB
    rw [hg8] at hz
    rw [hwc, hg8]
    obtain ⟨z0, z1⟩ := hz.two
    clear hwc hg8 hb2 hb3 hc1 hB1 hno
    have hva : Calls Tryd.prog 20 #[.agg #[.int .u64 0, .int .i64 0]] wc fun e w' => e = .returned (.func (.func 32) #[] #[.pointer (some ⟨wc.heap.size, 0, none⟩)]) ∧ wc.alloc (.cells #[.int .u64 0, .int .i64 0] 26) = w' := values_any 0 0 wc
    go_wp2_with fail
    refine hva.mono ?_
    rintro e w5 ⟨rfl, hw5⟩
    have hbx := Blk.new wc 26 #[.int .u64 0, .int .i64 0]
    have hb5 := bone wc (.cells #[.int .u64 0, .int .i64 0] 26)
    rw [hw5] at hbx hb5
    clear hw5 hva
    go_wp2_with fail
    have ht5 := ht.below h0w (bto hB hb5)
    have h05 : 0 < w5.heap.size := Nat.lt_of_lt_of_le h0w (Nat.le_trans hB.size hb5.size)
    have hz5 := hz.under hb5
    have hc5 := hc.under hb5
    have hB5 := bto hB hb5
    clear hz hc hB z0 z1 hb5
    refine (wpIn_wide (n := 4)).1 ?_
    refine wpIn_rangeFunc_ownG rfl (by omega) (gf := 32) (lb := #[.pointer (some ⟨wc.heap.size, 0, none⟩)]) rfl trivial (enters_of Tryd.func32 (by kernel_rfl) rfl)
      (zero_stops (4 - 1) (by omega) wc.heap.size w5.heap.size w5 (Nat.le_refl _) ht5 h05 hbx) belowK_t (belowK_b (Nat.le_refl _)) (Below.refl _ _) (fun x => x.elim)
      (fun (_ : List Empty) W => Below w5.heap.size w5 W) (fun _ _ _ => False) (ownFrom_below (Nat.le_refl _) (Nat.le_refl _)) (fun _ _ _ _ _ hs _ _ => hs) (Below.refl _ _)
      (fun x : Empty => x.elim) (fun l x => x.elim) (fun l pre x => x.elim) ?done (fun D c pre W _ h _ => h.elim)
    case done =>
      rintro D ys W hD _ hI hK
      have hz6 := hz5.under hI
      have hc6 := hc5.under hI
      have hB6 := bto hB5 hI
      have ht6 := ht5.below h05 hI
      have h06 : 0 < W.heap.size := Nat.lt_of_lt_of_le h05 hI.size
      have hzc : g8 ≠ g4 := hz6.ne_ hc6 (by decide)
      have hDg : D ≠ g4 := fun e => by have := hc5.lt; omega
      obtain ⟨Fv, hFv⟩ : ∃ Fv : World → Value, ∀ w' b, Blk w' g4 4 #[b] → Fv w' = b := ⟨fun w' => (w'.cell? ⟨g4, 0, none⟩).getD undef, fun w' b h => by show (w'.cell? ⟨g4, 0, none⟩).getD undef = b; rw [show w'.cell? ⟨g4, 0, none⟩ = some b from h.cell 0]; rfl⟩
      have base : Hid (∀ w', Tch W w' (fun k => k = g4) → (∃ b, Blk w' g4 4 #[b]) → (w'.cell? ⟨g8, 0, none⟩ = some (.int .u64 0) ∧ w'.cell? ⟨g8, 1, none⟩ = some (.int .i64 0) ∧ w'.frozen? ⟨g4, 0, none⟩ = false ∧ w'.cell? ⟨g4, 0, none⟩ = some (Fv w') ∧ Tch W w' (fun k => k = g4) ∧ ∃ b, Blk w' g4 4 #[b])) := fun w' hb ⟨b, hk⟩ => ⟨(hb.blk hz6 hzc).cell 0, (hb.blk hz6 hzc).cell 1, hk.frozen 0, (hk.cell 0).trans (by rw [hFv w' b hk]; rfl), hb, b, hk⟩
      have hst : Hid (∀ wx wy, (wx.cell? ⟨g8, 0, none⟩ = some (.int .u64 0) ∧ wx.cell? ⟨g8, 1, none⟩ = some (.int .i64 0) ∧ wx.frozen? ⟨g4, 0, none⟩ = false ∧ wx.cell? ⟨g4, 0, none⟩ = some (Fv wx) ∧ Tch W wx (fun k => k = g4) ∧ ∃ b, Blk wx g4 4 #[b]) → Below wx.heap.size wx wy → (wy.cell? ⟨g8, 0, none⟩ = some (.int .u64 0) ∧ wy.cell? ⟨g8, 1, none⟩ = some (.int .i64 0) ∧ wy.frozen? ⟨g4, 0, none⟩ = false ∧ wy.cell? ⟨g4, 0, none⟩ = some (Fv wy) ∧ Tch W wy (fun k => k = g4) ∧ ∃ b, Blk wy g4 4 #[b])) := fun wx wy ⟨_, _, _, _, ht, b, hb⟩ hbl => base.out _ (ht.trans (Tch.of_below hbl (fun _ => False)) fun _ _ h => h.elim) ⟨b, hb.under hbl⟩
      have hse : Hid (∀ wx u, (wx.cell? ⟨g8, 0, none⟩ = some (.int .u64 0) ∧ wx.cell? ⟨g8, 1, none⟩ = some (.int .i64 0) ∧ wx.frozen? ⟨g4, 0, none⟩ = false ∧ wx.cell? ⟨g4, 0, none⟩ = some (Fv wx) ∧ Tch W wx (fun k => k = g4) ∧ ∃ b, Blk wx g4 4 #[b]) → ((wx.setCell ⟨g4, 0, none⟩ u).cell? ⟨g8, 0, none⟩ = some (.int .u64 0) ∧ (wx.setCell ⟨g4, 0, none⟩ u).cell? ⟨g8, 1, none⟩ = some (.int .i64 0) ∧ (wx.setCell ⟨g4, 0, none⟩ u).frozen? ⟨g4, 0, none⟩ = false ∧ (wx.setCell ⟨g4, 0, none⟩ u).cell? ⟨g4, 0, none⟩ = some (Fv (wx.setCell ⟨g4, 0, none⟩ u)) ∧ Tch W (wx.setCell ⟨g4, 0, none⟩ u) (fun k => k = g4) ∧ ∃ b, Blk (wx.setCell ⟨g4, 0, none⟩ u) g4 4 #[b])) := fun wx u ⟨_, _, _, _, ht, b, hb⟩ => base.out _ (ht.put (p := ⟨g4, 0, none⟩) u rfl) ⟨u, hb.set_ 0 u⟩
      have hs0 : Hid (W.drew.cell? ⟨g8, 0, none⟩ = some (.int .u64 0) ∧ W.drew.cell? ⟨g8, 1, none⟩ = some (.int .i64 0) ∧ W.drew.frozen? ⟨g4, 0, none⟩ = false ∧ W.drew.cell? ⟨g4, 0, none⟩ = some (Fv W.drew) ∧ Tch W W.drew (fun k => k = g4) ∧ ∃ b, Blk W.drew g4 4 #[b]) := base.out _ (Tch.refl _ _).drew ⟨_, hc6⟩
      have hdef : Hid (∀ w', (w'.cell? ⟨g8, 0, none⟩ = some (.int .u64 0) ∧ w'.cell? ⟨g8, 1, none⟩ = some (.int .i64 0) ∧ w'.frozen? ⟨g4, 0, none⟩ = false ∧ w'.cell? ⟨g4, 0, none⟩ = some (Fv w') ∧ Tch W w' (fun k => k = g4) ∧ ∃ b, Blk w' g4 4 #[b]) → w'.heap[D]? = some (.deferred (some [])) ∧ Below w.heap.size w w') := fun w' ⟨_, _, _, _, ht, _⟩ => ⟨(ht.block D (Array.getElem?_eq_some_iff.1 hK).1 hDg).trans hK, hB6.trans (ht.below hB6.size fun i hi e => by omega)⟩
      have htab : Hid (∀ w', (w'.cell? ⟨g8, 0, none⟩ = some (.int .u64 0) ∧ w'.cell? ⟨g8, 1, none⟩ = some (.int .i64 0) ∧ w'.frozen? ⟨g4, 0, none⟩ = false ∧ w'.cell? ⟨g4, 0, none⟩ = some (Fv w') ∧ Tch W w' (fun k => k = g4) ∧ ∃ b, Blk w' g4 4 #[b]) → Tab w' ∧ 0 < w'.heap.size) := fun w' ⟨_, _, _, _, ht, _⟩ => ⟨fun i hi => (World.cell?_of_block (a := ⟨0, i, none⟩) (ht.block 0 h06 (fun e => by omega))).trans (ht6 i hi), Nat.lt_of_lt_of_le h06 ht.size⟩
      have qsz : Hid (∀ w', Calls Tryd.prog 21 #[.agg #[.int .u64 0, .int .i64 0]] w' fun e w'' => e = .returned (.int .i64 0) ∧ Below w'.heap.size w' w'') := fun w' => size_any 0 0 w'
      have qle : Hid (∀ w', Calls Tryd.prog 11 #[.agg #[.int .u64 0, .int .i64 0]] w' fun e w'' => e = .returned (.int .i64 0) ∧ Below w'.heap.size w' w'') := fun w' => len_any 0 0 w' (by decide) (by decide)
      have qha : Hid (∀ w', Calls Tryd.prog 12 #[.agg #[.int .u64 0, .int .i64 0], .int .i64 v] w' fun e w'' => e = .returned (.bool false) ∧ Below w'.heap.size w' w'') := fun w' => has_out 0 0 v w' (by omega : v < 0 ∨ ((0 : Nat) : Int) ≤ v) (by decide)
      have qpu : Hid (∀ w', Calls Tryd.prog 17 #[.agg #[.int .u64 0, .int .i64 0], .int .i64 v] w' fun e w'' => e = .returned (.agg #[.int .u64 0, .int .i64 0]) ∧ Below w'.heap.size w' w'') := fun w' => put_out 0 0 v w' (by omega : v < 0 ∨ ((0 : Nat) : Int) ≤ v) (by decide)
      have qdr : Hid (∀ w', Calls Tryd.prog 15 #[.agg #[.int .u64 0, .int .i64 0], .int .i64 v] w' fun e w'' => e = .returned (.agg #[.int .u64 0, .int .i64 0]) ∧ Below w'.heap.size w' w'') := fun w' => drop_out 0 0 v w' (by omega : v < 0 ∨ ((0 : Nat) : Int) ≤ v) (by decide)
      have qon : Hid (∀ w', Calls Tryd.prog 18 #[.agg #[.int .u64 0, .int .i64 0], .int .i64 v] w' fun e w'' => e = .returned (.agg #[.int .u64 0, .int .i64 0]) ∧ Below w'.heap.size w' w'') := fun w' => only_no 0 0 v w' (by decide) (by decide) (.inl (by omega : v < 0 ∨ ((0 : Nat) : Int) ≤ v))
      have qla : Hid (∀ w', Calls Tryd.prog 22 #[.agg #[.int .u64 0, .int .i64 0]] w' fun e w'' => e = .returned (.int .i64 (-1)) ∧ Below w'.heap.size w' w'') := fun w' => last_any 0 0 w' (by decide) (by decide)
      have qfi : Hid (∀ w', (w'.cell? ⟨g8, 0, none⟩ = some (.int .u64 0) ∧ w'.cell? ⟨g8, 1, none⟩ = some (.int .i64 0) ∧ w'.frozen? ⟨g4, 0, none⟩ = false ∧ w'.cell? ⟨g4, 0, none⟩ = some (Fv w') ∧ Tch W w' (fun k => k = g4) ∧ ∃ b, Blk w' g4 4 #[b]) → Calls Tryd.prog 13 #[.agg #[.int .u64 0, .int .i64 0]] w' fun e w'' => e = .returned (.int .i64 (-1)) ∧ Below w'.heap.size w' w'') := fun w' h => (first_any 0 0 w' (htab.out _ h).1 (htab.out _ h).2 (by decide) (by decide)).mono fun e w'' ⟨r, he, hr, hb⟩ => ⟨by rw [he, nx_zero hr], hb⟩
      have qne : Hid (∀ w', (w'.cell? ⟨g8, 0, none⟩ = some (.int .u64 0) ∧ w'.cell? ⟨g8, 1, none⟩ = some (.int .i64 0) ∧ w'.frozen? ⟨g4, 0, none⟩ = false ∧ w'.cell? ⟨g4, 0, none⟩ = some (Fv w') ∧ Tch W w' (fun k => k = g4) ∧ ∃ b, Blk w' g4 4 #[b]) → Calls Tryd.prog 14 #[.agg #[.int .u64 0, .int .i64 0], .int .i64 v] w' fun e w'' => e = .returned (.int .i64 (-1)) ∧ Below w'.heap.size w' w'') := fun w' h => (next_any 0 0 v w' (htab.out _ h).1 (htab.out _ h).2 (by decide) (by decide)).mono fun e w'' ⟨r, he, hr, hb⟩ => ⟨by rw [he, nx_zero hr], hb⟩
      have hs1 := hs0.out
      have hD9 : w.heap.size ≤ D := Nat.le_trans hB5.size hD
      clear ht5 h05 hz5 hc5 hB5 hbx ht6 hz6 hc6 hB6 hI hK hzc
      go_wp2_with fail
      go_region_held3 (fun w' => w'.cell? ⟨g8, 0, none⟩ = some (.int .u64 0) ∧ w'.cell? ⟨g8, 1, none⟩ = some (.int .i64 0) ∧ w'.frozen? ⟨g4, 0, none⟩ = false ∧ w'.cell? ⟨g4, 0, none⟩ = some (Fv w') ∧ Tch W w' (fun k => k = g4) ∧ ∃ b, Blk w' g4 4 #[b])
        (first | assumption | exact hs0.out | (refine hst.out _ _ ?_ hbx; assumption) | exact hst.out _ _ hs0.out hbx | (refine hse.out _ _ ?_; assumption) | (refine hse.out _ _ (hst.out _ _ ?_ hbx); assumption))
        (first
        | (go_at_call 21; (with_reducible refine (qsz.out _).mono ?_); rintro e wx ⟨rfl, hbx⟩)
        | (go_at_call 11; (with_reducible refine (qle.out _).mono ?_); rintro e wx ⟨rfl, hbx⟩)
        | (go_at_call 12; (with_reducible refine (qha.out _).mono ?_); rintro e wx ⟨rfl, hbx⟩)
        | (go_at_call 17; (with_reducible refine (qpu.out _).mono ?_); rintro e wx ⟨rfl, hbx⟩)
        | (go_at_call 15; (with_reducible refine (qdr.out _).mono ?_); rintro e wx ⟨rfl, hbx⟩)
        | (go_at_call 18; (with_reducible refine (qon.out _).mono ?_); rintro e wx ⟨rfl, hbx⟩)
        | (go_at_call 22; (with_reducible refine (qla.out _).mono ?_); rintro e wx ⟨rfl, hbx⟩)
        | (go_at_call 13; (with_reducible refine (qfi.out _ ?_).mono ?_); (first | assumption | exact hs0.out | (refine hst.out _ _ ?_ hbx; assumption)); rintro e wx ⟨rfl, hbx⟩)
        | (go_at_call 14; (with_reducible refine (qne.out _ ?_).mono ?_); (first | assumption | exact hs0.out | (refine hst.out _ _ ?_ hbx; assumption)); rintro e wx ⟨rfl, hbx⟩))
      have hfin := hdef.out (wx.setCell ⟨g4, 0, none⟩ (.bool true)) (by assumption)
      have hbk : ∃ b, Blk (wx.setCell ⟨g4, 0, none⟩ (.bool true)) g4 4 #[b] := by
        have hh : (wx.setCell ⟨g4, 0, none⟩ (.bool true)).cell? ⟨g8, 0, none⟩ = some (.int .u64 0) ∧ (wx.setCell ⟨g4, 0, none⟩ (.bool true)).cell? ⟨g8, 1, none⟩ = some (.int .i64 0) ∧ (wx.setCell ⟨g4, 0, none⟩ (.bool true)).frozen? ⟨g4, 0, none⟩ = false ∧ (wx.setCell ⟨g4, 0, none⟩ (.bool true)).cell? ⟨g4, 0, none⟩ = some (Fv (wx.setCell ⟨g4, 0, none⟩ (.bool true))) ∧ Tch W (wx.setCell ⟨g4, 0, none⟩ (.bool true)) (fun k => k = g4) ∧ ∃ b, Blk (wx.setCell ⟨g4, 0, none⟩ (.bool true)) g4 4 #[b] := by assumption
        exact hh.2.2.2.2.2
      obtain ⟨b, hbk⟩ := hbk
      obtain rfl := blk_set_val hbk
      clear hs1 hst hse hs0 hdef htab base
      go_wp2_with fail
      refine ⟨by simp, .inl ⟨_, _, rfl, run_takeDeferred hfin.1, ?_⟩⟩
      have hlast := res_cell hbk hDg hfin.2 hD9
      exact ⟨_, (hlast _ rfl).1, rfl, (hlast #[undef, undef, undef, undef, .pointer (some ⟨g4, 0, none⟩)] rfl).2⟩
theorem gTab : Tryd.prog.globalNamed "math/bits.deBruijn64tab" = some 0 := by kernel_rfl
theorem gTabType : (Tryd.prog.globals[0]?).map (·.type) = some 56 := by kernel_rfl
theorem cellsA : Tryd.prog.cellsOf 56 = tab.length := by kernel_rfl
theorem cellsE : Tryd.prog.cellsOf 5 = 1 := by kernel_rfl
theorem table {W : World} (h : laidMetH Tryd.prog Rows.domNewRow.laid W) : Lib.TabIs Tryd.prog W "math/bits.deBruijn64tab" .u8 tab :=
  Lib.tabIs_of_head (rest := []) gTab gTabType Tryd.underlying56 Tryd.underlying5 cellsE cellsA h
theorem walk (a0 : Int) (a1 : Int) (w : World) (w0 : (Lit.int .i64 a0).wf = true) (w1 : (Lit.int .i64 a1).wf = true) (ht : Tab w) (h0w : 0 < w.heap.size) :
    Calls Tryd.prog 5 #[.int .i64 a0, .int .i64 a1] w fun e w' => e = .returned (.bool true) ∧ Below w.heap.size w w' := by
  exact core a0 a1 w (wf_i64 w1) ht h0w

theorem contract (H : Type) (enc : TypeId × Value → H) (W : World) (base : Nat) (args : Array Value) (ds gs : List (DataW H)) (before : List MemPlace)
    (hval0 : ∀ (j : Nat) t v, Tryd.f5.params[j]? = some t → args[j]? = some v → Value.okWide Tryd.prog W .any base t v)
    (hW : DataW.Whole enc Tryd.prog Tryd.f5.params.toList Rows.domNewSpec.vars false W args.toList ds gs before) (hL : laidMetH Tryd.prog Rows.domNewRow.laid W) :
    Calls Tryd.prog 5 args W fun e W' => ∃ v, e = .returned v ∧ Rows.domNewSpec.post enc Tryd.prog Tryd.f5 false true false false W args v W' := by
  have hval : ∀ (j : Nat) t v, Tryd.f5.params[j]? = some t → args[j]? = some v → Value.okWide Tryd.prog W .any base t v := hval0
  have hW' := hW
  obtain ⟨p, q, hA0, hV, rfl, hfz, hnd⟩ := hW
  have hA : DataW.TrodAll enc Tryd.prog W 0 (fun _ => true) true Tryd.f5.params.toList args.toList ds p := hA0
  rw [Tryd.params5] at hA hval
  obtain ⟨v0, vs0, d0, ds0, p0, q0, hargs, rfl, rfl, h0, r0⟩ := trodAll_cons hA
  obtain ⟨v1, vs1, d1, ds1, p1, q1, rfl, rfl, rfl, h1, r1⟩ := trodAll_cons r0
  obtain ⟨rfl, rfl, rfl⟩ := trodAll_nil r1
  obtain rfl : args = #[v0, v1] := by cases args; simp_all
  obtain ⟨rfl, rfl⟩ := trodVars_none hV
  obtain ⟨a0, rfl, rfl, rfl, w0⟩ := open_int Tryd.underlying3 (hval 0 3 v0 rfl rfl) h0
  obtain ⟨a1, rfl, rfl, rfl, w1⟩ := open_int Tryd.underlying3 (hval 1 3 v1 rfl rfl) h1
  clear hA0 hval0
  simp only [List.append_nil] at hW'
  have htab : Tab W := fun i hi => (table hL).cell gTab i (by simpa [tab] using hi)
  have h0w : 0 < W.heap.size := World.block_lt_of_cell? W _ (htab 0 (by decide))
  refine (walk a0 a1 W w0 w1 htab h0w).mono fun e W' ⟨he, bel⟩ => ?_
  subst he
  exact ⟨_, rfl, _, _, _, [], _, [], hW', trodAll_mk1 (shut_bool Tryd.underlying4 _), (trodAll_cons_mk (shut_int Tryd.underlying3 w0) (trodAll_cons_mk (shut_int Tryd.underlying3 w1) trodAll_mk0)), rfl, bel.frame _, fun h => by cases h⟩
noncomputable def laidWorld (os : Os) : World :=
  { World.holding Tryd.prog os ⟨#[], #[], []⟩ with heap := (World.holding Tryd.prog os ⟨#[], #[], []⟩).heap.modify 0 fun
      | .cells _ t frozen => .cells #[.int .u8 0, .int .u8 1, .int .u8 56, .int .u8 2, .int .u8 57, .int .u8 49, .int .u8 28, .int .u8 3, .int .u8 61, .int .u8 58, .int .u8 42, .int .u8 50, .int .u8 38, .int .u8 29, .int .u8 17, .int .u8 4, .int .u8 62, .int .u8 47, .int .u8 59, .int .u8 36, .int .u8 45, .int .u8 43, .int .u8 51, .int .u8 22, .int .u8 53, .int .u8 39, .int .u8 33, .int .u8 30, .int .u8 24, .int .u8 18, .int .u8 12, .int .u8 5, .int .u8 63, .int .u8 55, .int .u8 48, .int .u8 27, .int .u8 60, .int .u8 41, .int .u8 37, .int .u8 16, .int .u8 46, .int .u8 35, .int .u8 44, .int .u8 21, .int .u8 52, .int .u8 32, .int .u8 23, .int .u8 11, .int .u8 54, .int .u8 26, .int .u8 40, .int .u8 15, .int .u8 34, .int .u8 20, .int .u8 31, .int .u8 10, .int .u8 25, .int .u8 14, .int .u8 19, .int .u8 9, .int .u8 13, .int .u8 8, .int .u8 7, .int .u8 6] t frozen
      | o => o }
theorem laid_met (os : Os) : laidMet Tryd.prog Rows.domNewRow.laid ((laidWorld os).forCall (fun _ _ => 0) ⟨#[], #[.int .i64 0, .int .i64 0], []⟩).memory :=
  laidMet_of_run' 8 (by kernel_rfl) (by kernel_rfl)
theorem reads (os : Os) {H : Type} (enc : TypeId × Value → H) : ∃ places, DataW.whole enc Tryd.prog ((laidWorld os).forCall (fun _ _ => 0) ⟨#[], #[.int .i64 0, .int .i64 0], []⟩).memory Tryd.f5.params.toList Rows.domNewSpec.vars false (#[.int .i64 0, .int .i64 0] : Array Value).toList 8 = some ([.lit (.int .i64 0), .lit (.int .i64 0)], [], places) :=
  ⟨[], by kernel_rfl⟩
set_option maxRecDepth 100000 in
theorem lifted (os : Os) (started : os.Started) (H : Type) (enc : TypeId × Value → H) (F : Stop.Interp) :
    ReturnsInHanded {} Tryd.checked os 5 .any ((OpenSpec.ofChange Rows.domNewSpec).preRow enc Tryd.prog Tryd.f5 Rows.domNewRow.domain false Rows.domNewRow.laid) (((OpenSpec.ofChange Rows.domNewSpec).at F).post enc Tryd.prog Tryd.f5 false true false false) := by
  obtain ⟨places, hx⟩ := reads os enc
  refine returnsInHanded_of_row (C := Tryd.checked) (s := OpenSpec.ofChange Rows.domNewSpec) own started (by kernel_rfl) Tryd.func5
    (witness_row_at (enc := enc) (C := Tryd.checked) false (laidWorld os) #[.int .i64 0, .int .i64 0] rfl (by kernel_rfl) (by kernel_rfl) (by kernel_rfl)
      (OpenSpec.preRow_of_cond 8 hx (by kernel_rfl) (fun k hk => by cases hk) (by kernel_rfl) (laid_met os))) ?_
  intro W base args ds gs before hval hW _ _ _ hL _ _
  exact contract H enc W base args ds gs before hval hW hL
theorem said : Rows.DomNewSaid :=
  OpenClaim.holds_of_cond 5 Tryd.f5 rfl rfl rfl rfl rfl rfl rfl ⟨rfl, rfl, rfl, rfl, rfl⟩ rfl rfl rfl rfl rfl (by kernel_rfl) Tryd.func5 (by kernel_rfl)
    (of_decide_eq_true (by kernel_rfl)) (by unfold Func.isWrapper; first | (rw [if_pos (by decide +kernel)]; kernel_rfl) | (rw [if_neg (by decide +kernel)]; exact ⟨rfl, rfl⟩))
    (fun os started H enc _ F => by rw [OpenClaim.pre_eq_preRow]; exact lifted os started H enc F)
theorem plain (f : FuncId) (fn : Func) (hf : Tryd.pinned.checked.prog.funcNamed "pennyweight/pennyweightlaw02.DomNew" = some f) (hfn : Tryd.pinned.checked.prog.funcs[f]? = some fn) :
    false = Tryd.pinned.checked.prog.looks [] ∧ ∀ (j : Nat) t, fn.params[j]? = some t → Tryd.pinned.checked.prog.wantsStandIn t = false := by
  obtain rfl : f = 5 := Option.some.inj ((show Tryd.prog.funcNamed "pennyweight/pennyweightlaw02.DomNew" = some 5 by kernel_rfl).symm.trans hf) |>.symm
  obtain rfl : fn = Tryd.f5 := (Option.some.inj (Tryd.func5.symm.trans hfn)).symm
  refine ⟨by kernel_rfl, fun j t ht => ?_⟩
  rw [Tryd.params5] at ht
  have hm := Array.mem_of_getElem? ht
  simp only [Array.mem_def, List.mem_cons, List.not_mem_nil, or_false] at hm
  rcases hm with rfl | rfl <;> (show Tryd.prog.wantsStandIn _ = false; kernel_rfl)
theorem proved : Rows.DomNewCardSaid :=
  Claim7.holds_tied_plain_at .later [] _ _ _ _ said (fun _ h => by cases h) (by kernel_rfl) (fun _ h => by cases h) domNew_row_tie rfl ⟨rfl, rfl⟩ (by kernel_rfl) rfl plain (by kernel_rfl)
end Go.Proofs.YtcmglgkopgfheaaDoor.domNew
