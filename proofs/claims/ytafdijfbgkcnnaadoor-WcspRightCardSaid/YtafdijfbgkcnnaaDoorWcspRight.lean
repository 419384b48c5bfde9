/- For every input WcspRight returns true; its arguments read as before. No condition; the tables of Go's library are tied to the program's text. -/
import Derived.Test.YtafdijfbgkcnnaaDoorCards
import Derived.Test.YtafdijfbgkcnnaaDoorTie
import Derived.Deep.DeepHandedRow
import Derived.Lib.LaidTab
import Derived.Stop.LaidErr
import Derived.WalkKit
import Derived.ProofKit
import Derived.OpenShut
import Derived.ShutString
import Derived.ChangeOld
import Derived.Below
import Derived.Test.YtafdijfbgkcnnaaDoorOpen
import Derived.Test.YtafdijfbgkcnnaaDoorPkR
import Derived.Test.YtafdijfbgkcnnaaDoorIntClone
namespace Go.Proofs.YtafdijfbgkcnnaaDoor.wcspRight
open Go.Proofs.YtafdijfbgkcnnaaDoor.wcp Go.Proofs.YtafdijfbgkcnnaaDoor.scn Go.Proofs.YtafdijfbgkcnnaaDoor.words
open Go.ChangeShapes Go.WideShapes Go.ChangeAt Go.RowKit
open Go.ChangeMaps (open_string shut_string)
set_option linter.unusedVariables false
theorem own : ownKnob Tryd.prog.godebug = none := by kernel_rfl
theorem laidOut : laidOutB Tryd.prog = true := by kernel_rfl
theorem pow_eq : [1, 10, 100, 1000, 10000, 100000, 1000000, 10000000, 100000000, 1000000000, 10000000000, 100000000000, 1000000000000, 10000000000000, 100000000000000, 1000000000000000, 10000000000000000, 100000000000000000, 1000000000000000000, 10000000000000000000] = Lib.pow10Tab := by decide +kernel
theorem pow_tab {W : World} (h : Lib.TabIs Tryd.prog W "internal/strconv.uint64pow10" .u64 [1, 10, 100, 1000, 10000, 100000, 1000000, 10000000, 100000000, 1000000000, 10000000000, 100000000000, 1000000000000, 10000000000000, 100000000000000, 1000000000000000, 10000000000000000, 100000000000000000, 1000000000000000000, 10000000000000000000]) : Tab W := by
  unfold Tab; rw [← pow_eq]; exact h
set_option maxRecDepth 1000000 in
set_option maxHeartbeats 8000000 in
theorem core (x : ByteArray) (k0 : Int) (A B : Option Addr) (n m cap capm : Nat) (xs ys : List Int) (other : Int) (nothing : Bool) (w : World) (hx : x.size ≤ maxLen) (hn : n ≤ 9223372036854775807) (hm : m ≤ 9223372036854775807) (hnc : n ≤ cap) (hmc : m ≤ capm) (hr : Reads w w.heap.size 1 A n (nums xs)) (hs : Reads w w.heap.size 1 B m (nums ys)) (ht : Tab w) :
    Calls Tryd.prog 8 #[.string x, .int .i64 k0, .slice A n cap, .slice B m capm, .int .i64 other, .bool nothing] w fun e w' => e = .returned (.bool true) ∧ Below w.heap.size w w' := by
  obtain ⟨y, rfl⟩ : ∃ y : List UInt8, x = ⟨y.toArray⟩ := ⟨x.data.toList, rfl⟩
  obtain ⟨j, hj1, j1, j2, hjm⟩ := min_nat y.length 80
  obtain ⟨k, hk1, k1, k2, hkm⟩ := min_nat n 70
  obtain ⟨q, hq1, q1, q2, hqm⟩ := min_nat m 5
  have hys : (⟨y.toArray⟩ : ByteArray).size = y.length := by simp [ByteArray.size]
  have hex : (⟨y.toArray⟩ : ByteArray).extract 0 j = ⟨(y.take j).toArray⟩ := by
    apply ByteArray.ext
    rw [ByteArray.data_extract]
    simp
  have hjI : min (y.length : Int) 80 = (j : Int) := by omega
  have hkI : min (n : Int) 70 = (k : Int) := by omega
  have hqI : min (m : Int) 5 = (q : Int) := by omega
  have hj1' : (if (80 : Int) < (y.length : Int) then (80 : Int) else (y.length : Int)) = (j : Int) := hj1
  have hk1' : (if (70 : Int) < (n : Int) then (70 : Int) else (n : Int)) = (k : Int) := hk1
  have hq1' : (if (5 : Int) < (m : Int) then (5 : Int) else (m : Int)) = (q : Int) := hq1
  have jI : (0 : Int) ≤ (j : Int) := Int.natCast_nonneg _
  have kI : (0 : Int) ≤ (k : Int) := Int.natCast_nonneg _
  have qI : (0 : Int) ≤ (q : Int) := Int.natCast_nonneg _
  have jc : (j : Int) ≤ (y.length : Int) := by omega
  have kc : (k : Int) ≤ (cap : Int) := by omega
  have qc : (q : Int) ≤ (capm : Int) := by omega
  have hxl := nums_len hr
  have hyl := nums_len hs
  obtain ⟨name, hnm⟩ : ∃ name, y.take j = name := ⟨_, rfl⟩
  obtain ⟨as_, has⟩ : ∃ as_, xs.take k = as_ := ⟨_, rfl⟩
  obtain ⟨bs_, hbs⟩ : ∃ bs_, ys.take q = bs_ := ⟨_, rfl⟩
  have hnl : name.length ≤ 1000000 := by rw [← hnm, List.length_take]; omega
  have hal : as_.length = k := by rw [← has, List.length_take]; omega
  have hbl : bs_.length = q := by rw [← hbs, List.length_take]; omega
  rw [hnm] at hex
  rw [hys] at hx
  have hsq : Reads w w.heap.size 1 A k (nums as_) := by
    have := hr.take_ (m := k) (by omega)
    rw [← has]; unfold nums at this ⊢; rw [List.map_take]; exact this
  have hrk : Reads w w.heap.size 1 B q (nums bs_) := by
    have := hs.take_ (m := q) (by omega)
    rw [← hbs]; unfold nums at this ⊢; rw [List.map_take]; exact this
  have HT := Lib.hid ht
  have HCA := Lib.hid (fun W c (hW : Below w.heap.size w W) => clone_any A k c as_ W (by omega) ((hsq.below hW).more hW.size))
  have HCB := Lib.hid (fun W c (hW : Below w.heap.size w W) => clone_any B q c bs_ W (by omega) ((hrk.below hW).more hW.size))
  have HAL := Lib.hid hal
  have HBL := Lib.hid hbl
  have hn5 : bs_.length ≤ 5 := by omega
  have hsl : as_.length ≤ 1000000 := by omega
  obtain ⟨yl, hyl2⟩ : ∃ yl, y.length = yl := ⟨_, rfl⟩
  rw [hyl2] at hys hj1' hjI jc hx
  clear hr hs ht hxl hyl has hbs hal hbl hrk hsq hjm hkm hqm hj1 hk1 hq1 hnm hyl2 j1
  go_enter Tryd.func8, Tryd.ntmps8
  go_wp2_with fail
  refine (wawake_any w HT.out).mono ?_
  rintro e w1 ⟨rfl, hb1⟩
  have HB1 := Lib.hid hb1
  clear hb1
  go_upto_region 3 with fail
  go_cut [0, 2, 3] (fun s u v wq => ∃ A1 c1 A2 c2, s = strV name ∧ u = .slice A1 k c1 ∧ v = .slice A2 q c2 ∧ wq.ownsRow 0 3 1 (.slice A1 k c1) k (nums as_) ∧ wq.ownsRow 0 3 1 (.slice A2 q c2) q (nums bs_) ∧ Below w.heap.size w wq)
  case first =>
    have hA1 := HCA.out w1.drew cap ⟨HB1.out.os, HB1.out.tape, HB1.out.output, HB1.out.size, HB1.out.block⟩
    have hB1 := HCB.out w1.drew capm ⟨HB1.out.os, HB1.out.tape, HB1.out.output, HB1.out.size, HB1.out.block⟩
    go_region_held3 (fun _ => True) (trivial) (first
      | (go_at_call 13; refine hA1.mono ?_; rintro e wA ⟨A1, c1, rfl, hoA, hbA⟩; have hbA' := bto HB1.out (show Below w1.heap.size w1 wA from ⟨hbA.os, hbA.tape, hbA.output, hbA.size, hbA.block⟩); have hB2 := HCB.out wA capm hbA'; have HOA := Lib.hid hoA; have HBA := Lib.hid hbA'; clear hoA hbA hbA' hA1)
      | (go_at_call 13; refine hB2.mono ?_; rintro e wB ⟨A2, c2, rfl, hoB, hbB⟩; have HOB := Lib.hid hoB; have HBB := Lib.hid (bto HBA.out hbB); have HOA2 := Lib.hid (own_under HOA.out hbB); clear hoB hbB hB2)
      | (go_at_call 13; refine hB1.mono ?_; rintro e wB ⟨A2, c2, rfl, hoB, hbB⟩; have hbB' := bto HB1.out (show Below w1.heap.size w1 wB from ⟨hbB.os, hbB.tape, hbB.output, hbB.size, hbB.block⟩); have hA2 := HCA.out wB cap hbB'; have HOB := Lib.hid hoB; have HBB := Lib.hid hbB'; clear hoB hbB hbB' hB1)
      | (go_at_call 13; refine hA2.mono ?_; rintro e wA ⟨A1, c1, rfl, hoA, hbA⟩; have HOA2 := Lib.hid hoA; have HBB := Lib.hid (bto HBB.out hbA); have HOB := Lib.hid (own_under HOB.out hbA); clear hoA hbA hA2))
    all_goals
      go_wp2_with fail
      go_meet
      case rel => exact ⟨A1, c1, A2, c2, by first | rfl | rw [hex] | simp [hex], by rw [HAL.out], by rw [HBL.out], own_base (by have := HOA2.out; rw [HAL.out] at this; exact this) (Nat.zero_le _), own_base (by have := HOB.out; rw [HBL.out] at this; exact this) (Nat.zero_le _), HBB.out⟩
  case rest =>
    obtain ⟨A1, c1, A2, c2, rfl, rfl, rfl, hoA, hoB, hbc⟩ := hcut
    rw [← HAL.out] at hoA ⊢
    rw [← HBL.out] at hoB ⊢
    have hbt := bone wc (.cells #[strV name, .int .i64 k0, .slice A1 as_.length c1, .slice none 0 0] 51)
    have HG : Hid (Blk (wc.alloc (.cells #[strV name, .int .i64 k0, .slice A1 as_.length c1, .slice none 0 0] 51)) wc.heap.size 51 #[strV name, .int .i64 k0, .slice A1 as_.length c1, .slice none 0 0]) := Blk.new _ _ _
    have HS : Hid ((wc.alloc (.cells #[strV name, .int .i64 k0, .slice A1 as_.length c1, .slice none 0 0] 51)).ownsRow 0 3 1 (.slice A1 as_.length c1) as_.length (nums as_)) := own_under hoA hbt
    have HC : Hid ((wc.alloc (.cells #[strV name, .int .i64 k0, .slice A1 as_.length c1, .slice none 0 0] 51)).ownsRow 0 3 1 (.slice A2 bs_.length c2) bs_.length (nums bs_)) := own_under hoB hbt
    have HB : Hid (Below w.heap.size w (wc.alloc (.cells #[strV name, .int .i64 k0, .slice A1 as_.length c1, .slice none 0 0] 51))) := bnew hbc _
    have hgb : w.heap.size ≤ wc.heap.size := hbc.size
    clear hoA hoB hbc hbt
    repeat (first | (exact wr_ok HG.out hgb HS.out HC.out hn5 hsl hnl HB.out) | go_step | dsimp only)
def tab0 : List Int := [1, 10, 100, 1000, 10000, 100000, 1000000, 10000000, 100000000, 1000000000, 10000000000, 100000000000, 1000000000000, 10000000000000, 100000000000000, 1000000000000000, 10000000000000000, 100000000000000000, 1000000000000000000, 10000000000000000000]
theorem gTab0 : Tryd.prog.globalNamed "internal/strconv.uint64pow10" = some 0 := by kernel_rfl
theorem gTabType0 : (Tryd.prog.globals[0]?).map (·.type) = some 204 := by kernel_rfl
theorem cellsA0 : Tryd.prog.cellsOf 204 = tab0.length := by kernel_rfl
theorem cellsE0 : Tryd.prog.cellsOf 154 = 1 := by kernel_rfl
theorem table0 {W : World} (h : laidMetH Tryd.prog Rows.wcspRightRow.laid W) : Lib.TabIs Tryd.prog W "internal/strconv.uint64pow10" .u64 tab0 :=
  Lib.tabIs_of_head gTab0 gTabType0 Tryd.underlying204 Tryd.underlying154 cellsE0 cellsA0 (laidMet.tail (laidMet.tail h))
theorem walk (a0 : ByteArray) (a1 : Int) (a2 : Option Addr) (len2 cap2 : Nat) (z2 : List Int) (a3 : Option Addr) (len3 cap3 : Nat) (z3 : List Int) (a4 : Int) (a5 : Bool) (w : World) (w0 : a0.size ≤ maxLen) (w1 : (Lit.int .i64 a1).wf = true) (w2 : z2.length = len2 ∧ Reads w w.heap.size 1 a2 len2 (z2.map (Value.int .i64)) ∧ (∀ x ∈ z2, (Lit.int .i64 x).wf = true) ∧ len2 ≤ cap2 ∧ len2 ≤ 9223372036854775807) (w3 : z3.length = len3 ∧ Reads w w.heap.size 1 a3 len3 (z3.map (Value.int .i64)) ∧ (∀ x ∈ z3, (Lit.int .i64 x).wf = true) ∧ len3 ≤ cap3 ∧ len3 ≤ 9223372036854775807) (w4 : (Lit.int .i64 a4).wf = true) (ht : Tab w) :
    Calls Tryd.prog 8 #[.string a0, .int .i64 a1, .slice a2 len2 cap2, .slice a3 len3 cap3, .int .i64 a4, .bool a5] w fun e w' => e = .returned (.bool true) ∧ Below w.heap.size w w' := by
  obtain ⟨hl2, hr2, hQ2, hc2, hn2⟩ := w2
  obtain ⟨hl3, hr3, hQ3, hc3, hn3⟩ := w3
  exact core a0 a1 a2 a3 len2 len3 cap2 cap3 z2 z3 a4 a5 w w0 hn2 hn3 hc2 hc3 hr2 hr3 ht

set_option maxRecDepth 100000 in
theorem contract (H : Type) (enc : TypeId × Value → H) (W : World) (base : Nat) (args : Array Value) (ds gs : List (DataW H)) (before : List MemPlace)
    (hval0 : ∀ (j : Nat) t v, Tryd.f8.params[j]? = some t → args[j]? = some v → Value.okWide Tryd.prog W .any base t v)
    (hW : DataW.Whole enc Tryd.prog Tryd.f8.params.toList Rows.wcspRightSpec.vars false W args.toList ds gs before) (hL : laidMetH Tryd.prog Rows.wcspRightRow.laid W) :
    Calls Tryd.prog 8 args W fun e W' => ∃ v, e = .returned v ∧ Rows.wcspRightSpec.post enc Tryd.prog Tryd.f8 false true false false W args v W' := by
  have hval : ∀ (j : Nat) t v, Tryd.f8.params[j]? = some t → args[j]? = some v → Value.okWide Tryd.prog W .any base t v := hval0
  have hW' := hW
  obtain ⟨p, q, hA0, hV, rfl, hfz, hnd⟩ := hW
  have hA : DataW.TrodAll enc Tryd.prog W 0 (fun _ => true) true Tryd.f8.params.toList args.toList ds p := hA0
  rw [Tryd.params8] at hA hval
  obtain ⟨v0, vs0, d0, ds0, p0, q0, hargs, rfl, rfl, h0, r0⟩ := trodAll_cons hA
  obtain ⟨v1, vs1, d1, ds1, p1, q1, rfl, rfl, rfl, h1, r1⟩ := trodAll_cons r0
  obtain ⟨v2, vs2, d2, ds2, p2, q2, rfl, rfl, rfl, h2, r2⟩ := trodAll_cons r1
  obtain ⟨v3, vs3, d3, ds3, p3, q3, rfl, rfl, rfl, h3, r3⟩ := trodAll_cons r2
  obtain ⟨v4, vs4, d4, ds4, p4, q4, rfl, rfl, rfl, h4, r4⟩ := trodAll_cons r3
  obtain ⟨v5, vs5, d5, ds5, p5, q5, rfl, rfl, rfl, h5, r5⟩ := trodAll_cons r4
  obtain ⟨rfl, rfl, rfl⟩ := trodAll_nil r5
  obtain rfl : args = #[v0, v1, v2, v3, v4, v5] := by cases args; simp_all
  obtain ⟨rfl, rfl⟩ := trodVars_none hV
  obtain ⟨a0, rfl, rfl, rfl, w0⟩ := open_string Tryd.underlying9 (hval 0 9 v0 rfl rfl) h0
  obtain ⟨a1, rfl, rfl, rfl, w1⟩ := open_int Tryd.underlying2 (hval 1 2 v1 rfl rfl) h1
  obtain ⟨a2, len2, cap2, rfl⟩ := okWide_slice Tryd.underlying23 (hval 2 23 v2 rfl rfl)
  have k2 := h2
  have lt2 : ∀ x ∈ p2, x.block < W.heap.size := by obtain ⟨m, hm⟩ := k2; exact DataW.trod_lt m _ _ _ hm
  obtain ⟨z2, w2⟩ := open_ones (Value.int .i64) (fun x => (Lit.int .i64 x).wf = true) Tryd.underlying23 (by kernel_rfl) (dec_int Tryd.underlying3) h2
  obtain ⟨a3, len3, cap3, rfl⟩ := okWide_slice Tryd.underlying23 (hval 3 23 v3 rfl rfl)
  have k3 := h3
  have lt3 : ∀ x ∈ p3, x.block < W.heap.size := by obtain ⟨m, hm⟩ := k3; exact DataW.trod_lt m _ _ _ hm
  obtain ⟨z3, w3⟩ := open_ones (Value.int .i64) (fun x => (Lit.int .i64 x).wf = true) Tryd.underlying23 (by kernel_rfl) (dec_int Tryd.underlying3) h3
  obtain ⟨a4, rfl, rfl, rfl, w4⟩ := open_int Tryd.underlying2 (hval 4 2 v4 rfl rfl) h4
  obtain ⟨a5, rfl, rfl, rfl⟩ := open_bool Tryd.underlying4 (hval 5 4 v5 rfl rfl) h5
  clear hA0 hval0
  have htab : Tab W := (pow_tab (table0 hL))
  refine (walk a0 a1 a2 len2 cap2 z2 a3 len3 cap3 z3 a4 a5 W w0 w1 w2 w3 w4 htab).mono fun e W' ⟨he, bel⟩ => ?_
  subst he
  exact ⟨_, rfl, _, _, _, [], _, [], hW', trodAll_mk1 (shut_bool Tryd.underlying4 _), (trodAll_cons_mk (shut_string Tryd.underlying9 w0) (trodAll_cons_mk (shut_int Tryd.underlying2 w1) (trodAll_cons_mk (Below.trod laidOut (by kernel_rfl) (of_decide_eq_true (by kernel_rfl)) k2 bel lt2) (trodAll_cons_mk (Below.trod laidOut (by kernel_rfl) (of_decide_eq_true (by kernel_rfl)) k3 bel lt3) (trodAll_cons_mk (shut_int Tryd.underlying2 w4) (trodAll_cons_mk (shut_bool Tryd.underlying4 _) trodAll_mk0)))))), rfl, bel.frame _, fun h => by cases h⟩
noncomputable def laidWorld (os : Os) : World :=
  { World.holding Tryd.prog os ⟨#[], #[], []⟩ with heap := ((((World.holding Tryd.prog os ⟨#[], #[], []⟩).heap.modify 1 (fun | .cells _ t frozen => .cells #[.int .u8 0, .int .u8 1, .int .u8 28, .int .u8 2, .int .u8 29, .int .u8 14, .int .u8 24, .int .u8 3, .int .u8 30, .int .u8 22, .int .u8 20, .int .u8 15, .int .u8 25, .int .u8 17, .int .u8 4, .int .u8 8, .int .u8 31, .int .u8 27, .int .u8 13, .int .u8 23, .int .u8 21, .int .u8 19, .int .u8 16, .int .u8 7, .int .u8 26, .int .u8 12, .int .u8 18, .int .u8 6, .int .u8 11, .int .u8 5, .int .u8 10, .int .u8 9] t frozen | o => o)).modify 2 (fun | .cells _ t frozen => .cells #[.int .u8 0, .int .u8 1, .int .u8 56, .int .u8 2, .int .u8 57, .int .u8 49, .int .u8 28, .int .u8 3, .int .u8 61, .int .u8 58, .int .u8 42, .int .u8 50, .int .u8 38, .int .u8 29, .int .u8 17, .int .u8 4, .int .u8 62, .int .u8 47, .int .u8 59, .int .u8 36, .int .u8 45, .int .u8 43, .int .u8 51, .int .u8 22, .int .u8 53, .int .u8 39, .int .u8 33, .int .u8 30, .int .u8 24, .int .u8 18, .int .u8 12, .int .u8 5, .int .u8 63, .int .u8 55, .int .u8 48, .int .u8 27, .int .u8 60, .int .u8 41, .int .u8 37, .int .u8 16, .int .u8 46, .int .u8 35, .int .u8 44, .int .u8 21, .int .u8 52, .int .u8 32, .int .u8 23, .int .u8 11, .int .u8 54, .int .u8 26, .int .u8 40, .int .u8 15, .int .u8 34, .int .u8 20, .int .u8 31, .int .u8 10, .int .u8 25, .int .u8 14, .int .u8 19, .int .u8 9, .int .u8 13, .int .u8 8, .int .u8 7, .int .u8 6] t frozen | o => o)).modify 0 (fun | .cells _ t frozen => .cells #[.int .u64 1, .int .u64 10, .int .u64 100, .int .u64 1000, .int .u64 10000, .int .u64 100000, .int .u64 1000000, .int .u64 10000000, .int .u64 100000000, .int .u64 1000000000, .int .u64 10000000000, .int .u64 100000000000, .int .u64 1000000000000, .int .u64 10000000000000, .int .u64 100000000000000, .int .u64 1000000000000000, .int .u64 10000000000000000, .int .u64 100000000000000000, .int .u64 1000000000000000000, .int .u64 10000000000000000000] t frozen | o => o)) }
theorem laid_met (os : Os) : laidMet Tryd.prog Rows.wcspRightRow.laid ((laidWorld os).forCall (fun _ _ => 0) ⟨#[], #[.string ByteArray.empty, .int .i64 0, .slice none 0 0, .slice none 0 0, .int .i64 0, .bool false], []⟩).memory :=
  laidMet_of_run' 8 (by kernel_rfl) (by kernel_rfl)
theorem reads (os : Os) {H : Type} (enc : TypeId × Value → H) : ∃ places, DataW.whole enc Tryd.prog ((laidWorld os).forCall (fun _ _ => 0) ⟨#[], #[.string ByteArray.empty, .int .i64 0, .slice none 0 0, .slice none 0 0, .int .i64 0, .bool false], []⟩).memory Tryd.f8.params.toList Rows.wcspRightSpec.vars false (#[.string ByteArray.empty, .int .i64 0, .slice none 0 0, .slice none 0 0, .int .i64 0, .bool false] : Array Value).toList 8 = some ([.lit (.string []), .lit (.int .i64 0), .nil, .nil, .lit (.int .i64 0), .lit (.bool false)], [], places) :=
  ⟨[], by kernel_rfl⟩
set_option maxRecDepth 100000 in
theorem lifted (os : Os) (started : os.Started) (H : Type) (enc : TypeId × Value → H) (F : Stop.Interp) :
    ReturnsInHanded {} Tryd.checked os 8 .any ((OpenSpec.ofChange Rows.wcspRightSpec).preRow enc Tryd.prog Tryd.f8 Rows.wcspRightRow.domain false Rows.wcspRightRow.laid) (((OpenSpec.ofChange Rows.wcspRightSpec).at F).post enc Tryd.prog Tryd.f8 false true false false) := by
  obtain ⟨places, hx⟩ := reads os enc
  refine returnsInHanded_of_row (C := Tryd.checked) (s := OpenSpec.ofChange Rows.wcspRightSpec) own started (by kernel_rfl) Tryd.func8
    (witness_row_at (enc := enc) (C := Tryd.checked) false (laidWorld os) #[.string ByteArray.empty, .int .i64 0, .slice none 0 0, .slice none 0 0, .int .i64 0, .bool false] rfl (by kernel_rfl) (by kernel_rfl) (by kernel_rfl)
      (OpenSpec.preRow_of_cond 8 hx (by kernel_rfl) (fun k hk => by cases hk) (by kernel_rfl) (laid_met os))) ?_
  intro W base args ds gs before hval hW _ _ _ hL _ _
  exact contract H enc W base args ds gs before hval hW hL
theorem said : Rows.WcspRightSaid :=
  OpenClaim.holds_of_cond 8 Tryd.f8 rfl rfl rfl rfl rfl rfl rfl ⟨rfl, rfl, rfl, rfl, rfl⟩ rfl rfl rfl rfl rfl (by kernel_rfl) Tryd.func8 (by kernel_rfl)
    (of_decide_eq_true (by kernel_rfl)) (by unfold Func.isWrapper; first | (rw [if_pos (by decide +kernel)]; kernel_rfl) | (rw [if_neg (by decide +kernel)]; exact ⟨rfl, rfl⟩))
    (fun os started H enc _ F => by rw [OpenClaim.pre_eq_preRow]; exact lifted os started H enc F)
theorem plain (f : FuncId) (fn : Func) (hf : Tryd.pinned.checked.prog.funcNamed "pennyweight/pennyweightlaw07.WcspRight" = some f) (hfn : Tryd.pinned.checked.prog.funcs[f]? = some fn) :
    false = Tryd.pinned.checked.prog.looks [] ∧ ∀ (j : Nat) t, fn.params[j]? = some t → Tryd.pinned.checked.prog.wantsStandIn t = false := by
  obtain rfl : f = 8 := Option.some.inj ((show Tryd.prog.funcNamed "pennyweight/pennyweightlaw07.WcspRight" = some 8 by kernel_rfl).symm.trans hf) |>.symm
  obtain rfl : fn = Tryd.f8 := (Option.some.inj (Tryd.func8.symm.trans hfn)).symm
  refine ⟨by kernel_rfl, fun j t ht => ?_⟩
  rw [Tryd.params8] at ht
  have hm := Array.mem_of_getElem? ht
  simp only [Array.mem_def, List.mem_cons, List.not_mem_nil, or_false] at hm
  rcases hm with rfl | rfl | rfl | rfl | rfl | rfl <;> (show Tryd.prog.wantsStandIn _ = false; kernel_rfl)
theorem proved : Rows.WcspRightCardSaid :=
  Claim7.holds_tied_plain_at .later [] _ _ _ _ said (fun _ h => by cases h) (by kernel_rfl) (fun _ h => by cases h) wcspRight_row_tie rfl ⟨rfl, rfl⟩ (by kernel_rfl) rfl plain (by kernel_rfl)
end Go.Proofs.YtafdijfbgkcnnaaDoor.wcspRight
