/- For every input WcspVals returns true; its arguments read as before. No condition; the tables of Go's library are tied to the program's text. -/
import Derived.Test.YtafdijfbgkcnnaaDoorCards
import Derived.Test.YtafdijfbgkcnnaaDoorTie
import Derived.Deep.DeepHandedRow
import Derived.Lib.LaidTab
import Derived.Stop.LaidErr
import Derived.WalkKit
import Derived.ProofKit
import Derived.OpenShut
import Derived.ShutString
import Derived.ChangeOld
import Derived.Below
import Derived.Test.YtafdijfbgkcnnaaDoorOpen
import Derived.Test.YtafdijfbgkcnnaaDoorPkY
import Derived.Test.YtafdijfbgkcnnaaDoorIntClone
namespace Go.Proofs.YtafdijfbgkcnnaaDoor.wcspVals
open Go.Proofs.YtafdijfbgkcnnaaDoor.wcp Go.Proofs.YtafdijfbgkcnnaaDoor.scn Go.Proofs.YtafdijfbgkcnnaaDoor.words
open Go.ChangeShapes Go.WideShapes Go.ChangeAt Go.RowKit
open Go.ChangeMaps (open_string shut_string)
set_option linter.unusedVariables false
theorem own : ownKnob Tryd.prog.godebug = none := by kernel_rfl
theorem laidOut : laidOutB Tryd.prog = true := by kernel_rfl
theorem pow_eq : [1, 10, 100, 1000, 10000, 100000, 1000000, 10000000, 100000000, 1000000000, 10000000000, 100000000000, 1000000000000, 10000000000000, 100000000000000, 1000000000000000, 10000000000000000, 100000000000000000, 1000000000000000000, 10000000000000000000] = Lib.pow10Tab := by decide +kernel
theorem pow_tab {W : World} (h : Lib.TabIs Tryd.prog W "internal/strconv.uint64pow10" .u64 [1, 10, 100, 1000, 10000, 100000, 1000000, 10000000, 100000000, 1000000000, 10000000000, 100000000000, 1000000000000, 10000000000000, 100000000000000, 1000000000000000, 10000000000000000, 100000000000000000, 1000000000000000000, 10000000000000000000]) : Tab W := by
  unfold Tab; rw [← pow_eq]; exact h
theorem file_wb {bs : List UInt8} {wb : Int} {l : List Wd} {f : Fil} (h : pread (enOf bs wb) (eeOf wb) l = .file f) : wb = -1 := by
  by_cases hw : wb = -1
  · exact hw
  · have he : eeOf wb = 11 := by unfold eeOf; rw [if_neg hw]
    rw [he] at h
    unfold pread at h
    cases hp : pbody (enOf bs wb) 11 ⟨l, none, 0, []⟩ with
    | bad e x => rw [hp] at h; cases h
    | ok a s =>
      rw [hp] at h
      dsimp only at h
      cases hl : s.l with
      | nil => rw [hl] at h; cases h
      | cons w r => rw [hl] at h; cases h
set_option maxRecDepth 1000000 in
set_option maxHeartbeats 8000000 in
theorem core (A B : Option Addr) (n m cap capm : Nat) (xs : List UInt8) (ys : List Int) (w : World) (hn : n ≤ 9223372036854775807) (hm : m ≤ 9223372036854775807) (hnc : n ≤ cap) (hmc : m ≤ capm) (hr : Reads w w.heap.size 1 A n (bv xs)) (hs : Reads w w.heap.size 1 B m (nums ys)) (ht : Tab w) :
    Calls Tryd.prog 3 #[.slice A n cap, .slice B m capm] w fun e w' => e = .returned (.bool true) ∧ Below w.heap.size w w' := by
  obtain ⟨k, hk1, k1, k2, hkm⟩ := min_nat n 400
  obtain ⟨q, hq1, q1, q2, hqm⟩ := min_nat m 70
  have hkI : min (n : Int) 400 = (k : Int) := by omega
  have hqI : min (m : Int) 70 = (q : Int) := by omega
  have hk1' : (if (400 : Int) < (n : Int) then (400 : Int) else (n : Int)) = (k : Int) := hk1
  have hq1' : (if (70 : Int) < (m : Int) then (70 : Int) else (m : Int)) = (q : Int) := hq1
  have kI : (0 : Int) ≤ (k : Int) := Int.natCast_nonneg _
  have qI : (0 : Int) ≤ (q : Int) := Int.natCast_nonneg _
  have kc : (k : Int) ≤ (cap : Int) := by omega
  have qc : (q : Int) ≤ (capm : Int) := by omega
  have hxl : xs.length = n := by have := hr.1; rw [bv_len] at this; omega
  have hyl := nums_len hs
  obtain ⟨bs, hbs⟩ : ∃ bs, xs.take k = bs := ⟨_, rfl⟩
  obtain ⟨as_, has⟩ : ∃ as_, ys.take q = as_ := ⟨_, rfl⟩
  have hbl : bs.length = k := by rw [← hbs, List.length_take]; omega
  have hal : as_.length = q := by rw [← has, List.length_take]; omega
  have hrk : Reads w w.heap.size 1 A k (bv bs) := by
    have := hr.take_ (m := k) (by omega)
    rw [← hbs]; unfold bv at this ⊢; rw [List.map_take]; exact this
  have hsq : Reads w w.heap.size 1 B q (nums as_) := by
    have := hs.take_ (m := q) (by omega)
    rw [← has]; unfold nums at this ⊢; rw [List.map_take]; exact this
  have HT := Lib.hid ht
  have HCA := Lib.hid (fun W c (hW : Below w.heap.size w W) => cloneB_any A k c bs W (by omega) ((hrk.below hW).more hW.size))
  have HCB := Lib.hid (fun W c (hW : Below w.heap.size w W) => clone_any B q c as_ W (by omega) ((hsq.below hW).more hW.size))
  have HBL := Lib.hid hbl
  have HAL := Lib.hid hal
  have hbl4 : bs.length ≤ 400 := by omega
  obtain ⟨l, wb, htl⟩ := told_total bs
  have HTL := Lib.hid htl
  clear hr hs ht hxl hyl hbs has hbl hal hrk hsq hkm hqm hk1 hq1 htl
  go_enter Tryd.func3, Tryd.ntmps3
  go_wp2_with fail
  refine (wawake_any w HT.out).mono ?_
  rintro e w1 ⟨rfl, hb1⟩
  have hcl := HCA.out w1 cap hb1
  have HB1 := Lib.hid hb1
  clear hb1
  go_wp2_with fail
  refine hcl.mono ?_
  rintro e w2 ⟨P, pc, rfl, hop, hb2⟩
  have HB2 := Lib.hid (bto HB1.out hb2)
  have HOP := Lib.hid (own_base hop (Nat.zero_le _))
  have hrd := read_any P bs.length pc bs wb l w2 rfl (Reads.of_own hop) (by omega) HTL.out (HT.out.below (bto HB1.out hb2))
  clear hcl hb2 hop
  go_wp2_with fail
  refine hrd.mono ?_
  rintro e w3 ⟨hb3, hm3⟩
  have HB3 := Lib.hid (bto HB2.out hb3)
  have hqr := qread_any P pc 0 bs wb l w3 (by omega) (own_under HOP.out hb3) HTL.out
  clear hrd hb3
  cases hp : pread (enOf bs wb) (eeOf wb) l with
  | err er x =>
    rw [hp] at hm3
    obtain rfl := hm3
    have HP := Lib.hid hp
    clear hp
    by_cases h0 : er = 0
    · subst h0
      go_wp2_with fail
      refine hqr.mono ?_
      rintro e w4 ⟨hb4, hm4⟩
      rw [HP.out] at hm4
      obtain rfl := hm4
      have HB4 := Lib.hid (bto HB3.out hb4)
      clear hqr hb4
      go_wp2_with fail
      go_ret
      exact ⟨rfl, HB4.out⟩
    · have h0b : (er != 0) = true := by simp [h0]
      clear h0
      go_wp2_with fail
      refine hqr.mono ?_
      rintro e w4 ⟨hb4, hm4⟩
      rw [HP.out] at hm4
      obtain rfl := hm4
      have HB4 := Lib.hid (bto HB3.out hb4)
      clear hqr hb4
      go_wp2_with fail
      go_ret
      exact ⟨rfl, HB4.out⟩
  | file f =>
    rw [hp] at hm3
    obtain ⟨gf, rfl, hfv⟩ := hm3
    obtain ⟨-, SA, sc, FA, fc, V, hfw⟩ := hfv.filw
    obtain rfl := file_wb hp
    have HOK := Lib.hid (okFile_of HTL.out hp (by have := Told.len HTL.out; omega))
    have HLI := Lib.hid (lines_short HTL.out hp hbl4)
    have HP := Lib.hid hp
    have HF3 := Lib.hid hfw
    clear hp hfv hfw
    go_wp2_with fail
    refine hqr.mono ?_
    rintro e w4 ⟨hb4, hm4⟩
    rw [HP.out] at hm4
    obtain ⟨gx, rfl, -, hqv⟩ := hm4
    have hb4' := bto HB3.out hb4
    have HF4 := Lib.hid (HF3.out.below hb4)
    have HQ4 := Lib.hid hqv
    have HB4 := Lib.hid hb4'
    have hcl := HCB.out w4 capm hb4'
    clear hqr hb4 hqv hb4'
    go_wp2_with fail
    refine hcl.mono ?_
    rintro e w5 ⟨Q, qc', rfl, hoq, hb5⟩
    have HF := Lib.hid (HF4.out.below hb5)
    have HQ := Lib.hid (HQ4.out.below hb5)
    have HBB := Lib.hid (bto HB4.out hb5)
    have HOQ := Lib.hid hoq
    obtain ⟨vz, vf, VQ, -, hfb, hzr, -, -, -⟩ := HQ.out
    obtain ⟨ZA, zc, rfl⟩ := hzr.1
    obtain ⟨x0, x1, x2, x3, -⟩ := Blk.four (t := 37) hfb
    have HZR := Lib.hid hzr.2
    clear hcl hb5 hoq hfb hzr HF3 HF4 HQ4
    have hs64 := HOK.out.s2
    have ha70 : as_.length ≤ 70 := by have := HAL.out; omega
    obtain ⟨b0, hb0⟩ : ∃ b0, decide ((as_.length : Int) = (f.sizes.length : Int)) = b0 := ⟨_, rfl⟩
    have hb0' : ((as_.length : Int) == (f.sizes.length : Int)) = b0 := by rw [← hb0]; by_cases h : (as_.length : Int) = (f.sizes.length : Int) <;> simp [h]
    have HB0 : Hid (b0 = true ↔ as_.length = f.sizes.length) := by unfold Hid; rw [← hb0, decide_eq_true_eq]; omega
    go_wp2_with fail
    go_loopw [11, 67] (fun bv jv wr => ∃ (j : Nat) (b : Bool), jv = .int .i64 j ∧ j ≤ as_.length ∧ bv = .bool b ∧ w5 = wr ∧ Hid (b = true ↔ (as_.length = f.sizes.length ∧ ∀ (i : Nat) (v z : Int), i < j → as_[i]? = some v → f.sizes[i]? = some z → 0 ≤ v ∧ v < z))) (fun _ jv _ => as_.length - (intOf jv).toNat)
    case atStart => exact ⟨0, b0, rfl, Nat.zero_le _, by first | rfl | rw [hb0'] | rw [hb0], rfl, by unfold Hid; rw [HB0.out]; exact ⟨fun h => ⟨h, fun i v z h => by omega⟩, fun h => h.1⟩⟩
    case round =>
      clear HB0
      obtain ⟨j, b, rfl, hj, rfl, rfl, hbi⟩ := hrel
      by_cases hjl : j < as_.length
      · obtain ⟨ad, v, hQe, -, hv, hc⟩ := (Reads.of_own HOQ.out).num hjl
        subst hQe
        have jI : decide ((j : Int) < (as_.length : Int)) = true := decide_eq_true (by omega)
        have i0 : (0 : Int) ≤ (j : Int) := Int.natCast_nonneg _
        have i1 : (j : Int) < (as_.length : Int) := by omega
        have HV := Lib.hid hv
        clear hv
        cases b with
        | false =>
          have hno : Hid (¬ (as_.length = f.sizes.length ∧ ∀ (i : Nat) (v z : Int), i < j → as_[i]? = some v → f.sizes[i]? = some z → 0 ≤ v ∧ v < z)) := fun h => by have := hbi.out.2 h; cases this
          clear hbi
          go_wp2_with fail
          go_roundw
          case measure => simp [intOf]; omega
          case rel => exact ⟨j + 1, false, by go_num, hjl, rfl, by first | rfl | trivial, ⟨fun h => (by cases h), fun h => absurd ⟨h.1, fun i a b hi => h.2 i a b (by omega)⟩ hno.out⟩⟩
        | true =>
          have hyes := Lib.hid (hbi.out.1 rfl)
          obtain ⟨ad2, z, hZe, -, hz, hc2⟩ := (Reads.of_own HZR.out).num (k := j) (by have := hyes.out.1; omega)
          subst hZe
          have i2 : (j : Int) < (f.sizes.length : Int) := by have := hyes.out.1; omega
          have HZ := Lib.hid hz
          clear hbi hz
          by_cases h0 : 0 ≤ v
          · have hI0 : decide (0 ≤ v) = true := decide_eq_true h0
            by_cases h1 : v < z
            · have hI1 : decide (v < z) = true := decide_eq_true h1
              go_wp2_with fail
              go_roundw
              case measure => simp [intOf]; omega
              case rel =>
                refine ⟨j + 1, true, by go_num, hjl, rfl, by first | rfl | trivial, ⟨fun _ => ⟨hyes.out.1, fun i a b hi h2 h3 => ?_⟩, fun _ => rfl⟩⟩
                by_cases e : i = j
                · subst e
                  rw [HV.out] at h2
                  rw [HZ.out] at h3
                  injection h2 with h2
                  injection h3 with h3
                  omega
                · exact hyes.out.2 i a b (by omega) h2 h3
            · have hI1 : decide (v < z) = false := decide_eq_false h1
              go_wp2_with fail
              go_roundw
              case measure => simp [intOf]; omega
              case rel => exact ⟨j + 1, false, by go_num, hjl, rfl, by first | rfl | trivial, ⟨fun h => (by cases h), fun h => by have := (h.2 j v z (by omega) HV.out HZ.out).2; omega⟩⟩
          · have hI0 : decide (0 ≤ v) = false := decide_eq_false h0
            go_wp2_with fail
            go_roundw
            case measure => simp [intOf]; omega
            case rel => exact ⟨j + 1, false, by go_num, hjl, rfl, by first | rfl | trivial, ⟨fun h => (by cases h), fun h => by have := (h.2 j v z (by omega) HV.out HZ.out).1; omega⟩⟩
      · obtain rfl : j = as_.length := by omega
        have jI : decide ((as_.length : Int) < (as_.length : Int)) = false := decide_eq_false (by omega)
        by_cases hin : InS f.sizes as_
        · obtain rfl : b = true := hbi.out.2 ⟨hin.1, fun i v z _ h2 h3 => hin.2 i v z h2 h3⟩
          have hva := val_any HF.out HOK.out HLI.out Q as_.length qc' as_ (Reads.of_own HOQ.out) hin
          clear hin hbi x0 x1 x2 x3
          go_wp2_with fail
          refine hva.mono ?_
          rintro e w6 ⟨rfl, hb6⟩
          have HF := Lib.hid (HF.out.below hb6)
          have HQ := Lib.hid (HQ.out.below hb6)
          have HBB := Lib.hid (bto HBB.out hb6)
          clear hva hb6
          go_upto_if 110 with fail
          repeat (first | (exact vals_loop HF.out HQ.out HOK.out HLI.out HBB.out hbl4) | go_step)
        · have hva := val_bad HF.out HOK.out HLI.out Q as_.length qc' as_ (Reads.of_own HOQ.out) (by omega) hin
          have hbf : ¬ b = true := fun h => by
            obtain ⟨h1, h2⟩ := hbi.out.1 h
            exact hin ⟨h1, fun i v z h3 h4 => h2 i v z (List.getElem?_eq_some_iff.1 h3).1 h3 h4⟩
          obtain rfl : b = false := by cases b with
            | true => exact absurd rfl hbf
            | false => rfl
          clear hin hbi hbf x0 x1 x2 x3
          go_wp2_with fail
          refine hva.mono ?_
          rintro e w6 ⟨rfl, hb6⟩
          have HF := Lib.hid (HF.out.below hb6)
          have HQ := Lib.hid (HQ.out.below hb6)
          have HBB := Lib.hid (bto HBB.out hb6)
          clear hva hb6
          go_upto_if 110 with fail
          repeat (first | (exact vals_loop HF.out HQ.out HOK.out HLI.out HBB.out hbl4) | go_step)
def tab0 : List Int := [1, 10, 100, 1000, 10000, 100000, 1000000, 10000000, 100000000, 1000000000, 10000000000, 100000000000, 1000000000000, 10000000000000, 100000000000000, 1000000000000000, 10000000000000000, 100000000000000000, 1000000000000000000, 10000000000000000000]
theorem gTab0 : Tryd.prog.globalNamed "internal/strconv.uint64pow10" = some 0 := by kernel_rfl
theorem gTabType0 : (Tryd.prog.globals[0]?).map (·.type) = some 204 := by kernel_rfl
theorem cellsA0 : Tryd.prog.cellsOf 204 = tab0.length := by kernel_rfl
theorem cellsE0 : Tryd.prog.cellsOf 154 = 1 := by kernel_rfl
theorem table0 {W : World} (h : laidMetH Tryd.prog Rows.wcspValsRow.laid W) : Lib.TabIs Tryd.prog W "internal/strconv.uint64pow10" .u64 tab0 :=
  Lib.tabIs_of_head gTab0 gTabType0 Tryd.underlying204 Tryd.underlying154 cellsE0 cellsA0 (laidMet.tail (laidMet.tail h))
theorem walk (a0 : Option Addr) (len0 cap0 : Nat) (z0 : List Int) (a1 : Option Addr) (len1 cap1 : Nat) (z1 : List Int) (w : World) (w0 : z0.length = len0 ∧ Reads w w.heap.size 1 a0 len0 (z0.map (Value.int .u8)) ∧ (∀ x ∈ z0, (Lit.int .u8 x).wf = true) ∧ len0 ≤ cap0 ∧ len0 ≤ 9223372036854775807) (w1 : z1.length = len1 ∧ Reads w w.heap.size 1 a1 len1 (z1.map (Value.int .i64)) ∧ (∀ x ∈ z1, (Lit.int .i64 x).wf = true) ∧ len1 ≤ cap1 ∧ len1 ≤ 9223372036854775807) (ht : Tab w) :
    Calls Tryd.prog 3 #[.slice a0 len0 cap0, .slice a1 len1 cap1] w fun e w' => e = .returned (.bool true) ∧ Below w.heap.size w w' := by
  obtain ⟨_, hr, hwf, hc, hl⟩ := w0
  obtain ⟨hl2, hr2, hQ2, hc2, hn2⟩ := w1
  obtain ⟨bs0, hbs⟩ := bytes_of hwf
  rw [hbs] at hr
  exact core a0 a1 len0 len1 cap0 cap1 bs0 z1 w hl hn2 hc hc2 hr hr2 ht

set_option maxRecDepth 100000 in
theorem contract (H : Type) (enc : TypeId × Value → H) (W : World) (base : Nat) (args : Array Value) (ds gs : List (DataW H)) (before : List MemPlace)
    (hval0 : ∀ (j : Nat) t v, Tryd.f3.params[j]? = some t → args[j]? = some v → Value.okWide Tryd.prog W .any base t v)
    (hW : DataW.Whole enc Tryd.prog Tryd.f3.params.toList Rows.wcspValsSpec.vars false W args.toList ds gs before) (hL : laidMetH Tryd.prog Rows.wcspValsRow.laid W) :
    Calls Tryd.prog 3 args W fun e W' => ∃ v, e = .returned v ∧ Rows.wcspValsSpec.post enc Tryd.prog Tryd.f3 false true false false W args v W' := by
  have hval : ∀ (j : Nat) t v, Tryd.f3.params[j]? = some t → args[j]? = some v → Value.okWide Tryd.prog W .any base t v := hval0
  have hW' := hW
  obtain ⟨p, q, hA0, hV, rfl, hfz, hnd⟩ := hW
  have hA : DataW.TrodAll enc Tryd.prog W 0 (fun _ => true) true Tryd.f3.params.toList args.toList ds p := hA0
  rw [Tryd.params3] at hA hval
  obtain ⟨v0, vs0, d0, ds0, p0, q0, hargs, rfl, rfl, h0, r0⟩ := trodAll_cons hA
  obtain ⟨v1, vs1, d1, ds1, p1, q1, rfl, rfl, rfl, h1, r1⟩ := trodAll_cons r0
  obtain ⟨rfl, rfl, rfl⟩ := trodAll_nil r1
  obtain rfl : args = #[v0, v1] := by cases args; simp_all
  obtain ⟨rfl, rfl⟩ := trodVars_none hV
  obtain ⟨a0, len0, cap0, rfl⟩ := okWide_slice Tryd.underlying22 (hval 0 22 v0 rfl rfl)
  have k0 := h0
  have lt0 : ∀ x ∈ p0, x.block < W.heap.size := by obtain ⟨m, hm⟩ := k0; exact DataW.trod_lt m _ _ _ hm
  obtain ⟨z0, w0⟩ := open_ones (Value.int .u8) (fun x => (Lit.int .u8 x).wf = true) Tryd.underlying22 (by kernel_rfl) (dec_int Tryd.underlying5) h0
  obtain ⟨a1, len1, cap1, rfl⟩ := okWide_slice Tryd.underlying23 (hval 1 23 v1 rfl rfl)
  have k1 := h1
  have lt1 : ∀ x ∈ p1, x.block < W.heap.size := by obtain ⟨m, hm⟩ := k1; exact DataW.trod_lt m _ _ _ hm
  obtain ⟨z1, w1⟩ := open_ones (Value.int .i64) (fun x => (Lit.int .i64 x).wf = true) Tryd.underlying23 (by kernel_rfl) (dec_int Tryd.underlying3) h1
  clear hA0 hval0
  have htab : Tab W := (pow_tab (table0 hL))
  refine (walk a0 len0 cap0 z0 a1 len1 cap1 z1 W w0 w1 htab).mono fun e W' ⟨he, bel⟩ => ?_
  subst he
  exact ⟨_, rfl, _, _, _, [], _, [], hW', trodAll_mk1 (shut_bool Tryd.underlying4 _), (trodAll_cons_mk (Below.trod laidOut (by kernel_rfl) (of_decide_eq_true (by kernel_rfl)) k0 bel lt0) (trodAll_cons_mk (Below.trod laidOut (by kernel_rfl) (of_decide_eq_true (by kernel_rfl)) k1 bel lt1) trodAll_mk0)), rfl, bel.frame _, fun h => by cases h⟩
noncomputable def laidWorld (os : Os) : World :=
  { World.holding Tryd.prog os ⟨#[], #[], []⟩ with heap := ((((World.holding Tryd.prog os ⟨#[], #[], []⟩).heap.modify 1 (fun | .cells _ t frozen => .cells #[.int .u8 0, .int .u8 1, .int .u8 28, .int .u8 2, .int .u8 29, .int .u8 14, .int .u8 24, .int .u8 3, .int .u8 30, .int .u8 22, .int .u8 20, .int .u8 15, .int .u8 25, .int .u8 17, .int .u8 4, .int .u8 8, .int .u8 31, .int .u8 27, .int .u8 13, .int .u8 23, .int .u8 21, .int .u8 19, .int .u8 16, .int .u8 7, .int .u8 26, .int .u8 12, .int .u8 18, .int .u8 6, .int .u8 11, .int .u8 5, .int .u8 10, .int .u8 9] t frozen | o => o)).modify 2 (fun | .cells _ t frozen => .cells #[.int .u8 0, .int .u8 1, .int .u8 56, .int .u8 2, .int .u8 57, .int .u8 49, .int .u8 28, .int .u8 3, .int .u8 61, .int .u8 58, .int .u8 42, .int .u8 50, .int .u8 38, .int .u8 29, .int .u8 17, .int .u8 4, .int .u8 62, .int .u8 47, .int .u8 59, .int .u8 36, .int .u8 45, .int .u8 43, .int .u8 51, .int .u8 22, .int .u8 53, .int .u8 39, .int .u8 33, .int .u8 30, .int .u8 24, .int .u8 18, .int .u8 12, .int .u8 5, .int .u8 63, .int .u8 55, .int .u8 48, .int .u8 27, .int .u8 60, .int .u8 41, .int .u8 37, .int .u8 16, .int .u8 46, .int .u8 35, .int .u8 44, .int .u8 21, .int .u8 52, .int .u8 32, .int .u8 23, .int .u8 11, .int .u8 54, .int .u8 26, .int .u8 40, .int .u8 15, .int .u8 34, .int .u8 20, .int .u8 31, .int .u8 10, .int .u8 25, .int .u8 14, .int .u8 19, .int .u8 9, .int .u8 13, .int .u8 8, .int .u8 7, .int .u8 6] t frozen | o => o)).modify 0 (fun | .cells _ t frozen => .cells #[.int .u64 1, .int .u64 10, .int .u64 100, .int .u64 1000, .int .u64 10000, .int .u64 100000, .int .u64 1000000, .int .u64 10000000, .int .u64 100000000, .int .u64 1000000000, .int .u64 10000000000, .int .u64 100000000000, .int .u64 1000000000000, .int .u64 10000000000000, .int .u64 100000000000000, .int .u64 1000000000000000, .int .u64 10000000000000000, .int .u64 100000000000000000, .int .u64 1000000000000000000, .int .u64 10000000000000000000] t frozen | o => o)) }
theorem laid_met (os : Os) : laidMet Tryd.prog Rows.wcspValsRow.laid ((laidWorld os).forCall (fun _ _ => 0) ⟨#[], #[.slice none 0 0, .slice none 0 0], []⟩).memory :=
  laidMet_of_run' 8 (by kernel_rfl) (by kernel_rfl)
theorem reads (os : Os) {H : Type} (enc : TypeId × Value → H) : ∃ places, DataW.whole enc Tryd.prog ((laidWorld os).forCall (fun _ _ => 0) ⟨#[], #[.slice none 0 0, .slice none 0 0], []⟩).memory Tryd.f3.params.toList Rows.wcspValsSpec.vars false (#[.slice none 0 0, .slice none 0 0] : Array Value).toList 8 = some ([.nil, .nil], [], places) :=
  ⟨[], by kernel_rfl⟩
set_option maxRecDepth 100000 in
theorem lifted (os : Os) (started : os.Started) (H : Type) (enc : TypeId × Value → H) (F : Stop.Interp) :
    ReturnsInHanded {} Tryd.checked os 3 .any ((OpenSpec.ofChange Rows.wcspValsSpec).preRow enc Tryd.prog Tryd.f3 Rows.wcspValsRow.domain false Rows.wcspValsRow.laid) (((OpenSpec.ofChange Rows.wcspValsSpec).at F).post enc Tryd.prog Tryd.f3 false true false false) := by
  obtain ⟨places, hx⟩ := reads os enc
  refine returnsInHanded_of_row (C := Tryd.checked) (s := OpenSpec.ofChange Rows.wcspValsSpec) own started (by kernel_rfl) Tryd.func3
    (witness_row_at (enc := enc) (C := Tryd.checked) false (laidWorld os) #[.slice none 0 0, .slice none 0 0] rfl (by kernel_rfl) (by kernel_rfl) (by kernel_rfl)
      (OpenSpec.preRow_of_cond 8 hx (by kernel_rfl) (fun k hk => by cases hk) (by kernel_rfl) (laid_met os))) ?_
  intro W base args ds gs before hval hW _ _ _ hL _ _
  exact contract H enc W base args ds gs before hval hW hL
theorem said : Rows.WcspValsSaid :=
  OpenClaim.holds_of_cond 3 Tryd.f3 rfl rfl rfl rfl rfl rfl rfl ⟨rfl, rfl, rfl, rfl, rfl⟩ rfl rfl rfl rfl rfl (by kernel_rfl) Tryd.func3 (by kernel_rfl)
    (of_decide_eq_true (by kernel_rfl)) (by unfold Func.isWrapper; first | (rw [if_pos (by decide +kernel)]; kernel_rfl) | (rw [if_neg (by decide +kernel)]; exact ⟨rfl, rfl⟩))
    (fun os started H enc _ F => by rw [OpenClaim.pre_eq_preRow]; exact lifted os started H enc F)
theorem plain (f : FuncId) (fn : Func) (hf : Tryd.pinned.checked.prog.funcNamed "pennyweight/pennyweightlaw07.WcspVals" = some f) (hfn : Tryd.pinned.checked.prog.funcs[f]? = some fn) :
    false = Tryd.pinned.checked.prog.looks [] ∧ ∀ (j : Nat) t, fn.params[j]? = some t → Tryd.pinned.checked.prog.wantsStandIn t = false := by
  obtain rfl : f = 3 := Option.some.inj ((show Tryd.prog.funcNamed "pennyweight/pennyweightlaw07.WcspVals" = some 3 by kernel_rfl).symm.trans hf) |>.symm
  obtain rfl : fn = Tryd.f3 := (Option.some.inj (Tryd.func3.symm.trans hfn)).symm
  refine ⟨by kernel_rfl, fun j t ht => ?_⟩
  rw [Tryd.params3] at ht
  have hm := Array.mem_of_getElem? ht
  simp only [Array.mem_def, List.mem_cons, List.not_mem_nil, or_false] at hm
  rcases hm with rfl | rfl <;> (show Tryd.prog.wantsStandIn _ = false; kernel_rfl)
theorem proved : Rows.WcspValsCardSaid :=
  Claim7.holds_tied_plain_at .later [] _ _ _ _ said (fun _ h => by cases h) (by kernel_rfl) (fun _ h => by cases h) wcspVals_row_tie rfl ⟨rfl, rfl⟩ (by kernel_rfl) rfl plain (by kernel_rfl)
end Go.Proofs.YtafdijfbgkcnnaaDoor.wcspVals
