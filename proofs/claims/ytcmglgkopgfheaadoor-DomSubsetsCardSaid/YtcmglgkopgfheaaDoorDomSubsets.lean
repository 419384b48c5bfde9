/- For every input DomSubsets returns true. No condition; the table of math/bits is tied to the program's text. -/
import Derived.Test.YtcmglgkopgfheaaDoorCards
import Derived.Test.YtcmglgkopgfheaaDoorTie
import Derived.Deep.DeepHandedRow
import Derived.Lib.LaidTab
import Derived.WalkKit
import Derived.ProofKit
import Derived.OpenShut
import Derived.ShutString
import Derived.ChangeOld
import Derived.Below
import Derived.Test.YtcmglgkopgfheaaDoorOpen
import Derived.Test.YtcmglgkopgfheaaDoorAwake
import Derived.Deep.RegionHeld3
import Derived.Deep.DeepCutAuto
namespace Go.Proofs.YtcmglgkopgfheaaDoor.domSubsets
open Go.Proofs.YtcmglgkopgfheaaDoor.bit Go.Proofs.YtcmglgkopgfheaaDoor.words
open Go.ChangeShapes Go.WideShapes Go.ChangeAt Go.RowKit
open Go.ChangeMaps (open_string shut_string)
set_option linter.unusedVariables false
theorem own : ownKnob Tryd.prog.godebug = none := by kernel_rfl
theorem laidOut : laidOutB Tryd.prog = true := by kernel_rfl
def subTo (S T j : Nat) : Bool := (List.range j).all fun i => !S.testBit i || T.testBit i
theorem subTo_succ (S T j : Nat) : subTo S T (j + 1) = (subTo S T j && (!S.testBit j || T.testBit j)) := by
  unfold subTo; rw [List.range_succ, List.all_append]; simp
theorem sub_iff {S T k : Nat} (hS : S < 2 ^ k) : subTo S T k = decide (S &&& T = S) := by
  rw [Bool.eq_iff_iff]
  unfold subTo
  simp only [List.all_eq_true, List.mem_range, decide_eq_true_eq]
  constructor
  · intro h
    refine eq_of_bits (and_lt hS) hS fun i hi => ?_
    rw [Nat.testBit_and]
    have := h i hi
    revert this
    cases S.testBit i <;> simp
  · intro h i hi
    have := congrArg (fun x => x.testBit i) h
    simp only [Nat.testBit_and] at this
    revert this
    cases S.testBit i <;> simp
theorem vals_and_le (S T k : Nat) : (vals (S &&& T) k).length ≤ (vals S k).length ∧ (vals (S &&& T) k).length ≤ (vals T k).length := by
  unfold vals
  simp only [List.length_map, ← List.countP_eq_length_filter]
  constructor <;> exact List.countP_mono_left fun i _ hi => by rw [Nat.testBit_and] at hi; simp at hi; simp [hi]
set_option maxRecDepth 100000 in
set_option maxHeartbeats 8000000 in
theorem core (a b c : Nat) (w : World) (ha : a < 256) (hb : b < 4294967296) (hc : c < 4294967296) (ht : Tab w) (h0w : 0 < w.heap.size) :
    Calls Tryd.prog 3 #[.int .u8 a, .int .u32 b, .int .u32 c] w fun e w' => e = .returned (.bool true) ∧ Below w.heap.size w w' := by
  have hk1 : 1 ≤ 1 + a % 32 := by omega
  have hk2 : 1 + a % 32 ≤ 32 := by omega
  have hm1 := fun w => made_any a b w ha hb
  have hm2 := fun w => made_any a c w ha hc
  obtain ⟨k, hk⟩ : ∃ k, 1 + a % 32 = k := ⟨_, rfl⟩
  rw [hk] at hm1 hm2 hk1 hk2
  clear hk
  go_enter Tryd.func3, Tryd.ntmps3
  go_wp2_with fail
  refine (awake_any w ht h0w).mono ?_
  rintro e w1 ⟨rfl, hb1⟩
  go_wp2_with fail
  refine (hm1 _).mono ?_
  rintro e w2 ⟨S, A2, n2, c2, rfl, hS, -, hb2⟩
  have hB2 := bnew (bto hb1 hb2) (.cells #[.int .u64 S, .int .i64 k] 26)
  have hsS := Blk.new w2 26 #[.int .u64 S, .int .i64 k]
  clear hm1
  go_wp2_with fail
  refine (hm2 _).mono ?_
  rintro e w3 ⟨T, A3, n3, c3, rfl, hT, -, hb3⟩
  have hB3 := bnew (bto hB2 hb3) (.cells #[.int .u64 T, .int .i64 k] 26)
  have hsS3 := (hsS.under hb3).alloc (.cells #[.int .u64 T, .int .i64 k] 26)
  have hsT := Blk.new w3 26 #[.int .u64 T, .int .i64 k]
  have hz3 : w2.heap.size < w3.heap.size := by have := hb3.size; simp at this; omega
  clear hm2
  obtain ⟨i1, i2⟩ : (∀ w, Calls Tryd.prog 10 #[SetV S k, SetV T k] w fun e w' => e = .returned (.tuple #[SetV (S &&& T) k, .int .i64 0]) ∧ Below w.heap.size w w') ∧
      (∀ w, Calls Tryd.prog 10 #[SetV T k, SetV S k] w fun e w' => e = .returned (.tuple #[SetV (S &&& T) k, .int .i64 0]) ∧ Below w.heap.size w w') := by
    refine ⟨fun w => inter_same S T k w hS.lt hT.lt hk2, fun w => ?_⟩
    have := inter_same T S k w hT.lt hS.lt hk2
    rwa [Nat.and_comm] at this
  have i3 : ∀ w, Calls Tryd.prog 10 #[SetV (S &&& T) k, SetV S k] w fun e w' => e = .returned (.tuple #[SetV (S &&& T) k, .int .i64 0]) ∧ Below w.heap.size w w' := fun w => by
    have := inter_same (S &&& T) S k w (and_lt hS.lt) hS.lt hk2
    rwa [show S &&& T &&& S = S &&& T by rw [Nat.and_comm, ← Nat.and_assoc, Nat.and_self]] at this
  have hU : S &&& T < 2 ^ k := and_lt hS.lt
  have hfin := sub_iff (T := T) hS.lt
  obtain ⟨l1, l2⟩ := vals_and_le S T k
  have hbit : ∀ j, (S &&& T).testBit j = (S.testBit j && T.testBit j) := fun j => Nat.testBit_and _ _ _
  obtain ⟨U, hUe⟩ : ∃ U, S &&& T = U := ⟨_, rfl⟩
  rw [hUe] at i1 i2 i3 hU hfin l1 l2
  have hbit2 : Hid (∀ j, U.testBit j = (S.testBit j && T.testBit j)) := fun j => by rw [← hUe]; exact hbit j
  clear hUe hbit
  obtain ⟨s0, s1⟩ := hsS3.two
  obtain ⟨t0, t1⟩ := hsT.two
  go_wp2_with fail
  refine (i1 _).mono ?_
  rintro e w4 ⟨rfl, hb4⟩
  have hS4 := (hsS3.under hb4).alloc (.cells #[.int .u64 U, .int .i64 k] 26)
  have hT4 := (hsT.under hb4).alloc (.cells #[.int .u64 U, .int .i64 k] 26)
  have hU4 := Blk.new w4 26 #[.int .u64 U, .int .i64 k]
  have hB4 := bnew (bto hB3 hb4) (.cells #[.int .u64 U, .int .i64 k] 26)
  have hz4 : w3.heap.size < w4.heap.size := by have := hb4.size; simp at this; omega
  clear s0 s1 t0 t1 hsS hsS3 hsT
  obtain ⟨s0, s1⟩ := hS4.two
  obtain ⟨t0, t1⟩ := hT4.two
  go_wp2_with fail
  refine (i2 _).mono ?_
  rintro e w5 ⟨rfl, hb5⟩
  have hS5 := (hS4.under hb5).alloc (.cells #[.int .u64 U, .int .i64 k] 26)
  have hT5 := (hT4.under hb5).alloc (.cells #[.int .u64 U, .int .i64 k] 26)
  have hU5 := (hU4.under hb5).alloc (.cells #[.int .u64 U, .int .i64 k] 26)
  have hV5 := Blk.new w5 26 #[.int .u64 U, .int .i64 k]
  have hB5 := bnew (bto hB4 hb5) (.cells #[.int .u64 U, .int .i64 k] 26)
  have hz5 : w4.heap.size < w5.heap.size := by have := hb5.size; simp at this; omega
  clear s0 s1 t0 t1 hS4 hT4 hU4
  go_upto_region 7 with (fail)
  obtain ⟨wa, hwa⟩ : ∃ wa, w5.alloc (.cells #[.int .u64 U, .int .i64 k] 26) = wa := ⟨_, rfl⟩
  rw [hwa] at hS5 hT5 hU5 hV5 hB5 ⊢
  clear hwa i1 i2
  obtain ⟨gs, hgs⟩ : ∃ g, w2.heap.size = g := ⟨_, rfl⟩
  obtain ⟨gt, hgt⟩ : ∃ g, w3.heap.size = g := ⟨_, rfl⟩
  obtain ⟨gu, hgu⟩ : ∃ g, w4.heap.size = g := ⟨_, rfl⟩
  obtain ⟨gv, hgv⟩ : ∃ g, w5.heap.size = g := ⟨_, rfl⟩
  rw [hgs] at hS5 ⊢
  rw [hgt] at hT5 ⊢
  rw [hgu] at hU5 ⊢
  rw [hgv] at hV5 ⊢
  clear hgs hgt hgu hgv hz3 hz4 hz5 hb1 hb2 hb3 hb4 hb5 hB2 hB3 hB4
  have base : Hid (∀ w', Below wa.heap.size wa w' → (w'.cell? ⟨gs, 0, none⟩ = some (.int .u64 S) ∧ w'.cell? ⟨gs, 1, none⟩ = some (.int .i64 k) ∧ w'.cell? ⟨gt, 0, none⟩ = some (.int .u64 T) ∧ w'.cell? ⟨gt, 1, none⟩ = some (.int .i64 k) ∧
      w'.cell? ⟨gu, 0, none⟩ = some (.int .u64 U) ∧ w'.cell? ⟨gu, 1, none⟩ = some (.int .i64 k) ∧ w'.cell? ⟨gv, 0, none⟩ = some (.int .u64 U) ∧ w'.cell? ⟨gv, 1, none⟩ = some (.int .i64 k) ∧ Below wa.heap.size wa w')) := fun w' hb =>
    ⟨(hS5.under hb).cell 0, (hS5.under hb).cell 1, (hT5.under hb).cell 0, (hT5.under hb).cell 1, (hU5.under hb).cell 0, (hU5.under hb).cell 1, (hV5.under hb).cell 0, (hV5.under hb).cell 1, hb⟩
  have kb : Hid (∀ w', (w'.cell? ⟨gs, 0, none⟩ = some (.int .u64 S) ∧ w'.cell? ⟨gs, 1, none⟩ = some (.int .i64 k) ∧ w'.cell? ⟨gt, 0, none⟩ = some (.int .u64 T) ∧ w'.cell? ⟨gt, 1, none⟩ = some (.int .i64 k) ∧
      w'.cell? ⟨gu, 0, none⟩ = some (.int .u64 U) ∧ w'.cell? ⟨gu, 1, none⟩ = some (.int .i64 k) ∧ w'.cell? ⟨gv, 0, none⟩ = some (.int .u64 U) ∧ w'.cell? ⟨gv, 1, none⟩ = some (.int .i64 k) ∧ Below wa.heap.size wa w') → Below wa.heap.size wa w') := fun w' h => h.2.2.2.2.2.2.2.2
  have cS := fun w => len_any S k w hS.lt hk2
  have cT := fun w => len_any T k w hT.lt hk2
  have cU := fun w => len_any U k w hU hk2
  obtain ⟨lS, hlS⟩ : ∃ l, (vals S k).length = l := ⟨_, rfl⟩
  obtain ⟨lT, hlT⟩ : ∃ l, (vals T k).length = l := ⟨_, rfl⟩
  obtain ⟨lU, hlU⟩ : ∃ l, (vals U k).length = l := ⟨_, rfl⟩
  rw [hlS] at cS l1
  rw [hlT] at cT l2
  rw [hlU] at cU l1 l2
  clear hlS hlT hlU
  obtain ⟨m, hm⟩ : ∃ m : Nat, (if lT < lS then (lT : Int) else (lS : Int)) = (m : Int) := by
    split <;> exact ⟨_, rfl⟩
  have hml : lU ≤ m := by split at hm <;> omega
  have hgtf : decide ((m : Int) < (lU : Int)) = false := decide_eq_false (by omega)
  clear l1 l2
  go_cut [69] (fun cv wx => cv = .bool false ∧ Below wa.heap.size wa wx)
  case first =>
    go_region_held3 (fun w' => w'.cell? ⟨gs, 0, none⟩ = some (.int .u64 S) ∧ w'.cell? ⟨gs, 1, none⟩ = some (.int .i64 k) ∧ w'.cell? ⟨gt, 0, none⟩ = some (.int .u64 T) ∧ w'.cell? ⟨gt, 1, none⟩ = some (.int .i64 k) ∧
        w'.cell? ⟨gu, 0, none⟩ = some (.int .u64 U) ∧ w'.cell? ⟨gu, 1, none⟩ = some (.int .i64 k) ∧ w'.cell? ⟨gv, 0, none⟩ = some (.int .u64 U) ∧ w'.cell? ⟨gv, 1, none⟩ = some (.int .i64 k) ∧ Below wa.heap.size wa w')
      (first | assumption | exact base.out _ (Below.refl _ _) | exact base.out _ (Below.refl _ _).drew | (refine base.out _ (bto (kb.out _ ?_) hbU); assumption) | (refine base.out _ (bto (kb.out _ ?_) hbS); assumption) | (refine base.out _ (bto (kb.out _ ?_) hbT); assumption))
      (first
        | (go_at_call 11; (with_reducible refine (cU _).mono ?_); rintro e wU ⟨rfl, hbU⟩)
        | (go_at_call 11; (with_reducible refine (cS _).mono ?_); rintro e wS ⟨rfl, hbS⟩)
        | (go_at_call 11; (with_reducible refine (cT _).mono ?_); rintro e wT ⟨rfl, hbT⟩))
    have hB6 := kb.out _ (by assumption)
    go_wp2_with fail
    go_meet
    exact ⟨congrArg Value.bool (decide_eq_false (by omega)), hB6⟩
  obtain ⟨rfl, hB6⟩ := hcut
  clear cS cT cU kb hS5 hT5 hU5 hV5 hm hml hgtf
  have hS0 := hS.lt
  have hT0 := hT.lt
  clear hS hT ha hb hc ht h0w
  go_wp2_with fail
  go_loopw [17, 18, 71] (fun iv _ jv wr => ∃ j : Nat, j ≤ k ∧ jv = .int .i64 j ∧ iv = .bool (subTo S T j) ∧ Below wa.heap.size wa wr) (fun _ _ jv _ => k - (intOf jv).toNat)
  case atStart => exact ⟨0, by omega, rfl, rfl, hB6⟩
  case round =>
    clear hB6
    obtain ⟨j, hj, rfl, rfl, hB⟩ := hrel
    by_cases hlt : j < k
    · have HE := Lib.hid (subTo_succ S T j)
      obtain ⟨c0, c1, c2, c3, c4, c5, -, -, -⟩ := base.out _ hB
      have q1 := fun w => has_in S k j w hS0 hlt hk2
      have q2 := fun w => has_in T k j w hT0 hlt hk2
      have q3 := fun w => has_in U k j w hU hlt hk2
      rw [hbit2.out j] at q3
      clear hfin
      cases hx : subTo S T j <;> cases hy : S.testBit j <;> cases hz : T.testBit j <;> rw [hy] at q1 q3 <;> rw [hz] at q2 q3 <;> simp only [Bool.and_true, Bool.and_false, Bool.true_and, Bool.false_and] at q3 <;> rw [hx, hy, hz] at HE <;> clear hx hy hz
      all_goals
        go_wp2_with (first
          | (go_at_call 12; (with_reducible refine (q1 _).mono ?_); rintro e wx ⟨rfl, hbx⟩; have hB := bto hB hbx; obtain ⟨c0, c1, c2, c3, c4, c5, -, -, -⟩ := base.out _ hB)
          | (go_at_call 12; (with_reducible refine (q2 _).mono ?_); rintro e wx ⟨rfl, hbx⟩; have hB := bto hB hbx; obtain ⟨c0, c1, c2, c3, c4, c5, -, -, -⟩ := base.out _ hB)
          | (go_at_call 12; (with_reducible refine (q3 _).mono ?_); rintro e wx ⟨rfl, hbx⟩; have hB := bto hB hbx; obtain ⟨c0, c1, c2, c3, c4, c5, -, -, -⟩ := base.out _ hB)
          | fail)
        go_roundw
        case rel => exact ⟨j + 1, by omega, by go_num, by rw [HE.out]; rfl, hB⟩
        case measure => simp [intOf]; omega
    · obtain rfl : k = j := by omega
      obtain ⟨c0, c1, c2, c3, c4, c5, -, -, -⟩ := base.out _ hB
      rw [hfin]
      have HF := Lib.hid hfin
      clear hfin hlt hj
      go_wp2_with fail
      refine (i3 _).mono ?_
      rintro e wx ⟨rfl, hbx⟩
      have hBx := bto hB hbx
      obtain ⟨d0, d1, d2, d3, d4, d5, -, -, -⟩ := base.out _ (bnew hBx (.cells #[.int .u64 U, .int .i64 k] 26))
      have hd := bnew (bto hB5 hBx) (.cells #[.int .u64 U, .int .i64 k] 26)
      by_cases hUS : U = S
      · subst hUS
        go_wp2
        go_ret
        exact ⟨rfl, hd⟩
      · have hne : ((U : Int) == (S : Int)) = false := by simp; omega
        rw [decide_eq_false hUS]
        go_wp2
        go_ret
        exact ⟨rfl, hd⟩
theorem gTab : Tryd.prog.globalNamed "math/bits.deBruijn64tab" = some 0 := by kernel_rfl
theorem gTabType : (Tryd.prog.globals[0]?).map (·.type) = some 56 := by kernel_rfl
theorem cellsA : Tryd.prog.cellsOf 56 = tab.length := by kernel_rfl
theorem cellsE : Tryd.prog.cellsOf 5 = 1 := by kernel_rfl
theorem table {W : World} (h : laidMetH Tryd.prog Rows.domSubsetsRow.laid W) : Lib.TabIs Tryd.prog W "math/bits.deBruijn64tab" .u8 tab :=
  Lib.tabIs_of_head (rest := []) gTab gTabType Tryd.underlying56 Tryd.underlying5 cellsE cellsA h
theorem walk (a0 : Int) (a1 : Int) (a2 : Int) (w : World) (w0 : (Lit.int .u8 a0).wf = true) (w1 : (Lit.int .u32 a1).wf = true) (w2 : (Lit.int .u32 a2).wf = true) (ht : Tab w) (h0w : 0 < w.heap.size) :
    Calls Tryd.prog 3 #[.int .u8 a0, .int .u32 a1, .int .u32 a2] w fun e w' => e = .returned (.bool true) ∧ Below w.heap.size w w' := by
  obtain ⟨x0, e0, r0⟩ := wf_u8 w0
  obtain ⟨x1, e1, r1⟩ := wf_u32 w1
  obtain ⟨x2, e2, r2⟩ := wf_u32 w2
  subst e0 e1 e2
  exact core x0 x1 x2 w r0 r1 r2 ht h0w

theorem contract (H : Type) (enc : TypeId × Value → H) (W : World) (base : Nat) (args : Array Value) (ds gs : List (DataW H)) (before : List MemPlace)
    (hval0 : ∀ (j : Nat) t v, Tryd.f3.params[j]? = some t → args[j]? = some v → Value.okWide Tryd.prog W .any base t v)
    (hW : DataW.Whole enc Tryd.prog Tryd.f3.params.toList Rows.domSubsetsSpec.vars false W args.toList ds gs before) (hL : laidMetH Tryd.prog Rows.domSubsetsRow.laid W) :
    Calls Tryd.prog 3 args W fun e W' => ∃ v, e = .returned v ∧ Rows.domSubsetsSpec.post enc Tryd.prog Tryd.f3 false true false false W args v W' := by
  have hval : ∀ (j : Nat) t v, Tryd.f3.params[j]? = some t → args[j]? = some v → Value.okWide Tryd.prog W .any base t v := hval0
  have hW' := hW
  obtain ⟨p, q, hA0, hV, rfl, hfz, hnd⟩ := hW
  have hA : DataW.TrodAll enc Tryd.prog W 0 (fun _ => true) true Tryd.f3.params.toList args.toList ds p := hA0
  rw [Tryd.params3] at hA hval
  obtain ⟨v0, vs0, d0, ds0, p0, q0, hargs, rfl, rfl, h0, r0⟩ := trodAll_cons hA
  obtain ⟨v1, vs1, d1, ds1, p1, q1, rfl, rfl, rfl, h1, r1⟩ := trodAll_cons r0
  obtain ⟨v2, vs2, d2, ds2, p2, q2, rfl, rfl, rfl, h2, r2⟩ := trodAll_cons r1
  obtain ⟨rfl, rfl, rfl⟩ := trodAll_nil r2
  obtain rfl : args = #[v0, v1, v2] := by cases args; simp_all
  obtain ⟨rfl, rfl⟩ := trodVars_none hV
  obtain ⟨a0, rfl, rfl, rfl, w0⟩ := open_int Tryd.underlying5 (hval 0 5 v0 rfl rfl) h0
  obtain ⟨a1, rfl, rfl, rfl, w1⟩ := open_int Tryd.underlying22 (hval 1 22 v1 rfl rfl) h1
  obtain ⟨a2, rfl, rfl, rfl, w2⟩ := open_int Tryd.underlying22 (hval 2 22 v2 rfl rfl) h2
  clear hA0 hval0
  simp only [List.append_nil] at hW'
  have htab : Tab W := fun i hi => (table hL).cell gTab i (by simpa [tab] using hi)
  have h0w : 0 < W.heap.size := World.block_lt_of_cell? W _ (htab 0 (by decide))
  refine (walk a0 a1 a2 W w0 w1 w2 htab h0w).mono fun e W' ⟨he, bel⟩ => ?_
  subst he
  exact ⟨_, rfl, _, _, _, [], _, [], hW', trodAll_mk1 (shut_bool Tryd.underlying4 _), (trodAll_cons_mk (shut_int Tryd.underlying5 w0) (trodAll_cons_mk (shut_int Tryd.underlying22 w1) (trodAll_cons_mk (shut_int Tryd.underlying22 w2) trodAll_mk0))), rfl, bel.frame _, fun h => by cases h⟩
noncomputable def laidWorld (os : Os) : World :=
  { World.holding Tryd.prog os ⟨#[], #[], []⟩ with heap := (World.holding Tryd.prog os ⟨#[], #[], []⟩).heap.modify 0 fun
      | .cells _ t frozen => .cells #[.int .u8 0, .int .u8 1, .int .u8 56, .int .u8 2, .int .u8 57, .int .u8 49, .int .u8 28, .int .u8 3, .int .u8 61, .int .u8 58, .int .u8 42, .int .u8 50, .int .u8 38, .int .u8 29, .int .u8 17, .int .u8 4, .int .u8 62, .int .u8 47, .int .u8 59, .int .u8 36, .int .u8 45, .int .u8 43, .int .u8 51, .int .u8 22, .int .u8 53, .int .u8 39, .int .u8 33, .int .u8 30, .int .u8 24, .int .u8 18, .int .u8 12, .int .u8 5, .int .u8 63, .int .u8 55, .int .u8 48, .int .u8 27, .int .u8 60, .int .u8 41, .int .u8 37, .int .u8 16, .int .u8 46, .int .u8 35, .int .u8 44, .int .u8 21, .int .u8 52, .int .u8 32, .int .u8 23, .int .u8 11, .int .u8 54, .int .u8 26, .int .u8 40, .int .u8 15, .int .u8 34, .int .u8 20, .int .u8 31, .int .u8 10, .int .u8 25, .int .u8 14, .int .u8 19, .int .u8 9, .int .u8 13, .int .u8 8, .int .u8 7, .int .u8 6] t frozen
      | o => o }
theorem laid_met (os : Os) : laidMet Tryd.prog Rows.domSubsetsRow.laid ((laidWorld os).forCall (fun _ _ => 0) ⟨#[], #[.int .u8 0, .int .u32 0, .int .u32 0], []⟩).memory :=
  laidMet_of_run' 8 (by kernel_rfl) (by kernel_rfl)
theorem reads (os : Os) {H : Type} (enc : TypeId × Value → H) : ∃ places, DataW.whole enc Tryd.prog ((laidWorld os).forCall (fun _ _ => 0) ⟨#[], #[.int .u8 0, .int .u32 0, .int .u32 0], []⟩).memory Tryd.f3.params.toList Rows.domSubsetsSpec.vars false (#[.int .u8 0, .int .u32 0, .int .u32 0] : Array Value).toList 8 = some ([.lit (.int .u8 0), .lit (.int .u32 0), .lit (.int .u32 0)], [], places) :=
  ⟨[], by kernel_rfl⟩
set_option maxRecDepth 100000 in
theorem lifted (os : Os) (started : os.Started) (H : Type) (enc : TypeId × Value → H) (F : Stop.Interp) :
    ReturnsInHanded {} Tryd.checked os 3 .any ((OpenSpec.ofChange Rows.domSubsetsSpec).preRow enc Tryd.prog Tryd.f3 Rows.domSubsetsRow.domain false Rows.domSubsetsRow.laid) (((OpenSpec.ofChange Rows.domSubsetsSpec).at F).post enc Tryd.prog Tryd.f3 false true false false) := by
  obtain ⟨places, hx⟩ := reads os enc
  refine returnsInHanded_of_row (C := Tryd.checked) (s := OpenSpec.ofChange Rows.domSubsetsSpec) own started (by kernel_rfl) Tryd.func3
    (witness_row_at (enc := enc) (C := Tryd.checked) false (laidWorld os) #[.int .u8 0, .int .u32 0, .int .u32 0] rfl (by kernel_rfl) (by kernel_rfl) (by kernel_rfl)
      (OpenSpec.preRow_of_cond 8 hx (by kernel_rfl) (fun k hk => by cases hk) (by kernel_rfl) (laid_met os))) ?_
  intro W base args ds gs before hval hW _ _ _ hL _ _
  exact contract H enc W base args ds gs before hval hW hL
theorem said : Rows.DomSubsetsSaid :=
  OpenClaim.holds_of_cond 3 Tryd.f3 rfl rfl rfl rfl rfl rfl rfl ⟨rfl, rfl, rfl, rfl, rfl⟩ rfl rfl rfl rfl rfl (by kernel_rfl) Tryd.func3 (by kernel_rfl)
    (of_decide_eq_true (by kernel_rfl)) (by unfold Func.isWrapper; first | (rw [if_pos (by decide +kernel)]; kernel_rfl) | (rw [if_neg (by decide +kernel)]; exact ⟨rfl, rfl⟩))
    (fun os started H enc _ F => by rw [OpenClaim.pre_eq_preRow]; exact lifted os started H enc F)
theorem plain (f : FuncId) (fn : Func) (hf : Tryd.pinned.checked.prog.funcNamed "pennyweight/pennyweightlaw02.DomSubsets" = some f) (hfn : Tryd.pinned.checked.prog.funcs[f]? = some fn) :
    false = Tryd.pinned.checked.prog.looks [] ∧ ∀ (j : Nat) t, fn.params[j]? = some t → Tryd.pinned.checked.prog.wantsStandIn t = false := by
  obtain rfl : f = 3 := Option.some.inj ((show Tryd.prog.funcNamed "pennyweight/pennyweightlaw02.DomSubsets" = some 3 by kernel_rfl).symm.trans hf) |>.symm
  obtain rfl : fn = Tryd.f3 := (Option.some.inj (Tryd.func3.symm.trans hfn)).symm
  refine ⟨by kernel_rfl, fun j t ht => ?_⟩
  rw [Tryd.params3] at ht
  have hm := Array.mem_of_getElem? ht
  simp only [Array.mem_def, List.mem_cons, List.not_mem_nil, or_false] at hm
  rcases hm with rfl | rfl | rfl <;> (show Tryd.prog.wantsStandIn _ = false; kernel_rfl)
theorem proved : Rows.DomSubsetsCardSaid :=
  Claim7.holds_tied_plain_at .later [] _ _ _ _ said (fun _ h => by cases h) (by kernel_rfl) (fun _ h => by cases h) domSubsets_row_tie rfl ⟨rfl, rfl⟩ (by kernel_rfl) rfl plain (by kernel_rfl)
end Go.Proofs.YtcmglgkopgfheaaDoor.domSubsets
