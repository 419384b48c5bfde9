/- For every input DomInters returns true. No condition; the table of math/bits is tied to the program's text. -/
import Derived.Test.YtcmglgkopgfheaaDoorCards
import Derived.Test.YtcmglgkopgfheaaDoorTie
import Derived.Deep.DeepHandedRow
import Derived.Lib.LaidTab
import Derived.WalkKit
import Derived.ProofKit
import Derived.OpenShut
import Derived.ShutString
import Derived.ChangeOld
import Derived.Below
import Derived.Test.YtcmglgkopgfheaaDoorOpen
import Derived.Test.YtcmglgkopgfheaaDoorLike
import Derived.Deep.RegionHeld3
import Derived.Deep.DeepCutAuto
namespace Go.Proofs.YtcmglgkopgfheaaDoor.domInters
open Go.Proofs.YtcmglgkopgfheaaDoor.bit Go.Proofs.YtcmglgkopgfheaaDoor.words
open Go.ChangeShapes Go.WideShapes Go.ChangeAt Go.RowKit
open Go.ChangeMaps (open_string shut_string)
set_option linter.unusedVariables false
theorem own : ownKnob Tryd.prog.godebug = none := by kernel_rfl
theorem laidOut : laidOutB Tryd.prog = true := by kernel_rfl
set_option maxRecDepth 100000 in
set_option maxHeartbeats 8000000 in
theorem core (a0 b0 a b : Nat) (w : World) (ha0 : a0 < 256) (hb0 : b0 < 256) (ha : a < 4294967296) (hb : b < 4294967296) (ht : Tab w) (h0w : 0 < w.heap.size) :
    Calls Tryd.prog 6 #[.int .u8 a0, .int .u8 b0, .int .u32 a, .int .u32 b] w fun e w' => e = .returned (.bool true) ∧ Below w.heap.size w w' := by
  have hk2 : 1 + a0 % 32 ≤ 32 := by omega
  have hj2 : 1 + b0 % 32 ≤ 32 := by omega
  have hm1 := fun w => made_any a0 a w ha0 ha
  have hm2 := fun w => made_any b0 b w hb0 hb
  obtain ⟨k, hk⟩ : ∃ k, 1 + a0 % 32 = k := ⟨_, rfl⟩
  obtain ⟨j, hj⟩ : ∃ k, 1 + b0 % 32 = k := ⟨_, rfl⟩
  rw [hk] at hm1 hk2
  rw [hj] at hm2 hj2
  clear hk hj
  go_enter Tryd.func6, Tryd.ntmps6
  go_wp2_with fail
  refine (awake_any w ht h0w).mono ?_
  rintro e w1 ⟨rfl, hb1⟩
  go_wp2_with fail
  refine (hm1 _).mono ?_
  rintro e w2 ⟨S, A2, n2, c2, rfl, hP, hl2, hb2⟩
  have hS0 := hP.lt
  have hB2 := bnew (bto hb1 hb2) (.cells #[.int .u64 S, .int .i64 k] 26)
  have hS2 := Blk.new w2 26 #[.int .u64 S, .int .i64 k]
  have hr2 := (Reads.of_own hl2).lift (bone w2 (.cells #[.int .u64 S, .int .i64 k] 26))
  have hn2 : n2 ≤ 32 := by have := nums_own_len hl2; have := vals_len_le S k; omega
  clear hm1 hP hl2 hb1 hb2
  go_wp2_with fail
  refine (hm2 _).mono ?_
  obtain ⟨wb, hwb⟩ : ∃ wb, w2.alloc (.cells #[.int .u64 S, .int .i64 k] 26) = wb := ⟨_, rfl⟩
  obtain ⟨gs, hgs⟩ : ∃ g, w2.heap.size = g := ⟨_, rfl⟩
  rw [hwb] at hB2 hS2 hr2 ⊢
  rw [hgs] at hS2 ⊢
  clear hwb hgs
  rintro e w3 ⟨T, A3, n3, c3, rfl, hP, hl3, hb3⟩
  have hT0 := hP.lt
  have hb4 := bnew hb3 (.cells #[.int .u64 T, .int .i64 j] 26)
  have hB4 := bto hB2 hb4
  have hS4 := hS2.under hb4
  have hT4 := Blk.new w3 26 #[.int .u64 T, .int .i64 j]
  have hr4 := hr2.lift hb4
  have hr5 := (Reads.of_own hl3).lift (bone w3 (.cells #[.int .u64 T, .int .i64 j] 26))
  have hn3 : n3 ≤ 32 := by have := nums_own_len hl3; have := vals_len_le T j; omega
  have hst : gs ≠ w3.heap.size := fun e => by have := hS2.lt; have := hb3.size; omega
  clear hm2 hP hl3 hb3 hb4 hB2 hS2 hr2
  obtain ⟨s0, s1⟩ := hS4.two
  obtain ⟨t0, t1⟩ := hT4.two
  have two : (k = j) ∨ k ≠ j := by omega
  rcases two with hkj | hkj
  · subst hkj
    have hi := inter_same S T k (w3.alloc (.cells #[.int .u64 T, .int .i64 k] 26)) hS0 hT0 hk2
    go_wp2_with fail
    refine hi.mono ?_
    clear hi
    obtain ⟨wd, hwd⟩ : ∃ wd, w3.alloc (.cells #[.int .u64 T, .int .i64 k] 26) = wd := ⟨_, rfl⟩
    obtain ⟨gt, hgt⟩ : ∃ g, w3.heap.size = g := ⟨_, rfl⟩
    rw [hwd] at hB4 hS4 hT4 hr4 hr5 s0 s1 t0 t1 ⊢
    rw [hgt] at hT4 hst t0 t1 ⊢
    clear hwd hgt
    rintro e w4 ⟨rfl, hb5⟩
    obtain ⟨U, hU⟩ : ∃ U, S &&& T = U := ⟨_, rfl⟩
    have hU0 : U < 2 ^ k := by rw [← hU]; exact Nat.lt_of_le_of_lt Nat.and_le_left hS0
    have hbv := both_vals S T k
    rw [hU] at hbv ⊢
    have hba := bnew hb5 (.cells #[.int .u64 U, .int .i64 k] 26)
    have hSa := hS4.under hba
    have hTa := hT4.under hba
    have hUa := Blk.new w4 26 #[.int .u64 U, .int .i64 k]
    have hra := hr4.lift hba
    have hrb := hr5.lift hba
    have hBa := bto hB4 hba
    obtain ⟨gu, hgu⟩ : ∃ g, w4.heap.size = g := ⟨_, rfl⟩
    obtain ⟨wa, hwa⟩ : ∃ wa, w4.alloc (.cells #[.int .u64 U, .int .i64 k] 26) = wa := ⟨_, rfl⟩
    have hwa' := hwa
    rw [hwa] at hSa hTa hUa hra hrb hBa
    rw [hgu] at hUa
    clear hb5 hba hS4 hT4 hr4 hr5 hB4 s0 s1 t0 t1
    have base : Hid (∀ w', Below wa.heap.size wa w' → (w'.cell? ⟨gs, 0, none⟩ = some (.int .u64 S) ∧ w'.cell? ⟨gs, 1, none⟩ = some (.int .i64 k) ∧ w'.cell? ⟨gt, 0, none⟩ = some (.int .u64 T) ∧ w'.cell? ⟨gt, 1, none⟩ = some (.int .i64 k) ∧ w'.cell? ⟨gu, 0, none⟩ = some (.int .u64 U) ∧ w'.cell? ⟨gu, 1, none⟩ = some (.int .i64 k) ∧ Below wa.heap.size wa w')) := fun w' hb => ⟨(hSa.under hb).cell 0, (hSa.under hb).cell 1, (hTa.under hb).cell 0, (hTa.under hb).cell 1, (hUa.under hb).cell 0, (hUa.under hb).cell 1, hb⟩
    have kb : Hid (∀ w', (w'.cell? ⟨gs, 0, none⟩ = some (.int .u64 S) ∧ w'.cell? ⟨gs, 1, none⟩ = some (.int .i64 k) ∧ w'.cell? ⟨gt, 0, none⟩ = some (.int .u64 T) ∧ w'.cell? ⟨gt, 1, none⟩ = some (.int .i64 k) ∧ w'.cell? ⟨gu, 0, none⟩ = some (.int .u64 U) ∧ w'.cell? ⟨gu, 1, none⟩ = some (.int .i64 k) ∧ Below wa.heap.size wa w') → Below wa.heap.size wa w') := fun w' h => h.2.2.2.2.2.2
    have hEq : Hid (∀ w', Below wa.heap.size wa w' → Calls Tryd.prog 16 #[.slice A2 n2 c2, .slice A3 n3 c3] w' fun e w'' => e = .returned (.bool (decide (S = T))) ∧ Below w'.heap.size w' w'') := fun w' hb => by
      have := equal_any A2 A3 n2 n3 c2 c3 _ _ w' (by omega) (by omega) (hra.lift hb) (hrb.lift hb)
      rwa [show eqB (vals S k) (vals T k) = decide (S = T) from decide_eq_decide.2 ⟨vals_inj hS0 hT0, fun e => by rw [e]⟩] at this
    have hBo : Hid (∀ w', Below wa.heap.size wa w' → Calls Tryd.prog 24 #[.slice A2 n2 c2, .slice A3 n3 c3] w' fun e w'' => ∃ A n c, e = .returned (.slice A n c) ∧ w''.ownsRow w'.heap.size 3 1 (.slice A n c) n (nums (vals U k)) ∧ Below w'.heap.size w' w'') := fun w' hb => (ref_both A2 A3 n2 c2 n3 c3 (vals S k) (vals T k) w' (by omega) (by omega) (hra.lift hb) (hrb.lift hb)).mono fun e w'' ⟨A, c, h1, h2, h3⟩ => by
      rw [hbv] at h1 h2
      exact ⟨A, _, c, h1, h2, h3⟩
    have hTb : Hid (∀ w', Below wa.heap.size wa w' → Tab w' ∧ 0 < w'.heap.size) := fun w' hb => ⟨ht.below h0w (bto hBa hb), Nat.lt_of_lt_of_le h0w (bto hBa hb).size⟩
    have hLk : Hid (∀ w' A n c, Below wa.heap.size wa w' → Reads w' w'.heap.size 1 A n (nums (vals U k)) → Calls Tryd.prog 23 #[SetV U k, .slice A n c, .int .i64 k] w' fun e w'' => e = .returned (.bool true) ∧ Below w'.heap.size w' w'') := fun w' A n c hb hr => like_any U k n c A w' (hTb.out w' hb).1 (hTb.out w' hb).2 hU0 hk2 hr
    have HBa := Lib.hid hBa
    clear hSa hTa hUa hra hrb hBa ht h0w hU hbv hU0
    by_cases hST : S = T
    · subst hST
      have hEq : Hid (∀ w', Below wa.heap.size wa w' → Calls Tryd.prog 16 #[.slice A2 n2 c2, .slice A3 n3 c3] w' fun e w'' => e = .returned (.bool true) ∧ Below w'.heap.size w' w'') := fun w' hb => by have := hEq.out w' hb; rwa [show decide (S = S) = true by simp] at this
      go_upto_region 6 with (fail)
      go_region_held3 (fun w' => w'.cell? ⟨gs, 0, none⟩ = some (.int .u64 S) ∧ w'.cell? ⟨gs, 1, none⟩ = some (.int .i64 k) ∧ w'.cell? ⟨gt, 0, none⟩ = some (.int .u64 S) ∧ w'.cell? ⟨gt, 1, none⟩ = some (.int .i64 k) ∧ w'.cell? ⟨gu, 0, none⟩ = some (.int .u64 U) ∧ w'.cell? ⟨gu, 1, none⟩ = some (.int .i64 k) ∧ Below wa.heap.size wa w')
        (first | assumption | exact base.out _ (Below.refl _ _) | exact base.out _ (Below.refl _ _).drew | (refine base.out _ (bto (kb.out _ ?_) hbx); assumption) | (refine base.out _ (kb.out _ ?_).drew; assumption) | exact base.out _ (bto (Below.refl _ _) hbx) | exact base.out _ (bto (Below.refl _ _).drew hbx))
        (first
          | (go_at_call 16; (with_reducible refine (hEq.out _ ?_).mono ?_); (first | exact Below.refl _ _ | exact (Below.refl _ _).drew | (refine kb.out _ ?_; assumption) | (refine (kb.out _ ?_).drew; assumption)); rintro e wx ⟨rfl, hbx⟩))
      have hfin1 := kb.out _ (by assumption)
      go_upto_region 10 with (fail)
      go_region_held3 (fun w' => w'.cell? ⟨gs, 0, none⟩ = some (.int .u64 S) ∧ w'.cell? ⟨gs, 1, none⟩ = some (.int .i64 k) ∧ w'.cell? ⟨gt, 0, none⟩ = some (.int .u64 S) ∧ w'.cell? ⟨gt, 1, none⟩ = some (.int .i64 k) ∧ w'.cell? ⟨gu, 0, none⟩ = some (.int .u64 U) ∧ w'.cell? ⟨gu, 1, none⟩ = some (.int .i64 k) ∧ Below wa.heap.size wa w')
        (first | assumption | exact base.out _ (Below.refl _ _) | exact base.out _ (Below.refl _ _).drew | (refine base.out _ (bto (kb.out _ ?_) hbx); assumption) | (refine base.out _ (kb.out _ ?_).drew; assumption) | exact base.out _ (bto (Below.refl _ _) hbx) | exact base.out _ (bto (Below.refl _ _).drew hbx))
        (first
          | (go_at_call 24; (with_reducible refine (hBo.out _ ?_).mono ?_); (first | exact Below.refl _ _ | exact (Below.refl _ _).drew | (refine kb.out _ ?_; assumption) | (refine (kb.out _ ?_).drew; assumption)); rintro e wx ⟨A5, n5, c5, rfl, ho5, hbx⟩)
          | (go_at_call 23; (with_reducible refine (hLk.out _ _ _ _ ?_ (Reads.of_own ho5)).mono ?_); (first | exact Below.refl _ _ | exact (Below.refl _ _).drew | (refine kb.out _ ?_; assumption) | (refine (kb.out _ ?_).drew; assumption)); rintro e wx ⟨rfl, hbx⟩))
      have hfin := kb.out _ (by assumption)
      go_wp2_with fail
      go_ret
      exact ⟨rfl, bto HBa.out hfin⟩
    · have hSTI : ((S : Int) == (T : Int)) = false := by simp; omega
      have hSTd : decide (S = T) = false := decide_eq_false hST
      have hEq : Hid (∀ w', Below wa.heap.size wa w' → Calls Tryd.prog 16 #[.slice A2 n2 c2, .slice A3 n3 c3] w' fun e w'' => e = .returned (.bool false) ∧ Below w'.heap.size w' w'') := fun w' hb => by have := hEq.out w' hb; rwa [hSTd] at this
      go_upto_region 6 with (fail)
      go_region_held3 (fun w' => w'.cell? ⟨gs, 0, none⟩ = some (.int .u64 S) ∧ w'.cell? ⟨gs, 1, none⟩ = some (.int .i64 k) ∧ w'.cell? ⟨gt, 0, none⟩ = some (.int .u64 T) ∧ w'.cell? ⟨gt, 1, none⟩ = some (.int .i64 k) ∧ w'.cell? ⟨gu, 0, none⟩ = some (.int .u64 U) ∧ w'.cell? ⟨gu, 1, none⟩ = some (.int .i64 k) ∧ Below wa.heap.size wa w')
        (first | assumption | exact base.out _ (Below.refl _ _) | exact base.out _ (Below.refl _ _).drew | (refine base.out _ (bto (kb.out _ ?_) hbx); assumption) | (refine base.out _ (kb.out _ ?_).drew; assumption) | exact base.out _ (bto (Below.refl _ _) hbx) | exact base.out _ (bto (Below.refl _ _).drew hbx))
        (first
          | (go_at_call 16; (with_reducible refine (hEq.out _ ?_).mono ?_); (first | exact Below.refl _ _ | exact (Below.refl _ _).drew | (refine kb.out _ ?_; assumption) | (refine (kb.out _ ?_).drew; assumption)); rintro e wx ⟨rfl, hbx⟩))
      have hfin1 := kb.out _ (by assumption)
      go_upto_region 10 with (fail)
      go_region_held3 (fun w' => w'.cell? ⟨gs, 0, none⟩ = some (.int .u64 S) ∧ w'.cell? ⟨gs, 1, none⟩ = some (.int .i64 k) ∧ w'.cell? ⟨gt, 0, none⟩ = some (.int .u64 T) ∧ w'.cell? ⟨gt, 1, none⟩ = some (.int .i64 k) ∧ w'.cell? ⟨gu, 0, none⟩ = some (.int .u64 U) ∧ w'.cell? ⟨gu, 1, none⟩ = some (.int .i64 k) ∧ Below wa.heap.size wa w')
        (first | assumption | exact base.out _ (Below.refl _ _) | exact base.out _ (Below.refl _ _).drew | (refine base.out _ (bto (kb.out _ ?_) hbx); assumption) | (refine base.out _ (kb.out _ ?_).drew; assumption) | exact base.out _ (bto (Below.refl _ _) hbx) | exact base.out _ (bto (Below.refl _ _).drew hbx))
        (first
          | (go_at_call 24; (with_reducible refine (hBo.out _ ?_).mono ?_); (first | exact Below.refl _ _ | exact (Below.refl _ _).drew | (refine kb.out _ ?_; assumption) | (refine (kb.out _ ?_).drew; assumption)); rintro e wx ⟨A5, n5, c5, rfl, ho5, hbx⟩)
          | (go_at_call 23; (with_reducible refine (hLk.out _ _ _ _ ?_ (Reads.of_own ho5)).mono ?_); (first | exact Below.refl _ _ | exact (Below.refl _ _).drew | (refine kb.out _ ?_; assumption) | (refine (kb.out _ ?_).drew; assumption)); rintro e wx ⟨rfl, hbx⟩))
      have hfin := kb.out _ (by assumption)
      go_wp2_with fail
      go_ret
      exact ⟨rfl, bto HBa.out hfin⟩
  · have hi := inter_other S T k j (w3.alloc (.cells #[.int .u64 T, .int .i64 j] 26)) hkj hk2 hj2
    have hkI : ((k : Int) == (j : Int)) = false := by simp; omega
    have hkd : decide (k = j) = false := decide_eq_false hkj
    clear hr4 hr5
    go_wp2_with fail
    refine hi.mono ?_
    rintro e w4 ⟨rfl, hb5⟩
    have hba := bnew hb5 (.cells #[.int .u64 0, .int .i64 0] 26)
    obtain ⟨p0, p1⟩ := (hS4.under hba).two
    obtain ⟨q0, q1⟩ := (hT4.under hba).two
    have hBa := bto hB4 hba
    clear hi hS4 hT4 hB4 hba s0 s1 t0 t1 hb5 ht h0w
    by_cases hST : S = T
    · subst hST
      go_upto_region 6 with (fail)
      go_quiet (fail)
      go_wp2_with fail
      go_ret
      exact ⟨rfl, below_drewN hBa _⟩
    · have hSTI : ((S : Int) == (T : Int)) = false := by simp; omega
      go_upto_region 6 with (fail)
      go_quiet (fail)
      go_wp2_with fail
      go_ret
      exact ⟨rfl, below_drewN hBa _⟩
theorem gTab : Tryd.prog.globalNamed "math/bits.deBruijn64tab" = some 0 := by kernel_rfl
theorem gTabType : (Tryd.prog.globals[0]?).map (·.type) = some 56 := by kernel_rfl
theorem cellsA : Tryd.prog.cellsOf 56 = tab.length := by kernel_rfl
theorem cellsE : Tryd.prog.cellsOf 5 = 1 := by kernel_rfl
theorem table {W : World} (h : laidMetH Tryd.prog Rows.domIntersRow.laid W) : Lib.TabIs Tryd.prog W "math/bits.deBruijn64tab" .u8 tab :=
  Lib.tabIs_of_head (rest := []) gTab gTabType Tryd.underlying56 Tryd.underlying5 cellsE cellsA h
theorem walk (a0 : Int) (a1 : Int) (a2 : Int) (a3 : Int) (w : World) (w0 : (Lit.int .u8 a0).wf = true) (w1 : (Lit.int .u8 a1).wf = true) (w2 : (Lit.int .u32 a2).wf = true) (w3 : (Lit.int .u32 a3).wf = true) (ht : Tab w) (h0w : 0 < w.heap.size) :
    Calls Tryd.prog 6 #[.int .u8 a0, .int .u8 a1, .int .u32 a2, .int .u32 a3] w fun e w' => e = .returned (.bool true) ∧ Below w.heap.size w w' := by
  obtain ⟨x0, e0, r0⟩ := wf_u8 w0
  obtain ⟨x1, e1, r1⟩ := wf_u8 w1
  obtain ⟨x2, e2, r2⟩ := wf_u32 w2
  obtain ⟨x3, e3, r3⟩ := wf_u32 w3
  subst e0 e1 e2 e3
  exact core x0 x1 x2 x3 w r0 r1 r2 r3 ht h0w

theorem contract (H : Type) (enc : TypeId × Value → H) (W : World) (base : Nat) (args : Array Value) (ds gs : List (DataW H)) (before : List MemPlace)
    (hval0 : ∀ (j : Nat) t v, Tryd.f6.params[j]? = some t → args[j]? = some v → Value.okWide Tryd.prog W .any base t v)
    (hW : DataW.Whole enc Tryd.prog Tryd.f6.params.toList Rows.domIntersSpec.vars false W args.toList ds gs before) (hL : laidMetH Tryd.prog Rows.domIntersRow.laid W) :
    Calls Tryd.prog 6 args W fun e W' => ∃ v, e = .returned v ∧ Rows.domIntersSpec.post enc Tryd.prog Tryd.f6 false true false false W args v W' := by
  have hval : ∀ (j : Nat) t v, Tryd.f6.params[j]? = some t → args[j]? = some v → Value.okWide Tryd.prog W .any base t v := hval0
  have hW' := hW
  obtain ⟨p, q, hA0, hV, rfl, hfz, hnd⟩ := hW
  have hA : DataW.TrodAll enc Tryd.prog W 0 (fun _ => true) true Tryd.f6.params.toList args.toList ds p := hA0
  rw [Tryd.params6] at hA hval
  obtain ⟨v0, vs0, d0, ds0, p0, q0, hargs, rfl, rfl, h0, r0⟩ := trodAll_cons hA
  obtain ⟨v1, vs1, d1, ds1, p1, q1, rfl, rfl, rfl, h1, r1⟩ := trodAll_cons r0
  obtain ⟨v2, vs2, d2, ds2, p2, q2, rfl, rfl, rfl, h2, r2⟩ := trodAll_cons r1
  obtain ⟨v3, vs3, d3, ds3, p3, q3, rfl, rfl, rfl, h3, r3⟩ := trodAll_cons r2
  obtain ⟨rfl, rfl, rfl⟩ := trodAll_nil r3
  obtain rfl : args = #[v0, v1, v2, v3] := by cases args; simp_all
  obtain ⟨rfl, rfl⟩ := trodVars_none hV
  obtain ⟨a0, rfl, rfl, rfl, w0⟩ := open_int Tryd.underlying5 (hval 0 5 v0 rfl rfl) h0
  obtain ⟨a1, rfl, rfl, rfl, w1⟩ := open_int Tryd.underlying5 (hval 1 5 v1 rfl rfl) h1
  obtain ⟨a2, rfl, rfl, rfl, w2⟩ := open_int Tryd.underlying22 (hval 2 22 v2 rfl rfl) h2
  obtain ⟨a3, rfl, rfl, rfl, w3⟩ := open_int Tryd.underlying22 (hval 3 22 v3 rfl rfl) h3
  clear hA0 hval0
  simp only [List.append_nil] at hW'
  have htab : Tab W := fun i hi => (table hL).cell gTab i (by simpa [tab] using hi)
  have h0w : 0 < W.heap.size := World.block_lt_of_cell? W _ (htab 0 (by decide))
  refine (walk a0 a1 a2 a3 W w0 w1 w2 w3 htab h0w).mono fun e W' ⟨he, bel⟩ => ?_
  subst he
  exact ⟨_, rfl, _, _, _, [], _, [], hW', trodAll_mk1 (shut_bool Tryd.underlying4 _), (trodAll_cons_mk (shut_int Tryd.underlying5 w0) (trodAll_cons_mk (shut_int Tryd.underlying5 w1) (trodAll_cons_mk (shut_int Tryd.underlying22 w2) (trodAll_cons_mk (shut_int Tryd.underlying22 w3) trodAll_mk0)))), rfl, bel.frame _, fun h => by cases h⟩
noncomputable def laidWorld (os : Os) : World :=
  { World.holding Tryd.prog os ⟨#[], #[], []⟩ with heap := (World.holding Tryd.prog os ⟨#[], #[], []⟩).heap.modify 0 fun
      | .cells _ t frozen => .cells #[.int .u8 0, .int .u8 1, .int .u8 56, .int .u8 2, .int .u8 57, .int .u8 49, .int .u8 28, .int .u8 3, .int .u8 61, .int .u8 58, .int .u8 42, .int .u8 50, .int .u8 38, .int .u8 29, .int .u8 17, .int .u8 4, .int .u8 62, .int .u8 47, .int .u8 59, .int .u8 36, .int .u8 45, .int .u8 43, .int .u8 51, .int .u8 22, .int .u8 53, .int .u8 39, .int .u8 33, .int .u8 30, .int .u8 24, .int .u8 18, .int .u8 12, .int .u8 5, .int .u8 63, .int .u8 55, .int .u8 48, .int .u8 27, .int .u8 60, .int .u8 41, .int .u8 37, .int .u8 16, .int .u8 46, .int .u8 35, .int .u8 44, .int .u8 21, .int .u8 52, .int .u8 32, .int .u8 23, .int .u8 11, .int .u8 54, .int .u8 26, .int .u8 40, .int .u8 15, .int .u8 34, .int .u8 20, .int .u8 31, .int .u8 10, .int .u8 25, .int .u8 14, .int .u8 19, .int .u8 9, .int .u8 13, .int .u8 8, .int .u8 7, .int .u8 6] t frozen
      | o => o }
theorem laid_met (os : Os) : laidMet Tryd.prog Rows.domIntersRow.laid ((laidWorld os).forCall (fun _ _ => 0) ⟨#[], #[.int .u8 0, .int .u8 0, .int .u32 0, .int .u32 0], []⟩).memory :=
  laidMet_of_run' 8 (by kernel_rfl) (by kernel_rfl)
theorem reads (os : Os) {H : Type} (enc : TypeId × Value → H) : ∃ places, DataW.whole enc Tryd.prog ((laidWorld os).forCall (fun _ _ => 0) ⟨#[], #[.int .u8 0, .int .u8 0, .int .u32 0, .int .u32 0], []⟩).memory Tryd.f6.params.toList Rows.domIntersSpec.vars false (#[.int .u8 0, .int .u8 0, .int .u32 0, .int .u32 0] : Array Value).toList 8 = some ([.lit (.int .u8 0), .lit (.int .u8 0), .lit (.int .u32 0), .lit (.int .u32 0)], [], places) :=
  ⟨[], by kernel_rfl⟩
set_option maxRecDepth 100000 in
theorem lifted (os : Os) (started : os.Started) (H : Type) (enc : TypeId × Value → H) (F : Stop.Interp) :
    ReturnsInHanded {} Tryd.checked os 6 .any ((OpenSpec.ofChange Rows.domIntersSpec).preRow enc Tryd.prog Tryd.f6 Rows.domIntersRow.domain false Rows.domIntersRow.laid) (((OpenSpec.ofChange Rows.domIntersSpec).at F).post enc Tryd.prog Tryd.f6 false true false false) := by
  obtain ⟨places, hx⟩ := reads os enc
  refine returnsInHanded_of_row (C := Tryd.checked) (s := OpenSpec.ofChange Rows.domIntersSpec) own started (by kernel_rfl) Tryd.func6
    (witness_row_at (enc := enc) (C := Tryd.checked) false (laidWorld os) #[.int .u8 0, .int .u8 0, .int .u32 0, .int .u32 0] rfl (by kernel_rfl) (by kernel_rfl) (by kernel_rfl)
      (OpenSpec.preRow_of_cond 8 hx (by kernel_rfl) (fun k hk => by cases hk) (by kernel_rfl) (laid_met os))) ?_
  intro W base args ds gs before hval hW _ _ _ hL _ _
  exact contract H enc W base args ds gs before hval hW hL
theorem said : Rows.DomIntersSaid :=
  OpenClaim.holds_of_cond 6 Tryd.f6 rfl rfl rfl rfl rfl rfl rfl ⟨rfl, rfl, rfl, rfl, rfl⟩ rfl rfl rfl rfl rfl (by kernel_rfl) Tryd.func6 (by kernel_rfl)
    (of_decide_eq_true (by kernel_rfl)) (by unfold Func.isWrapper; first | (rw [if_pos (by decide +kernel)]; kernel_rfl) | (rw [if_neg (by decide +kernel)]; exact ⟨rfl, rfl⟩))
    (fun os started H enc _ F => by rw [OpenClaim.pre_eq_preRow]; exact lifted os started H enc F)
theorem plain (f : FuncId) (fn : Func) (hf : Tryd.pinned.checked.prog.funcNamed "pennyweight/pennyweightlaw02.DomInters" = some f) (hfn : Tryd.pinned.checked.prog.funcs[f]? = some fn) :
    false = Tryd.pinned.checked.prog.looks [] ∧ ∀ (j : Nat) t, fn.params[j]? = some t → Tryd.pinned.checked.prog.wantsStandIn t = false := by
  obtain rfl : f = 6 := Option.some.inj ((show Tryd.prog.funcNamed "pennyweight/pennyweightlaw02.DomInters" = some 6 by kernel_rfl).symm.trans hf) |>.symm
  obtain rfl : fn = Tryd.f6 := (Option.some.inj (Tryd.func6.symm.trans hfn)).symm
  refine ⟨by kernel_rfl, fun j t ht => ?_⟩
  rw [Tryd.params6] at ht
  have hm := Array.mem_of_getElem? ht
  simp only [Array.mem_def, List.mem_cons, List.not_mem_nil, or_false] at hm
  rcases hm with rfl | rfl | rfl | rfl <;> (show Tryd.prog.wantsStandIn _ = false; kernel_rfl)
theorem proved : Rows.DomIntersCardSaid :=
  Claim7.holds_tied_plain_at .later [] _ _ _ _ said (fun _ h => by cases h) (by kernel_rfl) (fun _ h => by cases h) domInters_row_tie rfl ⟨rfl, rfl⟩ (by kernel_rfl) rfl plain (by kernel_rfl)
end Go.Proofs.YtcmglgkopgfheaaDoor.domInters
