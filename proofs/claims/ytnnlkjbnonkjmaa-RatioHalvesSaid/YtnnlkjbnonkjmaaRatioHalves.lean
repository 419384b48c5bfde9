/- For every input RatioHalves returns true. No condition. -/
import Derived.Test.YtnnlkjbnonkjmaaRows
import Derived.WalkKit
import Derived.ProofKit
import Derived.OpenShut
import Derived.ShutString
import Derived.ChangeOld
import Derived.Below
import Derived.Test.YtnnlkjbnonkjmaaOpen
import Derived.Test.YtnnlkjbnonkjmaaHalf
namespace Go.Proofs.Ytnnlkjbnonkjmaa.ratioHalves
open Go.Proofs.Ytnnlkjbnonkjmaa.flo Go.Proofs.Ytnnlkjbnonkjmaa.rnd Go.Proofs.Ytnnlkjbnonkjmaa.words
open Go.ChangeShapes Go.WideShapes Go.ChangeAt Go.RowKit
open Go.ChangeMaps (open_string shut_string)
set_option linter.unusedVariables false
theorem own : ownKnob Try.prog.godebug = none := by kernel_rfl
theorem laidOut : laidOutB Try.prog = true := by kernel_rfl
def nanB (a : Nat) : Bool := (key a).isNone
def zeroB (a : Nat) : Bool := match key a with | some x => decide (x = 0) | none => false
theorem nan_b (a : Nat) : (FloatKind.f64.format.order a a != some .eq) = nanB a := nan_key a
theorem zero_b (a : Nat) : (FloatKind.f64.format.order a 0 == some .eq) = zeroB a := is_zero a
def infB (a : Nat) : Bool := (Ieee.double.read a).isInfinity
def goodB (a : Nat) : Bool := !nanB a && !zeroB a && !infB a
theorem good_read {a : Nat} (ha : a < 2 ^ 63) (h : nanB a = false) (h0 : zeroB a = false) (hi : infB a = false) : ∃ m p, Ieee.double.read a = .number false m p ∧ m ≠ 0 := by
  have ha2 : a < 2 ^ 64 := by omega
  have k := kind a ha2
  unfold nanB at h
  unfold zeroB at h0
  unfold infB at hi
  cases k with
  | nan hk _ => rw [hk] at h; cases h
  | inf s hk hr _ => rw [hr] at hi; cases hi
  | zero s p hk _ _ => rw [hk] at h0; simp at h0
  | num s m p k hk _ _ hm hr hs =>
    have : s = false := by cases s with
      | false => rfl
      | true => have := hs.1 rfl; omega
    subst this
    exact ⟨m, p, hr, hm⟩
/-- what the law asks of good weights, as numbers -/
theorem four {a b w v : Nat} (ha : a ≤ 65535) (hb : b ≤ 65535) {n p : Nat} {j q : Int} (hw : Ieee.double.read w = .number false n j) (hn : n ≠ 0) (hv : Ieee.double.read v = .number false p q) (hp : p ≠ 0) :
    ∃ x y u : Nat, Ieee.double.div (floatOfInt .f64 (a : Int)) w = some x ∧ Ieee.double.div (floatOfInt .f64 (b : Int)) w = some y ∧ Ieee.double.div (floatOfInt .f64 (a : Int)) v = some u ∧
      (a ≤ b → cmpK (key x) (key y) ≤ 0) ∧ (b ≤ a → 0 ≤ cmpK (key x) (key y)) ∧
      (∀ kw kv', key w = some kw → key v = some kv' → (kv' ≤ kw → cmpK (key x) (key u) ≤ 0) ∧ (kw ≤ kv' → 0 ≤ cmpK (key x) (key u))) := by
  obtain ⟨R, d1, l1, k1, r1⟩ := quo_keys hw hn a (by omega)
  obtain ⟨S, d2, l2, k2, r2⟩ := quo_keys hw hn b (by omega)
  obtain ⟨T, d3, l3, k3, r3⟩ := quo_keys hv hp a (by omega)
  refine ⟨_, _, _, d1, d2, d3, fun h => ?_, fun h => ?_, fun kw kv' e1 e2 => ⟨fun h => ?_, fun h => ?_⟩⟩
  · rw [k1, k2]; exact (cmp_of_le (size_mono hw hn (by omega) (by omega) h r1 r2) l2).1
  · rw [k1, k2]; exact (cmp_of_le (size_mono hw hn (by omega) (by omega) h r2 r1) l1).2
  · rw [k1, k3]
    rw [key_mag hw] at e1
    rw [key_mag hv] at e2
    have e1 := Option.some.inj e1
    have e2 := Option.some.inj e2
    exact (cmp_of_le (weight_mono hw hn hv hp (by omega) r1 r3) l3).1
  · rw [k1, k3]
    rw [key_mag hw] at e1
    rw [key_mag hv] at e2
    have e1 := Option.some.inj e1
    have e2 := Option.some.inj e2
    exact (cmp_of_le (weight_mono hv hp hw hn (by omega) r3 r1) l1).2
set_option maxRecDepth 100000 in
set_option maxHeartbeats 8000000 in
theorem core_bad (a b : Nat) (w0 v0 : Nat) (W : World) (ha : a ≤ 65535) (hb : b ≤ 65535) (hw0 : w0 < 2 ^ 64) (hv0 : v0 < 2 ^ 64) (hbad : (goodB (w0 % 2 ^ 63) && goodB (v0 % 2 ^ 63)) = false) :
    Calls Try.prog 5 #[.int .u16 a, .int .u16 b, .float .f64 w0, .float .f64 v0] W fun e w' => e = .returned (.bool true) ∧ Below W.heap.size W w' := by
  have f1 := fun W => abs_any w0 W hw0
  have f2 := fun W => abs_any v0 W hv0
  have lw : w0 % 2 ^ 63 < 2 ^ 63 := Nat.mod_lt _ (by decide)
  have lv : v0 % 2 ^ 63 < 2 ^ 63 := Nat.mod_lt _ (by decide)
  generalize w0 % 2 ^ 63 = w at *
  generalize v0 % 2 ^ 63 = v at *
  have n1 := nan_b w
  have n2 := nan_b v
  have z1 := zero_b w
  have z2 := zero_b v
  have i1 := fun W => isinf_any w W (by omega)
  have i2 := fun W => isinf_any v W (by omega)
  have c1 := fun W => cmp_any w w W
  have c2 := fun W => cmp_any v v W
  rw [cmp_self] at c1 c2
  change ∀ W, Calls _ _ _ W fun e w' => e = .returned (.bool (infB w)) ∧ _ at i1
  change ∀ W, Calls _ _ _ W fun e w' => e = .returned (.bool (infB v)) ∧ _ at i2
  unfold goodB at hbad
  generalize nanB w = b1 at *
  generalize nanB v = b2 at *
  generalize zeroB w = b3 at *
  generalize zeroB v = b4 at *
  generalize infB w = b5 at *
  generalize infB v = b6 at *
  clear hw0 hv0 lw lv ha hb
  go_enter Try.func5, Try.ntmps5
  go_wp2_with fail
  refine (awake_any W).mono ?_
  rintro e w1 ⟨rfl, hb1⟩
  go_wp2_with fail
  refine (f1 _).mono ?_
  rintro e w2 ⟨rfl, rfl⟩
  go_wp2_with fail
  refine (f2 _).mono ?_
  rintro e w2 ⟨rfl, rfl⟩
  clear f1 f2
  cases b1 <;> cases b2 <;> cases b3 <;> cases b4 <;> cases b5 <;> cases b6 <;> first
    | (exfalso; revert hbad; decide)
    | skip
  all_goals
    clear hbad
    go_wp2_with (first
      | (go_at_call 15; (with_reducible refine (i1 _).mono ?_); rintro e w' ⟨rfl, rfl⟩)
      | (go_at_call 15; (with_reducible refine (i2 _).mono ?_); rintro e w' ⟨rfl, rfl⟩)
      | (go_at_call 11; (with_reducible refine (c1 _).mono ?_); rintro e w' ⟨rfl, rfl⟩)
      | (go_at_call 11; (with_reducible refine (c2 _).mono ?_); rintro e w' ⟨rfl, rfl⟩)
      | fail)
    go_ret
    exact ⟨rfl, hb1⟩
set_option maxRecDepth 100000 in
set_option maxHeartbeats 8000000 in
theorem core_good (a b : Nat) (w0 v0 : Nat) (W : World) (ha : a ≤ 65535) (hb : b ≤ 65535) (hw0 : w0 < 2 ^ 64) (hv0 : v0 < 2 ^ 64) (hg1 : goodB (w0 % 2 ^ 63) = true) (hg2 : goodB (v0 % 2 ^ 63) = true) :
    Calls Try.prog 5 #[.int .u16 a, .int .u16 b, .float .f64 w0, .float .f64 v0] W fun e w' => e = .returned (.bool true) ∧ Below W.heap.size W w' := by
  have f1 := fun W => abs_any w0 W hw0
  have f2 := fun W => abs_any v0 W hv0
  have lw : w0 % 2 ^ 63 < 2 ^ 63 := Nat.mod_lt _ (by decide)
  have lv : v0 % 2 ^ 63 < 2 ^ 63 := Nat.mod_lt _ (by decide)
  generalize w0 % 2 ^ 63 = w at *
  generalize v0 % 2 ^ 63 = v at *
  unfold goodB at hg1 hg2
  simp only [Bool.and_eq_true, Bool.not_eq_true'] at hg1 hg2
  obtain ⟨⟨n1, z1⟩, i1⟩ := hg1
  obtain ⟨⟨n2, z2⟩, i2⟩ := hg2
  obtain ⟨m, j, hr1, hm1⟩ := good_read lw n1 z1 i1
  obtain ⟨p, q, hr2, hm2⟩ := good_read lv n2 z2 i2
  obtain ⟨x, y, u, d1, d2, d3, g1, g2, g3⟩ := four ha hb hr1 hm1 hr2 hm2
  have k1 := key_mag hr1
  have k2 := key_mag hr2
  obtain ⟨kw, hkw⟩ : ∃ kw : Int, ((m * 2 ^ (j + 1074).toNat : Nat) : Int) = kw := ⟨_, rfl⟩
  obtain ⟨kx, hkx⟩ : ∃ kx : Int, ((p * 2 ^ (q + 1074).toNat : Nat) : Int) = kx := ⟨_, rfl⟩
  rw [hkw] at k1
  rw [hkx] at k2
  have g3 := g3 _ _ k1 k2
  have no1 := (nan_b w).trans n1
  have no2 := (nan_b v).trans n2
  have ze1 := (zero_b w).trans z1
  have ze2 := (zero_b v).trans z2
  have in1 := fun W => isinf_any w W (by omega)
  have in2 := fun W => isinf_any v W (by omega)
  change ∀ W, Calls _ _ _ W fun e w' => e = .returned (.bool (infB w)) ∧ _ at in1
  change ∀ W, Calls _ _ _ W fun e w' => e = .returned (.bool (infB v)) ∧ _ at in2
  rw [i1] at in1
  rw [i2] at in2
  have r1 := fun W => ratio_fin (a : Int) w x W d1
  have r2 := fun W => ratio_fin (b : Int) w y W d2
  have r3 := fun W => ratio_fin (a : Int) v u W d3
  have c1 := fun W => cmp_any x y W
  have c2 := fun W => cmp_any x u W
  obtain ⟨s, hs⟩ : ∃ s, cmpK (key x) (key y) = s := ⟨_, rfl⟩
  obtain ⟨t, ht⟩ : ∃ t, cmpK (key x) (key u) = t := ⟨_, rfl⟩
  rw [hs] at c1 g1 g2
  rw [ht] at c2 g3
  have l1 : (FloatKind.f64.format.order w v == some .gt) = decide (kx < kw) := by have := gt_key w v; rw [k1, k2] at this; exact this
  have l2 : (FloatKind.f64.format.order w v == some .lt) = decide (kw < kx) := by have := lt_key w v; rw [k1, k2] at this; exact this
  have l3 : (FloatKind.f64.format.order w v == some .eq) = decide (kw = kx) := by have := eq_key w v; rw [k1, k2] at this; exact this
  have aw : IntKind.i64.wrap (a : Int) = (a : Int) := by rw [IntKind.wrap_i64]; omega
  have bw : IntKind.i64.wrap (b : Int) = (b : Int) := by rw [IntKind.wrap_i64]; omega
  clear hr1 hr2 hm1 hm2 d1 d2 d3 k1 k2 hkw hkx n1 n2 z1 z2 i1 i2 hs ht lw lv hw0 hv0
  go_enter Try.func5, Try.ntmps5
  go_wp2_with fail
  refine (awake_any W).mono ?_
  rintro e w1 ⟨rfl, hb1⟩
  go_wp2_with fail
  refine (f1 _).mono ?_
  rintro e w2 ⟨rfl, rfl⟩
  go_wp2_with fail
  refine (f2 _).mono ?_
  rintro e w2 ⟨rfl, rfl⟩
  clear f1 f2
  go_wp2_with (first
      | (go_at_call 15; (with_reducible refine (in1 _).mono ?_); rintro e w' ⟨rfl, rfl⟩)
      | (go_at_call 15; (with_reducible refine (in2 _).mono ?_); rintro e w' ⟨rfl, rfl⟩)
      | fail)
  refine (r1 _).mono ?_
  rintro e w2 ⟨rfl, rfl⟩
  go_wp2_with fail
  refine (r2 _).mono ?_
  rintro e w2 ⟨rfl, rfl⟩
  go_wp2_with fail
  refine (r1 _).mono ?_
  rintro e w2 ⟨rfl, rfl⟩
  go_wp2_with fail
  refine (r3 _).mono ?_
  rintro e w2 ⟨rfl, rfl⟩
  clear r1 r2 r3
  have hs : (a < b ∧ s ≤ 0) ∨ (a = b ∧ s ≤ 0 ∧ 0 ≤ s) ∨ (b < a ∧ 0 ≤ s) := by omega
  have ht : (kw < kx ∧ 0 ≤ t) ∨ (kw = kx ∧ t ≤ 0 ∧ 0 ≤ t) ∨ (kx < kw ∧ t ≤ 0) := by
    obtain ⟨g4, g5⟩ := g3
    omega
  clear g1 g2 g3
  rcases hs with ⟨hab, s1⟩ | ⟨rfl, s1, s2⟩ | ⟨hab, s1⟩ <;> rcases ht with ⟨hk, t1⟩ | ⟨rfl, t1, t2⟩ | ⟨hk, t1⟩
  all_goals
    go_wp2_with (first
      | (go_at_call 11; (with_reducible refine (c1 _).mono ?_); rintro e w' ⟨rfl, rfl⟩)
      | (go_at_call 11; (with_reducible refine (c2 _).mono ?_); rintro e w' ⟨rfl, rfl⟩)
      | fail)
    go_ret
    exact ⟨ret_bool (by simp <;> omega), hb1⟩
theorem walk (a0 : Int) (a1 : Int) (a2 : Nat) (a3 : Nat) (w : World) (w0 : (Lit.int .u16 a0).wf = true) (w1 : (Lit.int .u16 a1).wf = true) (w2 : (Lit.float .f64 a2).wf = true) (w3 : (Lit.float .f64 a3).wf = true) :
    Calls Try.prog 5 #[.int .u16 a0, .int .u16 a1, .float .f64 a2, .float .f64 a3] w fun e w' => e = .returned (.bool true) ∧ Below w.heap.size w w' := by
  have hA := bounds_u16 w0
  have hB := bounds_u16 w1
  obtain ⟨a, rfl⟩ := Int.eq_ofNat_of_zero_le hA.1
  obtain ⟨b, rfl⟩ := Int.eq_ofNat_of_zero_le hB.1
  have hC : a2 < 2 ^ 64 := by have := w2; simpa [Lit.wf] using this
  have hD : a3 < 2 ^ 64 := by have := w3; simpa [Lit.wf] using this
  cases hg : goodB (a2 % 2 ^ 63) && goodB (a3 % 2 ^ 63) with
  | false => exact core_bad a b a2 a3 w (by omega) (by omega) hC hD hg
  | true =>
    obtain ⟨h1, h2⟩ := Bool.and_eq_true_iff.1 hg
    exact core_good a b a2 a3 w (by omega) (by omega) hC hD h1 h2

set_option maxRecDepth 100000 in
theorem lifted (os : Os) (started : os.Started) (H : Type) (enc : TypeId × Value → H) :
    ReturnsInHanded {} Try.checked os 5 .any (Rows.ratioHalvesSpec.pre6 enc Try.prog Try.f5 Rows.ratioHalvesRow.domain false) (Rows.ratioHalvesSpec.post enc Try.prog Try.f5 false true false false) := by
  refine returnsInHanded_of_change (C := Try.checked) own started (by kernel_rfl) Try.func5
    (ChangeSpec.witness6 (enc := enc) (C := Try.checked) false ⟨#[], #[.int .u16 0, .int .u16 0, .float .f64 0, .float .f64 0], []⟩ 8 (by kernel_rfl) (by kernel_rfl) (by kernel_rfl) (by kernel_rfl)) ?_
  intro W base args ds gs before hval0 hW hcnd _
  have hval : ∀ (j : Nat) t v, Try.f5.params[j]? = some t → args[j]? = some v → Value.okWide Try.prog W .any base t v := hval0
  have hW' := hW
  obtain ⟨p, q, hA0, hV, rfl, hfz, hnd⟩ := hW
  have hA : DataW.TrodAll enc Try.prog W 0 (fun _ => true) true Try.f5.params.toList args.toList ds p := hA0
  rw [Try.params5] at hA hval
  obtain ⟨v0, vs0, d0, ds0, p0, q0, hargs, rfl, rfl, h0, r0⟩ := trodAll_cons hA
  obtain ⟨v1, vs1, d1, ds1, p1, q1, rfl, rfl, rfl, h1, r1⟩ := trodAll_cons r0
  obtain ⟨v2, vs2, d2, ds2, p2, q2, rfl, rfl, rfl, h2, r2⟩ := trodAll_cons r1
  obtain ⟨v3, vs3, d3, ds3, p3, q3, rfl, rfl, rfl, h3, r3⟩ := trodAll_cons r2
  obtain ⟨rfl, rfl, rfl⟩ := trodAll_nil r3
  obtain rfl : args = #[v0, v1, v2, v3] := by cases args; simp_all
  obtain ⟨rfl, rfl⟩ := trodVars_none hV
  obtain ⟨a0, rfl, rfl, rfl, w0⟩ := open_int Try.underlying29 (hval 0 29 v0 rfl rfl) h0
  obtain ⟨a1, rfl, rfl, rfl, w1⟩ := open_int Try.underlying29 (hval 1 29 v1 rfl rfl) h1
  obtain ⟨a2, rfl, rfl, rfl, w2⟩ := open_float Try.underlying24 (hval 2 24 v2 rfl rfl) h2
  obtain ⟨a3, rfl, rfl, rfl, w3⟩ := open_float Try.underlying24 (hval 3 24 v3 rfl rfl) h3
  clear hA0 hval0
  simp only [List.append_nil] at hW'
  refine (walk a0 a1 a2 a3 W w0 w1 w2 w3).mono fun e W' ⟨he, bel⟩ => ?_
  subst he
  exact ⟨_, rfl, _, _, _, [], _, [], hW', trodAll_mk1 (shut_bool Try.underlying4 _), (trodAll_cons_mk (shut_int Try.underlying29 w0) (trodAll_cons_mk (shut_int Try.underlying29 w1) (trodAll_cons_mk (shut_float Try.underlying24 w2) (trodAll_cons_mk (shut_float Try.underlying24 w3) trodAll_mk0)))), rfl, bel.frame _, fun h => by cases h⟩
theorem over : Rows.ratioHalvesRow.holds Try.pinned (OpenSpec.ofChange Rows.ratioHalvesSpec) :=
  OpenClaim.holds_of_wide 5 Try.f5 rfl rfl rfl rfl rfl rfl rfl ⟨rfl, rfl, rfl, rfl, rfl⟩ rfl rfl rfl rfl rfl (by kernel_rfl) Try.func5 (by kernel_rfl)
    (of_decide_eq_true (by kernel_rfl)) (by unfold Func.isWrapper; first | (rw [if_pos (by decide +kernel)]; kernel_rfl) | (rw [if_neg (by decide +kernel)]; exact ⟨rfl, rfl⟩))
    (fun os started H enc _ => lifted os started H enc)
theorem proved : Rows.RatioHalvesSaid := over
end Go.Proofs.Ytnnlkjbnonkjmaa.ratioHalves
