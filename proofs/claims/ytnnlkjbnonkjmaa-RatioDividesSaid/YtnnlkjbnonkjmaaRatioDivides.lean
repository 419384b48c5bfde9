/- For every input RatioDivides returns true. No condition. -/
import Derived.Test.YtnnlkjbnonkjmaaRows
import Derived.WalkKit
import Derived.ProofKit
import Derived.OpenShut
import Derived.ShutString
import Derived.ChangeOld
import Derived.Below
import Derived.Test.YtnnlkjbnonkjmaaOpen
import Derived.Test.YtnnlkjbnonkjmaaFloDiv
namespace Go.Proofs.Ytnnlkjbnonkjmaa.ratioDivides
open Go.Proofs.Ytnnlkjbnonkjmaa.flo Go.Proofs.Ytnnlkjbnonkjmaa.words
open Go.ChangeShapes Go.WideShapes Go.ChangeAt Go.RowKit
open Go.ChangeMaps (open_string shut_string)
set_option linter.unusedVariables false
theorem own : ownKnob Try.prog.godebug = none := by kernel_rfl
theorem laidOut : laidOutB Try.prog = true := by kernel_rfl
open Ieee
theorem div_nan {f b : Nat} {s : Bool} {m : Nat} {p : Int} {t : Bool} {g : Nat} (hf : double.read f = .number s m p) (hb : double.read b = .nan t g) : double.div f b = none := by
  unfold Format.div; rw [hf, hb]; rfl
theorem div_inf {f b : Nat} {s : Bool} {m : Nat} {p : Int} {t : Bool} (hf : double.read f = .number s m p) (hb : double.read b = .infinity t) : double.div f b = some (double.nearest (s ^^ t) 0 0) := by
  unfold Format.div; rw [hf, hb]; rfl
theorem div_00 {f b : Nat} {s : Bool} {p : Int} {t : Bool} {q : Int} (hf : double.read f = .number s 0 p) (hb : double.read b = .number t 0 q) : double.div f b = none := by
  unfold Format.div; rw [hf, hb]; simp [Datum.quotient]
theorem div_x0 {f b : Nat} {s : Bool} {m : Nat} {p : Int} {t : Bool} {q : Int} (hm : m ≠ 0) (hf : double.read f = .number s m p) (hb : double.read b = .number t 0 q) : double.div f b = some (double.write (.infinity (s ^^ t))) := by
  unfold Format.div; rw [hf, hb]; simp [Datum.quotient, hm]
theorem div_0x {f b : Nat} {s : Bool} {k : Nat} {p : Int} {t : Bool} {q : Int} (hk : k ≠ 0) (hf : double.read f = .number s 0 p) (hb : double.read b = .number t k q) : ∃ u v, double.div f b = some (double.nearest u 0 v) := by
  refine ⟨s ^^ t, p - q - ((double.fractionBits + 2 + k.log2 : Nat) : Int) - 1, ?_⟩
  unfold Format.div; rw [hf, hb]; simp [Datum.quotient, hk, Format.write]
theorem div_xx {f b : Nat} {s : Bool} {m k : Nat} {p : Int} {t : Bool} {q : Int} (hk : k ≠ 0) (hf : double.read f = .number s m p) (hb : double.read b = .number t k q) : ∃ u v x, double.div f b = some (double.nearest u x v) := by
  unfold Format.div; rw [hf, hb]; simp only [Datum.quotient]; rw [if_neg hk]; exact ⟨_, _, _, rfl⟩
theorem quo_some {f b r q : Nat} (h : quo f b r) (hd : double.div f b = some q) : r = q := by
  rcases h with h | ⟨h, _⟩
  · exact Option.some.inj (h.symm.trans hd)
  · rw [hd] at h; cases h
theorem quo_none {f b r : Nat} (h : quo f b r) (hd : double.div f b = none) : key r = none := by
  rcases h with h | ⟨_, h⟩
  · rw [hd] at h; cases h
  · exact h
theorem div_lt {f b q : Nat} (h : double.div f b = some q) : q < 2 ^ 64 := double.div_lt h
theorem inf_lit (s : Bool) : (double.read (double.write (.infinity s))).isInfinity = true ∧ decide (2 ^ 63 ≤ double.write (.infinity s)) = s ∧ double.write (.infinity s) < 2 ^ 64 := by
  cases s <;> decide +kernel
set_option maxHeartbeats 4000000 in
theorem core (n : Int) (b : Nat) (w : World) (hn : n.natAbs ≤ 2 ^ 63) (hb : b < 2 ^ 64) :
    Calls Try.prog 6 #[.int .i64 n, .float .f64 b] w fun e w' => e = .returned (.bool true) ∧ Below w.heap.size w w' := by
  obtain ⟨m, p, hf, hm⟩ := read_int n hn
  have hfd : floatOfInt .f64 n = floatOfInt .f64 n := rfl
  have hib := fun w => isinf_any b w hb
  have hnb : (FloatKind.f64.format.order b b != some .eq) = (key b).isNone := nan_key b
  have hzb := is_zero b
  cases kind b hb with
  | nan hk hr =>
    obtain ⟨s, g, hr⟩ := hr
    have hd := div_nan hf hr
    rw [hk] at hnb
    simp only [Option.isNone_none] at hnb
    go_enter Try.func6, Try.ntmps6
    go_wp2_with fail
    refine (awake_any w).mono ?_
    rintro e w1 ⟨rfl, hb1⟩
    go_wp2_with fail
    refine (ratio_any _ b _).mono ?_
    rintro e w2 ⟨⟨r, rfl, hq⟩, hb2⟩
    have hB := bto hb1 hb2
    clear hb1 hb2
    have hnr : (FloatKind.f64.format.order r r != some .eq) = (key r).isNone := nan_key r
    rw [quo_none hq hd] at hnr
    simp only [Option.isNone_none] at hnr
    clear hq hd hfd
    go_wp2_with (first
      | (go_at_call 15; (with_reducible refine (hib _).mono ?_); rintro e w' ⟨rfl, rfl⟩))
    go_ret
    exact ⟨rfl, hB⟩
  | inf s hk hr hs =>
    have hd := div_inf hf hr
    have ht := top_pos
    have hk0 : ¬ (if s then -top else top) = 0 := by cases s <;> simp <;> omega
    rw [hk] at hnb hzb
    rw [hr] at hib
    simp only [decide_eq_false hk0] at hzb
    simp only [Option.isNone_some] at hnb
    simp only [Datum.isInfinity] at hib
    by_cases h0 : n = 0
    · subst h0
      go_enter Try.func6, Try.ntmps6
      go_wp2_with fail
      refine (awake_any w).mono ?_
      rintro e w1 ⟨rfl, hb1⟩
      go_wp2_with fail
      refine (ratio_any _ b _).mono ?_
      rintro e w2 ⟨⟨r, rfl, hq⟩, hb2⟩
      have hB := bto hb1 hb2
      clear hb1 hb2
      obtain rfl := quo_some hq hd
      have hzr := is_zero (double.nearest (decide ((0 : Int) < 0) ^^ s) 0 0)
      rw [near_zero] at hzr
      simp only [decide_true] at hzr
      generalize double.nearest (decide ((0 : Int) < 0) ^^ s) 0 0 = r at *
      clear hq hd hfd ht hk0 hs hk hr
      go_wp2_with (first
        | (go_at_call 15; (with_reducible refine (hib _).mono ?_); rintro e w' ⟨rfl, rfl⟩))
      go_ret
      exact ⟨rfl, hB⟩
    · go_enter Try.func6, Try.ntmps6
      go_wp2_with fail
      refine (awake_any w).mono ?_
      rintro e w1 ⟨rfl, hb1⟩
      go_wp2_with fail
      refine (ratio_any _ b _).mono ?_
      rintro e w2 ⟨⟨r, rfl, hq⟩, hb2⟩
      have hB := bto hb1 hb2
      clear hb1 hb2
      obtain rfl := quo_some hq hd
      have hzr := is_zero (double.nearest (decide (n < 0) ^^ s) 0 0)
      rw [near_zero] at hzr
      simp only [decide_true] at hzr
      generalize double.nearest (decide (n < 0) ^^ s) 0 0 = r at *
      clear hq hd hfd ht hk0 hs hk hr
      go_wp2_with (first
        | (go_at_call 15; (with_reducible refine (hib _).mono ?_); rintro e w' ⟨rfl, rfl⟩))
      go_ret
      exact ⟨rfl, hB⟩
  | zero s q hk hr hs =>
    rw [hk] at hnb hzb
    simp only [decide_true] at hzb
    simp only [Option.isNone_some] at hnb
    by_cases h0 : n = 0
    · obtain rfl := hm.2 h0
      have hd := div_00 hf hr
      subst h0
      go_enter Try.func6, Try.ntmps6
      go_wp2_with fail
      refine (awake_any w).mono ?_
      rintro e w1 ⟨rfl, hb1⟩
      go_wp2_with fail
      refine (ratio_any _ b _).mono ?_
      rintro e w2 ⟨⟨r, rfl, hq⟩, hb2⟩
      have hB := bto hb1 hb2
      clear hb1 hb2
      have hnr : (FloatKind.f64.format.order r r != some .eq) = (key r).isNone := nan_key r
      rw [quo_none hq hd] at hnr
      simp only [Option.isNone_none] at hnr
      clear hq hd hfd
      go_wp2_with (first
        | (go_at_call 15; (with_reducible refine (hib _).mono ?_); rintro e w' ⟨rfl, rfl⟩))
      go_ret
      exact ⟨rfl, hB⟩
    · have hd := div_x0 (fun e => h0 (hm.1 e)) hf hr
      have hl := inf_lit (decide (n < 0) ^^ s)
      obtain ⟨x, hx⟩ : ∃ x, double.write (.infinity (decide (n < 0) ^^ s)) = x := ⟨_, rfl⟩
      rw [hx] at hd hl
      have hir := fun w => isinf_any x w hl.2.2
      rw [hl.1] at hir
      have hsr := fun w => signbit_any x w hl.2.2
      rw [hl.2.1] at hsr
      have hsb := fun w => signbit_any b w hb
      have hbs : decide (2 ^ 63 ≤ b) = s := by cases s <;> simp at hs ⊢ <;> omega
      rw [hbs] at hsb
      clear hl hx hs hbs hk
      by_cases hneg : n < 0
      · rw [decide_eq_true hneg] at hsr hf
        cases s
        · go_enter Try.func6, Try.ntmps6
          go_wp2_with fail
          refine (awake_any w).mono ?_
          rintro e w1 ⟨rfl, hb1⟩
          go_wp2_with fail
          refine (ratio_any _ b _).mono ?_
          rintro e w2 ⟨⟨r, rfl, hq⟩, hb2⟩
          have hB := bto hb1 hb2
          clear hb1 hb2
          obtain rfl := quo_some hq hd
          clear hq hd hfd hf hr hib
          go_wp2_with (first
            | (go_at_call 15; (with_reducible refine (hir _).mono ?_); rintro e w' ⟨rfl, rfl⟩)
            | (go_at_call 17; (with_reducible refine (hsr _).mono ?_); rintro e w' ⟨rfl, rfl⟩)
            | (go_at_call 17; (with_reducible refine (hsb _).mono ?_); rintro e w' ⟨rfl, rfl⟩))
          go_ret
          exact ⟨ret_bool (by first | rfl | (simp; omega) | omega), hB⟩
        · go_enter Try.func6, Try.ntmps6
          go_wp2_with fail
          refine (awake_any w).mono ?_
          rintro e w1 ⟨rfl, hb1⟩
          go_wp2_with fail
          refine (ratio_any _ b _).mono ?_
          rintro e w2 ⟨⟨r, rfl, hq⟩, hb2⟩
          have hB := bto hb1 hb2
          clear hb1 hb2
          obtain rfl := quo_some hq hd
          clear hq hd hfd hf hr hib
          go_wp2_with (first
            | (go_at_call 15; (with_reducible refine (hir _).mono ?_); rintro e w' ⟨rfl, rfl⟩)
            | (go_at_call 17; (with_reducible refine (hsr _).mono ?_); rintro e w' ⟨rfl, rfl⟩)
            | (go_at_call 17; (with_reducible refine (hsb _).mono ?_); rintro e w' ⟨rfl, rfl⟩))
          go_ret
          exact ⟨ret_bool (by first | rfl | (simp; omega) | omega), hB⟩
      · rw [decide_eq_false hneg] at hsr hf
        cases s
        · go_enter Try.func6, Try.ntmps6
          go_wp2_with fail
          refine (awake_any w).mono ?_
          rintro e w1 ⟨rfl, hb1⟩
          go_wp2_with fail
          refine (ratio_any _ b _).mono ?_
          rintro e w2 ⟨⟨r, rfl, hq⟩, hb2⟩
          have hB := bto hb1 hb2
          clear hb1 hb2
          obtain rfl := quo_some hq hd
          clear hq hd hfd hf hr hib
          go_wp2_with (first
            | (go_at_call 15; (with_reducible refine (hir _).mono ?_); rintro e w' ⟨rfl, rfl⟩)
            | (go_at_call 17; (with_reducible refine (hsr _).mono ?_); rintro e w' ⟨rfl, rfl⟩)
            | (go_at_call 17; (with_reducible refine (hsb _).mono ?_); rintro e w' ⟨rfl, rfl⟩))
          go_ret
          exact ⟨ret_bool (by first | rfl | (simp; omega) | omega), hB⟩
        · go_enter Try.func6, Try.ntmps6
          go_wp2_with fail
          refine (awake_any w).mono ?_
          rintro e w1 ⟨rfl, hb1⟩
          go_wp2_with fail
          refine (ratio_any _ b _).mono ?_
          rintro e w2 ⟨⟨r, rfl, hq⟩, hb2⟩
          have hB := bto hb1 hb2
          clear hb1 hb2
          obtain rfl := quo_some hq hd
          clear hq hd hfd hf hr hib
          go_wp2_with (first
            | (go_at_call 15; (with_reducible refine (hir _).mono ?_); rintro e w' ⟨rfl, rfl⟩)
            | (go_at_call 17; (with_reducible refine (hsr _).mono ?_); rintro e w' ⟨rfl, rfl⟩)
            | (go_at_call 17; (with_reducible refine (hsb _).mono ?_); rintro e w' ⟨rfl, rfl⟩))
          go_ret
          exact ⟨ret_bool (by first | rfl | (simp; omega) | omega), hB⟩
  | num s k q kk hk hk0 hk2 hm0 hr hs =>
    rw [hk] at hnb hzb
    rw [hr] at hib
    simp only [decide_eq_false hk0] at hzb
    simp only [Option.isNone_some] at hnb
    simp only [Datum.isInfinity] at hib
    by_cases h0 : n = 0
    · obtain rfl := hm.2 h0
      obtain ⟨u, v, hd⟩ := div_0x hm0 hf hr
      subst h0
      go_enter Try.func6, Try.ntmps6
      go_wp2_with fail
      refine (awake_any w).mono ?_
      rintro e w1 ⟨rfl, hb1⟩
      go_wp2_with fail
      refine (ratio_any _ b _).mono ?_
      rintro e w2 ⟨⟨r, rfl, hq⟩, hb2⟩
      have hB := bto hb1 hb2
      clear hb1 hb2
      obtain rfl := quo_some hq hd
      have hzr := is_zero (double.nearest u 0 v)
      rw [near_zero] at hzr
      simp only [decide_true] at hzr
      generalize double.nearest u 0 v = r at *
      clear hq hd hfd hk0 hk2 hm0 hs hk hr
      go_wp2_with (first
        | (go_at_call 15; (with_reducible refine (hib _).mono ?_); rintro e w' ⟨rfl, rfl⟩))
      go_ret
      exact ⟨rfl, hB⟩
    · obtain ⟨u, v, x, hd⟩ := div_xx hm0 hf hr
      have hfb : floatBits .quo .f64 (floatOfInt .f64 n) b = some (double.nearest u x v) := hd
      obtain ⟨y, hy⟩ : ∃ y, double.nearest u x v = y := ⟨_, rfl⟩
      rw [hy] at hd hfb
      obtain ⟨f, hff⟩ : ∃ f, floatOfInt .f64 n = f := ⟨_, rfl⟩
      rw [hff] at hd hfb
      have hqq := fun w => run_float_arith (P := Try.prog) w .quo 24 .f64 f b y hfb
      have hsame := fun w => same_refl y w
      clear hfd hfb hk0 hk2 hm0 hs hk hf hm
      go_enter Try.func6, Try.ntmps6
      go_wp2_with fail
      refine (awake_any w).mono ?_
      rintro e w1 ⟨rfl, hb1⟩
      go_wp2_with fail
      refine (ratio_any _ b _).mono ?_
      rintro e w2 ⟨⟨r, rfl, hq⟩, hb2⟩
      have hB := bto hb1 hb2
      clear hb1 hb2
      rw [hff] at hq
      obtain rfl := quo_some hq hd
      clear hq hd hr
      go_wp2_with (first
        | (go_at_call 15; (with_reducible refine (hib _).mono ?_); rintro e w' ⟨rfl, rfl⟩)
        | (go_at_call 18; (with_reducible refine (hsame _).mono ?_); rintro e w' ⟨rfl, rfl⟩))
      go_ret
      exact ⟨rfl, hB⟩
theorem walk (a0 : Int) (a1 : Nat) (w : World) (w0 : (Lit.int .i64 a0).wf = true) (w1 : (Lit.float .f64 a1).wf = true) :
    Calls Try.prog 6 #[.int .i64 a0, .float .f64 a1] w fun e w' => e = .returned (.bool true) ∧ Below w.heap.size w w' := by
  exact core a0 a1 w (by have h := w0; simp [Lit.wf, IntKind.min, IntKind.max, IntKind.signed, IntKind.bits] at h; omega) (by have := w1; simpa [Lit.wf] using this)

set_option maxRecDepth 100000 in
theorem lifted (os : Os) (started : os.Started) (H : Type) (enc : TypeId × Value → H) :
    ReturnsInHanded {} Try.checked os 6 .any (Rows.ratioDividesSpec.pre6 enc Try.prog Try.f6 Rows.ratioDividesRow.domain false) (Rows.ratioDividesSpec.post enc Try.prog Try.f6 false true false false) := by
  refine returnsInHanded_of_change (C := Try.checked) own started (by kernel_rfl) Try.func6
    (ChangeSpec.witness6 (enc := enc) (C := Try.checked) false ⟨#[], #[.int .i64 0, .float .f64 0], []⟩ 8 (by kernel_rfl) (by kernel_rfl) (by kernel_rfl) (by kernel_rfl)) ?_
  intro W base args ds gs before hval0 hW hcnd _
  have hval : ∀ (j : Nat) t v, Try.f6.params[j]? = some t → args[j]? = some v → Value.okWide Try.prog W .any base t v := hval0
  have hW' := hW
  obtain ⟨p, q, hA0, hV, rfl, hfz, hnd⟩ := hW
  have hA : DataW.TrodAll enc Try.prog W 0 (fun _ => true) true Try.f6.params.toList args.toList ds p := hA0
  rw [Try.params6] at hA hval
  obtain ⟨v0, vs0, d0, ds0, p0, q0, hargs, rfl, rfl, h0, r0⟩ := trodAll_cons hA
  obtain ⟨v1, vs1, d1, ds1, p1, q1, rfl, rfl, rfl, h1, r1⟩ := trodAll_cons r0
  obtain ⟨rfl, rfl, rfl⟩ := trodAll_nil r1
  obtain rfl : args = #[v0, v1] := by cases args; simp_all
  obtain ⟨rfl, rfl⟩ := trodVars_none hV
  obtain ⟨a0, rfl, rfl, rfl, w0⟩ := open_int Try.underlying3 (hval 0 3 v0 rfl rfl) h0
  obtain ⟨a1, rfl, rfl, rfl, w1⟩ := open_float Try.underlying24 (hval 1 24 v1 rfl rfl) h1
  clear hA0 hval0
  simp only [List.append_nil] at hW'
  refine (walk a0 a1 W w0 w1).mono fun e W' ⟨he, bel⟩ => ?_
  subst he
  exact ⟨_, rfl, _, _, _, [], _, [], hW', trodAll_mk1 (shut_bool Try.underlying4 _), (trodAll_cons_mk (shut_int Try.underlying3 w0) (trodAll_cons_mk (shut_float Try.underlying24 w1) trodAll_mk0)), rfl, bel.frame _, fun h => by cases h⟩
theorem over : Rows.ratioDividesRow.holds Try.pinned (OpenSpec.ofChange Rows.ratioDividesSpec) :=
  OpenClaim.holds_of_wide 6 Try.f6 rfl rfl rfl rfl rfl rfl rfl ⟨rfl, rfl, rfl, rfl, rfl⟩ rfl rfl rfl rfl rfl (by kernel_rfl) Try.func6 (by kernel_rfl)
    (of_decide_eq_true (by kernel_rfl)) (by unfold Func.isWrapper; first | (rw [if_pos (by decide +kernel)]; kernel_rfl) | (rw [if_neg (by decide +kernel)]; exact ⟨rfl, rfl⟩))
    (fun os started H enc _ => lifted os started H enc)
theorem proved : Rows.RatioDividesSaid := over
end Go.Proofs.Ytnnlkjbnonkjmaa.ratioDivides
