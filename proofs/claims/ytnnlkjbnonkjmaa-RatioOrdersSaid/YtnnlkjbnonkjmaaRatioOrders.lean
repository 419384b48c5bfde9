/- For every input RatioOrders returns true; its arguments read as before. No condition. -/
import Derived.Test.YtnnlkjbnonkjmaaRows
import Derived.WalkKit
import Derived.ProofKit
import Derived.OpenShut
import Derived.ShutString
import Derived.ChangeOld
import Derived.Below
import Derived.Test.YtnnlkjbnonkjmaaOpen
import Derived.Test.YtnnlkjbnonkjmaaFloAwake
namespace Go.Proofs.Ytnnlkjbnonkjmaa.ratioOrders
open Go.Proofs.Ytnnlkjbnonkjmaa.flo Go.Proofs.Ytnnlkjbnonkjmaa.words
open Go.ChangeShapes Go.WideShapes Go.ChangeAt Go.RowKit
open Go.ChangeMaps (open_string shut_string)
set_option linter.unusedVariables false
theorem own : ownKnob Try.prog.godebug = none := by kernel_rfl
theorem laidOut : laidOutB Try.prog = true := by kernel_rfl
theorem infoF : (Try.prog.info? 24).map (fun i => (i.zero, i.size, i.bytes)) = some (some (.float .f64 0), 1, 8) := by kernel_rfl
theorem le_trans3 (x y z : Option Int) : cmpK x y ≤ 0 → cmpK y z ≤ 0 → ¬ 0 < cmpK x z := by
  intro h1 h2
  have := (cmp_le x z).2 (ahead_trans ((cmp_le x y).1 h1) ((cmp_le y z).1 h2))
  omega
set_option maxRecDepth 100000 in
set_option maxHeartbeats 4000000 in
theorem core (A : Option Addr) (n cap : Nat) (xs : List Nat) (w : World) (hr : Reads w w.heap.size 1 A n (flts xs)) (hn : n ≤ 9223372036854775807) (hcap : n ≤ cap) :
    Calls Try.prog 3 #[.slice A n cap] w fun e w' => e = .returned (.bool true) ∧ Below w.heap.size w w' := by
  obtain ⟨i0, hi0, hz0, hz1, hz2⟩ := info_parts infoF
  obtain ⟨m, hm, m1, m2, -⟩ := min_nat n 12
  have hm' : (if (12 : Int) < (n : Int) then (12 : Int) else (n : Int)) = (m : Int) := hm
  clear hm
  go_enter Try.func3, Try.ntmps3
  go_wp2_with fail
  refine (awake_any w).mono ?_
  rintro e w1 ⟨rfl, hb1⟩
  have hr1 := hr.lift hb1
  have hrm := ((hr1.take_ m1).alloc (Nat.le_refl _) (.cells #[] 24))
  have hlit := World.ownsRow_lit (base := w1.heap.size) (e := 24) (size := 1) w1 #[] 0 (Nat.le_refl _) (by unfold maxLen; omega) rfl
  have hone : ∀ u ∈ (flts xs).take m, u.oneCell' = true := fun u hu => flts_one u (List.mem_of_mem_take hu)
  clear hr hr1
  go_wp2_with (first
    | (at_builtin; refine wpList_append_any _ rfl (.tmp 12) (.tmp 17) _ rfl w1.heap.size 24 i0 _ 1 8 Try.underlying22 hi0 hz0 hz1 hz2 rfl (by omega) _ 0 [] rfl hlit w1.heap.size A m cap ((flts xs).take m) rfl hrm hone (by simp only [maxLen]; omega) (by omega) (by simp) ?_; intro v2 w2 hown hg2 _; rw [Nat.zero_add, List.nil_append] at hown; obtain ⟨A2, c2, rfl⟩ := own_shape hown)
    | fail)
  have hg3 : (w1.alloc (.cells #[] 24)).grownBy w2 (some w1.heap.size) := hg2
  have hb2 : Below w1.heap.size w1 w2 := (bone w1 (.cells #[] 24)).grown hg3 (by simp) (by simp)
  obtain ⟨ys, hys⟩ : ∃ ys, ys = xs.take m := ⟨_, rfl⟩
  have hry : Reads w2 w2.heap.size 1 A2 m (flts ys) := by
    have := Reads.of_own hown
    rw [hys]; unfold flts at this ⊢; rw [List.map_take]; simpa using this
  have hB := bto hb1 hb2
  clear hown hrm hlit hg2 hg3 hys hm' hone hb2 hb1
  go_wp2_with fail
  go_loop [21] (fun iv => ∃ i : Nat, i ≤ m ∧ iv = .int .i64 i) (fun iv => m - (intOf iv).toNat)
  case atStart => exact ⟨0, by omega, rfl⟩
  case round =>
    obtain ⟨i, hi, rfl⟩ := hrel
    by_cases hlt : i < m
    · obtain ⟨ad, a, rfl, _, _, hca⟩ := Reads.flt hry hlt
      go_wp2_with fail
      go_loop [27] (fun iv => ∃ j : Nat, j ≤ m ∧ iv = .int .i64 j) (fun iv => m - (intOf iv).toNat)
      case atStart => exact ⟨0, by omega, rfl⟩
      case round =>
        obtain ⟨j, hj, rfl⟩ := hrel
        by_cases hlt2 : j < m
        · obtain ⟨_, b, hA, _, _, hcb⟩ := Reads.flt hry hlt2
          obtain rfl := Option.some.inj hA
          have h1 := fun w => ahead_any a b w
          have h2 := fun w => ahead_any b a w
          have h3 := fun w => cmp_any a b w
          obtain ⟨wa, hwa⟩ : ∃ q, q = cmpK (key a) (key b) := ⟨_, rfl⟩
          have hwb := hwa.trans (cmp_ahead (key a) (key b))
          rw [← hwa] at h3
          have HWA := Lib.hid hwa
          clear hA hwa
          cases hab : aheadK (key a) (key b) with
          | true =>
            have hba := ahead_asym hab
            rw [hab] at h1 hwb
            rw [hba] at h2 hwb
            simp only [Bool.false_eq_true, if_false, if_true] at hwb
            clear hab hba
            subst hwb
            go_wp2_with (first
              | (go_at_call 10; (with_reducible refine (h1 _).mono ?_); rintro e w' ⟨rfl, rfl⟩)
              | (go_at_call 10; (with_reducible refine (h2 _).mono ?_); rintro e w' ⟨rfl, rfl⟩)
              | (go_at_call 11; (with_reducible refine (h3 _).mono ?_); rintro e w' ⟨rfl, rfl⟩)
              | fail)
            go_loop [44] (fun iv => ∃ k : Nat, k ≤ m ∧ iv = .int .i64 k) (fun iv => m - (intOf iv).toNat)
            case atStart => exact ⟨0, by omega, rfl⟩
            case round =>
              obtain ⟨k, hk, rfl⟩ := hrel
              by_cases hlt3 : k < m
              · obtain ⟨_, c, hA, _, _, hcc⟩ := Reads.flt hry hlt3
                obtain rfl := Option.some.inj hA
                have h4 := fun w => cmp_any b c w
                have h5 := fun w => cmp_any a c w
                have htr := le_trans3 (key a) (key b) (key c)
                rw [← HWA.out] at htr
                obtain ⟨s1, hs1⟩ : ∃ s1, cmpK (key b) (key c) = s1 := ⟨_, rfl⟩
                obtain ⟨s2, hs2⟩ : ∃ s2, cmpK (key a) (key c) = s2 := ⟨_, rfl⟩
                rw [hs1] at h4 htr
                rw [hs2] at h5 htr
                have HTR := Lib.hid htr
                clear hA hs1 hs2 htr
                by_cases q1 : s1 ≤ 0
                · have q2 : s2 ≤ 0 ∨ 0 < s2 := by omega
                  rcases q2 with q2 | q2
                  · go_wp2_with (first
                      | (go_at_call 11; (with_reducible refine (h3 _).mono ?_); rintro e w' ⟨rfl, rfl⟩)
                      | (go_at_call 11; (with_reducible refine (h4 _).mono ?_); rintro e w' ⟨rfl, rfl⟩)
                      | (go_at_call 11; (with_reducible refine (h5 _).mono ?_); rintro e w' ⟨rfl, rfl⟩))
                    go_round
                    case rel => exact ⟨k + 1, by omega, by go_num⟩
                    case measure => simp [intOf]; omega
                  · first
                      | exact absurd q2 (HTR.out (by omega) q1)
                      | (go_wp2_with (first | (go_at_call 11; (with_reducible refine (h3 _).mono ?_); rintro e w' ⟨rfl, rfl⟩) | (go_at_call 11; (with_reducible refine (h4 _).mono ?_); rintro e w' ⟨rfl, rfl⟩) | (go_at_call 11; (with_reducible refine (h5 _).mono ?_); rintro e w' ⟨rfl, rfl⟩))
                         go_round
                         case rel => exact ⟨k + 1, by omega, by go_num⟩
                         case measure => (simp [intOf]; omega))
                · go_wp2_with (first
                    | (go_at_call 11; (with_reducible refine (h3 _).mono ?_); rintro e w' ⟨rfl, rfl⟩)
                    | (go_at_call 11; (with_reducible refine (h4 _).mono ?_); rintro e w' ⟨rfl, rfl⟩)
                    | (go_at_call 11; (with_reducible refine (h5 _).mono ?_); rintro e w' ⟨rfl, rfl⟩))
                  go_round
                  case rel => exact ⟨k + 1, by omega, by go_num⟩
                  case measure => simp [intOf]; omega
              · go_wp2
                go_round
                case rel => exact ⟨j + 1, by omega, by go_num⟩
                case measure => simp [intOf]; omega
          | false =>
            cases hba : aheadK (key b) (key a) with
            | true =>
              rw [hab] at h1 hwb
              rw [hba] at h2 hwb
              simp only [if_true] at hwb
              clear hab hba
              subst hwb
              go_wp2_with (first
                | (go_at_call 10; (with_reducible refine (h1 _).mono ?_); rintro e w' ⟨rfl, rfl⟩)
                | (go_at_call 10; (with_reducible refine (h2 _).mono ?_); rintro e w' ⟨rfl, rfl⟩)
                | (go_at_call 11; (with_reducible refine (h3 _).mono ?_); rintro e w' ⟨rfl, rfl⟩)
                | fail)
              go_loop [44] (fun iv => ∃ k : Nat, k ≤ m ∧ iv = .int .i64 k) (fun iv => m - (intOf iv).toNat)
              case atStart => exact ⟨0, by omega, rfl⟩
              case round =>
                obtain ⟨k, hk, rfl⟩ := hrel
                by_cases hlt3 : k < m
                · obtain ⟨_, c, hA, _, _, hcc⟩ := Reads.flt hry hlt3
                  obtain rfl := Option.some.inj hA
                  have h4 := fun w => cmp_any b c w
                  have h5 := fun w => cmp_any a c w
                  have htr := le_trans3 (key a) (key b) (key c)
                  rw [← HWA.out] at htr
                  obtain ⟨s1, hs1⟩ : ∃ s1, cmpK (key b) (key c) = s1 := ⟨_, rfl⟩
                  obtain ⟨s2, hs2⟩ : ∃ s2, cmpK (key a) (key c) = s2 := ⟨_, rfl⟩
                  rw [hs1] at h4 htr
                  rw [hs2] at h5 htr
                  have HTR := Lib.hid htr
                  clear hA hs1 hs2 htr
                  by_cases q1 : s1 ≤ 0
                  · have q2 : s2 ≤ 0 ∨ 0 < s2 := by omega
                    rcases q2 with q2 | q2
                    · go_wp2_with (first
                        | (go_at_call 11; (with_reducible refine (h3 _).mono ?_); rintro e w' ⟨rfl, rfl⟩)
                        | (go_at_call 11; (with_reducible refine (h4 _).mono ?_); rintro e w' ⟨rfl, rfl⟩)
                        | (go_at_call 11; (with_reducible refine (h5 _).mono ?_); rintro e w' ⟨rfl, rfl⟩))
                      go_round
                      case rel => exact ⟨k + 1, by omega, by go_num⟩
                      case measure => simp [intOf]; omega
                    · first
                        | exact absurd q2 (HTR.out (by omega) q1)
                        | (go_wp2_with (first | (go_at_call 11; (with_reducible refine (h3 _).mono ?_); rintro e w' ⟨rfl, rfl⟩) | (go_at_call 11; (with_reducible refine (h4 _).mono ?_); rintro e w' ⟨rfl, rfl⟩) | (go_at_call 11; (with_reducible refine (h5 _).mono ?_); rintro e w' ⟨rfl, rfl⟩))
                           go_round
                           case rel => exact ⟨k + 1, by omega, by go_num⟩
                           case measure => (simp [intOf]; omega))
                  · go_wp2_with (first
                      | (go_at_call 11; (with_reducible refine (h3 _).mono ?_); rintro e w' ⟨rfl, rfl⟩)
                      | (go_at_call 11; (with_reducible refine (h4 _).mono ?_); rintro e w' ⟨rfl, rfl⟩)
                      | (go_at_call 11; (with_reducible refine (h5 _).mono ?_); rintro e w' ⟨rfl, rfl⟩))
                    go_round
                    case rel => exact ⟨k + 1, by omega, by go_num⟩
                    case measure => simp [intOf]; omega
                · go_wp2
                  go_round
                  case rel => exact ⟨j + 1, by omega, by go_num⟩
                  case measure => simp [intOf]; omega
            | false =>
              rw [hab] at h1 hwb
              rw [hba] at h2 hwb
              simp only [Bool.false_eq_true, if_false] at hwb
              clear hab hba
              subst hwb
              go_wp2_with (first
                | (go_at_call 10; (with_reducible refine (h1 _).mono ?_); rintro e w' ⟨rfl, rfl⟩)
                | (go_at_call 10; (with_reducible refine (h2 _).mono ?_); rintro e w' ⟨rfl, rfl⟩)
                | (go_at_call 11; (with_reducible refine (h3 _).mono ?_); rintro e w' ⟨rfl, rfl⟩)
                | fail)
              go_loop [44] (fun iv => ∃ k : Nat, k ≤ m ∧ iv = .int .i64 k) (fun iv => m - (intOf iv).toNat)
              case atStart => exact ⟨0, by omega, rfl⟩
              case round =>
                obtain ⟨k, hk, rfl⟩ := hrel
                by_cases hlt3 : k < m
                · obtain ⟨_, c, hA, _, _, hcc⟩ := Reads.flt hry hlt3
                  obtain rfl := Option.some.inj hA
                  have h4 := fun w => cmp_any b c w
                  have h5 := fun w => cmp_any a c w
                  have htr := le_trans3 (key a) (key b) (key c)
                  rw [← HWA.out] at htr
                  obtain ⟨s1, hs1⟩ : ∃ s1, cmpK (key b) (key c) = s1 := ⟨_, rfl⟩
                  obtain ⟨s2, hs2⟩ : ∃ s2, cmpK (key a) (key c) = s2 := ⟨_, rfl⟩
                  rw [hs1] at h4 htr
                  rw [hs2] at h5 htr
                  have HTR := Lib.hid htr
                  clear hA hs1 hs2 htr
                  by_cases q1 : s1 ≤ 0
                  · have q2 : s2 ≤ 0 ∨ 0 < s2 := by omega
                    rcases q2 with q2 | q2
                    · go_wp2_with (first
                        | (go_at_call 11; (with_reducible refine (h3 _).mono ?_); rintro e w' ⟨rfl, rfl⟩)
                        | (go_at_call 11; (with_reducible refine (h4 _).mono ?_); rintro e w' ⟨rfl, rfl⟩)
                        | (go_at_call 11; (with_reducible refine (h5 _).mono ?_); rintro e w' ⟨rfl, rfl⟩))
                      go_round
                      case rel => exact ⟨k + 1, by omega, by go_num⟩
                      case measure => simp [intOf]; omega
                    · first
                        | exact absurd q2 (HTR.out (by omega) q1)
                        | (go_wp2_with (first | (go_at_call 11; (with_reducible refine (h3 _).mono ?_); rintro e w' ⟨rfl, rfl⟩) | (go_at_call 11; (with_reducible refine (h4 _).mono ?_); rintro e w' ⟨rfl, rfl⟩) | (go_at_call 11; (with_reducible refine (h5 _).mono ?_); rintro e w' ⟨rfl, rfl⟩))
                           go_round
                           case rel => exact ⟨k + 1, by omega, by go_num⟩
                           case measure => (simp [intOf]; omega))
                  · go_wp2_with (first
                      | (go_at_call 11; (with_reducible refine (h3 _).mono ?_); rintro e w' ⟨rfl, rfl⟩)
                      | (go_at_call 11; (with_reducible refine (h4 _).mono ?_); rintro e w' ⟨rfl, rfl⟩)
                      | (go_at_call 11; (with_reducible refine (h5 _).mono ?_); rintro e w' ⟨rfl, rfl⟩))
                    go_round
                    case rel => exact ⟨k + 1, by omega, by go_num⟩
                    case measure => simp [intOf]; omega
                · go_wp2
                  go_round
                  case rel => exact ⟨j + 1, by omega, by go_num⟩
                  case measure => simp [intOf]; omega
        · go_wp2
          go_round
          case rel => exact ⟨i + 1, by omega, by go_num⟩
          case measure => simp [intOf]; omega
    · have hf1 := fun w h => first_any A2 m c2 ys w (by omega) h
      have hf2 := fun w h => reffirst_any A2 m c2 ys w (by omega) h
      go_wp2_with fail
      refine (hf1 _ hry).mono ?_
      rintro e w' ⟨⟨p, hp, rfl⟩, rfl⟩
      have HP := Lib.hid hp
      clear hp
      go_wp2_with fail
      refine (hf2 _ hry).mono ?_
      rintro e w' ⟨⟨q, hq, rfl⟩, rfl⟩
      obtain rfl := bestOf_one HP.out hq
      clear hq HP
      go_wp2
      go_ret
      exact ⟨rfl, hB⟩
theorem walk (a0 : Option Addr) (len0 cap0 : Nat) (z0 : List Nat) (w : World) (w0 : z0.length = len0 ∧ Reads w w.heap.size 1 a0 len0 (z0.map (Value.float .f64)) ∧ (∀ x ∈ z0, (Lit.float .f64 x).wf = true) ∧ len0 ≤ cap0 ∧ len0 ≤ 9223372036854775807) :
    Calls Try.prog 3 #[.slice a0 len0 cap0] w fun e w' => e = .returned (.bool true) ∧ Below w.heap.size w w' := by
  obtain ⟨_, hr, _, hc, hl⟩ := w0
  exact core a0 len0 cap0 z0 w hr hl hc

set_option maxRecDepth 100000 in
theorem lifted (os : Os) (started : os.Started) (H : Type) (enc : TypeId × Value → H) :
    ReturnsInHanded {} Try.checked os 3 .any (Rows.ratioOrdersSpec.pre6 enc Try.prog Try.f3 Rows.ratioOrdersRow.domain false) (Rows.ratioOrdersSpec.post enc Try.prog Try.f3 false true false false) := by
  refine returnsInHanded_of_change (C := Try.checked) own started (by kernel_rfl) Try.func3
    (ChangeSpec.witness6 (enc := enc) (C := Try.checked) false ⟨#[], #[.slice none 0 0], []⟩ 8 (by kernel_rfl) (by kernel_rfl) (by kernel_rfl) (by kernel_rfl)) ?_
  intro W base args ds gs before hval0 hW hcnd _
  have hval : ∀ (j : Nat) t v, Try.f3.params[j]? = some t → args[j]? = some v → Value.okWide Try.prog W .any base t v := hval0
  have hW' := hW
  obtain ⟨p, q, hA0, hV, rfl, hfz, hnd⟩ := hW
  have hA : DataW.TrodAll enc Try.prog W 0 (fun _ => true) true Try.f3.params.toList args.toList ds p := hA0
  rw [Try.params3] at hA hval
  obtain ⟨v0, vs0, d0, ds0, p0, q0, hargs, rfl, rfl, h0, r0⟩ := trodAll_cons hA
  obtain ⟨rfl, rfl, rfl⟩ := trodAll_nil r0
  obtain rfl : args = #[v0] := by cases args; simp_all
  obtain ⟨rfl, rfl⟩ := trodVars_none hV
  obtain ⟨a0, len0, cap0, rfl⟩ := okWide_slice Try.underlying22 (hval 0 22 v0 rfl rfl)
  have k0 := h0
  have lt0 : ∀ x ∈ p0, x.block < W.heap.size := by obtain ⟨m, hm⟩ := k0; exact DataW.trod_lt m _ _ _ hm
  obtain ⟨z0, w0⟩ := open_ones (Value.float .f64) (fun x => (Lit.float .f64 x).wf = true) Try.underlying22 (by kernel_rfl) (dec_float Try.underlying24) h0
  clear hA0 hval0
  refine (walk a0 len0 cap0 z0 W w0).mono fun e W' ⟨he, bel⟩ => ?_
  subst he
  exact ⟨_, rfl, _, _, _, [], _, [], hW', trodAll_mk1 (shut_bool Try.underlying4 _), (trodAll_cons_mk (Below.trod laidOut (by kernel_rfl) (of_decide_eq_true (by kernel_rfl)) k0 bel lt0) trodAll_mk0), rfl, bel.frame _, fun h => by cases h⟩
theorem over : Rows.ratioOrdersRow.holds Try.pinned (OpenSpec.ofChange Rows.ratioOrdersSpec) :=
  OpenClaim.holds_of_wide 3 Try.f3 rfl rfl rfl rfl rfl rfl rfl ⟨rfl, rfl, rfl, rfl, rfl⟩ rfl rfl rfl rfl rfl (by kernel_rfl) Try.func3 (by kernel_rfl)
    (of_decide_eq_true (by kernel_rfl)) (by unfold Func.isWrapper; first | (rw [if_pos (by decide +kernel)]; kernel_rfl) | (rw [if_neg (by decide +kernel)]; exact ⟨rfl, rfl⟩))
    (fun os started H enc _ => lifted os started H enc)
theorem proved : Rows.RatioOrdersSaid := over
end Go.Proofs.Ytnnlkjbnonkjmaa.ratioOrders
