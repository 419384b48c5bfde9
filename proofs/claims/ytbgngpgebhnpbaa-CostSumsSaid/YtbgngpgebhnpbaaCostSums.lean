/- For every input CostSums returns true; its arguments read as before. No condition. -/
import Derived.Test.YtbgngpgebhnpbaaRows
import Derived.WalkKit
import Derived.ProofKit
import Derived.OpenShut
import Derived.Test.YtbgngpgebhnpbaaCon
import Derived.ShutString
namespace Go.Proofs.Ytbgngpgebhnpbaa.costSums
open Go.Proofs.Ytbgngpgebhnpbaa.con
open Go.ChangeShapes Go.WideShapes Go.ChangeAt Go.RowKit
open Go.ChangeMaps (open_string shut_string)
set_option linter.unusedVariables false      -- a walk need not use every 'w<i>' (that an integer argument fits its kind)

theorem own : ownKnob Try.prog.godebug = none := by kernel_rfl

theorem walk (a0 : Int) (a1 : Int) (a2 : Int) (w0 : (Lit.int .i64 a0).wf = true) (w1 : (Lit.int .i64 a1).wf = true) (w2 : (Lit.int .i64 a2).wf = true) (w : World) :
    Calls Try.prog 4 #[.int .i64 a0, .int .i64 a1, .int .i64 a2] w fun e w' => e = .returned (.bool true) ∧ Grown w w' := by
  by_cases h : InC a0 a2 ∧ InC a1 a2
  · obtain ⟨ha, hb⟩ := h
    have ba : inB a0 a2 = true := decide_eq_true ha
    have bb : inB a1 a2 = true := decide_eq_true hb
    have hs := fun w => sub_ok a0 a1 a2 w ha hb
    have hr := fun w => refsub_ok a0 a1 a2 w ha hb
    obtain ⟨h1, h2, h3, h4⟩ := id ha
    obtain ⟨_, _, h5, h6⟩ := id hb
    have hg := fun w => gap_ok a0 a1 a2 w ha hb
    by_cases c : a0 = a2
    · have e1 : subV a0 a1 a2 = a2 := if_pos c
      have e2 : subE a0 a1 a2 = 0 := if_pos c
      have e3 : okB a0 a1 a2 = true := decide_eq_true (Or.inl c)
      have e4 : max (a1 - a0) 0 = 0 := by omega
      have e5 : ¬ a0 < a1 := by omega
      simp only [e1, e2, if_pos c, e3] at hs hr
      simp only [e4] at hg
      clear e1 e2 e3 c
      go_enter Try.func4, Try.ntmps4
      go_wp2_with (first
        | (go_at_call 8; (with_reducible refine (awake_any _).mono ?_); rintro e w' ⟨rfl, rfl⟩)
        | (go_at_call 9; (with_reducible refine (add_ok _ _ _ _ (by assumption) (by assumption)).mono ?_); rintro e w' ⟨rfl, rfl⟩)
        | (go_at_call 11; (with_reducible refine (hs _).mono ?_); rintro e w' ⟨rfl, rfl⟩)
        | (go_at_call 12; (with_reducible refine (hg _).mono ?_); rintro e w' ⟨rfl, rfl⟩)
        | (go_at_call 13; (with_reducible refine (right_any 13 (Or.inl rfl) _ _).mono ?_); rintro e w' ⟨rfl, rfl⟩)
        | (go_at_call 14; (with_reducible refine (right_any 14 (Or.inr rfl) _ _).mono ?_); rintro e w' ⟨rfl, rfl⟩)
        | (go_at_call 10; (with_reducible refine (in_any 10 (Or.inl rfl) _ _ _).mono ?_); rintro e w' ⟨rfl, rfl⟩)
        | (go_at_call 15; (with_reducible refine (in_any 15 (Or.inr rfl) _ _ _).mono ?_); rintro e w' ⟨rfl, rfl⟩)
        | (go_at_call 16; (with_reducible refine (hr _).mono ?_); rintro e w' ⟨rfl, rfl⟩)
        | (go_at_call 17; (with_reducible refine (refadd_ok _ _ _ _ (by assumption) (by assumption)).mono ?_); rintro e w' ⟨rfl, rfl⟩))
      go_ret
      exact ⟨rfl, Grown.refl _⟩
    · by_cases d : a0 < a1
      · have e1 : subV a0 a1 a2 = 0 := by rw [subV, if_neg c, if_pos d]
        have e2 : subE a0 a1 a2 = 6 := by rw [subE, if_neg c, if_pos d]
        have e3 : okB a0 a1 a2 = false := decide_eq_false (by omega)
        have e4 : max (a1 - a0) 0 = a1 - a0 := by omega
        simp only [e1, e2, if_neg c, e3] at hs hr
        simp only [e4] at hg
        clear e1 e2 e3 c
        go_enter Try.func4, Try.ntmps4
        go_wp2_with (first
          | (go_at_call 8; (with_reducible refine (awake_any _).mono ?_); rintro e w' ⟨rfl, rfl⟩)
          | (go_at_call 9; (with_reducible refine (add_ok _ _ _ _ (by assumption) (by assumption)).mono ?_); rintro e w' ⟨rfl, rfl⟩)
          | (go_at_call 11; (with_reducible refine (hs _).mono ?_); rintro e w' ⟨rfl, rfl⟩)
          | (go_at_call 12; (with_reducible refine (hg _).mono ?_); rintro e w' ⟨rfl, rfl⟩)
          | (go_at_call 13; (with_reducible refine (right_any 13 (Or.inl rfl) _ _).mono ?_); rintro e w' ⟨rfl, rfl⟩)
          | (go_at_call 14; (with_reducible refine (right_any 14 (Or.inr rfl) _ _).mono ?_); rintro e w' ⟨rfl, rfl⟩)
          | (go_at_call 10; (with_reducible refine (in_any 10 (Or.inl rfl) _ _ _).mono ?_); rintro e w' ⟨rfl, rfl⟩)
          | (go_at_call 15; (with_reducible refine (in_any 15 (Or.inr rfl) _ _ _).mono ?_); rintro e w' ⟨rfl, rfl⟩)
          | (go_at_call 16; (with_reducible refine (hr _).mono ?_); rintro e w' ⟨rfl, rfl⟩)
          | (go_at_call 17; (with_reducible refine (refadd_ok _ _ _ _ (by assumption) (by assumption)).mono ?_); rintro e w' ⟨rfl, rfl⟩))
        go_ret
        exact ⟨rfl, Grown.refl _⟩
      · have e1 : subV a0 a1 a2 = a0 - a1 := by rw [subV, if_neg c, if_neg (by omega)]
        have e2 : subE a0 a1 a2 = 0 := by rw [subE, if_neg c, if_neg (by omega)]
        have e3 : okB a0 a1 a2 = true := decide_eq_true (by omega)
        have e4 : max (a1 - a0) 0 = 0 := by omega
        simp only [e1, e2, if_neg c, e3] at hs hr
        simp only [e4] at hg
        clear e1 e2 e3 c
        go_enter Try.func4, Try.ntmps4
        go_wp2_with (first
          | (go_at_call 8; (with_reducible refine (awake_any _).mono ?_); rintro e w' ⟨rfl, rfl⟩)
          | (go_at_call 9; (with_reducible refine (add_ok _ _ _ _ (by assumption) (by assumption)).mono ?_); rintro e w' ⟨rfl, rfl⟩)
          | (go_at_call 11; (with_reducible refine (hs _).mono ?_); rintro e w' ⟨rfl, rfl⟩)
          | (go_at_call 12; (with_reducible refine (hg _).mono ?_); rintro e w' ⟨rfl, rfl⟩)
          | (go_at_call 13; (with_reducible refine (right_any 13 (Or.inl rfl) _ _).mono ?_); rintro e w' ⟨rfl, rfl⟩)
          | (go_at_call 14; (with_reducible refine (right_any 14 (Or.inr rfl) _ _).mono ?_); rintro e w' ⟨rfl, rfl⟩)
          | (go_at_call 10; (with_reducible refine (in_any 10 (Or.inl rfl) _ _ _).mono ?_); rintro e w' ⟨rfl, rfl⟩)
          | (go_at_call 15; (with_reducible refine (in_any 15 (Or.inr rfl) _ _ _).mono ?_); rintro e w' ⟨rfl, rfl⟩)
          | (go_at_call 16; (with_reducible refine (hr _).mono ?_); rintro e w' ⟨rfl, rfl⟩)
          | (go_at_call 17; (with_reducible refine (refadd_ok _ _ _ _ (by assumption) (by assumption)).mono ?_); rintro e w' ⟨rfl, rfl⟩))
        go_ret
        exact ⟨rfl, Grown.refl _⟩
  · have hor : inB a0 a2 = false ∨ (inB a0 a2 = true ∧ inB a1 a2 = false) := by
      by_cases ha : InC a0 a2
      · exact Or.inr ⟨decide_eq_true ha, decide_eq_false fun hb => h ⟨ha, hb⟩⟩
      · exact Or.inl (decide_eq_false ha)
    have H := Lib.hid h; clear h
    rcases hor with ba | ⟨ba, bb⟩
    all_goals
      go_enter Try.func4, Try.ntmps4
      go_wp2_with (first
        | (go_at_call 8; (with_reducible refine (awake_any _).mono ?_); rintro e w' ⟨rfl, rfl⟩)
        | (go_at_call 9; (with_reducible refine (two_no 9 _ _ _ _ H.out (by simp)).mono ?_); rintro e w' ⟨rfl, rfl⟩)
        | (go_at_call 11; (with_reducible refine (two_no 11 _ _ _ _ H.out (by simp)).mono ?_); rintro e w' ⟨rfl, rfl⟩)
        | (go_at_call 12; (with_reducible refine (two_no 12 _ _ _ _ H.out (by simp)).mono ?_); rintro e w' ⟨rfl, rfl⟩)
        | (go_at_call 13; (with_reducible refine (right_any 13 (Or.inl rfl) _ _).mono ?_); rintro e w' ⟨rfl, rfl⟩)
        | (go_at_call 14; (with_reducible refine (right_any 14 (Or.inr rfl) _ _).mono ?_); rintro e w' ⟨rfl, rfl⟩)
        | (go_at_call 10; (with_reducible refine (in_any 10 (Or.inl rfl) _ _ _).mono ?_); rintro e w' ⟨rfl, rfl⟩)
        | (go_at_call 15; (with_reducible refine (in_any 15 (Or.inr rfl) _ _ _).mono ?_); rintro e w' ⟨rfl, rfl⟩))
      go_ret
      exact ⟨rfl, Grown.refl _⟩

set_option maxRecDepth 100000 in
theorem lifted (os : Os) (started : os.Started) (H : Type) (enc : TypeId × Value → H) :
    ReturnsInHanded {} Try.checked os 4 .any (Rows.costSumsSpec.pre6 enc Try.prog Try.f4 Rows.costSumsRow.domain false) (Rows.costSumsSpec.post enc Try.prog Try.f4 false true false false) := by
  refine returnsInHanded_of_change (C := Try.checked) own started (by kernel_rfl) Try.func4
    (ChangeSpec.witness6 (enc := enc) (C := Try.checked) false ⟨#[], #[.int .i64 0, .int .i64 0, .int .i64 0], []⟩ 8 (by kernel_rfl) (by kernel_rfl) (by kernel_rfl) (by kernel_rfl)) ?_
  intro W base args ds gs before hval0 hW hcnd _
  have hval : ∀ (j : Nat) t v, Try.f4.params[j]? = some t → args[j]? = some v → Value.okWide Try.prog W .any base t v := hval0
  have hW' := hW
  obtain ⟨p, q, hA0, hV, rfl, hfz, hnd⟩ := hW
  have hA : DataW.TrodAll enc Try.prog W 0 (fun _ => true) true Try.f4.params.toList args.toList ds p := hA0
  rw [Try.params4] at hA hval
  obtain ⟨v0, vs0, d0, ds0, p0, q0, hargs, rfl, rfl, h0, r0⟩ := trodAll_cons hA
  obtain ⟨v1, vs1, d1, ds1, p1, q1, rfl, rfl, rfl, h1, r1⟩ := trodAll_cons r0
  obtain ⟨v2, vs2, d2, ds2, p2, q2, rfl, rfl, rfl, h2, r2⟩ := trodAll_cons r1
  obtain ⟨rfl, rfl, rfl⟩ := trodAll_nil r2
  obtain rfl : args = #[v0, v1, v2] := by cases args; simp_all
  obtain ⟨rfl, rfl⟩ := trodVars_none hV
  obtain ⟨a0, rfl, rfl, rfl, w0⟩ := open_int Try.underlying2 (hval 0 2 v0 rfl rfl) h0
  obtain ⟨a1, rfl, rfl, rfl, w1⟩ := open_int Try.underlying2 (hval 1 2 v1 rfl rfl) h1
  obtain ⟨a2, rfl, rfl, rfl, w2⟩ := open_int Try.underlying2 (hval 2 2 v2 rfl rfl) h2
  clear hA0 hval0
  simp only [List.append_nil] at hW'
  refine (walk a0 a1 a2 w0 w1 w2 W).mono fun e W' ⟨he, hg⟩ => ?_
  subst he
  exact ⟨_, rfl, post_of_same (pa := []) (pv := []) hW' (fun _ _ _ => (trodAll_cons_mk (shut_bool Try.underlying4 _) trodAll_mk0)) (fun sp _ => (trodAll_cons_mk (shut_int Try.underlying2 w0) (trodAll_cons_mk (shut_int Try.underlying2 w1) (trodAll_cons_mk (shut_int Try.underlying2 w2) trodAll_mk0)))) (fun _ _ => rfl) rfl
    (hg.frame _) hg.2.1 (ok_one (by kernel_rfl) rfl (okWide_bool_mk Try.underlying4 _))⟩

theorem over : Rows.costSumsRow.holds Try.pinned (OpenSpec.ofChange Rows.costSumsSpec) :=
  OpenClaim.holds_of_wide 4 Try.f4 rfl rfl rfl rfl rfl rfl rfl ⟨rfl, rfl, rfl, rfl, rfl⟩ rfl rfl rfl rfl rfl (by kernel_rfl) Try.func4 (by kernel_rfl)
    (of_decide_eq_true (by kernel_rfl)) (by unfold Func.isWrapper; first | (rw [if_pos (by decide +kernel)]; kernel_rfl) | (rw [if_neg (by decide +kernel)]; exact ⟨rfl, rfl⟩))
    (fun os started H enc _ => lifted os started H enc)

theorem proved : Rows.CostSumsSaid :=
  over
end Go.Proofs.Ytbgngpgebhnpbaa.costSums
