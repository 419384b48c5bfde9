/- For every input QueueNil returns true. No condition. -/
import Derived.Test.YthjfboecdhlnfaaRows
import Derived.WalkKit
import Derived.ProofKit
import Derived.OpenShut
import Derived.ShutString
import Derived.ChangeOld
import Derived.Below
import Derived.Test.YthjfboecdhlnfaaOpen
import Derived.Test.YthjfboecdhlnfaaQuLaw
namespace Go.Proofs.Ythjfboecdhlnfaa.queueNil
open Go.Proofs.Ythjfboecdhlnfaa.que Go.Proofs.Ythjfboecdhlnfaa.words
open Go.ChangeShapes Go.WideShapes Go.ChangeAt Go.RowKit
open Go.ChangeMaps (open_string shut_string)
set_option linter.unusedVariables false
theorem own : ownKnob Try.prog.godebug = none := by kernel_rfl
theorem laidOut : laidOutB Try.prog = true := by kernel_rfl
set_option maxRecDepth 100000 in
set_option maxHeartbeats 4000000 in
theorem core (n x p : Int) (w : World) :
    Calls Try.prog 4 #[.int .i64 n, .int .i64 x, .int .i64 p] w fun e w' => e = .returned (.bool true) ∧ Below w.heap.size w w' := by
  obtain ⟨k, hk⟩ : ∃ k, (if (100 : Int) < n then (100 : Int) else n) = k := ⟨_, rfl⟩
  have hk1 : k ≤ 100 := by rw [← hk]; split <;> omega
  go_enter Try.func4, Try.ntmps4
  go_wp2_with fail
  refine (awake_any w).mono ?_
  rintro e w1 ⟨rfl, hb1⟩
  go_wp2_with fail
  refine (ql_new k w1 (by omega)).mono ?_
  rintro e w2 ⟨⟨g, rfl, hq⟩, hb2⟩
  have hB := bto hb1 hb2
  have hz := hb2.size
  clear hk
  by_cases hx : 0 ≤ x ∧ x < k
  · obtain ⟨hx0, hx1⟩ := hx
    obtain ⟨y, rfl⟩ : ∃ y : Nat, x = y := ⟨x.toNat, by omega⟩
    go_wp2_with fail
    refine (qb_push hq y p (by omega) (by simp) hz).mono ?_
    rintro e w3 ⟨rfl, hq3, hb3⟩
    have hl := ql_len hq3
    simp only [List.filter_nil, List.length_cons, List.length_nil] at hl
    have hB3 := hB.trans (hb3.mono hb1.size)
    clear hq hq3 hb3 hb1 hb2 hz hB
    go_wp2_with (first
      | (go_at_call 14; (with_reducible refine (clear_nil _).mono ?_); rintro e w' ⟨rfl, rfl⟩)
      | (go_at_call 13; (with_reducible refine (pop_nil _).mono ?_); rintro e w' ⟨rfl, rfl⟩)
      | (go_at_call 15; (with_reducible refine (top_nil _).mono ?_); rintro e w' ⟨rfl, rfl⟩)
      | (go_at_call 12; (with_reducible refine hl.mono ?_); rintro e w' ⟨rfl, rfl⟩; clear hl)
      | (go_at_call 12; (with_reducible refine (len_nil _).mono ?_); rintro e w' ⟨rfl, rfl⟩)
      | (go_at_call 10; (with_reducible refine (push_nil _ _ _).mono ?_); rintro e w' ⟨rfl, rfl⟩)
      | (go_at_call 11; (with_reducible refine (drop_nil _ _).mono ?_); rintro e w' ⟨rfl, rfl⟩)
      | (go_at_call 16; (with_reducible refine (has_nil _ _).mono ?_); rintro e w' ⟨rfl, rfl⟩)
      | fail)
    go_ret
    exact ⟨rfl, hB3⟩
  · have hx' : x < 0 ∨ (k.toNat : Int) ≤ x := by omega
    have hb := decide_eq_false hx
    have hpo : Calls Try.prog 10 #[.pointer (some ⟨g, 0, none⟩), .int .i64 x, .int .i64 p] w2 fun e w' => e = .returned (.int .i64 3) ∧ w2 = w' := by
      obtain ⟨H, a, b, c, d⟩ := hq
      exact push_out w2 g _ x p _ H a (by omega) hx'
    have hl := ql_len hq
    simp only [List.length_nil] at hl
    clear hq hb1 hb2 hz hx' hb
    by_cases h0 : 0 ≤ x
    · have h1 : k ≤ x := by omega
      clear hx
      go_wp2_with (first
        | (go_at_call 10; (with_reducible refine hpo.mono ?_); rintro e w' ⟨rfl, rfl⟩; clear hpo)
        | (go_at_call 14; (with_reducible refine (clear_nil _).mono ?_); rintro e w' ⟨rfl, rfl⟩)
        | (go_at_call 13; (with_reducible refine (pop_nil _).mono ?_); rintro e w' ⟨rfl, rfl⟩)
        | (go_at_call 15; (with_reducible refine (top_nil _).mono ?_); rintro e w' ⟨rfl, rfl⟩)
        | (go_at_call 12; (with_reducible refine hl.mono ?_); rintro e w' ⟨rfl, rfl⟩; clear hl)
        | (go_at_call 12; (with_reducible refine (len_nil _).mono ?_); rintro e w' ⟨rfl, rfl⟩)
        | (go_at_call 10; (with_reducible refine (push_nil _ _ _).mono ?_); rintro e w' ⟨rfl, rfl⟩)
        | (go_at_call 11; (with_reducible refine (drop_nil _ _).mono ?_); rintro e w' ⟨rfl, rfl⟩)
        | (go_at_call 16; (with_reducible refine (has_nil _ _).mono ?_); rintro e w' ⟨rfl, rfl⟩)
        | fail)
      go_ret
      exact ⟨ret_bool (by simp; omega), hB⟩
    · clear hx
      go_wp2_with (first
        | (go_at_call 10; (with_reducible refine hpo.mono ?_); rintro e w' ⟨rfl, rfl⟩; clear hpo)
        | (go_at_call 14; (with_reducible refine (clear_nil _).mono ?_); rintro e w' ⟨rfl, rfl⟩)
        | (go_at_call 13; (with_reducible refine (pop_nil _).mono ?_); rintro e w' ⟨rfl, rfl⟩)
        | (go_at_call 15; (with_reducible refine (top_nil _).mono ?_); rintro e w' ⟨rfl, rfl⟩)
        | (go_at_call 12; (with_reducible refine hl.mono ?_); rintro e w' ⟨rfl, rfl⟩; clear hl)
        | (go_at_call 12; (with_reducible refine (len_nil _).mono ?_); rintro e w' ⟨rfl, rfl⟩)
        | (go_at_call 10; (with_reducible refine (push_nil _ _ _).mono ?_); rintro e w' ⟨rfl, rfl⟩)
        | (go_at_call 11; (with_reducible refine (drop_nil _ _).mono ?_); rintro e w' ⟨rfl, rfl⟩)
        | (go_at_call 16; (with_reducible refine (has_nil _ _).mono ?_); rintro e w' ⟨rfl, rfl⟩)
        | fail)
      go_ret
      exact ⟨rfl, hB⟩
theorem walk (a0 : Int) (a1 : Int) (a2 : Int) (w : World) (w0 : (Lit.int .i64 a0).wf = true) (w1 : (Lit.int .i64 a1).wf = true) (w2 : (Lit.int .i64 a2).wf = true) :
    Calls Try.prog 4 #[.int .i64 a0, .int .i64 a1, .int .i64 a2] w fun e w' => e = .returned (.bool true) ∧ Below w.heap.size w w' := by
  exact core a0 a1 a2 w

set_option maxRecDepth 100000 in
theorem lifted (os : Os) (started : os.Started) (H : Type) (enc : TypeId × Value → H) :
    ReturnsInHanded {} Try.checked os 4 .any (Rows.queueNilSpec.pre6 enc Try.prog Try.f4 Rows.queueNilRow.domain false) (Rows.queueNilSpec.post enc Try.prog Try.f4 false true false false) := by
  refine returnsInHanded_of_change (C := Try.checked) own started (by kernel_rfl) Try.func4
    (ChangeSpec.witness6 (enc := enc) (C := Try.checked) false ⟨#[], #[.int .i64 0, .int .i64 0, .int .i64 0], []⟩ 8 (by kernel_rfl) (by kernel_rfl) (by kernel_rfl) (by kernel_rfl)) ?_
  intro W base args ds gs before hval0 hW hcnd _
  have hval : ∀ (j : Nat) t v, Try.f4.params[j]? = some t → args[j]? = some v → Value.okWide Try.prog W .any base t v := hval0
  have hW' := hW
  obtain ⟨p, q, hA0, hV, rfl, hfz, hnd⟩ := hW
  have hA : DataW.TrodAll enc Try.prog W 0 (fun _ => true) true Try.f4.params.toList args.toList ds p := hA0
  rw [Try.params4] at hA hval
  obtain ⟨v0, vs0, d0, ds0, p0, q0, hargs, rfl, rfl, h0, r0⟩ := trodAll_cons hA
  obtain ⟨v1, vs1, d1, ds1, p1, q1, rfl, rfl, rfl, h1, r1⟩ := trodAll_cons r0
  obtain ⟨v2, vs2, d2, ds2, p2, q2, rfl, rfl, rfl, h2, r2⟩ := trodAll_cons r1
  obtain ⟨rfl, rfl, rfl⟩ := trodAll_nil r2
  obtain rfl : args = #[v0, v1, v2] := by cases args; simp_all
  obtain ⟨rfl, rfl⟩ := trodVars_none hV
  obtain ⟨a0, rfl, rfl, rfl, w0⟩ := open_int Try.underlying3 (hval 0 3 v0 rfl rfl) h0
  obtain ⟨a1, rfl, rfl, rfl, w1⟩ := open_int Try.underlying3 (hval 1 3 v1 rfl rfl) h1
  obtain ⟨a2, rfl, rfl, rfl, w2⟩ := open_int Try.underlying2 (hval 2 2 v2 rfl rfl) h2
  clear hA0 hval0
  simp only [List.append_nil] at hW'
  refine (walk a0 a1 a2 W w0 w1 w2).mono fun e W' ⟨he, bel⟩ => ?_
  subst he
  exact ⟨_, rfl, _, _, _, [], _, [], hW', trodAll_mk1 (shut_bool Try.underlying4 _), (trodAll_cons_mk (shut_int Try.underlying3 w0) (trodAll_cons_mk (shut_int Try.underlying3 w1) (trodAll_cons_mk (shut_int Try.underlying2 w2) trodAll_mk0))), rfl, bel.frame _, fun h => by cases h⟩
theorem over : Rows.queueNilRow.holds Try.pinned (OpenSpec.ofChange Rows.queueNilSpec) :=
  OpenClaim.holds_of_wide 4 Try.f4 rfl rfl rfl rfl rfl rfl rfl ⟨rfl, rfl, rfl, rfl, rfl⟩ rfl rfl rfl rfl rfl (by kernel_rfl) Try.func4 (by kernel_rfl)
    (of_decide_eq_true (by kernel_rfl)) (by unfold Func.isWrapper; first | (rw [if_pos (by decide +kernel)]; kernel_rfl) | (rw [if_neg (by decide +kernel)]; exact ⟨rfl, rfl⟩))
    (fun os started H enc _ => lifted os started H enc)
theorem proved : Rows.QueueNilSaid := over
end Go.Proofs.Ythjfboecdhlnfaa.queueNil
