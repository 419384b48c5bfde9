/- For every input CostMoves returns true; its arguments read as before. No condition. -/
import Derived.Test.YtbgngpgebhnpbaaRows
import Derived.WalkKit
import Derived.ProofKit
import Derived.OpenShut
import Derived.Test.YtbgngpgebhnpbaaMod
import Derived.ShutString
namespace Go.Proofs.Ytbgngpgebhnpbaa.costMoves
open Go.Proofs.Ytbgngpgebhnpbaa.con
open Go.ChangeShapes Go.WideShapes Go.ChangeAt Go.RowKit
open Go.ChangeMaps (open_string shut_string)
set_option linter.unusedVariables false      -- a walk need not use every 'w<i>' (that an integer argument fits its kind)

theorem own : ownKnob Try.prog.godebug = none := by kernel_rfl

theorem plain (A B C K : Int) (h1 : 1 ≤ K) (a0 : 0 ≤ A) (aK : A ≤ K) (b0 : 0 ≤ B) (bK : B ≤ K) (c0 : 0 ≤ C) (cK : C ≤ K) :
    ∃ X Y P D E, min (A + B) K = X ∧ min (B + C) K = Y ∧ min (X + C) K = P ∧ min (A + Y) K = P ∧ 0 ≤ X ∧ X ≤ K ∧ 0 ≤ Y ∧ Y ≤ K ∧ subV A B K = D ∧ subE A B K = E ∧
      ((E = 6 ∧ A < B ∧ A < K) ∨ (E = 0 ∧ 0 ≤ D ∧ D ≤ K ∧ min (D + B) K = A ∧ ∃ G Z, max (A - D) 0 = G ∧ 0 ≤ G ∧ G ≤ K ∧ min (D + G) K = Z ∧ A ≤ Z)) := by
  refine ⟨_, _, _, _, _, rfl, rfl, rfl, by omega, by omega, by omega, by omega, by omega, rfl, rfl, ?_⟩
  unfold subE subV
  by_cases a : A = K
  · rw [if_pos a, if_pos a]; right; exact ⟨rfl, by omega, by omega, by omega, _, _, rfl, by omega, by omega, rfl, by omega⟩
  · by_cases b : B > A
    · left; rw [if_neg a, if_pos b]; exact ⟨rfl, b, by omega⟩
    · right
      rw [if_neg a, if_neg b, if_neg a, if_neg b]
      exact ⟨rfl, by omega, by omega, by omega, _, _, rfl, by omega, by omega, rfl, by omega⟩
set_option maxHeartbeats 1600000 in
theorem walk (a0 : Int) (a1 : Int) (a2 : Int) (a3 : Int) (w0 : (Lit.int .i64 a0).wf = true) (w1 : (Lit.int .i64 a1).wf = true) (w2 : (Lit.int .i64 a2).wf = true) (w3 : (Lit.int .i64 a3).wf = true) (w : World) :
    Calls Try.prog 5 #[.int .i64 a0, .int .i64 a1, .int .i64 a2, .int .i64 a3] w fun e w' => e = .returned (.bool true) ∧ Grown w w' := by
  obtain ⟨K, hK, k1, k2⟩ := top_of a3
  obtain ⟨A, hA, b1, b2⟩ := cost_of a0 K k1 k2
  obtain ⟨B, hB, b3, b4⟩ := cost_of a1 K k1 k2
  obtain ⟨C, hC, b5, b6⟩ := cost_of a2 K k1 k2
  obtain ⟨X, Y, P, D, E, e1, e2, e3, e4, x1, x2, x3, x4, e5, e6, hor⟩ := plain A B C K k1 b1 b2 b3 b4 b5 b6
  have iA : InC A K := inC k1 k2 b1 b2
  have iB : InC B K := inC k1 k2 b3 b4
  have iC : InC C K := inC k1 k2 b5 b6
  have iX : InC X K := inC k1 k2 x1 x2
  have iY : InC Y K := inC k1 k2 x3 x4
  have r1 := fun w => add_as A B K X w iA iB e1
  have r2 := fun w => add_as B C K Y w iB iC e2
  have r3 := fun w => add_as X C K P w iX iC e3
  have r4 := fun w => add_as A Y K P w iA iY e4
  have r5 := fun w => sub_as A B K D E w iA iB e5 e6
  clear e1 e2 e3 e4 e5 e6
  rcases hor with ⟨rfl, hb, hk⟩ | ⟨rfl, d1, d2, d3, G, Z, d4, d5, d6, d7, hz⟩
  · go_enter Try.func5, Try.ntmps5
    go_wp2_with (go_at_call 8; (with_reducible refine (awake_any _).mono ?_); rintro e w' ⟨rfl, rfl⟩)
    go_quiet (fail)
    go_wp2_with (first
      | (go_at_call 9; (with_reducible refine (r1 _).mono ?_); rintro e w' ⟨rfl, rfl⟩)
      | (go_at_call 9; (with_reducible refine (r2 _).mono ?_); rintro e w' ⟨rfl, rfl⟩)
      | (go_at_call 9; (with_reducible refine (r3 _).mono ?_); rintro e w' ⟨rfl, rfl⟩)
      | (go_at_call 9; (with_reducible refine (r4 _).mono ?_); rintro e w' ⟨rfl, rfl⟩)
      | (go_at_call 11; (with_reducible refine (r5 _).mono ?_); rintro e w' ⟨rfl, rfl⟩))
    go_ret
    exact ⟨rfl, grown_drewN (Grown.refl _) _⟩
  · have iD : InC D K := inC k1 k2 d1 d2
    have iG : InC G K := inC k1 k2 d5 d6
    have r6 := fun w => add_as D B K A w iD iB d3
    have r7 := fun w => gap_as D A K G w iD iA d4
    have r8 := fun w => add_as D G K Z w iD iG d7
    clear d3 d4 d7
    go_enter Try.func5, Try.ntmps5
    go_wp2_with (go_at_call 8; (with_reducible refine (awake_any _).mono ?_); rintro e w' ⟨rfl, rfl⟩)
    go_quiet (fail)
    go_wp2_with (first
      | (go_at_call 9; (with_reducible refine (r1 _).mono ?_); rintro e w' ⟨rfl, rfl⟩)
      | (go_at_call 9; (with_reducible refine (r2 _).mono ?_); rintro e w' ⟨rfl, rfl⟩)
      | (go_at_call 9; (with_reducible refine (r3 _).mono ?_); rintro e w' ⟨rfl, rfl⟩)
      | (go_at_call 9; (with_reducible refine (r4 _).mono ?_); rintro e w' ⟨rfl, rfl⟩)
      | (go_at_call 11; (with_reducible refine (r5 _).mono ?_); rintro e w' ⟨rfl, rfl⟩)
      | (go_at_call 9; (with_reducible refine (r6 _).mono ?_); rintro e w' ⟨rfl, rfl⟩)
      | (go_at_call 12; (with_reducible refine (r7 _).mono ?_); rintro e w' ⟨rfl, rfl⟩)
      | (go_at_call 9; (with_reducible refine (r8 _).mono ?_); rintro e w' ⟨rfl, rfl⟩))
    go_ret
    exact ⟨rfl, grown_drewN (Grown.refl _) _⟩

set_option maxRecDepth 100000 in
theorem lifted (os : Os) (started : os.Started) (H : Type) (enc : TypeId × Value → H) :
    ReturnsInHanded {} Try.checked os 5 .any (Rows.costMovesSpec.pre6 enc Try.prog Try.f5 Rows.costMovesRow.domain false) (Rows.costMovesSpec.post enc Try.prog Try.f5 false true false false) := by
  refine returnsInHanded_of_change (C := Try.checked) own started (by kernel_rfl) Try.func5
    (ChangeSpec.witness6 (enc := enc) (C := Try.checked) false ⟨#[], #[.int .i64 0, .int .i64 0, .int .i64 0, .int .i64 0], []⟩ 8 (by kernel_rfl) (by kernel_rfl) (by kernel_rfl) (by kernel_rfl)) ?_
  intro W base args ds gs before hval0 hW hcnd _
  have hval : ∀ (j : Nat) t v, Try.f5.params[j]? = some t → args[j]? = some v → Value.okWide Try.prog W .any base t v := hval0
  have hW' := hW
  obtain ⟨p, q, hA0, hV, rfl, hfz, hnd⟩ := hW
  have hA : DataW.TrodAll enc Try.prog W 0 (fun _ => true) true Try.f5.params.toList args.toList ds p := hA0
  rw [Try.params5] at hA hval
  obtain ⟨v0, vs0, d0, ds0, p0, q0, hargs, rfl, rfl, h0, r0⟩ := trodAll_cons hA
  obtain ⟨v1, vs1, d1, ds1, p1, q1, rfl, rfl, rfl, h1, r1⟩ := trodAll_cons r0
  obtain ⟨v2, vs2, d2, ds2, p2, q2, rfl, rfl, rfl, h2, r2⟩ := trodAll_cons r1
  obtain ⟨v3, vs3, d3, ds3, p3, q3, rfl, rfl, rfl, h3, r3⟩ := trodAll_cons r2
  obtain ⟨rfl, rfl, rfl⟩ := trodAll_nil r3
  obtain rfl : args = #[v0, v1, v2, v3] := by cases args; simp_all
  obtain ⟨rfl, rfl⟩ := trodVars_none hV
  obtain ⟨a0, rfl, rfl, rfl, w0⟩ := open_int Try.underlying2 (hval 0 2 v0 rfl rfl) h0
  obtain ⟨a1, rfl, rfl, rfl, w1⟩ := open_int Try.underlying2 (hval 1 2 v1 rfl rfl) h1
  obtain ⟨a2, rfl, rfl, rfl, w2⟩ := open_int Try.underlying2 (hval 2 2 v2 rfl rfl) h2
  obtain ⟨a3, rfl, rfl, rfl, w3⟩ := open_int Try.underlying2 (hval 3 2 v3 rfl rfl) h3
  clear hA0 hval0
  simp only [List.append_nil] at hW'
  refine (walk a0 a1 a2 a3 w0 w1 w2 w3 W).mono fun e W' ⟨he, hg⟩ => ?_
  subst he
  exact ⟨_, rfl, post_of_same (pa := []) (pv := []) hW' (fun _ _ _ => (trodAll_cons_mk (shut_bool Try.underlying4 _) trodAll_mk0)) (fun sp _ => (trodAll_cons_mk (shut_int Try.underlying2 w0) (trodAll_cons_mk (shut_int Try.underlying2 w1) (trodAll_cons_mk (shut_int Try.underlying2 w2) (trodAll_cons_mk (shut_int Try.underlying2 w3) trodAll_mk0))))) (fun _ _ => rfl) rfl
    (hg.frame _) hg.2.1 (ok_one (by kernel_rfl) rfl (okWide_bool_mk Try.underlying4 _))⟩

theorem over : Rows.costMovesRow.holds Try.pinned (OpenSpec.ofChange Rows.costMovesSpec) :=
  OpenClaim.holds_of_wide 5 Try.f5 rfl rfl rfl rfl rfl rfl rfl ⟨rfl, rfl, rfl, rfl, rfl⟩ rfl rfl rfl rfl rfl (by kernel_rfl) Try.func5 (by kernel_rfl)
    (of_decide_eq_true (by kernel_rfl)) (by unfold Func.isWrapper; first | (rw [if_pos (by decide +kernel)]; kernel_rfl) | (rw [if_neg (by decide +kernel)]; exact ⟨rfl, rfl⟩))
    (fun os started H enc _ => lifted os started H enc)

theorem proved : Rows.CostMovesSaid :=
  over
end Go.Proofs.Ytbgngpgebhnpbaa.costMoves
