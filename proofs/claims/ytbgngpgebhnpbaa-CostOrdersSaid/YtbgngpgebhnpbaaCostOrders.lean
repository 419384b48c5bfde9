/- For every input CostOrders returns true; its arguments read as before. No condition. -/
import Derived.Test.YtbgngpgebhnpbaaRows
import Derived.WalkKit
import Derived.ProofKit
import Derived.OpenShut
import Derived.Test.YtbgngpgebhnpbaaMod
import Derived.ShutString
namespace Go.Proofs.Ytbgngpgebhnpbaa.costOrders
open Go.Proofs.Ytbgngpgebhnpbaa.con
open Go.ChangeShapes Go.WideShapes Go.ChangeAt Go.RowKit
open Go.ChangeMaps (open_string shut_string)
set_option linter.unusedVariables false      -- a walk need not use every 'w<i>' (that an integer argument fits its kind)

theorem own : ownKnob Try.prog.godebug = none := by kernel_rfl

theorem plain (P Q C K : Int) (h1 : 1 ≤ K) (h2 : K ≤ 2147483648) (p0 : 0 ≤ P) (pq : P ≤ Q) (qK : Q ≤ K) (c0 : 0 ≤ C) (cK : C ≤ K) :
    ∃ X Y D E F G, min (P + C) K = X ∧ min (Q + C) K = Y ∧ min (C + P) K = X ∧ X ≤ Y ∧ C ≤ X ∧ 0 ≤ X ∧ X ≤ K ∧ subV P C K = D ∧ subE P C K = E ∧ subV Q C K = F ∧ subE Q C K = G ∧
      (E = 6 ∨ (E = 0 ∧ G = 0 ∧ D ≤ F ∧ InC D K)) := by
  refine ⟨_, _, _, _, _, _, rfl, rfl, by omega, by omega, by omega, by omega, by omega, rfl, rfl, rfl, rfl, ?_⟩
  unfold subE subV InC
  by_cases a : P = K
  · have b : Q = K := by omega
    rw [if_pos a, if_pos b, if_pos a, if_pos b]; right; simp; omega
  · by_cases b : C > P
    · left; rw [if_neg a, if_pos b]
    · right
      rw [if_neg a, if_neg b, if_neg a, if_neg b]
      by_cases d : Q = K
      · rw [if_pos d, if_pos d]; simp; omega
      · rw [if_neg d, if_neg d, if_neg (by omega), if_neg (by omega)]; simp; omega
set_option maxHeartbeats 1600000 in
theorem core (P Q C a0 a1 a2 a3 K : Int) (hK : wrap64 (1 + wrap64 ((IntKind.u64.wrap a3).tmod 2147483648)) = K) (k1 : 1 ≤ K) (k2 : K ≤ 2147483648)
    (A B : Int) (hA : wrap64 ((IntKind.u64.wrap a0).tmod (K + 1)) = A) (hB : wrap64 ((IntKind.u64.wrap a1).tmod (K + 1)) = B) (hC : wrap64 ((IntKind.u64.wrap a2).tmod (K + 1)) = C)
    (c0 : 0 ≤ C) (c1 : C ≤ K) (h : (A < B ∧ P = A ∧ Q = B) ∨ (B < A ∧ P = B ∧ Q = A) ∨ (A = B ∧ P = A ∧ Q = A)) (p0 : 0 ≤ P) (qK : Q ≤ K) (w : World) :
    Calls Try.prog 3 #[.int .i64 a0, .int .i64 a1, .int .i64 a2, .int .i64 a3] w fun e w' => e = .returned (.bool true) ∧ Grown w w' := by
  obtain ⟨X, Y, D, E, F, G, e1, e2, e3, x1, x2, x3, x4, e4, e5, e6, e7, hor⟩ := plain P Q C K k1 k2 p0 (by omega) qK c0 c1
  have iP : InC P K := inC k1 k2 p0 (by omega)
  have iQ : InC Q K := inC k1 k2 (by omega) qK
  have iC : InC C K := inC k1 k2 c0 c1
  have iX : InC X K := inC k1 k2 x3 x4
  have r1 := fun w => add_as P C K X w iP iC e1
  have r2 := fun w => add_as Q C K Y w iQ iC e2
  have r3 := fun w => add_as C P K X w iC iP e3
  have r4 := fun w => sub_as P C K D E w iP iC e4 e5
  have r5 := fun w => sub_as Q C K F G w iQ iC e6 e7
  clear e1 e2 e3 e4 e5 e6 e7
  rcases h with ⟨hab, rfl, rfl⟩ | ⟨hab, rfl, rfl⟩ | ⟨rfl, rfl, hab⟩
  all_goals
    rcases hor with rfl | ⟨rfl, rfl, g3, g4⟩
    all_goals
      go_enter Try.func3, Try.ntmps3
      go_wp2_with (go_at_call 8; (with_reducible refine (awake_any _).mono ?_); rintro e w' ⟨rfl, rfl⟩)
      go_quiet (fail)
      go_wp2_with (first
        | (go_at_call 9; (with_reducible refine (r1 _).mono ?_); rintro e w' ⟨rfl, rfl⟩)
        | (go_at_call 9; (with_reducible refine (r2 _).mono ?_); rintro e w' ⟨rfl, rfl⟩)
        | (go_at_call 9; (with_reducible refine (r3 _).mono ?_); rintro e w' ⟨rfl, rfl⟩)
        | (go_at_call 11; (with_reducible refine (r4 _).mono ?_); rintro e w' ⟨rfl, rfl⟩)
        | (go_at_call 11; (with_reducible refine (r5 _).mono ?_); rintro e w' ⟨rfl, rfl⟩)
        | (go_at_call 10; (with_reducible refine (in_yes _ _ _ (by assumption)).mono ?_); rintro e w' ⟨rfl, rfl⟩))
      go_ret
      exact ⟨rfl, grown_drewN (Grown.refl _) _⟩
theorem walk (a0 : Int) (a1 : Int) (a2 : Int) (a3 : Int) (w0 : (Lit.int .i64 a0).wf = true) (w1 : (Lit.int .i64 a1).wf = true) (w2 : (Lit.int .i64 a2).wf = true) (w3 : (Lit.int .i64 a3).wf = true) (w : World) :
    Calls Try.prog 3 #[.int .i64 a0, .int .i64 a1, .int .i64 a2, .int .i64 a3] w fun e w' => e = .returned (.bool true) ∧ Grown w w' := by
  obtain ⟨K, hK, k1, k2⟩ := top_of a3
  obtain ⟨A, hA, b1, b2⟩ := cost_of a0 K k1 k2
  obtain ⟨B, hB, b3, b4⟩ := cost_of a1 K k1 k2
  obtain ⟨C, hC, b5, b6⟩ := cost_of a2 K k1 k2
  rcases Int.lt_trichotomy A B with h | h | h
  · exact core A B C a0 a1 a2 a3 K hK k1 k2 A B hA hB hC b5 b6 (Or.inl ⟨h, rfl, rfl⟩) b1 b4 w
  · exact core A A C a0 a1 a2 a3 K hK k1 k2 A B hA hB hC b5 b6 (Or.inr (Or.inr ⟨h, rfl, rfl⟩)) b1 b2 w
  · exact core B A C a0 a1 a2 a3 K hK k1 k2 A B hA hB hC b5 b6 (Or.inr (Or.inl ⟨h, rfl, rfl⟩)) b3 b2 w

set_option maxRecDepth 100000 in
theorem lifted (os : Os) (started : os.Started) (H : Type) (enc : TypeId × Value → H) :
    ReturnsInHanded {} Try.checked os 3 .any (Rows.costOrdersSpec.pre6 enc Try.prog Try.f3 Rows.costOrdersRow.domain false) (Rows.costOrdersSpec.post enc Try.prog Try.f3 false true false false) := by
  refine returnsInHanded_of_change (C := Try.checked) own started (by kernel_rfl) Try.func3
    (ChangeSpec.witness6 (enc := enc) (C := Try.checked) false ⟨#[], #[.int .i64 0, .int .i64 0, .int .i64 0, .int .i64 0], []⟩ 8 (by kernel_rfl) (by kernel_rfl) (by kernel_rfl) (by kernel_rfl)) ?_
  intro W base args ds gs before hval0 hW hcnd _
  have hval : ∀ (j : Nat) t v, Try.f3.params[j]? = some t → args[j]? = some v → Value.okWide Try.prog W .any base t v := hval0
  have hW' := hW
  obtain ⟨p, q, hA0, hV, rfl, hfz, hnd⟩ := hW
  have hA : DataW.TrodAll enc Try.prog W 0 (fun _ => true) true Try.f3.params.toList args.toList ds p := hA0
  rw [Try.params3] at hA hval
  obtain ⟨v0, vs0, d0, ds0, p0, q0, hargs, rfl, rfl, h0, r0⟩ := trodAll_cons hA
  obtain ⟨v1, vs1, d1, ds1, p1, q1, rfl, rfl, rfl, h1, r1⟩ := trodAll_cons r0
  obtain ⟨v2, vs2, d2, ds2, p2, q2, rfl, rfl, rfl, h2, r2⟩ := trodAll_cons r1
  obtain ⟨v3, vs3, d3, ds3, p3, q3, rfl, rfl, rfl, h3, r3⟩ := trodAll_cons r2
  obtain ⟨rfl, rfl, rfl⟩ := trodAll_nil r3
  obtain rfl : args = #[v0, v1, v2, v3] := by cases args; simp_all
  obtain ⟨rfl, rfl⟩ := trodVars_none hV
  obtain ⟨a0, rfl, rfl, rfl, w0⟩ := open_int Try.underlying2 (hval 0 2 v0 rfl rfl) h0
  obtain ⟨a1, rfl, rfl, rfl, w1⟩ := open_int Try.underlying2 (hval 1 2 v1 rfl rfl) h1
  obtain ⟨a2, rfl, rfl, rfl, w2⟩ := open_int Try.underlying2 (hval 2 2 v2 rfl rfl) h2
  obtain ⟨a3, rfl, rfl, rfl, w3⟩ := open_int Try.underlying2 (hval 3 2 v3 rfl rfl) h3
  clear hA0 hval0
  simp only [List.append_nil] at hW'
  refine (walk a0 a1 a2 a3 w0 w1 w2 w3 W).mono fun e W' ⟨he, hg⟩ => ?_
  subst he
  exact ⟨_, rfl, post_of_same (pa := []) (pv := []) hW' (fun _ _ _ => (trodAll_cons_mk (shut_bool Try.underlying4 _) trodAll_mk0)) (fun sp _ => (trodAll_cons_mk (shut_int Try.underlying2 w0) (trodAll_cons_mk (shut_int Try.underlying2 w1) (trodAll_cons_mk (shut_int Try.underlying2 w2) (trodAll_cons_mk (shut_int Try.underlying2 w3) trodAll_mk0))))) (fun _ _ => rfl) rfl
    (hg.frame _) hg.2.1 (ok_one (by kernel_rfl) rfl (okWide_bool_mk Try.underlying4 _))⟩

theorem over : Rows.costOrdersRow.holds Try.pinned (OpenSpec.ofChange Rows.costOrdersSpec) :=
  OpenClaim.holds_of_wide 3 Try.f3 rfl rfl rfl rfl rfl rfl rfl ⟨rfl, rfl, rfl, rfl, rfl⟩ rfl rfl rfl rfl rfl (by kernel_rfl) Try.func3 (by kernel_rfl)
    (of_decide_eq_true (by kernel_rfl)) (by unfold Func.isWrapper; first | (rw [if_pos (by decide +kernel)]; kernel_rfl) | (rw [if_neg (by decide +kernel)]; exact ⟨rfl, rfl⟩))
    (fun os started H enc _ => lifted os started H enc)

theorem proved : Rows.CostOrdersSaid :=
  over
end Go.Proofs.Ytbgngpgebhnpbaa.costOrders
