/- For every input CostGaps returns true; its arguments read as before. No condition. -/
import Derived.Test.YtbgngpgebhnpbaaRows
import Derived.WalkKit
import Derived.ProofKit
import Derived.OpenShut
import Derived.Below
import Derived.Test.YtbgngpgebhnpbaaConL
import Derived.ShutString
namespace Go.Proofs.Ytbgngpgebhnpbaa.costGaps
open Go.Proofs.Ytbgngpgebhnpbaa.con Go.Proofs.Ytbgngpgebhnpbaa.words
open Go.ChangeShapes Go.WideShapes Go.ChangeAt Go.RowKit
open Go.ChangeMaps (open_string shut_string)
set_option linter.unusedVariables false      -- a walk need not use every 'w<i>' (that an integer argument fits its kind)

theorem own : ownKnob Try.prog.godebug = none := by kernel_rfl

theorem reads_three (A B C : Int) (b : Nat) (W : World) (hb : b < W.heap.size) (h : W.heap[b]? = some (.cells #[.int .i64 A, .int .i64 B, .int .i64 C] 2 (0, 0))) :
    Reads W W.heap.size 1 (some ⟨b, 0, none⟩) 3 (nums [A, B, C]) := by
  refine ⟨rfl, fun _ => ⟨_, rfl, hb, fun j u hu => ?_⟩⟩
  have hk := Blk.cell (w := W) (g := b) (t := 2) h j
  have e : (Addr.add ⟨b, 0, none⟩ j) = ⟨b, j, none⟩ := by unfold Addr.add; split <;> simp_all
  rw [e, hk]
  unfold nums at hu
  rw [← hu]
  match j with
  | 0 => rfl
  | 1 => rfl
  | 2 => rfl
  | j + 3 => rfl
theorem least_three (A B C K P : Int) (b : Nat) (W : World) (iA : InC A K) (iB : InC B K) (iC : InC C K) (hP : leastOf K [A, B, C] = P)
    (h : W.heap[b]? = some (.cells #[.int .i64 A, .int .i64 B, .int .i64 C] 2 (0, 0))) :
    Calls Try.prog 20 #[.slice (some ⟨b, 0, none⟩) 3 3, .int .i64 K] W fun e w' => e = .returned (.tuple #[.int .i64 P, .int .i64 0]) ∧ Below W.heap.size W w' := by
  subst hP
  refine least_ok _ 3 3 [A, B, C] K W (by unfold maxLen; omega) (reads_three A B C b W (Blk.lt h) h) ?_
  obtain ⟨k1, k2, _, _⟩ := id iA
  simp [allOk, allB, rightB, inB, iA, iB, iC, k1, k2]
theorem sum_three (A B C K T : Int) (b : Nat) (W : World) (iA : InC A K) (iB : InC B K) (iC : InC C K) (hT : sumOf K [A, B, C] = T)
    (h : W.heap[b]? = some (.cells #[.int .i64 A, .int .i64 B, .int .i64 C] 2 (0, 0))) :
    Calls Try.prog 19 #[.slice (some ⟨b, 0, none⟩) 3 3, .int .i64 K] W fun e w' => e = .returned (.tuple #[.int .i64 T, .int .i64 0]) ∧ Below W.heap.size W w' := by
  subst hT
  refine sum_ok _ 3 3 [A, B, C] K W (by unfold maxLen; omega) (reads_three A B C b W (Blk.lt h) h) ?_
  obtain ⟨k1, k2, _, _⟩ := id iA
  simp [allOk, allB, rightB, inB, iA, iB, iC, k1, k2]
theorem plain (A B C K : Int) (b1 : 0 ≤ A) (b2 : A ≤ K) (b3 : 0 ≤ B) (b4 : B ≤ K) (b5 : 0 ≤ C) (b6 : C ≤ K) :
    ∃ p2 P q2 Q M G Y Z T, (if B < A then B else A) = p2 ∧ (if C < p2 then C else p2) = P ∧ (if A < B then B else A) = q2 ∧ (if q2 < C then C else q2) = Q ∧ A + B + C - P - Q = M ∧
      0 ≤ P ∧ P ≤ M ∧ M ≤ Q ∧ Q ≤ K ∧ max (B - A) 0 = G ∧ 0 ≤ G ∧ G ≤ K ∧ min (A + G) K = q2 ∧ max (M - P) 0 = Y ∧ max (Q - M) 0 = Z ∧ 0 ≤ Y ∧ Y ≤ K ∧ 0 ≤ Z ∧ Z ≤ K ∧ max (Q - P) 0 = Y + Z ∧
      leastOf K [A, B, C] = P ∧ sumOf K [A, B, C] = T ∧ Q ≤ T ∧ 0 ≤ q2 ∧ q2 ≤ K ∧ 0 ≤ p2 ∧ p2 ≤ K := by
  obtain ⟨p2, hp2⟩ : ∃ p2, (if B < A then B else A) = p2 := ⟨_, rfl⟩
  obtain ⟨P, hP⟩ : ∃ P, (if C < p2 then C else p2) = P := ⟨_, rfl⟩
  obtain ⟨q2, hq2⟩ : ∃ q2, (if A < B then B else A) = q2 := ⟨_, rfl⟩
  obtain ⟨Q, hQ⟩ : ∃ Q, (if q2 < C then C else q2) = Q := ⟨_, rfl⟩
  have f1 : (B < A ∧ p2 = B) ∨ (A ≤ B ∧ p2 = A) := by split at hp2 <;> omega
  have f2 : (C < p2 ∧ P = C) ∨ (p2 ≤ C ∧ P = p2) := by split at hP <;> omega
  have f3 : (A < B ∧ q2 = B) ∨ (B ≤ A ∧ q2 = A) := by split at hq2 <;> omega
  have f4 : (q2 < C ∧ Q = C) ∨ (C ≤ q2 ∧ Q = q2) := by split at hQ <;> omega
  refine ⟨p2, P, q2, Q, _, _, _, _, _, hp2, hP, hq2, hQ, rfl, by omega, by omega, by omega, by omega, rfl, by omega, by omega, by omega, rfl, rfl, by omega, by omega, by omega, by omega, by omega, ?_, rfl, ?_, by omega, by omega, by omega, by omega⟩
  · simp only [leastOf, List.foldl_cons, List.foldl_nil]; omega
  · simp only [sumOf, List.foldl_cons, List.foldl_nil]; omega
set_option maxRecDepth 100000 in
set_option maxHeartbeats 1600000 in
theorem walk (a0 : Int) (a1 : Int) (a2 : Int) (a3 : Int) (w0 : (Lit.int .i64 a0).wf = true) (w1 : (Lit.int .i64 a1).wf = true) (w2 : (Lit.int .i64 a2).wf = true) (w3 : (Lit.int .i64 a3).wf = true) (w : World) :
    Calls Try.prog 7 #[.int .i64 a0, .int .i64 a1, .int .i64 a2, .int .i64 a3] w fun e w' => e = .returned (.bool true) ∧ Below w.heap.size w w' := by
  obtain ⟨K, hK, k1, k2⟩ := top_of a3
  obtain ⟨A, hA, b1, b2⟩ := cost_of a0 K k1 k2
  obtain ⟨B, hB, b3, b4⟩ := cost_of a1 K k1 k2
  obtain ⟨C, hC, b5, b6⟩ := cost_of a2 K k1 k2
  obtain ⟨p2, P, q2, Q, M, G, Y, Z, T, e1, e2, e3, e4, e5, x1, x2, x3, x4, e6, x5, x6, e7, e8, e9, x7, x8, x9, x10, e10, e11, e12, x11, x12, x13, x14, x15⟩ := plain A B C K b1 b2 b3 b4 b5 b6
  have iA : InC A K := inC k1 k2 b1 b2
  have iB : InC B K := inC k1 k2 b3 b4
  have iC : InC C K := inC k1 k2 b5 b6
  have iG : InC G K := inC k1 k2 x5 x6
  have iP : InC P K := inC k1 k2 x1 (by omega)
  have iQ : InC Q K := inC k1 k2 (by omega) x4
  have iM : InC M K := inC k1 k2 (by omega) (by omega)
  have r1 := fun w => gap_as A B K G w iA iB e6
  have r2 := fun w => add_as A G K q2 w iA iG e7
  have r3 := fun w => gap_as P Q K (Y + Z) w iP iQ e10
  have r4 := fun w => gap_as P M K Y w iP iM e8
  have r5 := fun w => gap_as M Q K Z w iM iQ e9
  have r6 := fun b W h => least_three A B C K P b W iA iB iC e11 h
  have r7 := fun b W h => sum_three A B C K T b W iA iB iC e12 h
  clear e6 e7 e8 e9 e10 e11 e12
  go_enter Try.func7, Try.ntmps7
  go_wp2_with (go_at_call 8; (with_reducible refine (awake_any _).mono ?_); rintro e w' ⟨rfl, rfl⟩)
  go_quiet (fail)
  go_wp2_with (first
    | (go_at_call 12; (with_reducible refine (r1 _).mono ?_); rintro e w' ⟨rfl, rfl⟩)
    | (go_at_call 9; (with_reducible refine (r2 _).mono ?_); rintro e w' ⟨rfl, rfl⟩)
    | (go_at_call 12; (with_reducible refine (r3 _).mono ?_); rintro e w' ⟨rfl, rfl⟩)
    | (go_at_call 12; (with_reducible refine (r4 _).mono ?_); rintro e w' ⟨rfl, rfl⟩)
    | (go_at_call 12; (with_reducible refine (r5 _).mono ?_); rintro e w' ⟨rfl, rfl⟩)
    | fail)
  refine (r6 _ _ (heap_alloc_new _ _)).mono ?_
  rintro e w1 ⟨rfl, hb1⟩
  go_wp2_with (fail)
  refine (r7 _ _ (heap_alloc_new _ _)).mono ?_
  rintro e w2 ⟨rfl, hb2⟩
  go_wp2
  go_ret
  have g0 : Below w.heap.size w (w.drewN nq) := below_drewN (Below.refl _ _) _
  have g1 := (g0.alloc (Nat.le_refl _) (.cells #[.int .i64 A, .int .i64 B, .int .i64 C] 2)).trans (hb1.mono (by simp))
  have hs := hb1.size
  have g2 := (g1.alloc (by simp at hs; omega) (.cells #[.int .i64 A, .int .i64 B, .int .i64 C] 2)).trans (hb2.mono (by simp at hs ⊢; omega))
  exact ⟨rfl, g2⟩

set_option maxRecDepth 100000 in
theorem lifted (os : Os) (started : os.Started) (H : Type) (enc : TypeId × Value → H) :
    ReturnsInHanded {} Try.checked os 7 .any (Rows.costGapsSpec.pre6 enc Try.prog Try.f7 Rows.costGapsRow.domain false) (Rows.costGapsSpec.post enc Try.prog Try.f7 false true false false) := by
  refine returnsInHanded_of_change (C := Try.checked) own started (by kernel_rfl) Try.func7
    (ChangeSpec.witness6 (enc := enc) (C := Try.checked) false ⟨#[], #[.int .i64 0, .int .i64 0, .int .i64 0, .int .i64 0], []⟩ 8 (by kernel_rfl) (by kernel_rfl) (by kernel_rfl) (by kernel_rfl)) ?_
  intro W base args ds gs before hval0 hW hcnd _
  have hval : ∀ (j : Nat) t v, Try.f7.params[j]? = some t → args[j]? = some v → Value.okWide Try.prog W .any base t v := hval0
  have hW' := hW
  obtain ⟨p, q, hA0, hV, rfl, hfz, hnd⟩ := hW
  have hA : DataW.TrodAll enc Try.prog W 0 (fun _ => true) true Try.f7.params.toList args.toList ds p := hA0
  rw [Try.params7] at hA hval
  obtain ⟨v0, vs0, d0, ds0, p0, q0, hargs, rfl, rfl, h0, r0⟩ := trodAll_cons hA
  obtain ⟨v1, vs1, d1, ds1, p1, q1, rfl, rfl, rfl, h1, r1⟩ := trodAll_cons r0
  obtain ⟨v2, vs2, d2, ds2, p2, q2, rfl, rfl, rfl, h2, r2⟩ := trodAll_cons r1
  obtain ⟨v3, vs3, d3, ds3, p3, q3, rfl, rfl, rfl, h3, r3⟩ := trodAll_cons r2
  obtain ⟨rfl, rfl, rfl⟩ := trodAll_nil r3
  obtain rfl : args = #[v0, v1, v2, v3] := by cases args; simp_all
  obtain ⟨rfl, rfl⟩ := trodVars_none hV
  obtain ⟨a0, rfl, rfl, rfl, w0⟩ := open_int Try.underlying2 (hval 0 2 v0 rfl rfl) h0
  obtain ⟨a1, rfl, rfl, rfl, w1⟩ := open_int Try.underlying2 (hval 1 2 v1 rfl rfl) h1
  obtain ⟨a2, rfl, rfl, rfl, w2⟩ := open_int Try.underlying2 (hval 2 2 v2 rfl rfl) h2
  obtain ⟨a3, rfl, rfl, rfl, w3⟩ := open_int Try.underlying2 (hval 3 2 v3 rfl rfl) h3
  clear hA0 hval0
  simp only [List.append_nil] at hW'
  refine (walk a0 a1 a2 a3 w0 w1 w2 w3 W).mono fun e W' ⟨he, hg⟩ => ?_
  subst he
  exact ⟨_, rfl, _, _, _, [], [], [], hW', (trodAll_cons_mk (shut_bool Try.underlying4 _) trodAll_mk0), (trodAll_cons_mk (shut_int Try.underlying2 w0) (trodAll_cons_mk (shut_int Try.underlying2 w1) (trodAll_cons_mk (shut_int Try.underlying2 w2) (trodAll_cons_mk (shut_int Try.underlying2 w3) trodAll_mk0)))), rfl, hg.frame _, fun h => by cases h⟩

theorem over : Rows.costGapsRow.holds Try.pinned (OpenSpec.ofChange Rows.costGapsSpec) :=
  OpenClaim.holds_of_wide 7 Try.f7 rfl rfl rfl rfl rfl rfl rfl ⟨rfl, rfl, rfl, rfl, rfl⟩ rfl rfl rfl rfl rfl (by kernel_rfl) Try.func7 (by kernel_rfl)
    (of_decide_eq_true (by kernel_rfl)) (by unfold Func.isWrapper; first | (rw [if_pos (by decide +kernel)]; kernel_rfl) | (rw [if_neg (by decide +kernel)]; exact ⟨rfl, rfl⟩))
    (fun os started H enc _ => lifted os started H enc)

theorem proved : Rows.CostGapsSaid :=
  over
end Go.Proofs.Ytbgngpgebhnpbaa.costGaps
