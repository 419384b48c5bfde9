/- For every input TrailNil returns true. No condition. -/
import Derived.Test.YtgojncgdmcpkiaaRows
import Derived.WalkKit
import Derived.ProofKit
import Derived.OpenShut
import Derived.ShutString
import Derived.ChangeOld
import Derived.Below
import Derived.Test.YtgojncgdmcpkiaaOpen
import Derived.Test.YtgojncgdmcpkiaaTrNil
namespace Go.Proofs.Ytgojncgdmcpkiaa.trailNil
open Go.Proofs.Ytgojncgdmcpkiaa.trl Go.Proofs.Ytgojncgdmcpkiaa.words
open Go.ChangeShapes Go.WideShapes Go.ChangeAt Go.RowKit
open Go.ChangeMaps (open_string shut_string)
set_option linter.unusedVariables false
theorem own : ownKnob Try.prog.godebug = none := by kernel_rfl
theorem laidOut : laidOutB Try.prog = true := by kernel_rfl
set_option maxRecDepth 100000 in
set_option maxHeartbeats 4000000 in
theorem core (n i v : Int) (w : World) :
    Calls Try.prog 6 #[.int .i64 n, .int .i64 i, .int .i64 v] w fun e w' => e = .returned (.bool true) ∧ Below w.heap.size w w' := by
  obtain ⟨k, hk⟩ : ∃ k, (if (100 : Int) < n then (100 : Int) else n) = k := ⟨_, rfl⟩
  have hk1 : k ≤ 100 := by rw [← hk]; split <;> omega
  obtain ⟨N, hN⟩ : ∃ N, k.toNat = N := ⟨_, rfl⟩
  have hmax : (if k < (0 : Int) then (0 : Int) else k) = (N : Int) := by split <;> omega
  have hN1 : N ≤ 100 := by omega
  go_enter Try.func6, Try.ntmps6
  go_wp2_with fail
  refine (awake_any w).mono ?_
  rintro e w1 ⟨rfl, hb1⟩
  go_wp2_with fail
  refine (ti_new k w1 (by omega)).mono ?_
  rintro e w2 ⟨g, rfl, ht⟩
  rw [hN] at ht
  have hB2 := bto hb1 ht.bel
  have hcl := ti_cells ht (by simp; omega)
  rw [List.length_replicate] at hcl
  have HT := Lib.hid ht
  clear hk ht hb1
  go_wp2_with fail
  refine hcl.mono ?_
  rintro e w3 ⟨⟨A, c, rfl, hown⟩, hb3⟩
  clear hcl
  go_wp2_with fail
  go_loopw [21] (fun jv wr => ∃ (j : Nat) (xs : List Int), j ≤ N ∧ jv = .int .i64 j ∧ wr.ownsRow w2.heap.size 2 1 (.slice A N c) N (nums xs) ∧ Below w2.heap.size w2 wr) (fun jv _ => N - (intOf jv).toNat)
  case atStart => exact ⟨0, _, by omega, rfl, hown, hb3⟩
  case round =>
    clear hown hb3
    obtain ⟨j, xs, hj, rfl, ho, hB⟩ := hrel
    by_cases hlt : j < N
    · obtain ⟨r, rfl, hr1, _⟩ := own_some ho (by omega)
      have hcap := own_cap ho
      have hf := ho.frozenAt j
      obtain ⟨x, hx⟩ : ∃ x, xs[j]? = some x := ⟨_, List.getElem?_eq_getElem (by rw [nums_own_len ho]; exact hlt)⟩
      have hc : wr.cell? ⟨r, j, none⟩ = some (.int .i64 x) := (ho.cellAt j (by omega)).trans (by unfold nums; rw [List.getElem?_map, hx]; rfl)
      have hst := (ho.stored j (.int .i64 9)).1
      have hset : (nums xs).set j (.int .i64 9) = nums (xs.set j 9) := by unfold nums; rw [List.map_set]
      rw [hset] at hst
      have HS := Lib.hid hst
      clear hst hset hx ho
      go_wp2_with fail
      go_roundw
      case rel => exact ⟨j + 1, _, by omega, by go_num, HS.out, hB.setCell (p := ⟨r, j, none⟩) hr1 _⟩
      case measure => simp [intOf]; omega
    · obtain rfl : N = j := by omega
      have ht := HT.out.below hB
      have hl := ti_len ht
      rw [List.length_replicate] at hl
      have hg0 : Calls Try.prog 22 #[.pointer (some ⟨g, 0, none⟩), .int .i64 0] wr fun e w' => e = .returned (.int .i64 0) ∧ wr = w' := by
        by_cases h0 : 0 < N
        · exact ti_get ht 0 0 (by rw [List.getElem?_replicate, if_pos h0])
        · exact ti_get_out ht 0 (by rw [List.length_replicate]; omega)
      have hBr := bto hB2 hB
      have hU : Hid (∀ W, Calls Try.prog 14 #[.pointer none, .int .i64 i] W fun e w' => e = .returned (.int .i64 2) ∧ Below W.heap.size W w') := fun W => undo_out none 0 W i (fun w' _ => depth_nil w') (by omega)
      have hF : Hid (∀ W, Calls Try.prog 23 #[.pointer none, .int .i64 i] W fun e w' => e = .returned (.int .i64 2) ∧ W = w') := fun W => forget_out none 0 W i (depth_nil W) (by omega)
      have hG : Hid (∀ W, Calls Try.prog 22 #[.pointer none, .int .i64 i] W fun e w' => e = .returned (.int .i64 0) ∧ W = w') := fun W => get_out none 0 W i (tlen_nil W) (by omega)
      clear ht hlt hj ho hB2 hB
      go_wp2_with (first
        | (go_at_call 20; (with_reducible refine hl.mono ?_); rintro e w' ⟨rfl, rfl⟩; clear hl)
        | (go_at_call 20; (with_reducible refine (tlen_nil _).mono ?_); rintro e w' ⟨rfl, rfl⟩)
        | (go_at_call 22; (with_reducible refine hg0.mono ?_); rintro e w' ⟨rfl, rfl⟩; clear hg0)
        | (go_at_call 22; (with_reducible refine (hG.out _).mono ?_); rintro e w' ⟨rfl, rfl⟩)
        | (go_at_call 12; (with_reducible refine (set_none _ _ _).mono ?_); rintro e w' ⟨rfl, rfl⟩)
        | (go_at_call 14; (with_reducible refine (hU.out _).mono ?_); rintro e wU ⟨rfl, hbU⟩)
        | (go_at_call 23; (with_reducible refine (hF.out _).mono ?_); rintro e w' ⟨rfl, rfl⟩)
        | (go_at_call 17; (with_reducible refine (depth_nil _).mono ?_); rintro e w' ⟨rfl, rfl⟩)
        | (go_at_call 19; (with_reducible refine (weight_nil _).mono ?_); rintro e w' ⟨rfl, rfl⟩)
        | (go_at_call 13; (with_reducible refine (mark_none _).mono ?_); rintro e w' ⟨rfl, rfl⟩)
        | (go_at_call 21; (with_reducible refine (grow_none _ _).mono ?_); rintro e w' ⟨rfl, rfl⟩)
        | (go_at_call 16; (with_reducible refine (cells_none _).mono ?_); rintro e w' ⟨rfl, rfl⟩)
        | fail)
      go_ret
      exact ⟨rfl, bto hBr hbU⟩
theorem walk (a0 : Int) (a1 : Int) (a2 : Int) (w : World) (w0 : (Lit.int .i64 a0).wf = true) (w1 : (Lit.int .i64 a1).wf = true) (w2 : (Lit.int .i64 a2).wf = true) :
    Calls Try.prog 6 #[.int .i64 a0, .int .i64 a1, .int .i64 a2] w fun e w' => e = .returned (.bool true) ∧ Below w.heap.size w w' := by
  exact core a0 a1 a2 w

set_option maxRecDepth 100000 in
theorem lifted (os : Os) (started : os.Started) (H : Type) (enc : TypeId × Value → H) :
    ReturnsInHanded {} Try.checked os 6 .any (Rows.trailNilSpec.pre6 enc Try.prog Try.f6 Rows.trailNilRow.domain false) (Rows.trailNilSpec.post enc Try.prog Try.f6 false true false false) := by
  refine returnsInHanded_of_change (C := Try.checked) own started (by kernel_rfl) Try.func6
    (ChangeSpec.witness6 (enc := enc) (C := Try.checked) false ⟨#[], #[.int .i64 0, .int .i64 0, .int .i64 0], []⟩ 8 (by kernel_rfl) (by kernel_rfl) (by kernel_rfl) (by kernel_rfl)) ?_
  intro W base args ds gs before hval0 hW hcnd _
  have hval : ∀ (j : Nat) t v, Try.f6.params[j]? = some t → args[j]? = some v → Value.okWide Try.prog W .any base t v := hval0
  have hW' := hW
  obtain ⟨p, q, hA0, hV, rfl, hfz, hnd⟩ := hW
  have hA : DataW.TrodAll enc Try.prog W 0 (fun _ => true) true Try.f6.params.toList args.toList ds p := hA0
  rw [Try.params6] at hA hval
  obtain ⟨v0, vs0, d0, ds0, p0, q0, hargs, rfl, rfl, h0, r0⟩ := trodAll_cons hA
  obtain ⟨v1, vs1, d1, ds1, p1, q1, rfl, rfl, rfl, h1, r1⟩ := trodAll_cons r0
  obtain ⟨v2, vs2, d2, ds2, p2, q2, rfl, rfl, rfl, h2, r2⟩ := trodAll_cons r1
  obtain ⟨rfl, rfl, rfl⟩ := trodAll_nil r2
  obtain rfl : args = #[v0, v1, v2] := by cases args; simp_all
  obtain ⟨rfl, rfl⟩ := trodVars_none hV
  obtain ⟨a0, rfl, rfl, rfl, w0⟩ := open_int Try.underlying3 (hval 0 3 v0 rfl rfl) h0
  obtain ⟨a1, rfl, rfl, rfl, w1⟩ := open_int Try.underlying3 (hval 1 3 v1 rfl rfl) h1
  obtain ⟨a2, rfl, rfl, rfl, w2⟩ := open_int Try.underlying2 (hval 2 2 v2 rfl rfl) h2
  clear hA0 hval0
  simp only [List.append_nil] at hW'
  refine (walk a0 a1 a2 W w0 w1 w2).mono fun e W' ⟨he, bel⟩ => ?_
  subst he
  exact ⟨_, rfl, _, _, _, [], _, [], hW', trodAll_mk1 (shut_bool Try.underlying4 _), (trodAll_cons_mk (shut_int Try.underlying3 w0) (trodAll_cons_mk (shut_int Try.underlying3 w1) (trodAll_cons_mk (shut_int Try.underlying2 w2) trodAll_mk0))), rfl, bel.frame _, fun h => by cases h⟩
theorem over : Rows.trailNilRow.holds Try.pinned (OpenSpec.ofChange Rows.trailNilSpec) :=
  OpenClaim.holds_of_wide 6 Try.f6 rfl rfl rfl rfl rfl rfl rfl ⟨rfl, rfl, rfl, rfl, rfl⟩ rfl rfl rfl rfl rfl (by kernel_rfl) Try.func6 (by kernel_rfl)
    (of_decide_eq_true (by kernel_rfl)) (by unfold Func.isWrapper; first | (rw [if_pos (by decide +kernel)]; kernel_rfl) | (rw [if_neg (by decide +kernel)]; exact ⟨rfl, rfl⟩))
    (fun os started H enc _ => lifted os started H enc)
theorem proved : Rows.TrailNilSaid := over
end Go.Proofs.Ytgojncgdmcpkiaa.trailNil
