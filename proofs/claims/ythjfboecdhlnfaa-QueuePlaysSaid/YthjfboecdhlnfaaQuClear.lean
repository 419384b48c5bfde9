/- None waits any more. -/
import Derived.Test.YthjfboecdhlnfaaQuTop
import Derived.Deep.LoopGhost
import Derived.Deep.RegionWith
namespace Go.Proofs.Ythjfboecdhlnfaa.que
open Go Go.RowKit Go.ChangeShapes Go.WideShapes Go.ChangeAt Go.Proofs.Ythjfboecdhlnfaa.words
set_option linter.unusedVariables false
def Cleared (w : World) (g N : Nat) (F : Nat → Prop) (e : Ending) (w' : World) : Prop := e = .returned (.tuple #[]) ∧ QL w' g F N [] ∧ Tch w w' F
set_option maxRecDepth 100000 in
set_option maxHeartbeats 2000000 in
theorem ql_clear (w : World) (g N : Nat) (F : Nat → Prop) (L : List It) (hq : QL w g F N L) (hlen : L.length ≤ 1000) :
    Calls Try.prog 14 #[.pointer (some ⟨g, 0, none⟩)] w fun e w' => Cleared w g N F e w' := by
  go_enter Try.func14, Try.ntmps14
  go_wp2_with fail
  go_loopg [3] L.length (fun gk _ wr => ∃ L : List It, L.length ≤ gk ∧ L.length ≤ 1000 ∧ QL wr g F N L ∧ Tch w wr F)
  case atStart => exact ⟨L, Nat.le_refl _, hlen, hq, Tch.refl _ _⟩
  case round =>
    clear hq hlen
    obtain ⟨L, hg, hl, hq, ht⟩ := hrel
    have hle := ql_len hq
    by_cases hL : L = []
    · subst hL
      have HQ := Lib.hid hq
      clear hq
      go_wp2_with fail
      refine hle.mono ?_
      rintro e w2 ⟨rfl, rfl⟩
      go_wp2_with fail
      go_end0
      exact ⟨rfl, HQ.out, ht⟩
    · have hpos : 0 < L.length := List.length_pos_iff.2 hL
      obtain ⟨gq, rfl⟩ : ∃ q, gk = q + 1 := ⟨gk - 1, by omega⟩
      obtain ⟨m, hm⟩ : ∃ m, m + 1 = L.length := ⟨L.length - 1, by omega⟩
      obtain ⟨p, x, r1, c1, hc1, hc2, hcn, hdr⟩ : ∃ (p x : Int) (r1 c1 : Nat), wr.cell? ⟨g, 0, none⟩ = some (.slice (some ⟨r1, 0, none⟩) L.length c1) ∧ wr.cell? ⟨r1, m * 2 + 1, none⟩ = some (.int .i64 x) ∧ L.length ≤ c1 ∧
          ∃ _ : inQ L x = true, True := by
        obtain ⟨H, a, b, c, d⟩ := hq
        obtain ⟨r1, c1, A2, c2, hcc, hlk⟩ := a.look b.length_eq hpos
        obtain ⟨q0, q1, qi⟩ := hlk wr (Below.refl _ _)
        have hmH : m < H.length := by rw [b.length_eq]; omega
        have hget := getD_some hmH
        obtain ⟨⟨p, x⟩, hpx⟩ : ∃ a, H.getD m z0 = a := ⟨_, rfl⟩
        rw [hpx] at hget
        refine ⟨p, x, r1, c1, q0, (qi m _ hget).2, hcc, ?_, trivial⟩
        exact (inQ_iff _ _).2 ⟨(p, x), b.mem_iff.1 (List.mem_of_getElem? hget), rfl⟩
      obtain ⟨hin, _⟩ := hdr
      obtain ⟨q, hqm, hqx⟩ := (inQ_iff L x).1 hin
      have hfl : (L.filter fun a => decide (a.2 ≠ x)).length < L.length := List.length_filter_lt_length_iff_exists.2 ⟨q, hqm, by simp [hqx]⟩
      have hdC : Hid (∀ w', Below wr.heap.size wr w' → Calls Try.prog 11 #[.pointer (some ⟨g, 0, none⟩), .int .i64 x] w' fun e w'' => e = .returned (.bool true) ∧ QL w'' g F N (L.filter fun a => decide (a.2 ≠ x)) ∧ Tch w' w'' F) := fun w' hb => ql_drop (hq.below hb) x hin (by omega)
      have hlC : Hid (∀ w', Below wr.heap.size wr w' → Calls Try.prog 12 #[.pointer (some ⟨g, 0, none⟩)] w' fun e w'' => e = .returned (.int .i64 L.length) ∧ w' = w'') := fun w' hb => ql_len (hq.below hb)
      have HF : Hid ((L.filter fun a => decide (a.2 ≠ x)).length ≤ gq ∧ (L.filter fun a => decide (a.2 ≠ x)).length ≤ 1000) := ⟨by omega, by omega⟩
      obtain ⟨n, hn⟩ : ∃ n, L.length = n := ⟨_, rfl⟩
      rw [hn] at hle hm hc1 hcn hlC hpos hl
      have m0 : (0 : Int) ≤ (m : Int) := by omega
      have m1 : (m : Int) < (n : Int) := by omega
      have w2 : Hid ((n : Int) - 1 = (m : Int)) := by show _ = _; omega
      have w1 : IntKind.i64.wrap ((n : Int) - 1) = (m : Int) := by rw [w2.out, IntKind.wrap_i64]; omega
      clear hn hm hq hL hin hqm hqx hfl hg
      go_wp2_with fail
      refine hle.mono ?_
      rintro e w3 ⟨rfl, rfl⟩
      clear hle
      go_wp2_with fail
      go_region_with (first
        | (go_at_call 12; refine (hlC.out _ ?_).mono ?_; (first | exact Below.refl _ _ | exact (Below.refl _ _).drew | exact below_drewN (Below.refl _ _) _); rintro e w4 ⟨rfl, rfl⟩)
        | (go_at_call 11; refine (hdC.out _ ?_).mono ?_; (first | exact Below.refl _ _ | exact (Below.refl _ _).drew | exact below_drewN (Below.refl _ _) _); rintro e w5 ⟨rfl, hq5, ht5⟩))
      all_goals
        have hT := ht.drew.trans ht5 fun _ _ h => h
        go_wp2_with fail
        go_roundg gq
        case rel => exact ⟨_, HF.out.1, HF.out.2, hq5, hT⟩
        case measure => omega
end Go.Proofs.Ythjfboecdhlnfaa.que
