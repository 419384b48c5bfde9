/- A queue's item finds its place. -/
import Derived.Test.YthjfboecdhlnfaaQuCon
import Derived.Deep.LoopGhost
import Derived.Deep.RegionHeld3
import Derived.Deep.DeepCutAuto
import Derived.Deep.CutBlock
import Derived.IntWalk
namespace Go.Proofs.Ythjfboecdhlnfaa.que
open Go Go.RowKit Go.ChangeShapes Go.WideShapes Go.ChangeAt Go.Proofs.Ythjfboecdhlnfaa.words
set_option linter.unusedVariables false
theorem Qs.look {w : World} {g : Nat} {F : Nat → Prop} {N : Nat} {H : List It} (h : Qs w g F N H) {n : Nat} (hn : H.length = n) (h0 : 0 < n) :
    ∃ r1 c1 A2 c2, n ≤ c1 ∧ ∀ w', Below w.heap.size w w' → w'.cell? ⟨g, 0, none⟩ = some (.slice (some ⟨r1, 0, none⟩) n c1) ∧ w'.cell? ⟨g, 1, none⟩ = some (.slice A2 N c2) ∧
      (∀ j a, H[j]? = some a → w'.cell? ⟨r1, j * 2, none⟩ = some (.int .i64 a.1) ∧ w'.cell? ⟨r1, j * 2 + 1, none⟩ = some (.int .i64 a.2)) := by
  obtain ⟨hg, A1, c1, A2, c2, hb, h1, f1, h2, f2⟩ := h
  rw [hn] at hb h1
  have hcn := own_cap h1
  obtain ⟨r1, rfl, _, hr1⟩ := own_some h1 h0
  refine ⟨r1, c1, A2, c2, hcn, fun w' hw => ?_⟩
  obtain ⟨q0, q1⟩ := (hb.under hw).two
  have o1 := own_under h1 hw
  refine ⟨q0, q1, fun j a hj => ?_⟩
  have hl := (List.getElem?_eq_some_iff.1 hj).1
  exact ⟨(o1.cellAt (j * 2) (by omega)).trans (flat_at hj).1, (o1.cellAt (j * 2 + 1) (by omega)).trans (flat_at hj).2⟩
theorem Qs.below {w w' : World} {g : Nat} {F : Nat → Prop} {N : Nat} {H : List It} (h : Qs w g F N H) (hb : Below w.heap.size w w') : Qs w' g F N H :=
  h.keep (Tch.of_below hb (fun _ => False)) fun _ _ h => h
theorem less_is (a b : It) (c : Bool) (h : decide (lt a b) = c) (w : World) : Calls Try.prog 25 #[.agg #[.int .i64 a.1, .int .i64 a.2], .agg #[.int .i64 b.1, .int .i64 b.2]] w fun e w' => e = .returned (.bool c) ∧ Below w.heap.size w w' := by
  have := less_any a.1 a.2 b.1 b.2 w
  rw [← h]; exact this
/-- at k, one of the two below j, all is well -/
def Fine (H : List It) (j k : Nat) : Prop := k < H.length → ¬ ((H.length ≤ 4 * j + 3 - k ∨ lt (H.getD k z0) (H.getD (4 * j + 3 - k) z0)) ∧ lt (H.getD k z0) (H.getD j z0))
theorem fine_heap {N : Nat} {H : List It} {j : Nat} (hv : Val N H) (hd : Down H j) (h1 : Fine H j (2 * j + 1)) (h2 : Fine H j (2 * j + 2)) : IsHeap H := by
  refine hd.stop fun k h0 hk hp => ?_
  unfold Fine at h1 h2
  rw [show 4 * j + 3 - (2 * j + 1) = 2 * j + 2 by omega] at h1
  rw [show 4 * j + 3 - (2 * j + 2) = 2 * j + 1 by omega] at h2
  have hd : ∀ p q, p < H.length → q < H.length → p ≠ q → lt (H.getD p z0) (H.getD q z0) ∨ lt (H.getD q z0) (H.getD p z0) := fun p q hp hq hne => by
    refine lt_total fun e => hne ?_
    have g1 := plc_some (i := p) (x := (H.getD p z0).2) (by rw [getD_some hp]; rfl) hv.nd
    have g2 := plc_some (i := q) (x := (H.getD p z0).2) (by rw [getD_some hq, e]; rfl) hv.nd
    have := g1.symm.trans g2
    omega
  by_cases hk1 : k = 2 * j + 1
  · subst hk1
    by_cases ho : 2 * j + 2 < H.length
    · rcases hd (2 * j + 1) (2 * j + 2) hk ho (by omega) with hl | hl
      · exact fun hh => h1 hk ⟨.inr hl, hh⟩
      · exact both_stop hl fun hh => h2 ho ⟨.inr hl, hh⟩
    · exact fun hh => h1 hk ⟨.inl (by omega), hh⟩
  · obtain rfl : k = 2 * j + 2 := by omega
    rcases hd (2 * j + 1) (2 * j + 2) (by omega) hk (by omega) with hl | hl
    · exact both_stop hl fun hh => h1 (by omega) ⟨.inr hl, hh⟩
    · exact fun hh => h2 hk ⟨.inr hl, hh⟩
theorem half_facts {j p : Nat} (h0 : 0 < j) (hp : (j - 1) / 2 = p) (hj : j ≤ 1000000) : ∃ m : Nat, IntKind.i64.wrap ((j : Int) - 1) = (m : Int) ∧ (m : Int).tdiv 2 = (p : Int) ∧ IntKind.i64.wrap (p : Int) = (p : Int) := by
  obtain ⟨m, rfl⟩ : ∃ m, j = m + 1 := ⟨j - 1, by omega⟩
  have e : (m : Int).tdiv 2 = (m : Int) / 2 := Int.tdiv_eq_ediv_of_nonneg (by omega)
  have h2 : (m : Int) / 2 = (p : Int) := by omega
  have k1 : IntKind.i64.wrap ((m : Int)) = (m : Int) := by clear e h2; rw [IntKind.wrap_i64]; omega
  have k2 : IntKind.i64.wrap ((p : Int)) = (p : Int) := by clear e h2 k1; rw [IntKind.wrap_i64]; omega
  have k5 : ((m + 1 : Nat) : Int) - 1 = (m : Int) := by clear e h2 k1 k2; omega
  exact ⟨m, by rw [k5]; exact k1, by rw [e, h2], k2⟩
/-- what settle leaves -/
def Settled (w : World) (g N : Nat) (F : Nat → Prop) (H : List It) (e : Ending) (w' : World) : Prop := e = .returned (.tuple #[]) ∧ (∃ H', Qs w' g F N H' ∧ H'.Perm H ∧ IsHeap H') ∧ Tch w w' F
def UpAt (w wr : World) (g N n : Nat) (F : Nat → Prop) (H : List It) (j : Nat) (H' : List It) : Prop := H'.length = n ∧ Qs wr g F N H' ∧ H'.Perm H ∧ Val N H' ∧ Up H' j ∧ Tch w wr F
def DownAt (w wr : World) (g N n : Nat) (F : Nat → Prop) (H : List It) (j : Nat) (H' : List It) : Prop := H'.length = n ∧ Qs wr g F N H' ∧ H'.Perm H ∧ Val N H' ∧ Down H' j ∧ Tch w wr F
set_option maxRecDepth 100000 in
set_option maxHeartbeats 4000000 in
theorem settle_any (w : World) (g N i n : Nat) (F : Nat → Prop) (H : List It) (hn0 : Hid (H.length = n)) (hq : Qs w g F N H) (hv : Val N H) (hi : i < n) (hu : Up H i) (hlen : n ≤ 1000000) :
    Calls Try.prog 22 #[.pointer (some ⟨g, 0, none⟩), .int .i64 i] w fun e w' => Settled w g N F H e w' := by
  have hU : UpAt w w g N n F H i H := ⟨hn0.out, hq, List.Perm.refl _, hv, hu, Tch.refl _ _⟩
  clear hq hv hu
  go_enter Try.func22, Try.ntmps22
  go_wp2_with fail
  go_step3
  go_upto_block 0 with (fail)
  go_cut [1] (fun iv wx => ∃ (j : Nat) (H' : List It), j < n ∧ iv = .int .i64 j ∧ DownAt w wx g N n F H j H')
  case first =>
    go_wp2_with fail
    go_loopg [1] i (fun gk iv wr => ∃ (j : Nat) (H' : List It), j ≤ gk ∧ j < n ∧ iv = .int .i64 j ∧ UpAt w wr g N n F H j H')
    case atStart => exact ⟨i, H, Nat.le_refl _, hi, rfl, hU⟩
    case round =>
      clear hU
      obtain ⟨j, H', hjg, hj, rfl, hUp⟩ := hrel
      by_cases h0 : 0 < j
      · obtain ⟨p, hp⟩ : ∃ p, (j - 1) / 2 = p := ⟨_, rfl⟩
        have hpj : p < j := by omega
        have hUp' := hUp
        obtain ⟨hl, hq, hpm, hv, hu, ht⟩ := hUp'
        obtain ⟨r1, c1, A2, c2, hc1, hlk⟩ := hq.look hl (by omega)
        have gi := getD_some (H := H') (i := j) (by omega)
        have gp := getD_some (H := H') (i := p) (by omega)
        obtain ⟨A, hA⟩ : ∃ a, H'.getD j z0 = a := ⟨_, rfl⟩
        obtain ⟨B, hB⟩ : ∃ a, H'.getD p z0 = a := ⟨_, rfl⟩
        rw [hA] at gi
        rw [hB] at gp
        obtain ⟨a1, a2⟩ := A
        obtain ⟨b1, b2⟩ := B
        have W3 := Lib.hid (show ((j : Int) - 1) / 2 = (p : Int) by omega)
        have w4 : (0 : Int) ≤ (p : Int) := by omega
        have w5 : (p : Int) < (n : Int) := by omega
        have w6 : (0 : Int) ≤ (j : Int) := by omega
        have w7 : (j : Int) < (n : Int) := by omega
        have swpC := fun w' hb => swap_any w' g N j p F H' (hq.below hb) hv (by omega) (by omega) (by omega)
        obtain ⟨m, w1, w8, w14⟩ := half_facts h0 hp (by omega)
        have base : Hid (∀ w', Below wr.heap.size wr w' → (w'.cell? ⟨g, 0, none⟩ = some (.slice (some ⟨r1, 0, none⟩) n c1) ∧ w'.cell? ⟨r1, j * 2, none⟩ = some (.int .i64 a1) ∧ w'.cell? ⟨r1, j * 2 + 1, none⟩ = some (.int .i64 a2) ∧ w'.cell? ⟨r1, p * 2, none⟩ = some (.int .i64 b1) ∧ w'.cell? ⟨r1, p * 2 + 1, none⟩ = some (.int .i64 b2) ∧ Below wr.heap.size wr w')) := fun w' hb =>
          ⟨(hlk w' hb).1, ((hlk w' hb).2.2 j _ gi).1, ((hlk w' hb).2.2 j _ gi).2, ((hlk w' hb).2.2 p _ gp).1, ((hlk w' hb).2.2 p _ gp).2, hb⟩
        have kb : Hid (∀ w', (w'.cell? ⟨g, 0, none⟩ = some (.slice (some ⟨r1, 0, none⟩) n c1) ∧ w'.cell? ⟨r1, j * 2, none⟩ = some (.int .i64 a1) ∧ w'.cell? ⟨r1, j * 2 + 1, none⟩ = some (.int .i64 a2) ∧ w'.cell? ⟨r1, p * 2, none⟩ = some (.int .i64 b1) ∧ w'.cell? ⟨r1, p * 2 + 1, none⟩ = some (.int .i64 b2) ∧ Below wr.heap.size wr w') → Below wr.heap.size wr w') := fun w' h => h.2.2.2.2.2
        have HA := Lib.hid hA
        have HB := Lib.hid hB
        have HP := Lib.hid hp
        have HL := Lib.hid hl
        clear hA hB hp hl hlk gi gp
        cases hc : decide (lt (a1, a2) (b1, b2)) with
        | true =>
          have hle := fun w => less_is (a1, a2) (b1, b2) true hc w
          have hup := hu.step h0 (by rw [HL.out]; exact hj) (by rw [HP.out, HA.out, HB.out]; exact of_decide_eq_true hc)
          rw [HP.out] at hup
          dsimp only at hle
          clear hc hu
          go_wp2_with fail
          go_region_held3 (fun w' => w'.cell? ⟨g, 0, none⟩ = some (.slice (some ⟨r1, 0, none⟩) n c1) ∧ w'.cell? ⟨r1, j * 2, none⟩ = some (.int .i64 a1) ∧ w'.cell? ⟨r1, j * 2 + 1, none⟩ = some (.int .i64 a2) ∧ w'.cell? ⟨r1, p * 2, none⟩ = some (.int .i64 b1) ∧ w'.cell? ⟨r1, p * 2 + 1, none⟩ = some (.int .i64 b2) ∧ Below wr.heap.size wr w')
            (first | assumption | exact base.out _ (Below.refl _ _) | exact base.out _ (Below.refl _ _).drew | (refine base.out _ (bto (kb.out _ ?_) hbx); assumption) | exact base.out _ (bto (Below.refl _ _) hbx) | exact base.out _ (bto (Below.refl _ _).drew hbx) | exact base.out _ (below_drewN (Below.refl _ _) _) | exact base.out _ (below_drewN (Below.refl _ _) _).drew | exact base.out _ (bto (below_drewN (Below.refl _ _) _).drew hbx) | exact base.out _ (bto (below_drewN (Below.refl _ _) _) hbx))
            (first | (go_at_call 25; (with_reducible refine (hle _).mono ?_); rintro e wx ⟨rfl, hbx⟩))
          have hB1 := kb.out _ (by assumption)
          clear base kb hle w1 w8 w14
          have w3 := W3.out
          go_wp2_with fail
          refine (swpC _ hB1).mono ?_
          rintro e w2 ⟨rfl, hq2, ht2⟩
          go_wp2_with fail
          obtain ⟨gq, rfl⟩ : ∃ q, gk = q + 1 := ⟨gk - 1, by omega⟩
          go_roundg gq
          case rel =>
            refine ⟨p, swp H' j p, by omega, by omega, congrArg (Value.int .i64) w3, by rw [swp_len]; exact HL.out, hq2, (swp_perm (by rw [HL.out]; exact hj) (by rw [HL.out]; omega)).trans hpm, hv.perm (swp_perm (by rw [HL.out]; exact hj) (by rw [HL.out]; omega)), hup, ?_⟩
            exact (ht.trans (Tch.of_below hB1 F) fun _ _ h => h).trans ht2 fun _ _ h => h
          case measure => omega
        | false =>
          have hle := fun w => less_is (a1, a2) (b1, b2) false hc w
          have hst := hu.stop (.inr (by rw [HP.out, HA.out, HB.out]; exact of_decide_eq_false hc))
          dsimp only at hle
          clear hc hu swpC
          go_wp2_with fail
          go_region_held3 (fun w' => w'.cell? ⟨g, 0, none⟩ = some (.slice (some ⟨r1, 0, none⟩) n c1) ∧ w'.cell? ⟨r1, j * 2, none⟩ = some (.int .i64 a1) ∧ w'.cell? ⟨r1, j * 2 + 1, none⟩ = some (.int .i64 a2) ∧ w'.cell? ⟨r1, p * 2, none⟩ = some (.int .i64 b1) ∧ w'.cell? ⟨r1, p * 2 + 1, none⟩ = some (.int .i64 b2) ∧ Below wr.heap.size wr w')
            (first | assumption | exact base.out _ (Below.refl _ _) | exact base.out _ (Below.refl _ _).drew | (refine base.out _ (bto (kb.out _ ?_) hbx); assumption) | exact base.out _ (bto (Below.refl _ _) hbx) | exact base.out _ (bto (Below.refl _ _).drew hbx) | exact base.out _ (below_drewN (Below.refl _ _) _) | exact base.out _ (below_drewN (Below.refl _ _) _).drew | exact base.out _ (bto (below_drewN (Below.refl _ _) _).drew hbx) | exact base.out _ (bto (below_drewN (Below.refl _ _) _) hbx))
            (first | (go_at_call 25; (with_reducible refine (hle _).mono ?_); rintro e wx ⟨rfl, hbx⟩))
          have hB1 := kb.out _ (by assumption)
          clear base kb hle w1 w8 w14
          go_wp2_with fail
          go_meet
          exact ⟨j, H', hj, rfl, HL.out, hq.below hB1, hpm, hv, hst, ht.trans (Tch.of_below hB1 F) fun _ _ h => h⟩
      · obtain ⟨hl, hq, hpm, hv, hu, ht⟩ := hUp
        have hd : decide ((0 : Int) < (j : Int)) = false := decide_eq_false (by omega)
        have hst := hu.stop (.inl (by omega))
        have HL := Lib.hid hl
        clear hl hu
        go_wp2_with fail
        go_quiet (fail)
        go_wp2
        go_meet
        exact ⟨j, H', hj, rfl, HL.out, hq.below (below_drewN (Below.refl _ _) _), hpm, hv, hst, ht.trans (Tch.of_below (below_drewN (Below.refl _ _) _) F) fun _ _ h => h⟩
  case rest =>
    obtain ⟨j0, H0, hj0, rfl, hD0⟩ := hcut
    clear hU
    go_wp2_with fail
    go_step3
    go_wp2_with fail
    go_loopg [1] n (fun gk iv wr => ∃ (j : Nat) (H' : List It), n ≤ j + gk ∧ j < n ∧ iv = .int .i64 j ∧ DownAt w wr g N n F H j H')
    case atStart => exact ⟨j0, H0, by omega, hj0, rfl, hD0⟩
    case round =>
      clear hD0
      obtain ⟨j, H', hjg, hj, rfl, hD⟩ := hrel
      obtain ⟨go', hgo⟩ : ∃ q, gk = q + 1 := ⟨gk - 1, by omega⟩
      subst hgo
      go_wp2_with fail
      go_loopg [1, 4] 2 (fun gk iv kv wr => ∃ kk : Nat, kk + gk = 2 * j + 3 ∧ 2 * j + 1 ≤ kk ∧ iv = .int .i64 j ∧ kv = .int .i64 kk ∧ DownAt w wr g N n F H j H' ∧ ∀ q, 2 * j + 1 ≤ q → q < kk → Fine H' j q)
      case atStart => exact ⟨2 * j + 1, by omega, by omega, rfl, by go_num, hD, fun q h1 h2 => by omega⟩
      case round =>
        clear hD
        obtain ⟨kk, hkg, hk1, rfl, rfl, hD, hF⟩ := hrel
        obtain ⟨hl, hq, hpm, hv, hd, ht⟩ := hD
        have HL := Lib.hid hl
        have HT : Hid (Fine H' j kk → ∀ q, 2 * j + 1 ≤ q → q < kk + 1 → Fine H' j q) := fun hf q h1 h2 => by
          by_cases e : q = kk
          · rw [e]; exact hf
          · exact hF q h1 (by omega)
        obtain ⟨r1, c1, A2, c2, hc1, hlk⟩ := hq.look hl (by omega)
        clear hl
        by_cases hkn : kk < n
        · by_cases hk2 : kk ≤ 2 * j + 2
          · have gk' := getD_some (H := H') (i := kk) (by rw [HL.out]; exact hkn)
            have gj := getD_some (H := H') (i := j) (by rw [HL.out]; exact hj)
            obtain ⟨⟨a1, a2⟩, hA⟩ : ∃ a, H'.getD kk z0 = a := ⟨_, rfl⟩
            obtain ⟨⟨d1, d2⟩, hJ⟩ : ∃ a, H'.getD j z0 = a := ⟨_, rfl⟩
            rw [hA] at gk'
            rw [hJ] at gj
            have HK := Lib.hid hA
            have HJ := Lib.hid hJ
            clear hA hJ
            obtain ⟨o, ho⟩ : ∃ o, kk + o = 4 * j + 3 := ⟨4 * j + 3 - kk, by omega⟩
            have HO := Lib.hid ho
            have HPK : Hid ((kk - 1) / 2 = j) := by show (kk - 1) / 2 = j; omega
            have hoI : 4 * (j : Int) + 3 - (kk : Int) = (o : Int) := by omega
            have hoe : Hid (4 * j + 3 - kk = o) := by show 4 * j + 3 - kk = o; omega
            have k0 : (0 : Int) ≤ (kk : Int) := by omega
            have k1 : (kk : Int) < (n : Int) := by omega
            have j0' : (0 : Int) ≤ (j : Int) := by omega
            have j1 : (j : Int) < (n : Int) := by omega
            have o0 : (0 : Int) ≤ (o : Int) := by omega
            clear hF
            by_cases hon : o < n
            · have o1 : (o : Int) < (n : Int) := by omega
              have hoB : decide ((n : Int) ≤ (o : Int)) = false := decide_eq_false (by omega)
              have hoB2 : decide (n ≤ o) = false := decide_eq_false (by omega)
              have go := getD_some (H := H') (i := o) (by rw [HL.out]; exact hon)
              obtain ⟨⟨b1, b2⟩, hOo⟩ : ∃ a, H'.getD o z0 = a := ⟨_, rfl⟩
              rw [hOo] at go
              have HOo := Lib.hid hOo
              clear hOo ho
              obtain ⟨cg0, _, _⟩ := hlk wr (Below.refl _ _)
              have base7 : Hid (∀ w', Below wr.heap.size wr w' → (w'.cell? ⟨g, 0, none⟩ = some (.slice (some ⟨r1, 0, none⟩) n c1) ∧ w'.cell? ⟨r1, kk * 2, none⟩ = some (.int .i64 a1) ∧ w'.cell? ⟨r1, kk * 2 + 1, none⟩ = some (.int .i64 a2) ∧ w'.cell? ⟨r1, o * 2, none⟩ = some (.int .i64 b1) ∧ w'.cell? ⟨r1, o * 2 + 1, none⟩ = some (.int .i64 b2) ∧ Below wr.heap.size wr w')) := fun w' hb =>
                ⟨(hlk w' hb).1, ((hlk w' hb).2.2 kk _ gk').1, ((hlk w' hb).2.2 kk _ gk').2, ((hlk w' hb).2.2 o _ go).1, ((hlk w' hb).2.2 o _ go).2, hb⟩
              have kb7 : Hid (∀ w', (w'.cell? ⟨g, 0, none⟩ = some (.slice (some ⟨r1, 0, none⟩) n c1) ∧ w'.cell? ⟨r1, kk * 2, none⟩ = some (.int .i64 a1) ∧ w'.cell? ⟨r1, kk * 2 + 1, none⟩ = some (.int .i64 a2) ∧ w'.cell? ⟨r1, o * 2, none⟩ = some (.int .i64 b1) ∧ w'.cell? ⟨r1, o * 2 + 1, none⟩ = some (.int .i64 b2) ∧ Below wr.heap.size wr w') → Below wr.heap.size wr w') := fun w' h => h.2.2.2.2.2
              cases hc7 : decide (lt (a1, a2) (b1, b2)) with
              | true =>
                have hle7 := fun w => less_is (a1, a2) (b1, b2) true hc7 w
                dsimp only at hle7
                have FSTp : Hid (n ≤ o ∨ lt (a1, a2) (H'.getD o z0)) := .inr (by rw [HOo.out]; exact of_decide_eq_true hc7)
                clear hc7
                go_wp2_with fail
                go_region_held3 (fun w' => w'.cell? ⟨g, 0, none⟩ = some (.slice (some ⟨r1, 0, none⟩) n c1) ∧ w'.cell? ⟨r1, kk * 2, none⟩ = some (.int .i64 a1) ∧ w'.cell? ⟨r1, kk * 2 + 1, none⟩ = some (.int .i64 a2) ∧ w'.cell? ⟨r1, o * 2, none⟩ = some (.int .i64 b1) ∧ w'.cell? ⟨r1, o * 2 + 1, none⟩ = some (.int .i64 b2) ∧ Below wr.heap.size wr w')
                  (first | assumption | exact base7.out _ (Below.refl _ _) | exact base7.out _ (Below.refl _ _).drew | (refine base7.out _ (bto (kb7.out _ ?_) hbx); assumption) | exact base7.out _ (bto (Below.refl _ _) hbx) | exact base7.out _ (bto (Below.refl _ _).drew hbx) | exact base7.out _ (below_drewN (Below.refl _ _) _) | exact base7.out _ (below_drewN (Below.refl _ _) _).drew | exact base7.out _ (bto (below_drewN (Below.refl _ _) _).drew hbx) | exact base7.out _ (bto (below_drewN (Below.refl _ _) _) hbx))
                  (first | (go_at_call 25; (with_reducible refine (hle7 _).mono ?_); rintro e wx ⟨rfl, hbx⟩))
                have hB7 := kb7.out _ (by assumption)
                clear base7 kb7 hle7 hoB hoB2 hoI
                obtain ⟨wx7, hwx⟩ : ∃ w7, wx = w7 := ⟨_, rfl⟩
                subst hwx
                go_wp2_with fail
                have base8 : Hid (∀ w', Below wx.heap.size wx w' → (w'.cell? ⟨g, 0, none⟩ = some (.slice (some ⟨r1, 0, none⟩) n c1) ∧ w'.cell? ⟨r1, kk * 2, none⟩ = some (.int .i64 a1) ∧ w'.cell? ⟨r1, kk * 2 + 1, none⟩ = some (.int .i64 a2) ∧ w'.cell? ⟨r1, j * 2, none⟩ = some (.int .i64 d1) ∧ w'.cell? ⟨r1, j * 2 + 1, none⟩ = some (.int .i64 d2) ∧ Below wx.heap.size wx w')) := fun w' hb =>
                  ⟨(hlk w' (bto hB7 hb)).1, ((hlk w' (bto hB7 hb)).2.2 kk _ gk').1, ((hlk w' (bto hB7 hb)).2.2 kk _ gk').2, ((hlk w' (bto hB7 hb)).2.2 j _ gj).1, ((hlk w' (bto hB7 hb)).2.2 j _ gj).2, hb⟩
                have kb8 : Hid (∀ w', (w'.cell? ⟨g, 0, none⟩ = some (.slice (some ⟨r1, 0, none⟩) n c1) ∧ w'.cell? ⟨r1, kk * 2, none⟩ = some (.int .i64 a1) ∧ w'.cell? ⟨r1, kk * 2 + 1, none⟩ = some (.int .i64 a2) ∧ w'.cell? ⟨r1, j * 2, none⟩ = some (.int .i64 d1) ∧ w'.cell? ⟨r1, j * 2 + 1, none⟩ = some (.int .i64 d2) ∧ Below wx.heap.size wx w') → Below wx.heap.size wx w') := fun w' h => h.2.2.2.2.2
                cases hc8 : decide (lt (a1, a2) (d1, d2)) with
                | true =>
                  have hle8 := fun w => less_is (a1, a2) (d1, d2) true hc8 w
                  have hdn := hd.step (k := kk) (o := o) (by omega) HPK.out (by rw [HL.out]; exact hkn) HO.out (by rw [HL.out, HK.out]; exact FSTp.out) (by rw [HK.out, HJ.out]; exact of_decide_eq_true hc8)
                  dsimp only at hle8
                  have swpC := fun w' hb => swap_any w' g N j kk F H' (hq.below hb) hv (by rw [HL.out]; exact hj) (by rw [HL.out]; exact hkn) (by rw [HL.out]; exact hlen)
                  clear hc8 hd hlk gk' gj
                  go_region_held3 (fun w' => w'.cell? ⟨g, 0, none⟩ = some (.slice (some ⟨r1, 0, none⟩) n c1) ∧ w'.cell? ⟨r1, kk * 2, none⟩ = some (.int .i64 a1) ∧ w'.cell? ⟨r1, kk * 2 + 1, none⟩ = some (.int .i64 a2) ∧ w'.cell? ⟨r1, j * 2, none⟩ = some (.int .i64 d1) ∧ w'.cell? ⟨r1, j * 2 + 1, none⟩ = some (.int .i64 d2) ∧ Below wx.heap.size wx w')
                    (first | assumption | exact base8.out _ (Below.refl _ _) | exact base8.out _ (Below.refl _ _).drew | (refine base8.out _ (bto (kb8.out _ ?_) hbx); assumption) | exact base8.out _ (bto (Below.refl _ _) hbx) | exact base8.out _ (bto (Below.refl _ _).drew hbx) | exact base8.out _ (below_drewN (Below.refl _ _) _) | exact base8.out _ (below_drewN (Below.refl _ _) _).drew | exact base8.out _ (bto (below_drewN (Below.refl _ _) _).drew hbx) | exact base8.out _ (bto (below_drewN (Below.refl _ _) _) hbx))
                    (first | (go_at_call 25; (with_reducible refine (hle8 _).mono ?_); rintro e wx ⟨rfl, hbx⟩))
                  have hB8 := kb8.out _ (by assumption)
                  clear base8 kb8 hle8
                  go_wp2_with fail
                  refine (swpC _ (bto hB7 hB8)).mono ?_
                  rintro e w2 ⟨rfl, hq2, ht2⟩
                  go_wp2_with fail
                  go_roundg go'
                  case rel =>
                    refine ⟨kk, swp H' j kk, by omega, hkn, rfl, by rw [swp_len]; exact HL.out, hq2, (swp_perm (by rw [HL.out]; exact hj) (by rw [HL.out]; exact hkn)).trans hpm, hv.perm (swp_perm (by rw [HL.out]; exact hj) (by rw [HL.out]; exact hkn)), hdn, ?_⟩
                    exact (ht.trans (Tch.of_below (bto hB7 hB8) F) fun _ _ h => h).trans ht2 fun _ _ h => h
                  case measure => omega
                | false =>
                  have hle8 := fun w => less_is (a1, a2) (d1, d2) false hc8 w
                  have hfine : Hid (Fine H' j kk) := fun _ hh => by
                    have h2 := hh.2
                    rw [HK.out, HJ.out] at h2
                    exact of_decide_eq_false hc8 h2
                  dsimp only at hle8
                  clear hc8 hlk gk' gj
                  go_region_held3 (fun w' => w'.cell? ⟨g, 0, none⟩ = some (.slice (some ⟨r1, 0, none⟩) n c1) ∧ w'.cell? ⟨r1, kk * 2, none⟩ = some (.int .i64 a1) ∧ w'.cell? ⟨r1, kk * 2 + 1, none⟩ = some (.int .i64 a2) ∧ w'.cell? ⟨r1, j * 2, none⟩ = some (.int .i64 d1) ∧ w'.cell? ⟨r1, j * 2 + 1, none⟩ = some (.int .i64 d2) ∧ Below wx.heap.size wx w')
                    (first | assumption | exact base8.out _ (Below.refl _ _) | exact base8.out _ (Below.refl _ _).drew | (refine base8.out _ (bto (kb8.out _ ?_) hbx); assumption) | exact base8.out _ (bto (Below.refl _ _) hbx) | exact base8.out _ (bto (Below.refl _ _).drew hbx) | exact base8.out _ (below_drewN (Below.refl _ _) _) | exact base8.out _ (below_drewN (Below.refl _ _) _).drew | exact base8.out _ (bto (below_drewN (Below.refl _ _) _).drew hbx) | exact base8.out _ (bto (below_drewN (Below.refl _ _) _) hbx))
                    (first | (go_at_call 25; (with_reducible refine (hle8 _).mono ?_); rintro e wx ⟨rfl, hbx⟩))
                  have hB8 := kb8.out _ (by assumption)
                  clear base8 kb8 hle8
                  go_wp2_with fail
                  obtain ⟨gi, rfl⟩ : ∃ q, gk = q + 1 := ⟨gk - 1, by omega⟩
                  go_roundg gi
                  case rel => exact ⟨kk + 1, by omega, by omega, rfl, by go_num, ⟨HL.out, hq.below (bto hB7 hB8), hpm, hv, hd, ht.trans (Tch.of_below (bto hB7 hB8) F) fun _ _ h => h⟩, HT.out hfine.out⟩
                  case measure => omega
              | false =>
                have hle7 := fun w => less_is (a1, a2) (b1, b2) false hc7 w
                have hfine : Hid (Fine H' j kk) := fun _ hh => by
                  have h2 := hh.1
                  rw [hoe.out, HL.out, HK.out, HOo.out] at h2
                  rcases h2 with h2 | h2
                  · omega
                  · exact of_decide_eq_false hc7 h2
                dsimp only at hle7
                clear hc7
                go_wp2_with fail
                go_region_held3 (fun w' => w'.cell? ⟨g, 0, none⟩ = some (.slice (some ⟨r1, 0, none⟩) n c1) ∧ w'.cell? ⟨r1, kk * 2, none⟩ = some (.int .i64 a1) ∧ w'.cell? ⟨r1, kk * 2 + 1, none⟩ = some (.int .i64 a2) ∧ w'.cell? ⟨r1, o * 2, none⟩ = some (.int .i64 b1) ∧ w'.cell? ⟨r1, o * 2 + 1, none⟩ = some (.int .i64 b2) ∧ Below wr.heap.size wr w')
                  (first | assumption | exact base7.out _ (Below.refl _ _) | exact base7.out _ (Below.refl _ _).drew | (refine base7.out _ (bto (kb7.out _ ?_) hbx); assumption) | exact base7.out _ (bto (Below.refl _ _) hbx) | exact base7.out _ (bto (Below.refl _ _).drew hbx) | exact base7.out _ (below_drewN (Below.refl _ _) _) | exact base7.out _ (below_drewN (Below.refl _ _) _).drew | exact base7.out _ (bto (below_drewN (Below.refl _ _) _).drew hbx) | exact base7.out _ (bto (below_drewN (Below.refl _ _) _) hbx))
                  (first | (go_at_call 25; (with_reducible refine (hle7 _).mono ?_); rintro e wx ⟨rfl, hbx⟩))
                have hB7 := kb7.out _ (by assumption)
                clear base7 kb7 hle7 hoB hoB2 hoI
                go_wp2_with fail
                go_quiet (fail)
                go_wp2_with fail
                obtain ⟨gi, rfl⟩ : ∃ q, gk = q + 1 := ⟨gk - 1, by omega⟩
                go_roundg gi
                case rel => exact ⟨kk + 1, by omega, by omega, rfl, by go_num, ⟨HL.out, hq.below (below_drewN hB7 _), hpm, hv, hd, ht.trans (Tch.of_below (below_drewN hB7 _) F) fun _ _ h => h⟩, HT.out hfine.out⟩
                case measure => omega
            · have hoB : decide ((n : Int) ≤ (o : Int)) = true := decide_eq_true (by omega)
              have FSTp : Hid (n ≤ o ∨ lt (a1, a2) (H'.getD o z0)) := .inl (by omega)
              obtain ⟨cg0, _, _⟩ := hlk wr (Below.refl _ _)
              clear ho
              go_wp2_with fail
              go_quiet (fail)
              clear cg0 hoB hoI
              go_wp2_with fail
              have base8 : Hid (∀ w', Below wr.heap.size wr w' → (w'.cell? ⟨g, 0, none⟩ = some (.slice (some ⟨r1, 0, none⟩) n c1) ∧ w'.cell? ⟨r1, kk * 2, none⟩ = some (.int .i64 a1) ∧ w'.cell? ⟨r1, kk * 2 + 1, none⟩ = some (.int .i64 a2) ∧ w'.cell? ⟨r1, j * 2, none⟩ = some (.int .i64 d1) ∧ w'.cell? ⟨r1, j * 2 + 1, none⟩ = some (.int .i64 d2) ∧ Below wr.heap.size wr w')) := fun w' hb =>
                ⟨(hlk w' hb).1, ((hlk w' hb).2.2 kk _ gk').1, ((hlk w' hb).2.2 kk _ gk').2, ((hlk w' hb).2.2 j _ gj).1, ((hlk w' hb).2.2 j _ gj).2, hb⟩
              have kb8 : Hid (∀ w', (w'.cell? ⟨g, 0, none⟩ = some (.slice (some ⟨r1, 0, none⟩) n c1) ∧ w'.cell? ⟨r1, kk * 2, none⟩ = some (.int .i64 a1) ∧ w'.cell? ⟨r1, kk * 2 + 1, none⟩ = some (.int .i64 a2) ∧ w'.cell? ⟨r1, j * 2, none⟩ = some (.int .i64 d1) ∧ w'.cell? ⟨r1, j * 2 + 1, none⟩ = some (.int .i64 d2) ∧ Below wr.heap.size wr w') → Below wr.heap.size wr w') := fun w' h => h.2.2.2.2.2
              cases hc8 : decide (lt (a1, a2) (d1, d2)) with
              | true =>
                have hle8 := fun w => less_is (a1, a2) (d1, d2) true hc8 w
                have hdn := hd.step (k := kk) (o := o) (by omega) HPK.out (by rw [HL.out]; exact hkn) HO.out (by rw [HL.out, HK.out]; exact FSTp.out) (by rw [HK.out, HJ.out]; exact of_decide_eq_true hc8)
                dsimp only at hle8
                have swpC := fun w' hb => swap_any w' g N j kk F H' (hq.below hb) hv (by rw [HL.out]; exact hj) (by rw [HL.out]; exact hkn) (by rw [HL.out]; exact hlen)
                clear hc8 hd hlk gk' gj
                go_region_held3 (fun w' => w'.cell? ⟨g, 0, none⟩ = some (.slice (some ⟨r1, 0, none⟩) n c1) ∧ w'.cell? ⟨r1, kk * 2, none⟩ = some (.int .i64 a1) ∧ w'.cell? ⟨r1, kk * 2 + 1, none⟩ = some (.int .i64 a2) ∧ w'.cell? ⟨r1, j * 2, none⟩ = some (.int .i64 d1) ∧ w'.cell? ⟨r1, j * 2 + 1, none⟩ = some (.int .i64 d2) ∧ Below wr.heap.size wr w')
                  (first | assumption | exact base8.out _ (Below.refl _ _) | exact base8.out _ (Below.refl _ _).drew | (refine base8.out _ (bto (kb8.out _ ?_) hbx); assumption) | exact base8.out _ (bto (Below.refl _ _) hbx) | exact base8.out _ (bto (Below.refl _ _).drew hbx) | exact base8.out _ (below_drewN (Below.refl _ _) _) | exact base8.out _ (below_drewN (Below.refl _ _) _).drew | exact base8.out _ (bto (below_drewN (Below.refl _ _) _).drew hbx) | exact base8.out _ (bto (below_drewN (Below.refl _ _) _) hbx))
                  (first | (go_at_call 25; (with_reducible refine (hle8 _).mono ?_); rintro e wx ⟨rfl, hbx⟩))
                have hB8 := kb8.out _ (by assumption)
                clear base8 kb8 hle8
                go_wp2_with fail
                refine (swpC _ hB8).mono ?_
                rintro e w2 ⟨rfl, hq2, ht2⟩
                go_wp2_with fail
                go_roundg go'
                case rel =>
                  refine ⟨kk, swp H' j kk, by omega, hkn, rfl, by rw [swp_len]; exact HL.out, hq2, (swp_perm (by rw [HL.out]; exact hj) (by rw [HL.out]; exact hkn)).trans hpm, hv.perm (swp_perm (by rw [HL.out]; exact hj) (by rw [HL.out]; exact hkn)), hdn, ?_⟩
                  exact (ht.trans (Tch.of_below hB8 F) fun _ _ h => h).trans ht2 fun _ _ h => h
                case measure => omega
              | false =>
                have hle8 := fun w => less_is (a1, a2) (d1, d2) false hc8 w
                have hfine : Hid (Fine H' j kk) := fun _ hh => by
                  have h2 := hh.2
                  rw [HK.out, HJ.out] at h2
                  exact of_decide_eq_false hc8 h2
                dsimp only at hle8
                clear hc8 hlk gk' gj
                go_region_held3 (fun w' => w'.cell? ⟨g, 0, none⟩ = some (.slice (some ⟨r1, 0, none⟩) n c1) ∧ w'.cell? ⟨r1, kk * 2, none⟩ = some (.int .i64 a1) ∧ w'.cell? ⟨r1, kk * 2 + 1, none⟩ = some (.int .i64 a2) ∧ w'.cell? ⟨r1, j * 2, none⟩ = some (.int .i64 d1) ∧ w'.cell? ⟨r1, j * 2 + 1, none⟩ = some (.int .i64 d2) ∧ Below wr.heap.size wr w')
                  (first | assumption | exact base8.out _ (Below.refl _ _) | exact base8.out _ (Below.refl _ _).drew | (refine base8.out _ (bto (kb8.out _ ?_) hbx); assumption) | exact base8.out _ (bto (Below.refl _ _) hbx) | exact base8.out _ (bto (Below.refl _ _).drew hbx) | exact base8.out _ (below_drewN (Below.refl _ _) _) | exact base8.out _ (below_drewN (Below.refl _ _) _).drew | exact base8.out _ (bto (below_drewN (Below.refl _ _) _).drew hbx) | exact base8.out _ (bto (below_drewN (Below.refl _ _) _) hbx))
                  (first | (go_at_call 25; (with_reducible refine (hle8 _).mono ?_); rintro e wx ⟨rfl, hbx⟩))
                have hB8 := kb8.out _ (by assumption)
                clear base8 kb8 hle8
                go_wp2_with fail
                obtain ⟨gi, rfl⟩ : ∃ q, gk = q + 1 := ⟨gk - 1, by omega⟩
                go_roundg gi
                case rel => exact ⟨kk + 1, by omega, by omega, rfl, by go_num, ⟨HL.out, hq.below hB8, hpm, hv, hd, ht.trans (Tch.of_below hB8 F) fun _ _ h => h⟩, HT.out hfine.out⟩
                case measure => omega
          · have hend : Hid (IsHeap H') := fine_heap hv hd (hF _ (by omega) (by omega)) (hF _ (by omega) (by omega))
            obtain ⟨cg0, _, _⟩ := hlk wr (Below.refl _ _)
            clear hlk hF hd
            go_wp2_with fail
            try rw [Exit.noGoto_ret]
            refine bodyPost_ret (results_none rfl _ _ _) rfl ?_
            exact ⟨rfl, ⟨H', hq, hpm, hend.out⟩, ht⟩
        · have hend : Hid (IsHeap H') := by
            refine fine_heap hv hd ?_ ?_
            · by_cases e : 2 * j + 1 < kk
              · exact hF _ (Nat.le_refl _) e
              · intro h; rw [HL.out] at h; omega
            · by_cases e : 2 * j + 2 < kk
              · exact hF _ (by omega) e
              · intro h; rw [HL.out] at h; omega
          obtain ⟨cg0, _, _⟩ := hlk wr (Below.refl _ _)
          clear hlk hF hd
          go_wp2_with fail
          go_ways
          all_goals
            try rw [Exit.noGoto_ret]
            refine bodyPost_ret (results_none rfl _ _ _) rfl ?_
            exact ⟨rfl, ⟨H', hq, hpm, hend.out⟩, ht⟩
end Go.Proofs.Ythjfboecdhlnfaa.que
