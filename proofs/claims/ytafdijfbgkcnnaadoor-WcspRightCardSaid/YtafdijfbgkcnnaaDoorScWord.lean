/- A scan's Word, More, At. -/
import Derived.Test.YtafdijfbgkcnnaaDoorScCon
import Derived.Deep.DeepCutAuto
import Derived.Deep.RegionHeld3
namespace Go.Proofs.YtafdijfbgkcnnaaDoor.scn
open Go Go.RowKit Go.ChangeShapes Go.WideShapes Go.ChangeAt Go.Proofs.YtafdijfbgkcnnaaDoor.words
set_option linter.unusedVariables false
abbrev strV (l : List UInt8) : Value := .string ⟨l.toArray⟩
variable {w : World} {g : Nat} {bs : List UInt8} {a : Nat} {bad : Int}
theorem Scn.put (h : Scn w g bs a bad) : (∀ i : Nat, Scn (w.setCell ⟨g, 1, none⟩ (.int .i64 i)) g bs i bad) ∧ (∀ b : Int, Scn (w.setCell ⟨g, 2, none⟩ (.int .i64 b)) g bs a b) ∧ w.frozen? ⟨g, 1, none⟩ = false ∧ w.frozen? ⟨g, 2, none⟩ = false := by
  obtain ⟨A, c, hb, ho⟩ := h
  have key : ∀ (o : Nat) (u : Value), (w.setCell ⟨g, o, none⟩ u).ownsRow 0 5 1 (.slice A bs.length c) bs.length (bv bs) := fun o u => (Tch.set_ w (S := fun k => k = g) (p := ⟨g, o, none⟩) u rfl).own ho fun q hq e => own_blk_ne ho hb (by decide) (by rw [hq, e])
  exact ⟨fun i => ⟨A, c, hb.set_ 1 (.int .i64 i), key _ _⟩, fun b => ⟨A, c, hb.set_ 2 (.int .i64 b), key _ _⟩, hb.frozen 1, hb.frozen 2⟩
/-- what a string out of the bytes is -/
theorem Scn.conv (h : Scn w g bs a bad) {i j : Nat} (hij : i < j) (hj : j ≤ bs.length) : ∃ r c, w.cell? ⟨g, 0, none⟩ = some (.slice (some ⟨r, 0, none⟩) bs.length c) ∧ ∀ k w', Below w.heap.size w w' ∨ Tch w w' (fun q => q = g) → (convert 22 9 (.slice (some ⟨r, i, none⟩) (j - i) k)).run Tryd.prog w' = .ok (strV (sub bs i j)) w' := by
  obtain ⟨A, c, hb, ho⟩ := h
  obtain ⟨r, rfl, _, hr⟩ := own_some ho (by omega)
  refine ⟨r, c, hb.cell 0, fun k w' hw => ?_⟩
  have ho' : w'.ownsRow 0 5 1 (.slice (some ⟨r, 0, none⟩) bs.length c) bs.length (bv bs) := by
    rcases hw with hw | hw
    · exact own_under ho hw
    · exact hw.own ho fun q hq e => own_blk_ne ho hb (by decide) (by rw [hq, e])
  have hl := sub_len (i := i) hj
  have := run_convert_bytes_back (P := Tryd.prog) w' 22 9 5 ⟨r, i, none⟩ k (sub bs i j) Tryd.underlying22 Tryd.underlying5 Tryd.underlying9 (fun q hq => by
    rw [hl] at hq
    have e : (Addr.add ⟨r, i, none⟩ q) = ⟨r, i + q, none⟩ := by unfold Addr.add; split <;> simp_all
    rw [e, (ho'.cellAt (i + q) (by omega)).trans (bv_get (by omega))]
    have e2 : (sub bs i j)[q]'(by rw [hl]; exact hq) = bs.getD (i + q) 0 := by
      unfold sub
      rw [List.getElem_drop, List.getElem_take, List.getD_eq_getElem?_getD, List.getElem?_eq_getElem (by omega)]; rfl
    rw [e2]; rfl)
  rw [hl] at this
  exact this
/-- what Word leaves -/
def WordOf (w : World) (g : Nat) (bs : List UInt8) (a : Nat) (e : Ending) (w' : World) : Prop :=
  (∃ i, Next bs a (.bad i) ∧ e = .returned (.tuple #[strV [], .int .i64 i, .int .i64 11]) ∧ Scn w' g bs a i ∧ Tch w w' fun k => k = g) ∨
  (Next bs a .none ∧ e = .returned (.tuple #[strV [], .int .i64 bs.length, .int .i64 2]) ∧ Scn w' g bs a (-1) ∧ Tch w w' fun k => k = g) ∨
  (∃ i j, Next bs a (.word i j) ∧ e = .returned (.tuple #[strV (sub bs i j), .int .i64 i, .int .i64 0]) ∧ Scn w' g bs j (-1) ∧ Tch w w' fun k => k = g)
set_option maxHeartbeats 4000000 in
theorem word_any (h : Scn w g bs a (-1)) (ha : a ≤ bs.length) (hn : bs.length ≤ 1000000) :
    Calls Tryd.prog 35 #[.pointer (some ⟨g, 0, none⟩)] w fun e w' => WordOf w g bs a e w' := by
  have hsk := skip_any h ha hn
  obtain ⟨A, c, q0, q1, q2, hc, hat⟩ := h.heads
  have H := Lib.hid h
  obtain ⟨n, hl⟩ : ∃ n, bs.length = n := ⟨_, rfl⟩
  have HL := Lib.hid hl
  rw [hl] at q0 hc hat ha hn
  have HAT := Lib.hid hat
  clear h hl hat
  go_enter Tryd.func35, Tryd.ntmps35
  go_wp2_with fail
  refine hsk.mono ?_
  rintro e w1 ⟨i, rfl, hs, rfl⟩
  have his : i ≤ n := by have := hs.len; rw [HL.out] at this; exact this
  have HS := Lib.hid hs
  clear hsk hs
  go_wp2_with fail
  go_loopw [6] (fun jv wr => ∃ j : Nat, jv = .int .i64 j ∧ i ≤ j ∧ j ≤ n ∧ (∀ q, i ≤ q → q < j → isIn (at_ bs q) = true) ∧ w = wr) (fun jv _ => n - (intOf jv).toNat)
  case atStart => exact ⟨i, rfl, Nat.le_refl _, his, fun q h1 h2 => by omega, rfl⟩
  case round =>
    obtain ⟨j, rfl, h1, h2, hall, rfl⟩ := hrel
    have HA := Lib.hid hall
    clear hall
    by_cases hlt : j < n
    · obtain ⟨r, rfl, hrg, hcell⟩ := HAT.out j hlt
      obtain ⟨b, hb⟩ : ∃ b, isIn (at_ bs j) = b := ⟨_, rfl⟩
      obtain ⟨b2, hb2⟩ : ∃ b, isB (at_ bs j) = b := ⟨_, rfl⟩
      have hin := in_any (at_ bs j) w
      have hbt := between_any (at_ bs j) w
      rw [hb] at hin
      rw [hb2] at hbt
      have HB := Lib.hid hb
      have HB2 := Lib.hid hb2
      obtain ⟨x, hx⟩ : ∃ x, at_ bs j = x := ⟨_, rfl⟩
      rw [hx] at hin hbt hcell
      clear hb hb2 hx
      cases b with
      | true =>
        clear hbt HB2
        go_wp2_with fail
        refine hin.mono ?_
        rintro e w1 ⟨rfl, rfl⟩
        clear hin
        go_wp2_with fail
        go_roundw
        case rel =>
          refine ⟨j + 1, by go_num, by omega, by omega, fun q q1 q2 => ?_, by first | rfl | trivial⟩
          by_cases e : q = j
          · rw [e]; exact HB.out
          · exact HA.out q q1 (by omega)
        case measure => simp [intOf]; omega
      | false =>
        have hI : Ins bs i j := ⟨h1, by rw [HL.out]; exact h2, HA.out, fun _ => HB.out⟩
        have HI := Lib.hid hI
        clear hI
        cases b2 with
        | false =>
          obtain ⟨_, hput, _, hfr⟩ := H.out.put
          have hN : Hid (Next bs a (.bad j)) := ⟨i, j, HS.out, HI.out, .inl ⟨⟨by rw [HL.out]; exact hlt, HB2.out⟩, rfl⟩⟩
          have HP := Lib.hid (hput j)
          have HT := Lib.hid (Tch.set_ w (S := fun k => k = g) (p := ⟨g, 2, none⟩) (.int .i64 (j : Int)) rfl)
          clear hput
          go_wp2_with fail
          refine hin.mono ?_
          rintro e w1 ⟨rfl, rfl⟩
          clear hin
          go_wp2_with fail
          refine hbt.mono ?_
          rintro e w1 ⟨rfl, rfl⟩
          clear hbt
          go_wp2_with fail
          go_ret3
          exact .inl ⟨j, hN.out, rfl, HP.out, HT.out⟩
        | true =>
          have hW : Hid (¬ Wrong bs j) := fun hw => by have h0 := hw.2; have h1 := HB2.out; rw [h0] at h1; cases h1
          by_cases hij : i = j
          · exfalso
            have h0 := HS.out.stop (by rw [HL.out]; omega)
            have h1 := HB2.out
            rw [← hij, h0] at h1
            cases h1
          · have hlt2 : i < j := by omega
            have hN : Hid (Next bs a (.word i j)) := ⟨i, j, HS.out, HI.out, .inr (.inr ⟨hW.out, hlt2, rfl⟩)⟩
            obtain ⟨hput, _, hfr, _⟩ := H.out.put
            obtain ⟨r', c', q0', hconv⟩ := H.out.conv (i := i) (j := j) hlt2 (by rw [HL.out]; exact h2)
            have HP := Lib.hid (hput j)
            have HT := Lib.hid (Tch.set_ w (S := fun k => k = g) (p := ⟨g, 1, none⟩) (.int .i64 (j : Int)) rfl)
            have hcv := fun k => hconv k _ (.inr HT.out)
            have hne : ((i : Int) == (j : Int)) = false := by simp; omega
            rw [HL.out, q0] at q0'
            injection q0' with q0'
            injection q0' with e1 _ e2
            injection e1 with e1
            injection e1 with e1
            subst e1
            subst e2
            have z0 : (0 : Int) ≤ (i : Int) := Int.natCast_nonneg _
            have z1 : (i : Int) ≤ (j : Int) := by omega
            have z2 : (j : Int) ≤ (c : Int) := by omega
            have z3 : ¬ c = i := by omega
            clear hput hconv
            go_wp2_with fail
            refine hin.mono ?_
            rintro e w1 ⟨rfl, rfl⟩
            clear hin
            go_wp2_with fail
            refine hbt.mono ?_
            rintro e w1 ⟨rfl, rfl⟩
            clear hbt
            go_wp2_with fail
            go_ret3
            exact .inr (.inr ⟨i, j, hN.out, rfl, HP.out, HT.out⟩)
    · obtain rfl : n = j := by omega
      have hI : Ins bs i n := ⟨h1, by rw [HL.out]; exact h2, HA.out, fun h => by rw [HL.out] at h; omega⟩
      have HI := Lib.hid hI
      have hW : Hid (¬ Wrong bs n) := fun hw => by have := hw.1; rw [HL.out] at this; omega
      clear hI
      by_cases hij : i = n
      · have hN : Hid (Next bs a .none) := ⟨i, n, HS.out, HI.out, .inr (.inl ⟨hW.out, hij, rfl⟩)⟩
        have hne : ((i : Int) == (n : Int)) = true := by simp; omega
        subst hij
        go_wp2_with fail
        go_quiet (fail)
        go_wp2_with fail
        go_ret3
        refine .inr (.inl ⟨hN.out, ?_, H.out.below (below_drewN (Below.refl _ _) _), Tch.of_below (below_drewN (Below.refl _ _) _) _⟩)
        rw [HL.out]
        rfl
      · have hlt2 : i < n := by omega
        have hN : Hid (Next bs a (.word i n)) := ⟨i, n, HS.out, HI.out, .inr (.inr ⟨hW.out, hlt2, rfl⟩)⟩
        obtain ⟨r, hA, _, _⟩ := HAT.out i hlt2
        subst hA
        obtain ⟨hput, _, hfr, _⟩ := H.out.put
        obtain ⟨r', c', q0', hconv⟩ := H.out.conv (i := i) (j := n) hlt2 (by rw [HL.out]; exact h2)
        have HP := Lib.hid (hput n)
        have HT := Lib.hid (Tch.set_ w (S := fun k => k = g) (p := ⟨g, 1, none⟩) (.int .i64 (n : Int)) rfl)
        have hcv := fun k => hconv k _ (.inr HT.out)
        have hne : ((i : Int) == (n : Int)) = false := by simp; omega
        rw [HL.out, q0] at q0'
        injection q0' with q0'
        injection q0' with e1 _ e2
        injection e1 with e1
        injection e1 with e1
        subst e1
        subst e2
        have z0 : (0 : Int) ≤ (i : Int) := Int.natCast_nonneg _
        have z1 : (i : Int) ≤ (n : Int) := by omega
        have z2 : (n : Int) ≤ (c : Int) := by omega
        have z3 : ¬ c = i := by omega
        clear hput hconv
        go_wp2_with fail
        go_ret3
        exact .inr (.inr ⟨i, n, hN.out, rfl, HP.out, HT.out⟩)
end Go.Proofs.YtafdijfbgkcnnaaDoor.scn
