/- A scan's Int, More, At; and Word, when a wrong byte was met. -/
import Derived.Test.YtbdeghhoophkbaaDoorScRef
namespace Go.Proofs.YtbdeghhoophkbaaDoor.scn
open Go Go.RowKit Go.ChangeShapes Go.WideShapes Go.ChangeAt Go.Proofs.YtbdeghhoophkbaaDoor.words
set_option linter.unusedVariables false
variable {w : World} {g : Nat} {bs : List UInt8} {a : Nat} {bad : Int}
theorem word_bad (h : Scn w g bs a bad) (h0 : 0 ≤ bad) :
    Calls Tryd.prog 10 #[.pointer (some ⟨g, 0, none⟩)] w fun e w' => e = .returned (.tuple #[strV [], .int .i64 bad, .int .i64 11]) ∧ Below w.heap.size w w' := by
  obtain ⟨A, c, q0, q1, q2, hc, hat⟩ := h.heads
  have b0 : decide ((0 : Int) ≤ bad) = true := decide_eq_true h0
  clear h hat q0 q1
  go_enter Tryd.func10, Tryd.ntmps10
  go_wp2_with fail
  go_quiet (fail)
  go_wp2_with fail
  go_ret3
  exact ⟨rfl, below_drewN (Below.refl _ _) _⟩
theorem at_any (h : Scn w g bs a bad) : Calls Tryd.prog 12 #[.pointer (some ⟨g, 0, none⟩)] w fun e w' => e = .returned (.int .i64 a) ∧ w = w' := by
  obtain ⟨A, c, q0, q1, q2, hc, hat⟩ := h.heads
  clear h hat
  go_enter Tryd.func12, Tryd.ntmps12
  go_wp2_with fail
  go_ret
  exact ⟨rfl, rfl⟩
theorem more_any (h : Scn w g bs a bad) (ha : a ≤ bs.length) (hn : bs.length ≤ 1000000) :
    Calls Tryd.prog 13 #[.pointer (some ⟨g, 0, none⟩)] w fun e w' => ∃ i : Nat, e = .returned (.bool (decide (i < bs.length))) ∧ Skip bs a i ∧ Below w.heap.size w w' := by
  obtain ⟨A, c, q0, q1, q2, hc, hat⟩ := h.heads
  have hsk := skip_any (h.below (Below.refl _ _).drew) ha hn
  have hx0 : w.drew.cell? ⟨g, 0, none⟩ = some (.slice A bs.length c) := q0
  obtain ⟨n, hl⟩ : ∃ n, bs.length = n := ⟨_, rfl⟩
  rw [hl] at q0 hx0 ⊢
  clear h hat hl q1 q2
  go_enter Tryd.func13, Tryd.ntmps13
  go_wp2_with fail
  go_region_held3 (fun w' => w'.cell? ⟨g, 0, none⟩ = some (.slice A n c)) (first | assumption | exact hx0)
    (first
    | (go_at_call 17; refine hsk.mono ?_; rintro e w4 ⟨i, rfl, hs, rfl⟩; clear hsk))
  go_wp2_with fail
  go_ret
  exact ⟨i, by first | rfl | (simp; done), hs, (Below.refl _ _).drew⟩
/-- what Int leaves -/
def IntOf (w : World) (g : Nat) (bs : List UInt8) (a : Nat) (e : Ending) (w' : World) : Prop :=
  (∃ i, Next bs a (.bad i) ∧ e = .returned (.tuple #[.int .i64 0, .int .i64 i, .int .i64 11]) ∧ Scn w' g bs a i ∧ Tch w w' fun k => k = g) ∨
  (Next bs a .none ∧ e = .returned (.tuple #[.int .i64 0, .int .i64 bs.length, .int .i64 2]) ∧ Scn w' g bs a (-1) ∧ Tch w w' fun k => k = g) ∨
  (∃ i j, Next bs a (.word i j) ∧ e = .returned (.tuple #[.int .i64 (readW (sub bs i j)).1, .int .i64 i, .int .i64 (readW (sub bs i j)).2]) ∧ Scn w' g bs j (-1) ∧ Tch w w' fun k => k = g)
theorem int_any (h : Scn w g bs a (-1)) (ha : a ≤ bs.length) (hn : bs.length ≤ 1000000) :
    Calls Tryd.prog 11 #[.pointer (some ⟨g, 0, none⟩)] w fun e w' => IntOf w g bs a e w' := by
  have hwd := word_any h ha hn
  clear h
  go_enter Tryd.func11, Tryd.ntmps11
  go_wp2_with fail
  refine hwd.mono ?_
  rintro e w1 (⟨i, h1, rfl, h2, h3⟩ | ⟨h1, rfl, h2, h3⟩ | ⟨i, j, h1, rfl, h2, h3⟩)
  · have HF := Lib.hid (And.intro h1 (And.intro h2 h3))
    clear hwd h1 h2 h3
    go_wp2_with fail
    go_ret3
    exact .inl ⟨i, HF.out.1, rfl, HF.out.2.1, HF.out.2.2⟩
  · have HF := Lib.hid (And.intro h1 (And.intro h2 h3))
    clear hwd h1 h2 h3
    go_wp2_with fail
    go_ret3
    exact .inr (.inl ⟨HF.out.1, rfl, HF.out.2.1, HF.out.2.2⟩)
  · have hj := h1.word_at.2.1.len
    have hrd := read_any (sub bs i j) w1 (by rw [sub_len hj]; omega)
    have HF := Lib.hid (And.intro h1 (And.intro h2 h3))
    clear hwd h1 h2 h3
    go_wp2_with fail
    refine hrd.mono ?_
    rintro e w2 ⟨rfl, hb⟩
    have H2 := Lib.hid (HF.out.2.1.below hb)
    have H3 := Lib.hid (HF.out.2.2.trans (Tch.of_below hb (fun _ => False)) fun _ _ h => h.elim)
    clear hrd hb
    go_wp2_with fail
    go_ret3
    exact .inr (.inr ⟨i, j, HF.out.1, rfl, H2.out, H3.out⟩)
end Go.Proofs.YtbdeghhoophkbaaDoor.scn
