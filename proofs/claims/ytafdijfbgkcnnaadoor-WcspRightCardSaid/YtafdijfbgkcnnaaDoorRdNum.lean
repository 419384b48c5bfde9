/- The reader's number. -/
import Derived.Test.YtafdijfbgkcnnaaDoorRdWord
namespace Go.Proofs.YtafdijfbgkcnnaaDoor.wcp
open Go Go.RowKit Go.ChangeShapes Go.WideShapes Go.ChangeAt Go.Proofs.YtafdijfbgkcnnaaDoor.words Go.Proofs.YtafdijfbgkcnnaaDoor.scn
set_option linter.unusedVariables false
variable {w : World} {gr gs : Nat} {bs : List UInt8} {wb : Int} {s : Ps} {sv : Value}
theorem Rok.below {w' : World} (h : Rok w gr gs bs wb s sv) (hb : Below w.heap.size w w') : Rok w' gr gs bs wb s sv := by
  obtain ⟨a, big, badAt, bigAt, hr, hs, hl, hg⟩ := h
  exact ⟨a, big, badAt, bigAt, Blk.under hr hb, hs.below hb, hl, hg⟩
def NumR (w : World) (gr gs : Nat) (bs : List UInt8) (wb : Int) (lo hi : Int) (s : Ps) (sv : Value) (e : Ending) (w' : World) : Prop :=
  ∃ (n x : Int), e = .returned (.tuple #[.int .i64 n, .int .i64 x]) ∧ Tch w w' (fun k => k = gr ∨ k = gs) ∧
    match pnum (enOf bs wb) (eeOf wb) lo hi s with
    | .ok v s' => n = v.1 ∧ x = v.2 ∧ Rok w' gr gs bs wb s' sv
    | .bad er at_ => n = 0 ∧ Rbad w' gr gs er at_ sv
set_option maxHeartbeats 4000000 in
theorem rnum_any (h : Rok w gr gs bs wb s sv) (hne : gr ≠ gs) (hn : bs.length ≤ 1000000) (lo hi : Int) :
    Calls Tryd.prog 32 #[.pointer (some ⟨gr, 0, none⟩), .int .i64 lo, .int .i64 hi] w fun e w' => NumR w gr gs bs wb lo hi s sv e w' := by
  have hw := rword_any h hne hn
  clear h
  go_enter Tryd.func32, Tryd.ntmps32
  go_wp2_with fail
  refine hw.mono ?_
  rintro e w1 ⟨v, x, rfl, hvl, ht1, hm⟩
  have HT := Lib.hid ht1
  clear hw ht1
  cases hp : pword (enOf bs wb) (eeOf wb) s with
  | bad er at_ =>
    rw [hp] at hm
    dsimp only at hm
    obtain ⟨big, bigAt, told, hr, he⟩ := hm
    have hok := ok_any hr
    rw [decide_eq_false he] at hok
    have HR := Lib.hid (show Rbad w1 gr gs er at_ sv from ⟨big, bigAt, told, hr, he⟩)
    have HP := Lib.hid hp
    clear hr he hp
    go_wp2_with fail
    refine hok.mono ?_
    rintro e w2 ⟨rfl, rfl⟩
    clear hok
    go_wp2_with fail
    go_ret2
    refine ⟨0, x, rfl, HT.out, ?_⟩
    unfold pnum
    rw [HP.out, Res.bind_bad]
    exact ⟨rfl, HR.out⟩
  | ok wd s' =>
    rw [hp] at hm
    dsimp only at hm
    obtain ⟨hv, hx, hm⟩ := hm
    have HRK := Lib.hid hm
    obtain ⟨a, big, badAt, bigAt, hr, hs, hl, hg⟩ := hm
    have hok := ok_any hr
    rw [decide_eq_true rfl] at hok
    have hrd := read_any v w1 (by omega)
    obtain ⟨N, hN⟩ : ∃ N, (readW v).1 = N := ⟨_, rfl⟩
    obtain ⟨E, hE⟩ : ∃ E, (readW v).2 = E := ⟨_, rfl⟩
    rw [hN, hE] at hrd
    have HP := Lib.hid hp
    have HX := Lib.hid hx
    have HN : Hid ((readW wd.1).1 = N ∧ (readW wd.1).2 = E) := by rw [hv] at hN hE; exact ⟨hN, hE⟩
    have HR := Lib.hid hr
    clear hr hs hl hg hp hx hN hE hv
    go_wp2_with fail
    refine hok.mono ?_
    rintro e w2 ⟨rfl, rfl⟩
    clear hok
    go_wp2_with fail
    refine hrd.mono ?_
    rintro e w4 ⟨rfl, hb4⟩
    have hrb := Blk.under HR.out hb4
    clear hrd
    have HRK4 := Lib.hid (HRK.out.below hb4)
    by_cases hE : E = 0
    · subst hE
      by_cases h1 : N < lo
      · have d1 : decide (N < lo) = true := decide_eq_true h1
        have HC : Hid ((readW wd.1).2 ≠ 0 ∨ (readW wd.1).1 < lo ∨ (readW wd.1).1 > hi) := .inr (.inl (by rw [HN.out.1]; exact h1))
        clear h1
        have hwr := wrong_any hrb 4 x
        go_wp2_with fail
        refine hwr.mono ?_
        rintro e w5 ⟨⟨u, rfl⟩, hc, ht5⟩
        go_wp2_with fail
        go_ret2
        refine ⟨0, x, rfl, ((HT.out.trans (Tch.of_below hb4 (fun k => k = gr ∨ k = gs)) fun _ _ h => h).trans (ht5.mono (S' := fun k => k = gr ∨ k = gs) fun k _ h => Or.inl h) fun _ _ h => h), ?_⟩
        unfold pnum
        rw [HP.out, Res.bind_ok, if_pos HC.out]
        refine ⟨rfl, ?_⟩
        rcases hc with ⟨_, hc⟩ | ⟨h0, _⟩
        · rw [← HX.out]; exact ⟨_, _, _, hc, by decide⟩
        · exact absurd rfl h0
      · have d1 : decide (N < lo) = false := decide_eq_false h1
        by_cases h2 : hi < N
        · have d2 : decide (hi < N) = true := decide_eq_true h2
          have HC : Hid ((readW wd.1).2 ≠ 0 ∨ (readW wd.1).1 < lo ∨ (readW wd.1).1 > hi) := .inr (.inr (by rw [HN.out.1]; exact h2))
          clear h1 h2
          have hwr := wrong_any hrb 4 x
          go_wp2_with fail
          refine hwr.mono ?_
          rintro e w5 ⟨⟨u, rfl⟩, hc, ht5⟩
          go_wp2_with fail
          go_ret2
          refine ⟨0, x, rfl, ((HT.out.trans (Tch.of_below hb4 (fun k => k = gr ∨ k = gs)) fun _ _ h => h).trans (ht5.mono (S' := fun k => k = gr ∨ k = gs) fun k _ h => Or.inl h) fun _ _ h => h), ?_⟩
          unfold pnum
          rw [HP.out, Res.bind_ok, if_pos HC.out]
          refine ⟨rfl, ?_⟩
          rcases hc with ⟨_, hc⟩ | ⟨h0, _⟩
          · rw [← HX.out]; exact ⟨_, _, _, hc, by decide⟩
          · exact absurd rfl h0
        · have d2 : decide (hi < N) = false := decide_eq_false h2
          have HC : Hid (¬ ((readW wd.1).2 ≠ 0 ∨ (readW wd.1).1 < lo ∨ (readW wd.1).1 > hi)) := by rw [Hid, HN.out.1, HN.out.2]; omega
          clear h1 h2
          go_wp2_with fail
          go_ret2
          refine ⟨N, x, rfl, HT.out.trans (Tch.of_below hb4 (fun k => k = gr ∨ k = gs)) fun _ _ h => h, ?_⟩
          unfold pnum
          rw [HP.out, Res.bind_ok, if_neg HC.out]
          exact ⟨HN.out.1.symm, HX.out, HRK4.out⟩
    · have hEb : (E != 0) = true := by simp [hE]
      have HC : Hid ((readW wd.1).2 ≠ 0 ∨ (readW wd.1).1 < lo ∨ (readW wd.1).1 > hi) := .inl (by rw [HN.out.2]; exact hE)
      clear hE
      have hwr := wrong_any hrb 4 x
      go_wp2_with fail
      refine hwr.mono ?_
      rintro e w5 ⟨⟨u, rfl⟩, hc, ht5⟩
      go_wp2_with fail
      go_ret2
      refine ⟨0, x, rfl, ((HT.out.trans (Tch.of_below hb4 (fun k => k = gr ∨ k = gs)) fun _ _ h => h).trans (ht5.mono (S' := fun k => k = gr ∨ k = gs) fun k _ h => Or.inl h) fun _ _ h => h), ?_⟩
      unfold pnum
      rw [HP.out, Res.bind_ok, if_pos HC.out]
      refine ⟨rfl, ?_⟩
      rcases hc with ⟨_, hc⟩ | ⟨h0, _⟩
      · rw [← HX.out]; exact ⟨_, _, _, hc, by decide⟩
      · exact absurd rfl h0
theorem rnum_bad {er at_ : Int} (h : Rbad w gr gs er at_ sv) (lo hi : Int) : Calls Tryd.prog 32 #[.pointer (some ⟨gr, 0, none⟩), .int .i64 lo, .int .i64 hi] w fun e w' => e = .returned (.tuple #[.int .i64 0, .int .i64 0]) ∧ w = w' := by
  have hw := rword_bad h
  obtain ⟨big, bigAt, told, hr, he⟩ := h
  have hok := ok_any hr
  rw [decide_eq_false he] at hok
  clear hr he
  go_enter Tryd.func32, Tryd.ntmps32
  go_wp2_with fail
  refine hw.mono ?_
  rintro e w1 ⟨rfl, rfl⟩
  clear hw
  go_wp2_with fail
  refine hok.mono ?_
  rintro e w1 ⟨rfl, rfl⟩
  clear hok
  go_wp2_with fail
  go_ret2
  exact ⟨rfl, rfl⟩
end Go.Proofs.YtafdijfbgkcnnaaDoor.wcp
