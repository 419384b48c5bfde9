/- The reader: word, number. -/
import Derived.Test.YtafdijfbgkcnnaaDoorRdr
namespace Go.Proofs.YtafdijfbgkcnnaaDoor.wcp
open Go Go.RowKit Go.ChangeShapes Go.WideShapes Go.ChangeAt Go.Proofs.YtafdijfbgkcnnaaDoor.words Go.Proofs.YtafdijfbgkcnnaaDoor.scn
set_option linter.unusedVariables false
/-- words that are left from a on, and what stands behind them: -1, or a wrong byte's place -/
def Lf (bs : List UInt8) (a : Nat) (r : List Wd) (wb : Int) : Prop := a ≤ bs.length ∧ ∃ z, Chain bs a r z ∧ ((wb = -1 ∧ scn.Next bs z .none) ∨ ∃ b : Nat, wb = b ∧ scn.Next bs z (.bad b))
def enOf (bs : List UInt8) (wb : Int) : Int := if wb = -1 then bs.length else wb
def eeOf (wb : Int) : Int := if wb = -1 then 4 else 11
/-- the reader goes on -/
def Rok (w : World) (gr gs : Nat) (bs : List UInt8) (wb : Int) (s : Ps) (sv : Value) : Prop :=
  ∃ (a : Nat) (big badAt bigAt : Int), RdB w gr gs 0 big badAt bigAt s.told sv ∧ Scn w gs bs a (-1) ∧ Lf bs a s.l wb ∧ ((s.big = none ∧ big = 0) ∨ ∃ x, s.big = some x ∧ big = 5 ∧ bigAt = x)
/-- it stopped: e at x -/
def Rbad (w : World) (gr gs : Nat) (e x : Int) (sv : Value) : Prop := ∃ (big bigAt told : Int), RdB w gr gs e big x bigAt told sv ∧ e ≠ 0
variable {w : World} {gr gs : Nat} {bs : List UInt8} {wb : Int} {s : Ps} {sv : Value}
def WordR (w : World) (gr gs : Nat) (bs : List UInt8) (wb : Int) (s : Ps) (sv : Value) (e : Ending) (w' : World) : Prop :=
  ∃ (v : List UInt8) (x : Int), e = .returned (.tuple #[strV v, .int .i64 x]) ∧ v.length ≤ bs.length ∧ Tch w w' (fun k => k = gr ∨ k = gs) ∧
    match pword (enOf bs wb) (eeOf wb) s with
    | .ok wd s' => v = wd.1 ∧ x = wd.2 ∧ Rok w' gr gs bs wb s' sv
    | .bad er at_ => Rbad w' gr gs er at_ sv
theorem lf_none {a z : Nat} {l : List Wd} (hx : scn.Next bs a .none) (hch : Chain bs a l z) (hz : (wb = -1 ∧ scn.Next bs z .none) ∨ ∃ b : Nat, wb = b ∧ scn.Next bs z (.bad b)) : l = [] ∧ wb = -1 := by
  cases hch with
  | nil =>
    rcases hz with ⟨h, _⟩ | ⟨b, _, h⟩
    · exact ⟨rfl, h⟩
    · exact Nx.noConfusion (hx.uniq h)
  | cons h _ => exact Nx.noConfusion (hx.uniq h)
theorem lf_bad {a z i : Nat} {l : List Wd} (hx : scn.Next bs a (.bad i)) (hch : Chain bs a l z) (hz : (wb = -1 ∧ scn.Next bs z .none) ∨ ∃ b : Nat, wb = b ∧ scn.Next bs z (.bad b)) : l = [] ∧ wb = i := by
  cases hch with
  | nil =>
    rcases hz with ⟨_, h⟩ | ⟨b, hb, h⟩
    · exact Nx.noConfusion (hx.uniq h)
    · have := hx.uniq h
      injection this with this
      subst this
      exact ⟨rfl, hb⟩
  | cons h _ => exact Nx.noConfusion (hx.uniq h)
theorem lf_word {a z i j : Nat} {l : List Wd} (hx : scn.Next bs a (.word i j)) (hch : Chain bs a l z) (hz : (wb = -1 ∧ scn.Next bs z .none) ∨ ∃ b : Nat, wb = b ∧ scn.Next bs z (.bad b)) : ∃ r, l = (sub bs i j, i) :: r ∧ Chain bs j r z := by
  cases hch with
  | nil =>
    rcases hz with ⟨_, h⟩ | ⟨b, _, h⟩
    · exact Nx.noConfusion (hx.uniq h)
    · exact Nx.noConfusion (hx.uniq h)
  | cons h k =>
    have := hx.uniq h
    injection this with h1 h2
    subst h1 h2
    exact ⟨_, rfl, k⟩
set_option maxHeartbeats 4000000 in
theorem rword_any (h : Rok w gr gs bs wb s sv) (hne : gr ≠ gs) (hn : bs.length ≤ 1000000) :
    Calls Tryd.prog 30 #[.pointer (some ⟨gr, 0, none⟩)] w fun e w' => WordR w gr gs bs wb s sv e w' := by
  obtain ⟨a, big, badAt, bigAt, hr, hs, ⟨ha, z, hch, hz⟩, hbig⟩ := h
  obtain ⟨c0, c1, c2, c3, c4, c5, c6, cf⟩ := hr.cells
  have hok := ok_any hr
  have hw := word_any hs ha hn
  have HR := Lib.hid hr
  have HBIG := Lib.hid hbig
  have HCH := Lib.hid hch
  have HZ := Lib.hid hz
  clear hr hs hbig hch hz c1 c2 c3 c4 c5 c6 cf
  go_enter Tryd.func30, Tryd.ntmps30
  go_wp2_with fail
  refine hok.mono ?_
  rintro e w1 ⟨rfl, rfl⟩
  clear hok
  go_wp2_with fail
  refine hw.mono ?_
  rintro e w2 (⟨i, hx, rfl, hs2, ht2⟩ | ⟨hx, rfl, hs2, ht2⟩ | ⟨i, j, hx, rfl, hs2, ht2⟩)
  · have hr2 := ht2.blk HR.out hne
    have hwr := wrong_any hr2 11 i
    go_wp2_with fail
    refine hwr.mono ?_
    rintro e w3 ⟨⟨v, rfl⟩, hc, ht3⟩
    go_wp2_with fail
    go_ret2
    refine ⟨[], i, rfl, Nat.zero_le _, ((ht2.mono fun k _ h => Or.inr h).trans (ht3.mono (S' := fun k => k = gr ∨ k = gs) fun k _ h => Or.inl h) fun _ _ h => h), ?_⟩
    obtain ⟨hl, hb⟩ := lf_bad hx HCH.out HZ.out
    obtain ⟨l, bg, tl, sh⟩ := s
    dsimp only at hl
    subst hl
    rcases hc with ⟨_, hc⟩ | ⟨h0, _⟩
    · have e1 : eeOf wb = 11 := by unfold eeOf; rw [hb, if_neg (by omega)]
      have e2 : enOf bs wb = i := by unfold enOf; rw [hb, if_neg (by omega)]
      rw [e1, e2]
      exact ⟨_, _, _, hc, by decide⟩
    · exact absurd rfl h0
  · have hr2 := ht2.blk HR.out hne
    have hwr := wrong_any hr2 4 bs.length
    go_wp2_with fail
    refine hwr.mono ?_
    rintro e w3 ⟨⟨v, rfl⟩, hc, ht3⟩
    go_wp2_with fail
    go_ret2
    refine ⟨[], bs.length, rfl, Nat.zero_le _, ((ht2.mono fun k _ h => Or.inr h).trans (ht3.mono (S' := fun k => k = gr ∨ k = gs) fun k _ h => Or.inl h) fun _ _ h => h), ?_⟩
    obtain ⟨hl, hb⟩ := lf_none hx HCH.out HZ.out
    obtain ⟨l, bg, tl, sh⟩ := s
    dsimp only at hl
    subst hl
    rcases hc with ⟨_, hc⟩ | ⟨h0, _⟩
    · have e1 : eeOf wb = 4 := by unfold eeOf; rw [if_pos hb]
      have e2 : enOf bs wb = bs.length := by unfold enOf; rw [if_pos hb]
      rw [e1, e2]
      exact ⟨_, _, _, hc, by decide⟩
    · exact absurd rfl h0
  · go_wp2_with fail
    go_ret2
    refine ⟨_, i, rfl, by rw [sub_len hx.word_at.2.1.len]; have := hx.word_at.2.1.len; omega, ht2.mono fun k _ h => Or.inr h, ?_⟩
    obtain ⟨r, hl, hk⟩ := lf_word hx HCH.out HZ.out
    obtain ⟨l, bg, tl, sh⟩ := s
    dsimp only at hl
    subst hl
    exact ⟨rfl, rfl, j, big, badAt, bigAt, ht2.blk HR.out hne, hs2, ⟨hx.word_at.2.1.len, z, hk, HZ.out⟩, HBIG.out⟩
theorem rword_bad {er at_ : Int} (h : Rbad w gr gs er at_ sv) : Calls Tryd.prog 30 #[.pointer (some ⟨gr, 0, none⟩)] w fun e w' => e = .returned (.tuple #[strV [], .int .i64 0]) ∧ w = w' := by
  obtain ⟨big, bigAt, told, hr, he⟩ := h
  have hok := ok_any hr
  rw [decide_eq_false he] at hok
  clear hr he
  go_enter Tryd.func30, Tryd.ntmps30
  go_wp2_with fail
  refine hok.mono ?_
  rintro e w1 ⟨rfl, rfl⟩
  clear hok
  go_wp2_with fail
  go_ret2
  exact ⟨rfl, rfl⟩
end Go.Proofs.YtafdijfbgkcnnaaDoor.wcp
