/- A scan's words, counted. -/
import Derived.Test.YtafdijfbgkcnnaaDoorScLaw
import Derived.WalkMore
namespace Go.Proofs.YtafdijfbgkcnnaaDoor.scn
open Go Go.RowKit Go.ChangeShapes Go.WideShapes Go.ChangeAt Go.Proofs.YtafdijfbgkcnnaaDoor.words
set_option linter.unusedVariables false
def CountOf (n : Nat) (m : Nat) (bad : Int) (w : World) (e : Ending) (w' : World) : Prop :=
  ∃ en er : Int, e = .returned (.tuple #[.int .i64 m, .int .i64 en, .int .i64 er]) ∧ ((bad = -1 ∧ en = n ∧ er = 0) ∨ (0 ≤ bad ∧ en = bad ∧ er = 11)) ∧ Below w.heap.size w w'
theorem count_any (A : Option Addr) (n cap : Nat) (bs : List UInt8) (l : List Wd) (bad : Int) (w : World) (hn : n ≤ 1000000) (hl : bs.length = n) (hr : Reads w w.heap.size 1 A n (bv bs)) (hT : Told bs l bad) :
    Calls Tryd.prog 78 #[.slice A n cap] w fun e w' => CountOf n l.length bad w e w' := by
  have hnw := new_any A n cap bs w hn hr
  have hm63 : l.length ≤ 1000000 := by have := hT.len; omega
  obtain ⟨m, hm⟩ : ∃ m, l.length = m := ⟨_, rfl⟩
  have HM := Lib.hid hm
  have HL := Lib.hid hl
  have HT := Lib.hid hT
  rw [hm] at hm63 ⊢
  clear hr hl hm hT
  go_enter Tryd.func78, Tryd.ntmps78
  go_wp2_with fail
  go_step3
  go_wp2_with fail
  refine hnw.mono ?_
  rintro e w1 ⟨g, rfl, hs1, hg, hb1⟩
  clear hnw
  go_wp2_with fail
  go_step3
  go_wp2_with fail
  go_loopw [6] (fun kv wr => ∃ (k a : Nat) (r : List Wd), kv = .int .i64 k ∧ k + r.length = m ∧ Lft bs a r bad ∧ Scn wr g bs a (-1) ∧ Below w.heap.size w wr) (fun kv _ => m - (intOf kv).toNat)
  case atStart => exact ⟨0, 0, l, rfl, by rw [HM.out]; omega, HT.out.left, hs1, hb1⟩
  case round =>
    obtain ⟨k, a, r, rfl, hk, hleft, hs, hB⟩ := hrel
    have hwd := word_any hs hleft.1 (by rw [HL.out]; exact hn)
    have HLF := Lib.hid hleft
    have HK := Lib.hid hk
    have hkm : k ≤ m := by omega
    have hBs := hB.size
    clear hs hleft hk
    go_wp2_with fail
    refine hwd.mono ?_
    rintro e w2 (⟨i, k1, rfl, hs2, ht⟩ | ⟨k1, rfl, hs2, ht⟩ | ⟨i, j, k1, rfl, hs2, ht⟩)
    · have hB2 := Lib.hid (scn_bel hB hg (Nat.le_refl _) ht)
      have hbad : Hid (r = [] ∧ bad = (i : Int)) := by
        cases r with
        | nil =>
          rcases HLF.out.last with ⟨_, h2⟩ | ⟨b, rfl, h2⟩
          · cases k1.uniq h2
          · cases k1.uniq h2; exact ⟨rfl, rfl⟩
        | cons x r =>
          obtain ⟨v, s⟩ := x
          obtain ⟨j, h2, _⟩ := HLF.out.step
          cases k1.uniq h2
      clear hwd k1 ht hs2
      go_wp2_with fail
      try rw [Exit.noGoto_ret]
      go_ret3
      refine ⟨i, 11, ?_, .inr ⟨by rw [hbad.out.2]; omega, hbad.out.2.symm, rfl⟩, hB2.out⟩
      have := HK.out
      rw [hbad.out.1] at this
      simp at this
      rw [this]
      try rfl
    · have hB2 := Lib.hid (scn_bel hB hg (Nat.le_refl _) ht)
      have hbad : Hid (r = [] ∧ bad = -1) := by
        cases r with
        | nil =>
          rcases HLF.out.last with ⟨h1, h2⟩ | ⟨b, rfl, h2⟩
          · exact ⟨rfl, h1⟩
          · cases k1.uniq h2
        | cons x r =>
          obtain ⟨v, s⟩ := x
          obtain ⟨j, h2, _⟩ := HLF.out.step
          cases k1.uniq h2
      clear hwd k1 ht hs2
      rw [HL.out]
      go_wp2_with fail
      try rw [Exit.noGoto_ret]
      go_ret3
      refine ⟨n, 0, ?_, .inl ⟨hbad.out.2, rfl, rfl⟩, hB2.out⟩
      have := HK.out
      rw [hbad.out.1] at this
      simp at this
      rw [this]
      try rfl
    · have hB2 := Lib.hid (scn_bel hB hg (Nat.le_refl _) ht)
      obtain ⟨v, s, r', rfl⟩ : ∃ v s r', r = (v, s) :: r' := by
        cases r with
        | nil =>
          rcases HLF.out.last with ⟨_, h2⟩ | ⟨b, _, h2⟩
          · cases k1.uniq h2
          · cases k1.uniq h2
        | cons x r => exact ⟨x.1, x.2, r, rfl⟩
      obtain ⟨j2, h2, _, hl2, _⟩ := HLF.out.step
      cases k1.uniq h2
      have HL2 := Lib.hid hl2
      have hlt : k < m := by have := HK.out; simp at this; omega
      have kI : (k : Int) + 1 ≤ (m : Int) := by omega
      have HS := Lib.hid hs2
      clear hwd k1 ht h2 hl2 hs2
      go_wp2_with fail
      go_roundw
      case rel => exact ⟨k + 1, j, r', by go_num, by have := HK.out; simp at this; omega, HL2.out, HS.out, hB2.out⟩
      case measure => simp [intOf]; omega
end Go.Proofs.YtafdijfbgkcnnaaDoor.scn
