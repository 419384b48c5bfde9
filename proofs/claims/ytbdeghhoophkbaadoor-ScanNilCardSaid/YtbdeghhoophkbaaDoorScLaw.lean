/- What the laws of a scan share: what is left of the words, the document's example, words of no bytes. -/
import Derived.Test.YtbdeghhoophkbaaDoorScInt
import Derived.Test.YtbdeghhoophkbaaDoorOpen
import Derived.Lib.SlBytesConst
namespace Go.Proofs.YtbdeghhoophkbaaDoor.scn
open Go Go.RowKit Go.ChangeShapes Go.WideShapes Go.ChangeAt Go.Proofs.YtbdeghhoophkbaaDoor.words
set_option linter.unusedVariables false
theorem bytes_of {xs : List Int} (h : ∀ x ∈ xs, (Lit.int .u8 x).wf = true) : ∃ bs : List UInt8, xs.map (Value.int .u8) = bv bs := by
  refine ⟨xs.map fun x => UInt8.ofNat x.toNat, ?_⟩
  unfold bv
  rw [List.map_map]
  refine List.map_congr_left fun x hx => ?_
  obtain ⟨y, rfl, hy⟩ := wf_u8 (h x hx)
  have : (UInt8.ofNat y).toNat = y := by rw [UInt8.toNat_ofNat']; omega
  simp [this]
/-- the words that are left from a on -/
def Lft (bs : List UInt8) (a : Nat) (r : List Wd) (bad : Int) : Prop := a ≤ bs.length ∧ ∃ z, Chain bs a r z ∧ ((bad = -1 ∧ Next bs z .none) ∨ ∃ b : Nat, bad = b ∧ Next bs z (.bad b))
theorem Told.left {bs : List UInt8} {l : List Wd} {bad : Int} (h : Told bs l bad) : Lft bs 0 l bad := ⟨Nat.zero_le _, h⟩
theorem Lft.step {bs : List UInt8} {a s : Nat} {v : List UInt8} {r : List Wd} {bad : Int} (h : Lft bs a ((v, s) :: r) bad) :
    ∃ j, Next bs a (.word s j) ∧ v = sub bs s j ∧ Lft bs j r bad ∧ s < j ∧ j ≤ bs.length ∧ v.length = j - s := by
  obtain ⟨h0, z, hc, h2⟩ := h
  cases hc with
  | cons h1 hk =>
    rename_i j
    have hw := h1.word_at
    exact ⟨j, h1, rfl, ⟨hw.2.1.len, z, hk, h2⟩, hw.2.2.2, hw.2.1.len, sub_len hw.2.1.len⟩
theorem Lft.last {bs : List UInt8} {a : Nat} {bad : Int} (h : Lft bs a [] bad) : (bad = -1 ∧ Next bs a .none) ∨ ∃ b : Nat, bad = b ∧ Next bs a (.bad b) := by
  obtain ⟨h0, z, hc, h2⟩ := h
  cases hc
  exact h2
theorem Chain.len {bs : List UInt8} {a z : Nat} {l : List Wd} (h : Chain bs a l z) : a ≤ bs.length → a + l.length ≤ z ∧ z ≤ bs.length := by
  induction h with
  | nil a => exact fun h => ⟨Nat.le_refl _, h⟩
  | cons h1 _ ih =>
    intro h0
    have hw := h1.word_at
    have := ih hw.2.1.len
    have := hw.1.le
    have := hw.2.2.2
    simp only [List.length_cons]
    omega
theorem Told.len {bs : List UInt8} {l : List Wd} {bad : Int} (h : Told bs l bad) : l.length ≤ bs.length := by
  obtain ⟨z, hc, _⟩ := h
  have := hc.len (Nat.zero_le _)
  omega
/-- there is more, if there is another word -/
theorem Skip.more {bs : List UInt8} {a i s j : Nat} (h : Skip bs a i) (hn : Next bs a (.word s j)) : decide (i < bs.length) = true := by
  have hw := hn.word_at
  rw [h.uniq hw.1]
  have := hw.2.1.len
  exact decide_eq_true (by omega)
theorem Skip.wrong {bs : List UInt8} {a i b : Nat} (h : Skip bs a i) (hn : Next bs a (.bad b)) : decide (i < bs.length) = true := by
  obtain ⟨j, h1, h2, h3⟩ := hn.bad_at
  rw [h.uniq h1]
  have := h3.1
  have := h2.le
  exact decide_eq_true (by omega)
theorem Skip.over {bs : List UInt8} {a i : Nat} (h : Skip bs a i) (hn : Next bs a .none) : decide (i < bs.length) = false := by
  rw [h.uniq hn.none_at]
  simp
section
variable {w w' w0 : World} {g : Nat} {bs : List UInt8} {a : Nat} {bad : Int} {l : List Wd} {A : Option Addr} {c : Nat}
/-- a row made before a scan lies apart from it -/
theorem Scn.own_apart (hs : Scn w g bs a bad) {e : TypeId} {v : Value} {n base : Nat} {xs : List Value} (ho : w.ownsRow base e 1 v n xs) (he : e ≠ 43) (ht : Tch w w' fun k => k = g) : w'.ownsRow base e 1 v n xs := by
  obtain ⟨_, _, hb, _⟩ := hs
  exact ht.own ho fun q hq e => own_blk_ne ho hb (by assumption) (by rw [hq, e])
theorem scn_bel {B : Nat} (hb : Below B w w') {w'' : World} (hg : B ≤ g) (hB : B ≤ w.heap.size) (ht : Tch w' w'' fun k => k = g) : Below B w w'' := hb.trans (ht.below (Nat.le_trans hB hb.size) fun i hi e => by omega)
end
/-! the example -/
def exB : List UInt8 := [49, 50, 32, 45, 120]
theorem ex_one : Next exB 0 (.word 0 2) :=
  ⟨0, 2, ⟨by decide, by decide, fun j h1 h2 => by omega, fun _ => by decide⟩, ⟨by decide, by decide, fun q h1 h2 => by
    have : q = 0 ∨ q = 1 := by omega
    rcases this with rfl | rfl <;> decide, fun _ => by decide⟩, .inr (.inr ⟨fun h => absurd h.2 (by decide), by decide, rfl⟩)⟩
theorem ex_two : Next exB 2 (.word 3 5) :=
  ⟨3, 5, ⟨by decide, by decide, fun j h1 h2 => by
    obtain rfl : j = 2 := by omega
    decide, fun _ => by decide⟩, ⟨by decide, by decide, fun q h1 h2 => by
    have : q = 3 ∨ q = 4 := by omega
    rcases this with rfl | rfl <;> decide, fun h => absurd h (by decide)⟩, .inr (.inr ⟨fun h => absurd h.1 (by decide), by decide, rfl⟩)⟩
theorem ex_r1 : readW (sub exB 0 2) = (12, 0) := by decide
theorem ex_r2 : readW (sub exB 3 5) = (0, 4) := by decide
theorem awake_any (w : World) : Calls Tryd.prog 5 #[] w fun e w' => e = .returned (.bool true) ∧ Below w.heap.size w w' := by
  have kc := fun (w : World) (C : Array Value) (n c : Nat) => Lib.run_convert_bytes_const (P := Tryd.prog) w 38 5 C n c Tryd.underlying38 Tryd.underlying5
  have hl : Reads (w.alloc (.cells #[.int .u8 49, .int .u8 50, .int .u8 32, .int .u8 45, .int .u8 120] 5 (5, 6))) (w.alloc (.cells #[.int .u8 49, .int .u8 50, .int .u8 32, .int .u8 45, .int .u8 120] 5 (5, 6))).heap.size 1 (some ⟨w.heap.size, 0, none⟩) 5 (bv exB) := by
    refine ⟨rfl, fun _ => ⟨_, rfl, by simp, fun j u hu => ?_⟩⟩
    have e : (Addr.add ⟨w.heap.size, 0, none⟩ j) = ⟨w.heap.size, j, none⟩ := by unfold Addr.add; split <;> simp_all
    rw [e, World.cell?_alloc_mark]
    simpa [bv, exB] using hu
  have hbl := bone w (.cells #[.int .u8 49, .int .u8 50, .int .u8 32, .int .u8 45, .int .u8 120] 5 (5, 6))
  have hnw := new_any _ 5 5 exB _ (by omega) hl
  clear hl
  go_enter Tryd.func5, Tryd.ntmps5
  go_wp2_with fail
  refine hnw.mono ?_
  rintro e w1 ⟨g, rfl, h1, hg, hb1⟩
  have hB1 := bto hbl hb1
  have hgw : w.heap.size ≤ g := by have := hbl.size; omega
  have hi1 := int_any h1 (Nat.zero_le _) (by decide)
  clear hnw h1
  go_wp2_with fail
  refine hi1.mono ?_
  rintro e w2 (⟨i, k1, _⟩ | ⟨k1, _⟩ | ⟨i, j, k1, rfl, h2, ht2⟩)
  · cases k1.uniq ex_one
  · cases k1.uniq ex_one
  cases k1.uniq ex_one
  rw [ex_r1]
  have hB2 := scn_bel hB1 hgw (Nat.le_refl _) ht2
  have hi2 := int_any h2 (by decide) (by decide)
  clear hi1 h2
  go_wp2_with fail
  refine hi2.mono ?_
  rintro e w3 (⟨i, k2, _⟩ | ⟨k2, _⟩ | ⟨i, j, k2, rfl, h3, ht3⟩)
  · cases k2.uniq ex_two
  · cases k2.uniq ex_two
  cases k2.uniq ex_two
  rw [ex_r2]
  have hB3 := scn_bel hB2 hgw (Nat.le_refl _) ht3
  clear hi2 h3
  go_wp2_with fail
  go_ret
  exact ⟨rfl, hB3⟩
end Go.Proofs.YtbdeghhoophkbaaDoor.scn
