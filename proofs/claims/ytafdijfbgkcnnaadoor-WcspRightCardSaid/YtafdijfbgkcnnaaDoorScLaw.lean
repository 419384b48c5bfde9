/- What the laws of a scan share: what is left of the words, the document's example, words of no bytes. -/
import Derived.Test.YtafdijfbgkcnnaaDoorScWords
import Derived.Test.YtafdijfbgkcnnaaDoorOpen
import Derived.Lib.SlBytesConst
namespace Go.Proofs.YtafdijfbgkcnnaaDoor.scn
open Go Go.RowKit Go.ChangeShapes Go.WideShapes Go.ChangeAt Go.Proofs.YtafdijfbgkcnnaaDoor.words
set_option linter.unusedVariables false
theorem bytes_of {xs : List Int} (h : ∀ x ∈ xs, (Lit.int .u8 x).wf = true) : ∃ bs : List UInt8, xs.map (Value.int .u8) = bv bs := by
  refine ⟨xs.map fun x => UInt8.ofNat x.toNat, ?_⟩
  unfold bv
  rw [List.map_map]
  refine List.map_congr_left fun x hx => ?_
  obtain ⟨y, rfl, hy⟩ := wf_u8 (h x hx)
  have : (UInt8.ofNat y).toNat = y := by rw [UInt8.toNat_ofNat']; omega
  simp [this]
/-- the words that are left from a on -/
def Lft (bs : List UInt8) (a : Nat) (r : List Wd) (bad : Int) : Prop := a ≤ bs.length ∧ ∃ z, Chain bs a r z ∧ ((bad = -1 ∧ Next bs z .none) ∨ ∃ b : Nat, bad = b ∧ Next bs z (.bad b))
theorem Told.left {bs : List UInt8} {l : List Wd} {bad : Int} (h : Told bs l bad) : Lft bs 0 l bad := ⟨Nat.zero_le _, h⟩
theorem Lft.step {bs : List UInt8} {a s : Nat} {v : List UInt8} {r : List Wd} {bad : Int} (h : Lft bs a ((v, s) :: r) bad) :
    ∃ j, Next bs a (.word s j) ∧ v = sub bs s j ∧ Lft bs j r bad ∧ s < j ∧ j ≤ bs.length ∧ v.length = j - s := by
  obtain ⟨h0, z, hc, h2⟩ := h
  cases hc with
  | cons h1 hk =>
    rename_i j
    have hw := h1.word_at
    exact ⟨j, h1, rfl, ⟨hw.2.1.len, z, hk, h2⟩, hw.2.2.2, hw.2.1.len, sub_len hw.2.1.len⟩
theorem Lft.last {bs : List UInt8} {a : Nat} {bad : Int} (h : Lft bs a [] bad) : (bad = -1 ∧ Next bs a .none) ∨ ∃ b : Nat, bad = b ∧ Next bs a (.bad b) := by
  obtain ⟨h0, z, hc, h2⟩ := h
  cases hc
  exact h2
theorem Chain.len {bs : List UInt8} {a z : Nat} {l : List Wd} (h : Chain bs a l z) : a ≤ bs.length → a + l.length ≤ z ∧ z ≤ bs.length := by
  induction h with
  | nil a => exact fun h => ⟨Nat.le_refl _, h⟩
  | cons h1 _ ih =>
    intro h0
    have hw := h1.word_at
    have := ih hw.2.1.len
    have := hw.1.le
    have := hw.2.2.2
    simp only [List.length_cons]
    omega
theorem Told.len {bs : List UInt8} {l : List Wd} {bad : Int} (h : Told bs l bad) : l.length ≤ bs.length := by
  obtain ⟨z, hc, _⟩ := h
  have := hc.len (Nat.zero_le _)
  omega
/-- there is more, if there is another word -/
theorem Skip.more {bs : List UInt8} {a i s j : Nat} (h : Skip bs a i) (hn : Next bs a (.word s j)) : decide (i < bs.length) = true := by
  have hw := hn.word_at
  rw [h.uniq hw.1]
  have := hw.2.1.len
  exact decide_eq_true (by omega)
theorem Skip.wrong {bs : List UInt8} {a i b : Nat} (h : Skip bs a i) (hn : Next bs a (.bad b)) : decide (i < bs.length) = true := by
  obtain ⟨j, h1, h2, h3⟩ := hn.bad_at
  rw [h.uniq h1]
  have := h3.1
  have := h2.le
  exact decide_eq_true (by omega)
theorem Skip.over {bs : List UInt8} {a i : Nat} (h : Skip bs a i) (hn : Next bs a .none) : decide (i < bs.length) = false := by
  rw [h.uniq hn.none_at]
  simp
section
variable {w w' w0 : World} {g : Nat} {bs : List UInt8} {a : Nat} {bad : Int} {l : List Wd} {A : Option Addr} {c : Nat}
theorem Row.at_ (h : Row w0 l A c w) {i s : Nat} {v : List UInt8} (hi : l[i]? = some (v, s)) : ∃ q, A = some ⟨q, 0, none⟩ ∧ w.cell? ⟨q, i * 2, none⟩ = some (strV v) ∧ w.cell? ⟨q, i * 2 + 1, none⟩ = some (.int .i64 s) := by
  have hlt : i < l.length := (List.getElem?_eq_some_iff.1 hi).1
  unfold Row at h
  obtain ⟨q, rfl, _, _⟩ := own_some h (by omega)
  have g0 := flat_get wv 2 (fun _ => rfl) l i 0 _ hi (by omega)
  have g1 := flat_get wv 2 (fun _ => rfl) l i 1 _ hi (by omega)
  exact ⟨q, rfl, (h.cellAt (i * 2) (by omega)).trans g0, (h.cellAt (i * 2 + 1) (by omega)).trans g1⟩
theorem Row.below (h : Row w0 l A c w) (hb : Below w.heap.size w w') : Row w0 l A c w' := own_under h hb
theorem Row.scn (h : Row w0 l A c w) {bs : List UInt8} {a : Nat} {bad : Int} (hs : Scn w g bs a bad) (ht : Tch w w' fun k => k = g) : Row w0 l A c w' := by
  obtain ⟨_, _, hb, _⟩ := hs
  exact ht.own h fun q hq e => own_blk_ne h hb (by decide) (by rw [hq, e])
/-- a row made before a scan lies apart from it -/
theorem Scn.own_apart (hs : Scn w g bs a bad) {e : TypeId} {v : Value} {n base : Nat} {xs : List Value} (ho : w.ownsRow base e 1 v n xs) (he : e ≠ 138) (ht : Tch w w' fun k => k = g) : w'.ownsRow base e 1 v n xs := by
  obtain ⟨_, _, hb, _⟩ := hs
  exact ht.own ho fun q hq e => own_blk_ne ho hb (by assumption) (by rw [hq, e])
theorem scn_bel {B : Nat} (hb : Below B w w') {w'' : World} (hg : B ≤ g) (hB : B ≤ w.heap.size) (ht : Tch w' w'' fun k => k = g) : Below B w w'' := hb.trans (ht.below (Nat.le_trans hB hb.size) fun i hi e => by omega)
end
/-- words of nothing -/
theorem words_nil (c : Nat) (w : World) : Calls Tryd.prog 39 #[.slice none 0 c] w fun e w' => WordsOf [] w e w' := by
  go_enter Tryd.func39, Tryd.ntmps39
  go_wp2_with fail
  go_loopw [4, 5, 10] (fun lv ov jv wr => jv = .int .i64 0 ∧ lv = .slice none 0 0 ∧ w = wr) (fun _ _ jv _ => 0)
  case atStart => exact ⟨rfl, rfl, rfl⟩
  case round =>
    obtain ⟨rfl, rfl, rfl⟩ := hrel
    go_wp2_with fail
    go_ret2
    exact ⟨[], -1, none, 0, rfl, (far_zero []).ends, World.ownsRow_nil _ _ _ _, Below.refl _ _⟩
theorem words_all (A : Option Addr) (n cap B : Nat) (bs : List UInt8) (w : World) (hl : bs.length = n) (hn : n ≤ 1000) (ho : w.ownsRow B 5 1 (.slice A n cap) n (bv bs)) :
    Calls Tryd.prog 39 #[.slice A n cap] w fun e w' => WordsOf bs w e w' := by
  rcases ho.2 with ⟨h0, h1⟩ | ⟨q, cap', cur, hv, _⟩
  · subst h1
    obtain rfl : bs = [] := List.eq_nil_of_length_eq_zero hl
    injection h0 with h2 h3 h4
    subst h2; subst h4
    exact words_nil _ w
  · injection hv with h2 h3 h4
    subst h2
    exact words_any q n cap B bs w hl hn ho
end Go.Proofs.YtafdijfbgkcnnaaDoor.scn
