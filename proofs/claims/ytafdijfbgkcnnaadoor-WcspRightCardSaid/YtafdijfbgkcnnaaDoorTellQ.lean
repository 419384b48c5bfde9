/- Every text has words; more behind a blank changes none of them: plain. -/
import Derived.Test.YtafdijfbgkcnnaaDoorAwk
namespace Go.Proofs.YtafdijfbgkcnnaaDoor.wcp
open Go Go.Proofs.YtafdijfbgkcnnaaDoor.scn
set_option linter.unusedVariables false
theorem skip_total (bs : List UInt8) : ∀ (d a : Nat), bs.length - a ≤ d → a ≤ bs.length → ∃ i, Skip bs a i := by
  intro d
  induction d with
  | zero => intro a h1 h2; exact ⟨a, Nat.le_refl _, h2, fun j h3 h4 => by omega, fun h => by omega⟩
  | succ d ih =>
    intro a h1 h2
    by_cases h : a < bs.length ∧ isB (at_ bs a) = true
    · obtain ⟨i, h3, h4, h5, h6⟩ := ih (a + 1) (by omega) (by omega)
      refine ⟨i, by omega, h4, fun j g1 g2 => ?_, h6⟩
      rcases Nat.lt_or_eq_of_le g1 with g | g
      · exact h5 j (by omega) g2
      · rw [← g]; exact h.2
    · exact ⟨a, Nat.le_refl _, h2, fun j h3 h4 => by omega, fun hl => by
        cases hb : isB (at_ bs a) with
        | false => rfl
        | true => exact absurd ⟨hl, hb⟩ h⟩
theorem ins_total (bs : List UInt8) : ∀ (d a : Nat), bs.length - a ≤ d → a ≤ bs.length → ∃ i, Ins bs a i := by
  intro d
  induction d with
  | zero => intro a h1 h2; exact ⟨a, Nat.le_refl _, h2, fun j h3 h4 => by omega, fun h => by omega⟩
  | succ d ih =>
    intro a h1 h2
    by_cases h : a < bs.length ∧ isIn (at_ bs a) = true
    · obtain ⟨i, h3, h4, h5, h6⟩ := ih (a + 1) (by omega) (by omega)
      refine ⟨i, by omega, h4, fun j g1 g2 => ?_, h6⟩
      rcases Nat.lt_or_eq_of_le g1 with g | g
      · exact h5 j (by omega) g2
      · rw [← g]; exact h.2
    · exact ⟨a, Nat.le_refl _, h2, fun j h3 h4 => by omega, fun hl => by
        cases hb : isIn (at_ bs a) with
        | false => rfl
        | true => exact absurd ⟨hl, hb⟩ h⟩
theorem next_total (bs : List UInt8) (a : Nat) (ha : a ≤ bs.length) : ∃ r, scn.Next bs a r := by
  obtain ⟨i, hi⟩ := skip_total bs _ a (Nat.le_refl _) ha
  obtain ⟨j, hj⟩ := ins_total bs _ i (Nat.le_refl _) hi.len
  by_cases hw : Wrong bs j
  · exact ⟨.bad j, i, j, hi, hj, .inl ⟨hw, rfl⟩⟩
  · rcases Nat.lt_or_eq_of_le hj.le with h | h
    · exact ⟨.word i j, i, j, hi, hj, .inr (.inr ⟨hw, h, rfl⟩)⟩
    · exact ⟨.none, i, j, hi, hj, .inr (.inl ⟨hw, h, rfl⟩)⟩
def EndAt (bs : List UInt8) (z : Nat) (wb : Int) : Prop := (wb = -1 ∧ scn.Next bs z .none) ∨ ∃ b : Nat, wb = b ∧ scn.Next bs z (.bad b)
theorem chain_total (bs : List UInt8) : ∀ (d a : Nat), bs.length - a ≤ d → a ≤ bs.length → ∃ l z wb, Chain bs a l z ∧ EndAt bs z wb := by
  intro d
  induction d with
  | zero =>
    intro a h1 h2
    obtain ⟨r, hr⟩ := next_total bs a h2
    cases r with
    | bad b => exact ⟨[], a, b, .nil a, .inr ⟨b, rfl, hr⟩⟩
    | none => exact ⟨[], a, -1, .nil a, .inl ⟨rfl, hr⟩⟩
    | word i j =>
      have hw := hr.word_at
      have := hw.1.le; have := hw.2.1.len; have := hw.2.2.2
      omega
  | succ d ih =>
    intro a h1 h2
    obtain ⟨r, hr⟩ := next_total bs a h2
    cases r with
    | bad b => exact ⟨[], a, b, .nil a, .inr ⟨b, rfl, hr⟩⟩
    | none => exact ⟨[], a, -1, .nil a, .inl ⟨rfl, hr⟩⟩
    | word i j =>
      have hw := hr.word_at
      have := hw.1.le; have := hw.2.1.len; have := hw.2.2.2
      obtain ⟨l, z, wb, hc, he⟩ := ih j (by omega) (by omega)
      exact ⟨_, z, wb, .cons hr hc, he⟩
theorem told_total (bs : List UInt8) : ∃ l wb, scn.Told bs l wb := by
  obtain ⟨l, z, wb, hc, he⟩ := chain_total bs _ 0 (Nat.le_refl _) (Nat.zero_le _)
  exact ⟨l, wb, z, hc, he⟩
theorem at_app {bs ext : List UInt8} {j : Nat} (h : j < bs.length) : at_ (bs ++ ext) j = at_ bs j := by
  unfold at_; simp [List.getD_eq_getElem?_getD, List.getElem?_append_left h]
theorem at_mid {bs ext : List UInt8} : at_ (bs ++ 32 :: ext) bs.length = 32 := by
  unfold at_; simp [List.getD_eq_getElem?_getD]
theorem sub_app {bs ext : List UInt8} {i j : Nat} (hj : j ≤ bs.length) : sub (bs ++ ext) i j = sub bs i j := by
  unfold sub; rw [List.take_append_of_le_length hj]
theorem skip_app {bs ext : List UInt8} {a i : Nat} (h : Skip bs a i) (hi : i < bs.length) : Skip (bs ++ ext) a i :=
  ⟨h.le, by simp; omega, fun j h1 h2 => by rw [at_app (by omega)]; exact h.all j h1 h2, fun _ => by rw [at_app hi]; exact h.stop hi⟩
/-- a word, or a wrong byte, stays -/
theorem word_app {bs ext : List UInt8} {a i j : Nat} (h : scn.Next bs a (.word i j)) : scn.Next (bs ++ 32 :: ext) a (.word i j) := by
  obtain ⟨h1, h2, h3, h4⟩ := h.word_at
  have hj := h2.len
  refine ⟨i, j, skip_app h1 (by omega), ⟨h2.le, by simp; omega, fun q g1 g2 => by rw [at_app (by omega)]; exact h2.all q g1 g2, fun _ => ?_⟩, .inr (.inr ⟨fun hw => ?_, h4, rfl⟩)⟩
  · rcases Nat.lt_or_eq_of_le hj with g | g
    · rw [at_app g]; exact h2.stop g
    · rw [g, at_mid]; rfl
  · rcases Nat.lt_or_eq_of_le hj with g | g
    · exact h3 ⟨g, by rw [← at_app g]; exact hw.2⟩
    · have := hw.2; rw [g, at_mid] at this; cases this
theorem bad_app {bs ext : List UInt8} {a b : Nat} (h : scn.Next bs a (.bad b)) : scn.Next (bs ++ ext) a (.bad b) := by
  obtain ⟨i, h1, h2, h3⟩ := h.bad_at
  have hb := h3.1
  have hi := h2.le
  exact ⟨i, b, skip_app h1 (by omega), ⟨h2.le, by simp; omega, fun q g1 g2 => by rw [at_app (by omega)]; exact h2.all q g1 g2, fun _ => by rw [at_app hb]; exact h2.stop hb⟩, .inl ⟨⟨by simp; omega, by rw [at_app hb]; exact h3.2⟩, rfl⟩⟩
theorem chain_app {bs ext : List UInt8} {a z : Nat} {l : List Wd} (h : Chain bs a l z) : Chain (bs ++ 32 :: ext) a l z := by
  induction h with
  | nil a => exact .nil a
  | cons h1 _ ih =>
    rename_i i j _ _ _
    have := Chain.cons (word_app (ext := ext) h1) ih
    rw [sub_app h1.word_at.2.1.len] at this
    exact this
theorem chain_join {bs : List UInt8} {a z y : Nat} {l m : List Wd} (h : Chain bs a l z) (k : Chain bs z m y) : Chain bs a (l ++ m) y := by
  induction h with
  | nil a => exact k
  | cons h1 _ ih => exact .cons h1 (ih k)
theorem chain_end {bs : List UInt8} {a z : Nat} {l : List Wd} (h : Chain bs a l z) : a ≤ bs.length → z ≤ bs.length := by
  induction h with
  | nil a => exact id
  | cons h1 _ ih => exact fun _ => ih h1.word_at.2.1.len
theorem told_more {bs ext : List UInt8} {l : List Wd} {wb : Int} (h : scn.Told bs l wb) : ∃ l2 wb2, scn.Told (bs ++ 32 :: ext) (l ++ l2) wb2 ∧ (wb ≠ -1 → l2 = [] ∧ wb2 = wb) := by
  obtain ⟨z, hc, he⟩ := h
  have hz := chain_end hc (Nat.zero_le _)
  rcases he with ⟨rfl, hn⟩ | ⟨b, rfl, hn⟩
  · obtain ⟨l2, y, wb2, h2, h3⟩ := chain_total (bs ++ 32 :: ext) _ z (Nat.le_refl _) (by simp; omega)
    exact ⟨l2, wb2, ⟨y, chain_join (chain_app hc) h2, h3⟩, fun h => absurd rfl h⟩
  · exact ⟨[], b, ⟨z, by rw [List.append_nil]; exact chain_app hc, .inr ⟨b, rfl, bad_app hn⟩⟩, fun _ => ⟨rfl, rfl⟩⟩
/-- an error ahead of the end stays at its place -/
theorem places {bs ext : List UInt8} {l : List Wd} {wb e x : Int} (h : scn.Told bs l wb) (hp : pread (enOf bs wb) (eeOf wb) l = .err e x) (h5 : e ≠ 5) (hx : x ≠ bs.length) :
    ∃ l2 wb2, scn.Told (bs ++ 32 :: ext) l2 wb2 ∧ pread (enOf (bs ++ 32 :: ext) wb2) (eeOf wb2) l2 = .err e x := by
  obtain ⟨l2, wb2, h2, h3⟩ := told_more (ext := ext) h
  refine ⟨_, wb2, h2, ?_⟩
  by_cases hw : wb = -1
  · subst hw
    refine pread_more hp h5 ?_ ?_
    · unfold enOf; rw [if_pos rfl]; intro h; injection h with _ h; exact hx h
    · unfold eeOf; rw [if_pos rfl]; intro h; exact absurd h (by decide)
  · obtain ⟨rfl, rfl⟩ := h3 hw
    rw [List.append_nil]
    unfold enOf at hp ⊢
    rw [if_neg hw] at hp ⊢
    exact hp
end Go.Proofs.YtafdijfbgkcnnaaDoor.wcp
