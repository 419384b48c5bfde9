/- Words put together, one blank between: the text ends in its last word. Plain. -/
import Derived.Test.YtafdijfbgkcnnaaDoorScJoin
import Derived.Test.YtafdijfbgkcnnaaDoorScDec
namespace Go.Proofs.YtafdijfbgkcnnaaDoor.scn
open Go Go.RowKit Go.Proofs.YtafdijfbgkcnnaaDoor.words
set_option linter.unusedVariables false
/-- whatever follows, so far these are the words, the last under way -/
def Mid (bs : List UInt8) (l : List Wd) : Prop := ∀ ext, Far (bs ++ ext) bs.length l true
theorem Mid.told {bs : List UInt8} {l : List Wd} (h : Mid bs l) : Told bs l (-1) := by
  have := h []
  rw [List.append_nil] at this
  exact this.ends
theorem Mid.blank {bs : List UInt8} {l : List Wd} (h : Mid bs l) {b : UInt8} (hb : isB b.toNat = true) : Bld (bs ++ [b]) l := by
  intro ext
  have h1 := h ([b] ++ ext)
  have := h1.between (by simp) (by
    unfold at_
    have := getD_mid bs [b] ext (k := 0) (by simp)
    rw [Nat.add_zero] at this
    rw [this]; exact hb)
  rw [List.append_assoc, List.length_append]
  exact this
theorem Bld.mid {bs : List UInt8} {l : List Wd} (h : Bld bs l) {v : List UInt8} (hv : v ≠ []) (hall : v.all (fun b => isIn b.toNat) = true) : Mid (bs ++ v) (l ++ [(v, bs.length)]) := by
  intro ext
  obtain ⟨c, cs, rfl⟩ : ∃ c cs, v = c :: cs := by cases v with
    | nil => exact absurd rfl hv
    | cons c cs => exact ⟨c, cs, rfl⟩
  have hat : ∀ k, k < (c :: cs).length → isIn (at_ (bs ++ ((c :: cs) ++ ext)) (bs.length + k)) = true := fun k hk => by
    unfold at_
    rw [getD_mid _ _ _ hk]
    rw [List.all_eq_true] at hall
    refine hall _ ?_
    rw [List.getD_eq_getElem?_getD, List.getElem?_eq_getElem hk]
    exact List.getElem_mem hk
  have h0 := h ((c :: cs) ++ ext)
  have key : ∀ k, k < (c :: cs).length → Far (bs ++ ((c :: cs) ++ ext)) (bs.length + k + 1) (l ++ [((c :: cs).take (k + 1), bs.length)]) true := by
    intro k
    induction k with
    | zero =>
      intro hk
      have h1 := h0.begins (by simp) (hat 0 hk)
      rw [show (bs ++ ((c :: cs) ++ ext)).getD bs.length 0 = c by
        have := getD_mid bs (c :: cs) ext (k := 0) hk
        rw [Nat.add_zero] at this
        rw [this]; rfl] at h1
      exact h1
    | succ k ih =>
      intro hk
      obtain ⟨l0, w, s, he, _, h2⟩ := (ih (by omega)).goes (by simp at hk ⊢; omega) (hat (k + 1) hk)
      obtain ⟨rfl, h3⟩ := List.append_inj' he rfl
      injection h3 with h3
      injection h3 with h4 h5
      subst h4; subst h5
      have h6 := getD_mid bs (c :: cs) ext (k := k + 1) hk
      rw [show bs.length + k + 1 = bs.length + (k + 1) by omega, h6] at h2
      have h7 : (c :: cs).take (k + 1) ++ [(c :: cs).getD (k + 1) 0] = (c :: cs).take (k + 1 + 1) := by
        rw [List.take_add_one (i := k + 1), List.getD_eq_getElem?_getD, List.getElem?_eq_getElem hk]
        rfl
      rw [h7] at h2
      exact h2
  have h1 := key cs.length (by simp)
  rw [show (c :: cs).take (cs.length + 1) = c :: cs from List.take_of_length_le (by simp)] at h1
  have e1 : bs ++ (c :: cs) ++ ext = bs ++ ((c :: cs) ++ ext) := by simp
  have e2 : (bs ++ (c :: cs)).length = bs.length + cs.length + 1 := by simp; omega
  rw [e1, e2]
  exact h1
theorem mid_one {v : List UInt8} (hv : v ≠ []) (hall : v.all (fun b => isIn b.toNat) = true) : Mid v [(v, 0)] := bld_nil.mid hv hall
/-- one word more -/
theorem Mid.snoc {bs : List UInt8} {l : List Wd} (h : Mid bs l) {v : List UInt8} (hv : v ≠ []) (hall : v.all (fun b => isIn b.toNat) = true) : Mid (bs ++ 32 :: v) (l ++ [(v, bs.length + 1)]) := by
  have := (h.blank (b := 32) (by decide)).mid hv hall
  rw [List.append_assoc, List.length_append] at this
  exact this
/-! a number's digits are a word -/
theorem isD_in {b : UInt8} (h : isD b = true) : isIn b.toNat = true := by
  simp only [isD, Bool.and_eq_true, decide_eq_true_eq] at h
  simp only [isIn, Bool.and_eq_true, decide_eq_true_eq]
  omega
theorem itoa_in (n : Int) : Lib.itoa n ≠ [] ∧ (Lib.itoa n).all (fun b => isIn b.toNat) = true := by
  obtain ⟨_, h2, h3⟩ := dd_all n.natAbs
  have h4 : (Lib.decDigits n.natAbs).all (fun b => isIn b.toNat) = true := by
    rw [List.all_eq_true] at h2 ⊢
    exact fun b hb => isD_in (h2 b hb)
  by_cases h : n < 0
  · have e : Lib.itoa n = 45 :: Lib.decDigits n.natAbs := by unfold Lib.itoa; rw [if_pos h]
    rw [e]
    refine ⟨by simp, ?_⟩
    rw [List.all_cons, h4]; rfl
  · have e : Lib.itoa n = Lib.decDigits n.natAbs := by unfold Lib.itoa; rw [if_neg h]; congr 1; omega
    rw [e]
    exact ⟨h3, h4⟩
theorem readW_small {n : Int} (h0 : -4611686018427387904 ≤ n) (h1 : n ≤ 4611686018427387904) : readW (Lib.itoa n) = (n, 0) := by
  rw [readW_itoa]; congr 1; omega
end Go.Proofs.YtafdijfbgkcnnaaDoor.scn
