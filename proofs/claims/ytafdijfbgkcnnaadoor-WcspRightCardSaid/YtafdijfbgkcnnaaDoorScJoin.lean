/- Bytes put together out of words and blanks: these words. Plain. -/
import Derived.Test.YtafdijfbgkcnnaaDoorScFar
import Derived.Lib.AppendStr
namespace Go.Proofs.YtafdijfbgkcnnaaDoor.scn
open Go Go.RowKit Go.Proofs.YtafdijfbgkcnnaaDoor.words
set_option linter.unusedVariables false
/-- whatever follows, so far these are the words -/
def Bld (bs : List UInt8) (l : List Wd) : Prop := ∀ ext, Far (bs ++ ext) bs.length l false
theorem bld_nil : Bld [] [] := fun ext => far_zero _
theorem Bld.told {bs : List UInt8} {l : List Wd} (h : Bld bs l) : Told bs l (-1) := by
  have := h []
  rw [List.append_nil] at this
  exact this.ends
theorem getD_mid (a b c : List UInt8) {k : Nat} (hk : k < b.length) : (a ++ (b ++ c)).getD (a.length + k) 0 = b.getD k 0 := by
  rw [List.getD_eq_getElem?_getD, List.getD_eq_getElem?_getD, List.getElem?_append_right (by omega), Nat.add_sub_cancel_left, List.getElem?_append_left hk]
theorem Bld.blank {bs : List UInt8} {l : List Wd} (h : Bld bs l) {b : UInt8} (hb : isB b.toNat = true) : Bld (bs ++ [b]) l := by
  intro ext
  have h1 := h ([b] ++ ext)
  have := h1.between (by simp) (by
    unfold at_
    have := getD_mid bs [b] ext (k := 0) (by simp)
    rw [Nat.add_zero] at this
    rw [this]; exact hb)
  rw [List.append_assoc, List.length_append]
  exact this
theorem Bld.word {bs : List UInt8} {l : List Wd} (h : Bld bs l) {v : List UInt8} (hv : v ≠ []) (hall : v.all (fun b => isIn b.toNat) = true) {b : UInt8} (hb : isB b.toNat = true) : Bld (bs ++ v ++ [b]) (l ++ [(v, bs.length)]) := by
  intro ext
  obtain ⟨c, cs, rfl⟩ : ∃ c cs, v = c :: cs := by cases v with
    | nil => exact absurd rfl hv
    | cons c cs => exact ⟨c, cs, rfl⟩
  have hat : ∀ k, k < (c :: cs).length → isIn (at_ (bs ++ ((c :: cs) ++ ([b] ++ ext))) (bs.length + k)) = true := fun k hk => by
    unfold at_
    rw [getD_mid _ _ _ hk]
    rw [List.all_eq_true] at hall
    refine hall _ ?_
    rw [List.getD_eq_getElem?_getD, List.getElem?_eq_getElem hk]
    exact List.getElem_mem hk
  have h0 := h ((c :: cs) ++ ([b] ++ ext))
  have key : ∀ k, k < (c :: cs).length → Far (bs ++ ((c :: cs) ++ ([b] ++ ext))) (bs.length + k + 1) (l ++ [((c :: cs).take (k + 1), bs.length)]) true := by
    intro k
    induction k with
    | zero =>
      intro hk
      have h1 := h0.begins (by simp) (hat 0 hk)
      rw [show (bs ++ ((c :: cs) ++ ([b] ++ ext))).getD bs.length 0 = c by
        have := getD_mid bs (c :: cs) ([b] ++ ext) (k := 0) hk
        rw [Nat.add_zero] at this
        rw [this]; rfl] at h1
      exact h1
    | succ k ih =>
      intro hk
      obtain ⟨l0, w, s, he, _, h2⟩ := (ih (by omega)).goes (by simp at hk ⊢; omega) (hat (k + 1) hk)
      obtain ⟨rfl, h3⟩ := List.append_inj' he rfl
      injection h3 with h3
      injection h3 with h4 h5
      subst h4; subst h5
      have h6 := getD_mid bs (c :: cs) ([b] ++ ext) (k := k + 1) hk
      rw [show bs.length + k + 1 = bs.length + (k + 1) by omega, h6] at h2
      have h7 : (c :: cs).take (k + 1) ++ [(c :: cs).getD (k + 1) 0] = (c :: cs).take (k + 1 + 1) := by
        rw [List.take_add_one (i := k + 1), List.getD_eq_getElem?_getD, List.getElem?_eq_getElem hk]
        rfl
      rw [h7] at h2
      exact h2
  have h1 := key cs.length (by simp)
  rw [show (c :: cs).take (cs.length + 1) = c :: cs from List.take_of_length_le (by simp)] at h1
  have h2 := h1.between (by simp; omega) (by
    unfold at_
    have e : bs.length + cs.length + 1 = (bs ++ (c :: cs)).length + 0 := by simp; omega
    rw [← List.append_assoc bs, e, getD_mid _ [b] ext (by simp)]
    exact hb)
  have e1 : bs ++ (c :: cs) ++ [b] ++ ext = bs ++ ((c :: cs) ++ ([b] ++ ext)) := by simp
  have e2 : (bs ++ (c :: cs) ++ [b]).length = bs.length + cs.length + 1 + 1 := by simp; omega
  rw [e1, e2]
  exact h2
/-- rows of two types lie apart -/
theorem own_keep {w w' : World} {base base' : Nat} {e e' : TypeId} {s s' n n' : Nat} {v v' : Value} {xs ys : List Value} (ho : w.ownsRow base e s v n xs) (ho' : w.ownsRow base' e' s' v' n' ys) (he : e ≠ e') (hg : w.grownBy w' v'.ownBlock) : w'.ownsRow base e s v n xs := by
  refine ho.kept hg ?_
  rcases ho.2 with ⟨rfl, _⟩ | ⟨g, cap, cur, rfl, _, hh, _⟩
  · exact .inl rfl
  · rcases ho'.2 with ⟨rfl, _⟩ | ⟨g', cap', cur', rfl, _, hh', _⟩
    · exact .inr (by simp [Value.ownBlock])
    · refine .inr fun hc => ?_
      simp only [Value.ownBlock, Option.some.injEq] at hc
      subst hc
      rw [hh] at hh'
      injection hh' with h1
      injection h1 with _ h2 _
      exact he h2
/-- a string, as bytes -/
theorem str_list (x : ByteArray) : (⟨x.data.toList.toArray⟩ : ByteArray) = x := rfl
theorem str_cells (l : List UInt8) : Lib.strCells ⟨l.toArray⟩ = bv l := rfl
end Go.Proofs.YtafdijfbgkcnnaaDoor.scn
