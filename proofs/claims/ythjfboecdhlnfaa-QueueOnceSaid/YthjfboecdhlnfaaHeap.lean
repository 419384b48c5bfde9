/- A heap of pairs in a list, and the places of the numbers in it: plain, no program. -/
import Derived.Test.YthjfboecdhlnfaaNums
namespace Go.Proofs.Ythjfboecdhlnfaa.que
abbrev It := Int × Int
/-- the more urgent one -/
def lt (a b : It) : Prop := a.1 < b.1 ∨ a.1 = b.1 ∧ a.2 < b.2
instance (a b : It) : Decidable (lt a b) := by unfold lt; exact inferInstance
theorem lt_irrefl (a : It) : ¬ lt a a := by unfold lt; omega
theorem lt_asymm {a b : It} (h : lt a b) : ¬ lt b a := by unfold lt at *; omega
theorem lt_trans {a b c : It} (h : lt a b) (k : lt b c) : lt a c := by unfold lt at *; omega
theorem le_trans {a b c : It} (h : ¬ lt b a) (k : ¬ lt c b) : ¬ lt c a := by unfold lt at *; omega
theorem lt_total {a b : It} (h : a.2 ≠ b.2) : lt a b ∨ lt b a := by unfold lt; omega
def z0 : It := (0, 0)
/-- each but those in question is not ahead of the one above it -/
def Ok (H : List It) (j : Nat) : Prop := ¬ lt (H.getD j z0) (H.getD ((j - 1) / 2) z0)
def IsHeap (H : List It) : Prop := ∀ j, 0 < j → j < H.length → Ok H j
/-- all but i and those below it -/
structure Up (H : List It) (i : Nat) : Prop where
  rest : ∀ j, 0 < j → j < H.length → j ≠ i → (j - 1) / 2 ≠ i → Ok H j
  over : ∀ j, 0 < j → j < H.length → (j - 1) / 2 = i → 0 < i → ¬ lt (H.getD j z0) (H.getD ((i - 1) / 2) z0)
/-- all but those below i -/
structure Down (H : List It) (i : Nat) : Prop where
  rest : ∀ j, 0 < j → j < H.length → (j - 1) / 2 ≠ i → Ok H j
  over : ∀ j, 0 < j → j < H.length → (j - 1) / 2 = i → 0 < i → ¬ lt (H.getD j z0) (H.getD ((i - 1) / 2) z0)
theorem IsHeap.up {H : List It} (h : IsHeap H) (i : Nat) : Up H i where
  rest := fun j h0 h1 _ _ => h j h0 h1
  over := fun j h0 h1 he hi => by
    have h2 := h j h0 h1
    have h3 := h i hi (by omega)
    unfold Ok at h2 h3
    rw [he] at h2
    exact le_trans h3 h2
def swp (H : List It) (i k : Nat) : List It := (H.set i (H.getD k z0)).set k (H.getD i z0)
theorem swp_len (H : List It) (i k : Nat) : (swp H i k).length = H.length := by unfold swp; simp
theorem getD_set (H : List It) (i j : Nat) (x : It) (hi : i < H.length) : (H.set i x).getD j z0 = if i = j then x else H.getD j z0 := by
  simp only [List.getD_eq_getElem?_getD, List.getElem?_set]
  by_cases h : i = j
  · subst h; simp [hi]
  · simp [h]
theorem swp_get {H : List It} {i k : Nat} (j : Nat) (hi : i < H.length) (hk : k < H.length) : (swp H i k).getD j z0 = if k = j then H.getD i z0 else if i = j then H.getD k z0 else H.getD j z0 := by
  unfold swp
  rw [getD_set _ _ _ _ (by simpa using hk), getD_set _ _ _ _ hi]
theorem Up.step {H : List It} {i : Nat} (h : Up H i) (hi : 0 < i) (hn : i < H.length) (hl : lt (H.getD i z0) (H.getD ((i - 1) / 2) z0)) : Up (swp H i ((i - 1) / 2)) ((i - 1) / 2) := by
  obtain ⟨p, hp⟩ : ∃ p, (i - 1) / 2 = p := ⟨_, rfl⟩
  rw [hp] at hl ⊢
  have hpn : p < H.length := by omega
  constructor
  · intro j h0 h1 hj hjp
    rw [swp_len] at h1
    unfold Ok
    rw [swp_get _ hn hpn, swp_get _ hn hpn]
    rw [if_neg (Ne.symm hj), if_neg (Ne.symm hjp)]
    by_cases hji : j = i
    · exact absurd (by rw [hji, hp]) hjp
    · rw [if_neg (Ne.symm hji)]
      by_cases hpi : (j - 1) / 2 = i
      · rw [if_pos hpi.symm]
        have := h.over j h0 h1 hpi hi
        rwa [hp] at this
      · rw [if_neg (Ne.symm hpi)]
        exact h.rest j h0 h1 hji hpi
  · intro j h0 h1 hj hp0
    rw [swp_len] at h1
    rw [swp_get _ hn hpn, swp_get _ hn hpn, if_neg (by omega : ¬ p = j), if_neg (by omega : ¬ p = (p - 1) / 2), if_neg (by omega : ¬ i = (p - 1) / 2)]
    have h3 := h.rest p hp0 hpn (by omega) (by omega)
    unfold Ok at h3
    by_cases hji : i = j
    · rw [if_pos hji]; exact h3
    · rw [if_neg hji]
      have h4 := h.rest j h0 h1 (by omega) (by omega)
      unfold Ok at h4
      rw [hj] at h4
      exact le_trans h3 h4
theorem Up.stop {H : List It} {i : Nat} (h : Up H i) (hs : i = 0 ∨ ¬ lt (H.getD i z0) (H.getD ((i - 1) / 2) z0)) : Down H i where
  rest := fun j h0 h1 hj => by
    by_cases e : j = i
    · subst e
      rcases hs with hs | hs
      · omega
      · exact hs
    · exact h.rest j h0 h1 e hj
  over := h.over
theorem Down.step {H : List It} {i k o : Nat} (h : Down H i) (hk0 : 0 < k) (hk : (k - 1) / 2 = i) (hkn : k < H.length) (ho : k + o = 4 * i + 3) (hf : H.length ≤ o ∨ lt (H.getD k z0) (H.getD o z0)) (hl : lt (H.getD k z0) (H.getD i z0)) : Down (swp H i k) k := by
  have hin : i < H.length := by omega
  constructor
  · intro j h0 h1 hjk
    rw [swp_len] at h1
    unfold Ok
    rw [swp_get _ hin hkn, swp_get _ hin hkn, if_neg (Ne.symm hjk)]
    by_cases hji : i = j
    · rw [if_neg (by omega : ¬ k = j), if_pos hji, if_neg (by omega : ¬ i = (j - 1) / 2)]
      subst hji
      exact h.over k hk0 hkn hk h0
    · by_cases hkj : k = j
      · subst hkj
        rw [if_pos rfl, if_pos (by omega : i = (k - 1) / 2)]
        exact lt_asymm hl
      · rw [if_neg hkj, if_neg hji]
        by_cases hpi : i = (j - 1) / 2
        · rw [if_pos hpi]
          obtain rfl : o = j := by omega
          rcases hf with hf | hf
          · omega
          · exact lt_asymm hf
        · rw [if_neg hpi]
          exact h.rest j h0 h1 (Ne.symm hpi)
  · intro j h0 h1 hj _
    rw [swp_len] at h1
    rw [swp_get _ hin hkn, swp_get _ hin hkn, hk, if_neg (by omega : ¬ k = j), if_neg (by omega : ¬ i = j), if_neg (by omega : ¬ k = i), if_pos rfl]
    have := h.rest j h0 h1 (by omega)
    unfold Ok at this
    rwa [hj] at this
theorem Down.stop {H : List It} {i : Nat} (h : Down H i) (hs : ∀ j, 0 < j → j < H.length → (j - 1) / 2 = i → ¬ lt (H.getD j z0) (H.getD i z0)) : IsHeap H := by
  intro j h0 h1
  by_cases e : (j - 1) / 2 = i
  · unfold Ok; rw [e]; exact hs j h0 h1 e
  · exact h.rest j h0 h1 e
/-- two below one: neither is ahead of it, if of the one that is ahead of the other that is so -/
theorem both_stop {a b c : It} (hab : lt a b) (ha : ¬ lt a c) : ¬ lt b c := fun h => ha (lt_trans hab h)
theorem IsHeap.head {H : List It} (h : IsHeap H) : ∀ j, j < H.length → ¬ lt (H.getD j z0) (H.getD 0 z0) := by
  intro j
  induction j using Nat.strongRecOn with
  | ind j ih =>
    intro hj
    by_cases h0 : j = 0
    · subst h0; exact lt_irrefl _
    · have h1 := h j (by omega) hj
      have h2 := ih ((j - 1) / 2) (by omega) (by omega)
      exact le_trans h2 h1
theorem swp_perm {H : List It} {i k : Nat} (hi : i < H.length) (hk : k < H.length) : (swp H i k).Perm H := by
  unfold swp
  have e1 : H.getD k z0 = H[k] := by simp [hk]
  have e2 : H.getD i z0 = H[i] := by simp [hi]
  rw [e1, e2]
  exact List.set_set_perm hi hk
end Go.Proofs.Ythjfboecdhlnfaa.que
