/- A tuple's number: plain mathematics. -/
import Derived.Test.YtepcgokogiphhaaShapeCarry
namespace Go.Proofs.Ytepcgokogiphhaa.shp
open Go Go.Proofs.Ytepcgokogiphhaa.words
set_option linter.unusedVariables false
theorem tup_in {xs : List Int} (hz : Szs xs) (i : Int) : InT xs (tupI xs i) := by
  refine ⟨tup_len xs i, fun p hp => ?_⟩
  obtain ⟨j, hj⟩ := List.mem_iff_getElem?.1 hp
  obtain ⟨h1, h2⟩ := List.getElem?_zip_eq_some.1 hj
  rw [tup_at i h2] at h1
  have hx := hz.2 _ (List.mem_of_getElem? h2)
  have h1 := Option.some.inj h1
  exact ⟨by rw [← h1]; exact Int.emod_nonneg _ (by omega), by rw [← h1]; exact Int.emod_lt_of_pos _ (by omega)⟩
theorem idx_tup {xs : List Int} (hz : Szs xs) {i : Int} (h0 : 0 ≤ i) (h1 : i < prodI xs) : ∀ j, j ≤ xs.length → idxI (xs.take j) ((tupI xs i).take j) = i / suf xs j := by
  intro j
  induction j with
  | zero =>
    intro _
    have : suf xs 0 = prodI xs := by unfold suf; rw [List.drop_zero]
    rw [this, Int.ediv_eq_zero_of_lt h0 h1]
    rfl
  | succ j ih =>
    intro hj
    obtain ⟨x, hx⟩ : ∃ x, xs[j]? = some x := ⟨_, List.getElem?_eq_getElem (by omega)⟩
    have hs := suf_pos hz (j + 1)
    rw [idx_snoc (tup_at i hx) hx, ih (by omega), suf_step hx, Int.mul_comm x, ← Int.ediv_ediv_of_nonneg (by omega), Int.mul_comm]
    exact Int.mul_ediv_add_emod _ _
theorem idx_full {xs : List Int} (hz : Szs xs) {i : Int} (h0 : 0 ≤ i) (h1 : i < prodI xs) : idxI xs (tupI xs i) = i := by
  have := idx_tup hz h0 h1 xs.length (Nat.le_refl _)
  rwa [List.take_length, List.take_of_length_le (by rw [tup_len]; omega), suf_all, Int.ediv_one] at this
theorem idx_V {xs : List Int} (hz : Szs xs) {i : Int} (h0 : 0 ≤ i) (h1 : i < prodI xs) : idxV xs (tupI xs i) = i ∧ idxE xs (tupI xs i) = 0 :=
  ⟨by rw [idxV, if_pos (tup_in hz i), idx_full hz h0 h1], by rw [idxE, if_pos (tup_in hz i)]⟩
/-- one place raised by one -/
theorem idx_up {xs ts : List Int} (hl : ts.length = xs.length) {p : Nat} {t : Int} (hp : ts[p]? = some t) : ∀ j, p + 1 ≤ j → j ≤ xs.length → (idxI (xs.take j) ((ts.set p (t + 1)).take j) - idxI (xs.take j) (ts.take j)) * suf xs j = suf xs (p + 1) := by
  have hpl := (List.getElem?_eq_some_iff.1 hp).1
  intro j h1
  induction j with
  | zero => omega
  | succ j ih =>
    intro hj
    obtain ⟨x, hx⟩ : ∃ x, xs[j]? = some x := ⟨_, List.getElem?_eq_getElem (by omega)⟩
    obtain ⟨u, hu⟩ : ∃ u, ts[j]? = some u := ⟨_, List.getElem?_eq_getElem (by omega)⟩
    rw [idx_snoc hu hx]
    by_cases hjp : j = p
    · subst hjp
      rw [hp] at hu
      obtain rfl := Option.some.inj hu
      have hs : (ts.set j (t + 1))[j]? = some (t + 1) := by rw [List.getElem?_set]; simp [hpl]
      rw [idx_snoc hs hx, List.take_set, List.set_eq_of_length_le (by rw [List.length_take]; omega)]
      rw [show idxI (xs.take j) (ts.take j) * x + (t + 1) - (idxI (xs.take j) (ts.take j) * x + t) = 1 by omega, Int.one_mul]
    · have hs : (ts.set p (t + 1))[j]? = some u := by rw [List.getElem?_set, if_neg (by omega)]; exact hu
      have := ih (by omega) (by omega)
      rw [suf_step hx] at this
      rw [idx_snoc hs hx, ← this]
      generalize idxI (xs.take j) ((ts.set p (t + 1)).take j) = a
      generalize idxI (xs.take j) (ts.take j) = b
      rw [show a * x + u - (b * x + u) = (a - b) * x by rw [Int.sub_mul]; omega, Int.mul_assoc]
theorem in_up {xs ts : List Int} (h : InT xs ts) {p : Nat} {t x : Int} (hp : ts[p]? = some t) (hx : xs[p]? = some x) (ht : t + 1 < x) : InT xs (ts.set p (t + 1)) := by
  have hpl := (List.getElem?_eq_some_iff.1 hp).1
  refine ⟨by rw [List.length_set]; exact h.1, fun q hq => ?_⟩
  obtain ⟨j, hj⟩ := List.mem_iff_getElem?.1 hq
  obtain ⟨h1, h2⟩ := List.getElem?_zip_eq_some.1 hj
  rw [List.getElem?_set] at h1
  by_cases hjp : p = j
  · subst hjp
    rw [if_pos rfl, if_pos hpl] at h1
    have h1 := Option.some.inj h1
    rw [hx] at h2
    have h2 := Option.some.inj h2
    have := (h.2 (t, x) (List.mem_of_getElem? (zip_get hp hx))).1
    exact ⟨by omega, by omega⟩
  · rw [if_neg hjp] at h1
    exact h.2 q (List.mem_of_getElem? (List.getElem?_zip_eq_some.2 ⟨h1, h2⟩))
/-- the number of the tuple that is raised -/
theorem idx_Vup {xs : List Int} (hz : Szs xs) {i : Int} (h0 : 0 ≤ i) (h1 : i < prodI xs) {p : Nat} {t x : Int} (hp : (tupI xs i)[p]? = some t) (hx : xs[p]? = some x) (ht : t + 1 < x) :
    idxV xs ((tupI xs i).set p (t + 1)) = i + suf xs (p + 1) ∧ idxE xs ((tupI xs i).set p (t + 1)) = 0 := by
  have hin := in_up (tup_in hz i) hp hx ht
  refine ⟨?_, by rw [idxE, if_pos hin]⟩
  have hpl := (List.getElem?_eq_some_iff.1 hx).1
  have := idx_up (tup_len xs i) hp xs.length (by omega) (Nat.le_refl _)
  rw [List.take_length, List.take_of_length_le (by rw [List.length_set, tup_len]; omega), List.take_of_length_le (by rw [tup_len]; omega), suf_all, Int.mul_one, idx_full hz h0 h1] at this
  rw [idxV, if_pos hin]
  omega
end Go.Proofs.Ytepcgokogiphhaa.shp
