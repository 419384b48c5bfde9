/- Selection sort of floats: plain lists. -/
import Derived.Test.YtnnlkjbnonkjmaaKeys
import Derived.Test.YtnnlkjbnonkjmaaFloCon
namespace Go.Proofs.Ytnnlkjbnonkjmaa.flo
def isN (x : Nat) : Bool := (key x).isNone
theorem isN_ahead {x y : Nat} (h : aheadK (key y) (key x) = false) (hx : isN x = true) : isN y = true := by
  unfold isN at *
  revert h hx
  cases key x <;> cases key y <;> simp [aheadK]
theorem sorted_nan : ∀ (zs : List Nat), zs.Pairwise (fun x y => aheadK (key y) (key x) = false) → ∀ (i x : Nat), zs[i]? = some x → (isN x = true ↔ zs.length ≤ i + zs.countP isN) := by
  intro zs
  induction zs with
  | nil => intro _ i x h; simp at h
  | cons z t ih =>
    intro hp i x h
    rw [List.pairwise_cons] at hp
    have hc := List.countP_le_length (p := isN) (l := t)
    by_cases hz : isN z = true
    · have hall : ∀ y ∈ z :: t, isN y = true := by
        intro y hy
        rcases List.mem_cons.1 hy with rfl | hy
        · exact hz
        · exact isN_ahead (hp.1 y hy) hz
      have h1 : (z :: t).countP isN = (z :: t).length := List.countP_eq_length.2 hall
      have h2 := hall x (List.mem_of_getElem? h)
      rw [h1]
      exact ⟨fun _ => by omega, fun _ => h2⟩
    · have h1 : (z :: t).countP isN = t.countP isN := by rw [List.countP_cons]; simp [hz]
      rw [h1, List.length_cons]
      cases i with
      | zero =>
        simp at h; subst h
        exact ⟨fun e => absurd e hz, fun e => by omega⟩
      | succ i =>
        have := ih hp.2 i x (by simpa using h)
        rw [this]; omega
structure Sel (n cnt : Nat) (ys zs : List Nat) : Prop where
  len : ys.length + zs.length = n
  cnt : ys.countP isN + zs.countP isN = cnt
  sorted : zs.Pairwise (fun x y => aheadK (key y) (key x) = false)
  behind : ∀ z ∈ zs, ∀ y ∈ ys, aheadK (key y) (key z) = false
theorem Sel.start (ys : List Nat) : Sel ys.length (ys.countP isN) ys [] := ⟨by simp, by simp, List.Pairwise.nil, by simp⟩
theorem Sel.step {n cnt : Nat} {ys zs : List Nat} (h : Sel n cnt ys zs) {p x : Nat} (hx : ys[p]? = some x) (hb : ∀ (j y : Nat), ys[j]? = some y → aheadK (key y) (key x) = false) :
    Sel n cnt (ys.take p ++ ys.drop (p + 1)) (zs ++ [x]) := by
  have hp : p < ys.length := (List.getElem?_eq_some_iff.1 hx).1
  have hg : ys[p] = x := (List.getElem?_eq_some_iff.1 hx).2
  have hd : ys = ys.take p ++ x :: ys.drop (p + 1) := by
    rw [← hg, List.getElem_cons_drop hp, List.take_append_drop]
  have hm : ∀ y ∈ ys.take p ++ ys.drop (p + 1), y ∈ ys := by
    intro y hy
    rcases List.mem_append.1 hy with hy | hy
    · exact List.mem_of_mem_take hy
    · exact List.mem_of_mem_drop hy
  have hy : ∀ y ∈ ys, aheadK (key y) (key x) = false := by
    intro y hy
    obtain ⟨j, hj⟩ := List.getElem?_of_mem hy
    exact hb j y hj
  have h1 := h.len
  have h2 := h.cnt
  refine ⟨?_, ?_, ?_, ?_⟩
  · simp; omega
  · rw [hd] at h2
    simp only [List.countP_append, List.countP_cons, List.countP_nil] at h2 ⊢
    omega
  · rw [List.pairwise_append]
    refine ⟨h.sorted, by simp, fun z hz y hy' => ?_⟩
    simp at hy'; subst hy'
    exact h.behind z hz _ (List.mem_of_getElem? hx)
  · intro z hz y hy'
    rcases List.mem_append.1 hz with hz | hz
    · exact h.behind z hz y (hm y hy')
    · simp at hz; subst hz; exact hy y (hm y hy')
theorem Sel.nan {n cnt : Nat} {zs : List Nat} (h : Sel n cnt [] zs) {i x : Nat} (hx : zs[i]? = some x) : isN x = decide (((zs.length : Nat) : Int) - cnt ≤ i) := by
  have h1 := sorted_nan zs h.sorted i x hx
  have h2 := h.cnt
  simp at h2
  by_cases hc : isN x = true
  · rw [hc]; have := h1.1 hc; symm; rw [decide_eq_true_eq]; omega
  · have h3 : ¬ zs.length ≤ i + zs.countP isN := fun e => hc (h1.2 e)
    rw [Bool.not_eq_true] at hc
    rw [hc]; symm; rw [decide_eq_false_iff_not]; omega
theorem Sel.cmp {n cnt : Nat} {ys zs : List Nat} (h : Sel n cnt ys zs) {i x y : Nat} (hx : zs[i]? = some x) (hy : zs[i + 1]? = some y) : ¬ 0 < cmpK (key x) (key y) := by
  have hp := h.sorted
  rw [List.pairwise_iff_getElem] at hp
  obtain ⟨h1, h2⟩ := List.getElem?_eq_some_iff.1 hx
  obtain ⟨h3, h4⟩ := List.getElem?_eq_some_iff.1 hy
  have := hp i (i + 1) h1 h3 (by omega)
  rw [h2, h4] at this
  have := (cmp_le (key x) (key y)).2 this
  omega
theorem cnt_snoc {ys : List Nat} {i x : Nat} (hx : ys[i]? = some x) : (ys.take (i + 1)).countP isN = (ys.take i).countP isN + if isN x then 1 else 0 := by
  rw [List.take_add_one, hx, List.countP_append]
  simp [List.countP_cons]
end Go.Proofs.Ytnnlkjbnonkjmaa.flo
