/- DupP. -/
import Derived.Test.YtjpkkkphhaajgaaGreatDoorQeP18
import Derived.Lib.SlicesCompact
set_option linter.all false
namespace Go.Proofs.YtjpkkkphhaajgaaGreatDoor.wcp
open Go Go.Lib Go.Proofs.YtjpkkkphhaajgaaGreatDoor.words Go.Proofs.YtjpkkkphhaajgaaGreatDoor.scn
def dupL (l : List Int) : List Int := l.flatMap fun v => [v, v]
theorem dup_cons (a : Int) (l : List Int) : dupL (a :: l) = a :: a :: dupL l := rfl
theorem dup_mem {l : List Int} {v : Int} : v ∈ dupL l ↔ v ∈ l := by
 unfold dupL;rw [List.mem_flatMap];constructor
 ·rintro ⟨a, ha, hv⟩
  simp at hv;rw [hv]; exact ha
 ·intro h; exact ⟨v, h, by simp⟩
theorem dup_perm (l : List Int) : (dupL l).Perm (l ++ l) := by
 induction l with
 | nil => exact List.Perm.refl _
 | cons a l ih =>
   rw [dup_cons, List.cons_append];refine List.Perm.cons _ ?_;exact (ih.cons a).trans List.perm_middle.symm
theorem dup_le {l : List Int} (h : l.Pairwise (fun a b => a < b)) : (dupL l).Pairwise (fun a b => a ≤ b) := by
 induction l with
 | nil => exact List.Pairwise.nil
 | cons a l ih =>
   obtain ⟨h1, h2⟩ := List.pairwise_cons.1 h;rw [dup_cons];have : ∀ b ∈ dupL l, a ≤ b := fun b hb => Int.le_of_lt (h1 b (dup_mem.1 hb))
   refine List.pairwise_cons.2 ⟨fun b hb => ?_, List.pairwise_cons.2 ⟨this, ih h2⟩⟩;rcases List.mem_cons.1 hb with rfl | hb
   ·exact Int.le_refl _
   ·exact this b hb
theorem rise_dup {l : List Int} (h : l.Pairwise (fun a b => a < b)) : rise (l ++ l) = dupL l :=
 ((rise_perm (l ++ l)).trans (dup_perm l).symm).eq_of_pairwise (le := fun a b => a ≤ b) (fun a b _ _ h1 h2 => Int.le_antisymm h1 h2) (rise_le _) (dup_le h)
theorem dup_at (l : List Int) : ∀ i : Nat, (dupL l)[2 * i]? = l[i]? ∧ (dupL l)[2 * i + 1]? = l[i]? := by
 induction l with
 | nil => intro i; simp [dupL]
 | cons a l ih =>
   intro i;rw [dup_cons]
   cases i with
   | zero => exact ⟨rfl, rfl⟩
   | succ i => exact ih i
theorem arr_at {l : List Int} {j : Nat} {x : Int} (h : l[j]? = some x) : l.toArray[j]! = x := by
 obtain ⟨h1, h2⟩ := List.getElem?_eq_some_iff.1 h;rw [getElem!_pos _ j (by simpa using h1)]
 simpa using h2
theorem compact_dup {l : List Int} (h : l.Pairwise (fun a b => a < b)) : Lib.compact (dupL l) = l := by
 have hlen : (dupL l).length = 2 * l.length := by rw [(dup_perm l).length_eq, List.length_append]; omega
 have : ∀ i, i ≤ l.length → compactUpTo (dupL l).toArray (2 * i) = l.take i := by
  intro i
  induction i with
  | zero => intro _; rfl
  | succ i ih =>
    intro hi;have hx : l[i]? = some (l[i]'(by omega)) := List.getElem?_eq_getElem _;obtain ⟨x, hx⟩ : ∃ x, l[i]? = some x := ⟨_, hx⟩;have d0 := arr_at ((dup_at l i).1.trans hx);have d1 := arr_at ((dup_at l i).2.trans hx);have k1 : keeps (dupL l).toArray (2 * i + 1) = false := keeps_neg (by omega) (by rw [d1, show 2 * i + 1 - 1 = 2 * i by omega, d0])
    have k0 : keeps (dupL l).toArray (2 * i) = true := by
     cases i with
     | zero => exact keeps_lt_one _ _ (by omega)
     | succ i =>
       obtain ⟨y, hy⟩ : ∃ y, l[i]? = some y := ⟨_, List.getElem?_eq_getElem (by omega)⟩;have d2 := arr_at ((dup_at l i).2.trans hy);refine keeps_pos ?_;rw [d0, show 2 * (i + 1) - 1 = 2 * i + 1 by omega, d2];obtain ⟨h1, e1⟩ := List.getElem?_eq_some_iff.1 hy;obtain ⟨h2, e2⟩ := List.getElem?_eq_some_iff.1 hx;have := List.pairwise_iff_getElem.1 h i (i + 1) h1 h2 (by omega);omega
    rw [show 2 * (i + 1) = 2 * i + 1 + 1 by omega, compactUpTo_succ, compactUpTo_succ, ih (by omega), k0, k1, d0, List.take_add_one, hx];simp
 unfold Lib.compact;rw [hlen, this l.length (Nat.le_refl _), List.take_length]
end Go.Proofs.YtjpkkkphhaajgaaGreatDoor.wcp
