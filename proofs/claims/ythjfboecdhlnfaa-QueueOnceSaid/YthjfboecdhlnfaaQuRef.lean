/- The document's list: without a number; the most urgent one. -/
import Derived.Test.YthjfboecdhlnfaaQuLaw
namespace Go.Proofs.Ythjfboecdhlnfaa.que
open Go Go.RowKit Go.ChangeShapes Go.WideShapes Go.ChangeAt Go.Proofs.Ythjfboecdhlnfaa.words
set_option linter.unusedVariables false
theorem infoR : (Try.prog.info? 48).map (fun i => (i.zero, i.size, i.bytes)) = some (some (.agg #[.int .i64 0, .int .i64 0]), 2, 16) := by kernel_rfl
def ity (a : It) : List Value := [.int .i64 a.2, .int .i64 a.1]
def flatR (H : List It) : List Value := H.flatMap ity
theorem flatR_len (H : List It) : (flatR H).length = H.length * 2 := by
  unfold flatR
  induction H with
  | nil => rfl
  | cons a H ih => rw [List.flatMap_cons, List.length_append, ih, List.length_cons]; simp [ity]; omega
theorem flatR_at {H : List It} {i : Nat} {a : It} (h : H[i]? = some a) : (flatR H)[i * 2]? = some (.int .i64 a.2) ∧ (flatR H)[i * 2 + 1]? = some (.int .i64 a.1) := by
  induction H generalizing i with
  | nil => simp at h
  | cons b H ih =>
    unfold flatR
    rw [List.flatMap_cons]
    cases i with
    | zero => simp at h; subst h; exact ⟨rfl, rfl⟩
    | succ i =>
      simp at h
      rw [show (i + 1) * 2 = i * 2 + 2 by omega, List.getElem?_append_right (by simp [ity]), List.getElem?_append_right (by simp [ity])]
      have := ih h
      unfold flatR at this
      simpa [ity] using this
theorem flatR_snoc (H : List It) (a : It) : flatR (H ++ [a]) = flatR H ++ [.int .i64 a.2, .int .i64 a.1] := by
  unfold flatR; rw [List.flatMap_append]; simp [ity]
theorem ref_len {w : World} {B n : Nat} {A : Option Addr} {c : Nat} {H : List It} (h : w.ownsRow B 48 2 (.slice A n c) n (flatR H)) : H.length = n := by
  have := h.1; rw [flatR_len] at this; omega
abbrev keepB (x : Int) (a : It) : Bool := decide (a.2 ≠ x)
set_option maxHeartbeats 2000000 in
theorem ref_drop (w : World) (B n c : Nat) (A : Option Addr) (L : List It) (x : Int) (ho : w.ownsRow B 48 2 (.slice A n c) n (flatR L)) (hn : n ≤ 1000) :
    Calls Try.prog 19 #[.slice A n c, .int .i64 x] w fun e w' => (∃ A' c', e = .returned (.tuple #[.slice A' (L.filter (keepB x)).length c', .bool (decide ((L.filter (keepB x)).length < n))]) ∧ w'.ownsRow w.heap.size 48 2 (.slice A' (L.filter (keepB x)).length c') (L.filter (keepB x)).length (flatR (L.filter (keepB x)))) ∧ Below w.heap.size w w' := by
  obtain ⟨j0, hi0, hz0, hz1, hz2⟩ := info_parts infoR
  have hll := Lib.hid (ref_len ho)
  go_enter Try.func19, Try.ntmps19
  go_wp2_with fail
  go_loopw [6, 11] (fun ov jv wr => ∃ (j : Nat) (A' : Option Addr) (n' c' : Nat), j ≤ n ∧ jv = .int .i64 j ∧ ov = .slice A' n' c' ∧ wr.ownsRow w.heap.size 48 2 (.slice A' n' c') n' (flatR ((L.take j).filter (keepB x))) ∧ Below w.heap.size w wr) (fun _ jv _ => n - (intOf jv).toNat)
  case atStart => exact ⟨0, none, 0, 0, by omega, rfl, rfl, by simpa [flatR] using World.ownsRow_nil w w.heap.size 48 2, Below.refl _ _⟩
  case round =>
    obtain ⟨j, A', n', c', hj, rfl, rfl, hr, hB⟩ := hrel
    have hn' := ref_len hr
    have hnb : n' ≤ j := by
      rw [← hn']; exact Nat.le_trans (List.length_filter_le _ _) (by rw [List.length_take]; omega)
    by_cases hlt : j < n
    · obtain ⟨g, rfl, _, _⟩ := own_some ho (by omega)
      have hLj : L[j]? = some (L[j]'(by rw [hll.out]; exact hlt)) := List.getElem?_eq_getElem _
      obtain ⟨⟨p, y⟩, hpy⟩ : ∃ a, L[j]'(by rw [hll.out]; exact hlt) = a := ⟨_, rfl⟩
      rw [hpy] at hLj
      have or_ := own_under ho hB
      have d1 := (or_.cellAt (j * 2) (by omega)).trans (flatR_at hLj).1
      have d2 := (or_.cellAt (j * 2 + 1) (by omega)).trans (flatR_at hLj).2
      dsimp only at d1 d2
      have ht : (L.take (j + 1)).filter (keepB x) = (L.take j).filter (keepB x) ++ (if keepB x (p, y) then [(p, y)] else []) := by
        rw [List.take_add_one, hLj, List.filter_append]
        congr 1
        simp only [Option.toList_some, List.filter_cons, List.filter_nil]
      have HT := Lib.hid ht
      clear ht hLj hpy or_ hn'
      by_cases hyx : y = x
      · have hk : Hid (keepB x (p, y) = false) := by show _ = _; simp [keepB, hyx]
        have e1 : (y != x) = false := by simp [hyx]
        have e2 : (y == x) = true := by simp [hyx]
        clear hyx
        go_wp2_with fail
        go_roundw
        case rel =>
          refine ⟨j + 1, A', n', c', by omega, by go_num, rfl, ?_, bnew hB _⟩
          rw [HT.out, hk.out]
          simpa using hr.alloc _
        case measure => simp [intOf]; omega
      · have hk : Hid (keepB x (p, y) = true) := by show _ = _; simp [keepB, hyx]
        have e1 : (y != x) = true := by simp [hyx]
        have e2 : (y == x) = false := by simp [hyx]
        have hra := (hr.alloc (.cells #[.int .i64 y, .int .i64 p] 48)).alloc (.cells #[.int .i64 y, .int .i64 p] 48)
        have hr1 : Reads ((wr.alloc (.cells #[.int .i64 y, .int .i64 p] 48)).alloc (.cells #[.int .i64 y, .int .i64 p] 48)) ((wr.alloc (.cells #[.int .i64 y, .int .i64 p] 48)).alloc (.cells #[.int .i64 y, .int .i64 p] 48)).heap.size 2 (some ⟨wr.heap.size + 1, 0, none⟩) 1 [.int .i64 y, .int .i64 p] := by
          have := reads_two (t := 48) (heap_alloc_new (wr.alloc (.cells #[.int .i64 y, .int .i64 p] 48)) (.cells #[.int .i64 y, .int .i64 p] 48))
          rwa [World.size_alloc wr] at this
        have hone : ∀ u ∈ ([.int .i64 y, .int .i64 p] : List Value), u.oneCell' = true := fun u hu => by simp at hu; rcases hu with rfl | rfl <;> rfl
        have hsz := hB.size
        have hB2 := bnew (bnew hB (.cells #[.int .i64 y, .int .i64 p] 48)) (.cells #[.int .i64 y, .int .i64 p] 48)
        clear hyx
        go_wp2_with (first
          | (at_builtin; refine wpList_append_any _ rfl (.tmp 19) (.tmp 21) _ rfl w.heap.size 48 j0 _ 2 16 Try.underlying43 hi0 hz0 hz1 hz2 rfl (by omega) _ n' _ rfl hra ((wr.alloc (.cells #[.int .i64 y, .int .i64 p] 48)).alloc (.cells #[.int .i64 y, .int .i64 p] 48)).heap.size (some ⟨wr.heap.size + 1, 0, none⟩) 1 1 [.int .i64 y, .int .i64 p] rfl hr1 hone (by simp only [maxLen]; omega) (by omega) (by simp; omega) ?_; intro v2 w2 hown hg1 hat; clear hat; obtain ⟨A4, c4, rfl⟩ := own_shape hown)
          | fail)
        have hg2 : ((wr.alloc (.cells #[.int .i64 y, .int .i64 p] 48)).alloc (.cells #[.int .i64 y, .int .i64 p] 48)).grownBy w2 (Value.slice A' n' c').ownBlock := hg1
        go_roundw
        case rel =>
          refine ⟨j + 1, A4, n' + 1, c4, by omega, by go_num, rfl, ?_, hB2.grown hg2 (by simp; omega) (fun q hq => (own_in hr hq).1)⟩
          rw [HT.out, hk.out, if_pos rfl, flatR_snoc]; exact hown
        case measure => simp [intOf]; omega
    · obtain rfl : n = j := by omega
      rw [List.take_of_length_le (by rw [hll.out]; exact Nat.le_refl _)] at hr hn'
      have HN := Lib.hid hn'
      clear hn' hlt
      go_wp2_with fail
      go_ret2
      refine ⟨⟨A', c', ?_, by rw [HN.out]; exact hr⟩, hB⟩
      rw [HN.out]
      first | rfl | simp
end Go.Proofs.Ythjfboecdhlnfaa.que
