/- A trail's cells, told. -/
import Derived.Test.YtgojncgdmcpkiaaTrSet
namespace Go.Proofs.Ytgojncgdmcpkiaa.trl
open Go Go.RowKit Go.ChangeShapes Go.WideShapes Go.ChangeAt Go.Proofs.Ytgojncgdmcpkiaa.words
set_option linter.unusedVariables false
variable {g : Nat} {F : Nat → Prop} {cs : List Cl} {os : List Ol} {ms : List Mk} {ev : Nat}
theorem cells_none (w : World) : Calls Try.prog 16 #[.pointer none] w fun e w' => e = .returned (.slice none 0 0) ∧ w = w' := by
  go_enter Try.func16, Try.ntmps16
  go_wp2
  go_ret
  exact ⟨rfl, rfl⟩
theorem nums_rep (n : Nat) : (madeCells #[.int .i64 0] n).toList = nums (List.replicate n 0) := by
  rw [toList_madeCells_one]; unfold nums; rw [List.map_replicate]
theorem cells_any (w : World) (h : TR w g F cs os ms ev) (hn : cs.length ≤ 1000000) :
    Calls Try.prog 16 #[.pointer (some ⟨g, 0, none⟩)] w fun e w' => (∃ A c, e = .returned (.slice A cs.length c) ∧ w'.ownsRow w.heap.size 2 1 (.slice A cs.length c) cs.length (nums (cs.map (·.1)))) ∧ Below w.heap.size w w' := by
  obtain ⟨i0, hi0, hz0, hz1, hz2⟩ := info_parts infoI
  obtain ⟨A1, c1, base, at_⟩ : ∃ A1 c1, (∀ w', Below w.heap.size w w' → w'.cell? ⟨g, 0, none⟩ = some (.slice A1 cs.length c1)) ∧ (∀ w', Below w.heap.size w w' → ∀ i a, cs[i]? = some a → ∃ r, A1 = some ⟨r, 0, none⟩ ∧ cs.length ≤ c1 ∧ w'.cell? ⟨r, i * 2, none⟩ = some (.int .i64 a.1) ∧ w'.cell? ⟨r, i * 2 + 1, none⟩ = some (.int .u64 a.2)) := by
    obtain ⟨hg, A1, c1, A2, c2, A3, c3, hb, h1, f1, h2, f2, h3, f3⟩ := h
    refine ⟨A1, c1, fun w' hw => (hb.under hw).cell 0, fun w' hw i a ha => ?_⟩
    obtain ⟨r, hr, d0, d1⟩ := cells_at (own_under h1 hw) ha (get_lt ha)
    exact ⟨r, hr, own_cap h1, d0, d1⟩
  obtain ⟨n, hn'⟩ : ∃ n, cs.length = n := ⟨_, rfl⟩
  have hmk := fun W => run_make_rowN (P := Try.prog) 22 2 i0 _ Try.underlying22 hi0 hz0 .i64 .i64 n n (Nat.le_refl _) (by rw [hz2]; omega) (by omega) W
  simp only [hz1, Nat.mul_one] at hmk
  have hcel : (Value.int .i64 0).cells = #[.int .i64 0] := by kernel_rfl
  rw [hcel] at hmk
  rw [hn'] at hn base at_ ⊢
  have q0 := base w (Below.refl _ _)
  have ho : (w.alloc (.cells (madeCells #[.int .i64 0] n) 2)).ownsRow w.heap.size 2 1 (.slice (some ⟨w.heap.size, 0, none⟩) n n) n (nums (((cs.map (·.1)).take 0) ++ List.replicate (n - 0) 0)) := by
    have h := World.ownsRow_lit (base := w.heap.size) (e := 2) (size := 1) w (madeCells #[.int .i64 0] n) n (Nat.le_refl _) (by unfold maxLen; omega) (by simp [madeCells])
    rw [nums_rep] at h
    simpa using h
  have hB := bone w (.cells (madeCells #[.int .i64 0] n) 2)
  have q0a := base _ hB
  have HBASE := Lib.hid base
  have HAT := Lib.hid at_
  have HN := Lib.hid hn'
  clear base at_ h hn'
  obtain ⟨wa, hwa⟩ : ∃ wa, w.alloc (.cells (madeCells #[.int .i64 0] n) 2) = wa := ⟨_, rfl⟩
  rw [hwa] at ho hB q0a
  go_enter Try.func16, Try.ntmps16
  go_wp2_with fail
  clear hmk hwa q0 q0a
  go_loopw [4, 19] (fun _ jv wr => ∃ j : Nat, j ≤ n ∧ jv = .int .i64 j ∧ wr.ownsRow w.heap.size 2 1 (.slice (some ⟨w.heap.size, 0, none⟩) n n) n (nums ((cs.map (·.1)).take j ++ List.replicate (n - j) 0)) ∧ Below w.heap.size w wr) (fun _ jv _ => n - (intOf jv).toNat)
  case atStart => exact ⟨0, by omega, rfl, ho, hB⟩
  case round =>
    clear ho hB
    obtain ⟨j, hj, rfl, ho, hB⟩ := hrel
    by_cases hlt : j < n
    · obtain ⟨⟨v, st⟩, ha⟩ : ∃ a, cs[j]? = some a := ⟨_, List.getElem?_eq_getElem (by rw [HN.out]; exact hlt)⟩
      obtain ⟨r, rfl, hcc, d0, d1⟩ := HAT.out wr hB j _ ha
      have hf := ho.frozenAt j
      have hc := ho.cellAt j (by omega)
      have hx : (nums ((cs.map (·.1)).take j ++ List.replicate (n - j) 0))[j]? = some (.int .i64 0) := by
        have hl : ((cs.map (·.1)).take j).length = j := by rw [List.length_take, List.length_map, HN.out]; omega
        unfold nums
        rw [List.getElem?_map, List.getElem?_append_right (by omega), hl, Nat.sub_self, List.getElem?_replicate, if_pos (by omega)]
        rfl
      have hc2 := hc.trans hx
      have hset : Hid ((nums ((cs.map (·.1)).take j ++ List.replicate (n - j) 0)).set j (.int .i64 v) = nums ((cs.map (·.1)).take (j + 1) ++ List.replicate (n - (j + 1)) 0)) := by
        show _ = _
        have hl : ((cs.map (·.1)).take j).length = j := by rw [List.length_take, List.length_map, HN.out]; omega
        unfold nums
        rw [show (Value.int .i64 v) = (Value.int .i64) v from rfl, ← List.map_set]
        congr 1
        rw [List.set_append_right _ _ (by omega), hl, Nat.sub_self, show n - j = (n - (j + 1)) + 1 by omega, List.replicate_succ (n := n - (j + 1)), List.set_cons_zero, List.take_add_one, List.getElem?_map, ha]
        simp
      have hoa := ho.alloc (.cells #[.int .i64 v, .int .u64 (st : Int)] 64)
      have hBa := bnew hB (.cells #[.int .i64 v, .int .u64 (st : Int)] 64)
      have hbx : Blk (wr.alloc (.cells #[.int .i64 v, .int .u64 (st : Int)] 64)) wr.heap.size 64 #[.int .i64 v, .int .u64 (st : Int)] := Blk.new _ _ _
      have q0 := HBASE.out wr hB
      obtain ⟨wc, hwc⟩ : ∃ wc, wr.alloc (.cells #[.int .i64 v, .int .u64 (st : Int)] 64) = wc := ⟨_, rfl⟩
      rw [hwc] at hoa hBa hbx
      have hca := (hoa.cellAt j (by omega)).trans hx
      have hfa := hoa.frozenAt j
      have hb0 := hbx.cell 0
      have hfin := (hoa.stored j (.int .i64 v)).1
      rw [hset.out] at hfin
      have HF := Lib.hid hfin
      have HBa := Lib.hid hBa
      clear hc hc2 hf hx ha hset hoa hfin ho hB hBa hbx
      go_wp2_with fail
      go_roundw
      case rel => exact ⟨j + 1, by omega, by go_num, HF.out, HBa.out.setCell (p := ⟨w.heap.size, j, none⟩) (Nat.le_refl _) _⟩
      case measure => simp [intOf]; omega
    · obtain rfl : j = n := by omega
      rw [Nat.sub_self, List.replicate_zero, List.append_nil, List.take_of_length_le (by rw [List.length_map, HN.out]; exact Nat.le_refl _)] at ho
      go_wp2_with fail
      go_ret
      exact ⟨⟨_, _, rfl, ho⟩, hB⟩
end Go.Proofs.Ytgojncgdmcpkiaa.trl
