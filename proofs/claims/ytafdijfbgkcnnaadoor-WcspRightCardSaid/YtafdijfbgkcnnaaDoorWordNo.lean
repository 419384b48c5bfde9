/- It is no word. -/
import Derived.Test.YtafdijfbgkcnnaaDoorWordB
import Derived.Test.YtafdijfbgkcnnaaDoorTellQ
namespace Go.Proofs.YtafdijfbgkcnnaaDoor.wcp
open Go Go.RowKit Go.ChangeShapes Go.WideShapes Go.ChangeAt Go.Proofs.YtafdijfbgkcnnaaDoor.words Go.Proofs.YtafdijfbgkcnnaaDoor.scn
set_option linter.unusedVariables false
theorem sub_self_word {l : List UInt8} {i j : Nat} (h : scn.Next l 0 (.word i j)) (he : sub l i j = l) : IsWord l := by
  obtain ⟨h1, h2, -, h4⟩ := h.word_at
  have h5 := sub_len (i := i) h2.len
  rw [he] at h5
  have h6 := h2.len
  have h7 : i = 0 := by omega
  have h8 : j = l.length := by omega
  subst h7 h8
  exact ⟨fun e => by subst e; simp at h4, fun q hq => h2.all q (Nat.zero_le _) hq⟩
set_option maxHeartbeats 4000000 in
theorem isword_no (l : List UInt8) (h : ¬ IsWord l) (hl : l.length ≤ 1000000) (w : World) : Calls Tryd.prog 57 #[strV l] w fun e w' => e = .returned (.bool false) ∧ Below w.heap.size w w' := by
  obtain ⟨ws, wb, hT⟩ := told_total l
  have hcv := conv_str l
  have hcount := count_any (some ⟨w.heap.size, 0, none⟩) l.length (grownCap w l.length 0 5) l ws wb (bw w l) hl rfl (bw_reads w l) hT
  have HW := Lib.hid h
  have HT := Lib.hid hT
  have HB1 := Lib.hid (bw_below w l)
  clear h hT
  go_enter Tryd.func57, Tryd.ntmps57
  go_wp2_with fail
  refine hcount.mono ?_
  rintro e w1 ⟨en, er, rfl, hc, hb1⟩
  have HB2 := Lib.hid (bto HB1.out hb1)
  have hnew := new_any (some ⟨w1.heap.size, 0, none⟩) l.length (grownCap w1 l.length 0 5) l (bw w1 l) hl (bw_reads w1 l)
  have HC := Lib.hid hc
  clear hcount hc hb1
  go_wp2_with fail
  refine hnew.mono ?_
  rintro e w2 ⟨g, rfl, hs2, hg2, hb2⟩
  have HB3 := Lib.hid (bto HB2.out (bto (bw_below w1 l) hb2))
  have hwd := word_any hs2 (Nat.zero_le _) hl
  have hgw : w.heap.size ≤ g := by have := HB2.out.size; have := bw_size w1 l; omega
  clear hnew hb2 hs2 hg2
  have hno : Hid (∀ (v : List UInt8), (∀ i j, scn.Next l 0 (.word i j) → v = sub l i j) → er = 0 → ws.length = 1 → v ≠ l) := fun v hv he hw1 hvl => by
    obtain ⟨z, hch, hend⟩ := HT.out
    cases hch with
    | nil => simp at hw1
    | cons h1 h2 =>
      have := hv _ _ h1
      rw [hvl] at this
      exact HW.out (sub_self_word h1 this.symm)
  go_wp2_with fail
  refine hwd.mono ?_
  rintro e w3 (⟨i, k1, rfl, hs3, ht⟩ | ⟨k1, rfl, hs3, ht⟩ | ⟨i, j, k1, rfl, hs3, ht⟩)
  all_goals
    have HB4 := Lib.hid (HB3.out.trans (ht.below HB3.out.size fun q hq h => by omega))
    clear ht hs3 hwd
  · have HNO := Lib.hid (hno.out [] fun i j h => by have := k1.uniq h; cases this)
    clear k1 hno
    by_cases e0 : er = 0
    · subst e0
      by_cases e1 : ws.length = 1
      · have hne := HNO.out rfl e1
        have b1 : ((ws.length : Int) == 1) = true := by simp [e1]
        have HNE := Lib.hid hne
        clear hne
        go_wp2_with fail
        go_ret
        exact ⟨ret_bool (by have h1 := HNE.out; simp [h1]; try exact fun e => h1 e.symm), HB4.out⟩
      · have b1 : ((ws.length : Int) == 1) = false := by simp; omega
        clear e1
        go_wp2_with fail
        go_ret
        exact ⟨rfl, HB4.out⟩
    · have b0 : (er == 0) = false := by simp [e0]
      clear e0
      go_wp2_with fail
      go_ret
      exact ⟨rfl, HB4.out⟩
  · have HNO := Lib.hid (hno.out [] fun i j h => by have := k1.uniq h; cases this)
    clear k1 hno
    by_cases e0 : er = 0
    · subst e0
      by_cases e1 : ws.length = 1
      · have hne := HNO.out rfl e1
        have b1 : ((ws.length : Int) == 1) = true := by simp [e1]
        have HNE := Lib.hid hne
        clear hne
        go_wp2_with fail
        go_ret
        exact ⟨ret_bool (by have h1 := HNE.out; simp [h1]; try exact fun e => h1 e.symm), HB4.out⟩
      · have b1 : ((ws.length : Int) == 1) = false := by simp; omega
        clear e1
        go_wp2_with fail
        go_ret
        exact ⟨rfl, HB4.out⟩
    · have b0 : (er == 0) = false := by simp [e0]
      clear e0
      go_wp2_with fail
      go_ret
      exact ⟨rfl, HB4.out⟩
  · have HNO := Lib.hid (hno.out (sub l i j) fun i' j' h => by have := k1.uniq h; injection this with e1 e2; rw [e1, e2])
    clear k1 hno
    by_cases e0 : er = 0
    · subst e0
      by_cases e1 : ws.length = 1
      · have hne := HNO.out rfl e1
        have b1 : ((ws.length : Int) == 1) = true := by simp [e1]
        have HNE := Lib.hid hne
        clear hne
        go_wp2_with fail
        go_ret
        exact ⟨ret_bool (by have h1 := HNE.out; simp [h1]; try exact fun e => h1 e.symm), HB4.out⟩
      · have b1 : ((ws.length : Int) == 1) = false := by simp; omega
        clear e1
        go_wp2_with fail
        go_ret
        exact ⟨rfl, HB4.out⟩
    · have b0 : (er == 0) = false := by simp [e0]
      clear e0
      go_wp2_with fail
      go_ret
      exact ⟨rfl, HB4.out⟩
end Go.Proofs.YtafdijfbgkcnnaaDoor.wcp
