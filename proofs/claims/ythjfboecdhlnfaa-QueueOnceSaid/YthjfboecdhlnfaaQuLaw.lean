/- The queue's calls by what waits. -/
import Derived.Test.YthjfboecdhlnfaaQuDrop
import Derived.Test.YthjfboecdhlnfaaRows
namespace Go.Proofs.Ythjfboecdhlnfaa.que
open Go Go.RowKit Go.ChangeShapes Go.WideShapes Go.ChangeAt Go.Proofs.Ythjfboecdhlnfaa.words
set_option linter.unusedVariables false
/-- block g is a Queue of N in which L waits -/
def QL (w : World) (g : Nat) (F : Nat → Prop) (N : Nat) (L : List It) : Prop := ∃ H, Qs w g F N H ∧ H.Perm L ∧ Val N H ∧ IsHeap H
theorem QL.keep {w w' : World} {g : Nat} {F S : Nat → Prop} {N : Nat} {L : List It} (h : QL w g F N L) (ht : Tch w w' S) (hs : ∀ k, F k → ¬ S k) : QL w' g F N L := by
  obtain ⟨H, a, b, c, d⟩ := h; exact ⟨H, a.keep ht hs, b, c, d⟩
theorem QL.below {w w' : World} {g : Nat} {F : Nat → Prop} {N : Nat} {L : List It} (h : QL w g F N L) (hb : Below w.heap.size w w') : QL w' g F N L := by
  obtain ⟨H, a, b, c, d⟩ := h; exact ⟨H, a.below hb, b, c, d⟩
theorem QL.mono {w : World} {g : Nat} {F F' : Nat → Prop} {N : Nat} {L : List It} (h : QL w g F N L) (hf : ∀ k, F k → F' k) : QL w g F' N L := by
  obtain ⟨H, a, b, c, d⟩ := h; exact ⟨H, a.mono hf, b, c, d⟩
theorem QL.val {w : World} {g : Nat} {F : Nat → Prop} {N : Nat} {L : List It} (h : QL w g F N L) : Val N L := by
  obtain ⟨H, a, b, c, d⟩ := h; exact c.perm b.symm
theorem inQ_perm {H L : List It} (h : H.Perm L) (x : Int) : inQ H x = inQ L x := by
  rw [Bool.eq_iff_iff, inQ_iff, inQ_iff]
  constructor
  · rintro ⟨a, ha, he⟩; exact ⟨a, h.mem_iff.1 ha, he⟩
  · rintro ⟨a, ha, he⟩; exact ⟨a, h.mem_iff.2 ha, he⟩
theorem ql_new (n : Int) (w : World) (hn : n ≤ 1000000) : Calls Try.prog 9 #[.int .i64 n] w fun e w' => (∃ g, e = .returned (.pointer (some ⟨g, 0, none⟩)) ∧ QL w' g (fun k => w.heap.size ≤ k) n.toNat []) ∧ Below w.heap.size w w' :=
  (new_any n w hn).mono fun e w' h => by
    obtain ⟨g, he, hq, hb⟩ := h
    exact ⟨⟨g, he, [], hq, List.Perm.refl _, ⟨by simp, by simp⟩, fun j h0 h1 => by simp at h1⟩, hb⟩
theorem ql_len {w : World} {g N : Nat} {F : Nat → Prop} {L : List It} (hq : QL w g F N L) : Calls Try.prog 12 #[.pointer (some ⟨g, 0, none⟩)] w fun e w' => e = .returned (.int .i64 L.length) ∧ w = w' := by
  obtain ⟨H, a, b, c, d⟩ := hq
  have := len_any w g N F H a
  rwa [b.length_eq] at this
theorem ql_has {w : World} {g N : Nat} {F : Nat → Prop} {L : List It} (hq : QL w g F N L) (x : Int) (hN : N ≤ 1000000) : Calls Try.prog 16 #[.pointer (some ⟨g, 0, none⟩), .int .i64 x] w fun e w' => e = .returned (.bool (inQ L x)) ∧ w = w' := by
  obtain ⟨H, a, b, c, d⟩ := hq
  have := has_any w g N F H x a c hN
  rwa [inQ_perm b] at this
theorem put_val {N : Nat} {L : List It} (hv : Val N L) {p x : Int} (h0 : 0 ≤ x) (h1 : x < N) : Val N ((p, x) :: L.filter fun a => decide (a.2 ≠ x)) := by
  constructor
  · intro a ha
    rcases List.mem_cons.1 ha with rfl | ha
    · exact ⟨h0, h1⟩
    · exact hv.lo a (List.mem_filter.1 ha).1
  · rw [List.map_cons, List.nodup_cons]
    refine ⟨fun h => ?_, (List.filter_sublist.map _).nodup hv.nd⟩
    obtain ⟨a, ha, he⟩ := List.mem_map.1 h
    have := (List.mem_filter.1 ha).2
    simp at this; exact this he
theorem ql_push {w : World} {g N : Nat} {F : Nat → Prop} {L : List It} (hq : QL w g F N L) (x : Nat) (p : Int) (hx : x < N) (hlen : L.length < 999999) :
    Calls Try.prog 10 #[.pointer (some ⟨g, 0, none⟩), .int .i64 x, .int .i64 p] w fun e w' => e = .returned (.int .i64 0) ∧ QL w' g (fun k => F k ∨ w.heap.size ≤ k) N ((p, (x : Int)) :: L.filter fun a => decide (a.2 ≠ (x : Int))) ∧ Tch w w' F := by
  obtain ⟨H, a, b, c, d⟩ := hq
  refine (push_in w g N x p F H a c d hx (by rw [b.length_eq]; exact hlen)).mono fun e w' h => ?_
  obtain ⟨he, ⟨H', q1, q2, q3⟩, ht⟩ := h
  have hp := q2.trans ((b.filter _).cons (p, (x : Int)))
  exact ⟨he, ⟨H', q1, hp, (put_val (c.perm b.symm) (by omega) (by omega)).perm hp, q3⟩, ht⟩
theorem ql_drop {w : World} {g N : Nat} {F : Nat → Prop} {L : List It} (hq : QL w g F N L) (x : Int) (hx : inQ L x = true) (hlen : L.length < 1000000) :
    Calls Try.prog 11 #[.pointer (some ⟨g, 0, none⟩), .int .i64 x] w fun e w' => e = .returned (.bool true) ∧ QL w' g F N (L.filter fun a => decide (a.2 ≠ x)) ∧ Tch w w' F := by
  obtain ⟨H, a, b, c, d⟩ := hq
  rw [← inQ_perm b] at hx
  obtain ⟨q, hqm, rfl⟩ := (inQ_iff H x).1 hx
  obtain ⟨i, hi, he⟩ := List.mem_iff_getElem.1 hqm
  obtain ⟨y, hy⟩ : ∃ y : Nat, q.2 = y := ⟨q.2.toNat, by have := (c.lo q hqm).1; omega⟩
  rw [hy]
  refine (drop_some w g N y i q.1 F H a c d (by rw [List.getElem?_eq_getElem hi, he, ← hy]) (by rw [b.length_eq]; exact hlen)).mono fun e w' h => ?_
  obtain ⟨he, ⟨H', q1, q2, q3⟩, ht⟩ := h
  have hp := q2.trans (b.filter _)
  have hv' : Val N (L.filter fun a => decide (a.2 ≠ (y : Int))) := ⟨fun z hz => (c.perm b.symm).lo z (List.mem_filter.1 hz).1, (List.filter_sublist.map _).nodup (c.perm b.symm).nd⟩
  exact ⟨he, ⟨H', q1, hp, hv'.perm hp, q3⟩, ht⟩
theorem ql_drop_none {w : World} {g N : Nat} {F : Nat → Prop} {L : List It} (hq : QL w g F N L) (x : Int) (hN : N ≤ 1000000) (hx : inQ L x = false) :
    Calls Try.prog 11 #[.pointer (some ⟨g, 0, none⟩), .int .i64 x] w fun e w' => e = .returned (.bool false) ∧ w = w' := by
  obtain ⟨H, a, b, c, d⟩ := hq
  exact drop_none w g N F H x a c hN (by rw [inQ_perm b]; exact hx)
/-- the most urgent one of some -/
def Most (L : List It) (a : It) : Prop := a ∈ L ∧ ∀ b ∈ L, ¬ lt b a
theorem Most.uniq {N : Nat} {L : List It} (hv : Val N L) {a b : It} (ha : Most L a) (hb : Most L b) : a = b := by
  have h1 := ha.2 b hb.1
  have h2 := hb.2 a ha.1
  unfold lt at h1 h2
  have e1 : a.1 = b.1 := by omega
  have e2 : a.2 = b.2 := by omega
  exact Prod.ext e1 e2
theorem ql_top_none {w : World} {g N : Nat} {F : Nat → Prop} (hq : QL w g F N []) : Calls Try.prog 15 #[.pointer (some ⟨g, 0, none⟩)] w fun e w' => e = .returned (.tuple #[.int .i64 0, .int .i64 0, .bool false]) ∧ Below w.heap.size w w' := by
  obtain ⟨H, a, b, c, d⟩ := hq
  obtain rfl := b.eq_nil
  exact (top_none w g N F a).mono fun e w' ⟨h1, h2⟩ => ⟨h1, by rw [h2]; exact Below.refl _ _⟩
theorem ql_top {w : World} {g N : Nat} {F : Nat → Prop} {L : List It} {m : It} (hq : QL w g F N L) (hm : Most L m) (hlen : L.length ≤ 1000000) : Calls Try.prog 15 #[.pointer (some ⟨g, 0, none⟩)] w fun e w' => e = .returned (.tuple #[.int .i64 m.2, .int .i64 m.1, .bool true]) ∧ Below w.heap.size w w' := by
  have hv := hq.val
  obtain ⟨H, a, b, c, d⟩ := hq
  have hpos : 0 < H.length := by rw [b.length_eq]; exact List.length_pos_of_mem hm.1
  have h0 := getD_some (H := H) (i := 0) hpos
  have hmost : Most L (H.getD 0 z0) := ⟨b.mem_iff.1 (List.mem_of_getElem? h0), fun q hq' hl => by
    obtain ⟨j, hj, he⟩ := List.mem_iff_getElem.1 (b.mem_iff.2 hq')
    have := d.head j hj
    rw [List.getD_eq_getElem?_getD, List.getElem?_eq_getElem hj, he] at this
    exact this hl⟩
  have e := Most.uniq hv hmost hm
  rw [e] at h0
  exact top_some w g N F H m.1 m.2 a h0 (by rw [b.length_eq]; exact hlen)
theorem pop_nil (w : World) : Calls Try.prog 13 #[.pointer none] w fun e w' => e = .returned (.tuple #[.int .i64 0, .int .i64 0, .bool false]) ∧ w = w' := by
  go_enter Try.func13, Try.ntmps13
  go_wp2_with (first
    | (go_at_call 15; (with_reducible refine (top_nil _).mono ?_); rintro e w' ⟨rfl, rfl⟩))
  go_ret3
  exact ⟨rfl, rfl⟩
theorem ql_pop_none {w : World} {g N : Nat} {F : Nat → Prop} (hq : QL w g F N []) : Calls Try.prog 13 #[.pointer (some ⟨g, 0, none⟩)] w fun e w' => e = .returned (.tuple #[.int .i64 0, .int .i64 0, .bool false]) ∧ Below w.heap.size w w' := by
  have ht := ql_top_none hq
  clear hq
  go_enter Try.func13, Try.ntmps13
  go_wp2_with (first
    | (go_at_call 15; (with_reducible refine (ht).mono ?_); rintro e w1 ⟨rfl, hb⟩)
    | fail)
  go_ret3
  exact ⟨rfl, hb⟩
theorem ql_pop {w : World} {g N : Nat} {F : Nat → Prop} {L : List It} {m : It} (hq : QL w g F N L) (hm : Most L m) (hlen : L.length < 1000000) : Calls Try.prog 13 #[.pointer (some ⟨g, 0, none⟩)] w fun e w' => e = .returned (.tuple #[.int .i64 m.2, .int .i64 m.1, .bool true]) ∧ QL w' g F N (L.filter fun a => decide (a.2 ≠ m.2)) ∧ Tch w w' F := by
  have ht := ql_top hq hm (by omega)
  have hin : inQ L m.2 = true := (inQ_iff _ _).2 ⟨m, hm.1, rfl⟩
  have hdr : Hid (∀ w', Below w.heap.size w w' → Calls Try.prog 11 #[.pointer (some ⟨g, 0, none⟩), .int .i64 m.2] w' fun e w'' => e = .returned (.bool true) ∧ QL w'' g F N (L.filter fun a => decide (a.2 ≠ m.2)) ∧ Tch w' w'' F) := fun w' hb => ql_drop (hq.below hb) m.2 hin hlen
  clear hq hin
  go_enter Try.func13, Try.ntmps13
  go_wp2_with fail
  refine ht.mono ?_
  rintro e w1 ⟨rfl, hb⟩
  go_wp2_with fail
  refine (hdr.out _ hb).mono ?_
  rintro e w2 ⟨rfl, hq2, ht2⟩
  go_wp2_with fail
  go_ret3
  exact ⟨rfl, hq2, (Tch.of_below hb F).trans ht2 fun _ _ h => h⟩
theorem clear_nil (w : World) : Calls Try.prog 14 #[.pointer none] w fun e w' => e = .returned (.tuple #[]) ∧ w = w' := by
  go_enter Try.func14, Try.ntmps14
  go_wp2_with fail
  refine wp_loop_rounds 1 ?_
  rw [rounds_succ]
  go_wp2_with (first
    | (go_at_call 12; (with_reducible refine (len_nil _).mono ?_); rintro e w' ⟨rfl, rfl⟩)
    | fail)
  first
    | exact ⟨rfl, rfl⟩
    | (go_end0; exact ⟨rfl, rfl⟩)
/-- all of it lies from block B on -/
abbrev QB (w : World) (g B N : Nat) (L : List It) : Prop := QL w g (fun k => B ≤ k) N L
theorem tch_base {w w' : World} {B : Nat} (h : Tch w w' (fun k => B ≤ k)) (hB : B ≤ w.heap.size) : Below B w w' := h.below hB fun i hi => by omega
theorem qb_push {w : World} {g B N : Nat} {L : List It} (hq : QB w g B N L) (x : Nat) (p : Int) (hx : x < N) (hlen : L.length < 999999) (hB : B ≤ w.heap.size) :
    Calls Try.prog 10 #[.pointer (some ⟨g, 0, none⟩), .int .i64 x, .int .i64 p] w fun e w' => e = .returned (.int .i64 0) ∧ QB w' g B N ((p, (x : Int)) :: L.filter fun a => decide (a.2 ≠ (x : Int))) ∧ Below B w w' :=
  (ql_push hq x p hx hlen).mono fun e w' ⟨h1, h2, h3⟩ => ⟨h1, h2.mono fun k hk => hk.elim id fun h => Nat.le_trans hB h, tch_base h3 hB⟩
theorem qb_pop {w : World} {g B N : Nat} {L : List It} {m : It} (hq : QB w g B N L) (hm : Most L m) (hlen : L.length < 1000000) (hB : B ≤ w.heap.size) :
    Calls Try.prog 13 #[.pointer (some ⟨g, 0, none⟩)] w fun e w' => e = .returned (.tuple #[.int .i64 m.2, .int .i64 m.1, .bool true]) ∧ QB w' g B N (L.filter fun a => decide (a.2 ≠ m.2)) ∧ Below B w w' :=
  (ql_pop hq hm hlen).mono fun e w' ⟨h1, h2, h3⟩ => ⟨h1, h2, tch_base h3 hB⟩
theorem qb_drop {w : World} {g B N : Nat} {L : List It} (hq : QB w g B N L) (x : Int) (hx : inQ L x = true) (hlen : L.length < 1000000) (hB : B ≤ w.heap.size) :
    Calls Try.prog 11 #[.pointer (some ⟨g, 0, none⟩), .int .i64 x] w fun e w' => e = .returned (.bool true) ∧ QB w' g B N (L.filter fun a => decide (a.2 ≠ x)) ∧ Below B w w' :=
  (ql_drop hq x hx hlen).mono fun e w' ⟨h1, h2, h3⟩ => ⟨h1, h2, tch_base h3 hB⟩
def z2 : It := (5, 2)
def z1 : It := (5, 1)
def z9 : It := (9, 0)
theorem most1 : Most [((9 : Int), (0 : Int)), (5, 1), (5, 2)] (5, 1) := ⟨by simp, by intro b hb; simp at hb; rcases hb with rfl | rfl | rfl <;> decide⟩
theorem most2 : Most [((9 : Int), (0 : Int)), (5, 2)] (5, 2) := ⟨by simp, by intro b hb; simp at hb; rcases hb with rfl | rfl <;> decide⟩
theorem awake_any (w : World) : Calls Try.prog 8 #[] w fun e w' => e = .returned (.bool true) ∧ Below w.heap.size w w' := by
  go_enter Try.func8, Try.ntmps8
  go_wp2_with fail
  refine (ql_new 3 w (by omega)).mono ?_
  rintro e w1 ⟨⟨g, rfl, hq1⟩, hb1⟩
  have hz1 := hb1.size
  go_wp2_with fail
  refine (qb_push (N := 3) hq1 2 5 (by omega) (by simp) hz1).mono ?_
  rintro e w2 ⟨rfl, hq2, hb2⟩
  have hB2 := hb1.trans hb2
  have hq2' : QB w2 g w.heap.size 3 [(5, 2)] := by simpa using hq2
  have hz2 := hB2.size
  clear hq1 hq2 hb1 hb2
  go_wp2_with fail
  refine (qb_push hq2' 1 5 (by omega) (by simp) hz2).mono ?_
  rintro e w3 ⟨rfl, hq3, hb3⟩
  have hB3 := hB2.trans hb3
  have hq3' : QB w3 g w.heap.size 3 [(5, 1), (5, 2)] := by simpa using hq3
  have hz3 := hB3.size
  clear hq2' hq3 hb3
  go_wp2_with fail
  refine (qb_push hq3' 0 9 (by omega) (by simp) hz3).mono ?_
  rintro e w4 ⟨rfl, hq4, hb4⟩
  have hB4 := hB3.trans hb4
  have hq4' : QB w4 g w.heap.size 3 [(9, 0), (5, 1), (5, 2)] := by simpa using hq4
  have hz4 := hB4.size
  clear hq3' hq4 hb4
  go_wp2_with fail
  refine (qb_pop hq4' most1 (by simp) hz4).mono ?_
  rintro e w5 ⟨rfl, hq5, hb5⟩
  have hB5 := hB4.trans hb5
  have hq5' : QB w5 g w.heap.size 3 [(9, 0), (5, 2)] := by simpa using hq5
  have hz5 := hB5.size
  clear hq4' hq5 hb5
  go_wp2_with fail
  refine (qb_pop hq5' most2 (by simp) hz5).mono ?_
  rintro e w6 ⟨rfl, hq6, hb6⟩
  have hB6 := hB5.trans hb6
  have hq6' : QB w6 g w.heap.size 3 [(9, 0)] := by simpa using hq6
  clear hq5' hq6 hb6
  go_wp2_with fail
  refine (ql_len hq6').mono ?_
  rintro e w7 ⟨rfl, rfl⟩
  go_wp2_with fail
  go_ret
  exact ⟨rfl, hB6⟩
end Go.Proofs.Ythjfboecdhlnfaa.que
