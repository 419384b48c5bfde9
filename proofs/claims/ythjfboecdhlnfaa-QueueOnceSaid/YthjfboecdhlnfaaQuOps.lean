/- Contracts of the queue's calls. -/
import Derived.Test.YthjfboecdhlnfaaQuSet
import Derived.Laws.MakeOwn
namespace Go.Proofs.Ythjfboecdhlnfaa.que
open Go Go.RowKit Go.ChangeShapes Go.WideShapes Go.ChangeAt Go.Proofs.Ythjfboecdhlnfaa.words
set_option linter.unusedVariables false
theorem len_nil (w : World) : Calls Try.prog 12 #[.pointer none] w fun e w' => e = .returned (.int .i64 0) ∧ w = w' := by
  go_enter Try.func12, Try.ntmps12
  go_wp2
  go_ret
  exact ⟨rfl, rfl⟩
theorem len_any (w : World) (g N : Nat) (F : Nat → Prop) (H : List It) (hq : Qs w g F N H) : Calls Try.prog 12 #[.pointer (some ⟨g, 0, none⟩)] w fun e w' => e = .returned (.int .i64 H.length) ∧ w = w' := by
  obtain ⟨hg, A1, c1, A2, c2, hb, h1, f1, h2, f2⟩ := hq
  obtain ⟨q0, q1⟩ := hb.two
  obtain ⟨n, hn⟩ : ∃ n, H.length = n := ⟨_, rfl⟩
  rw [hn] at q0 ⊢
  clear hn h1 h2 f1 f2 hb q1
  go_enter Try.func12, Try.ntmps12
  go_wp2
  go_ret
  exact ⟨rfl, rfl⟩
theorem has_nil (x : Int) (w : World) : Calls Try.prog 16 #[.pointer none, .int .i64 x] w fun e w' => e = .returned (.bool false) ∧ w = w' := by
  go_enter Try.func16, Try.ntmps16
  go_wp2
  go_ret
  exact ⟨rfl, rfl⟩
theorem has_out (w : World) (g N : Nat) (F : Nat → Prop) (H : List It) (x : Int) (hq : Qs w g F N H) (hN : N ≤ 1000000) (hx : x < 0 ∨ N ≤ x) : Calls Try.prog 16 #[.pointer (some ⟨g, 0, none⟩), .int .i64 x] w fun e w' => e = .returned (.bool false) ∧ w = w' := by
  obtain ⟨hg, A1, c1, A2, c2, hb, h1, f1, h2, f2⟩ := hq
  obtain ⟨q0, q1⟩ := hb.two
  clear h1 h2 f1 f2 hb q0
  by_cases h0 : 0 ≤ x
  · have hx1 : (N : Int) ≤ x := by omega
    clear hx
    go_enter Try.func16, Try.ntmps16
    go_wp2
    go_ret
    exact ⟨ret_bool (by first | rfl | (simp; omega) | simp), rfl⟩
  · clear hx
    go_enter Try.func16, Try.ntmps16
    go_wp2
    go_ret
    exact ⟨rfl, rfl⟩
/-- is a number there? -/
def inQ (H : List It) (x : Int) : Bool := H.any fun a => decide (a.2 = x)
theorem inQ_iff (H : List It) (x : Int) : inQ H x = true ↔ ∃ a ∈ H, a.2 = x := by unfold inQ; simp
theorem inQ_plc {N : Nat} {H : List It} (hv : Val N H) (x : Int) : decide (0 ≤ plc H x) = inQ H x := by
  rw [Bool.eq_iff_iff, inQ_iff, decide_eq_true_eq]
  rcases plc_cases H hv.nd x with ⟨h1, h2⟩ | ⟨i, a, h1, h2, h3⟩
  · rw [h1]
    exact ⟨fun h => by omega, fun ⟨a, ha, he⟩ => absurd he (h2 a ha)⟩
  · rw [h3]
    exact ⟨fun _ => ⟨a, List.mem_of_getElem? h1, h2⟩, fun _ => by omega⟩
theorem has_in (w : World) (g N : Nat) (F : Nat → Prop) (H : List It) (x : Nat) (hq : Qs w g F N H) (hv : Val N H) (hx : x < N) : Calls Try.prog 16 #[.pointer (some ⟨g, 0, none⟩), .int .i64 x] w fun e w' => e = .returned (.bool (inQ H x)) ∧ w = w' := by
  have hi := inQ_plc hv (x : Int)
  obtain ⟨hg, A1, c1, A2, c2, hb, h1, f1, h2, f2⟩ := hq
  obtain ⟨q0, q1⟩ := hb.two
  have hcN := own_cap h2
  obtain ⟨r2, rfl, _, hr2⟩ := own_some h2 (by omega)
  have gx := plcs_get N H x hx
  have e1 : w.cell? ⟨r2, x, none⟩ = some (.int .i64 (plc H x)) := (h2.cellAt x (by omega)).trans (by unfold nums; rw [List.getElem?_map, gx]; rfl)
  obtain ⟨v, hv'⟩ : ∃ v, plc H x = v := ⟨_, rfl⟩
  rw [hv'] at e1 hi
  have x0 : (0 : Int) ≤ (x : Int) := Int.natCast_nonneg _
  have x1 : (x : Int) < (N : Int) := by omega
  rw [← hi]
  clear h1 h2 f1 f2 hb q0 gx hi hv' hv
  go_enter Try.func16, Try.ntmps16
  go_wp2
  go_ret
  exact ⟨rfl, rfl⟩
theorem has_any (w : World) (g N : Nat) (F : Nat → Prop) (H : List It) (x : Int) (hq : Qs w g F N H) (hv : Val N H) (hN : N ≤ 1000000) : Calls Try.prog 16 #[.pointer (some ⟨g, 0, none⟩), .int .i64 x] w fun e w' => e = .returned (.bool (inQ H x)) ∧ w = w' := by
  by_cases h : 0 ≤ x ∧ x < N
  · obtain ⟨y, rfl⟩ : ∃ y : Nat, x = y := ⟨x.toNat, by omega⟩
    exact has_in w g N F H y hq hv (by omega)
  · have : inQ H x = false := by
      cases hc : inQ H x with
      | false => rfl
      | true =>
        obtain ⟨a, ha, rfl⟩ := (inQ_iff H x).1 hc
        exact absurd (hv.lo a ha) h
    rw [this]
    exact has_out w g N F H x hq hN (by omega)
theorem top_nil (w : World) : Calls Try.prog 15 #[.pointer none] w fun e w' => e = .returned (.tuple #[.int .i64 0, .int .i64 0, .bool false]) ∧ w = w' := by
  go_enter Try.func15, Try.ntmps15
  go_wp2_with (first
    | (go_at_call 12; (with_reducible refine (len_nil _).mono ?_); rintro e w' ⟨rfl, rfl⟩))
  go_ret3
  exact ⟨rfl, rfl⟩
theorem top_none (w : World) (g N : Nat) (F : Nat → Prop) (hq : Qs w g F N []) : Calls Try.prog 15 #[.pointer (some ⟨g, 0, none⟩)] w fun e w' => e = .returned (.tuple #[.int .i64 0, .int .i64 0, .bool false]) ∧ w = w' := by
  have hl := len_any w g N F [] hq
  go_enter Try.func15, Try.ntmps15
  go_wp2_with (first
    | (go_at_call 12; (with_reducible refine (hl).mono ?_); rintro e w' ⟨rfl, rfl⟩))
  go_ret3
  exact ⟨rfl, rfl⟩
theorem below_same {w w' : World} (n : Nat) (h : w' = w.drewN n) : Below w.heap.size w w' := by subst h; exact below_drewN (Below.refl _ _) n
theorem top_some (w : World) (g N : Nat) (F : Nat → Prop) (H : List It) (p x : Int) (hq : Qs w g F N H) (h0 : H[0]? = some (p, x)) (hlen : H.length ≤ 1000000) : Calls Try.prog 15 #[.pointer (some ⟨g, 0, none⟩)] w fun e w' => e = .returned (.tuple #[.int .i64 x, .int .i64 p, .bool true]) ∧ Below w.heap.size w w' := by
  have hl := len_any w g N F H hq
  have hn0 := (List.getElem?_eq_some_iff.1 h0).1
  obtain ⟨n, hn⟩ : ∃ n, H.length = n := ⟨_, rfl⟩
  rw [hn] at hl
  obtain ⟨r1, c1, A2, c2, hc1, hlk⟩ := hq.look hn (by omega)
  obtain ⟨q0, q1, qi⟩ := hlk w (Below.refl _ _)
  obtain ⟨e1, e2⟩ := qi 0 _ h0
  rw [Nat.zero_mul] at e1 e2
  rw [Nat.zero_add] at e2
  dsimp only at e1 e2
  have n1 : (0 : Int) < (n : Int) := by omega
  have nb : ((n : Int) == 0) = false := by simp; omega
  clear hlk qi q1 hq hn hn0 h0
  go_enter Try.func15, Try.ntmps15
  go_wp2_with (first
    | (go_at_call 12; (with_reducible refine (hl).mono ?_); rintro e w' ⟨rfl, rfl⟩)
    | fail)
  go_quiet (fail)
  go_wp2
  go_ret3
  exact ⟨rfl, below_drewN (Below.refl _ _) _⟩
theorem nums_rep (n : Nat) : (madeCells #[.int .i64 0] n).toList = nums (List.replicate n 0) := by
  rw [toList_madeCells_one]; unfold nums; rw [List.map_replicate]
def Newed (w : World) (N : Nat) (e : Ending) (w' : World) : Prop := ∃ g, e = .returned (.pointer (some ⟨g, 0, none⟩)) ∧ Qs w' g (fun k => w.heap.size ≤ k) N [] ∧ Below w.heap.size w w'
theorem new_any (n : Int) (w : World) (hn : n ≤ 1000000) : Calls Try.prog 9 #[.int .i64 n] w fun e w' => Newed w n.toNat e w' := by
  obtain ⟨i0, hi0, hz0, hz1, hz2⟩ := info_parts infoI
  obtain ⟨N, hN⟩ : ∃ N : Nat, n.toNat = N := ⟨_, rfl⟩
  have hmax : (if n < (0 : Int) then (0 : Int) else n) = (N : Int) := by split <;> omega
  have hNb : N ≤ 1000000 := by omega
  have hmk := fun W => run_make_rowN (P := Try.prog) 54 3 i0 _ Try.underlying54 hi0 hz0 .i64 .i64 N N (Nat.le_refl _) (by rw [hz2]; omega) (by omega) W
  rw [hN]
  clear hN
  go_enter Try.func9, Try.ntmps9
  go_wp2_with fail
  have hg : Blk ((w.alloc (.cells (madeCells #[.int .i64 0] N) 3)).alloc (.cells #[.slice none 0 0, .slice (some ⟨w.heap.size, 0, none⟩) N N] 57)) (w.heap.size + 1) 57 #[.slice none 0 0, .slice (some ⟨w.heap.size, 0, none⟩) N N] := by
    have := Blk.new (w.alloc (.cells (madeCells #[.int .i64 0] N) 3)) 57 #[.slice none 0 0, .slice (some ⟨w.heap.size, 0, none⟩) N N]
    rwa [World.size_alloc] at this
  have ho : ((w.alloc (.cells (madeCells #[.int .i64 0] N) 3)).alloc (.cells #[.slice none 0 0, .slice (some ⟨w.heap.size, 0, none⟩) N N] 57)).ownsRow 0 3 1 (.slice (some ⟨w.heap.size, 0, none⟩) N N) N (nums (List.replicate 0 (-1) ++ List.replicate (N - 0) 0)) := by
    have h := (World.ownsRow_lit (base := 0) (e := 3) (size := 1) w (madeCells #[.int .i64 0] N) N (Nat.zero_le _) (by unfold maxLen; omega) (by simp [madeCells])).alloc (.cells #[.slice none 0 0, .slice (some ⟨w.heap.size, 0, none⟩) N N] 57)
    rw [nums_rep] at h
    simpa using h
  have hB : Below w.heap.size w ((w.alloc (.cells (madeCells #[.int .i64 0] N) 3)).alloc (.cells #[.slice none 0 0, .slice (some ⟨w.heap.size, 0, none⟩) N N] 57)) := bnew (bone w _) _
  obtain ⟨W, hW⟩ : ∃ W, (w.alloc (.cells (madeCells #[.int .i64 0] N) 3)).alloc (.cells #[.slice none 0 0, .slice (some ⟨w.heap.size, 0, none⟩) N N] 57) = W := ⟨_, rfl⟩
  rw [hW] at hg ho hB ⊢
  clear hW hmk hmax
  go_loopw [4, 15] (fun _ jv wr => ∃ j : Nat, j ≤ N ∧ jv = .int .i64 j ∧ Blk wr (w.heap.size + 1) 57 #[.slice none 0 0, .slice (some ⟨w.heap.size, 0, none⟩) N N] ∧
    wr.ownsRow 0 3 1 (.slice (some ⟨w.heap.size, 0, none⟩) N N) N (nums (List.replicate j (-1) ++ List.replicate (N - j) 0)) ∧ Below w.heap.size w wr) (fun _ jv _ => N - (intOf jv).toNat)
  case atStart => exact ⟨0, by omega, rfl, hg, ho, hB⟩
  case round =>
    clear hg ho hB
    obtain ⟨j, hj, rfl, hg, ho, hB⟩ := hrel
    obtain ⟨q0, q1⟩ := hg.two
    by_cases hlt : j < N
    · have hc := ho.cellAt j (by omega)
      have hx : (nums (List.replicate j (-1) ++ List.replicate (N - j) 0))[j]? = some (.int .i64 0) := by
        unfold nums
        rw [List.getElem?_map, List.getElem?_append_right (by simp), List.length_replicate, Nat.sub_self, List.getElem?_replicate, if_pos (by omega)]
        rfl
      have hc2 := hc.trans hx
      have hf := ho.frozenAt j
      have hset : Hid ((nums (List.replicate j (-1) ++ List.replicate (N - j) 0)).set j (.int .i64 (-1)) = nums (List.replicate (j + 1) (-1) ++ List.replicate (N - (j + 1)) 0)) := by
        show _ = _
        unfold nums
        rw [show (Value.int .i64 (-1)) = (Value.int .i64) (-1) from rfl, ← List.map_set]
        congr 1
        rw [List.set_append_right _ _ (by simp), show N - j = (N - (j + 1)) + 1 by omega, List.replicate_succ (n := N - (j + 1))]
        simp [List.replicate_succ']
      clear hc hx q0
      go_wp2
      go_roundw
      case rel =>
        refine ⟨j + 1, by omega, by go_num, hg.far (p := ⟨w.heap.size, j, none⟩) (by simp) _, ?_, hB.setCell (p := ⟨w.heap.size, j, none⟩) (Nat.le_refl _) _⟩
        rw [← hset.out]; exact (ho.stored j _).1
      case measure => simp [intOf]; omega
    · obtain rfl : j = N := by omega
      rw [Nat.sub_self, List.replicate_zero, List.append_nil] at ho
      have hp : Hid (plcs j [] = List.replicate j (-1)) := by
        show _ = _
        unfold plcs
        apply List.ext_getElem
        · simp
        · intro i h1 h2; simp [plc]
      go_wp2
      go_ret
      refine ⟨_, rfl, ⟨by simp, none, 0, _, j, hg, World.ownsRow_nil _ _ _ _, (fun k hk => by cases hk), (by rw [hp.out]; exact ho), (fun k hk => by have := Option.some.inj hk; dsimp only at this; show w.heap.size ≤ k; omega)⟩, hB⟩
end Go.Proofs.Ythjfboecdhlnfaa.que
