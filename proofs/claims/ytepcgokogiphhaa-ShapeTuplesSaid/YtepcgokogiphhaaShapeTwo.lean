/- Contracts of package shape, the second half: Tuple, Sizes; the reference's Small; the example. -/
import Derived.Test.YtepcgokogiphhaaShapeCon
import Derived.RegionTactic
import Derived.ChangeAlike
namespace Go.Proofs.Ytepcgokogiphhaa.shp
open Go.ChangeShapes Go.WideShapes Go.ChangeAt Go.RowKit Go.Proofs.Ytepcgokogiphhaa.words
set_option linter.unusedVariables false

theorem sizes_any (A : Option Addr) (n cap : Nat) (xs : List Int) (w : World) (hn : n ≤ 17592186044415) (hr : Reads w w.heap.size 1 A n (nums xs)) :
    Calls Try.prog 19 #[.agg #[.slice A n cap]] w fun e w' => Copied w xs e w' := by
  have hr1 := (hr.alloc (Nat.le_refl _) (.cells #[.slice A n cap] 28)).more (B' := (w.alloc (.cells #[.slice A n cap] 28)).heap.size) (by simp)
  go_enter Try.func19, Try.ntmps19
  go_wp2_with (first
    | (go_at_call 15; (with_reducible refine (clone_any _ _ _ xs _ hn hr1).mono ?_); rintro e w1 ⟨A1, c1, rfl, hown, hb1⟩))
  go_ret
  exact ⟨A1, c1, rfl, own_base hown (by simp), bto (bone _ _) hb1⟩

def tupI (xs : List Int) (i : Int) : List Int := (List.range xs.length).map fun k => i / prodI (xs.drop (k + 1)) % xs.getD k 1
theorem tup_len (xs : List Int) (i : Int) : (tupI xs i).length = xs.length := by unfold tupI; simp
theorem tup_get {xs : List Int} {k : Nat} {x : Int} (i : Int) (h : xs[k]? = some x) : (tupI xs i)[k]? = some (i / prodI (xs.drop (k + 1)) % x) := by
  have hl := (List.getElem?_eq_some_iff.1 h).1
  unfold tupI
  rw [List.getElem?_map, List.getElem?_range hl]
  simp [h]
/-- the first j places of a tuple, noughts behind -/
def part (l : List Int) (j : Nat) : List Int := l.take j ++ List.replicate (l.length - j) 0
theorem part_zero (l : List Int) : part l 0 = List.replicate l.length 0 := by unfold part; simp
theorem part_all (l : List Int) : part l l.length = l := by unfold part; simp
theorem part_len (l : List Int) (j : Nat) (h : j ≤ l.length) : (part l j).length = l.length := by unfold part; simp; omega
theorem part_set (l : List Int) (j : Nat) (x : Int) (h : l[j]? = some x) : (nums (part l j)).set j (.int .i64 x) = nums (part l (j + 1)) := by
  have hl := (List.getElem?_eq_some_iff.1 h).1
  unfold nums
  rw [← List.map_set]
  congr 1
  unfold part
  rw [List.set_append_right _ _ (by simp; omega), List.take_add_one, h, List.append_assoc]
  congr 1
  rw [show l.length - j = (l.length - (j + 1)) + 1 by omega, List.replicate_succ, List.length_take, Nat.min_eq_left (by omega), Nat.sub_self]
  rfl
theorem nums_rep (n : Nat) : (madeCells #[.int .i64 0] n).toList = nums (List.replicate n 0) := by
  rw [toList_madeCells_one]; unfold nums; rw [List.map_replicate]
theorem tdm (i P x : Int) (h0 : 0 ≤ i) (h1 : i ≤ 1073741824) (hP : 1 ≤ P) (hx : 1 ≤ x) : (wrap64 (i.tdiv P)).tmod x = i / P % x := by
  have e1 : i.tdiv P = i / P := Int.tdiv_eq_ediv_of_nonneg h0
  have b1 : 0 ≤ i / P := Int.ediv_nonneg h0 (by omega)
  have b2 : i / P ≤ i := Int.ediv_le_self P h0
  have e2 : wrap64 (i / P) = i / P := by unfold wrap64; omega
  rw [e1, e2, Int.tmod_eq_emod_of_nonneg b1]
/-- what Tuple answers -/
def Tupled (w : World) (xs : List Int) (i : Int) (e : Ending) (w' : World) : Prop :=
  Below w.heap.size w w' ∧
  ((¬ (0 ≤ i ∧ i < prodI xs) ∧ e = .returned (.tuple #[.slice none 0 0, .int .i64 3])) ∨
   ((0 ≤ i ∧ i < prodI xs) ∧ ∃ g, e = .returned (.tuple #[.slice (some ⟨g, 0, none⟩) xs.length xs.length, .int .i64 0]) ∧ w'.ownsRow w.heap.size 3 1 (.slice (some ⟨g, 0, none⟩) xs.length xs.length) xs.length (nums (tupI xs i))))
theorem tuple_any (A : Option Addr) (n cap : Nat) (xs : List Int) (i : Int) (w : World) (hnc : n ≤ cap) (hr : Reads w w.heap.size 1 A n (nums xs)) (hz : Szs xs) :
    Calls Try.prog 12 #[.agg #[.slice A n cap], .int .i64 i] w fun e w' => Tupled w xs i e w' := by
  obtain ⟨i0, hi0, hz0, hz1, hz2⟩ := info_parts infoI
  have hlen := nums_len hr
  have hn : n ≤ 6 := by have := hz.1; omega
  have hr1 := (hr.alloc (Nat.le_refl _) (.cells #[.slice A n cap] 28)).more (B' := (w.alloc (.cells #[.slice A n cap] 28)).heap.size) (by simp)
  by_cases h0 : 0 ≤ i
  · by_cases h1 : i < prodI xs
    · have hmk := fun W => run_make_rowN (P := Try.prog) 25 3 i0 _ Try.underlying25 hi0 hz0 .i64 .i64 n n (Nat.le_refl _) (by rw [hz2]; omega) (by omega) W
      go_enter Try.func12, Try.ntmps12
      go_wp2_with (first
        | (go_at_call 11; (with_reducible refine (count_any _ _ _ xs _ hr1 hz).mono ?_); rintro e w1 ⟨rfl, hb1⟩; obtain ⟨hc1, hf1⟩ := ((Blk.new w 28 #[.slice A n cap]).under hb1).one))
      have hb1' := hb1
      obtain ⟨B0, hB0⟩ : ∃ B0, B0 = (w.alloc (.cells #[.slice A n cap] 28)).heap.size := ⟨_, rfl⟩
      have hBw : B0 = w.heap.size + 1 := by rw [hB0]; simp
      rw [← hB0] at hb1' hr1
      have HB0 := Lib.hid hB0
      have HBw := Lib.hid hBw
      have hbx : Blk (w.alloc (.cells #[.slice A n cap] 28)) w.heap.size 28 #[.slice A n cap] := Blk.new _ _ _
      have hB1 : B0 ≤ w1.heap.size := by rw [hB0]; exact hb1.size
      have hown : (w1.alloc (.cells (madeCells #[.int .i64 0] n) 3)).ownsRow B0 3 1 (.slice (some ⟨w1.heap.size, 0, none⟩) n n) n (nums (part (tupI xs i) 0)) := by
        rw [part_zero, tup_len, hlen, ← nums_rep]
        exact World.ownsRow_lit w1 _ n hB1 (by unfold maxLen; omega) (by simp [madeCells])
      have hb2 : Below B0 (w.alloc (.cells #[.slice A n cap] 28)) (w1.alloc (.cells (madeCells #[.int .i64 0] n) 3)) := hb1'.alloc hB1 _
      clear hmk hb1 hb1' hc1 hf1 hB0 hBw
      go_loopw [23] (fun iv wr => ∃ j : Nat, j ≤ n ∧ iv = .int .i64 j ∧ wr.ownsRow B0 3 1 (.slice (some ⟨w1.heap.size, 0, none⟩) n n) n (nums (part (tupI xs i) j)) ∧ Below B0 (w.alloc (.cells #[.slice A n cap] 28)) wr) (fun iv _ => n - (intOf iv).toNat)
      case atStart => exact ⟨0, by omega, rfl, hown, hb2⟩
      case round =>
        obtain ⟨j, hj, rfl, hor, hbr⟩ := hrel
        have hrr : Reads wr wr.heap.size 1 A n (nums xs) := (hr1.below hbr).more (by rw [HB0.out]; exact hbr.size)
        have hbxr := hbx.below hbr (by rw [HBw.out]; omega)
        by_cases hlt : j < n
        · obtain ⟨ad, x, rfl, _, hx, hc⟩ := hrr.num hlt
          obtain ⟨x1, x2⟩ := hz.2 x (List.mem_of_getElem? hx)
          have hP := szs_prod (szs_drop hz (j + 1))
          have hst := fun wx hrx => step_any (some ad) n cap xs j wx (by omega) hnc hrx hz
          have hse : stepAt xs j = prodI (xs.drop (j + 1)) := by unfold stepAt; rw [if_pos (by omega)]; rfl
          rw [hse] at hst
          have HT := Lib.hid (part_set _ j _ (tup_get i hx))
          clear hown hb2 hr hr1 hse
          obtain ⟨hcb, hfb⟩ := hbxr.one
          obtain ⟨q, hq⟩ : ∃ q, (part (tupI xs i) j)[j]? = some q := ⟨_, List.getElem?_eq_getElem (by rw [part_len _ _ (by rw [tup_len]; omega), tup_len]; omega)⟩
          have hnq : (nums (part (tupI xs i) j))[j]? = some (.int .i64 q) := by unfold nums; rw [List.getElem?_map, hq]; rfl
          obtain ⟨P, hPe⟩ : ∃ P, prodI (xs.drop (j + 1)) = P := ⟨_, rfl⟩
          rw [hPe] at hst hP HT
          clear hPe
          go_wp2_with (first
            | (go_at_call 13; (with_reducible refine (hst _ hrr).mono ?_); rintro e w2 ⟨rfl, hb3⟩; obtain ⟨hc2, hf2⟩ := (hbxr.under hb3).one; have hor2 := own_under hor hb3; obtain ⟨ad', x', hA', _, hx', hc3⟩ := (hrr.lift hb3).num hlt; obtain rfl : ad = ad' := Option.some.inj hA'; obtain rfl : x = x' := Option.some.inj (hx.symm.trans hx'); have hc4 := (hor2.cellAt j (by omega)).trans hnq; have hf4 := hor2.frozenAt j; clear hc hcb hfb)
            | fail)
          go_region
          go_wp2
          go_roundw
          case rel =>
            have hdm := tdm i P x h0 (by have := (szs_prod hz).2; omega) hP.1 x1
            rw [← hdm] at HT
            refine ⟨j + 1, by omega, by go_num, ?_, ?_⟩
            · rw [← HT.out]; exact (hor2.stored j _).1.drew
            · exact ((hbr.trans (hb3.mono (by rw [HB0.out]; exact hbr.size))).setCell (p := ⟨w1.heap.size, j, none⟩) hB1 _).drew
          case measure => simp [intOf]; omega
        · obtain rfl : n = j := by omega
          have hpa : part (tupI xs i) n = tupI xs i := by have := part_all (tupI xs i); rw [tup_len, hlen] at this; exact this
          rw [hpa] at hor
          clear hpa
          go_wp2
          go_ret2
          have hb : Below w.heap.size w wr := ((bone w _).trans (hbr.mono (by rw [HBw.out]; omega)))
          refine ⟨hb, .inr ⟨⟨h0, h1⟩, w1.heap.size, by rw [hlen]; rfl, ?_⟩⟩
          rw [hlen]; exact own_base hor (by rw [HBw.out]; omega)
    · have hbad : ¬ (0 ≤ i ∧ i < prodI xs) := fun h => h1 h.2
      have HB := Lib.hid hbad
      clear hbad
      go_enter Try.func12, Try.ntmps12
      go_wp2_with (first
        | (go_at_call 11; (with_reducible refine (count_any _ _ _ xs _ hr1 hz).mono ?_); rintro e w1 ⟨rfl, hb1⟩))
      go_ret2
      exact ⟨bto (bone _ _) hb1, .inl ⟨HB.out, rfl⟩⟩
  · have hbad : ¬ (0 ≤ i ∧ i < prodI xs) := fun h => h0 h.1
    have HB := Lib.hid hbad
    clear hbad
    go_enter Try.func12, Try.ntmps12
    go_wp2
    go_ret2
    exact ⟨bone _ _, .inl ⟨HB.out, rfl⟩⟩

/-- sizes out of bytes: at most three, of 1 to 4 -/
def smallI (l : List Int) : List Int := (l.take 3).map fun x => 1 + x % 4
def bytes8 (l : List Int) : List Value := l.map fun x => .int .u8 x
theorem small_szs (l : List Int) : Szs (smallI l) ∧ (smallI l).length ≤ 3 ∧ ∀ x ∈ smallI l, 1 ≤ x ∧ x ≤ 4 := by
  have h : ∀ x ∈ smallI l, 1 ≤ x ∧ x ≤ 4 := by
    intro x hx
    unfold smallI at hx
    obtain ⟨y, _, rfl⟩ := List.mem_map.1 hx
    omega
  have h2 : (smallI l).length ≤ 3 := by unfold smallI; simp; omega
  exact ⟨⟨by omega, fun k hk => by have := h k hk; omega⟩, h2, h⟩
theorem small_snoc (l : List Int) (j : Nat) (x : Int) (h : l[j]? = some x) (hj : j < 3) : smallI (l.take (j + 1)) = smallI (l.take j) ++ [1 + x % 4] := by
  unfold smallI
  rw [List.take_take, List.take_take, Nat.min_eq_right (by omega), Nat.min_eq_right (by omega), List.take_add_one, h]
  simp
theorem small_same (l : List Int) (j : Nat) (hj : 3 ≤ j) : smallI (l.take j) = smallI l := by
  unfold smallI; rw [List.take_take, Nat.min_eq_left hj]
theorem small_any (A : Option Addr) (n cap : Nat) (l : List Int) (w : World) (hn : n ≤ 9223372036854775807) (hr : Reads w w.heap.size 1 A n (bytes8 l)) (h8 : ∀ x ∈ l, 0 ≤ x ∧ x < 256) :
    Calls Try.prog 9 #[.slice A n cap] w fun e w' => Copied w (smallI l) e w' := by
  obtain ⟨i0, hi0, hz0, hz1, hz2⟩ := info_parts infoI
  have hlen : l.length = n := by have := hr.1; simpa [bytes8] using this
  go_enter Try.func9, Try.ntmps9
  go_wp2
  go_loopw [3, 8] (fun v iv wr => ∃ (j : Nat) (A1 : Option Addr) (c1 : Nat), j ≤ n ∧ iv = .int .i64 j ∧ v = .slice A1 (smallI (l.take j)).length c1 ∧ wr.ownsRow w.heap.size 3 1 (.slice A1 (smallI (l.take j)).length c1) (smallI (l.take j)).length (nums (smallI (l.take j))) ∧ Below w.heap.size w wr) (fun _ iv _ => n - (intOf iv).toNat)
  case atStart => exact ⟨0, none, 0, by omega, rfl, rfl, World.ownsRow_nil _ _ _ _, Below.refl _ _⟩
  case round =>
    obtain ⟨j, A1, c1, hj, rfl, rfl, hor, hbr⟩ := hrel
    have hrr := hr.below hbr
    by_cases hlt : j < n
    · obtain ⟨ad, u, rfl, _, hx, hc⟩ := hrr.at_ hlt
      obtain ⟨x, hx', rfl⟩ : ∃ x, l[j]? = some x ∧ u = .int .u8 x := by
        unfold bytes8 at hx; rw [List.getElem?_map] at hx
        cases hl : l[j]? with
        | none => rw [hl] at hx; simp at hx
        | some y => rw [hl] at hx; simp at hx; exact ⟨y, rfl, hx.symm⟩
      obtain ⟨x1, x2⟩ := h8 x (List.mem_of_getElem? hx')
      have hbs := hbr.size
      by_cases h3 : j < 3
      · have hle := (small_szs (l.take j)).2.1
        have HS := Lib.hid (small_snoc l j x hx' h3)
        obtain ⟨y, hy⟩ : ∃ y, 1 + x % 4 = y := ⟨_, rfl⟩
        rw [hy] at HS
        have HY := Lib.hid hy
        have hx4 : x.tmod 4 = x % 4 := Int.tmod_eq_emod_of_nonneg x1
        obtain ⟨m, hm⟩ : ∃ m, m = (smallI (l.take j)).length := ⟨_, rfl⟩
        rw [← hm] at hor hle ⊢
        have HM := Lib.hid hm
        have ho1 := hor.alloc (.cells #[.int .i64 y] 3)
        have hr1 : Reads (wr.alloc (.cells #[.int .i64 y] 3)) (wr.alloc (.cells #[.int .i64 y] 3)).heap.size 1 (some ⟨wr.heap.size, 0, none⟩) 1 (nums [y]) := reads_block (t := 3) (heap_alloc_new _ _) rfl
        clear hm hx hx' hx4
        go_wp2_with (first
          | (at_builtin; refine wpList_append_any _ rfl (.tmp 15) (.tmp 20) _ rfl w.heap.size 3 i0 _ 1 8 Try.underlying25 hi0 hz0 hz1 hz2 rfl (by omega) _ m _ rfl ho1 (wr.alloc (.cells #[.int .i64 y] 3)).heap.size (some ⟨wr.heap.size, 0, none⟩) 1 1 (nums [y]) rfl hr1 nums_one (by simp only [maxLen]; omega) (by omega) (by simp; omega) ?_; intro v1 w1 hown hg1 _)
          | fail)
        go_roundw
        case rel =>
          obtain ⟨A2, c2, rfl⟩ := own_shape hown
          have hl2 : (smallI (l.take (j + 1))).length = m + 1 := by rw [HS.out, List.length_append, ← HM.out]; rfl
          have hg2 : (wr.alloc (.cells #[.int .i64 y] 3)).grownBy w1 (Value.slice A1 m c1).ownBlock := hg1
          refine ⟨j + 1, A2, c2, by omega, by go_num, by rw [hl2], ?_, (bnew hbr _).grown hg2 (by simp; omega) fun k hk => (ho1.lt k hk).1⟩
          rw [hl2, HS.out]; unfold nums at hown ⊢; rw [List.map_append]; exact hown
        case measure => simp [intOf]; omega
      · have hsame : smallI (l.take (j + 1)) = smallI (l.take j) := by rw [small_same _ _ (by omega), small_same _ _ (by omega)]
        have HS := Lib.hid hsame
        clear hsame
        go_wp2
        go_roundw
        case rel => exact ⟨j + 1, A1, c1, by omega, by go_num, by rw [HS.out], by rw [HS.out]; exact hor, hbr⟩
        case measure => simp [intOf]; omega
    · have hall : l.take j = l := List.take_of_length_le (by omega)
      rw [hall] at hor ⊢
      clear hall
      go_wp2
      go_ret
      exact ⟨A1, c1, rfl, hor, hbr⟩

theorem new_yes (A : Option Addr) (n cap : Nat) (xs : List Int) (w : World) (hn : n ≤ 17592186044415) (hr : Reads w w.heap.size 1 A n (nums xs)) (hsz : Szs xs) (hp : prodI xs ≤ 4096) :
    Calls Try.prog 10 #[.slice A n cap] w fun e w' => ∃ A1 c1, e = .returned (.tuple #[.agg #[.slice A1 n c1], .int .i64 0]) ∧ w'.ownsRow w.heap.size 3 1 (.slice A1 n c1) n (nums xs) ∧ n ≤ c1 ∧ Below w.heap.size w w' := by
  have hlen := nums_len hr
  refine (new_any A n cap xs w hn hr).mono ?_
  rintro e w' ⟨hb, h⟩
  rcases h with ⟨h, _⟩ | ⟨_, h, _⟩ | ⟨_, _, A1, c1, rfl, hown⟩
  · exact absurd hsz h
  · omega
  · rw [hlen] at hown
    exact ⟨A1, c1, by rw [hlen], hown, own_cap hown, hb⟩
theorem szs_small {xs : List Int} (h3 : xs.length ≤ 3) (h : ∀ x ∈ xs, 1 ≤ x ∧ x ≤ 4) : Szs xs ∧ prodI xs ≤ 4096 := by
  refine ⟨⟨by omega, fun k hk => by have := h k hk; omega⟩, ?_⟩
  match xs, h3 with
  | [], _ => simp [prodI]
  | [a], _ => have := h a (by simp); simp [prodI]; omega
  | [a, b], _ =>
    have h1 := h a (by simp)
    have h2 := h b (by simp)
    have : a * b ≤ 4 * 4 := Int.mul_le_mul (by omega) (by omega) (by omega) (by omega)
    simp [prodI]; omega
  | [a, b, c], _ =>
    have h1 := h a (by simp)
    have h2 := h b (by simp)
    have h3 := h c (by simp)
    have m1 : a * b ≤ 4 * 4 := Int.mul_le_mul (by omega) (by omega) (by omega) (by omega)
    have m0 : 0 ≤ a * b := Int.mul_nonneg (by omega) (by omega)
    have m2 : a * b * c ≤ 16 * 4 := Int.mul_le_mul (by omega) (by omega) (by omega) (by omega)
    simp [prodI]; omega
theorem awake_any (w : World) : Calls Try.prog 8 #[] w fun e w' => e = .returned (.bool true) ∧ Below w.heap.size w w' := by
  have hs : Szs [2, 3] ∧ prodI [2, 3] ≤ 4096 := szs_small (by simp) (by simp)
  have hp : prodI [2, 3] = 6 := by decide
  have hst : stepAt [2, 3] 0 = 3 := by decide
  have hv : idxV [2, 3] [1, 2] = 5 := by decide
  have he : idxE [2, 3] [1, 2] = 0 := by decide
  have hl : ∀ (W : World) (a b : Int), Reads (W.alloc (.cells #[.int .i64 a, .int .i64 b] 3)) (W.alloc (.cells #[.int .i64 a, .int .i64 b] 3)).heap.size 1 (some ⟨W.heap.size, 0, none⟩) 2 (nums [a, b]) := fun W a b => reads_block (t := 3) (heap_alloc_new _ _) rfl
  go_enter Try.func8, Try.ntmps8
  go_wp2_with fail
  refine (new_yes _ 2 2 [2, 3] _ (by omega) (hl _ _ _) hs.1 hs.2).mono ?_
  rintro e w1 ⟨A1, c1, rfl, hown, hc1, hb1⟩
  have hq := hs.1
  clear hs
  have hbx : Blk (w1.alloc (.cells #[.slice A1 2 c1] 28)) w1.heap.size 28 #[.slice A1 2 c1] := Blk.new _ _ _
  have hr1 : Reads (w1.alloc (.cells #[.slice A1 2 c1] 28)) (w1.alloc (.cells #[.slice A1 2 c1] 28)).heap.size 1 A1 2 (nums [2, 3]) := ((Reads.of_own hown).alloc (Nat.le_refl _) _).more (by simp)
  have hB : Below w.heap.size w (w1.alloc (.cells #[.slice A1 2 c1] 28)) := bnew (bto (bone w _) hb1) _
  have hz1 : (w1.alloc (.cells #[.slice A1 2 c1] 28)).heap.size = w1.heap.size + 1 := by simp
  obtain ⟨W1, hW1⟩ : ∃ W1, W1 = w1.alloc (.cells #[.slice A1 2 c1] 28) := ⟨_, rfl⟩
  have ht := hl W1 1 2
  have hr2 : Reads (W1.alloc (.cells #[.int .i64 1, .int .i64 2] 3)) (W1.alloc (.cells #[.int .i64 1, .int .i64 2] 3)).heap.size 1 A1 2 (nums [2, 3]) := by
    rw [hW1]; exact (hr1.alloc (Nat.le_refl _) _).more (by simp)
  have hi := index_any A1 _ 2 c1 2 [2, 3] [1, 2] _ (by omega) hr2 ht hq
  rw [hv, he] at hi
  have hbx2 : Blk (W1.alloc (.cells #[.int .i64 1, .int .i64 2] 3)) w1.heap.size 28 #[.slice A1 2 c1] := by rw [hW1]; exact hbx.alloc _
  have hB2 : Below w.heap.size w (W1.alloc (.cells #[.int .i64 1, .int .i64 2] 3)) := by rw [hW1]; exact bnew hB _
  rw [hW1, hz1] at hi
  rw [hW1] at hr2 hbx2 hB2
  clear hl ht hv he hown hb1 hr1 hbx hB hz1 hW1 W1
  go_wp2_with fail
  refine hi.mono ?_
  rintro e w2 ⟨rfl, hb2⟩
  obtain ⟨hcb, _⟩ := Blk.at_ hbx2 hb2
  have hr3 := hr2.lift hb2
  have hc := count_any A1 2 c1 [2, 3] w2 hr3 hq
  have hs := fun wx hx => step_any A1 2 c1 [2, 3] 0 wx (by omega) hc1 hx hq
  rw [hst] at hs
  rw [hp] at hc
  clear hi hp hst
  go_wp2_with fail
  refine hc.mono ?_
  rintro e w3 ⟨rfl, hb3⟩
  obtain ⟨hcc, _⟩ := Blk.at_ (Blk.under hbx2 hb2) hb3
  have hs' := hs _ (hr3.lift hb3)
  clear hs hc hcb
  go_wp2_with fail
  refine hs'.mono ?_
  rintro e w4 ⟨rfl, hb4⟩
  go_wp2
  go_ret
  exact ⟨rfl, bto (bto (bto hB2 hb2) hb3) hb4⟩
end Go.Proofs.Ytepcgokogiphhaa.shp
