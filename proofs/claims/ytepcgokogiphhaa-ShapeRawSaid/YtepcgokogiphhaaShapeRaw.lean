/- For every input ShapeRaw returns true; its arguments read as before. No condition. -/
import Derived.Test.YtepcgokogiphhaaRows
import Derived.WalkKit
import Derived.ProofKit
import Derived.OpenShut
import Derived.Test.YtepcgokogiphhaaShapeTwo
import Derived.Deep.RegionHeld3
import Derived.Deep.DrawnRows
import Derived.Deep.DeepCutAuto
import Derived.ShutString
import Derived.ChangeOld
import Derived.Below
namespace Go.Proofs.Ytepcgokogiphhaa.shapeRaw
open Go.Proofs.Ytepcgokogiphhaa.shp Go.Proofs.Ytepcgokogiphhaa.words
open Go.ChangeShapes Go.WideShapes Go.ChangeAt Go.RowKit
open Go.ChangeMaps (open_string shut_string)
set_option linter.unusedVariables false

theorem own : ownKnob Try.prog.godebug = none := by kernel_rfl
theorem laidOut : laidOutB Try.prog = true := by kernel_rfl

def IsRow (k : IntKind) (w : World) (a : Option Addr) (len cap : Nat) (zs : List Int) : Prop :=
  (a = none ∧ len = 0 ∧ cap = 0 ∧ zs = []) ∨
  ∃ x, a = some x ∧ len ≤ cap ∧ cap ≤ maxLen ∧ zs.length = cap ∧ (∀ i, i < zs.length → w.cell? (x.add i) = some (.int k (zs.getD i 0))) ∧ ∀ n ∈ zs, (Lit.int k n).wf = true

theorem row_reads {k : IntKind} {w : World} {a : Option Addr} {len cap : Nat} {zs : List Int} (h : IsRow k w a len cap zs) :
    Reads w w.heap.size 1 a len ((zs.take len).map (Value.int k)) ∧ len ≤ 9223372036854775807 ∧ len ≤ cap ∧ ∀ x ∈ zs.take len, (Lit.int k x).wf = true := by
  rcases h with ⟨rfl, rfl, rfl, rfl⟩ | ⟨x, rfl, hl, hm, hz, hcell, hwz⟩
  · exact ⟨by simpa using (Reads.none_ (w := w) (B := w.heap.size) (size := 1) (A := none)), by omega, by omega, by simp⟩
  · refine ⟨⟨by simp; omega, fun h0 => ⟨x, rfl, ?_, fun j u hu => ?_⟩⟩, by unfold maxLen at hm; omega, hl, fun x hx => hwz x (List.mem_of_mem_take hx)⟩
    · have := World.block_lt_of_cell? w _ (hcell 0 (by omega))
      rw [block_of_add] at this; exact this
    · rw [List.getElem?_map, List.getElem?_take] at hu
      split at hu
      · cases hy : zs[j]? with
        | none => rw [hy] at hu; simp at hu
        | some y =>
          rw [hy] at hu
          simp at hu
          subst hu
          have hl := (List.getElem?_eq_some_iff.1 hy).1
          rw [hcell j hl]; simp [hy]
      · simp at hu
def Okc (xs : List Int) (n j : Nat) (b : Bool) (z : Int) : Prop := (b = true ↔ n ≤ 6 ∧ ∀ a ∈ xs.take j, 1 ≤ a ∧ a ≤ 32) ∧ (b = true → z = prodI (xs.take j))
theorem okc_zero (xs : List Int) (n : Nat) : Okc xs n 0 (decide (n ≤ 6)) 1 := by unfold Okc; simp [prodI]
theorem mem_snoc {xs : List Int} {j : Nat} {x a : Int} (hx : xs[j]? = some x) : a ∈ xs.take (j + 1) ↔ a ∈ xs.take j ∨ a = x := by
  rw [List.take_add_one, hx]; simp
theorem okc_no {xs : List Int} {n j : Nat} {z x : Int} (h : Okc xs n j false z) (hx : xs[j]? = some x) : Okc xs n (j + 1) false z := by
  refine ⟨⟨fun h => (by cases h), fun ⟨h6, ha⟩ => ?_⟩, fun h => by cases h⟩
  have := h.1.2 ⟨h6, fun a hm => ha a ((mem_snoc hx).2 (.inl hm))⟩
  cases this
theorem okc_yes {xs : List Int} {n j : Nat} {z x : Int} (hl : xs.length = n) (h : Okc xs n j true z) (hx : xs[j]? = some x) :
    1 ≤ z ∧ z ≤ 1073741824 ∧ (x < 1 ∨ 32 < x → Okc xs n (j + 1) false z) ∧ (1 ≤ x → x ≤ 32 → 1 ≤ z * x ∧ z * x ≤ 1073741824 ∧ Okc xs n (j + 1) true (z * x)) := by
  obtain ⟨h6, ha⟩ := h.1.1 rfl
  have hz := h.2 rfl
  have hs : Szs (xs.take j) := ⟨by simp; omega, ha⟩
  have hp := szs_prod hs
  subst hz
  refine ⟨hp.1, hp.2, fun hb => ⟨⟨fun h => (by cases h), fun ⟨_, ha'⟩ => ?_⟩, fun h => by cases h⟩, fun x1 x2 => ?_⟩
  · have := ha' x ((mem_snoc hx).2 (.inr rfl)); omega
  · have ha2 : ∀ a ∈ xs.take (j + 1), 1 ≤ a ∧ a ≤ 32 := fun a hm => by
      rcases (mem_snoc hx).1 hm with hm | rfl
      · exact ha a hm
      · exact ⟨x1, x2⟩
    have hs2 : Szs (xs.take (j + 1)) := ⟨by simp; omega, ha2⟩
    have hp2 := szs_prod hs2
    rw [prod_snoc xs j x hx] at hp2
    exact ⟨hp2.1, hp2.2, ⟨⟨fun _ => ⟨h6, ha2⟩, fun _ => rfl⟩, fun _ => (prod_snoc xs j x hx).symm⟩⟩
theorem okc_end {xs : List Int} {n : Nat} {b : Bool} {z : Int} (hl : xs.length = n) (h : Okc xs n n b z) : (¬ Szs xs → b = false) ∧ (Szs xs → b = true ∧ z = prodI xs) := by
  unfold Okc at h
  rw [List.take_of_length_le (by omega)] at h
  constructor
  · intro hn
    cases b with
    | false => rfl
    | true => exact absurd ⟨by rw [hl]; exact (h.1.1 rfl).1, (h.1.1 rfl).2⟩ hn
  · intro hs
    have hb := h.1.2 ⟨by have := hs.1; omega, hs.2⟩
    exact ⟨hb, h.2 hb⟩
def Ink (xs ts : List Int) (j : Nat) (b : Bool) : Prop := (b = true → ts.length = xs.length) ∧ (b = true ↔ ts.length = xs.length ∧ ∀ p ∈ (List.zip ts xs).take j, 0 ≤ p.1 ∧ p.1 < p.2)
theorem beq_nat (m n : Nat) : (((m : Int)) == ((n : Int))) = decide (m = n) := by
  rw [Bool.eq_iff_iff]; simp; omega
theorem ink_zero {xs ts : List Int} {n m : Nat} (h1 : xs.length = n) (h2 : ts.length = m) : Ink xs ts 0 (decide (m = n)) := by
  unfold Ink; subst h1 h2; simp
theorem ink_no {xs ts : List Int} {j : Nat} (h : Ink xs ts j false) : Ink xs ts (j + 1) false := by
  refine ⟨fun h => (by cases h), ⟨fun h => (by cases h), fun ⟨h1, h2⟩ => ?_⟩⟩
  exact h.2.2 ⟨h1, fun p hp => h2 p (by rw [List.take_add_one]; exact List.mem_append_left _ hp)⟩
theorem ink_yes {xs ts : List Int} {j : Nat} {t x : Int} (h : Ink xs ts j true) (ht : ts[j]? = some t) (hx : xs[j]? = some x) :
    (0 ≤ t → t < x → Ink xs ts (j + 1) true) ∧ (t < 0 ∨ x ≤ t → Ink xs ts (j + 1) false) := by
  obtain ⟨h1, h2⟩ := h.2.1 rfl
  have hm : ∀ p, p ∈ (List.zip ts xs).take (j + 1) ↔ p ∈ (List.zip ts xs).take j ∨ p = (t, x) := fun p => by
    rw [List.take_add_one, zip_get ht hx]; simp
  constructor
  · intro t1 t2
    refine ⟨fun _ => h1, ⟨fun _ => ⟨h1, fun p hp => ?_⟩, fun _ => rfl⟩⟩
    rcases (hm p).1 hp with hp | rfl
    · exact h2 p hp
    · exact ⟨t1, t2⟩
  · intro hb
    refine ⟨fun h => (by cases h), ⟨fun h => (by cases h), fun ⟨_, h3⟩ => ?_⟩⟩
    have := h3 _ ((hm _).2 (.inr rfl))
    dsimp only at this; omega
theorem ink_end {xs ts : List Int} {m : Nat} {b : Bool} (hl : ts.length = m) (h : Ink xs ts m b) : b = true ↔ InT xs ts := by
  rw [h.2]
  unfold InT
  constructor
  · rintro ⟨h1, h2⟩; rw [List.take_of_length_le (by simp; omega)] at h2; exact ⟨h1, h2⟩
  · rintro ⟨h1, h2⟩; exact ⟨h1, fun p hp => h2 p (List.mem_of_mem_take hp)⟩
attribute [local go_sem ↓] Go.wp_at_zero Go.wp_at_succ
set_option maxRecDepth 100000 in
set_option maxHeartbeats 40000000 in
theorem core (A C : Option Addr) (n0 cap m0 c : Nat) (xs0 ts0 : List Int) (i : Int) (w : World) (hn : n0 ≤ 9223372036854775807) (hm : m0 ≤ 9223372036854775807) (hnc : n0 ≤ cap) (hmc : m0 ≤ c)
    (hr0 : Reads w w.heap.size 1 A n0 (nums xs0)) (ht0 : Reads w w.heap.size 1 C m0 (nums ts0)) :
    Calls Try.prog 4 #[.slice A n0 cap, .slice C m0 c, .int .i64 i] w fun e w' => e = .returned (.bool true) ∧ Below w.heap.size w w' := by
  obtain ⟨n, hn1, n1, n2, -⟩ := min_nat n0 8
  obtain ⟨m, hm1, m1, m2, -⟩ := min_nat m0 8
  have hn1' : (if (8 : Int) < (n0 : Int) then (8 : Int) else (n0 : Int)) = (n : Int) := hn1
  have hm1' : (if (8 : Int) < (m0 : Int) then (8 : Int) else (m0 : Int)) = (m : Int) := hm1
  clear hn1 hm1
  have hrn : Reads w w.heap.size 1 A n (nums (xs0.take n)) := by
    have := hr0.take_ n1; unfold nums at this ⊢; rwa [List.map_take]
  have htm : Reads w w.heap.size 1 C m (nums (ts0.take m)) := by
    have := ht0.take_ m1; unfold nums at this ⊢; rwa [List.map_take]
  obtain ⟨xs, hxs⟩ : ∃ xs, xs = xs0.take n := ⟨_, rfl⟩
  obtain ⟨ts, hts⟩ : ∃ ts, ts = ts0.take m := ⟨_, rfl⟩
  rw [← hxs] at hrn
  rw [← hts] at htm
  clear hr0 ht0 hxs hts
  have hlx := nums_len hrn
  have hlt := nums_len htm
  have hlx0 := Lib.hid hlx
  have nI : (0 : Int) ≤ (n : Int) := Int.natCast_nonneg _
  have nc : (n : Int) ≤ (cap : Int) := by omega
  have mI : (0 : Int) ≤ (m : Int) := Int.natCast_nonneg _
  have mc : (m : Int) ≤ (c : Int) := by omega
  go_enter Try.func4, Try.ntmps4
  simp only [List.append_eq, List.cons_append, List.nil_append]
  go_upto_region 3 with (go_at_call 8; (with_reducible refine (awake_any _).mono ?_); rintro e w1 ⟨rfl, hb1⟩)
  have hr1 := hrn.lift hb1
  have ht1 := htm.lift hb1
  have cx := fun W h => clone_any A n cap xs W (by omega) h
  have ct := fun W h => clone_any C m c ts W (by omega) h
  clear hrn htm
  have h0 : Hid (∀ w', Below w1.heap.size w1 w' → Reads w' w'.heap.size 1 A n (nums xs)) := fun w' hb => hr1.lift hb
  have h1 : Hid (∀ w', Below w1.heap.size w1 w' → Reads w' w'.heap.size 1 C m (nums ts)) := fun w' hb => ht1.lift hb
  go_cut [0, 1] (fun s0 s1 wx => ∃ A1 a1 C1 b1, s0 = .slice A1 n a1 ∧ s1 = .slice C1 m b1 ∧ Reads wx wx.heap.size 1 A1 n (nums xs) ∧ Reads wx wx.heap.size 1 C1 m (nums ts) ∧ Below w1.heap.size w1 wx)
  case first =>
    go_region_held3 (fun w' => Below w1.heap.size w1 w')
      (first | assumption | exact (Below.refl _ _).drew | exact bto (‹Below w1.heap.size w1 _›) hbx | exact bto (‹Below w1.heap.size w1 _›) hbt)
      (first
        | (go_at_call 15; refine (cx _ ?_).mono ?_; (exact h0.out _ (‹Below w1.heap.size w1 _›)); rintro e wx ⟨A1, a1, rfl, hownx, hbx⟩)
        | (go_at_call 15; refine (ct _ ?_).mono ?_; (exact h1.out _ (‹Below w1.heap.size w1 _›)); rintro e wt ⟨C1, b1, rfl, hownt, hbt⟩))
    all_goals
      rw [hlx] at hownx
      rw [hlt] at hownt
      have hB := ‹Below w1.heap.size w1 _›
      go_wp2_with fail
      go_meet
      first
        | exact ⟨A1, a1, C1, b1, rfl, rfl, (Reads.of_own hownx).lift hbt, Reads.of_own hownt, hB⟩
        | exact ⟨A1, a1, C1, b1, rfl, rfl, Reads.of_own hownx, (Reads.of_own hownt).lift hbx, hB⟩
  case rest =>
    obtain ⟨A1, a1, C1, b1, rfl, rfl, hx2, ht2, hb2⟩ := hcut
    have hB2 := bto hb1 hb2
    clear hr1 ht1 h0 h1 cx ct
    go_wp2_with fail
    refine (new_any A1 n a1 xs wc (by omega) hx2).mono ?_
    rintro e w3 ⟨hb3, h3⟩
    have hx3 := hx2.lift hb3
    have ht3 := ht2.lift hb3
    have hB3 := bto hB2 hb3
    rw [hlx] at h3
    obtain ⟨A4, n4, c4, E4, zs, rfl, hA4, hE4⟩ : ∃ A4 n4 c4 E4 zs, e = .returned (.tuple #[.agg #[.slice A4 n4 c4], .int .i64 E4]) ∧ Reads w3 w3.heap.size 1 A4 n4 (nums zs) ∧
        ((¬ Szs xs ∧ E4 = 1 ∧ zs = [] ∧ n4 = 0) ∨ (Szs xs ∧ 4096 < prodI xs ∧ E4 = 5 ∧ zs = [] ∧ n4 = 0) ∨ (Szs xs ∧ prodI xs ≤ 4096 ∧ E4 = 0 ∧ zs = xs ∧ n4 = n ∧ n ≤ c4)) := by
      rcases h3 with ⟨h, rfl⟩ | ⟨h, h', rfl⟩ | ⟨h, h', A4, c4, rfl, hown⟩
      · exact ⟨none, 0, 0, 1, [], rfl, Reads.none_, .inl ⟨h, rfl, rfl, rfl⟩⟩
      · exact ⟨none, 0, 0, 5, [], rfl, Reads.none_, .inr (.inl ⟨h, h', rfl, rfl, rfl⟩)⟩
      · exact ⟨A4, n, c4, 0, xs, rfl, Reads.of_own hown, .inr (.inr ⟨h, h', rfl, rfl, rfl, own_cap hown⟩)⟩
    clear h3 hx2 ht2 hb3 hb2 hb1 hB2
    have hbx : Blk (w3.alloc (.cells #[.slice A4 n4 c4] 28)) w3.heap.size 28 #[.slice A4 n4 c4] := Blk.new _ _ _
    have hx4 := hx3.lift (bone w3 (.cells #[.slice A4 n4 c4] 28))
    have ht4 := ht3.lift (bone w3 (.cells #[.slice A4 n4 c4] 28))
    have hA5 := hA4.lift (bone w3 (.cells #[.slice A4 n4 c4] 28))
    have hB4 := bnew hB3 (.cells #[.slice A4 n4 c4] 28)
    clear hx3 ht3 hA4 hB3
    go_wp2_with fail
    go_loop [9, 10, 46] (fun o q iv => ∃ (j : Nat) (b : Bool) (z : Int), j ≤ n ∧ iv = .int .i64 j ∧ o = .bool b ∧ q = .int .i64 z ∧ Okc xs n j b z) (fun _ _ iv => n - (intOf iv).toNat)
    case atStart => exact ⟨0, decide (n ≤ 6), 1, by omega, rfl, by simp; omega, rfl, okc_zero _ _⟩
    case round =>
      obtain ⟨j, b, z, hj, rfl, rfl, rfl, hok⟩ := hrel
      by_cases hlt2 : j < n
      · obtain ⟨ad, x, rfl, _, hx, hc⟩ := hx4.num hlt2
        have HE := Lib.hid hE4
        clear hE4
        cases b with
        | false =>
          have HO := Lib.hid (okc_no hok hx)
          clear hok hx
          go_wp2
          go_round
          case rel => exact ⟨j + 1, false, z, by omega, by go_num, rfl, rfl, HO.out⟩
          case measure => simp [intOf]; omega
        | true =>
          obtain ⟨z1, z2, hsome⟩ := okc_yes hlx hok hx
          by_cases x1 : 1 ≤ x
          · by_cases x2 : x ≤ 32
            · obtain ⟨z3, z4, ho⟩ := hsome.2 x1 x2
              have HO := Lib.hid ho
              clear hsome hok hx ho
              go_wp2
              go_round
              case rel => exact ⟨j + 1, true, _, by omega, by go_num, rfl, rfl, HO.out⟩
              case measure => simp [intOf]; omega
            · have HO := Lib.hid (hsome.1 (.inr (by omega)))
              clear hsome hok hx
              go_wp2
              go_round
              case rel => exact ⟨j + 1, false, z, by omega, by go_num, rfl, rfl, HO.out⟩
              case measure => simp [intOf]; omega
          · have HO := Lib.hid (hsome.1 (.inl (by omega)))
            clear hsome hok hx
            go_wp2
            go_round
            case rel => exact ⟨j + 1, false, z, by omega, by go_num, rfl, rfl, HO.out⟩
            case measure => simp [intOf]; omega
      · obtain rfl : n = j := by omega
        have hfin := okc_end hlx hok
        clear hok
        obtain ⟨hcb, hfb⟩ := Blk.one hbx
        rcases hE4 with ⟨hns, rfl, rfl, rfl⟩ | ⟨hs, h4, rfl, rfl, rfl⟩ | ⟨hs, h4, rfl, hzs, hn4, hnc4⟩
        · obtain rfl := hfin.1 hns
          clear hfin
          go_wp2_with fail
          refine (arity_any A4 0 c4 _ (by omega)).mono ?_
          rintro e w5 ⟨rfl, hb5⟩
          obtain ⟨hcb5, _⟩ := Blk.at_ hbx hb5
          have hcn := count_any A4 0 c4 [] w5 (hA5.lift hb5) ⟨by simp, by simp⟩
          rw [show prodI [] = 1 from rfl] at hcn
          go_wp2_with fail
          refine hcn.mono ?_
          rintro e w6 ⟨rfl, hb6⟩
          go_wp2
          go_ret
          exact ⟨rfl, bto (bto hB4 hb5) hb6⟩
        · obtain ⟨rfl, rfl⟩ := hfin.2 hs
          have hpb := szs_prod hs
          clear hfin
          go_wp2_with fail
          refine (arity_any A4 0 c4 _ (by omega)).mono ?_
          rintro e w5 ⟨rfl, hb5⟩
          obtain ⟨hcb5, _⟩ := Blk.at_ hbx hb5
          have hcn := count_any A4 0 c4 [] w5 (hA5.lift hb5) ⟨by simp, by simp⟩
          rw [show prodI [] = 1 from rfl] at hcn
          go_wp2_with fail
          refine hcn.mono ?_
          rintro e w6 ⟨rfl, hb6⟩
          go_wp2
          go_ret
          exact ⟨rfl, bto (bto hB4 hb5) hb6⟩
        · have hzs' := hzs.symm
          have hn4' := hn4.symm
          clear hzs hn4
          subst hzs' hn4'
          obtain ⟨rfl, rfl⟩ := hfin.2 hs
          have hpb := szs_prod hs
          clear hfin
          obtain ⟨P, hPe⟩ : ∃ P, prodI xs = P := ⟨_, rfl⟩
          have HP := Lib.hid hPe
          rw [hPe] at hpb h4 ⊢
          clear hPe
          go_wp2_with fail
          go_loop [14, 91] (fun o iv => ∃ (j : Nat) (b : Bool), j ≤ m ∧ iv = .int .i64 j ∧ o = .bool b ∧ Ink xs ts j b) (fun _ iv => m - (intOf iv).toNat)
          case atStart => exact ⟨0, decide (m = n), by omega, rfl, congrArg Value.bool (beq_nat m n), ink_zero hlx hlt⟩
          case round =>
            obtain ⟨j, b, hj, rfl, rfl, hok⟩ := hrel
            by_cases hlt2 : j < m
            · obtain ⟨adt, t, rfl, _, ht, hct⟩ := ht4.num hlt2
              cases b with
              | false =>
                have HO := Lib.hid (ink_no hok)
                clear hok ht
                go_wp2
                go_round
                case rel => exact ⟨j + 1, false, by omega, by go_num, rfl, HO.out⟩
                case measure => simp [intOf]; omega
              | true =>
                have hmn : m = n := by have := hok.1 rfl; omega
                obtain ⟨ad, x, rfl, _, hx, hc⟩ := hx4.num (show j < n by omega)
                have HI := Lib.hid (ink_yes hok ht hx)
                clear hok ht hx
                by_cases t1 : 0 ≤ t
                · by_cases t2 : t < x
                  · have HO := Lib.hid (HI.out.1 t1 t2)
                    go_wp2
                    go_round
                    case rel => exact ⟨j + 1, true, by omega, by go_num, rfl, HO.out⟩
                    case measure => simp [intOf]; omega
                  · have HO := Lib.hid (HI.out.2 (.inr (by omega)))
                    go_wp2
                    go_round
                    case rel => exact ⟨j + 1, false, by omega, by go_num, rfl, HO.out⟩
                    case measure => simp [intOf]; omega
                · have HO := Lib.hid (HI.out.2 (.inl (by omega)))
                  go_wp2
                  go_round
                  case rel => exact ⟨j + 1, false, by omega, by go_num, rfl, HO.out⟩
                  case measure => simp [intOf]; omega
            · obtain rfl : m = j := by omega
              have hIn := ink_end hlt hok
              clear hok
              have hix : ∀ W, Reads W W.heap.size 1 A4 n (nums xs) → Reads W W.heap.size 1 C1 m (nums ts) → Calls Try.prog 17 #[.agg #[.slice A4 n c4], .slice C1 m b1] W fun e w' =>
                  e = .returned (.tuple #[.int .i64 (idxV xs ts), .int .i64 (idxE xs ts)]) ∧ Below W.heap.size W w' := fun W h1 h2 => by
                by_cases hmn : m = n
                · subst hmn; exact index_any A4 C1 m c4 b1 xs ts W (by omega) h1 h2 hs
                · have hno : ¬ InT xs ts := fun h => hmn (by have := h.1; omega)
                  rw [idxV, idxE, if_neg hno, if_neg hno]
                  exact index_no_len A4 C1 n m c4 b1 xs ts W (by omega) (by omega) hmn
              obtain ⟨V, E, hVE⟩ : ∃ V E, idxV xs ts = V ∧ idxE xs ts = E ∧ ((b = true ∧ E = 0) ∨ (b = false ∧ V = 0 ∧ E = 3)) := by
                refine ⟨_, _, rfl, rfl, ?_⟩
                by_cases hI : InT xs ts
                · exact .inl ⟨hIn.2 hI, by rw [idxE, if_pos hI]⟩
                · refine .inr ⟨?_, by rw [idxV, if_neg hI], by rw [idxE, if_neg hI]⟩
                  cases b with
                  | false => rfl
                  | true => exact absurd (hIn.1 rfl) hI
              obtain ⟨hV, hE, hcase⟩ := hVE
              rw [hV, hE] at hix
              have hi5 := hix _ hA5 ht4
              clear hix hV hE hIn ht4
              go_wp2_with fail
              refine hi5.mono ?_
              rintro e w5 ⟨rfl, hb5⟩
              have hA6 := hA5.lift hb5
              have hx6 := hx4.lift hb5
              have hB6 := bto hB4 hb5
              have hbx6 := Blk.under hbx hb5
              clear hi5 hA5 hx4 hB4 hbx hcb hfb hb5
              obtain ⟨hcb, hfb⟩ := Blk.one hbx6
              have ht6 := tuple_any A4 n c4 xs i w5 hnc4 hA6 hs
              obtain ⟨S0, hS0⟩ : ∃ S0, sizeAt xs i = S0 := ⟨_, rfl⟩
              obtain ⟨T0, hT0⟩ : ∃ T0, stepAt xs i = T0 := ⟨_, rfl⟩
              have hsi := fun W h => size_any A4 n c4 xs i W (by omega) h
              have hst := fun W h => step_any A4 n c4 xs i W (by omega) hnc4 h hs
              rw [hS0] at hsi
              rw [hT0] at hst
              have hcn := fun W h => count_any A4 n c4 xs W h hs
              rw [HP.out] at hcn
              have hS : (i < 0 ∨ n ≤ i → S0 = 0 ∧ T0 = 0) ∧ (0 ≤ i → i < n → 1 ≤ S0) := by
                rw [← hS0, ← hT0]
                constructor
                · intro h
                  refine ⟨?_, by unfold stepAt; rw [if_neg (by omega)]⟩
                  unfold sizeAt
                  split
                  · simp [List.getD, List.getElem?_eq_none (show xs.length ≤ i.toNat by omega)]
                  · rfl
                · intro h0 h1
                  unfold sizeAt
                  rw [if_pos h0]
                  have hm : xs[i.toNat]? = some (xs[i.toNat]'(by omega)) := List.getElem?_eq_getElem (by omega)
                  rw [List.getD, hm]
                  exact (hs.2 _ (List.mem_of_getElem? hm)).1
              have HSE := Lib.hid hS0
              clear hS0 hT0
              go_wp2_with fail
              refine ht6.mono ?_
              rintro e w6 ⟨hb6, h6⟩
              have hA7 := hA6.lift hb6
              have hx7 := hx6.lift hb6
              have hB7 := bto hB6 hb6
              have hbx7 := Blk.under hbx6 hb6
              clear ht6 hA6 hx6 hB6 hbx6 hb6 hcb hfb hs hlx hlt
              obtain ⟨hcb, hfb⟩ := Blk.one hbx7
              obtain ⟨U, G, hU⟩ : ∃ (U : Value) (G : Int), e = .returned (.tuple #[U, .int .i64 G]) ∧ ((¬ (0 ≤ i ∧ i < P) ∧ U = .slice none 0 0 ∧ G = 3) ∨ ((0 ≤ i ∧ i < P) ∧ (∃ g, U = .slice (some ⟨g, 0, none⟩) n n) ∧ G = 0)) := by
                rw [HP.out] at h6
                rcases h6 with ⟨h, rfl⟩ | ⟨h, g, rfl, _⟩
                · exact ⟨_, _, rfl, .inl ⟨h, rfl, rfl⟩⟩
                · exact ⟨_, _, rfl, .inr ⟨h, ⟨g, by rw [hlx0.out]⟩, rfl⟩⟩
              obtain ⟨rfl, hU⟩ := hU
              clear h6
              have HU := Lib.hid hU
              have HC := Lib.hid hcase
              have HSS := Lib.hid hS
              clear hU hcase hS
              by_cases r0 : 0 ≤ i
              · by_cases r1 : i < n
                · obtain ⟨q, rfl⟩ : ∃ q : Nat, i = q := ⟨i.toNat, by omega⟩
                  obtain ⟨ad, x, rfl, _, hx, hcx⟩ := hx7.num (show q < n by omega)
                  have hSx : S0 = x := by rw [← HSE.out]; unfold sizeAt; rw [if_pos (by omega)]; simp [hx]
                  subst hSx
                  have hs1 := HSS.out.2 r0 r1
                  have bS : decide (0 < S0) = true := decide_eq_true (by omega)
                  clear hx
                  by_cases r2 : (q : Int) < P
                  · obtain ⟨⟨g, rfl⟩, rfl⟩ : (∃ g, U = .slice (some ⟨g, 0, none⟩) n n) ∧ G = 0 := by
                      rcases HU.out with ⟨h, _⟩ | ⟨_, h1, h2⟩
                      · exact absurd ⟨r0, r2⟩ h
                      · exact ⟨h1, h2⟩
                    rcases HC.out with ⟨rfl, rfl⟩ | ⟨rfl, rfl, rfl⟩
                    all_goals
                      go_wp2_with (first
                        | (go_at_call 11; (with_reducible refine (hcn _ hA7).mono ?_); rintro e w8 ⟨rfl, hb8⟩; obtain ⟨hcb8, _⟩ := Blk.at_ hbx7 hb8; have hA8 := hA7.lift hb8; have hbx8 := Blk.under hbx7 hb8)
                        | (go_at_call 14; (with_reducible refine (hsi _ hA8).mono ?_); rintro e w9 ⟨rfl, hb9⟩; obtain ⟨hcb9, _⟩ := Blk.at_ hbx8 hb9; have hA9 := hA8.lift hb9)
                        | (go_at_call 13; (with_reducible refine (hst _ hA9).mono ?_); rintro e wa ⟨rfl, hba⟩))
                      go_ret
                      refine ⟨?_, ?_⟩
                      · first | rfl | (refine ret_bool ?_; simp; omega) | (refine ret_bool ?_; simp; done)
                      · first | exact bto (bto (bto hB7 hb8) hb9) hba | exact bto (bto hB7 hb8) hb9
                  · obtain ⟨rfl, rfl⟩ : U = .slice none 0 0 ∧ G = 3 := by
                      rcases HU.out with ⟨_, h1, h2⟩ | ⟨h, _⟩
                      · exact ⟨h1, h2⟩
                      · exact absurd h.2 r2
                    rcases HC.out with ⟨rfl, rfl⟩ | ⟨rfl, rfl, rfl⟩
                    all_goals
                      go_wp2_with (first
                        | (go_at_call 11; (with_reducible refine (hcn _ hA7).mono ?_); rintro e w8 ⟨rfl, hb8⟩; obtain ⟨hcb8, _⟩ := Blk.at_ hbx7 hb8; have hA8 := hA7.lift hb8; have hbx8 := Blk.under hbx7 hb8)
                        | (go_at_call 14; (with_reducible refine (hsi _ hA8).mono ?_); rintro e w9 ⟨rfl, hb9⟩; obtain ⟨hcb9, _⟩ := Blk.at_ hbx8 hb9; have hA9 := hA8.lift hb9)
                        | (go_at_call 13; (with_reducible refine (hst _ hA9).mono ?_); rintro e wa ⟨rfl, hba⟩))
                      go_ret
                      refine ⟨?_, ?_⟩
                      · first | rfl | (refine ret_bool ?_; simp; omega) | (refine ret_bool ?_; simp; done)
                      · first | exact bto (bto (bto hB7 hb8) hb9) hba | exact bto (bto hB7 hb8) hb9
                · obtain ⟨rfl, rfl⟩ := HSS.out.1 (.inr (by omega))
                  by_cases r2 : i < P
                  · obtain ⟨⟨g, rfl⟩, rfl⟩ : (∃ g, U = .slice (some ⟨g, 0, none⟩) n n) ∧ G = 0 := by
                      rcases HU.out with ⟨h, _⟩ | ⟨_, h1, h2⟩
                      · exact absurd ⟨r0, r2⟩ h
                      · exact ⟨h1, h2⟩
                    rcases HC.out with ⟨rfl, rfl⟩ | ⟨rfl, rfl, rfl⟩
                    all_goals
                      go_wp2_with (first
                        | (go_at_call 11; (with_reducible refine (hcn _ hA7).mono ?_); rintro e w8 ⟨rfl, hb8⟩; obtain ⟨hcb8, _⟩ := Blk.at_ hbx7 hb8; have hA8 := hA7.lift hb8; have hbx8 := Blk.under hbx7 hb8)
                        | (go_at_call 14; (with_reducible refine (hsi _ hA8).mono ?_); rintro e w9 ⟨rfl, hb9⟩; obtain ⟨hcb9, _⟩ := Blk.at_ hbx8 hb9; have hA9 := hA8.lift hb9)
                        | (go_at_call 13; (with_reducible refine (hst _ hA9).mono ?_); rintro e wa ⟨rfl, hba⟩))
                      go_ret
                      refine ⟨?_, ?_⟩
                      · first | rfl | (refine ret_bool ?_; simp; omega) | (refine ret_bool ?_; simp; done)
                      · first | exact bto (bto (bto hB7 hb8) hb9) hba | exact bto (bto hB7 hb8) hb9
                  · obtain ⟨rfl, rfl⟩ : U = .slice none 0 0 ∧ G = 3 := by
                      rcases HU.out with ⟨_, h1, h2⟩ | ⟨h, _⟩
                      · exact ⟨h1, h2⟩
                      · exact absurd h.2 r2
                    rcases HC.out with ⟨rfl, rfl⟩ | ⟨rfl, rfl, rfl⟩
                    all_goals
                      go_wp2_with (first
                        | (go_at_call 11; (with_reducible refine (hcn _ hA7).mono ?_); rintro e w8 ⟨rfl, hb8⟩; obtain ⟨hcb8, _⟩ := Blk.at_ hbx7 hb8; have hA8 := hA7.lift hb8; have hbx8 := Blk.under hbx7 hb8)
                        | (go_at_call 14; (with_reducible refine (hsi _ hA8).mono ?_); rintro e w9 ⟨rfl, hb9⟩; obtain ⟨hcb9, _⟩ := Blk.at_ hbx8 hb9; have hA9 := hA8.lift hb9)
                        | (go_at_call 13; (with_reducible refine (hst _ hA9).mono ?_); rintro e wa ⟨rfl, hba⟩))
                      go_ret
                      refine ⟨?_, ?_⟩
                      · first | rfl | (refine ret_bool ?_; simp; omega) | (refine ret_bool ?_; simp; done)
                      · first | exact bto (bto (bto hB7 hb8) hb9) hba | exact bto (bto hB7 hb8) hb9
              · obtain ⟨rfl, rfl⟩ := HSS.out.1 (.inl (by omega))
                obtain ⟨rfl, rfl⟩ : U = .slice none 0 0 ∧ G = 3 := by
                  rcases HU.out with ⟨_, h1, h2⟩ | ⟨h, _⟩
                  · exact ⟨h1, h2⟩
                  · exact absurd h.1 r0
                rcases HC.out with ⟨rfl, rfl⟩ | ⟨rfl, rfl, rfl⟩
                all_goals
                  go_wp2_with (first
                    | (go_at_call 11; (with_reducible refine (hcn _ hA7).mono ?_); rintro e w8 ⟨rfl, hb8⟩; obtain ⟨hcb8, _⟩ := Blk.at_ hbx7 hb8; have hA8 := hA7.lift hb8; have hbx8 := Blk.under hbx7 hb8)
                    | (go_at_call 14; (with_reducible refine (hsi _ hA8).mono ?_); rintro e w9 ⟨rfl, hb9⟩; obtain ⟨hcb9, _⟩ := Blk.at_ hbx8 hb9; have hA9 := hA8.lift hb9)
                    | (go_at_call 13; (with_reducible refine (hst _ hA9).mono ?_); rintro e wa ⟨rfl, hba⟩))
                  go_ret
                  refine ⟨?_, ?_⟩
                  · first | rfl | (refine ret_bool ?_; simp; omega) | (refine ret_bool ?_; simp; done)
                  · first | exact bto (bto (bto hB7 hb8) hb9) hba | exact bto (bto hB7 hb8) hb9
theorem walk (a0 : Option Addr) (len0 cap0 : Nat) (z0 : List Int) (a1 : Option Addr) (len1 cap1 : Nat) (z1 : List Int) (a2 : Int) (w : World) (w0 : IsRow .i64 w a0 len0 cap0 z0) (w1 : IsRow .i64 w a1 len1 cap1 z1) (w2 : (Lit.int .i64 a2).wf = true) :
    Calls Try.prog 4 #[.slice a0 len0 cap0, .slice a1 len1 cap1, .int .i64 a2] w fun e w' => e = .returned (.bool true) ∧ Below w.heap.size w w' := by
  obtain ⟨hr, hn, hc, _⟩ := row_reads w0
  obtain ⟨ht, hm, hd, _⟩ := row_reads w1
  exact core a0 a1 len0 cap0 len1 cap1 (z0.take len0) (z1.take len1) a2 w hn hm hc hd hr ht

set_option maxRecDepth 100000 in
theorem lifted (os : Os) (started : os.Started) (H : Type) (enc : TypeId × Value → H) :
    ReturnsInHanded {} Try.checked os 4 .any (Rows.shapeRawSpec.pre6 enc Try.prog Try.f4 Rows.shapeRawRow.domain false) (Rows.shapeRawSpec.post enc Try.prog Try.f4 false true false false) := by
  refine returnsInHanded_of_change (C := Try.checked) own started (by kernel_rfl) Try.func4
    (ChangeSpec.witness6 (enc := enc) (C := Try.checked) false ⟨#[], #[.slice none 0 0, .slice none 0 0, .int .i64 0], []⟩ 8 (by kernel_rfl) (by kernel_rfl) (by kernel_rfl) (by kernel_rfl)) ?_
  intro W base args ds gs before hval0 hW hcnd _
  have hval : ∀ (j : Nat) t v, Try.f4.params[j]? = some t → args[j]? = some v → Value.okWide Try.prog W .any base t v := hval0
  have hW' := hW
  obtain ⟨p, q, hA0, hV, rfl, hfz, hnd⟩ := hW
  have hA : DataW.TrodAll enc Try.prog W 0 (fun _ => true) true Try.f4.params.toList args.toList ds p := hA0
  rw [Try.params4] at hA hval
  obtain ⟨v0, vs0, d0, ds0, p0, q0, hargs, rfl, rfl, h0, r0⟩ := trodAll_cons hA
  obtain ⟨v1, vs1, d1, ds1, p1, q1, rfl, rfl, rfl, h1, r1⟩ := trodAll_cons r0
  obtain ⟨v2, vs2, d2, ds2, p2, q2, rfl, rfl, rfl, h2, r2⟩ := trodAll_cons r1
  obtain ⟨rfl, rfl, rfl⟩ := trodAll_nil r2
  obtain rfl : args = #[v0, v1, v2] := by cases args; simp_all
  obtain ⟨rfl, rfl⟩ := trodVars_none hV
  obtain ⟨a0, len0, cap0, rfl⟩ := okWide_slice Try.underlying25 (hval 0 25 v0 rfl rfl)
  have k0 := h0
  have lt0 : ∀ x ∈ p0, x.block < W.heap.size := by obtain ⟨m, hm⟩ := k0; exact DataW.trod_lt m _ _ _ hm
  obtain ⟨z0, w0⟩ : ∃ zs, IsRow .i64 W a0 len0 cap0 zs := by
    obtain ⟨fuel, hf⟩ := h0
    rcases open_ints Try.underlying25 Try.underlying3 (by kernel_rfl) hf with ⟨hcs, _⟩ | ⟨x, l, c, zs, hcs, _, hl, hm, hz, _, hcell, hwz⟩
    · simp [Value.cells] at hcs
      obtain ⟨rfl, rfl, rfl⟩ := hcs
      exact ⟨[], .inl ⟨rfl, rfl, rfl, rfl⟩⟩
    · simp [Value.cells] at hcs
      obtain ⟨rfl, rfl, rfl⟩ := hcs
      exact ⟨zs, .inr ⟨_, rfl, hl, hm, by simpa using hz, hcell, hwz⟩⟩
  obtain ⟨a1, len1, cap1, rfl⟩ := okWide_slice Try.underlying25 (hval 1 25 v1 rfl rfl)
  have k1 := h1
  have lt1 : ∀ x ∈ p1, x.block < W.heap.size := by obtain ⟨m, hm⟩ := k1; exact DataW.trod_lt m _ _ _ hm
  obtain ⟨z1, w1⟩ : ∃ zs, IsRow .i64 W a1 len1 cap1 zs := by
    obtain ⟨fuel, hf⟩ := h1
    rcases open_ints Try.underlying25 Try.underlying3 (by kernel_rfl) hf with ⟨hcs, _⟩ | ⟨x, l, c, zs, hcs, _, hl, hm, hz, _, hcell, hwz⟩
    · simp [Value.cells] at hcs
      obtain ⟨rfl, rfl, rfl⟩ := hcs
      exact ⟨[], .inl ⟨rfl, rfl, rfl, rfl⟩⟩
    · simp [Value.cells] at hcs
      obtain ⟨rfl, rfl, rfl⟩ := hcs
      exact ⟨zs, .inr ⟨_, rfl, hl, hm, by simpa using hz, hcell, hwz⟩⟩
  obtain ⟨a2, rfl, rfl, rfl, w2⟩ := open_int Try.underlying3 (hval 2 3 v2 rfl rfl) h2
  clear hA0 hval0
  refine (walk a0 len0 cap0 z0 a1 len1 cap1 z1 a2 W w0 w1 w2).mono fun e W' ⟨he, bel⟩ => ?_
  subst he
  exact ⟨_, rfl, _, _, _, [], _, [], hW', trodAll_mk1 (shut_bool Try.underlying4 _), (trodAll_cons_mk (Below.trod laidOut (by kernel_rfl) (of_decide_eq_true (by kernel_rfl)) k0 bel lt0) (trodAll_cons_mk (Below.trod laidOut (by kernel_rfl) (of_decide_eq_true (by kernel_rfl)) k1 bel lt1) (trodAll_cons_mk (shut_int Try.underlying3 w2) trodAll_mk0))), rfl, bel.frame _, fun h => by cases h⟩

theorem over : Rows.shapeRawRow.holds Try.pinned (OpenSpec.ofChange Rows.shapeRawSpec) :=
  OpenClaim.holds_of_wide 4 Try.f4 rfl rfl rfl rfl rfl rfl rfl ⟨rfl, rfl, rfl, rfl, rfl⟩ rfl rfl rfl rfl rfl (by kernel_rfl) Try.func4 (by kernel_rfl)
    (of_decide_eq_true (by kernel_rfl)) (by unfold Func.isWrapper; first | (rw [if_pos (by decide +kernel)]; kernel_rfl) | (rw [if_neg (by decide +kernel)]; exact ⟨rfl, rfl⟩))
    (fun os started H enc _ => lifted os started H enc)

theorem proved : Rows.ShapeRawSaid := over
end Go.Proofs.Ytepcgokogiphhaa.shapeRaw
