/- For every input CostLists returns true; its arguments read as before. No condition. -/
import Derived.Test.YtbgngpgebhnpbaaRows
import Derived.WalkKit
import Derived.ProofKit
import Derived.OpenShut
import Derived.Test.YtbgngpgebhnpbaaConL
import Derived.ShutString
import Derived.ChangeOld
import Derived.Below
namespace Go.Proofs.Ytbgngpgebhnpbaa.costLists
open Go.Proofs.Ytbgngpgebhnpbaa.con Go.Proofs.Ytbgngpgebhnpbaa.words
open Go.ChangeShapes Go.WideShapes Go.ChangeAt Go.RowKit
open Go.ChangeMaps (open_string shut_string)
set_option linter.unusedVariables false

theorem own : ownKnob Try.prog.godebug = none := by kernel_rfl
theorem laidOut : laidOutB Try.prog = true := by kernel_rfl

def IsRow (k : IntKind) (w : World) (a : Option Addr) (len cap : Nat) (zs : List Int) : Prop :=
  (a = none ∧ len = 0 ∧ cap = 0 ∧ zs = []) ∨
  ∃ x, a = some x ∧ len ≤ cap ∧ cap ≤ maxLen ∧ zs.length = cap ∧ (∀ i, i < zs.length → w.cell? (x.add i) = some (.int k (zs.getD i 0))) ∧ ∀ n ∈ zs, (Lit.int k n).wf = true

theorem info64 : (Try.prog.info? 2).map (fun i => (i.zero, i.size, i.bytes)) = some (some (.int .i64 0), 1, 8) := by kernel_rfl
def tam (K : Int) (ys : List Int) (j : Nat) : List Int := (ys.take j).map (fun a => wrap64 ((IntKind.u64.wrap a).tmod (K + 1))) ++ ys.drop j
def Okd (k : Int) (zs : List Int) (j : Nat) (b : Bool) (x y : Int) : Prop := allOk (zs.take j) k = b ∧ (b = true → x = sumOf k (zs.take j) ∧ y = leastOf k (zs.take j))
theorem okd_zero (k : Int) (zs : List Int) : Okd k zs 0 (rightB k) 0 k := by
  unfold Okd allOk allB
  simp [sumOf, leastOf]
theorem allOk_snoc {k : Int} {zs : List Int} {j : Nat} {z : Int} (hz : zs[j]? = some z) : allOk (zs.take (j + 1)) k = (allOk (zs.take j) k && inB z k) := by
  unfold allOk allB
  rw [List.take_add_one, hz, List.all_append]
  simp [Bool.and_assoc]
theorem okd_no {k : Int} {zs : List Int} {j : Nat} {x y z : Int} (h : Okd k zs j false x y) (hz : zs[j]? = some z) : Okd k zs (j + 1) false x y := by
  refine ⟨?_, fun h => by cases h⟩
  rw [allOk_snoc hz, h.1]; rfl
theorem okd_yes {k : Int} {zs : List Int} {j : Nat} {x y z : Int} (h : Okd k zs j true x y) (hz : zs[j]? = some z) :
    InC x k ∧ InC y k ∧ (inB z k = false → Okd k zs (j + 1) false x y) ∧ (inB z k = true → Okd k zs (j + 1) true (min (x + z) k) (min y z)) := by
  obtain ⟨h1, h2⟩ := h
  obtain ⟨rfl, rfl⟩ := h2 rfl
  obtain ⟨k1, k2, hin⟩ := allOk_iff h1
  have a1 := sumOf_in k1 _ hin
  have a2 := leastOf_in k1 _ hin
  refine ⟨inC k1 k2 a1.1 a1.2, inC k1 k2 a2.1 a2.2, fun hz0 => ⟨by rw [allOk_snoc hz, h1, hz0]; rfl, fun h => by cases h⟩, fun hz1 => ⟨by rw [allOk_snoc hz, h1, hz1]; rfl, fun _ => ?_⟩⟩
  rw [sum_snoc k zs j z hz, least_snoc k zs j z hz]
  exact ⟨rfl, rfl⟩
theorem refless_any (a b : Int) (w : World) :
    Calls Try.prog 18 #[.int .i64 a, .int .i64 b] w fun e w' => e = .returned (.int .i64 (min a b)) ∧ w = w' := by
  go_enter Try.func18, Try.ntmps18
  go_wp2
  all_goals
    go_ret
    exact ⟨ret_int (by omega), rfl⟩
theorem reads_row {w : World} {x : Addr} {len cap : Nat} {zs : List Int} (hl : len ≤ cap) (hz : zs.length = cap) (hcell : ∀ i, i < zs.length → w.cell? (x.add i) = some (.int .i64 (zs.getD i 0))) :
    Reads w w.heap.size 1 (some x) len (nums (zs.take len)) := by
  refine ⟨by unfold nums; simp; omega, fun h0 => ⟨x, rfl, ?_, fun j u hu => ?_⟩⟩
  · have := World.block_lt_of_cell? w _ (hcell 0 (by omega))
    rw [block_of_add] at this; exact this
  · obtain ⟨y, hy, rfl⟩ := nums_get hu
    rw [List.getElem?_take] at hy
    split at hy
    · have hl := (List.getElem?_eq_some_iff.1 hy).1
      rw [hcell j hl]; simp [hy]
    · cases hy
theorem tam_get (K : Int) (ys : List Int) (j : Nat) (y : Int) (h : ys[j]? = some y) : (tam K ys j)[j]? = some y := by
  have hl : j < ys.length := (List.getElem?_eq_some_iff.1 h).1
  unfold tam
  rw [List.getElem?_append_right (by simp; omega)]
  simp [Nat.min_eq_left (Nat.le_of_lt hl), h]
theorem tam_set (K : Int) (ys : List Int) (j : Nat) (y : Int) (hy : ys[j]? = some y) : (nums (tam K ys j)).set j (.int .i64 (wrap64 ((IntKind.u64.wrap y).tmod (K + 1)))) = nums (tam K ys (j + 1)) := by
  have h : j < ys.length := (List.getElem?_eq_some_iff.1 hy).1
  unfold nums
  rw [← List.map_set]
  congr 1
  unfold tam
  apply List.ext_getElem?
  intro i
  rw [List.getElem?_set]
  rcases Nat.lt_trichotomy i j with hi | rfl | hi
  · rw [if_neg (by omega), List.getElem?_append_left (by simp; omega), List.getElem?_append_left (by simp; omega)]
    simp [hi, Nat.lt_succ_of_lt hi]
  · rw [if_pos rfl, List.getElem?_append_left (by simp; omega)]
    simp [hy]; omega
  · rw [if_neg (by omega), List.getElem?_append_right (by simp; omega), List.getElem?_append_right (by simp; omega)]
    simp only [List.length_map, List.length_take, List.getElem?_drop]
    congr 1; omega
theorem tam_len (K : Int) (ys : List Int) (j : Nat) : (tam K ys j).length = ys.length := by
  unfold tam; simp; omega
set_option maxRecDepth 100000 in
set_option maxHeartbeats 1600000 in
theorem core (A : Option Addr) (n cap : Nat) (k : Int) (b : Bool) (xs : List Int) (w : World) (hr : Reads w w.heap.size 1 A n (nums xs)) (hn : n ≤ 9223372036854775807) (hcap : n ≤ cap) :
    Calls Try.prog 6 #[.slice A n cap, .int .i64 k, .bool b] w fun e w' => e = .returned (.bool true) ∧ Below w.heap.size w w' := by
  obtain ⟨i0, hi0, hz0, hz1, hz2⟩ := info_parts info64
  obtain ⟨m, hm, m1, m2, -⟩ := min_nat n 12
  have hm' : (if (12 : Int) < (n : Int) then (12 : Int) else (n : Int)) = (m : Int) := hm
  clear hm
  have hrm := ((hr.take_ m1).alloc (Nat.le_refl _) (.cells #[] 2))
  have hlit := World.ownsRow_lit (base := w.heap.size) (e := 2) (size := 1) w #[] 0 (Nat.le_refl _) (by unfold maxLen; omega) rfl
  go_enter Try.func6, Try.ntmps6
  go_wp2_with (first
    | (go_at_call 8; (with_reducible refine (awake_any _).mono ?_); rintro e w' ⟨rfl, rfl⟩)
    | (at_builtin; refine wpList_append_any _ rfl (.tmp 19) (.tmp 24) _ rfl w.heap.size 2 i0 _ 1 8 Try.underlying34 hi0 hz0 hz1 hz2 rfl (by omega) _ 0 [] rfl hlit w.heap.size A m cap ((nums xs).take m) rfl hrm ?_ (by simp only [maxLen]; omega) (by omega) (by simp) ?_)
    | fail)
  · intro u hu
    have := List.mem_of_mem_take hu
    unfold nums at this
    obtain ⟨x, _, rfl⟩ := List.mem_map.1 this
    rfl
  intro v1 w1 hown hg1 _
  obtain ⟨A1, c1, rfl⟩ := own_shape hown
  have hb1 : Below w.heap.size w w1 := ((Below.refl _ _).alloc (Nat.le_refl _) _).grown hg1 (by simp) (by simp [Value.ownBlock])
  obtain ⟨ys, hys⟩ : ∃ ys, ys = xs.take m := ⟨_, rfl⟩
  have hown1 : w1.ownsRow w.heap.size 2 1 (.slice A1 m c1) m (nums ys) := by
    rw [hys]; unfold nums at hown ⊢; rw [List.map_take]; simpa using hown
  clear hown hrm hlit hg1 hys hm' hr
  cases b with
  | true =>
    obtain ⟨K, hK, k1, k2⟩ := top_of k
    go_wp2_with fail
    go_loopw [34] (fun i wr => ∃ j : Nat, j ≤ m ∧ i = .int .i64 j ∧ wr.ownsRow w.heap.size 2 1 (.slice A1 m c1) m (nums (tam K ys j)) ∧ Below w.heap.size w wr) (fun i _ => m - (intOf i).toNat)
    case atStart => exact ⟨0, by omega, rfl, by simpa [tam] using hown1, hb1⟩
    case round =>
      obtain ⟨j, hj, rfl, hor, hbr⟩ := hrel
      have hyl : ys.length = m := by have := hown1.1; simpa [nums] using this
      by_cases hlt : j < m
      · obtain ⟨g, rfl, g1, g2⟩ := own_some hor (by omega)
        obtain ⟨y, hy⟩ : ∃ y, ys[j]? = some y := ⟨_, List.getElem?_eq_getElem (by omega)⟩
        have hcell : wr.cell? ⟨g, j, none⟩ = some (.int .i64 y) := by
          rw [hor.cellAt j (by omega)]; unfold nums; rw [List.getElem?_map, tam_get K ys j y hy]; rfl
        have hfz := hor.frozenAt j
        obtain ⟨s1, s2⟩ := hor.stored j (.int .i64 (wrap64 ((IntKind.u64.wrap y).tmod (K + 1))))
        rw [tam_set K ys j y hy] at s1
        have HS := Lib.hid s1
        clear s1 s2 hy
        go_wp2
        go_roundw
        case rel => exact ⟨j + 1, by omega, by go_num, HS.out, hbr.setCell g1 _⟩
        case measure => simp [intOf]; omega
      · obtain rfl : m = j := by omega
        obtain ⟨zs, hzs⟩ : ∃ zs, zs = tam K ys m := ⟨_, rfl⟩
        rw [← hzs] at hor
        have HZ := Lib.hid hzs
        clear hzs hlt
        have hzl : zs.length = m := by have := hor.1; simpa [nums] using this
        have hrd : Reads wr wr.heap.size 1 A1 m (nums zs) := Reads.of_own hor
        have hrt : ∃ r, rightB K = r := ⟨_, rfl⟩
        go_wp2_with (first
          | (go_at_call 14; (with_reducible refine (right_any 14 (Or.inr rfl) _ _).mono ?_); rintro e w' ⟨rfl, rfl⟩))
        go_loop [8, 9, 10, 56] (fun o s l i => ∃ (j : Nat) (b : Bool) (x y : Int), j ≤ m ∧ i = .int .i64 j ∧ o = .bool b ∧ s = .int .i64 x ∧ l = .int .i64 y ∧ Okd K zs j b x y) (fun _ _ _ i => m - (intOf i).toNat)
        case atStart => exact ⟨0, rightB K, 0, K, by omega, rfl, rfl, rfl, rfl, okd_zero _ _⟩
        case round =>
          obtain ⟨j, b, x, y, hj, rfl, rfl, rfl, rfl, hok⟩ := hrel
          by_cases hlt : j < m
          · obtain ⟨g, rfl, g1, g2⟩ := own_some hor (by omega)
            obtain ⟨z, hz⟩ : ∃ z, zs[j]? = some z := ⟨_, List.getElem?_eq_getElem (by omega)⟩
            have hcell : wr.cell? ⟨g, j, none⟩ = some (.int .i64 z) := by
              rw [hor.cellAt j (by omega)]; unfold nums; rw [List.getElem?_map, hz]; rfl
            cases b with
            | false =>
              have HO := Lib.hid (okd_no hok hz)
              clear hok hz
              go_wp2
              go_round
              case rel => exact ⟨j + 1, false, x, y, by omega, by go_num, rfl, rfl, rfl, HO.out⟩
              case measure => simp [intOf]; omega
            | true =>
              obtain ⟨hx, hy, hsome⟩ := okd_yes hok hz
              cases hin : inB z K with
              | false =>
                have HO := Lib.hid (hsome.1 hin)
                clear hsome hok hz hx hy
                go_wp2_with (first
                  | (go_at_call 15; (with_reducible refine (in_any 15 (Or.inr rfl) _ _ _).mono ?_); rintro e w' ⟨rfl, rfl⟩))
                go_round
                case rel => exact ⟨j + 1, false, x, y, by omega, by go_num, rfl, rfl, rfl, HO.out⟩
                case measure => simp [intOf]; omega
              | true =>
                have HO := Lib.hid (hsome.2 hin)
                have iZ := (inB_iff _ _).1 hin
                have ca := fun w => refadd_ok x z K w hx iZ
                have cl := fun w => refless_any y z w
                clear hsome hok hz
                go_wp2_with (first
                  | (go_at_call 15; (with_reducible refine (in_any 15 (Or.inr rfl) _ _ _).mono ?_); rintro e w' ⟨rfl, rfl⟩)
                  | (go_at_call 17; (with_reducible refine (ca _).mono ?_); rintro e w' ⟨rfl, rfl⟩)
                  | (go_at_call 18; (with_reducible refine (cl _).mono ?_); rintro e w' ⟨rfl, rfl⟩))
                go_round
                case rel => exact ⟨j + 1, true, _, _, by omega, by go_num, rfl, rfl, rfl, HO.out⟩
                case measure => simp [intOf]; omega
          · have hok' : Okd K zs m b x y := by rw [show m = j by omega]; exact hok
            have htk : zs.take m = zs := List.take_of_length_le (by omega)
            unfold Okd at hok'
            rw [htk] at hok'
            clear hok htk
            obtain ⟨hall, hxy⟩ := hok'
            cases b with
            | true =>
              obtain ⟨rfl, rfl⟩ := hxy rfl
              have cs := sum_ok A1 m c1 zs K wr (by unfold maxLen; omega) hrd hall
              have cl := fun W h => least_ok A1 m c1 zs K W (by unfold maxLen; omega) h hall
              clear hall hxy
              go_wp2_with (first
                | (go_at_call 19; (with_reducible refine (cs).mono ?_); rintro e w2 ⟨rfl, hb2⟩; have hrd2 := (hrd.below hb2).more hb2.size; clear cs)
                | (go_at_call 20; (with_reducible refine (cl _ hrd2).mono ?_); rintro e w3 ⟨rfl, hb3⟩; clear cl))
              go_ret
              exact ⟨rfl, hbr.trans ((hb2.trans (hb3.mono hb2.size)).mono hbr.size)⟩
            | false =>
              have cs := list_no 19 (.inl rfl) A1 m c1 zs K wr (by unfold maxLen; omega) hrd hall
              have cl := fun W h => list_no 20 (.inr rfl) A1 m c1 zs K W (by unfold maxLen; omega) h hall
              clear hall hxy
              go_wp2_with (first
                | (go_at_call 19; (with_reducible refine (cs).mono ?_); rintro e w2 ⟨rfl, hb2⟩; have hrd2 := (hrd.below hb2).more hb2.size; clear cs)
                | (go_at_call 20; (with_reducible refine (cl _ hrd2).mono ?_); rintro e w3 ⟨rfl, hb3⟩; clear cl))
              go_ret
              exact ⟨rfl, hbr.trans ((hb2.trans (hb3.mono hb2.size)).mono hbr.size)⟩
  | false =>
    obtain ⟨zs, hzs⟩ : ∃ zs, zs = ys := ⟨_, rfl⟩
    rw [← hzs] at hown1
    clear hzs
    have hzl : zs.length = m := by have := hown1.1; simpa [nums] using this
    have hrd : Reads w1 w1.heap.size 1 A1 m (nums zs) := Reads.of_own hown1
    have hrt : ∃ r, rightB k = r := ⟨_, rfl⟩
    go_wp2_with (first
      | (go_at_call 14; (with_reducible refine (right_any 14 (Or.inr rfl) _ _).mono ?_); rintro e w' ⟨rfl, rfl⟩))
    go_loop [8, 9, 10, 56] (fun o s l i => ∃ (j : Nat) (b : Bool) (x y : Int), j ≤ m ∧ i = .int .i64 j ∧ o = .bool b ∧ s = .int .i64 x ∧ l = .int .i64 y ∧ Okd k zs j b x y) (fun _ _ _ i => m - (intOf i).toNat)
    case atStart => exact ⟨0, rightB k, 0, k, by omega, rfl, rfl, rfl, rfl, okd_zero _ _⟩
    case round =>
      obtain ⟨j, b, x, y, hj, rfl, rfl, rfl, rfl, hok⟩ := hrel
      by_cases hlt : j < m
      · obtain ⟨g, rfl, g1, g2⟩ := own_some hown1 (by omega)
        obtain ⟨z, hz⟩ : ∃ z, zs[j]? = some z := ⟨_, List.getElem?_eq_getElem (by omega)⟩
        have hcell : w1.cell? ⟨g, j, none⟩ = some (.int .i64 z) := by
          rw [hown1.cellAt j (by omega)]; unfold nums; rw [List.getElem?_map, hz]; rfl
        cases b with
        | false =>
          have HO := Lib.hid (okd_no hok hz)
          clear hok hz
          go_wp2
          go_round
          case rel => exact ⟨j + 1, false, x, y, by omega, by go_num, rfl, rfl, rfl, HO.out⟩
          case measure => simp [intOf]; omega
        | true =>
          obtain ⟨hx, hy, hsome⟩ := okd_yes hok hz
          cases hin : inB z k with
          | false =>
            have HO := Lib.hid (hsome.1 hin)
            clear hsome hok hz hx hy
            go_wp2_with (first
              | (go_at_call 15; (with_reducible refine (in_any 15 (Or.inr rfl) _ _ _).mono ?_); rintro e w' ⟨rfl, rfl⟩))
            go_round
            case rel => exact ⟨j + 1, false, x, y, by omega, by go_num, rfl, rfl, rfl, HO.out⟩
            case measure => simp [intOf]; omega
          | true =>
            have HO := Lib.hid (hsome.2 hin)
            have iZ := (inB_iff _ _).1 hin
            have ca := fun w => refadd_ok x z k w hx iZ
            have cl := fun w => refless_any y z w
            clear hsome hok hz
            go_wp2_with (first
              | (go_at_call 15; (with_reducible refine (in_any 15 (Or.inr rfl) _ _ _).mono ?_); rintro e w' ⟨rfl, rfl⟩)
              | (go_at_call 17; (with_reducible refine (ca _).mono ?_); rintro e w' ⟨rfl, rfl⟩)
              | (go_at_call 18; (with_reducible refine (cl _).mono ?_); rintro e w' ⟨rfl, rfl⟩))
            go_round
            case rel => exact ⟨j + 1, true, _, _, by omega, by go_num, rfl, rfl, rfl, HO.out⟩
            case measure => simp [intOf]; omega
      · have hok' : Okd k zs m b x y := by rw [show m = j by omega]; exact hok
        have htk : zs.take m = zs := List.take_of_length_le (by omega)
        unfold Okd at hok'
        rw [htk] at hok'
        clear hok htk
        obtain ⟨hall, hxy⟩ := hok'
        cases b with
        | true =>
          obtain ⟨rfl, rfl⟩ := hxy rfl
          have cs := sum_ok A1 m c1 zs k w1 (by unfold maxLen; omega) hrd hall
          have cl := fun W h => least_ok A1 m c1 zs k W (by unfold maxLen; omega) h hall
          clear hall hxy
          go_wp2_with (first
            | (go_at_call 19; (with_reducible refine (cs).mono ?_); rintro e w2 ⟨rfl, hb2⟩; have hrd2 := (hrd.below hb2).more hb2.size; clear cs)
            | (go_at_call 20; (with_reducible refine (cl _ hrd2).mono ?_); rintro e w3 ⟨rfl, hb3⟩; clear cl))
          go_ret
          exact ⟨rfl, hb1.trans ((hb2.trans (hb3.mono hb2.size)).mono hb1.size)⟩
        | false =>
          have cs := list_no 19 (.inl rfl) A1 m c1 zs k w1 (by unfold maxLen; omega) hrd hall
          have cl := fun W h => list_no 20 (.inr rfl) A1 m c1 zs k W (by unfold maxLen; omega) h hall
          clear hall hxy
          go_wp2_with (first
            | (go_at_call 19; (with_reducible refine (cs).mono ?_); rintro e w2 ⟨rfl, hb2⟩; have hrd2 := (hrd.below hb2).more hb2.size; clear cs)
            | (go_at_call 20; (with_reducible refine (cl _ hrd2).mono ?_); rintro e w3 ⟨rfl, hb3⟩; clear cl))
          go_ret
          exact ⟨rfl, hb1.trans ((hb2.trans (hb3.mono hb2.size)).mono hb1.size)⟩
theorem walk (a0 : Option Addr) (len0 cap0 : Nat) (z0 : List Int) (a1 : Int) (a2 : Bool) (w : World) (w0 : IsRow .i64 w a0 len0 cap0 z0) (w1 : (Lit.int .i64 a1).wf = true) :
    Calls Try.prog 6 #[.slice a0 len0 cap0, .int .i64 a1, .bool a2] w fun e w' => e = .returned (.bool true) ∧ Below w.heap.size w w' := by
  obtain ⟨hr, hn, hc⟩ : Reads w w.heap.size 1 a0 len0 (nums (z0.take len0)) ∧ len0 ≤ 9223372036854775807 ∧ len0 ≤ cap0 := by
    rcases w0 with ⟨rfl, rfl, rfl, rfl⟩ | ⟨x, rfl, hl, hm, hz, hcell, hwz⟩
    · exact ⟨by simpa [nums] using (Reads.none_ (w := w) (B := w.heap.size) (size := 1) (A := none)), by omega, by omega⟩
    · refine ⟨reads_row hl hz hcell, by unfold maxLen at hm; omega, hl⟩
  exact core a0 len0 cap0 a1 a2 _ w hr hn hc

set_option maxRecDepth 100000 in
theorem lifted (os : Os) (started : os.Started) (H : Type) (enc : TypeId × Value → H) :
    ReturnsInHanded {} Try.checked os 6 .any (Rows.costListsSpec.pre6 enc Try.prog Try.f6 Rows.costListsRow.domain false) (Rows.costListsSpec.post enc Try.prog Try.f6 false true false false) := by
  refine returnsInHanded_of_change (C := Try.checked) own started (by kernel_rfl) Try.func6
    (ChangeSpec.witness6 (enc := enc) (C := Try.checked) false ⟨#[], #[.slice none 0 0, .int .i64 0, .bool false], []⟩ 8 (by kernel_rfl) (by kernel_rfl) (by kernel_rfl) (by kernel_rfl)) ?_
  intro W base args ds gs before hval0 hW hcnd _
  have hval : ∀ (j : Nat) t v, Try.f6.params[j]? = some t → args[j]? = some v → Value.okWide Try.prog W .any base t v := hval0
  have hW' := hW
  obtain ⟨p, q, hA0, hV, rfl, hfz, hnd⟩ := hW
  have hA : DataW.TrodAll enc Try.prog W 0 (fun _ => true) true Try.f6.params.toList args.toList ds p := hA0
  rw [Try.params6] at hA hval
  obtain ⟨v0, vs0, d0, ds0, p0, q0, hargs, rfl, rfl, h0, r0⟩ := trodAll_cons hA
  obtain ⟨v1, vs1, d1, ds1, p1, q1, rfl, rfl, rfl, h1, r1⟩ := trodAll_cons r0
  obtain ⟨v2, vs2, d2, ds2, p2, q2, rfl, rfl, rfl, h2, r2⟩ := trodAll_cons r1
  obtain ⟨rfl, rfl, rfl⟩ := trodAll_nil r2
  obtain rfl : args = #[v0, v1, v2] := by cases args; simp_all
  obtain ⟨rfl, rfl⟩ := trodVars_none hV
  obtain ⟨a0, len0, cap0, rfl⟩ := okWide_slice Try.underlying34 (hval 0 34 v0 rfl rfl)
  have k0 := h0
  have lt0 : ∀ x ∈ p0, x.block < W.heap.size := by obtain ⟨m, hm⟩ := k0; exact DataW.trod_lt m _ _ _ hm
  obtain ⟨z0, w0⟩ : ∃ zs, IsRow .i64 W a0 len0 cap0 zs := by
    obtain ⟨fuel, hf⟩ := h0
    rcases open_ints Try.underlying34 Try.underlying2 (by kernel_rfl) hf with ⟨hcs, _⟩ | ⟨x, l, c, zs, hcs, _, hl, hm, hz, _, hcell, hwz⟩
    · simp [Value.cells] at hcs
      obtain ⟨rfl, rfl, rfl⟩ := hcs
      exact ⟨[], .inl ⟨rfl, rfl, rfl, rfl⟩⟩
    · simp [Value.cells] at hcs
      obtain ⟨rfl, rfl, rfl⟩ := hcs
      exact ⟨zs, .inr ⟨_, rfl, hl, hm, by simpa using hz, hcell, hwz⟩⟩
  obtain ⟨a1, rfl, rfl, rfl, w1⟩ := open_int Try.underlying2 (hval 1 2 v1 rfl rfl) h1
  obtain ⟨a2, rfl, rfl, rfl⟩ := open_bool Try.underlying4 (hval 2 4 v2 rfl rfl) h2
  clear hA0 hval0
  refine (walk a0 len0 cap0 z0 a1 a2 W w0 w1).mono fun e W' ⟨he, bel⟩ => ?_
  subst he
  exact ⟨_, rfl, _, _, _, [], _, [], hW', trodAll_mk1 (shut_bool Try.underlying4 _), (trodAll_cons_mk (Below.trod laidOut (by kernel_rfl) (of_decide_eq_true (by kernel_rfl)) k0 bel lt0) (trodAll_cons_mk (shut_int Try.underlying2 w1) (trodAll_cons_mk (shut_bool Try.underlying4 _) trodAll_mk0))), rfl, bel.frame _, fun h => by cases h⟩

theorem over : Rows.costListsRow.holds Try.pinned (OpenSpec.ofChange Rows.costListsSpec) :=
  OpenClaim.holds_of_wide 6 Try.f6 rfl rfl rfl rfl rfl rfl rfl ⟨rfl, rfl, rfl, rfl, rfl⟩ rfl rfl rfl rfl rfl (by kernel_rfl) Try.func6 (by kernel_rfl)
    (of_decide_eq_true (by kernel_rfl)) (by unfold Func.isWrapper; first | (rw [if_pos (by decide +kernel)]; kernel_rfl) | (rw [if_neg (by decide +kernel)]; exact ⟨rfl, rfl⟩))
    (fun os started H enc _ => lifted os started H enc)

theorem proved : Rows.CostListsSaid := over
end Go.Proofs.Ytbgngpgebhnpbaa.costLists
