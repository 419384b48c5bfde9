/- The document's lists of values: its functions, and what a set's values are by them. -/
import Derived.Test.YtcmglgkopgfheaaDoorVals
import Derived.Test.YtcmglgkopgfheaaDoorLast
import Derived.Test.YtcmglgkopgfheaaDoorIntEq
import Derived.ProofKit
import Derived.OpenShut
namespace Go.Proofs.YtcmglgkopgfheaaDoor.bit
open Go Go.RowKit Go.ChangeShapes Go.WideShapes Go.ChangeAt Go.Proofs.YtcmglgkopgfheaaDoor.words
set_option linter.unusedVariables false
theorem take_snoc {L : List Int} {j : Nat} {x : Int} (h : L[j]? = some x) : L.take (j + 1) = L.take j ++ [x] := by rw [List.take_add_one, h]; rfl
theorem ref_has (A : Option Addr) (n c : Nat) (L : List Int) (v : Int) (w : World) (hn : n ≤ 1000) (hr : Reads w w.heap.size 1 A n (nums L)) :
    Calls Tryd.prog 27 #[.slice A n c, .int .i64 v] w fun e w' => e = .returned (.bool (decide (v ∈ L))) ∧ w = w' := by
  have hl := nums_len hr
  go_enter Tryd.func27, Tryd.ntmps27
  go_wp2_with fail
  go_loopw [9] (fun jv wr => ∃ j : Nat, jv = .int .i64 j ∧ j ≤ n ∧ v ∉ L.take j ∧ w = wr) (fun jv _ => n - (intOf jv).toNat)
  case atStart => exact ⟨0, rfl, Nat.zero_le _, by simp, rfl⟩
  case round =>
    obtain ⟨j, rfl, hj, hno, rfl⟩ := hrel
    by_cases hlt : j < n
    · obtain ⟨ad, x, rfl, _, hx, hc⟩ := hr.num hlt
      by_cases hxv : x = v
      · subst hxv
        have hin : decide (x ∈ L) = true := decide_eq_true (List.mem_of_getElem? hx)
        have HI := Lib.hid hin
        clear hr hno hx hin hl
        go_wp2_with fail
        go_ret
        exact ⟨ret_bool HI.out.symm, by first | rfl | trivial⟩
      · have hne : (x == v) = false := by simpa using hxv
        have H2 : Hid (v ∉ L.take (j + 1)) := by
          show v ∉ L.take (j + 1)
          rw [take_snoc hx]
          intro h
          rcases List.mem_append.1 h with h | h
          · exact hno h
          · simp at h; exact hxv h.symm
        clear hno hx hxv
        go_wp2_with fail
        go_roundw
        case rel => exact ⟨j + 1, by go_num, by omega, H2.out, by first | rfl | trivial⟩
        case measure => simp [intOf]; omega
    · obtain rfl : n = j := by omega
      have H2 : Hid (decide (v ∈ L) = false) := by
        rw [List.take_of_length_le (by omega)] at hno
        exact decide_eq_false hno
      clear hr hno
      go_wp2_with fail
      go_ret
      exact ⟨ret_bool H2.out.symm, by first | rfl | trivial⟩
/-- the first above v; none: -1 -/
def nextL (L : List Int) (v : Int) : Int := (L.find? fun x => decide (v < x)).getD (-1)
theorem ref_next (A : Option Addr) (n c : Nat) (L : List Int) (v : Int) (w : World) (hn : n ≤ 1000) (hr : Reads w w.heap.size 1 A n (nums L)) :
    Calls Tryd.prog 28 #[.slice A n c, .int .i64 v] w fun e w' => e = .returned (.int .i64 (nextL L v)) ∧ w = w' := by
  have hl := nums_len hr
  go_enter Tryd.func28, Tryd.ntmps28
  go_wp2_with fail
  go_loopw [9] (fun jv wr => ∃ j : Nat, jv = .int .i64 j ∧ j ≤ n ∧ nextL L v = nextL (L.drop j) v ∧ w = wr) (fun jv _ => n - (intOf jv).toNat)
  case atStart => exact ⟨0, rfl, Nat.zero_le _, by simp, rfl⟩
  case round =>
    obtain ⟨j, rfl, hj, hno, rfl⟩ := hrel
    by_cases hlt : j < n
    · obtain ⟨ad, x, rfl, _, hx, hc⟩ := hr.num hlt
      have hd : L.drop j = x :: L.drop (j + 1) := by
        obtain ⟨hlt', he⟩ := List.getElem?_eq_some_iff.1 hx
        rw [← he]; exact List.drop_eq_getElem_cons hlt'
      by_cases hxv : v < x
      · have H2 : Hid (nextL L v = x) := by
          show nextL L v = x
          rw [hno, hd]; simp [nextL, hxv]
        have hb : decide (v < x) = true := decide_eq_true hxv
        clear hr hno hx hl hd
        go_wp2_with fail
        go_ret
        exact ⟨ret_int H2.out.symm, by first | rfl | trivial⟩
      · have hb : decide (v < x) = false := decide_eq_false hxv
        have H2 : Hid (nextL L v = nextL (L.drop (j + 1)) v) := by
          show nextL L v = nextL (L.drop (j + 1)) v
          rw [hno, hd]; simp [nextL, hxv]
        clear hno hx hd
        go_wp2_with fail
        go_roundw
        case rel => exact ⟨j + 1, by go_num, by omega, H2.out, by first | rfl | trivial⟩
        case measure => simp [intOf]; omega
    · obtain rfl : n = j := by omega
      have H2 : Hid (nextL L v = -1) := by
        show nextL L v = -1
        rw [hno, List.drop_eq_nil_of_le (by omega)]; rfl
      clear hr hno
      go_wp2_with fail
      go_ret
      exact ⟨ret_int H2.out.symm, by first | rfl | trivial⟩
/-- what a call that makes a list hands back -/
def Lists (L : List Int) (w : World) (e : Ending) (w' : World) : Prop := ∃ A c, e = .returned (.slice A L.length c) ∧ w'.ownsRow w.heap.size 3 1 (.slice A L.length c) L.length (nums L) ∧ Below w.heap.size w w'
theorem keep_one {w wr w4 : World} {A : Option Addr} {n c : Nat} {G : List Int} {x : Int} (ho : wr.ownsRow w.heap.size 3 1 (.slice A n c) n (nums G)) (hB : Below w.heap.size w wr)
    (hg : (wr.alloc (.cells #[.int .i64 x] 3)).grownBy w4 (Value.slice A n c).ownBlock) : Below w.heap.size w w4 :=
  (hB.alloc hB.size _).grown hg (by have := hB.size; simp; omega) (fun q hq => (own_in ho hq).1)
theorem nums_snoc (G : List Int) (x : Int) : nums G ++ [.int .i64 x] = nums (G ++ [x]) := by simp [nums]
set_option maxHeartbeats 1000000 in
theorem ref_drop (A : Option Addr) (n c : Nat) (L : List Int) (v : Int) (w : World) (hn : n ≤ 1000) (hr : Reads w w.heap.size 1 A n (nums L)) :
    Calls Tryd.prog 26 #[.slice A n c, .int .i64 v] w fun e w' => Lists (L.filter fun x => !decide (x = v)) w e w' := by
  obtain ⟨i0, hi0, hz0, hz1, hz2⟩ := info_parts infoI
  have hl := nums_len hr
  go_enter Tryd.func26, Tryd.ntmps26
  go_wp2_with fail
  go_loopw [5, 10] (fun gv jv wr => ∃ (j : Nat) (G : List Int) (A2 : Option Addr) (n2 c2 : Nat), jv = .int .i64 j ∧ j ≤ n ∧ gv = .slice A2 n2 c2 ∧ G = (L.take j).filter (fun x => !decide (x = v)) ∧ n2 ≤ j ∧ wr.ownsRow w.heap.size 3 1 (.slice A2 n2 c2) n2 (nums G) ∧ Below w.heap.size w wr) (fun _ jv _ => n - (intOf jv).toNat)
  case atStart => exact ⟨0, [], none, 0, 0, rfl, Nat.zero_le _, rfl, by simp, Nat.le_refl _, World.ownsRow_nil _ _ _ _, Below.refl _ _⟩
  case round =>
    obtain ⟨j, G, A2, n2, c2, rfl, hj, rfl, hG, hn2, ho, hB⟩ := hrel
    by_cases hlt : j < n
    · obtain ⟨ad, x, rfl, _, hx, hc⟩ := (hr.below hB).num hlt
      have ht := take_snoc hx
      by_cases hxv : x = v
      · have hb : (x != v) = false := by simp [hxv]
        have H2 : Hid (G = (L.take (j + 1)).filter (fun x => !decide (x = v))) := by
          show G = (L.take (j + 1)).filter (fun x => !decide (x = v))
          rw [ht, List.filter_append, ← hG]; simp [hxv]
        clear hG ht hx hxv
        go_wp2_with fail
        go_roundw
        case rel => exact ⟨j + 1, G, A2, n2, c2, by go_num, by omega, rfl, H2.out, by omega, ho, hB⟩
        case measure => simp [intOf]; omega
      · have hb : (x != v) = true := by simp [hxv]
        have H2 : Hid (G ++ [x] = (L.take (j + 1)).filter (fun x => !decide (x = v))) := by
          show G ++ [x] = (L.take (j + 1)).filter (fun x => !decide (x = v))
          rw [ht, List.filter_append, ← hG]; simp [hxv]
        have ho1 := ho.alloc (.cells #[.int .i64 x] 3)
        have hr1 : Reads (wr.alloc (.cells #[.int .i64 x] 3)) (wr.alloc (.cells #[.int .i64 x] 3)).heap.size 1 (some ⟨wr.heap.size, 0, none⟩) 1 [.int .i64 x] := reads_block (t := 3) (heap_alloc_new _ _) rfl
        have hsz := hB.size
        have hs2 : w.heap.size ≤ (wr.alloc (.cells #[.int .i64 x] 3)).heap.size := by simp; omega
        clear hG ht hx hxv
        go_wp2_with (first
          | (at_builtin; refine wpList_append_any _ rfl (.tmp 17) (.tmp 19) _ rfl w.heap.size 3 i0 _ 1 8 Tryd.underlying27 hi0 hz0 hz1 hz2 rfl (by omega) (.slice A2 n2 c2) n2 _ rfl ho1 (wr.alloc (.cells #[.int .i64 x] 3)).heap.size (some ⟨wr.heap.size, 0, none⟩) 1 1 [.int .i64 x] rfl hr1 (fun u hu => by simp at hu; subst hu; rfl) (by simp only [maxLen]; omega) (by omega) hs2 ?_; intro v1 w4 hown hg1 hat; clear hat; obtain ⟨A4, c4, rfl⟩ := own_shape hown; have hB4 := keep_one ho hB hg1; rw [nums_snoc] at hown; clear ho1 hr1)
          | fail)
        go_roundw
        case rel => exact ⟨j + 1, G ++ [x], A4, n2 + 1, c4, by go_num, by omega, rfl, H2.out, by omega, hown, hB4⟩
        case measure => simp [intOf]; omega
    · obtain rfl : n = j := by omega
      have hG' : G = L.filter (fun x => !decide (x = v)) := by rw [hG, List.take_of_length_le (by omega)]
      have hlen := nums_own_len ho
      have H2 : Hid (Lists (L.filter fun x => !decide (x = v)) w (.returned (.slice A2 n2 c2)) wr) := by
        rw [← hG']
        exact ⟨A2, c2, by rw [hlen], by rw [hlen]; exact ho, hB⟩
      clear hr hG hG' ho hB hlen
      go_wp2_with fail
      go_ret
      exact H2.out
set_option maxHeartbeats 1000000 in
theorem ref_both (A C : Option Addr) (n c m d : Nat) (L M : List Int) (w : World) (hn : n ≤ 1000) (hm : m ≤ 1000) (hr : Reads w w.heap.size 1 A n (nums L)) (hr2 : Reads w w.heap.size 1 C m (nums M)) :
    Calls Tryd.prog 24 #[.slice A n c, .slice C m d] w fun e w' => Lists (L.filter fun x => decide (x ∈ M)) w e w' := by
  obtain ⟨i0, hi0, hz0, hz1, hz2⟩ := info_parts infoI
  have hl := nums_len hr
  go_enter Tryd.func24, Tryd.ntmps24
  go_wp2_with fail
  go_loopw [5, 10] (fun gv jv wr => ∃ (j : Nat) (G : List Int) (A2 : Option Addr) (n2 c2 : Nat), jv = .int .i64 j ∧ j ≤ n ∧ gv = .slice A2 n2 c2 ∧ G = (L.take j).filter (fun x => decide (x ∈ M)) ∧ n2 ≤ j ∧ wr.ownsRow w.heap.size 3 1 (.slice A2 n2 c2) n2 (nums G) ∧ Below w.heap.size w wr) (fun _ jv _ => n - (intOf jv).toNat)
  case atStart => exact ⟨0, [], none, 0, 0, rfl, Nat.zero_le _, rfl, by simp, Nat.le_refl _, World.ownsRow_nil _ _ _ _, Below.refl _ _⟩
  case round =>
    obtain ⟨j, G, A2, n2, c2, rfl, hj, rfl, hG, hn2, ho, hB⟩ := hrel
    by_cases hlt : j < n
    · obtain ⟨ad, x, rfl, _, hx, hc⟩ := (hr.below hB).num hlt
      have ht := take_snoc hx
      have hha := ref_has C m d M x wr hm (hr2.lift hB)
      by_cases hxv : x ∈ M
      · rw [decide_eq_true hxv] at hha
        have H2 : Hid (G ++ [x] = (L.take (j + 1)).filter (fun x => decide (x ∈ M))) := by
          show G ++ [x] = (L.take (j + 1)).filter (fun x => decide (x ∈ M))
          rw [ht, List.filter_append, ← hG]; simp [hxv]
        have ho1 := ho.alloc (.cells #[.int .i64 x] 3)
        have hr1 : Reads (wr.alloc (.cells #[.int .i64 x] 3)) (wr.alloc (.cells #[.int .i64 x] 3)).heap.size 1 (some ⟨wr.heap.size, 0, none⟩) 1 [.int .i64 x] := reads_block (t := 3) (heap_alloc_new _ _) rfl
        have hsz := hB.size
        have hs2 : w.heap.size ≤ (wr.alloc (.cells #[.int .i64 x] 3)).heap.size := by simp; omega
        clear hG ht hx hxv
        go_wp2_with fail
        refine hha.mono ?_
        rintro e w3 ⟨rfl, rfl⟩
        clear hha
        go_wp2_with (first
          | (at_builtin; refine wpList_append_any _ rfl (.tmp 17) (.tmp 19) _ rfl w.heap.size 3 i0 _ 1 8 Tryd.underlying27 hi0 hz0 hz1 hz2 rfl (by omega) (.slice A2 n2 c2) n2 _ rfl ho1 (wr.alloc (.cells #[.int .i64 x] 3)).heap.size (some ⟨wr.heap.size, 0, none⟩) 1 1 [.int .i64 x] rfl hr1 (fun u hu => by simp at hu; subst hu; rfl) (by simp only [maxLen]; omega) (by omega) hs2 ?_; intro v1 w4 hown hg1 hat; clear hat; obtain ⟨A4, c4, rfl⟩ := own_shape hown; have hB4 := keep_one ho hB hg1; rw [nums_snoc] at hown; clear ho1 hr1)
          | fail)
        go_roundw
        case rel => exact ⟨j + 1, G ++ [x], A4, n2 + 1, c4, by go_num, by omega, rfl, H2.out, by omega, hown, hB4⟩
        case measure => simp [intOf]; omega
      · rw [decide_eq_false hxv] at hha
        have H2 : Hid (G = (L.take (j + 1)).filter (fun x => decide (x ∈ M))) := by
          show G = (L.take (j + 1)).filter (fun x => decide (x ∈ M))
          rw [ht, List.filter_append, ← hG]; simp [hxv]
        clear hG ht hx hxv
        go_wp2_with fail
        refine hha.mono ?_
        rintro e w3 ⟨rfl, rfl⟩
        clear hha
        go_wp2_with fail
        go_roundw
        case rel => exact ⟨j + 1, G, A2, n2, c2, by go_num, by omega, rfl, H2.out, by omega, ho, hB⟩
        case measure => simp [intOf]; omega
    · obtain rfl : n = j := by omega
      have hG' : G = L.filter (fun x => decide (x ∈ M)) := by rw [hG, List.take_of_length_le (by omega)]
      have hlen := nums_own_len ho
      have H2 : Hid (Lists (L.filter fun x => decide (x ∈ M)) w (.returned (.slice A2 n2 c2)) wr) := by
        rw [← hG']
        exact ⟨A2, c2, by rw [hlen], by rw [hlen]; exact ho, hB⟩
      clear hr hr2 hG hG' ho hB hlen
      go_wp2_with fail
      go_ret
      exact H2.out
/-- the numbers below k -/
def upto (k : Nat) : List Int := (List.range k).map Int.ofNat
theorem upto_succ (k : Nat) : upto (k + 1) = upto k ++ [(k : Int)] := by simp [upto, List.range_succ]
set_option maxHeartbeats 1000000 in
theorem ref_put (A : Option Addr) (n c k : Nat) (L : List Int) (v : Int) (w : World) (hn : n ≤ 1000) (hk : k ≤ 1000) (hr : Reads w w.heap.size 1 A n (nums L)) :
    Calls Tryd.prog 25 #[.slice A n c, .int .i64 k, .int .i64 v] w fun e w' => Lists ((upto k).filter fun x => decide (x ∈ L) || decide (x = v)) w e w' := by
  obtain ⟨i0, hi0, hz0, hz1, hz2⟩ := info_parts infoI
  have hl := nums_len hr
  go_enter Tryd.func25, Tryd.ntmps25
  go_wp2_with fail
  go_loopw [7, 8] (fun gv jv wr => ∃ (j : Nat) (G : List Int) (A2 : Option Addr) (n2 c2 : Nat), jv = .int .i64 j ∧ j ≤ k ∧ gv = .slice A2 n2 c2 ∧ G = (upto j).filter (fun x => decide (x ∈ L) || decide (x = v)) ∧ n2 ≤ j ∧ wr.ownsRow w.heap.size 3 1 (.slice A2 n2 c2) n2 (nums G) ∧ Below w.heap.size w wr) (fun _ jv _ => k - (intOf jv).toNat)
  case atStart => exact ⟨0, [], none, 0, 0, rfl, Nat.zero_le _, rfl, by simp [upto], Nat.le_refl _, World.ownsRow_nil _ _ _ _, Below.refl _ _⟩
  case round =>
    obtain ⟨j, G, A2, n2, c2, rfl, hj, rfl, hG, hn2, ho, hB⟩ := hrel
    by_cases hlt : j < k
    · have ht := upto_succ j
      have hha := ref_has A n c L j wr hn (hr.lift hB)
      obtain ⟨b, hb⟩ : ∃ b, decide ((j : Int) ∈ L) = b := ⟨_, rfl⟩
      obtain ⟨b2, hb2⟩ : ∃ b, ((j : Int) == v) = b := ⟨_, rfl⟩
      have hb2' : decide ((j : Int) = v) = b2 := by rw [← hb2]; rfl
      rw [hb] at hha
      have H2 : Hid ((upto (j + 1)).filter (fun x => decide (x ∈ L) || decide (x = v)) = G ++ if (b || b2) = true then [(j : Int)] else []) := by
        show (upto (j + 1)).filter (fun x => decide (x ∈ L) || decide (x = v)) = G ++ if (b || b2) = true then [(j : Int)] else []
        rw [ht, List.filter_append, ← hG, List.filter_cons, List.filter_nil, hb, hb2']
      have ho1 := ho.alloc (.cells #[.int .i64 j] 3)
      have hr1 : Reads (wr.alloc (.cells #[.int .i64 j] 3)) (wr.alloc (.cells #[.int .i64 j] 3)).heap.size 1 (some ⟨wr.heap.size, 0, none⟩) 1 [.int .i64 j] := reads_block (t := 3) (heap_alloc_new _ _) rfl
      have hsz := hB.size
      have hs2 : w.heap.size ≤ (wr.alloc (.cells #[.int .i64 j] 3)).heap.size := by simp; omega
      clear hG ht hb hb2'
      go_wp2_with fail
      refine hha.mono ?_
      rintro e w3 ⟨rfl, rfl⟩
      clear hha
      cases b
      · cases b2
        · go_wp2_with fail
          go_roundw
          case rel => exact ⟨j + 1, G, A2, n2, c2, by go_num, by omega, rfl, by rw [H2.out]; simp, by omega, ho, hB⟩
          case measure => simp [intOf]; omega
        · go_wp2_with (first
            | (at_builtin; refine wpList_append_any _ rfl (.tmp 22) (.tmp 24) _ rfl w.heap.size 3 i0 _ 1 8 Tryd.underlying27 hi0 hz0 hz1 hz2 rfl (by omega) (.slice A2 n2 c2) n2 _ rfl ho1 (wr.alloc (.cells #[.int .i64 j] 3)).heap.size (some ⟨wr.heap.size, 0, none⟩) 1 1 [.int .i64 j] rfl hr1 (fun u hu => by simp at hu; subst hu; rfl) (by simp only [maxLen]; omega) (by omega) hs2 ?_; intro v1 w4 hown hg1 hat; clear hat; obtain ⟨A4, c4, rfl⟩ := own_shape hown; have hB4 := keep_one ho hB hg1; rw [nums_snoc] at hown; clear ho1 hr1)
            | fail)
          go_roundw
          case rel => exact ⟨j + 1, G ++ [(j : Int)], A4, n2 + 1, c4, by go_num, by omega, rfl, by rw [H2.out]; simp, by omega, hown, hB4⟩
          case measure => simp [intOf]; omega
      · go_wp2_with (first
          | (at_builtin; refine wpList_append_any _ rfl (.tmp 22) (.tmp 24) _ rfl w.heap.size 3 i0 _ 1 8 Tryd.underlying27 hi0 hz0 hz1 hz2 rfl (by omega) (.slice A2 n2 c2) n2 _ rfl ho1 (wr.alloc (.cells #[.int .i64 j] 3)).heap.size (some ⟨wr.heap.size, 0, none⟩) 1 1 [.int .i64 j] rfl hr1 (fun u hu => by simp at hu; subst hu; rfl) (by simp only [maxLen]; omega) (by omega) hs2 ?_; intro v1 w4 hown hg1 hat; clear hat; obtain ⟨A4, c4, rfl⟩ := own_shape hown; have hB4 := keep_one ho hB hg1; rw [nums_snoc] at hown; clear ho1 hr1)
          | fail)
        go_roundw
        case rel => exact ⟨j + 1, G ++ [(j : Int)], A4, n2 + 1, c4, by go_num, by omega, rfl, by rw [H2.out]; simp, by omega, hown, hB4⟩
        case measure => simp [intOf]; omega
    · obtain rfl : k = j := by omega
      have hlen := nums_own_len ho
      have H2 : Hid (Lists ((upto k).filter fun x => decide (x ∈ L) || decide (x = v)) w (.returned (.slice A2 n2 c2)) wr) := by
        rw [← hG]
        exact ⟨A2, c2, by rw [hlen], by rw [hlen]; exact ho, hB⟩
      clear hr hG ho hB hlen
      go_wp2_with fail
      go_ret
      exact H2.out
end Go.Proofs.YtcmglgkopgfheaaDoor.bit
