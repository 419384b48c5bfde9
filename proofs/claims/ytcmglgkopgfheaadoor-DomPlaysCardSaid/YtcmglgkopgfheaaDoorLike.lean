/- A set has just these values: plain laws of the lists, and the law that asks in all ways. -/
import Derived.Test.YtcmglgkopgfheaaDoorRefCon
import Derived.Test.YtcmglgkopgfheaaDoorAwake
import Derived.Deep.QuietTactic
import Derived.BigQuiet
namespace Go.Proofs.YtcmglgkopgfheaaDoor.bit
open Go Go.RowKit Go.ChangeShapes Go.WideShapes Go.ChangeAt Go.Proofs.YtcmglgkopgfheaaDoor.words
set_option linter.unusedVariables false
theorem vals_has {S k : Nat} (i : Nat) (hi : i < k) : decide ((i : Int) ∈ vals S k) = S.testBit i := by
  rw [Bool.eq_iff_iff, decide_eq_true_eq, vals_mem]
  constructor
  · rintro ⟨j, _, hb, e⟩
    obtain rfl : i = j := by omega
    exact hb
  · exact fun h => ⟨i, hi, h, rfl⟩
theorem vals_out {S k : Nat} {v : Int} (h : v < 0 ∨ (k : Int) ≤ v) : decide (v ∈ vals S k) = false := by
  rw [decide_eq_false_iff_not, vals_mem]
  rintro ⟨j, hj, _, e⟩
  omega
theorem vals_filter (p : Int → Bool) (S S' : Nat) : ∀ k, (∀ i : Nat, i < k → (S.testBit i && p (i : Int)) = S'.testBit i) → (vals S k).filter p = vals S' k
  | 0, _ => rfl
  | k + 1, h => by
    rw [vals_succ, vals_succ, List.filter_append, vals_filter p S S' k fun i hi => h i (by omega), ← h k (by omega)]
    congr 1
    cases S.testBit k <;> cases hp : p (k : Int) <;> simp [hp]
theorem upto_filter (p : Int → Bool) (S' : Nat) : ∀ k, (∀ i : Nat, i < k → p (i : Int) = S'.testBit i) → (upto k).filter p = vals S' k
  | 0, _ => rfl
  | k + 1, h => by
    rw [upto_succ, vals_succ, List.filter_append, upto_filter p S' k fun i hi => h i (by omega), ← h k (by omega)]
    congr 1
    cases hp : p (k : Int) <;> simp [hp]
theorem vals_inj {S T k : Nat} (hS : S < 2 ^ k) (hT : T < 2 ^ k) (h : vals S k = vals T k) : S = T :=
  eq_of_bits hS hT fun i hi => by rw [← vals_has i hi, ← vals_has i hi, h]
theorem both_vals (S T k : Nat) : (vals S k).filter (fun x => decide (x ∈ vals T k)) = vals (S &&& T) k :=
  vals_filter _ _ _ _ fun i hi => by rw [vals_has i hi, Nat.testBit_and]
theorem put_vals {S k v : Nat} (hv : v < k) : (upto k).filter (fun x => decide (x ∈ vals S k) || decide (x = (v : Int))) = vals (putB S v) k :=
  upto_filter _ _ _ fun i hi => by
    rw [vals_has i hi, put_bit]
    congr 1
    exact decide_eq_decide.2 ⟨fun h => by omega, fun h => by omega⟩
theorem drop_vals {S k v : Nat} (hS : S < 2 ^ k) (hk : k ≤ 32) (hv : v < k) : (vals S k).filter (fun x => !decide (x = (v : Int))) = vals (dropB S v) k :=
  vals_filter _ _ _ _ fun i hi => by
    rw [drop_bit hS hk hv]
    congr 2
    exact decide_eq_decide.2 ⟨fun h => by omega, fun h => by omega⟩
theorem drop_out_vals {S k : Nat} {v : Int} (h : v < 0 ∨ (k : Int) ≤ v) : (vals S k).filter (fun x => !decide (x = v)) = vals S k :=
  vals_filter _ _ _ _ fun i hi => by
    rw [decide_eq_false (by omega : ¬ (i : Int) = v)]; simp
theorem only_vals (k v : Nat) (hv : v < k) : vals (2 ^ v) k = [(v : Int)] := by
  have h0 : vals (2 ^ v) v = [] := by
    have := vals_gap (S := 2 ^ v) (a := 0) (b := v) (Nat.zero_le _) fun i _ hi => by rw [pow_bit]; exact decide_eq_false (by omega)
    rw [this]; rfl
  have h1 := vals_gap (S := 2 ^ v) (a := v + 1) (b := k) (by omega) fun i h1 h2 => by rw [pow_bit]; exact decide_eq_false (by omega)
  rw [h1, vals_succ, h0, pow_bit]; simp
theorem vals_split {S j : Nat} : ∀ {k : Nat}, j < k → S.testBit j = true → ∃ Z, vals S k = vals S j ++ (j : Int) :: Z
  | 0, h, _ => by omega
  | k + 1, h, hb => by
    by_cases e : j = k
    · subst e
      exact ⟨[], by rw [vals_succ, hb, if_pos rfl]⟩
    · obtain ⟨Z, hZ⟩ := vals_split (k := k) (by omega) hb
      exact ⟨Z ++ (if S.testBit k then [(k : Int)] else []), by rw [vals_succ, hZ]; simp⟩
theorem next_vals {S k : Nat} {v r : Int} (h : Nx S k v r) : nextL (vals S k) v = r := by
  unfold nextL
  rcases h with ⟨rfl, hz⟩ | ⟨j, hj, rfl, hvj, hb, hz⟩
  · have : (vals S k).find? (fun x => decide (v < x)) = none := by
      rw [List.find?_eq_none]
      intro x hx hlt
      obtain ⟨i, hi, hb, rfl⟩ := (vals_mem _ _ _).1 hx
      have := hz i hi (by simpa using hlt)
      rw [this] at hb; cases hb
    rw [this]; rfl
  · obtain ⟨Z, hZ⟩ := vals_split hj hb
    have h1 : (vals S j).find? (fun x => decide (v < x)) = none := by
      rw [List.find?_eq_none]
      intro x hx hlt
      obtain ⟨i, hi, hb, rfl⟩ := (vals_mem _ _ _).1 hx
      have := hz i (by simpa using hlt) hi
      rw [this] at hb; cases hb
    rw [hZ, List.find?_append, h1, List.find?_cons_of_pos (by simpa using hvj)]; rfl
theorem vals_none {S k : Nat} (h : ∀ i, i < k → S.testBit i = false) : vals S k = [] := by
  rw [vals_gap (S := S) (a := 0) (b := k) (Nat.zero_le _) fun i _ hi => h i hi]; rfl
/-- the first, and the last, of any -/
theorem ends_vals {S k : Nat} {r : Int} (hS : S < 2 ^ k) (hk : k ≤ 32) (h : Nx S k (-1) r) :
    (vals S k = [] ∧ r = -1 ∧ Lib.bitLen S = 0) ∨ ∃ n l : Nat, (vals S k).length = n + 1 ∧ (vals S k)[0]? = some r ∧ (vals S k)[n]? = some (l : Int) ∧ Lib.bitLen S = l + 1 ∧ l < 32 := by
  rcases h with ⟨rfl, hz⟩ | ⟨j, hj, rfl, hvj, hb, hz⟩
  · have h0 : S = 0 := eq_of_bits hS (Nat.pow_pos (by decide)) fun i hi => by rw [hz i hi (by omega), Nat.zero_testBit]
    subst h0
    exact .inl ⟨vals_none fun i hi => Nat.zero_testBit i, rfl, bl_zero⟩
  · obtain ⟨Z, hZ⟩ := vals_split hj hb
    rw [vals_none (S := S) (k := j) fun i hi => hz i (by omega) hi] at hZ
    have hS32 : S < 4294967296 := Nat.lt_of_lt_of_le hS (Nat.pow_le_pow_right (by decide) hk)
    have hS0 : S ≠ 0 := fun e => by rw [e, Nat.zero_testBit] at hb; cases hb
    obtain ⟨b1, b2, b3⟩ := bl_some hS32 hS0
    obtain ⟨l, hl⟩ : ∃ l, Lib.bitLen S = l + 1 := ⟨Lib.bitLen S - 1, by omega⟩
    rw [hl] at b2 b3
    have hlk : l < k := (Nat.pow_lt_pow_iff_right (by decide : 1 < 2)).1 (Nat.lt_of_le_of_lt (by simpa using b2) hS)
    have hbl : S.testBit l = true := by
      rw [Nat.testBit_eq_decide_div_mod_eq]
      have h1 : S / 2 ^ l = 1 := by
        have e : 2 ^ (l + 1) = 2 ^ l * 2 := Nat.pow_succ 2 l
        have p : 0 < 2 ^ l := Nat.pow_pos (by decide)
        have b2' : 2 ^ l ≤ S := by simpa using b2
        exact Nat.div_eq_of_lt_le (by omega) (by rw [e] at b3; omega)
      rw [h1]; rfl
    have hgap := vals_gap (S := S) (a := l + 1) (b := k) (by omega) fun i h1 h2 => bit_ge b3 h1
    rw [vals_succ, hbl, if_pos rfl] at hgap
    refine .inr ⟨(vals S l).length, l, by rw [hgap]; simp, by rw [hZ]; rfl, by rw [hgap]; simp, hl, by omega⟩
theorem nx_ex (S k : Nat) (v : Int) : ∃ r, Nx S k v r := by
  have h : ∀ m, m ≤ k → (∀ i : Nat, i < m → v < i → S.testBit i = false) ∨ ∃ j : Nat, j < k ∧ v < j ∧ S.testBit j = true ∧ ∀ i : Nat, v < i → i < j → S.testBit i = false := by
    intro m
    induction m with
    | zero => exact fun _ => .inl fun i hi => by omega
    | succ m ih =>
      intro hm
      rcases ih (by omega) with h | h
      · by_cases hb : v < (m : Int) ∧ S.testBit m = true
        · exact .inr ⟨m, by omega, hb.1, hb.2, fun i h1 h2 => h i h2 h1⟩
        · refine .inl fun i hi hv => ?_
          by_cases e : i = m
          · subst e
            cases hc : S.testBit i with
            | false => rfl
            | true => exact absurd ⟨hv, hc⟩ hb
          · exact h i (by omega) hv
      · exact .inr h
  rcases h k (Nat.le_refl _) with h | ⟨j, h1, h2, h3, h4⟩
  · exact ⟨-1, .inl ⟨rfl, h⟩⟩
  · exact ⟨j, .inr ⟨j, h1, rfl, h2, h3, h4⟩⟩
set_option maxRecDepth 100000 in
set_option maxHeartbeats 4000000 in
theorem like_any (S k n c : Nat) (A : Option Addr) (w : World) (ht : Tab w) (h0w : 0 < w.heap.size) (hS : S < 2 ^ k) (hk : k ≤ 32) (hr : Reads w w.heap.size 1 A n (nums (vals S k))) :
    Calls Tryd.prog 23 #[SetV S k, .slice A n c, .int .i64 k] w fun e w' => e = .returned (.bool true) ∧ Below w.heap.size w w' := by
  have hb1 := bone w (.cells #[.int .u64 S, .int .i64 k] 26)
  have hs1 := Blk.new w 26 #[.int .u64 S, .int .i64 k]
  obtain ⟨g3, hg3⟩ : ∃ g, w.heap.size = g := ⟨_, rfl⟩
  obtain ⟨w1, hw1⟩ : ∃ w1, w.alloc (.cells #[.int .u64 S, .int .i64 k] 26) = w1 := ⟨_, rfl⟩
  have hw1' := hw1
  rw [hw1] at hb1 hs1
  rw [hg3] at hs1
  have hln := nums_len hr
  have hl32 : n ≤ 32 := by have := vals_len_le S k; omega
  have HLN := Lib.hid hln
  have hsz := size_any S k w1
  have hle := fun w2 => len_any S k w2 hS hk
  rw [hln] at hle
  have HS : Hid (∀ w', Below w1.heap.size w1 w' → w'.cell? ⟨g3, 0, none⟩ = some (.int .u64 S) ∧ w'.cell? ⟨g3, 1, none⟩ = some (.int .i64 k)) := fun w' hb => (hs1.under hb).two
  have HR : Hid (∀ w', Below w1.heap.size w1 w' → Reads w' w'.heap.size 1 A n (nums (vals S k))) := fun w' hb => hr.lift (bto hb1 hb)
  have HT : Hid (∀ w', Below w1.heap.size w1 w' → Tab w' ∧ 0 < w'.heap.size) := fun w' hb => ⟨ht.below h0w (bto hb1 hb), Nat.lt_of_lt_of_le h0w (bto hb1 hb).size⟩
  have HB1 := Lib.hid hb1
  have HSL := Lib.hid hS
  have HC : Hid (∀ w' gs, Below w1.heap.size w1 w' → Blk w' gs 26 #[.int .u64 S, .int .i64 k] → Calls Tryd.prog 34 #[.func (.func 32) #[] #[.pointer (some ⟨gs, 0, none⟩)]] w' fun e w'' => ∃ A c, e = .returned (.slice A n c) ∧ w''.ownsRow w'.heap.size 3 1 (.slice A n c) n (nums (vals S k)) ∧ Below w'.heap.size w' w'') := fun w' gs hb hgs => by
    have := collect_any gs S k hS hk w' (HT.out w' hb).1 hgs
    rwa [hln] at this
  have HEQ : Hid (∀ w' A' c', Below w1.heap.size w1 w' → Reads w' w'.heap.size 1 A' n (nums (vals S k)) → Calls Tryd.prog 16 #[.slice A' n c', .slice A n c] w' fun e w'' => e = .returned (.bool true) ∧ Below w'.heap.size w' w'') := fun w' A' c' hb hr' => by
    have := equal_any A' A n n c' c _ _ w' (by omega) (by omega) hr' (HR.out w' hb)
    rwa [show eqB (vals S k) (vals S k) = true by simp [eqB]] at this
  have HHAS : Hid (∀ w' (v : Int), Below w1.heap.size w1 w' → ∃ b, Calls Tryd.prog 12 #[SetV S k, .int .i64 v] w' (fun e w'' => e = .returned (.bool b) ∧ Below w'.heap.size w' w'') ∧ ∀ w3, Below w1.heap.size w1 w3 → Calls Tryd.prog 27 #[.slice A n c, .int .i64 v] w3 (fun e w'' => e = .returned (.bool b) ∧ w3 = w'')) := fun w' v hb => by
    by_cases hv : 0 ≤ v ∧ v < (k : Int)
    · obtain ⟨i, rfl⟩ : ∃ i : Nat, v = i := ⟨v.toNat, by omega⟩
      refine ⟨S.testBit i, has_in S k i w' hS (by omega) hk, fun w3 h3 => ?_⟩
      have := ref_has A n c (vals S k) i w3 (by omega) (HR.out w3 h3)
      rwa [vals_has i (by omega)] at this
    · refine ⟨false, has_out S k v w' (by omega) hk, fun w3 h3 => ?_⟩
      have := ref_has A n c (vals S k) v w3 (by omega) (HR.out w3 h3)
      rwa [vals_out (by omega)] at this
  obtain ⟨c0, c1⟩ := HS.out w1 (Below.refl _ _)
  clear ht hr hs1 hb1 hln hS hw1'
  go_enter Tryd.func23, Tryd.ntmps23
  go_wp2_with fail
  refine hsz.mono ?_
  rintro e w2 ⟨rfl, hb2⟩
  obtain ⟨c2, c3⟩ := HS.out w2 hb2
  have hle2 := hle w2
  clear hsz hle c0 c1 hw1
  go_wp2_with fail
  refine hle2.mono ?_
  rintro e w3 ⟨rfl, hb3⟩
  have hB3 := bto hb2 hb3
  obtain ⟨c4, c5⟩ := HS.out w3 hB3
  have hva := values_any S k w3
  clear hle2 c2 c3 hb2 hb3
  go_wp2_with fail
  refine hva.mono ?_
  rintro e w4 ⟨rfl, rfl⟩
  have hcol := HC.out (w3.alloc (.cells #[.int .u64 S, .int .i64 k] 26)) w3.heap.size (bto hB3 (bone _ _)) (Blk.new _ _ _)
  clear hva c4 c5
  go_wp2_with fail
  refine hcol.mono ?_
  rintro e w5 ⟨A5, e5, rfl, ho5, hb5⟩
  have hB5 := bto (bto hB3 (bone _ _)) hb5
  have heq := HEQ.out w5 A5 e5 hB5 (Reads.of_own ho5)
  clear hcol ho5 hb5 hB3
  go_wp2_with fail
  refine heq.mono ?_
  rintro e w6 ⟨rfl, hb6⟩
  have hB6 := bto hB5 hb6
  clear heq hb6 hB5
  obtain ⟨r, hnx⟩ := nx_ex S k (-1)
  have HNX := Lib.hid hnx
  rcases ends_vals HSL.out hk hnx with ⟨he, rfl, hbl⟩ | ⟨m, l, hm, hm0, hml, hbl, hl'⟩
  · have HBL := Lib.hid hbl
    obtain rfl : n = 0 := by have := HLN.out; rw [he] at this; exact this.symm
    clear hnx he hbl
    go_wp2_with fail
    go_loopw [9] (fun iv wr => ∃ i : Int, iv = .int .i64 i ∧ -1 ≤ i ∧ i ≤ (k : Int) + 1 ∧ Below w1.heap.size w1 wr) (fun iv _ => (k + 1 - intOf iv).toNat)
    case atStart => exact ⟨-1, rfl, by omega, by omega, hB6⟩
    case round =>
      clear hB6
      obtain ⟨i, rfl, hi, hj, hB⟩ := hrel
      obtain ⟨d0, d1⟩ := HS.out wr hB
      have kI : (0 : Int) ≤ (k : Int) := Int.natCast_nonneg _
      by_cases hlast : i = (k : Int) + 1
      · subst hlast
        obtain ⟨t0, t1⟩ := HT.out wr hB
        have hfi := first_any S k wr t0 t1 hk HSL.out
        go_wp2_with fail
        refine hfi.mono ?_
        rintro e w7 ⟨r', rfl, hr', hb7⟩
        obtain rfl := hr'.uniq HNX.out
        have hB7 := bto hB hb7
        obtain ⟨d2, d3⟩ := HS.out w7 hB7
        have hla := last_any S k w7 HSL.out hk
        rw [HBL.out] at hla
        clear hfi hr'
        go_wp2_with fail
        refine hla.mono ?_
        rintro e w8 ⟨rfl, hb8⟩
        clear hla
        go_wp2_with fail
        go_ret
        exact ⟨rfl, bto HB1.out (bto hB7 hb8)⟩
      · have hle : decide (i ≤ (k : Int)) = true := decide_eq_true (by omega)
        obtain ⟨b, hh, hh2⟩ := HHAS.out wr i hB
        go_wp2_with fail
        refine hh.mono ?_
        rintro e w7 ⟨rfl, hb7⟩
        have hB7 := bto hB hb7
        have hh3 := hh2 w7 hB7
        clear hh hh2
        go_wp2_with fail
        refine hh3.mono ?_
        rintro e w8 ⟨rfl, rfl⟩
        clear hh3
        go_wp2_with fail
        go_roundw
        case rel => exact ⟨i + 1, by go_num, by omega, by omega, hB7⟩
        case measure => first | (simp [intOf]; done) | (simp [intOf]; omega)
  · have HBL := Lib.hid hbl
    have hn := HLN.out
    rw [hm] at hn
    obtain ⟨ad, x, rfl, _, hx, e0⟩ := (HR.out w6 hB6).num (k := 0) (by omega)
    rw [hm0] at hx
    injection hx with hx
    subst hx
    obtain ⟨ad', x, e1, _, hx, e2⟩ := (HR.out w6 hB6).num (k := m) (by omega)
    injection e1 with e1
    subst e1
    rw [hml] at hx
    injection hx with hx
    subst hx
    have nm : (n : Int) - 1 = (m : Int) := by omega
    have n0 : (0 : Int) < (n : Int) := by omega
    have n0B : decide (0 < n) = true := decide_eq_true (by omega)
    have m0 : (0 : Int) ≤ (m : Int) := Int.natCast_nonneg _
    have mn : (m : Int) < (n : Int) := by omega
    have lI : ((l + 1 : Nat) : Int) - 1 = (l : Int) := by omega
    have e00 : w6.cell? ad = some (.int .i64 r) := by rw [← e0]; rfl
    clear hnx hm hm0 hml hbl hn
    go_wp2_with fail
    go_quiet (fail)
    go_wp2_with fail
    go_loopw [9] (fun iv wr => ∃ i : Int, iv = .int .i64 i ∧ -1 ≤ i ∧ i ≤ (k : Int) + 1 ∧ Below w1.heap.size w1 wr) (fun iv _ => (k + 1 - intOf iv).toNat)
    case atStart => exact ⟨-1, rfl, by omega, by omega, below_drewN hB6 _⟩
    case round =>
      clear hB6 e0 e2 e00 nm n0 m0 mn
      obtain ⟨i, rfl, hi, hj, hB⟩ := hrel
      obtain ⟨d0, d1⟩ := HS.out wr hB
      have kI : (0 : Int) ≤ (k : Int) := Int.natCast_nonneg _
      by_cases hlast : i = (k : Int) + 1
      · subst hlast
        obtain ⟨t0, t1⟩ := HT.out wr hB
        have hfi := first_any S k wr t0 t1 hk HSL.out
        go_wp2_with fail
        refine hfi.mono ?_
        rintro e w7 ⟨r', rfl, hr', hb7⟩
        obtain rfl := hr'.uniq HNX.out
        have hB7 := bto hB hb7
        obtain ⟨d2, d3⟩ := HS.out w7 hB7
        have hla := last_any S k w7 HSL.out hk
        rw [HBL.out] at hla
        clear hfi hr'
        go_wp2_with fail
        refine hla.mono ?_
        rintro e w8 ⟨rfl, hb8⟩
        clear hla
        go_wp2_with fail
        go_ret
        exact ⟨rfl, bto HB1.out (bto hB7 hb8)⟩
      · have hle : decide (i ≤ (k : Int)) = true := decide_eq_true (by omega)
        obtain ⟨b, hh, hh2⟩ := HHAS.out wr i hB
        go_wp2_with fail
        refine hh.mono ?_
        rintro e w7 ⟨rfl, hb7⟩
        have hB7 := bto hB hb7
        have hh3 := hh2 w7 hB7
        clear hh hh2
        go_wp2_with fail
        refine hh3.mono ?_
        rintro e w8 ⟨rfl, rfl⟩
        clear hh3
        go_wp2_with fail
        go_roundw
        case rel => exact ⟨i + 1, by go_num, by omega, by omega, hB7⟩
        case measure => first | (simp [intOf]; done) | (simp [intOf]; omega)
end Go.Proofs.YtcmglgkopgfheaaDoor.bit
