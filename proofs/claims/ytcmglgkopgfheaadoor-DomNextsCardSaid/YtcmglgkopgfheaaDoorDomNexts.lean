/- For every input DomNexts returns true. No condition; the table of math/bits is tied to the program's text. -/
import Derived.Test.YtcmglgkopgfheaaDoorCards
import Derived.Test.YtcmglgkopgfheaaDoorTie
import Derived.Deep.DeepHandedRow
import Derived.Lib.LaidTab
import Derived.WalkKit
import Derived.ProofKit
import Derived.OpenShut
import Derived.ShutString
import Derived.ChangeOld
import Derived.Below
import Derived.Test.YtcmglgkopgfheaaDoorOpen
import Derived.Test.YtcmglgkopgfheaaDoorAwake
import Derived.Test.YtcmglgkopgfheaaDoorIntEq
import Derived.Deep.RegionHeld3
import Derived.Deep.DeepCutAuto
namespace Go.Proofs.YtcmglgkopgfheaaDoor.domNexts
open Go.Proofs.YtcmglgkopgfheaaDoor.bit Go.Proofs.YtcmglgkopgfheaaDoor.words
open Go.ChangeShapes Go.WideShapes Go.ChangeAt Go.RowKit
open Go.ChangeMaps (open_string shut_string)
set_option linter.unusedVariables false
theorem own : ownKnob Tryd.prog.godebug = none := by kernel_rfl
theorem laidOut : laidOutB Tryd.prog = true := by kernel_rfl
theorem vals_gap {S a : Nat} : ∀ {b : Nat}, a ≤ b → (∀ i, a ≤ i → i < b → S.testBit i = false) → vals S b = vals S a
  | 0, h, _ => by rw [show a = 0 by omega]
  | b + 1, h, hz => by
    by_cases e : a = b + 1
    · rw [e]
    · rw [vals_succ, hz b (by omega) (by omega), vals_gap (by omega) fun i h1 h2 => hz i h1 (by omega)]; simp
/-- the values that have come, and the next one -/
def Come (S k : Nat) (G : List Int) (r : Int) : Prop := (r = -1 ∧ G = vals S k) ∨ (∃ j : Nat, r = j ∧ j < k ∧ S.testBit j = true ∧ G = vals S j)
theorem come_next {S k : Nat} {v r : Int} {p : Nat} (hp : v + 1 = p) (hpk : p ≤ k) (h : Nx S k v r) : Come S k (vals S p) r := by
  rcases h with ⟨rfl, hz⟩ | ⟨j, hj, rfl, hvj, hb, hz⟩
  · exact .inl ⟨rfl, (vals_gap hpk fun i h1 h2 => hz i h2 (by omega)).symm⟩
  · exact .inr ⟨j, rfl, hj, hb, (vals_gap (by omega) fun i h1 h2 => hz i (by omega) h2).symm⟩
theorem put_drop {S k q : Nat} (hS : S < 2 ^ k) (hk : k ≤ 32) (hq : q < k) (hb : S.testBit q = true) : putB (dropB S q) q = S :=
  eq_of_bits (put_lt (drop_lt _ hS) hq) hS fun i hi => by
    rw [put_bit, drop_bit hS hk hq]
    by_cases e : q = i
    · subst e; simp [hb]
    · simp [e]
theorem drop_put {S k q : Nat} (hS : S < 2 ^ k) (hk : k ≤ 32) (hq : q < k) (hb : S.testBit q = false) : dropB (putB S q) q = S :=
  eq_of_bits (drop_lt _ (put_lt hS hq)) hS fun i hi => by
    rw [drop_bit (put_lt hS hq) hk hq, put_bit]
    by_cases e : q = i
    · subst e; simp [hb]
    · simp [e]
theorem drop_same {S k q : Nat} (hS : S < 2 ^ k) (hk : k ≤ 32) (hq : q < k) (hb : S.testBit q = false) : dropB S q = S :=
  eq_of_bits (drop_lt _ hS) hS fun i hi => by
    rw [drop_bit hS hk hq]
    by_cases e : q = i
    · subst e; simp [hb]
    · simp [e]
theorem len_drop {S k q : Nat} (hS : S < 2 ^ k) (hk : k ≤ 32) (hq : q < k) (hb : S.testBit q = true) : (vals S k).length = (vals (dropB S q) k).length + 1 := by
  have h : ∀ n, n ≤ k → (vals S n).length = (vals (dropB S q) n).length + (if q < n then 1 else 0) := by
    intro n
    induction n with
    | zero => intro _; simp [vals]
    | succ n ih =>
      intro hn
      rw [vals_succ, vals_succ, List.length_append, List.length_append, ih (by omega), drop_bit hS hk hq]
      by_cases e : q = n
      · subst e; simp [hb]
      · rw [decide_eq_false e, Bool.not_false, Bool.and_true]
        have e2 : (q < n + 1) ↔ (q < n) := by omega
        simp only [e2]
        generalize (if S.testBit n = true then [(n : Int)] else []).length = z
        generalize (if q < n then 1 else 0) = y
        omega
  have := h k (Nat.le_refl _)
  rw [if_pos hq] at this; exact this
theorem vals_zero (n : Nat) : vals 0 n = [] := by unfold vals; simp
set_option maxRecDepth 100000 in
set_option maxHeartbeats 8000000 in
theorem core (a b c : Nat) (w : World) (ha : a < 256) (hb : b < 4294967296) (hc : c < 256) (ht : Tab w) (h0w : 0 < w.heap.size) :
    Calls Tryd.prog 4 #[.int .u8 a, .int .u32 b, .int .u8 c] w fun e w' => e = .returned (.bool true) ∧ Below w.heap.size w w' := by
  obtain ⟨i0, hi0, hz0, hz1, hz2⟩ := info_parts infoI
  have hk1 : 1 ≤ 1 + a % 32 := by omega
  have hk2 : 1 + a % 32 ≤ 32 := by omega
  have hm1 := fun w => made_any a b w ha hb
  obtain ⟨k, hk⟩ : ∃ k, 1 + a % 32 = k := ⟨_, rfl⟩
  rw [hk] at hm1 hk1 hk2
  clear hk
  obtain ⟨q, hq⟩ : ∃ q, c % k = q := ⟨_, rfl⟩
  have hqk : q < k := by rw [← hq]; exact Nat.mod_lt _ (by omega)
  have hqI : (c : Int) % (k : Int) = (q : Int) := by rw [← hq]; rfl
  clear hq
  go_enter Tryd.func4, Tryd.ntmps4
  go_wp2_with fail
  refine (awake_any w ht h0w).mono ?_
  rintro e w1 ⟨rfl, hb1⟩
  go_wp2_with fail
  refine (hm1 _).mono ?_
  rintro e w2 ⟨S, A2, n2, c2, rfl, hP, hl2, hb2⟩
  have hS0 := hP.lt
  have hB2 := bnew (bto hb1 hb2) (.cells #[.int .u64 S, .int .i64 k] 26)
  have hS2 := Blk.new w2 26 #[.int .u64 S, .int .i64 k]
  have hr2 := (Reads.of_own hl2).lift (bone w2 (.cells #[.int .u64 S, .int .i64 k] 26))
  have hnb : n2 ≤ 32 := by have := nums_own_len hl2; have := vals_len_le S k; omega
  clear hm1 hP hl2
  have htb := ht.below h0w hB2
  go_wp2_with fail
  refine (first_any S k _ htb (by simp) hk2 hS0).mono ?_
  obtain ⟨wb, hwb⟩ : ∃ wb, w2.alloc (.cells #[.int .u64 S, .int .i64 k] 26) = wb := ⟨_, rfl⟩
  obtain ⟨gs, hgs⟩ : ∃ g, w2.heap.size = g := ⟨_, rfl⟩
  rw [hwb] at hB2 hS2 hr2 ⊢
  rw [hgs] at hS2 ⊢
  clear hwb hgs hb1 hb2 htb
  rintro e w3 ⟨r0, rfl, hr0, hb3⟩
  have hC0 := come_next (p := 0) (by omega) (by omega) hr0
  have h0b : 0 < wb.heap.size := Nat.lt_of_le_of_lt (Nat.zero_le _) hS2.lt
  clear hr0
  go_wp2_with fail
  go_loopw [10, 11] (fun gv xv wr => ∃ (A : Option Addr) (n c : Nat) (G : List Int) (r : Int), gv = .slice A n c ∧ xv = .int .i64 r ∧ wr.ownsRow wb.heap.size 3 1 (.slice A n c) n (nums G) ∧ Come S k G r ∧ Below wb.heap.size wb wr)
    (fun _ xv _ => if intOf xv < 0 then 0 else k - (intOf xv).toNat)
  case atStart => exact ⟨none, 0, 0, [], r0, rfl, rfl, World.ownsRow_nil _ _ _ _, hC0, hb3⟩
  case round =>
    clear hC0 hb3
    obtain ⟨A, n, c, G, r, rfl, rfl, ho, hC, hB⟩ := hrel
    have hSr := hS2.under hB
    by_cases hr0 : 0 ≤ r
    · obtain ⟨j, rfl, hjk, hbit, hG⟩ : ∃ j : Nat, r = j ∧ j < k ∧ S.testBit j = true ∧ G = vals S j := by
        rcases hC with ⟨h, _⟩ | h
        · omega
        · exact h
      have hn32 : n ≤ 32 := by have h1 := nums_own_len ho; have := vals_len_le S j; rw [hG] at h1; omega
      have hv := vals_succ S j
      rw [hbit, if_pos rfl, ← hG] at hv
      have HV := Lib.hid hv
      have ho1 := ho.alloc (.cells #[.int .i64 j] 3)
      have hr1 : Reads (wr.alloc (.cells #[.int .i64 j] 3)) (wr.alloc (.cells #[.int .i64 j] 3)).heap.size 1 (some ⟨wr.heap.size, 0, none⟩) 1 (nums [(j : Int)]) := reads_block (t := 3) (heap_alloc_new _ _) rfl
      have hlt0 := hB.size
      clear hC hG hbit hv
      go_wp2_with (first
        | (at_builtin; refine wpList_append_any _ rfl (.tmp 30) (.tmp 32) _ rfl wb.heap.size 3 i0 _ 1 8 Tryd.underlying27 hi0 hz0 hz1 hz2 rfl (by omega) _ n _ rfl ho1 (wr.alloc (.cells #[.int .i64 j] 3)).heap.size (some ⟨wr.heap.size, 0, none⟩) 1 1 (nums [(j : Int)]) rfl hr1 nums_one (by simp only [maxLen]; omega) (by omega) (by simp; omega) ?_; intro v1 w4 hown hg1 hat; clear hat; obtain ⟨A4, c4, rfl⟩ := own_shape hown; have hg2 : (wr.alloc (.cells #[.int .i64 j] 3)).grownBy w4 (Value.slice A n c).ownBlock := hg1; have hB4 : Below wb.heap.size wb w4 := (hB.alloc hB.size _).grown hg2 (by simp; omega) (fun q hq => (own_in ho hq).1); have hS4 := hS2.under hB4; obtain ⟨c0, c1⟩ := hS4.two)
        | fail)
      refine (next_any S k j _ ((ht.below h0w hB2).below h0b hB4) (Nat.lt_of_lt_of_le h0b hB4.size) hk2 hS0).mono ?_
      rintro e w5 ⟨r', rfl, hr', hb5⟩
      have HC := Lib.hid (come_next (p := j + 1) (by omega) (by omega) hr')
      go_wp2_with fail
      go_roundw
      case rel =>
        refine ⟨A4, n + 1, c4, G ++ [(j : Int)], r', rfl, rfl, ?_, ?_, bto hB4 hb5⟩
        · have h := own_under hown hb5
          unfold nums at h ⊢
          rw [List.map_append]; exact h
        · rw [← HV.out]; exact HC.out
      case measure =>
        simp only [intOf]
        rcases hr' with ⟨rfl, _⟩ | ⟨i, hi, rfl, hji, _⟩
        · have h1 : ¬ ((j : Int) < 0) := by omega
          simp [h1]; omega
        · have h1 : ¬ ((j : Int) < 0) := by omega
          have h2 : ¬ ((i : Int) < 0) := by omega
          simp [h1, h2]; omega
    · obtain rfl : G = vals S k := by
        rcases hC with ⟨_, h⟩ | ⟨j, rfl, _⟩
        · exact h
        · omega
      have hn32 : n ≤ 32 := by have h1 := nums_own_len ho; have := vals_len_le S k; omega
      obtain ⟨c0, c1⟩ := hSr.two
      have hrg := Reads.of_own ho
      have hrl := hr2.lift hB
      have hBr := bto hB2 hB
      have hdr := fun w => drop_in S k q w hS0 hqk hk2
      have hha := fun w => has_in S k q w hS0 hqk hk2
      obtain ⟨D, hD⟩ : ∃ D, dropB S q = D := ⟨_, rfl⟩
      have hDl : D < 2 ^ k := by rw [← hD]; exact drop_lt _ hS0
      rw [hD] at hdr
      clear hC ho hr2 hB2 ht
      go_wp2_with fail
      refine (hdr _).mono ?_
      rintro e w5 ⟨rfl, hb5⟩
      have hSa := (hSr.under hb5).alloc (.cells #[.int .u64 D, .int .i64 k] 26)
      have hDa := Blk.new w5 26 #[.int .u64 D, .int .i64 k]
      have hb6 := bnew hb5 (.cells #[.int .u64 D, .int .i64 k] 26)
      have hrg6 := hrg.lift hb6
      have hrl6 := hrl.lift hb6
      have hBa := bto hBr hb6
      obtain ⟨d0, d1⟩ := hSa.two
      clear hSr c0 c1 hrg hrl hBr hb5 hB hdr hS2
      go_wp2_with fail
      refine (hha _).mono ?_
      obtain ⟨wa', hwa⟩ : ∃ wa, w5.alloc (.cells #[.int .u64 D, .int .i64 k] 26) = wa := ⟨_, rfl⟩
      obtain ⟨gd, hgd⟩ : ∃ g, w5.heap.size = g := ⟨_, rfl⟩
      rw [hwa] at hSa hDa hb6 hrg6 hrl6 hBa d0 d1 ⊢
      rw [hgd] at hDa ⊢
      clear hwa hgd d0 d1
      rintro e wa ⟨rfl, hb7⟩
      have hSb := hSa.under hb7
      have hDb := hDa.under hb7
      have hrg7 := hrg6.lift hb7
      have hrl7 := hrl6.lift hb7
      have hBb := bto hBa hb7
      clear hSa hDa hrg6 hrl6 hBa hb7 hb6 hha
      have base : Hid (∀ w', Below wa.heap.size wa w' → (w'.cell? ⟨gs, 0, none⟩ = some (.int .u64 S) ∧ w'.cell? ⟨gs, 1, none⟩ = some (.int .i64 k) ∧ w'.cell? ⟨gd, 0, none⟩ = some (.int .u64 D) ∧ w'.cell? ⟨gd, 1, none⟩ = some (.int .i64 k) ∧ Below wa.heap.size wa w')) := fun w' hb => ⟨(hSb.under hb).cell 0, (hSb.under hb).cell 1, (hDb.under hb).cell 0, (hDb.under hb).cell 1, hb⟩
      have kb : Hid (∀ w', (w'.cell? ⟨gs, 0, none⟩ = some (.int .u64 S) ∧ w'.cell? ⟨gs, 1, none⟩ = some (.int .i64 k) ∧ w'.cell? ⟨gd, 0, none⟩ = some (.int .u64 D) ∧ w'.cell? ⟨gd, 1, none⟩ = some (.int .i64 k) ∧ Below wa.heap.size wa w') → Below wa.heap.size wa w') := fun w' h => h.2.2.2.2
      have hEq : Hid (∀ w', Below wa.heap.size wa w' → Calls Tryd.prog 16 #[.slice A n c, .slice A2 n2 c2] w' fun e w'' => e = .returned (.bool true) ∧ Below w'.heap.size w' w'') := fun w' hb => by
        have := equal_any A A2 n n2 c c2 _ _ w' (by omega) (by omega) (hrg7.lift hb) (hrl7.lift hb)
        rwa [show eqB (vals S k) (vals S k) = true from decide_eq_true rfl] at this
      have hwa0 := hBb
      clear hSb hDb hrg7 hrl7
      have hlS := fun w => len_any S k w hS0 hk2
      have hlD := fun w => len_any D k w hDl hk2
      cases hbit : S.testBit q with
      | true =>
        have hpu := fun w => put_in D k q w hDl hqk hk2
        have e1 := put_drop hS0 hk2 hqk hbit
        have e2 := len_drop hS0 hk2 hqk hbit
        rw [hD] at e1 e2
        rw [e1] at hpu
        obtain ⟨lD, hlDe⟩ : ∃ l, (vals D k).length = l := ⟨_, rfl⟩
        rw [hlDe] at hlD e2
        rw [e2] at hlS
        have hll : lD ≤ 32 := by have := vals_len_le D k; omega
        have hwr : IntKind.i64.wrap (((lD + 1 : Nat) : Int) - 1) = (lD : Int) := by rw [IntKind.wrap_i64]; omega
        have hw2 : Hid (IntKind.i64.wrap (lD : Int) = (lD : Int)) := by rw [Hid, IntKind.wrap_i64]; omega
        clear hbit e1 e2 hlDe hD
        go_upto_region 12 with (fail)
        go_region_held3 (fun w' => w'.cell? ⟨gs, 0, none⟩ = some (.int .u64 S) ∧ w'.cell? ⟨gs, 1, none⟩ = some (.int .i64 k) ∧ w'.cell? ⟨gd, 0, none⟩ = some (.int .u64 D) ∧ w'.cell? ⟨gd, 1, none⟩ = some (.int .i64 k) ∧ Below wa.heap.size wa w')
          (first | assumption | exact base.out _ (Below.refl _ _) | exact base.out _ (Below.refl _ _).drew | (refine base.out _ (bto (kb.out _ ?_) hbx); assumption) | exact base.out _ (bto (Below.refl _ _) hbx) | exact base.out _ (bto (Below.refl _ _).drew hbx))
          (first
            | (go_at_call 16; (with_reducible refine (hEq.out _ ?_).mono ?_); (first | exact Below.refl _ _ | exact (Below.refl _ _).drew | (refine kb.out _ ?_; assumption)); rintro e wx ⟨rfl, hbx⟩)
            | (go_at_call 17; (with_reducible refine (hpu _).mono ?_); rintro e wx ⟨rfl, hbx⟩)
            | (go_at_call 11; (with_reducible refine (hlS _).mono ?_); rintro e wx ⟨rfl, hbx⟩)
            | (go_at_call 11; (with_reducible refine (hlD _).mono ?_); rintro e wx ⟨rfl, hbx⟩))
        have hfin := kb.out _ (by assumption)
        go_wp2
        go_ret
        exact ⟨ret_bool (by rw [hw2.out]; simp), bto hwa0 hfin⟩
      | false =>
        have e1 := drop_same hS0 hk2 hqk hbit
        have e2 := drop_put hS0 hk2 hqk hbit
        rw [hD] at e1
        subst e1
        have hpu := fun w => put_in D k q w hDl hqk hk2
        have hpl := put_lt (v := q) hDl hqk
        have hdp := fun w => drop_in (putB D q) k q w hpl hqk hk2
        rw [e2] at hdp
        have hon := fun w => only_no D k q w hDl hk2 (.inr ⟨q, rfl, hqk, hbit⟩)
        have hl0 := fun w => len_any 0 k w (Nat.pow_pos (by decide)) hk2
        rw [vals_zero] at hl0
        obtain ⟨Pq, hPq⟩ : ∃ P, putB D q = P := ⟨_, rfl⟩
        rw [hPq] at hpu hdp
        clear hbit e2 hD hPq hlS hlD
        go_upto_region 13 with (fail)
        go_region_held3 (fun w' => w'.cell? ⟨gs, 0, none⟩ = some (.int .u64 D) ∧ w'.cell? ⟨gs, 1, none⟩ = some (.int .i64 k) ∧ w'.cell? ⟨gd, 0, none⟩ = some (.int .u64 D) ∧ w'.cell? ⟨gd, 1, none⟩ = some (.int .i64 k) ∧ Below wa.heap.size wa w')
          (first | assumption | exact base.out _ (Below.refl _ _) | exact base.out _ (Below.refl _ _).drew | (refine base.out _ (bto (kb.out _ ?_) hbx); assumption) | exact base.out _ (bto (Below.refl _ _) hbx) | exact base.out _ (bto (Below.refl _ _).drew hbx))
          (first
            | (go_at_call 16; (with_reducible refine (hEq.out _ ?_).mono ?_); (first | exact Below.refl _ _ | exact (Below.refl _ _).drew | (refine kb.out _ ?_; assumption)); rintro e wx ⟨rfl, hbx⟩)
            | (go_at_call 17; (with_reducible refine (hpu _).mono ?_); rintro e wx ⟨rfl, hbx⟩)
            | (go_at_call 15; (with_reducible refine (hdp _).mono ?_); rintro e wx ⟨rfl, hbx⟩)
            | (go_at_call 18; (with_reducible refine (hon _).mono ?_); rintro e wx ⟨rfl, hbx⟩)
            | (go_at_call 11; (with_reducible refine (hl0 _).mono ?_); rintro e wx ⟨rfl, hbx⟩))
        have hfin := kb.out _ (by assumption)
        go_wp2
        go_ret
        exact ⟨rfl, bto hwa0 hfin⟩
theorem gTab : Tryd.prog.globalNamed "math/bits.deBruijn64tab" = some 0 := by kernel_rfl
theorem gTabType : (Tryd.prog.globals[0]?).map (·.type) = some 56 := by kernel_rfl
theorem cellsA : Tryd.prog.cellsOf 56 = tab.length := by kernel_rfl
theorem cellsE : Tryd.prog.cellsOf 5 = 1 := by kernel_rfl
theorem table {W : World} (h : laidMetH Tryd.prog Rows.domNextsRow.laid W) : Lib.TabIs Tryd.prog W "math/bits.deBruijn64tab" .u8 tab :=
  Lib.tabIs_of_head (rest := []) gTab gTabType Tryd.underlying56 Tryd.underlying5 cellsE cellsA h
theorem walk (a0 : Int) (a1 : Int) (a2 : Int) (w : World) (w0 : (Lit.int .u8 a0).wf = true) (w1 : (Lit.int .u32 a1).wf = true) (w2 : (Lit.int .u8 a2).wf = true) (ht : Tab w) (h0w : 0 < w.heap.size) :
    Calls Tryd.prog 4 #[.int .u8 a0, .int .u32 a1, .int .u8 a2] w fun e w' => e = .returned (.bool true) ∧ Below w.heap.size w w' := by
  obtain ⟨x0, e0, r0⟩ := wf_u8 w0
  obtain ⟨x1, e1, r1⟩ := wf_u32 w1
  obtain ⟨x2, e2, r2⟩ := wf_u8 w2
  subst e0 e1 e2
  exact core x0 x1 x2 w r0 r1 r2 ht h0w

theorem contract (H : Type) (enc : TypeId × Value → H) (W : World) (base : Nat) (args : Array Value) (ds gs : List (DataW H)) (before : List MemPlace)
    (hval0 : ∀ (j : Nat) t v, Tryd.f4.params[j]? = some t → args[j]? = some v → Value.okWide Tryd.prog W .any base t v)
    (hW : DataW.Whole enc Tryd.prog Tryd.f4.params.toList Rows.domNextsSpec.vars false W args.toList ds gs before) (hL : laidMetH Tryd.prog Rows.domNextsRow.laid W) :
    Calls Tryd.prog 4 args W fun e W' => ∃ v, e = .returned v ∧ Rows.domNextsSpec.post enc Tryd.prog Tryd.f4 false true false false W args v W' := by
  have hval : ∀ (j : Nat) t v, Tryd.f4.params[j]? = some t → args[j]? = some v → Value.okWide Tryd.prog W .any base t v := hval0
  have hW' := hW
  obtain ⟨p, q, hA0, hV, rfl, hfz, hnd⟩ := hW
  have hA : DataW.TrodAll enc Tryd.prog W 0 (fun _ => true) true Tryd.f4.params.toList args.toList ds p := hA0
  rw [Tryd.params4] at hA hval
  obtain ⟨v0, vs0, d0, ds0, p0, q0, hargs, rfl, rfl, h0, r0⟩ := trodAll_cons hA
  obtain ⟨v1, vs1, d1, ds1, p1, q1, rfl, rfl, rfl, h1, r1⟩ := trodAll_cons r0
  obtain ⟨v2, vs2, d2, ds2, p2, q2, rfl, rfl, rfl, h2, r2⟩ := trodAll_cons r1
  obtain ⟨rfl, rfl, rfl⟩ := trodAll_nil r2
  obtain rfl : args = #[v0, v1, v2] := by cases args; simp_all
  obtain ⟨rfl, rfl⟩ := trodVars_none hV
  obtain ⟨a0, rfl, rfl, rfl, w0⟩ := open_int Tryd.underlying5 (hval 0 5 v0 rfl rfl) h0
  obtain ⟨a1, rfl, rfl, rfl, w1⟩ := open_int Tryd.underlying22 (hval 1 22 v1 rfl rfl) h1
  obtain ⟨a2, rfl, rfl, rfl, w2⟩ := open_int Tryd.underlying5 (hval 2 5 v2 rfl rfl) h2
  clear hA0 hval0
  simp only [List.append_nil] at hW'
  have htab : Tab W := fun i hi => (table hL).cell gTab i (by simpa [tab] using hi)
  have h0w : 0 < W.heap.size := World.block_lt_of_cell? W _ (htab 0 (by decide))
  refine (walk a0 a1 a2 W w0 w1 w2 htab h0w).mono fun e W' ⟨he, bel⟩ => ?_
  subst he
  exact ⟨_, rfl, _, _, _, [], _, [], hW', trodAll_mk1 (shut_bool Tryd.underlying4 _), (trodAll_cons_mk (shut_int Tryd.underlying5 w0) (trodAll_cons_mk (shut_int Tryd.underlying22 w1) (trodAll_cons_mk (shut_int Tryd.underlying5 w2) trodAll_mk0))), rfl, bel.frame _, fun h => by cases h⟩
noncomputable def laidWorld (os : Os) : World :=
  { World.holding Tryd.prog os ⟨#[], #[], []⟩ with heap := (World.holding Tryd.prog os ⟨#[], #[], []⟩).heap.modify 0 fun
      | .cells _ t frozen => .cells #[.int .u8 0, .int .u8 1, .int .u8 56, .int .u8 2, .int .u8 57, .int .u8 49, .int .u8 28, .int .u8 3, .int .u8 61, .int .u8 58, .int .u8 42, .int .u8 50, .int .u8 38, .int .u8 29, .int .u8 17, .int .u8 4, .int .u8 62, .int .u8 47, .int .u8 59, .int .u8 36, .int .u8 45, .int .u8 43, .int .u8 51, .int .u8 22, .int .u8 53, .int .u8 39, .int .u8 33, .int .u8 30, .int .u8 24, .int .u8 18, .int .u8 12, .int .u8 5, .int .u8 63, .int .u8 55, .int .u8 48, .int .u8 27, .int .u8 60, .int .u8 41, .int .u8 37, .int .u8 16, .int .u8 46, .int .u8 35, .int .u8 44, .int .u8 21, .int .u8 52, .int .u8 32, .int .u8 23, .int .u8 11, .int .u8 54, .int .u8 26, .int .u8 40, .int .u8 15, .int .u8 34, .int .u8 20, .int .u8 31, .int .u8 10, .int .u8 25, .int .u8 14, .int .u8 19, .int .u8 9, .int .u8 13, .int .u8 8, .int .u8 7, .int .u8 6] t frozen
      | o => o }
theorem laid_met (os : Os) : laidMet Tryd.prog Rows.domNextsRow.laid ((laidWorld os).forCall (fun _ _ => 0) ⟨#[], #[.int .u8 0, .int .u32 0, .int .u8 0], []⟩).memory :=
  laidMet_of_run' 8 (by kernel_rfl) (by kernel_rfl)
theorem reads (os : Os) {H : Type} (enc : TypeId × Value → H) : ∃ places, DataW.whole enc Tryd.prog ((laidWorld os).forCall (fun _ _ => 0) ⟨#[], #[.int .u8 0, .int .u32 0, .int .u8 0], []⟩).memory Tryd.f4.params.toList Rows.domNextsSpec.vars false (#[.int .u8 0, .int .u32 0, .int .u8 0] : Array Value).toList 8 = some ([.lit (.int .u8 0), .lit (.int .u32 0), .lit (.int .u8 0)], [], places) :=
  ⟨[], by kernel_rfl⟩
set_option maxRecDepth 100000 in
theorem lifted (os : Os) (started : os.Started) (H : Type) (enc : TypeId × Value → H) (F : Stop.Interp) :
    ReturnsInHanded {} Tryd.checked os 4 .any ((OpenSpec.ofChange Rows.domNextsSpec).preRow enc Tryd.prog Tryd.f4 Rows.domNextsRow.domain false Rows.domNextsRow.laid) (((OpenSpec.ofChange Rows.domNextsSpec).at F).post enc Tryd.prog Tryd.f4 false true false false) := by
  obtain ⟨places, hx⟩ := reads os enc
  refine returnsInHanded_of_row (C := Tryd.checked) (s := OpenSpec.ofChange Rows.domNextsSpec) own started (by kernel_rfl) Tryd.func4
    (witness_row_at (enc := enc) (C := Tryd.checked) false (laidWorld os) #[.int .u8 0, .int .u32 0, .int .u8 0] rfl (by kernel_rfl) (by kernel_rfl) (by kernel_rfl)
      (OpenSpec.preRow_of_cond 8 hx (by kernel_rfl) (fun k hk => by cases hk) (by kernel_rfl) (laid_met os))) ?_
  intro W base args ds gs before hval hW _ _ _ hL _ _
  exact contract H enc W base args ds gs before hval hW hL
theorem said : Rows.DomNextsSaid :=
  OpenClaim.holds_of_cond 4 Tryd.f4 rfl rfl rfl rfl rfl rfl rfl ⟨rfl, rfl, rfl, rfl, rfl⟩ rfl rfl rfl rfl rfl (by kernel_rfl) Tryd.func4 (by kernel_rfl)
    (of_decide_eq_true (by kernel_rfl)) (by unfold Func.isWrapper; first | (rw [if_pos (by decide +kernel)]; kernel_rfl) | (rw [if_neg (by decide +kernel)]; exact ⟨rfl, rfl⟩))
    (fun os started H enc _ F => by rw [OpenClaim.pre_eq_preRow]; exact lifted os started H enc F)
theorem plain (f : FuncId) (fn : Func) (hf : Tryd.pinned.checked.prog.funcNamed "pennyweight/pennyweightlaw02.DomNexts" = some f) (hfn : Tryd.pinned.checked.prog.funcs[f]? = some fn) :
    false = Tryd.pinned.checked.prog.looks [] ∧ ∀ (j : Nat) t, fn.params[j]? = some t → Tryd.pinned.checked.prog.wantsStandIn t = false := by
  obtain rfl : f = 4 := Option.some.inj ((show Tryd.prog.funcNamed "pennyweight/pennyweightlaw02.DomNexts" = some 4 by kernel_rfl).symm.trans hf) |>.symm
  obtain rfl : fn = Tryd.f4 := (Option.some.inj (Tryd.func4.symm.trans hfn)).symm
  refine ⟨by kernel_rfl, fun j t ht => ?_⟩
  rw [Tryd.params4] at ht
  have hm := Array.mem_of_getElem? ht
  simp only [Array.mem_def, List.mem_cons, List.not_mem_nil, or_false] at hm
  rcases hm with rfl | rfl | rfl <;> (show Tryd.prog.wantsStandIn _ = false; kernel_rfl)
theorem proved : Rows.DomNextsCardSaid :=
  Claim7.holds_tied_plain_at .later [] _ _ _ _ said (fun _ h => by cases h) (by kernel_rfl) (fun _ h => by cases h) domNexts_row_tie rfl ⟨rfl, rfl⟩ (by kernel_rfl) rfl plain (by kernel_rfl)
end Go.Proofs.YtcmglgkopgfheaaDoor.domNexts
