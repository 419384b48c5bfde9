/- For every input DomPlays returns true. No condition; the table of math/bits is tied to the program's text. -/
import Derived.Test.YtcmglgkopgfheaaDoorCards
import Derived.Test.YtcmglgkopgfheaaDoorTie
import Derived.Deep.DeepHandedRow
import Derived.Lib.LaidTab
import Derived.WalkKit
import Derived.ProofKit
import Derived.OpenShut
import Derived.ShutString
import Derived.ChangeOld
import Derived.Below
import Derived.Test.YtcmglgkopgfheaaDoorOpen
import Derived.Test.YtcmglgkopgfheaaDoorLike
import Derived.Deep.LoopGhost
import Derived.Deep.DeepCutAuto
import Derived.Deep.CutBlock
namespace Go.Proofs.YtcmglgkopgfheaaDoor.domPlays
open Go.Proofs.YtcmglgkopgfheaaDoor.bit Go.Proofs.YtcmglgkopgfheaaDoor.words
open Go.ChangeShapes Go.WideShapes Go.ChangeAt Go.RowKit
open Go.ChangeMaps (open_string shut_string)
set_option linter.unusedVariables false
theorem own : ownKnob Tryd.prog.godebug = none := by kernel_rfl
theorem laidOut : laidOutB Tryd.prog = true := by kernel_rfl
/-- a set in its variable, and a list of numbers that the call made -/
def Plr (w0 : World) (g7 k S : Nat) (L : List Int) (A : Option Addr) (n c : Nat) (w : World) : Prop :=
  S < 2 ^ k ∧ Blk w g7 26 #[.int .u64 S, .int .i64 k] ∧ w.ownsRow w0.heap.size 3 1 (.slice A n c) n (nums L) ∧ w0.heap.size ≤ g7 ∧ Below w0.heap.size w0 w
section
variable {w0 w : World} {g7 k S : Nat} {L : List Int} {A : Option Addr} {n c : Nat}
theorem Plr.bel (h : Plr w0 g7 k S L A n c w) : Below w0.heap.size w0 w := h.2.2.2.2
theorem Plr.below {w' : World} (h : Plr w0 g7 k S L A n c w) (hb : Below w.heap.size w w') : Plr w0 g7 k S L A n c w' := ⟨h.1, h.2.1.under hb, own_under h.2.2.1 hb, h.2.2.2.1, bto h.2.2.2.2 hb⟩
theorem Plr.cells (h : Plr w0 g7 k S L A n c w) : w.cell? ⟨g7, 0, none⟩ = some (.int .u64 S) ∧ w.cell? ⟨g7, 1, none⟩ = some (.int .i64 k) := h.2.1.two
theorem Plr.reads (h : Plr w0 g7 k S L A n c w) : Reads w w.heap.size 1 A n (nums L) := Reads.of_own h.2.2.1
theorem Plr.set_ (h : Plr w0 g7 k S L A n c w) {S' : Nat} (hS : S' < 2 ^ k) : Plr w0 g7 k S' L A n c ((w.setCell ⟨g7, 0, none⟩ (.int .u64 S')).setCell ⟨g7, 1, none⟩ (.int .i64 k)) := by
  have ht : Tch w ((w.setCell ⟨g7, 0, none⟩ (.int .u64 S')).setCell ⟨g7, 1, none⟩ (.int .i64 k)) (fun q => q = g7) := ((Tch.refl w (fun q => q = g7)).put (p := ⟨g7, 0, none⟩) _ rfl).put (p := ⟨g7, 1, none⟩) _ rfl
  refine ⟨hS, (h.2.1.set_ 0 (.int .u64 S')).set_ 1 (.int .i64 k), ht.own h.2.2.1 fun q hq e => own_blk_ne h.2.2.1 h.2.1 (by decide) (by rw [hq, e]), h.2.2.2.1, h.2.2.2.2.trans (ht.below h.2.2.2.2.size fun i hi e => by have := h.2.2.2.1; omega)⟩
theorem Plr.lists (h : Plr w0 g7 k S L A n c w) {L' : List Int} {e : Ending} {w' : World} (hl : Lists L' w e w') : ∃ A' n' c', e = .returned (.slice A' n' c') ∧ Plr w0 g7 k S L' A' n' c' w' := by
  obtain ⟨A', c', rfl, ho, hb⟩ := hl
  exact ⟨A', _, c', rfl, h.1, h.2.1.under hb, own_base ho h.2.2.2.2.size, h.2.2.2.1, bto h.2.2.2.2 hb⟩
theorem Plr.sets (h : Plr w0 g7 k S L A n c w) : w.frozen? ⟨g7, 0, none⟩ = false ∧ w.frozen? ⟨g7, 1, none⟩ = false ∧ ∀ u, (w.setCell ⟨g7, 0, none⟩ u).cell? ⟨g7, 1, none⟩ = some (.int .i64 k) ∧ (w.setCell ⟨g7, 0, none⟩ u).frozen? ⟨g7, 1, none⟩ = false :=
  ⟨h.2.1.frozen 0, h.2.1.frozen 1, fun u => ⟨(h.2.1.set_ 0 u).cell 1, (h.2.1.set_ 0 u).frozen 1⟩⟩
theorem Plr.len (h : Plr w0 g7 k S (vals S k) A n c w) (hk : k ≤ 32) : n ≤ 32 := by
  have h1 := nums_own_len h.2.2.1
  have := vals_len_le S k
  omega
end
set_option maxRecDepth 100000 in
set_option maxHeartbeats 8000000 in
theorem core (A : Option Addr) (n0 cap a b : Nat) (ps : List Int) (w : World) (hn0 : n0 ≤ 9223372036854775807) (ha : a < 256) (hb : b < 4294967296) (hr0 : Reads w w.heap.size 1 A n0 (nums ps)) (ht : Tab w) (h0w : 0 < w.heap.size) :
    Calls Tryd.prog 7 #[.int .u8 a, .int .u32 b, .slice A n0 cap] w fun e w' => e = .returned (.bool true) ∧ Below w.heap.size w w' := by
  have hk1 : 1 ≤ 1 + a % 32 := by omega
  have hk2 : 1 + a % 32 ≤ 32 := by omega
  have hm1 := fun w => made_any a b w ha hb
  obtain ⟨k, hk⟩ : ∃ k, 1 + a % 32 = k := ⟨_, rfl⟩
  rw [hk] at hm1 hk1 hk2
  clear hk
  have HT : Hid (∀ w', Below w.heap.size w w' → Tab w' ∧ 0 < w'.heap.size) := fun w' hb => ⟨ht.below h0w hb, Nat.lt_of_lt_of_le h0w hb.size⟩
  have HR : Hid (∀ w', Below w.heap.size w w' → Reads w' w.heap.size 1 A n0 (nums ps)) := fun w' hb => hr0.below hb
  clear hr0
  go_enter Tryd.func7, Tryd.ntmps7
  go_wp2_with fail
  refine (awake_any w ht h0w).mono ?_
  rintro e w1 ⟨rfl, hb1⟩
  go_wp2_with fail
  refine (hm1 _).mono ?_
  rintro e w2 ⟨S, A2, n2, c2, rfl, hP, hl2, hb2⟩
  have hpl : Plr w w2.heap.size k S (vals S k) A2 n2 c2 (w2.alloc (.cells #[.int .u64 S, .int .i64 k] 26)) := ⟨hP.lt, Blk.new _ _ _, own_under (own_base hl2 hb1.size) (bone _ _), (bto hb1 hb2).size, bnew (bto hb1 hb2) _⟩
  clear hm1 hP hl2 hb1 hb2 ht h0w
  obtain ⟨g7, hg7⟩ : ∃ g, w2.heap.size = g := ⟨_, rfl⟩
  rw [hg7] at hpl
  go_wp2_with fail
  go_loopg [8, 25] n0 (fun gk lv iv wr => ∃ (i S : Nat) (A2 : Option Addr) (n2 c2 : Nat), i ≤ n0 ∧ gk = n0 - i ∧ iv = .int .i64 i ∧ lv = .slice A2 n2 c2 ∧ Plr w g7 k S (vals S k) A2 n2 c2 wr)
  case atStart => exact ⟨0, S, A2, n2, c2, Nat.zero_le _, by omega, rfl, rfl, hpl⟩
  case round =>
    clear hpl hg7
    obtain ⟨i, S, A2, n2, c2, hi, rfl, rfl, rfl, hp⟩ := hrel
    by_cases hlt : i < n0
    · obtain ⟨ad, x, rfl, _, _, hc⟩ := (HR.out wr hp.bel).num hlt
      have HP := Lib.hid hp
      clear hp
      by_cases h40 : i < 40
      · have g8 : decide ((40 : Int) ≤ (i : Int)) = false := decide_eq_false (by omega)
        have kne : ((k : Int) == 0) = false := by simp; omega
        go_upto_if 35 with (fail)
        go_cut [12] from 35 to 40 (fun vv wx => ∃ v : Int, vv = .int .i64 v ∧ wx = wr)
        case first =>
          cases e3 : (x.tmod 3 == 0) with
          | false =>
            go_wp2_with fail
            go_meet
            case rel => exact ⟨_, rfl, rfl⟩
          | true =>
            go_wp2_with fail
            go_meet
            case rel => exact ⟨_, rfl, rfl⟩
        case rest =>
          obtain ⟨v, rfl, rfl⟩ := hcut
          have hS := HP.out.1
          obtain ⟨c0, c1⟩ := HP.out.cells
          go_upto_if 42 with (fail)
          go_cut [8] from 42 to 63 (fun lv wx => ∃ (S' : Nat) (A' : Option Addr) (n' c' : Nat), lv = .slice A' n' c' ∧ Plr w g7 k S' (vals S' k) A' n' c' wx)
          case first =>
            have hn32 := HP.out.len hk2
            by_cases hv : 0 ≤ v ∧ v < (k : Int)
            · obtain ⟨q, rfl⟩ : ∃ q : Nat, v = q := ⟨v.toNat, by omega⟩
              have hq : q < k := by omega
              have q0 : (0 : Int) ≤ (q : Int) := Int.natCast_nonneg _
              have qk : (q : Int) < (k : Int) := by omega
              have q0B : decide ((0 : Int) ≤ (q : Int)) = true := decide_eq_true q0
              have qkB : decide (q < k) = true := decide_eq_true hq
              cases e2 : (x.tmod 2 == 0) with
              | true =>
                have hpu := put_in S k q wc hS hq hk2
                go_wp2_with fail
                refine hpu.mono ?_
                rintro e w5 ⟨rfl, hb5⟩
                have hp5 := HP.out.below hb5
                obtain ⟨d0, d1⟩ := hp5.cells
                obtain ⟨f0, f1, f2⟩ := hp5.sets
                obtain ⟨f3, f4⟩ := f2 (.int .u64 (putB S q : Nat))
                have hp6 := hp5.set_ (put_lt hS hq)
                have hrp := ref_put A2 n2 c2 k (vals S k) q _ (by omega) (by omega) hp6.reads
                rw [put_vals hq] at hrp
                have H6 := Lib.hid hp6
                clear hpu hp5 hp6 f2 c0 c1 hb5
                go_wp2_with fail
                refine hrp.mono ?_
                rintro e w7 hl
                obtain ⟨A', n', c', rfl, hp7⟩ := H6.out.lists hl
                have H7 := Lib.hid hp7
                clear hrp hp7 hl H6
                go_wp2_with fail
                go_meet
                case rel => exact ⟨_, A', n', c', rfl, H7.out⟩
              | false =>
                have hdr := drop_in S k q wc hS hq hk2
                go_wp2_with fail
                refine hdr.mono ?_
                rintro e w5 ⟨rfl, hb5⟩
                have hp5 := HP.out.below hb5
                have hrp := ref_drop A2 n2 c2 (vals S k) q w5 (by omega) hp5.reads
                rw [drop_vals hS hk2 hq] at hrp
                have H5 := Lib.hid hp5
                clear hdr hp5 c0 c1 hb5
                go_wp2_with fail
                refine hrp.mono ?_
                rintro e w7 hl
                obtain ⟨A', n', c', rfl, hp7⟩ := H5.out.lists hl
                obtain ⟨d0, d1⟩ := hp7.cells
                obtain ⟨f0, f1, f2⟩ := hp7.sets
                obtain ⟨f3, f4⟩ := f2 (.int .u64 (dropB S q : Nat))
                have H7 := Lib.hid (hp7.set_ (drop_lt q hS))
                clear hrp hp7 hl H5 f2
                go_wp2_with fail
                go_meet
                case rel => exact ⟨_, A', n', c', rfl, H7.out⟩
            · have hout : v < 0 ∨ (k : Int) ≤ v := by omega
              cases e2 : (x.tmod 2 == 0) with
              | true =>
                have hpu := put_out S k v wc hout hk2
                by_cases v0 : v < 0
                · have v0B : decide ((0 : Int) ≤ v) = false := decide_eq_false (by omega)
                  go_wp2_with fail
                  refine hpu.mono ?_
                  rintro e w5 ⟨rfl, hb5⟩
                  have hp5 := HP.out.below hb5
                  obtain ⟨d0, d1⟩ := hp5.cells
                  obtain ⟨f0, f1, f2⟩ := hp5.sets
                  obtain ⟨f3, f4⟩ := f2 (.int .u64 (S : Nat))
                  have H6 := Lib.hid (hp5.set_ hS)
                  clear hpu hp5 f2 c0 c1 hb5
                  go_wp2_with fail
                  go_meet
                  case rel => exact ⟨_, A2, n2, c2, rfl, H6.out⟩
                · have v0B : decide ((0 : Int) ≤ v) = true := decide_eq_true (by omega)
                  have vkB : decide (v < (k : Int)) = false := decide_eq_false (by omega)
                  go_wp2_with fail
                  refine hpu.mono ?_
                  rintro e w5 ⟨rfl, hb5⟩
                  have hp5 := HP.out.below hb5
                  obtain ⟨d0, d1⟩ := hp5.cells
                  obtain ⟨f0, f1, f2⟩ := hp5.sets
                  obtain ⟨f3, f4⟩ := f2 (.int .u64 (S : Nat))
                  have H6 := Lib.hid (hp5.set_ hS)
                  clear hpu hp5 f2 c0 c1 hb5
                  go_wp2_with fail
                  go_meet
                  case rel => exact ⟨_, A2, n2, c2, rfl, H6.out⟩
              | false =>
                have hdr := drop_out S k v wc hout hk2
                go_wp2_with fail
                refine hdr.mono ?_
                rintro e w5 ⟨rfl, hb5⟩
                have hp5 := HP.out.below hb5
                have hrp := ref_drop A2 n2 c2 (vals S k) v w5 (by omega) hp5.reads
                rw [drop_out_vals hout] at hrp
                have H5 := Lib.hid hp5
                clear hdr hp5 c0 c1 hb5
                go_wp2_with fail
                refine hrp.mono ?_
                rintro e w7 hl
                obtain ⟨A', n', c', rfl, hp7⟩ := H5.out.lists hl
                obtain ⟨d0, d1⟩ := hp7.cells
                obtain ⟨f0, f1, f2⟩ := hp7.sets
                obtain ⟨f3, f4⟩ := f2 (.int .u64 (S : Nat))
                have H7 := Lib.hid (hp7.set_ hS)
                clear hrp hp7 hl H5 f2
                go_wp2_with fail
                go_meet
                case rel => exact ⟨_, A', n', c', rfl, H7.out⟩
          case rest =>
            clear hS c0 c1 HP
            obtain ⟨S', A', n', c', rfl, hp⟩ := hcut
            have hS := hp.1
            have hn32 := hp.len hk2
            have hha := ref_has A' n' c' (vals S' k) v wc (by omega) hp.reads
            have HPP := Lib.hid hp
            clear hp
            by_cases hv : (0 ≤ v ∧ v < (k : Int)) ∧ S'.testBit v.toNat = true
            · obtain ⟨q, rfl⟩ : ∃ q : Nat, v = q := ⟨v.toNat, by omega⟩
              have hq : q < k := by omega
              have hbit : S'.testBit q = true := by simpa using hv.2
              rw [vals_has q hq, hbit] at hha
              have hp1 := HPP.out.below (bone wc (.cells #[.int .i64 q] 3))
              have hone : Reads (wc.alloc (.cells #[.int .i64 q] 3)) (wc.alloc (.cells #[.int .i64 q] 3)).heap.size 1 (some ⟨wc.heap.size, 0, none⟩) 1 (nums [(q : Int)]) := reads_block (t := 3) (heap_alloc_new _ _) rfl
              have hlk := like_any S' k n' c' A' _ (HT.out _ hp1.bel).1 (HT.out _ hp1.bel).2 hS hk2 hp1.reads
              obtain ⟨c0, c1⟩ := hp1.cells
              have ho2 : onlyB S' q = 2 ^ q := by unfold onlyB; rw [hbit]; rfl
              have HON := Lib.hid hone
              have HP1 := Lib.hid hp1
              have HO2 := Lib.hid ho2
              clear hone hp1 hv ho2
              go_wp2_with fail
              refine hha.mono ?_
              rintro e w4 ⟨rfl, rfl⟩
              clear hha
              go_wp2_with fail
              refine hlk.mono ?_
              rintro e w5 ⟨rfl, hb5⟩
              have hp5 := HP1.out.below hb5
              obtain ⟨d0, d1⟩ := hp5.cells
              have hnx := next_any S' k q w5 (HT.out _ hp5.bel).1 (HT.out _ hp5.bel).2 hk2 hS
              have H5 := Lib.hid hp5
              clear hlk hp5
              go_wp2_with fail
              refine hnx.mono ?_
              rintro e w6 ⟨r, rfl, hr, hb6⟩
              have hp6 := H5.out.below hb6
              obtain ⟨e0, e1⟩ := hp6.cells
              have hrn := ref_next A' n' c' (vals S' k) q w6 (by omega) hp6.reads
              rw [next_vals hr] at hrn
              have H6 := Lib.hid hp6
              clear hnx hp6 hr
              go_wp2_with fail
              refine hrn.mono ?_
              rintro e w7 ⟨rfl, rfl⟩
              clear hrn
              have hon := only_yes S' k q w6 hS hq hk2 hbit
              go_wp2_with fail
              refine hon.mono ?_
              rintro e w8 ⟨rfl, hb8⟩
              have hp8 := H6.out.below hb8
              have hl2 := (by
                have := like_any (onlyB S' q) k 1 1 (some ⟨wc.heap.size, 0, none⟩) w8 (HT.out _ hp8.bel).1 (HT.out _ hp8.bel).2 (only_lt S' hq) hk2 (by rw [HO2.out, only_vals k q hq]; exact ((HON.out.lift hb5).lift hb6).lift hb8)
                exact this)
              have H8 := Lib.hid hp8
              clear hon hp8
              go_wp2_with fail
              refine hl2.mono ?_
              rintro e w9 ⟨rfl, hb9⟩
              have H9 := Lib.hid (H8.out.below hb9)
              clear hl2
              go_wp2_with fail
              go_roundg (n0 - (i + 1))
              case rel => exact ⟨i + 1, S', A', n', c', by omega, rfl, by go_num, rfl, H9.out⟩
              case measure => omega
            · have hno : (v < 0 ∨ (k : Int) ≤ v) ∨ ∃ i : Nat, v = i ∧ i < k ∧ S'.testBit i = false := by
                by_cases hr : 0 ≤ v ∧ v < (k : Int)
                · refine .inr ⟨v.toNat, by omega, by omega, ?_⟩
                  cases hb' : S'.testBit v.toNat with
                  | false => rfl
                  | true => exact absurd ⟨hr, hb'⟩ hv
                · exact .inl (by omega)
              have hmem : decide (v ∈ vals S' k) = false := by
                rcases hno with h | ⟨i, rfl, hi, hb'⟩
                · exact vals_out h
                · rw [vals_has i hi]; exact hb'
              rw [hmem] at hha
              have hlk := like_any S' k n' c' A' _ (HT.out _ HPP.out.bel).1 (HT.out _ HPP.out.bel).2 hS hk2 HPP.out.reads
              obtain ⟨c0, c1⟩ := HPP.out.cells
              have HP1 := HPP
              clear hv hmem
              go_wp2_with fail
              refine hha.mono ?_
              rintro e w4 ⟨rfl, rfl⟩
              clear hha
              go_wp2_with fail
              refine hlk.mono ?_
              rintro e w5 ⟨rfl, hb5⟩
              have hp5 := HP1.out.below hb5
              obtain ⟨d0, d1⟩ := hp5.cells
              have hnx := next_any S' k v w5 (HT.out _ hp5.bel).1 (HT.out _ hp5.bel).2 hk2 hS
              have H5 := Lib.hid hp5
              clear hlk hp5
              go_wp2_with fail
              refine hnx.mono ?_
              rintro e w6 ⟨r, rfl, hr, hb6⟩
              have hp6 := H5.out.below hb6
              obtain ⟨e0, e1⟩ := hp6.cells
              have hrn := ref_next A' n' c' (vals S' k) v w6 (by omega) hp6.reads
              rw [next_vals hr] at hrn
              have H6 := Lib.hid hp6
              clear hnx hp6 hr
              go_wp2_with fail
              refine hrn.mono ?_
              rintro e w7 ⟨rfl, rfl⟩
              clear hrn
              have hon := only_no S' k v w6 hS hk2 hno
              go_wp2_with fail
              refine hon.mono ?_
              rintro e w8 ⟨rfl, hb8⟩
              have hp8 := H6.out.below hb8
              have hl2 := like_any 0 k 0 0 none w8 (HT.out _ hp8.bel).1 (HT.out _ hp8.bel).2 (Nat.pow_pos (by decide)) hk2 (by rw [vals_none fun i hi => Nat.zero_testBit i]; exact Reads.none_)
              have H8 := Lib.hid hp8
              clear hon hp8
              go_wp2_with fail
              refine hl2.mono ?_
              rintro e w9 ⟨rfl, hb9⟩
              have H9 := Lib.hid (H8.out.below hb9)
              clear hl2
              go_wp2_with fail
              go_roundg (n0 - (i + 1))
              case rel => exact ⟨i + 1, S', A', n', c', by omega, rfl, by go_num, rfl, H9.out⟩
              case measure => omega
      · have g8 : decide ((40 : Int) ≤ (i : Int)) = true := decide_eq_true (by omega)
        go_wp2_with fail
        go_ret
        exact ⟨rfl, HP.out.bel⟩
    · go_wp2_with fail
      go_ret
      exact ⟨rfl, hp.bel⟩
theorem gTab : Tryd.prog.globalNamed "math/bits.deBruijn64tab" = some 0 := by kernel_rfl
theorem gTabType : (Tryd.prog.globals[0]?).map (·.type) = some 56 := by kernel_rfl
theorem cellsA : Tryd.prog.cellsOf 56 = tab.length := by kernel_rfl
theorem cellsE : Tryd.prog.cellsOf 5 = 1 := by kernel_rfl
theorem table {W : World} (h : laidMetH Tryd.prog Rows.domPlaysRow.laid W) : Lib.TabIs Tryd.prog W "math/bits.deBruijn64tab" .u8 tab :=
  Lib.tabIs_of_head (rest := []) gTab gTabType Tryd.underlying56 Tryd.underlying5 cellsE cellsA h
theorem walk (a0 : Int) (a1 : Int) (a2 : Option Addr) (len2 cap2 : Nat) (z2 : List Int) (w : World) (w0 : (Lit.int .u8 a0).wf = true) (w1 : (Lit.int .u32 a1).wf = true) (w2 : z2.length = len2 ∧ Reads w w.heap.size 1 a2 len2 (z2.map (Value.int .i64)) ∧ (∀ x ∈ z2, (Lit.int .i64 x).wf = true) ∧ len2 ≤ cap2 ∧ len2 ≤ 9223372036854775807) (ht : Tab w) (h0w : 0 < w.heap.size) :
    Calls Tryd.prog 7 #[.int .u8 a0, .int .u32 a1, .slice a2 len2 cap2] w fun e w' => e = .returned (.bool true) ∧ Below w.heap.size w w' := by
  obtain ⟨x0, e0, r0⟩ := wf_u8 w0
  obtain ⟨x1, e1, r1⟩ := wf_u32 w1
  obtain ⟨hl, hr, hQ, hc, hn⟩ := w2
  subst e0 e1
  exact core a2 len2 cap2 x0 x1 z2 w hn r0 r1 hr ht h0w

theorem contract (H : Type) (enc : TypeId × Value → H) (W : World) (base : Nat) (args : Array Value) (ds gs : List (DataW H)) (before : List MemPlace)
    (hval0 : ∀ (j : Nat) t v, Tryd.f7.params[j]? = some t → args[j]? = some v → Value.okWide Tryd.prog W .any base t v)
    (hW : DataW.Whole enc Tryd.prog Tryd.f7.params.toList Rows.domPlaysSpec.vars false W args.toList ds gs before) (hL : laidMetH Tryd.prog Rows.domPlaysRow.laid W) :
    Calls Tryd.prog 7 args W fun e W' => ∃ v, e = .returned v ∧ Rows.domPlaysSpec.post enc Tryd.prog Tryd.f7 false true false false W args v W' := by
  have hval : ∀ (j : Nat) t v, Tryd.f7.params[j]? = some t → args[j]? = some v → Value.okWide Tryd.prog W .any base t v := hval0
  have hW' := hW
  obtain ⟨p, q, hA0, hV, rfl, hfz, hnd⟩ := hW
  have hA : DataW.TrodAll enc Tryd.prog W 0 (fun _ => true) true Tryd.f7.params.toList args.toList ds p := hA0
  rw [Tryd.params7] at hA hval
  obtain ⟨v0, vs0, d0, ds0, p0, q0, hargs, rfl, rfl, h0, r0⟩ := trodAll_cons hA
  obtain ⟨v1, vs1, d1, ds1, p1, q1, rfl, rfl, rfl, h1, r1⟩ := trodAll_cons r0
  obtain ⟨v2, vs2, d2, ds2, p2, q2, rfl, rfl, rfl, h2, r2⟩ := trodAll_cons r1
  obtain ⟨rfl, rfl, rfl⟩ := trodAll_nil r2
  obtain rfl : args = #[v0, v1, v2] := by cases args; simp_all
  obtain ⟨rfl, rfl⟩ := trodVars_none hV
  obtain ⟨a0, rfl, rfl, rfl, w0⟩ := open_int Tryd.underlying5 (hval 0 5 v0 rfl rfl) h0
  obtain ⟨a1, rfl, rfl, rfl, w1⟩ := open_int Tryd.underlying22 (hval 1 22 v1 rfl rfl) h1
  obtain ⟨a2, len2, cap2, rfl⟩ := okWide_slice Tryd.underlying27 (hval 2 27 v2 rfl rfl)
  have k2 := h2
  have lt2 : ∀ x ∈ p2, x.block < W.heap.size := by obtain ⟨m, hm⟩ := k2; exact DataW.trod_lt m _ _ _ hm
  obtain ⟨z2, w2⟩ := open_ones (Value.int .i64) (fun x => (Lit.int .i64 x).wf = true) Tryd.underlying27 (by kernel_rfl) (dec_int Tryd.underlying3) h2
  clear hA0 hval0
  have htab : Tab W := fun i hi => (table hL).cell gTab i (by simpa [tab] using hi)
  have h0w : 0 < W.heap.size := World.block_lt_of_cell? W _ (htab 0 (by decide))
  refine (walk a0 a1 a2 len2 cap2 z2 W w0 w1 w2 htab h0w).mono fun e W' ⟨he, bel⟩ => ?_
  subst he
  exact ⟨_, rfl, _, _, _, [], _, [], hW', trodAll_mk1 (shut_bool Tryd.underlying4 _), (trodAll_cons_mk (shut_int Tryd.underlying5 w0) (trodAll_cons_mk (shut_int Tryd.underlying22 w1) (trodAll_cons_mk (Below.trod laidOut (by kernel_rfl) (of_decide_eq_true (by kernel_rfl)) k2 bel lt2) trodAll_mk0))), rfl, bel.frame _, fun h => by cases h⟩
noncomputable def laidWorld (os : Os) : World :=
  { World.holding Tryd.prog os ⟨#[], #[], []⟩ with heap := (World.holding Tryd.prog os ⟨#[], #[], []⟩).heap.modify 0 fun
      | .cells _ t frozen => .cells #[.int .u8 0, .int .u8 1, .int .u8 56, .int .u8 2, .int .u8 57, .int .u8 49, .int .u8 28, .int .u8 3, .int .u8 61, .int .u8 58, .int .u8 42, .int .u8 50, .int .u8 38, .int .u8 29, .int .u8 17, .int .u8 4, .int .u8 62, .int .u8 47, .int .u8 59, .int .u8 36, .int .u8 45, .int .u8 43, .int .u8 51, .int .u8 22, .int .u8 53, .int .u8 39, .int .u8 33, .int .u8 30, .int .u8 24, .int .u8 18, .int .u8 12, .int .u8 5, .int .u8 63, .int .u8 55, .int .u8 48, .int .u8 27, .int .u8 60, .int .u8 41, .int .u8 37, .int .u8 16, .int .u8 46, .int .u8 35, .int .u8 44, .int .u8 21, .int .u8 52, .int .u8 32, .int .u8 23, .int .u8 11, .int .u8 54, .int .u8 26, .int .u8 40, .int .u8 15, .int .u8 34, .int .u8 20, .int .u8 31, .int .u8 10, .int .u8 25, .int .u8 14, .int .u8 19, .int .u8 9, .int .u8 13, .int .u8 8, .int .u8 7, .int .u8 6] t frozen
      | o => o }
theorem laid_met (os : Os) : laidMet Tryd.prog Rows.domPlaysRow.laid ((laidWorld os).forCall (fun _ _ => 0) ⟨#[], #[.int .u8 0, .int .u32 0, .slice none 0 0], []⟩).memory :=
  laidMet_of_run' 8 (by kernel_rfl) (by kernel_rfl)
theorem reads (os : Os) {H : Type} (enc : TypeId × Value → H) : ∃ places, DataW.whole enc Tryd.prog ((laidWorld os).forCall (fun _ _ => 0) ⟨#[], #[.int .u8 0, .int .u32 0, .slice none 0 0], []⟩).memory Tryd.f7.params.toList Rows.domPlaysSpec.vars false (#[.int .u8 0, .int .u32 0, .slice none 0 0] : Array Value).toList 8 = some ([.lit (.int .u8 0), .lit (.int .u32 0), .nil], [], places) :=
  ⟨[], by kernel_rfl⟩
set_option maxRecDepth 100000 in
theorem lifted (os : Os) (started : os.Started) (H : Type) (enc : TypeId × Value → H) (F : Stop.Interp) :
    ReturnsInHanded {} Tryd.checked os 7 .any ((OpenSpec.ofChange Rows.domPlaysSpec).preRow enc Tryd.prog Tryd.f7 Rows.domPlaysRow.domain false Rows.domPlaysRow.laid) (((OpenSpec.ofChange Rows.domPlaysSpec).at F).post enc Tryd.prog Tryd.f7 false true false false) := by
  obtain ⟨places, hx⟩ := reads os enc
  refine returnsInHanded_of_row (C := Tryd.checked) (s := OpenSpec.ofChange Rows.domPlaysSpec) own started (by kernel_rfl) Tryd.func7
    (witness_row_at (enc := enc) (C := Tryd.checked) false (laidWorld os) #[.int .u8 0, .int .u32 0, .slice none 0 0] rfl (by kernel_rfl) (by kernel_rfl) (by kernel_rfl)
      (OpenSpec.preRow_of_cond 8 hx (by kernel_rfl) (fun k hk => by cases hk) (by kernel_rfl) (laid_met os))) ?_
  intro W base args ds gs before hval hW _ _ _ hL _ _
  exact contract H enc W base args ds gs before hval hW hL
theorem said : Rows.DomPlaysSaid :=
  OpenClaim.holds_of_cond 7 Tryd.f7 rfl rfl rfl rfl rfl rfl rfl ⟨rfl, rfl, rfl, rfl, rfl⟩ rfl rfl rfl rfl rfl (by kernel_rfl) Tryd.func7 (by kernel_rfl)
    (of_decide_eq_true (by kernel_rfl)) (by unfold Func.isWrapper; first | (rw [if_pos (by decide +kernel)]; kernel_rfl) | (rw [if_neg (by decide +kernel)]; exact ⟨rfl, rfl⟩))
    (fun os started H enc _ F => by rw [OpenClaim.pre_eq_preRow]; exact lifted os started H enc F)
theorem plain (f : FuncId) (fn : Func) (hf : Tryd.pinned.checked.prog.funcNamed "pennyweight/pennyweightlaw02.DomPlays" = some f) (hfn : Tryd.pinned.checked.prog.funcs[f]? = some fn) :
    false = Tryd.pinned.checked.prog.looks [] ∧ ∀ (j : Nat) t, fn.params[j]? = some t → Tryd.pinned.checked.prog.wantsStandIn t = false := by
  obtain rfl : f = 7 := Option.some.inj ((show Tryd.prog.funcNamed "pennyweight/pennyweightlaw02.DomPlays" = some 7 by kernel_rfl).symm.trans hf) |>.symm
  obtain rfl : fn = Tryd.f7 := (Option.some.inj (Tryd.func7.symm.trans hfn)).symm
  refine ⟨by kernel_rfl, fun j t ht => ?_⟩
  rw [Tryd.params7] at ht
  have hm := Array.mem_of_getElem? ht
  simp only [Array.mem_def, List.mem_cons, List.not_mem_nil, or_false] at hm
  rcases hm with rfl | rfl | rfl <;> (show Tryd.prog.wantsStandIn _ = false; kernel_rfl)
theorem proved : Rows.DomPlaysCardSaid :=
  Claim7.holds_tied_plain_at .later [] _ _ _ _ said (fun _ h => by cases h) (by kernel_rfl) (fun _ h => by cases h) domPlays_row_tie rfl ⟨rfl, rfl⟩ (by kernel_rfl) rfl plain (by kernel_rfl)
end Go.Proofs.YtcmglgkopgfheaaDoor.domPlays
