/- What the law's package makes: a set of some values of n, and they; the document's example. -/
import Derived.Test.YtcmglgkopgfheaaDoorSetCon
import Derived.Test.YtcmglgkopgfheaaDoorRows
namespace Go.Proofs.YtcmglgkopgfheaaDoor.bit
open Go.ChangeShapes Go.WideShapes Go.ChangeAt Go.RowKit Go.Proofs.YtcmglgkopgfheaaDoor.words
set_option linter.unusedVariables false
theorem infoI : (Tryd.prog.info? 3).map (fun i => (i.zero, i.size, i.bytes)) = some (some (.int .i64 0), 1, 8) := by kernel_rfl
theorem has_spell32 (b v : Nat) (hb : b < 4294967296) : (bits .and .u32 ((b : Int) / 2 ^ v) 1 == 1) = b.testBit v := by
  have h1 : ((b : Int) / 2 ^ v) = ((b / 2 ^ v : Nat) : Int) := by push_cast; rfl
  have := u32_and_nat (b / 2 ^ v) 1 (Nat.lt_of_le_of_lt (Nat.div_le_self _ _) hb) (by decide)
  rw [h1, show ((1 : Int)) = ((1 : Nat) : Int) from rfl, this, Nat.and_one_is_mod]
  rw [Nat.testBit_eq_decide_div_mod_eq, Bool.eq_iff_iff]
  simp
  omega
/-- a set of k, of which j are as b has them, the others all in -/
structure Part (b k j S : Nat) : Prop where
  lt : S < 2 ^ k
  low : ∀ i, i < j → S.testBit i = b.testBit i
  high : ∀ i, j ≤ i → i < k → S.testBit i = true
theorem Part.start (b k : Nat) : Part b k 0 (2 ^ k - 1) := ⟨by have : 0 < 2 ^ k := Nat.pow_pos (by decide); omega, fun i hi => by omega, fun i _ hi => by rw [full_bit]; simpa using hi⟩
theorem Part.yes {b k j S : Nat} (h : Part b k j S) (hj : j < k) (hb : b.testBit j = true) : Part b k (j + 1) S :=
  ⟨h.lt, fun i hi => by
    by_cases e : i = j
    · subst e; rw [hb]; exact h.high i (Nat.le_refl _) hj
    · exact h.low i (by omega), fun i hi hk => h.high i (by omega) hk⟩
theorem Part.no {b k j S : Nat} (h : Part b k j S) (hk : k ≤ 32) (hj : j < k) (hb : b.testBit j = false) : Part b k (j + 1) (dropB S j) :=
  ⟨drop_lt _ h.lt, fun i hi => by
    rw [drop_bit h.lt hk hj]
    by_cases e : i = j
    · subst e; rw [hb]; simp
    · rw [h.low i (by omega), decide_eq_false (fun x => e x.symm)]; simp, fun i hi hik => by
    rw [drop_bit h.lt hk hj, h.high i (by omega) hik, decide_eq_false (by omega)]; rfl⟩
theorem vals_congr {a b : Nat} : ∀ {n : Nat}, (∀ i, i < n → a.testBit i = b.testBit i) → vals a n = vals b n
  | 0, _ => rfl
  | n + 1, h => by rw [vals_succ, vals_succ, vals_congr fun i hi => h i (by omega), h n (by omega)]
/-- what made answers -/
def MadeOf (b k : Nat) (w : World) (e : Ending) (w' : World) : Prop :=
  ∃ S A n c, e = .returned (.tuple #[SetV S k, .slice A n c, .int .i64 k]) ∧ Part b k k S ∧ w'.ownsRow w.heap.size 3 1 (.slice A n c) n (nums (vals S k)) ∧ Below w.heap.size w w'
set_option maxHeartbeats 1000000 in
theorem made_any (a b : Nat) (w : World) (ha : a < 256) (hb : b < 4294967296) :
    Calls Tryd.prog 9 #[.int .u8 a, .int .u32 b] w fun e w' => MadeOf b (1 + a % 32) w e w' := by
  obtain ⟨i0, hi0, hz0, hz1, hz2⟩ := info_parts infoI
  obtain ⟨k, hk⟩ : ∃ k, 1 + a % 32 = k := ⟨_, rfl⟩
  have hk1 : 1 ≤ k := by omega
  have hk2 : k ≤ 32 := by omega
  have hkI : (1 : Int) + (a : Int) % 32 = (k : Int) := by omega
  rw [hk]
  clear hk
  go_enter Tryd.func9, Tryd.ntmps9
  go_wp2_with fail
  refine (new_in k _ hk1 hk2).mono ?_
  rintro e w1 ⟨rfl, hb1⟩
  obtain ⟨F, hF⟩ : ∃ F, 2 ^ k - 1 = F := ⟨_, rfl⟩
  have hs0 := Part.start b k
  rw [hF] at hs0 ⊢
  have hres := (Blk.new w 26 #[.int .u64 0, .int .i64 0]).under hb1
  have hres1 := hres.alloc (.cells #[.int .u64 F, .int .i64 k] 26)
  have hset := Blk.new w1 26 #[.int .u64 F, .int .i64 k]
  have hB := bnew (bto (bone w (.cells #[.int .u64 0, .int .i64 0] 26)) hb1) (.cells #[.int .u64 F, .int .i64 k] 26)
  have hsz := hb1.size
  clear hkI hF hres
  go_wp2_with fail
  go_loopw [10, 11, 22] (fun lv _ jv wr => ∃ (j S : Nat) (A : Option Addr) (n c : Nat), j ≤ k ∧ jv = .int .i64 j ∧ lv = .slice A n c ∧ Part b k j S ∧ wr.ownsRow w.heap.size 3 1 (.slice A n c) n (nums (vals S j)) ∧
    Blk wr w1.heap.size 26 #[.int .u64 S, .int .i64 k] ∧ Blk wr w.heap.size 26 #[.int .u64 0, .int .i64 0] ∧ Below w.heap.size w wr) (fun _ _ jv _ => k - (intOf jv).toNat)
  case atStart => exact ⟨0, F, none, 0, 0, by omega, rfl, rfl, hs0, World.ownsRow_nil _ _ _ _, hset, hres1, hB⟩
  case round =>
    clear hs0 hres1 hset hB
    obtain ⟨j, S, A, n, c, hj, rfl, rfl, hP, ho, hset, hres, hB⟩ := hrel
    have hcs := hset.cell 0
    have hct := hset.cell 1
    have hfs := hset.frozen 0
    have hft := hset.frozen 1
    have hnl := nums_own_len ho
    have hnb := vals_len_le S j
    by_cases hlt : j < k
    · have hsp := has_spell32 b j hb
      cases hbit : b.testBit j with
      | true =>
        rw [hbit] at hsp
        have HP := Lib.hid (hP.yes hlt hbit)
        have HV := Lib.hid (vals_succ S j)
        have hS : S.testBit j = true := hP.high j (Nat.le_refl _) hlt
        have HS := Lib.hid hS
        have ho1 := ho.alloc (.cells #[.int .i64 j] 3)
        have hr1 : Reads (wr.alloc (.cells #[.int .i64 j] 3)) (wr.alloc (.cells #[.int .i64 j] 3)).heap.size 1 (some ⟨wr.heap.size, 0, none⟩) 1 (nums [(j : Int)]) := reads_block (t := 3) (heap_alloc_new _ _) rfl
        have hn32 : n ≤ 32 := by omega
        have hne1 := own_blk_ne ho hset (by decide)
        have hne2 := own_blk_ne ho hres (by decide)
        clear hbit hS hnl hnb hP
        go_wp2_with (first
          | (at_builtin; refine wpList_append_any _ rfl (.tmp 30) (.tmp 32) _ rfl w.heap.size 3 i0 _ 1 8 Tryd.underlying27 hi0 hz0 hz1 hz2 rfl (by omega) _ n _ rfl ho1 (wr.alloc (.cells #[.int .i64 j] 3)).heap.size (some ⟨wr.heap.size, 0, none⟩) 1 1 (nums [(j : Int)]) rfl hr1 nums_one (by simp only [maxLen]; omega) (by omega) (by have := hB.size; simp; omega) ?_; intro v1 w2 hown hg1 hat; clear hat; obtain ⟨A2, c2, rfl⟩ := own_shape hown)
          | fail)
        have hg2 : (wr.alloc (.cells #[.int .i64 j] 3)).grownBy w2 (Value.slice A n c).ownBlock := hg1
        go_roundw
        case rel =>
          refine ⟨j + 1, S, A2, n + 1, c2, by omega, by go_num, rfl, HP.out, ?_, (hset.alloc _).grown hg2 (fun e => hne1 e.symm), (hres.alloc _).grown hg2 (fun e => hne2 e.symm), ?_⟩
          · rw [HV.out, HS.out, if_pos rfl]
            unfold nums at hown ⊢
            rw [List.map_append]; exact hown
          · exact (hB.alloc hB.size _).grown hg2 (by have := hB.size; simp; omega) (fun q hq => (own_in ho hq).1)
        case measure => simp [intOf]; omega
      | false =>
        rw [hbit] at hsp
        have HP := Lib.hid (hP.no hk2 hlt hbit)
        have HV := Lib.hid (vals_succ (dropB S j) j)
        have hd : (dropB S j).testBit j = false := by rw [drop_bit hP.lt hk2 hlt]; simp
        have HD := Lib.hid hd
        have hvc : vals (dropB S j) j = vals S j := vals_congr fun i hi => by rw [drop_bit hP.lt hk2 hlt, decide_eq_false (by omega)]; simp
        have HC := Lib.hid hvc
        have hSl := hP.lt
        have hdr := fun w => drop_in S k j w hSl hlt hk2
        clear hbit hd hvc hnl hnb hP hSl
        go_wp2_with fail
        refine (hdr _).mono ?_
        rintro e w2 ⟨rfl, hb2⟩
        have hset2 := hset.under hb2
        have hc2 := hset2.cell 0
        have hc3 := hset2.cell 1
        have hf2 := hset2.frozen 0
        have hf3 := hset2.frozen 1
        go_wp2
        go_roundw
        case rel =>
          refine ⟨j + 1, dropB S j, A, n, c, by omega, by go_num, rfl, HP.out, ?_, ?_, ?_, ?_⟩
          · rw [HV.out, HD.out, HC.out]
            simp only [Bool.false_eq_true, if_false, List.append_nil]
            have o1 := own_under ho hb2
            exact (Tch.set_ (S := fun q => q = w1.heap.size) _ _ rfl |>.own ((Tch.set_ (S := fun q => q = w1.heap.size) w2 _ rfl).own o1 (fun g hg e => own_blk_ne o1 hset2 (by decide) (by rw [hg, e]))) (fun g hg e => own_blk_ne o1 hset2 (by decide) (by rw [hg, e])))
          · exact ((hset2.set_ 0 _).set_ 1 _)
          · exact ((hres.under hb2).far (p := ⟨w1.heap.size, 0, none⟩) (by simp at hsz; simp; omega) _).far (p := ⟨w1.heap.size, 1, none⟩) (by simp at hsz; simp; omega) _
          · exact ((bto hB hb2).setCell (p := ⟨w1.heap.size, 0, none⟩) (by simp at hsz; simp; omega) _).setCell (p := ⟨w1.heap.size, 1, none⟩) (by simp at hsz; simp; omega) _
        case measure => simp [intOf]; omega
    · obtain rfl : k = j := by omega
      have hr0 := hres.cell 0
      have hr1 := hres.cell 1
      have hg0 := hres.frozen 0
      have hg1 := hres.frozen 1
      clear hnl hnb
      go_wp2
      refine bodyPost_ret (v := .tuple #[SetV S k, .slice A n c, .int .i64 k]) (by simp [results, Tryd.results9, go_sem, hr0, hr1, hg0, hg1]) rfl ⟨S, A, n, c, rfl, hP, ?_, ?_⟩
      · exact (Tch.set_ (S := fun q => q = w.heap.size) _ _ rfl |>.own ((Tch.set_ (S := fun q => q = w.heap.size) wr _ rfl).own ho (fun g hg e => own_blk_ne ho hres (by decide) (by rw [hg, e]))) (fun g hg e => own_blk_ne ho hres (by decide) (by rw [hg, e])))
      · exact (hB.setCell (p := ⟨w.heap.size, 0, none⟩) (by simp) _).setCell (p := ⟨w.heap.size, 1, none⟩) (by simp) _
end Go.Proofs.YtcmglgkopgfheaaDoor.bit
