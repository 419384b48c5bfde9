/- For every input WcspLarge returns true; its arguments read as before. No condition; the tables of Go's library are tied to the program's text. -/
import Derived.Test.YtafdijfbgkcnnaaDoorCards
import Derived.Test.YtafdijfbgkcnnaaDoorTie
import Derived.Deep.DeepHandedRow
import Derived.Lib.LaidTab
import Derived.Stop.LaidErr
import Derived.WalkKit
import Derived.ProofKit
import Derived.OpenShut
import Derived.ShutString
import Derived.ChangeOld
import Derived.Below
import Derived.Test.YtafdijfbgkcnnaaDoorOpen
import Derived.Test.YtafdijfbgkcnnaaDoorLargeP
import Derived.Test.YtafdijfbgkcnnaaDoorRefDec
import Derived.Deep.CutBlock
namespace Go.Proofs.YtafdijfbgkcnnaaDoor.wcspLarge
open Go.Proofs.YtafdijfbgkcnnaaDoor.wcp Go.Proofs.YtafdijfbgkcnnaaDoor.scn Go.Proofs.YtafdijfbgkcnnaaDoor.words
open Go.ChangeShapes Go.WideShapes Go.ChangeAt Go.RowKit
open Go.ChangeMaps (open_string shut_string)
set_option linter.unusedVariables false
theorem own : ownKnob Tryd.prog.godebug = none := by kernel_rfl
theorem laidOut : laidOutB Tryd.prog = true := by kernel_rfl
theorem pow_eq : [1, 10, 100, 1000, 10000, 100000, 1000000, 10000000, 100000000, 1000000000, 10000000000, 100000000000, 1000000000000, 10000000000000, 100000000000000, 1000000000000000, 10000000000000000, 100000000000000000, 1000000000000000000, 10000000000000000000] = Lib.pow10Tab := by decide +kernel
theorem pow_tab {W : World} (h : Lib.TabIs Tryd.prog W "internal/strconv.uint64pow10" .u64 [1, 10, 100, 1000, 10000, 100000, 1000000, 10000000, 100000000, 1000000000, 10000000000, 100000000000, 1000000000000, 10000000000000, 100000000000000, 1000000000000000, 10000000000000000, 100000000000000000, 1000000000000000000, 10000000000000000000]) : Tab W := by
  unfold Tab; rw [← pow_eq]; exact h
theorem it_len {n : Nat} (h : n < 18446744073709551616) : (Lib.itoa (n : Int)).length ≤ 20 := by
  rw [Lib.itoa_nonneg]; exact dd_len h
theorem w8 (n : Nat) (h : n < 256) : IntKind.u8.wrap (n : Int) = (n : Int) := by rw [IntKind.wrap_u8]; omega
theorem w16 (n : Nat) (h : n < 65536) : IntKind.u16.wrap (n : Int) = (n : Int) := by rw [IntKind.wrap_u16]; omega
theorem w64 (n : Nat) (h : n < 9223372036854775808) : IntKind.i64.wrap (n : Int) = (n : Int) := by rw [IntKind.wrap_i64]; omega
theorem num5 (u : Nat) : ∃ k : Nat, k < 5 ∧ (u : Int).tmod 5 = (k : Int) ∧ IntKind.u8.wrap (k : Int) = (k : Int) :=
  ⟨u % 5, Nat.mod_lt _ (by omega), by rw [Int.tmod_eq_emod_of_nonneg (by omega)]; omega, w8 _ (by omega)⟩
theorem num1 (n : Nat) : ∃ r N : Nat, (65 ≤ N ∧ N ≤ 564) ∧ (n : Int).tmod 500 = (r : Int) ∧ (65 : Int) + (r : Int) = (N : Int) ∧ IntKind.u16.wrap (r : Int) = (r : Int) ∧ IntKind.u16.wrap (N : Int) = (N : Int) ∧ IntKind.i64.wrap (N : Int) = (N : Int) :=
  ⟨n % 500, 65 + n % 500, by omega, by rw [Int.tmod_eq_emod_of_nonneg (by omega)]; omega, by omega, w16 _ (by omega), w16 _ (by omega), w64 _ (by omega)⟩
theorem num2 (n : Nat) : ∃ r N : Nat, (33 ≤ N ∧ N ≤ 9999) ∧ (n : Int).tmod 900 = (r : Int) ∧ (33 : Int) + (r : Int) = (N : Int) ∧ IntKind.u16.wrap (r : Int) = (r : Int) ∧ IntKind.u16.wrap (N : Int) = (N : Int) ∧ IntKind.i64.wrap (N : Int) = (N : Int) :=
  ⟨n % 900, 33 + n % 900, by omega, by rw [Int.tmod_eq_emod_of_nonneg (by omega)]; omega, by omega, w16 _ (by omega), w16 _ (by omega), w64 _ (by omega)⟩
theorem num3 (n : Nat) (h : n < 65536) : ∃ N : Nat, (2147483649 ≤ N ∧ N ≤ 2147559184) ∧ (2147483649 : Int) + (n : Int) = (N : Int) ∧ IntKind.i64.wrap (N : Int) = (N : Int) :=
  ⟨2147483649 + n, by omega, by omega, w64 _ (by omega)⟩
theorem num4 (n : Nat) : ∃ r N : Nat, (257 ≤ N ∧ N ≤ 306) ∧ (n : Int).tmod 50 = (r : Int) ∧ (257 : Int) + (r : Int) = (N : Int) ∧ IntKind.u16.wrap (r : Int) = (r : Int) ∧ IntKind.u16.wrap (N : Int) = (N : Int) ∧ IntKind.i64.wrap (N : Int) = (N : Int) :=
  ⟨n % 50, 257 + n % 50, by omega, by rw [Int.tmod_eq_emod_of_nonneg (by omega)]; omega, by omega, w16 _ (by omega), w16 _ (by omega), w64 _ (by omega)⟩
/-- the first words of too many variables -/
theorem head_vars (N : Nat) : ∃ p3 p4 p5, Mid ([116, 32] ++ Lib.itoa N ++ [32, 49, 32, 48, 32, 53]) [([116], 0), (Lib.itoa N, 2), ([49], p3), ([48], p4), ([53], p5)] := by
  obtain ⟨i1, i2⟩ := itoa_in N
  have m1 := mid_one (v := [116]) (by decide) (by decide)
  have m2 := m1.snoc i1 i2
  have m3 := m2.snoc (v := [49]) (by decide) (by decide)
  have m4 := m3.snoc (v := [48]) (by decide) (by decide)
  have m5 := m4.snoc (v := [53]) (by decide) (by decide)
  have e : [116, 32] ++ Lib.itoa N ++ [32, 49, 32, 48, 32, 53] = [116] ++ 32 :: Lib.itoa N ++ 32 :: [49] ++ 32 :: [48] ++ 32 :: [53] := by simp
  rw [← e] at m5
  exact ⟨_, _, _, m5⟩
theorem head_size (N : Nat) : ∃ p1 p2 p3 p4 p5, Mid ([116, 32, 49, 32, 57, 57, 57, 57, 32, 48, 32, 53, 32] ++ Lib.itoa N) [([116], p1), ([49], p2), ([57, 57, 57, 57], p3), ([48], p4), ([53], p5), (Lib.itoa N, 13)] := by
  obtain ⟨i1, i2⟩ := itoa_in N
  have m1 := mid_one (v := [116]) (by decide) (by decide)
  have m2 := m1.snoc (v := [49]) (by decide) (by decide)
  have m3 := m2.snoc (v := [57, 57, 57, 57]) (by decide) (by decide)
  have m4 := m3.snoc (v := [48]) (by decide) (by decide)
  have m5 := m4.snoc (v := [53]) (by decide) (by decide)
  have m6 := m5.snoc i1 i2
  exact ⟨_, _, _, _, _, m6⟩
theorem head_top (N : Nat) : ∃ p1 p2 p3 p4 p6, Mid ([116, 32, 49, 32, 49, 32, 48, 32] ++ Lib.itoa N ++ [32, 49]) [([116], p1), ([49], p2), ([49], p3), ([48], p4), (Lib.itoa N, 8), ([49], p6)] := by
  obtain ⟨i1, i2⟩ := itoa_in N
  have m1 := mid_one (v := [116]) (by decide) (by decide)
  have m2 := m1.snoc (v := [49]) (by decide) (by decide)
  have m3 := m2.snoc (v := [49]) (by decide) (by decide)
  have m4 := m3.snoc (v := [48]) (by decide) (by decide)
  have m5 := m4.snoc i1 i2
  have m6 := m5.snoc (v := [49]) (by decide) (by decide)
  exact ⟨_, _, _, _, _, m6⟩
theorem head_funs (N : Nat) : ∃ p1 p2 p3 p5 p6, Mid ([116, 32, 49, 32, 49, 32] ++ Lib.itoa N ++ [32, 53, 32, 49]) [([116], p1), ([49], p2), ([49], p3), (Lib.itoa N, 6), ([53], p5), ([49], p6)] := by
  obtain ⟨i1, i2⟩ := itoa_in N
  have m1 := mid_one (v := [116]) (by decide) (by decide)
  have m2 := m1.snoc (v := [49]) (by decide) (by decide)
  have m3 := m2.snoc (v := [49]) (by decide) (by decide)
  have m4 := m3.snoc i1 i2
  have m5 := m4.snoc (v := [53]) (by decide) (by decide)
  have m6 := m5.snoc (v := [49]) (by decide) (by decide)
  have e : [116, 32, 49, 32, 49, 32] ++ Lib.itoa N ++ [32, 53, 32, 49] = [116] ++ 32 :: [49] ++ 32 :: [49] ++ 32 :: Lib.itoa N ++ 32 :: [53] ++ 32 :: [49] := by simp
  rw [← e] at m6
  exact ⟨_, _, _, _, _, m6⟩
set_option maxRecDepth 100000 in
set_option maxHeartbeats 8000000 in
theorem core (u n : Nat) (c : Bool) (w : World) (hu : u < 256) (hn : n < 65536) (ht : Tab w) :
    Calls Tryd.prog 4 #[.int .u8 u, .int .u16 n, .bool c] w fun e w' => e = .returned (.bool true) ∧ Below w.heap.size w w' := by
  obtain ⟨k, k5, kI, kw⟩ := num5 u
  obtain ⟨r, N1, b1, rI, n1I, rw1, nw1, iw1⟩ := num1 n
  obtain ⟨r9, N2, b2, r9I, n2I, rw9, nw2, iw2⟩ := num2 n
  obtain ⟨N3, b3, n3I, iw3⟩ := num3 n hn
  obtain ⟨r5, N4, b4, r5I, n4I, rw5, nw4, iw4⟩ := num4 n
  have iwn := w64 n (by omega)
  have HD1 := Lib.hid (fun W : World => dec7_any (N1 : Int) W (by omega) (by omega))
  have HD2 := Lib.hid (fun W : World => dec7_any (N2 : Int) W (by omega) (by omega))
  have HD3 := Lib.hid (fun W : World => dec7_any (N3 : Int) W (by omega) (by omega))
  have HD4 := Lib.hid (fun W : World => dec7_any (N4 : Int) W (by omega) (by omega))
  have HT := Lib.hid ht
  clear ht
  go_enter Tryd.func4, Tryd.ntmps4
  go_wp2_with fail
  refine (wawake_any w HT.out).mono ?_
  rintro e w1 ⟨rfl, hb1⟩
  have HB1 := Lib.hid hb1
  clear hb1
  go_upto_block 0 with (first | (go_at_call 16; (with_reducible refine (HD1.out _).mono ?_); rintro e w2 ⟨rfl, rfl⟩) | fail)
  go_cut [2, 8, 9] from 14 (fun cv tv av wq => cv = .bool c ∧ ∃ (bs : List UInt8) (x : Nat), tv = strV bs ∧ av = .int .i64 x ∧ LargeT bs x ∧ Below w.heap.size w wq)
  case first =>
    have hk : k = 0 ∨ k = 1 ∨ k = 2 ∨ k = 3 ∨ k = 4 := by omega
    rcases hk with rfl | rfl | rfl | rfl | rfl
    · have kI : (u : Int).tmod 5 = 0 := kI
      have hl := it_len (n := N1) (by omega)
      obtain ⟨p3, p4, p5, hm⟩ := head_vars N1
      have hlv := fun (bs : List UInt8) (r : List Wd) (hb : bs.length ≤ 20000) => large_vars (N := N1) b1.1 b1.2 (bs := bs) (r := r) hb (p1 := 0) (p2 := 2) (p3 := p3) (p4 := p4) (p5 := p5)
      have s1 : ∀ W : World, (Op.stringOp .add ⟨#[116, 32]⟩ ⟨(Lib.itoa (N1 : Int)).toArray⟩).run Tryd.prog W = .ok (strV ([116, 32] ++ Lib.itoa (N1 : Int))) W := sadd [116, 32] _ (by simp; omega)
      obtain ⟨b1', hb1'⟩ : ∃ b1', [116, 32] ++ Lib.itoa (N1 : Int) = b1' := ⟨_, rfl⟩
      have hl1 : b1'.length ≤ 22 := by rw [← hb1']; simp; omega
      rw [hb1'] at s1 hm
      have s2 : ∀ W : World, (Op.stringOp .add ⟨b1'.toArray⟩ ⟨#[32, 49, 32, 48, 32, 53]⟩).run Tryd.prog W = .ok (strV (b1' ++ [32, 49, 32, 48, 32, 53])) W := sadd b1' [32, 49, 32, 48, 32, 53] (by simp; omega)
      obtain ⟨b2', hb2'⟩ : ∃ b2', b1' ++ [32, 49, 32, 48, 32, 53] = b2' := ⟨_, rfl⟩
      have hl2 : b2'.length ≤ 28 := by rw [← hb2']; simp; omega
      rw [hb2'] at s2 hm
      have HM := Lib.hid hm
      have HLV := Lib.hid hlv
      clear hm hlv hb1' hb2' hl hl1
      go_wp2_with fail
      go_loopw [8, 31] (fun tv iv wr => ∃ (i : Nat) (bs : List UInt8) (r : List Wd), iv = .int .u16 i ∧ i ≤ N1 ∧ tv = strV bs ∧ bs.length ≤ 28 + 2 * i ∧ Mid bs ([([116], 0), (Lib.itoa (N1 : Int), 2), ([49], p3), ([48], p4), ([53], p5)] ++ r) ∧ r.length = i ∧ (∀ x ∈ r, x.1 = [49]) ∧ wr = w1) (fun _ iv _ => N1 - (intOf iv).toNat)
      case atStart => exact ⟨0, b2', [], rfl, Nat.zero_le _, rfl, by omega, HM.out, rfl, (fun x hx => by cases hx), rfl⟩
      case round =>
        obtain ⟨i, bs, r, rfl, hi, rfl, hbl, hbm, hrl, hrx, rfl⟩ := hrel
        by_cases hlt : i < N1
        · have hltI : decide ((i : Int) < (N1 : Int)) = true := decide_eq_true (by omega)
          have s3 : ∀ W : World, (Op.stringOp .add ⟨bs.toArray⟩ ⟨#[32, 49]⟩).run Tryd.prog W = .ok (strV (bs ++ [32, 49])) W := sadd bs [32, 49] (by simp; omega)
          have HMM := Lib.hid (hbm.snoc (v := [49]) (by decide) (by decide))
          have HL : Hid ((bs ++ [32, 49]).length ≤ 28 + 2 * (i + 1)) := by rw [Hid, List.length_append]; simp; omega
          have HR := Lib.hid (And.intro hrl hrx)
          clear hbm hrl hrx hbl
          go_wp2_with fail
          go_roundw
          case measure => simp [intOf]; omega
          case rel =>
            refine ⟨i + 1, bs ++ [32, 49], r ++ [([49], bs.length + 1)], by go_num, by omega, rfl, HL.out, ?_, by rw [List.length_append, HR.out.1]; rfl, fun x hx => ?_, by first | rfl | trivial⟩
            · have := HMM.out
              rw [List.append_assoc] at this
              exact this
            · rcases List.mem_append.1 hx with hx | hx
              · exact HR.out.2 x hx
              · rw [List.mem_singleton.1 hx]
        · obtain rfl : i = N1 := by omega
          have hltI : decide ((i : Int) < (i : Int)) = false := decide_eq_false (by omega)
          have HX := Lib.hid (HLV.out bs r (by omega) hbm hrl hrx)
          clear hbm hrl hrx
          go_wp2_with fail
          go_meet
          case rel => exact ⟨rfl, bs, 2, rfl, rfl, HX.out, HB1.out⟩
    · have kI : (u : Int).tmod 5 = 1 := kI
      have hl := it_len (n := N2) (by omega)
      obtain ⟨p1, p2, p3, p4, p5, hm⟩ := head_size N2
      have s1 : ∀ W : World, (Op.stringOp .add ⟨#[116, 32, 49, 32, 57, 57, 57, 57, 32, 48, 32, 53, 32]⟩ ⟨(Lib.itoa (N2 : Int)).toArray⟩).run Tryd.prog W = .ok (strV ([116, 32, 49, 32, 57, 57, 57, 57, 32, 48, 32, 53, 32] ++ Lib.itoa (N2 : Int))) W := sadd [116, 32, 49, 32, 57, 57, 57, 57, 32, 48, 32, 53, 32] _ (by simp; omega)
      have HX := Lib.hid (large_size (N := N2) b2.1 b2.2 (by simp; omega) hm)
      obtain ⟨bs, hbs⟩ : ∃ bs, [116, 32, 49, 32, 57, 57, 57, 57, 32, 48, 32, 53, 32] ++ Lib.itoa (N2 : Int) = bs := ⟨_, rfl⟩
      rw [hbs] at s1 HX
      clear hm hbs hl
      go_wp2_with (first | (go_at_call 16; (with_reducible refine (HD2.out _).mono ?_); rintro e w2 ⟨rfl, rfl⟩) | fail)
      go_meet
      case rel => exact ⟨rfl, bs, 13, rfl, rfl, HX.out, HB1.out⟩
    · have kI : (u : Int).tmod 5 = 2 := kI
      have hl := it_len (n := N3) (by omega)
      obtain ⟨p1, p2, p3, p4, p6, hm⟩ := head_top N3
      have s1 : ∀ W : World, (Op.stringOp .add ⟨#[116, 32, 49, 32, 49, 32, 48, 32]⟩ ⟨(Lib.itoa (N3 : Int)).toArray⟩).run Tryd.prog W = .ok (strV ([116, 32, 49, 32, 49, 32, 48, 32] ++ Lib.itoa (N3 : Int))) W := sadd [116, 32, 49, 32, 49, 32, 48, 32] _ (by simp; omega)
      obtain ⟨b0, hb0⟩ : ∃ b0, [116, 32, 49, 32, 49, 32, 48, 32] ++ Lib.itoa (N3 : Int) = b0 := ⟨_, rfl⟩
      have hl0 : b0.length ≤ 28 := by rw [← hb0]; simp; omega
      rw [hb0] at s1 hm
      have s2 : ∀ W : World, (Op.stringOp .add ⟨b0.toArray⟩ ⟨#[32, 49]⟩).run Tryd.prog W = .ok (strV (b0 ++ [32, 49])) W := sadd b0 [32, 49] (by simp; omega)
      have HX := Lib.hid (large_top (N := N3) b3.1 b3.2 (by simp; omega) hm)
      obtain ⟨bs, hbs⟩ : ∃ bs, b0 ++ [32, 49] = bs := ⟨_, rfl⟩
      rw [hbs] at s2 HX
      clear hm hbs hl hb0 hl0
      go_wp2_with (first | (go_at_call 16; (with_reducible refine (HD3.out _).mono ?_); rintro e w2 ⟨rfl, rfl⟩) | fail)
      go_meet
      case rel => exact ⟨rfl, bs, 8, rfl, rfl, HX.out, HB1.out⟩
    · have kI : (u : Int).tmod 5 = 3 := kI
      have hl := it_len (n := N4) (by omega)
      obtain ⟨p1, p2, p3, p5, p6, hm⟩ := head_funs N4
      have hlv := fun (bs : List UInt8) (r : List Wd) (hb : bs.length ≤ 20000) => large_funs (N := N4) b4.1 b4.2 (bs := bs) (r := r) hb (p1 := p1) (p2 := p2) (p3 := p3) (p4 := 6) (p5 := p5) (p6 := p6)
      have s1 : ∀ W : World, (Op.stringOp .add ⟨#[116, 32, 49, 32, 49, 32]⟩ ⟨(Lib.itoa (N4 : Int)).toArray⟩).run Tryd.prog W = .ok (strV ([116, 32, 49, 32, 49, 32] ++ Lib.itoa (N4 : Int))) W := sadd [116, 32, 49, 32, 49, 32] _ (by simp; omega)
      obtain ⟨b1', hb1'⟩ : ∃ b1', [116, 32, 49, 32, 49, 32] ++ Lib.itoa (N4 : Int) = b1' := ⟨_, rfl⟩
      have hl1 : b1'.length ≤ 26 := by rw [← hb1']; simp; omega
      rw [hb1'] at s1 hm
      have s2 : ∀ W : World, (Op.stringOp .add ⟨b1'.toArray⟩ ⟨#[32, 53, 32, 49]⟩).run Tryd.prog W = .ok (strV (b1' ++ [32, 53, 32, 49])) W := sadd b1' [32, 53, 32, 49] (by simp; omega)
      obtain ⟨b2', hb2'⟩ : ∃ b2', b1' ++ [32, 53, 32, 49] = b2' := ⟨_, rfl⟩
      have hl2 : b2'.length ≤ 30 := by rw [← hb2']; simp; omega
      rw [hb2'] at s2 hm
      have HM := Lib.hid hm
      have HLV := Lib.hid hlv
      clear hm hlv hb1' hb2' hl hl1
      go_wp2_with (first | (go_at_call 16; (with_reducible refine (HD4.out _).mono ?_); rintro e w2 ⟨rfl, rfl⟩) | fail)
      go_loopw [8, 64] (fun tv iv wr => ∃ (i : Nat) (bs : List UInt8) (r : List Wd), iv = .int .u16 i ∧ i ≤ N4 ∧ tv = strV bs ∧ bs.length ≤ 30 + 6 * i ∧ Mid bs ([([116], p1), ([49], p2), ([49], p3), (Lib.itoa (N4 : Int), 6), ([53], p5), ([49], p6)] ++ r) ∧ r.length = 3 * i ∧ (∀ x ∈ r, x.1 = [48]) ∧ wr = w1) (fun _ iv _ => N4 - (intOf iv).toNat)
      case atStart => exact ⟨0, b2', [], rfl, Nat.zero_le _, rfl, by omega, HM.out, rfl, (fun x hx => by cases hx), rfl⟩
      case round =>
        obtain ⟨i, bs, r, rfl, hi, rfl, hbl, hbm, hrl, hrx, rfl⟩ := hrel
        by_cases hlt : i < N4
        · have hltI : decide ((i : Int) < (N4 : Int)) = true := decide_eq_true (by omega)
          have s3 : ∀ W : World, (Op.stringOp .add ⟨bs.toArray⟩ ⟨#[32, 48, 32, 48, 32, 48]⟩).run Tryd.prog W = .ok (strV (bs ++ [32, 48, 32, 48, 32, 48])) W := sadd bs [32, 48, 32, 48, 32, 48] (by simp; omega)
          have m1 := hbm.snoc (v := [48]) (by decide) (by decide)
          have m2 := m1.snoc (v := [48]) (by decide) (by decide)
          have HMM := Lib.hid (m2.snoc (v := [48]) (by decide) (by decide))
          have HL : Hid ((bs ++ [32, 48, 32, 48, 32, 48]).length ≤ 30 + 6 * (i + 1)) := by rw [Hid, List.length_append]; simp; omega
          have HR := Lib.hid (And.intro hrl hrx)
          clear hbm hrl hrx hbl m1 m2
          go_wp2_with fail
          go_roundw
          case measure => simp [intOf]; omega
          case rel =>
            refine ⟨i + 1, bs ++ [32, 48, 32, 48, 32, 48], r ++ [([48], bs.length + 1), ([48], bs.length + 2 + 1), ([48], bs.length + 4 + 1)], by go_num, by omega, rfl, HL.out, ?_, by rw [List.length_append, HR.out.1]; simp; omega, fun x hx => ?_, by first | rfl | trivial⟩
            · have := HMM.out
              simp only [List.append_assoc, List.length_append, List.length_cons, List.length_nil, List.cons_append, List.nil_append] at this ⊢
              exact this
            · rcases List.mem_append.1 hx with hx | hx
              · exact HR.out.2 x hx
              · simp only [List.mem_cons, List.not_mem_nil, or_false] at hx
                rcases hx with rfl | rfl | rfl <;> rfl
        · obtain rfl : i = N4 := by omega
          have hltI : decide ((i : Int) < (i : Int)) = false := decide_eq_false (by omega)
          have HX := Lib.hid (HLV.out bs r (by omega) hbm hrl hrx)
          clear hbm hrl hrx
          go_wp2_with fail
          go_meet
          case rel => exact ⟨rfl, bs, 6, rfl, rfl, HX.out, HB1.out⟩
    · have kI : (u : Int).tmod 5 = 4 := kI
      go_wp2_with fail
      go_meet
      case rel => exact ⟨rfl, tupT, 20, rfl, rfl, large_tup, HB1.out⟩
  case rest =>
    obtain ⟨rfl, bs, x, rfl, rfl, hL, hbc⟩ := hcut
    have hlen := hL.1
    have HBC := Lib.hid hbc
    have HL := Lib.hid hL
    clear hL hbc HD1 HD2 HD3 HD4 kI kw rI n1I rw1 nw1 iw1 r9I n2I rw9 nw2 iw2 n3I iw3 r5I n4I rw5 nw4 iw4 iwn b1 b2 b3 b4
    cases c with
    | true =>
      have s1 : ∀ W : World, (Op.stringOp .add ⟨bs.toArray⟩ ⟨#[32, 120]⟩).run Tryd.prog W = .ok (strV (bs ++ [32, 120])) W := sadd bs [32, 120] (by simp; omega)
      obtain ⟨l, htl, hp⟩ := HL.out.wrong
      obtain ⟨b2, hb2⟩ : ∃ b2, bs ++ [32, 120] = b2 := ⟨_, rfl⟩
      have hl2 : b2.length = bs.length + 1 + 1 := by rw [← hb2]; simp
      rw [hb2] at s1 htl hp
      have hsz : (⟨b2.toArray⟩ : ByteArray).size = bs.length + 1 + 1 := by rw [slen, hl2]
      obtain ⟨q, hq⟩ : ∃ q, bs.length + 1 = q := ⟨_, rfl⟩
      rw [hq] at hsz hp hl2
      have hcv := conv_str b2
      have hrd := read_any (some ⟨wc.heap.size, 0, none⟩) b2.length (grownCap wc b2.length 0 5) b2 (-1) l (bw wc b2) rfl (bw_reads wc b2) (by omega) htl (HT.out.below (bto HBC.out (bw_below wc b2)))
      have HP := Lib.hid hp
      clear hb2 htl hp hl2
      go_wp2_with fail
      refine hrd.mono ?_
      rintro e w2 ⟨hb2, hm2⟩
      rw [HP.out] at hm2
      obtain rfl := hm2
      have HBF := Lib.hid (bto (bto HBC.out (bw_below wc b2)) hb2)
      clear hrd hb2
      go_wp2_with fail
      go_ret
      exact ⟨rfl, HBF.out⟩
    | false =>
      obtain ⟨l, htl, hp⟩ := HL.out.said
      have hcv := conv_str bs
      have hrd := read_any (some ⟨wc.heap.size, 0, none⟩) bs.length (grownCap wc bs.length 0 5) bs (-1) l (bw wc bs) rfl (bw_reads wc bs) (by omega) htl (HT.out.below (bto HBC.out (bw_below wc bs)))
      have HP := Lib.hid hp
      clear htl hp
      go_wp2_with fail
      refine hrd.mono ?_
      rintro e w2 ⟨hb2, hm2⟩
      rw [HP.out] at hm2
      obtain rfl := hm2
      have HBF := Lib.hid (bto (bto HBC.out (bw_below wc bs)) hb2)
      clear hrd hb2
      go_wp2_with fail
      go_ret
      exact ⟨rfl, HBF.out⟩
def tab0 : List Int := [1, 10, 100, 1000, 10000, 100000, 1000000, 10000000, 100000000, 1000000000, 10000000000, 100000000000, 1000000000000, 10000000000000, 100000000000000, 1000000000000000, 10000000000000000, 100000000000000000, 1000000000000000000, 10000000000000000000]
theorem gTab0 : Tryd.prog.globalNamed "internal/strconv.uint64pow10" = some 0 := by kernel_rfl
theorem gTabType0 : (Tryd.prog.globals[0]?).map (·.type) = some 204 := by kernel_rfl
theorem cellsA0 : Tryd.prog.cellsOf 204 = tab0.length := by kernel_rfl
theorem cellsE0 : Tryd.prog.cellsOf 154 = 1 := by kernel_rfl
theorem table0 {W : World} (h : laidMetH Tryd.prog Rows.wcspLargeRow.laid W) : Lib.TabIs Tryd.prog W "internal/strconv.uint64pow10" .u64 tab0 :=
  Lib.tabIs_of_head gTab0 gTabType0 Tryd.underlying204 Tryd.underlying154 cellsE0 cellsA0 (laidMet.tail (laidMet.tail h))
theorem walk (a0 : Int) (a1 : Int) (a2 : Bool) (w : World) (w0 : (Lit.int .u8 a0).wf = true) (w1 : (Lit.int .u16 a1).wf = true) (ht : Tab w) :
    Calls Tryd.prog 4 #[.int .u8 a0, .int .u16 a1, .bool a2] w fun e w' => e = .returned (.bool true) ∧ Below w.heap.size w w' := by
  have h0 := bounds_u8 w0
  have h1 := bounds_u16 w1
  obtain ⟨u, rfl⟩ := Int.eq_ofNat_of_zero_le h0.1
  obtain ⟨n, rfl⟩ := Int.eq_ofNat_of_zero_le h1.1
  exact core u n a2 w (by omega) (by omega) ht

set_option maxRecDepth 100000 in
theorem contract (H : Type) (enc : TypeId × Value → H) (W : World) (base : Nat) (args : Array Value) (ds gs : List (DataW H)) (before : List MemPlace)
    (hval0 : ∀ (j : Nat) t v, Tryd.f4.params[j]? = some t → args[j]? = some v → Value.okWide Tryd.prog W .any base t v)
    (hW : DataW.Whole enc Tryd.prog Tryd.f4.params.toList Rows.wcspLargeSpec.vars false W args.toList ds gs before) (hL : laidMetH Tryd.prog Rows.wcspLargeRow.laid W) :
    Calls Tryd.prog 4 args W fun e W' => ∃ v, e = .returned v ∧ Rows.wcspLargeSpec.post enc Tryd.prog Tryd.f4 false true false false W args v W' := by
  have hval : ∀ (j : Nat) t v, Tryd.f4.params[j]? = some t → args[j]? = some v → Value.okWide Tryd.prog W .any base t v := hval0
  have hW' := hW
  obtain ⟨p, q, hA0, hV, rfl, hfz, hnd⟩ := hW
  have hA : DataW.TrodAll enc Tryd.prog W 0 (fun _ => true) true Tryd.f4.params.toList args.toList ds p := hA0
  rw [Tryd.params4] at hA hval
  obtain ⟨v0, vs0, d0, ds0, p0, q0, hargs, rfl, rfl, h0, r0⟩ := trodAll_cons hA
  obtain ⟨v1, vs1, d1, ds1, p1, q1, rfl, rfl, rfl, h1, r1⟩ := trodAll_cons r0
  obtain ⟨v2, vs2, d2, ds2, p2, q2, rfl, rfl, rfl, h2, r2⟩ := trodAll_cons r1
  obtain ⟨rfl, rfl, rfl⟩ := trodAll_nil r2
  obtain rfl : args = #[v0, v1, v2] := by cases args; simp_all
  obtain ⟨rfl, rfl⟩ := trodVars_none hV
  obtain ⟨a0, rfl, rfl, rfl, w0⟩ := open_int Tryd.underlying5 (hval 0 5 v0 rfl rfl) h0
  obtain ⟨a1, rfl, rfl, rfl, w1⟩ := open_int Tryd.underlying42 (hval 1 42 v1 rfl rfl) h1
  obtain ⟨a2, rfl, rfl, rfl⟩ := open_bool Tryd.underlying4 (hval 2 4 v2 rfl rfl) h2
  clear hA0 hval0
  simp only [List.append_nil] at hW'
  have htab : Tab W := (pow_tab (table0 hL))
  refine (walk a0 a1 a2 W w0 w1 htab).mono fun e W' ⟨he, bel⟩ => ?_
  subst he
  exact ⟨_, rfl, _, _, _, [], _, [], hW', trodAll_mk1 (shut_bool Tryd.underlying4 _), (trodAll_cons_mk (shut_int Tryd.underlying5 w0) (trodAll_cons_mk (shut_int Tryd.underlying42 w1) (trodAll_cons_mk (shut_bool Tryd.underlying4 _) trodAll_mk0))), rfl, bel.frame _, fun h => by cases h⟩
noncomputable def laidWorld (os : Os) : World :=
  { World.holding Tryd.prog os ⟨#[], #[], []⟩ with heap := ((((World.holding Tryd.prog os ⟨#[], #[], []⟩).heap.modify 1 (fun | .cells _ t frozen => .cells #[.int .u8 0, .int .u8 1, .int .u8 28, .int .u8 2, .int .u8 29, .int .u8 14, .int .u8 24, .int .u8 3, .int .u8 30, .int .u8 22, .int .u8 20, .int .u8 15, .int .u8 25, .int .u8 17, .int .u8 4, .int .u8 8, .int .u8 31, .int .u8 27, .int .u8 13, .int .u8 23, .int .u8 21, .int .u8 19, .int .u8 16, .int .u8 7, .int .u8 26, .int .u8 12, .int .u8 18, .int .u8 6, .int .u8 11, .int .u8 5, .int .u8 10, .int .u8 9] t frozen | o => o)).modify 2 (fun | .cells _ t frozen => .cells #[.int .u8 0, .int .u8 1, .int .u8 56, .int .u8 2, .int .u8 57, .int .u8 49, .int .u8 28, .int .u8 3, .int .u8 61, .int .u8 58, .int .u8 42, .int .u8 50, .int .u8 38, .int .u8 29, .int .u8 17, .int .u8 4, .int .u8 62, .int .u8 47, .int .u8 59, .int .u8 36, .int .u8 45, .int .u8 43, .int .u8 51, .int .u8 22, .int .u8 53, .int .u8 39, .int .u8 33, .int .u8 30, .int .u8 24, .int .u8 18, .int .u8 12, .int .u8 5, .int .u8 63, .int .u8 55, .int .u8 48, .int .u8 27, .int .u8 60, .int .u8 41, .int .u8 37, .int .u8 16, .int .u8 46, .int .u8 35, .int .u8 44, .int .u8 21, .int .u8 52, .int .u8 32, .int .u8 23, .int .u8 11, .int .u8 54, .int .u8 26, .int .u8 40, .int .u8 15, .int .u8 34, .int .u8 20, .int .u8 31, .int .u8 10, .int .u8 25, .int .u8 14, .int .u8 19, .int .u8 9, .int .u8 13, .int .u8 8, .int .u8 7, .int .u8 6] t frozen | o => o)).modify 0 (fun | .cells _ t frozen => .cells #[.int .u64 1, .int .u64 10, .int .u64 100, .int .u64 1000, .int .u64 10000, .int .u64 100000, .int .u64 1000000, .int .u64 10000000, .int .u64 100000000, .int .u64 1000000000, .int .u64 10000000000, .int .u64 100000000000, .int .u64 1000000000000, .int .u64 10000000000000, .int .u64 100000000000000, .int .u64 1000000000000000, .int .u64 10000000000000000, .int .u64 100000000000000000, .int .u64 1000000000000000000, .int .u64 10000000000000000000] t frozen | o => o)) }
theorem laid_met (os : Os) : laidMet Tryd.prog Rows.wcspLargeRow.laid ((laidWorld os).forCall (fun _ _ => 0) ⟨#[], #[.int .u8 0, .int .u16 0, .bool false], []⟩).memory :=
  laidMet_of_run' 8 (by kernel_rfl) (by kernel_rfl)
theorem reads (os : Os) {H : Type} (enc : TypeId × Value → H) : ∃ places, DataW.whole enc Tryd.prog ((laidWorld os).forCall (fun _ _ => 0) ⟨#[], #[.int .u8 0, .int .u16 0, .bool false], []⟩).memory Tryd.f4.params.toList Rows.wcspLargeSpec.vars false (#[.int .u8 0, .int .u16 0, .bool false] : Array Value).toList 8 = some ([.lit (.int .u8 0), .lit (.int .u16 0), .lit (.bool false)], [], places) :=
  ⟨[], by kernel_rfl⟩
set_option maxRecDepth 100000 in
theorem lifted (os : Os) (started : os.Started) (H : Type) (enc : TypeId × Value → H) (F : Stop.Interp) :
    ReturnsInHanded {} Tryd.checked os 4 .any ((OpenSpec.ofChange Rows.wcspLargeSpec).preRow enc Tryd.prog Tryd.f4 Rows.wcspLargeRow.domain false Rows.wcspLargeRow.laid) (((OpenSpec.ofChange Rows.wcspLargeSpec).at F).post enc Tryd.prog Tryd.f4 false true false false) := by
  obtain ⟨places, hx⟩ := reads os enc
  refine returnsInHanded_of_row (C := Tryd.checked) (s := OpenSpec.ofChange Rows.wcspLargeSpec) own started (by kernel_rfl) Tryd.func4
    (witness_row_at (enc := enc) (C := Tryd.checked) false (laidWorld os) #[.int .u8 0, .int .u16 0, .bool false] rfl (by kernel_rfl) (by kernel_rfl) (by kernel_rfl)
      (OpenSpec.preRow_of_cond 8 hx (by kernel_rfl) (fun k hk => by cases hk) (by kernel_rfl) (laid_met os))) ?_
  intro W base args ds gs before hval hW _ _ _ hL _ _
  exact contract H enc W base args ds gs before hval hW hL
theorem said : Rows.WcspLargeSaid :=
  OpenClaim.holds_of_cond 4 Tryd.f4 rfl rfl rfl rfl rfl rfl rfl ⟨rfl, rfl, rfl, rfl, rfl⟩ rfl rfl rfl rfl rfl (by kernel_rfl) Tryd.func4 (by kernel_rfl)
    (of_decide_eq_true (by kernel_rfl)) (by unfold Func.isWrapper; first | (rw [if_pos (by decide +kernel)]; kernel_rfl) | (rw [if_neg (by decide +kernel)]; exact ⟨rfl, rfl⟩))
    (fun os started H enc _ F => by rw [OpenClaim.pre_eq_preRow]; exact lifted os started H enc F)
theorem plain (f : FuncId) (fn : Func) (hf : Tryd.pinned.checked.prog.funcNamed "pennyweight/pennyweightlaw07.WcspLarge" = some f) (hfn : Tryd.pinned.checked.prog.funcs[f]? = some fn) :
    false = Tryd.pinned.checked.prog.looks [] ∧ ∀ (j : Nat) t, fn.params[j]? = some t → Tryd.pinned.checked.prog.wantsStandIn t = false := by
  obtain rfl : f = 4 := Option.some.inj ((show Tryd.prog.funcNamed "pennyweight/pennyweightlaw07.WcspLarge" = some 4 by kernel_rfl).symm.trans hf) |>.symm
  obtain rfl : fn = Tryd.f4 := (Option.some.inj (Tryd.func4.symm.trans hfn)).symm
  refine ⟨by kernel_rfl, fun j t ht => ?_⟩
  rw [Tryd.params4] at ht
  have hm := Array.mem_of_getElem? ht
  simp only [Array.mem_def, List.mem_cons, List.not_mem_nil, or_false] at hm
  rcases hm with rfl | rfl | rfl <;> (show Tryd.prog.wantsStandIn _ = false; kernel_rfl)
theorem proved : Rows.WcspLargeCardSaid :=
  Claim7.holds_tied_plain_at .later [] _ _ _ _ said (fun _ h => by cases h) (by kernel_rfl) (fun _ h => by cases h) wcspLarge_row_tie rfl ⟨rfl, rfl⟩ (by kernel_rfl) rfl plain (by kernel_rfl)
end Go.Proofs.YtafdijfbgkcnnaaDoor.wcspLarge
