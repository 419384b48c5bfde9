/- Numbers written: the library's, the document's; read again. -/
import Derived.Test.YtbdeghhoophkbaaDoorScLaw
import Derived.Shelf.Strconv.Itoa4
import Derived.Ground.NamesProg
import Derived.Lib.ItoaLen
import Derived.Laws.Concat
namespace Go.Proofs
open Go.Shelf
def Tryd.lays173_ren : Go.Shelf.Ren := ⟨fun | 173 => 15 | 246 => 21 | 283 => 22 | 284 => 23 | 285 => 24 | 286 => 25 | 129 => 27 | 317 => 26 | 318 => 28 | 319 => 29 | 320 => 30 | 337 => 31 | 338 => 32 | n => n, fun | 2 => 2 | 3 => 3 | 9 => 9 | 4 => 4 | 171 => 47 | 0 => 0 | 53 => 39 | 37 => 38 | 5 => 5 | 173 => 50 | 212 => 54 | 51 => 55 | 20 => 20 | 213 => 56 | 46 => 58 | 232 => 61 | 233 => 62 | n => n, fun | 17 => 0 | 18 => 1 | 19 => 2 | n => n⟩
theorem Tryd.lays173 : Go.Proofs.LaysM.n173 Tryd.prog Tryd.lays173_ren := {
  mixed := by kernel_rfl
  f129 := Tryd.func27.trans (congrArg some (by kernel_rfl))
  f173 := Tryd.func15.trans (congrArg some (by kernel_rfl))
  f246 := Tryd.func21.trans (congrArg some (by kernel_rfl))
  f283 := Tryd.func22.trans (congrArg some (by kernel_rfl))
  f284 := Tryd.func23.trans (congrArg some (by kernel_rfl))
  f285 := Tryd.func24.trans (congrArg some (by kernel_rfl))
  f286 := Tryd.func25.trans (congrArg some (by kernel_rfl))
  f317 := Tryd.func26.trans (congrArg some (by kernel_rfl))
  f318 := Tryd.func28.trans (congrArg some (by kernel_rfl))
  f319 := Tryd.func29.trans (congrArg some (by kernel_rfl))
  f320 := Tryd.func30.trans (congrArg some (by kernel_rfl))
  f337 := Tryd.func31.trans (congrArg some (by kernel_rfl))
  f338 := Tryd.func32.trans (congrArg some (by kernel_rfl))
  t0 := Tryd.underlying0
  a0 := Tryd.isAgg0
  z0 := Tryd.sizeOf0
  v0 := Tryd.zeroValue0
  t2 := Tryd.underlying2
  a2 := Tryd.isAgg2
  z2 := Tryd.sizeOf2
  v2 := Tryd.zeroValue2
  t3 := Tryd.underlying3
  a3 := Tryd.isAgg3
  z3 := Tryd.sizeOf3
  v3 := Tryd.zeroValue3
  t4 := Tryd.underlying4
  a4 := Tryd.isAgg4
  z4 := Tryd.sizeOf4
  v4 := Tryd.zeroValue4
  t5 := Tryd.underlying5
  a5 := Tryd.isAgg5
  z5 := Tryd.sizeOf5
  v5 := Tryd.zeroValue5
  t9 := Tryd.underlying9
  a9 := Tryd.isAgg9
  z9 := Tryd.sizeOf9
  v9 := Tryd.zeroValue9
  t20 := Tryd.underlying20
  a20 := Tryd.isAgg20
  z20 := Tryd.sizeOf20
  v20 := Tryd.zeroValue20
  t37 := Tryd.underlying38
  a37 := Tryd.isAgg38
  z37 := Tryd.sizeOf38
  v37 := Tryd.zeroValue38
  t46 := Tryd.underlying58
  a46 := Tryd.isAgg58
  z46 := Tryd.sizeOf58
  v46 := Tryd.zeroValue58
  t51 := Tryd.underlying55
  a51 := Tryd.isAgg55
  z51 := Tryd.sizeOf55
  v51 := Tryd.zeroValue55
  t53 := Tryd.underlying39
  a53 := Tryd.isAgg39
  z53 := Tryd.sizeOf39
  v53 := Tryd.zeroValue39
  t171 := Tryd.underlying47
  a171 := Tryd.isAgg47
  z171 := Tryd.sizeOf47
  v171 := Tryd.zeroValue47
  t173 := Tryd.underlying50
  a173 := Tryd.isAgg50
  z173 := Tryd.sizeOf50
  v173 := Tryd.zeroValue50
  t212 := Tryd.underlying54
  a212 := Tryd.isAgg54
  z212 := Tryd.sizeOf54
  v212 := Tryd.zeroValue54
  t213 := Tryd.underlying56
  a213 := Tryd.isAgg56
  z213 := Tryd.sizeOf56
  t232 := Tryd.underlying61
  a232 := Tryd.isAgg61
  z232 := Tryd.sizeOf61
  v232 := Tryd.zeroValue61
  t233 := Tryd.underlying62
  a233 := Tryd.isAgg62
  z233 := Tryd.sizeOf62
  v233 := Tryd.zeroValue62
  g17 := by kernel_rfl
  g18 := by kernel_rfl
  g19 := by kernel_rfl
  i0 := by kernel_rfl
  i2 := by kernel_rfl
  i3 := by kernel_rfl
  i4 := by kernel_rfl
  i5 := by kernel_rfl
  i9 := by kernel_rfl
  i20 := by kernel_rfl
  i37 := by kernel_rfl
  i46 := by kernel_rfl
  i51 := by kernel_rfl
  i53 := by kernel_rfl
  i171 := by kernel_rfl
  i173 := by kernel_rfl
  i212 := by kernel_rfl
  i232 := by kernel_rfl
  i233 := by kernel_rfl
  m17 := by kernel_rfl
  m18 := by kernel_rfl
  m19 := by kernel_rfl }
end Go.Proofs
namespace Go.Proofs.YtbdeghhoophkbaaDoor.scn
open Go Go.RowKit Go.ChangeShapes Go.WideShapes Go.ChangeAt Go.Proofs.YtbdeghhoophkbaaDoor.words
set_option linter.unusedVariables false
def Tab (w : World) : Prop := Lib.TabIs Tryd.prog w "internal/strconv.uint64pow10" .u64 Lib.pow10Tab
theorem gPow : Tryd.prog.globalNamed "internal/strconv.uint64pow10" = some 0 := by kernel_rfl
theorem Tab.lt {w : World} (h : Tab w) : 0 < w.heap.size :=
  World.block_lt_of_cell? w _ (Lib.TabIs.cell h gPow 0 (by decide))
theorem Tab.below {w w' : World} (h : Tab w) (hb : Below w.heap.size w w') : Tab w' := by
  have hl := h.lt
  unfold Tab Lib.TabIs World.var? at h ⊢
  rw [gPow] at h ⊢
  simp only [Option.bind_some] at h ⊢
  rw [hb.block _ hl]
  exact h
theorem grow_below (w : World) (k : Nat) (os : Array Obj) : Below w.heap.size w (Sort.grow (w.drewN k) os) := by
  refine ⟨rfl, rfl, rfl, ?_, fun i hi => ?_⟩
  · simp [Sort.grow, World.drewN]
  · simp [Sort.grow, World.drewN]
    exact Array.getElem?_append_left hi
theorem write_any (n : Int) (w : World) (h0 : -9223372036854775808 ≤ n) (h1 : n ≤ 9223372036854775807) (ht : Tab w) :
    Calls Tryd.prog 8 #[.int .i64 n] w fun e w' => e = .returned (strV (Lib.itoa n)) ∧ Below w.heap.size w w' := by
  have hf : Calls Tryd.prog 15 #[.int .i64 n, .int .i64 10] w fun e w' => e = .returned (strV (Lib.itoa n)) ∧ ∃ k os, w' = Sort.grow (w.drewN k) os := Any.strconv_FormatInt_10 Tryd.lays173 n h0 h1 w ht
  go_enter Tryd.func8, Tryd.ntmps8
  go_wp2_with (first | (go_at_call 15; (with_reducible refine hf.mono ?_); rintro e w1 ⟨rfl, k, os, rfl⟩) | fail)
  go_ret
  exact ⟨rfl, grow_below _ _ _⟩
/-! plain: digits -/
theorem dd_small {u : Nat} (h : u < 10) : Lib.decDigits u = [UInt8.ofNat (48 + u)] := Lib.decDigits_one h
theorem dd_more {u : Nat} (h : ¬ u < 10) : Lib.decDigits u = Lib.decDigits (u / 10) ++ [UInt8.ofNat (48 + u % 10)] := by rw [Lib.decDigits, dif_neg h]
theorem dig_nat {d : Nat} (h : d < 10) : (UInt8.ofNat (48 + d)).toNat = 48 + d := by rw [UInt8.toNat_ofNat']; omega
theorem dd_all : ∀ (u : Nat), dec (Lib.decDigits u) = u ∧ (Lib.decDigits u).all isD = true ∧ Lib.decDigits u ≠ [] := by
  intro u
  induction u using Nat.strongRecOn with
  | _ u ih =>
    by_cases h : u < 10
    · rw [dd_small h]
      refine ⟨?_, ?_, by simp⟩
      · simp only [dec, List.foldl_cons, List.foldl_nil, dig_nat h]; omega
      · simp only [List.all_cons, List.all_nil, Bool.and_true, isD, dig_nat h, Bool.and_eq_true, decide_eq_true_eq]; omega
    · obtain ⟨h1, h2, h3⟩ := ih (u / 10) (by omega)
      rw [dd_more h]
      have hd : u % 10 < 10 := Nat.mod_lt _ (by omega)
      refine ⟨?_, ?_, by simp⟩
      · rw [dec_snoc, h1, dig_nat hd]; omega
      · rw [List.all_append, h2]
        simp only [List.all_cons, List.all_nil, Bool.and_true, Bool.true_and, isD, dig_nat hd, Bool.and_eq_true, decide_eq_true_eq]; omega
/-- noughts ahead change nothing -/
theorem dec_noughts (k : Nat) (l : List UInt8) : dec (List.replicate k 48 ++ l) = dec l ∧ ((List.replicate k 48 ++ l).all isD = l.all isD) := by
  induction k with
  | zero => exact ⟨rfl, rfl⟩
  | succ k ih =>
    rw [List.replicate_succ, List.cons_append]
    refine ⟨?_, ?_⟩
    · rw [← ih.1]
      simp [dec]
    · rw [← ih.2, List.all_cons]
      rfl
theorem readW_digits {l : List UInt8} (h0 : l ≠ []) (h : l.all isD = true) : readW l = (((min (dec l) farN : Nat) : Int), 0) := by
  cases l with
  | nil => exact absurd rfl h0
  | cons b r =>
    have hb : ¬ b.toNat = 45 := by
      have := List.all_eq_true.1 h b (by simp)
      simp only [isD, Bool.and_eq_true, decide_eq_true_eq] at this
      omega
    exact pos_some hb (readN_some (by simp) rfl h)
theorem readW_noughts (k u : Nat) : readW (List.replicate k 48 ++ Lib.decDigits u) = (((min u farN : Nat) : Int), 0) := by
  obtain ⟨h1, h2, h3⟩ := dd_all u
  obtain ⟨e1, e2⟩ := dec_noughts k (Lib.decDigits u)
  rw [readW_digits (by simp [h3]) (e2.trans h2), e1, h1]
theorem readW_itoa (n : Int) : readW (Lib.itoa n) = (max (min n 4611686018427387904) (-4611686018427387904), 0) := by
  unfold Lib.itoa
  by_cases h : n < 0
  · rw [if_pos h]
    obtain ⟨h1, h2, h3⟩ := dd_all n.natAbs
    rw [neg_some (b := 45) rfl (readN_some h3 rfl h2), h1]
    congr 1
    unfold farN
    omega
  · rw [if_neg h]
    have := readW_noughts 0 n.toNat
    rw [List.replicate_zero, List.nil_append] at this
    rw [this]
    congr 1
    unfold farN
    omega
theorem itoa_len (n : Int) (h0 : -9223372036854775808 ≤ n) (h1 : n ≤ 9223372036854775807) : (Lib.itoa n).length ≤ 21 := Lib.itoa_length_le n h0 h1
theorem dd_len {u : Nat} (h : u < 18446744073709551616) : (Lib.decDigits u).length ≤ 20 := by rw [Lib.decDigits_length]; exact Lib.nDigits_le20 u h
/-! the document's -/
theorem dig_slice : ∀ r, r < 10 → (⟨#[48, 49, 50, 51, 52, 53, 54, 55, 56, 57]⟩ : ByteArray).extract r (r + 1) = ⟨[UInt8.ofNat (48 + r)].toArray⟩ := by decide
theorem digits_any : ∀ (u : Nat) (w : World), u < 18446744073709551616 → Calls Tryd.prog 16 #[.int .u64 u] w fun e w' => e = .returned (strV (Lib.decDigits u)) ∧ w = w' := by
  intro u
  induction u using Nat.strongRecOn with
  | _ u ih =>
    intro w hu
    obtain ⟨r, hr⟩ : ∃ r, u % 10 = r := ⟨_, rfl⟩
    obtain ⟨q, hq⟩ : ∃ q, u / 10 = q := ⟨_, rfl⟩
    have hr10 : r < 10 := by omega
    have hrI : (u : Int).tmod 10 = (r : Int) := by rw [Int.tmod_eq_emod_of_nonneg (by omega)]; omega
    have hqI : (u : Int).tdiv 10 = (q : Int) := by rw [Int.tdiv_eq_ediv_of_nonneg (by omega)]; omega
    have w1 : IntKind.u64.wrap (r : Int) = (r : Int) := by rw [IntKind.wrap_u64]; omega
    have w2 : IntKind.u64.wrap (q : Int) = (q : Int) := by rw [IntKind.wrap_u64]; omega
    obtain ⟨r1, hr1⟩ : ∃ r1, r + 1 = r1 := ⟨_, rfl⟩
    have r1I : (r : Int) + 1 = (r1 : Int) := by omega
    have w3 : IntKind.u64.wrap (r1 : Int) = (r1 : Int) := by rw [IntKind.wrap_u64]; omega
    have hsl := dig_slice r hr10
    rw [hr1] at hsl
    obtain ⟨b, hb⟩ : ∃ b, UInt8.ofNat (48 + r) = b := ⟨_, rfl⟩
    rw [hb] at hsl
    have hmk : (⟨[b].toArray⟩ : ByteArray) = ⟨#[b]⟩ := rfl
    have rr : (r : Int) ≤ (r1 : Int) := by omega
    have rs : (r1 : Int) ≤ 10 := by omega
    by_cases h : u < 10
    · obtain rfl : u = r := by omega
      have hdd := dd_small h
      rw [hb] at hdd
      have hdd := Lib.hid hdd
      clear hb
      have b1 : decide (u < 10) = true := decide_eq_true h
      have b1I : decide ((u : Int) < 10) = true := decide_eq_true (by omega)
      clear hr hq hr1 ih
      go_enter Tryd.func16, Tryd.ntmps16
      go_wp2_with fail
      go_ret
      exact ⟨by first | rfl | (rw [hdd.out]; rfl), rfl⟩
    · have hdd := dd_more h
      rw [hq, hr] at hdd
      rw [hb] at hdd
      have hdl := dd_len (u := q) (by omega)
      have hsum : ∀ W : World, (Op.stringOp .add ⟨(Lib.decDigits q).toArray⟩ ⟨[b].toArray⟩).run Tryd.prog W = .ok (strV (Lib.decDigits u)) W := fun W => by
        rw [run_string_add_sum W _ _ (by simp [ByteArray.size]; omega), ByteArray.mk_append_mk, ← hdd]
      have HI := ih q (by omega) w (by omega)
      have b1 : decide (u < 10) = false := decide_eq_false h
      have b1I : decide ((u : Int) < 10) = false := decide_eq_false (by omega)
      clear hr hq hr1 ih hdd hdl hb
      go_enter Tryd.func16, Tryd.ntmps16
      go_wp2_with (first | (go_at_call 16; (with_reducible refine HI.mono ?_); rintro e w1 ⟨rfl, rfl⟩) | fail)
      go_ret
      exact ⟨rfl, rfl⟩
theorem dec_any (n : Int) (w : World) (h0 : -9223372036854775808 ≤ n) (h1 : n ≤ 9223372036854775807) :
    Calls Tryd.prog 9 #[.int .i64 n] w fun e w' => e = .returned (strV (Lib.itoa n)) ∧ w = w' := by
  by_cases h : n < 0
  · obtain ⟨m, rfl⟩ : ∃ m : Nat, n = -(m : Int) - 1 := ⟨(-n - 1).toNat, by omega⟩
    have e1 : -(m : Int) - 1 + 1 = -(m : Int) := by omega
    have e2 : IntKind.i64.wrap (-(m : Int)) = -(m : Int) := by rw [IntKind.wrap_i64]; omega
    have e3 : IntKind.i64.wrap (m : Int) = (m : Int) := by rw [IntKind.wrap_i64]; omega
    have e4 : IntKind.u64.wrap (m : Int) = (m : Int) := by rw [IntKind.wrap_u64]; omega
    obtain ⟨m1, hm1⟩ : ∃ m1, m + 1 = m1 := ⟨_, rfl⟩
    have m1I : (m : Int) + 1 = (m1 : Int) := by omega
    have e5 : IntKind.u64.wrap (m1 : Int) = (m1 : Int) := by rw [IntKind.wrap_u64]; omega
    have hit : Lib.itoa (-(m : Int) - 1) = 45 :: Lib.decDigits m1 := by
      rw [show -(m : Int) - 1 = -(m1 : Int) by omega]; exact Lib.itoa_neg m1 (by omega)
    have hdl := dd_len (u := m1) (by omega)
    have hsum := run_string_add_sum (P := Tryd.prog) w ⟨#[45]⟩ ⟨(Lib.decDigits m1).toArray⟩ (by simp [ByteArray.size]; omega)
    rw [show (⟨#[45]⟩ : ByteArray) ++ ⟨(Lib.decDigits m1).toArray⟩ = ⟨(45 :: Lib.decDigits m1).toArray⟩ from ByteArray.mk_append_mk [45] _] at hsum
    have HI := digits_any m1 w (by omega)
    have HIT := Lib.hid hit
    have b1 : decide (-(m : Int) - 1 < 0) = true := decide_eq_true h
    clear hm1 hdl hit
    go_enter Tryd.func9, Tryd.ntmps9
    go_wp2_with (first | (go_at_call 16; (with_reducible refine HI.mono ?_); rintro e w1 ⟨rfl, rfl⟩) | fail)
    go_ret
    exact ⟨by rw [HIT.out]; rfl, rfl⟩
  · obtain ⟨m, rfl⟩ : ∃ m : Nat, n = (m : Int) := ⟨n.toNat, by omega⟩
    have e4 : IntKind.u64.wrap (m : Int) = (m : Int) := by rw [IntKind.wrap_u64]; omega
    have HI := digits_any m w (by omega)
    have HIT := Lib.hid (Lib.itoa_nonneg m)
    have b1 : decide ((m : Int) < 0) = false := decide_eq_false h
    go_enter Tryd.func9, Tryd.ntmps9
    go_wp2_with (first | (go_at_call 16; (with_reducible refine HI.mono ?_); rintro e w1 ⟨rfl, rfl⟩) | fail)
    go_ret
    exact ⟨by rw [HIT.out]; rfl, rfl⟩
end Go.Proofs.YtbdeghhoophkbaaDoor.scn
