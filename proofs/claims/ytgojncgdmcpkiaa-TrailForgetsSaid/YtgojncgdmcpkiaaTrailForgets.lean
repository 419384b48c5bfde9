/- For every input TrailForgets returns true; its arguments read as before. No condition. -/
import Derived.Test.YtgojncgdmcpkiaaRows
import Derived.WalkKit
import Derived.ProofKit
import Derived.OpenShut
import Derived.ShutString
import Derived.ChangeOld
import Derived.Below
import Derived.Test.YtgojncgdmcpkiaaOpen
import Derived.Test.YtgojncgdmcpkiaaTrTwo
import Derived.Test.YtgojncgdmcpkiaaU8Rows
import Derived.Test.YtgojncgdmcpkiaaI64Clone
import Derived.Test.YtgojncgdmcpkiaaIntEq64
import Derived.Deep.LoopGhost
import Derived.Deep.DeepCutAuto
import Derived.Deep.CutBlock
namespace Go.Proofs.Ytgojncgdmcpkiaa.trailForgets
open Go.Proofs.Ytgojncgdmcpkiaa.trl Go.Proofs.Ytgojncgdmcpkiaa.words
open Go.ChangeShapes Go.WideShapes Go.ChangeAt Go.RowKit
open Go.ChangeMaps (open_string shut_string)
set_option linter.unusedVariables false
theorem own : ownKnob Try.prog.godebug = none := by kernel_rfl
theorem laidOut : laidOutB Try.prog = true := by kernel_rfl
theorem fill_set {ps : List Int} {i n : Nat} {v : Int} (hl : ps.length = n) (hi : i < n) (hv : ps[i]? = some v) : (ps.take i ++ List.replicate (n - i) 0).set i v = ps.take (i + 1) ++ List.replicate (n - (i + 1)) 0 := by
  have h0 : (ps.take i).length = i := by rw [List.length_take]; omega
  rw [List.set_append_right _ _ (by omega), h0, Nat.sub_self, show n - i = (n - (i + 1)) + 1 by omega, List.replicate_succ (n := n - (i + 1)), List.set_cons_zero, List.take_add_one, hv]
  simp
set_option maxRecDepth 100000 in
set_option maxHeartbeats 8000000 in
theorem core (A C : Option Addr) (n0 cap m c d : Nat) (ps0 : List Int) (rz : List RowT) (w : World) (hd : d < 256) (hn : n0 ≤ 9223372036854775807) (hm : m ≤ 9223372036854775807) (hnc : n0 ≤ cap) (hlz : rz.length = m)
    (hr0 : Reads w w.heap.size 1 A n0 (nums ps0)) (ha0 : Reads w w.heap.size 1 C m (rz.flatMap rowV)) (hQ : ∀ x ∈ rz, rowQ w x) :
    Calls Try.prog 8 #[.slice A n0 cap, .slice C m c, .int .u8 d] w fun e w' => e = .returned (.bool true) ∧ Below w.heap.size w w' := by
  obtain ⟨n, hn1, n1, n2, -⟩ := min_nat n0 8
  have hn1' : (if (8 : Int) < (n0 : Int) then (8 : Int) else (n0 : Int)) = (n : Int) := hn1
  clear hn1
  have hrn : Reads w w.heap.size 1 A n (nums (ps0.take n)) := by
    have := hr0.take_ n1; unfold nums at this ⊢; rwa [List.map_take]
  obtain ⟨ps, hps⟩ : ∃ ps, ps0.take n = ps := ⟨_, rfl⟩
  rw [hps] at hrn
  clear hr0 hps
  have hlp := nums_len hrn
  have nI : (0 : Int) ≤ (n : Int) := Int.natCast_nonneg _
  have nc : (n : Int) ≤ (cap : Int) := by omega
  go_enter Try.func8, Try.ntmps8
  go_wp2_with fail
  refine (awake_any w).mono ?_
  rintro e w1 ⟨rfl, hb1⟩
  go_wp2_with fail
  refine (clone64_any A n cap ps w1 (by omega) (hrn.lift hb1)).mono ?_
  rintro e w2 ⟨A2, c2, rfl, hown, hb2⟩
  rw [hlp] at hown ⊢
  have hB2 := bto hb1 hb2
  clear hn1' hrn hb1 hb2 nc
  by_cases hz : n = 0
  · subst hz
    have hd0 := fun (g : Nat) (F : Nat → Prop) (w' : World) (h : TF g F (List.replicate (0 : Nat) 0) [] 0 w') => tf_depth h
    go_wp2_with fail
    refine (tf_new 0 w2 (by omega)).mono ?_
    rintro e w3 ⟨g, F, rfl, ht, _, hb3⟩
    have hdp : Calls Try.prog 17 #[.pointer (some ⟨g, 0, none⟩)] w3 fun e w' => e = .returned (.int .i64 0) ∧ w3 = w' := tf_depth ht
    clear ht
    go_wp2_with fail
    refine hdp.mono ?_
    rintro e w4 ⟨rfl, rfl⟩
    go_wp2_with fail
    go_ret
    exact ⟨rfl, bto hB2 hb3⟩
  have hzI : ((n : Int) == 0) = false := by simp; omega
  go_wp2_with fail
  refine (tf_new n w2 (by omega)).mono ?_
  rintro e w3 ⟨ga, F1, rfl, h1, hF1, hb3⟩
  go_wp2_with fail
  refine (tf_new n w3 (by omega)).mono ?_
  rintro e w4 ⟨gb, F2, rfl, h2, hF2, hb4⟩
  rw [Int.toNat_natCast] at h1 h2
  have hT := two_new h1 hF1 hb3 h2 hF2 hb4
  have HLP := Lib.hid hlp
  have HOWN : Hid (∀ w', Below w2.heap.size w2 w' → w'.ownsRow w1.heap.size 2 1 (.slice A2 n c2) n (nums ps)) := fun w' hb => own_under hown hb
  have HAL : Hid (∀ w' i, Below w2.heap.size w2 w' → i < m → ∃ (ad : Addr) (a : Option Addr) (len cap : Nat) (xs : List Int), C = some ad ∧ w'.cell? (ad.add i) = some (.slice a len cap) ∧ (∀ w3, Below w2.heap.size w2 w3 → Reads w3 w.heap.size 1 a len (xs.map (Value.int .u8))) ∧ (∀ y ∈ xs, (Lit.int .u8 y).wf = true) ∧ xs.length = len ∧ len ≤ cap ∧ len ≤ 9223372036854775807) := fun w' i hb hi => by
    obtain ⟨ad, a, len, cap, xs, q0, q1, q2, q3, q4, q5, q6⟩ := row_at ha0 hQ (hB2.trans (hb.mono hB2.size)) hlz hi
    exact ⟨ad, a, len, cap, xs, q0, q1, fun w3 h3 => q2 w3 (hB2.trans (h3.mono hB2.size)), q3, q4, q5, q6⟩
  have HB2 := Lib.hid hB2
  have HD := Lib.hid hd
  clear hown hB2 hlp ha0 hQ hlz h1 h2 hF1 hF2 hb3 hb4 hd
  go_wp2_with fail
  go_loopw [39] (fun iv wr => ∃ (i : Nat), i ≤ n ∧ iv = .int .i64 i ∧ Two w2 ga gb (ps.take i ++ List.replicate (n - i) 0) (ps.take i ++ List.replicate (n - i) 0) [] [] 0 0 wr) (fun iv _ => n - (intOf iv).toNat)
  case atStart => exact ⟨0, by omega, rfl, by simpa using hT⟩
  case round =>
    clear hT
    obtain ⟨i, hi, rfl, ht⟩ := hrel
    by_cases hlt : i < n
    · obtain ⟨ad, p, rfl, _, hp, hc⟩ := (Reads.of_own (HOWN.out _ ht.bel)).num hlt
      have hlen : (ps.take i ++ List.replicate (n - i) 0).length = n := by rw [List.length_append, List.length_take, List.length_replicate, HLP.out]; omega
      have hfs := fill_set HLP.out hlt hp
      have HS : Hid (Calls Try.prog 12 #[.pointer (some ⟨ga, 0, none⟩), .int .i64 i, .int .i64 p] wr fun e w' => e = .returned (.int .i64 0) ∧ Two w2 ga gb (ps.take (i + 1) ++ List.replicate (n - (i + 1)) 0) (ps.take i ++ List.replicate (n - i) 0) [] [] 0 0 w') :=
        ht.one fun F h => by
          have := tf_set h i p (by rw [hlen]; exact hlt) (by rw [hlen]; omega) (by simp)
          rwa [hfs] at this
      have HS2 : Hid (∀ w5, Two w2 ga gb (ps.take (i + 1) ++ List.replicate (n - (i + 1)) 0) (ps.take i ++ List.replicate (n - i) 0) [] [] 0 0 w5 → Calls Try.prog 12 #[.pointer (some ⟨gb, 0, none⟩), .int .i64 i, .int .i64 p] w5 fun e w' => e = .returned (.int .i64 0) ∧ Two w2 ga gb (ps.take (i + 1) ++ List.replicate (n - (i + 1)) 0) (ps.take (i + 1) ++ List.replicate (n - (i + 1)) 0) [] [] 0 0 w') :=
        fun w5 h5 => h5.two fun F h => by
          have := tf_set h i p (by rw [hlen]; exact hlt) (by rw [hlen]; omega) (by simp)
          rwa [hfs] at this
      clear ht hp hlen hfs
      go_wp2_with fail
      refine HS.out.mono ?_
      rintro e w5 ⟨rfl, ht5⟩
      go_wp2_with fail
      refine (HS2.out _ ht5).mono ?_
      rintro e w6 ⟨rfl, ht6⟩
      go_wp2_with fail
      go_roundw
      case rel => exact ⟨i + 1, by omega, by go_num, ht6⟩
      case measure => simp [intOf]; omega
    · obtain rfl : n = i := by omega
      rw [Nat.sub_self, List.replicate_zero, List.append_nil, List.take_of_length_le (by rw [HLP.out]; exact Nat.le_refl _)] at ht
      have HM1 : Hid (Calls Try.prog 13 #[.pointer (some ⟨ga, 0, none⟩)] wr fun e w' => e = .returned (.int .i64 0) ∧ Two w2 ga gb ps ps [ps] [] 1 0 w') :=
        ht.one fun F h => tf_mark h (by rw [HLP.out]; omega) (by simp) (by omega)
      have HM2 : Hid (∀ w5, Two w2 ga gb ps ps [ps] [] 1 0 w5 → Calls Try.prog 13 #[.pointer (some ⟨gb, 0, none⟩)] w5 fun e w' => e = .returned (.int .i64 0) ∧ Two w2 ga gb ps ps [ps] [ps] 1 1 w') :=
        fun w5 h5 => h5.two fun F h => tf_mark h (by rw [HLP.out]; omega) (by simp) (by omega)
      clear ht hlt hi
      go_wp2_with fail
      refine HM1.out.mono ?_
      rintro e w5 ⟨rfl, ht5⟩
      go_wp2_with fail
      refine (HM2.out _ ht5).mono ?_
      rintro e w6 ⟨rfl, ht6⟩
      clear HM1 HM2 ht5
      go_upto_block 2 with (fail)
      go_cut [11] (fun nv wx => ∃ (k1 : Nat) (X : List (List Int)) (Cs : List Int) (ev : Nat), nv = .int .i64 k1 ∧ X.length + 1 = k1 ∧ k1 ≤ 9 ∧ Cs.length = n ∧ ev ≤ 100 ∧ Two w2 ga gb Cs Cs (X ++ [ps]) [ps] ev 1 wx)
      case first =>
        go_wp2_with fail
        go_loopw [11, 59] (fun nv kv wr => ∃ (k k1 : Nat) (X : List (List Int)) (Cs : List Int), kv = .int .i64 k ∧ nv = .int .i64 k1 ∧ k + 1 = k1 ∧ k ≤ m ∧ k ≤ 8 ∧ X.length = k ∧ Cs.length = n ∧ Two w2 ga gb Cs Cs (X ++ [ps]) [ps] k1 1 wr) (fun _ kv _ => m - (intOf kv).toNat)
        case atStart => exact ⟨0, 1, [], ps, rfl, rfl, rfl, Nat.zero_le _, by omega, rfl, HLP.out, ht6⟩
        case round =>
          clear ht6
          obtain ⟨k, k1, X, Cs, rfl, rfl, hk1, hkm, hk8, hX, hCs, ht⟩ := hrel
          by_cases hlt : k < m
          · obtain ⟨ad, a, len, lcap, xs, rfl, hc, hrow, hwf, hxl, hlc, hlen⟩ := HAL.out _ k ht.bel hlt
            by_cases h8 : k < 8
            · have HM1 : Hid (Calls Try.prog 13 #[.pointer (some ⟨ga, 0, none⟩)] wr fun e w' => e = .returned (.int .i64 (k1 : Nat)) ∧ Two w2 ga gb Cs Cs (Cs :: (X ++ [ps])) [ps] (k1 + 1) 1 w') :=
                ht.one fun F h => by
                  have := tf_mark h (by rw [hCs]; omega) (by simp [hX]; omega) (by omega)
                  rwa [show (X ++ [ps]).length = k1 by simp [hX]; omega] at this
              have HR := Lib.hid hrow
              have HWF := Lib.hid hwf
              have HX := Lib.hid hX
              have HC := Lib.hid hCs
              obtain ⟨k2, hk2⟩ : ∃ k2, k1 + 1 = k2 := ⟨_, rfl⟩
              rw [hk2] at HM1
              have k2I : (k1 : Int) + 1 = (k2 : Int) := by omega
              have k2b : k2 ≤ 20 := by omega
              have HK2 := Lib.hid hk2
              have HK1 := Lib.hid hk1
              clear ht hrow hwf hX hCs hk2 hk1
              go_wp2_with fail
              refine HM1.out.mono ?_
              rintro e w5 ⟨rfl, ht5⟩
              clear HM1
              go_wp2_with fail
              go_loopw [72] (fun iv wr => ∃ (i : Nat) (Ds : List Int), iv = .int .i64 i ∧ i ≤ len ∧ Ds.length = n ∧ Two w2 ga gb Ds Ds (Cs :: (X ++ [ps])) [ps] k2 1 wr) (fun iv _ => len - (intOf iv).toNat)
              case atStart => exact ⟨0, Cs, rfl, Nat.zero_le _, HC.out, ht5⟩
              case round =>
                clear ht5 hc
                obtain ⟨i, Ds, rfl, hi, hDs, ht⟩ := hrel
                by_cases hil : i < len
                · obtain ⟨ad2, y, rfl, hy, hcy, hyb⟩ := u8_at (HR.out _ ht.bel) HWF.out hil
                  by_cases h10 : i < 10
                  · obtain ⟨x, hx⟩ : ∃ x, y % n = x := ⟨_, rfl⟩
                    have hxn : x < n := by rw [← hx]; exact Nat.mod_lt _ (by omega)
                    have hxI : (y : Int) % (n : Int) = (x : Int) := by rw [← hx]; rfl
                    obtain ⟨v, hv⟩ : ∃ v, 10 * k + i = v := ⟨_, rfl⟩
                    have hvI : 10 * (k : Int) + (i : Int) = (v : Int) := by omega
                    have HS : Hid (Calls Try.prog 12 #[.pointer (some ⟨ga, 0, none⟩), .int .i64 x, .int .i64 v] wr fun e w' => e = .returned (.int .i64 0) ∧ Two w2 ga gb (Ds.set x v) Ds (Cs :: (X ++ [ps])) [ps] k2 1 w') :=
                      ht.one fun F h => tf_set h x v (by rw [hDs]; exact hxn) (by rw [hDs]; omega) (by have := HX.out; simp; omega)
                    have HS2 : Hid (∀ w5, Two w2 ga gb (Ds.set x v) Ds (Cs :: (X ++ [ps])) [ps] k2 1 w5 → Calls Try.prog 12 #[.pointer (some ⟨gb, 0, none⟩), .int .i64 x, .int .i64 v] w5 fun e w' => e = .returned (.int .i64 0) ∧ Two w2 ga gb (Ds.set x v) (Ds.set x v) (Cs :: (X ++ [ps])) [ps] k2 1 w') :=
                      fun w5 h5 => h5.two fun F h => tf_set h x v (by rw [hDs]; exact hxn) (by rw [hDs]; omega) (by simp)
                    have HDS := Lib.hid hDs
                    clear ht hy hDs hx hv
                    go_wp2_with fail
                    refine HS.out.mono ?_
                    rintro e w5 ⟨rfl, ht5⟩
                    go_wp2_with fail
                    refine (HS2.out _ ht5).mono ?_
                    rintro e w6 ⟨rfl, ht6⟩
                    go_wp2_with fail
                    go_roundw
                    case rel => exact ⟨i + 1, Ds.set x v, by go_num, by omega, by rw [List.length_set]; exact HDS.out, ht6⟩
                    case measure => simp [intOf]; omega
                  · have HT := Lib.hid ht
                    have HDS := Lib.hid hDs
                    clear ht hy hDs
                    go_wp2_with fail
                    go_roundw
                    case rel => exact ⟨i + 1, Ds, by go_num, by omega, HDS.out, HT.out⟩
                    case measure => simp [intOf]; omega
                · obtain rfl : len = i := by omega
                  have HT := Lib.hid ht
                  have HDS := Lib.hid hDs
                  clear ht hDs hil hi
                  go_wp2_with fail
                  go_roundw
                  case rel => exact ⟨k + 1, k2, Cs :: X, Ds, by go_num, by go_num, by have := HK2.out; have := HK1.out; omega, by omega, by omega, by rw [List.length_cons, HX.out], HDS.out, HT.out⟩
                  case measure => simp [intOf]; omega
            · have HT := Lib.hid ht
              have HC := Lib.hid hCs
              have HX := Lib.hid hX
              clear ht hrow hwf hX hCs
              go_wp2_with fail
              go_meet
              case rel => exact ⟨k1, X, Cs, k1, rfl, by rw [HX.out]; exact hk1, by omega, HC.out, by omega, HT.out⟩
          · have HT := Lib.hid ht
            have HC := Lib.hid hCs
            have HX := Lib.hid hX
            clear ht hX hCs
            go_wp2_with fail
            go_meet
            case rel => exact ⟨k1, X, Cs, k1, rfl, by rw [HX.out]; exact hk1, by omega, HC.out, by omega, HT.out⟩
      case rest =>
        clear ht6 HAL
        obtain ⟨k1, X, Cs, ev, rfl, hX, hk9, hCs, hev, ht⟩ := hcut
        go_upto_if 104 with (fail)
        go_cut [] (fun wx => ∃ (Y : List (List Int)), Y.length ≤ 9 ∧ Two w2 ga gb Cs Cs (Y ++ [ps]) [ps] ev 1 wx)
        case first =>
          by_cases hgt : 1 < k1
          · obtain ⟨L, hL⟩ : ∃ L, X.length = L := ⟨_, rfl⟩
            have hLk : (k1 : Int) - 1 = (L : Int) := by omega
            obtain ⟨q, hq⟩ : ∃ q, d % L = q := ⟨_, rfl⟩
            have hqL : q < L := by rw [← hq]; exact Nat.mod_lt _ (by omega)
            have hqI : (d : Int) % (L : Int) = (q : Int) := by rw [← hq]; rfl
            obtain ⟨K, hK⟩ : ∃ K, q + 1 = K := ⟨_, rfl⟩
            have hKI : 1 + (q : Int) = (K : Int) := by omega
            obtain ⟨stop, s, Y, rfl, hY⟩ := seen_at (X := X) (k := K) (by omega) (by omega)
            have hYl : (Y ++ [ps]).length = K := by simp; omega
            have HF1 : Hid (Calls Try.prog 23 #[.pointer (some ⟨ga, 0, none⟩), .int .i64 K] wc fun e w' => e = .returned (.int .i64 0) ∧ Two w2 ga gb Cs Cs (Y ++ [ps]) [ps] ev 1 w') :=
              ht.one fun F h => by
                have := tf_forget h (stop := stop) (s := s) (ss0 := Y ++ [ps]) (by simp) (by rw [hCs]; omega) (by simp at hL ⊢; omega)
                rwa [hYl] at this
            have HK : Hid (∀ w5, Two w2 ga gb Cs Cs (Y ++ [ps]) [ps] ev 1 w5 → Calls Try.prog 17 #[.pointer (some ⟨ga, 0, none⟩)] w5 fun e w' => e = .returned (.int .i64 K) ∧ w5 = w') := fun w5 h5 => h5.fst fun F h => by
              have := tf_depth h
              rwa [hYl] at this
            have HF2 : Hid (∀ w5, Two w2 ga gb Cs Cs (Y ++ [ps]) [ps] ev 1 w5 → Calls Try.prog 23 #[.pointer (some ⟨ga, 0, none⟩), .int .i64 K] w5 fun e w' => e = .returned (.int .i64 2) ∧ w5 = w') := fun w5 h5 => h5.fst fun F h => tf_forget_out h K (by rw [hYl]; omega)
            have HYL := Lib.hid hY
            have enn : ((K : Int) != (K : Int)) = false := by simp
            have hD := HD.out
            have L0 : (0 : Int) < (L : Int) := by omega
            have K0 : K ≤ 9 := by omega
            clear ht hX hCs hL hq hK hY hYl
            go_wp2_with fail
            refine HF1.out.mono ?_
            rintro e w5 ⟨rfl, ht5⟩
            have hk5 := HK.out _ ht5
            have hf5 := HF2.out _ ht5
            have HT5 := Lib.hid ht5
            clear ht5 HK HF2 HF1
            go_wp2_with fail
            refine hk5.mono ?_
            rintro e w6 ⟨rfl, rfl⟩
            clear hk5
            go_wp2_with fail
            refine hf5.mono ?_
            rintro e w6 ⟨rfl, rfl⟩
            clear hf5
            go_wp2_with fail
            go_meet
            case rel => exact ⟨Y, by have := HYL.out; omega, HT5.out⟩
          · have HT := Lib.hid ht
            clear ht hCs
            go_wp2_with fail
            go_meet
            case rel => exact ⟨X, by omega, HT.out⟩
        case rest =>
          clear ht hX
          obtain ⟨Y, hY9, ht⟩ := hcut
          have HY9 := Lib.hid hY9
          have HC := Lib.hid hCs
          have hca := ht.fst fun F h => tf_cells h (by rw [hCs]; omega)
          rw [hCs] at hca
          have HT := Lib.hid ht
          clear ht hCs
          go_wp2_with fail
          refine hca.mono ?_
          rintro e w5 ⟨⟨A5, c5, rfl, hown5⟩, hb5⟩
          have ht5 := HT.out.below hb5
          have hcb := ht5.snd fun F h => tf_cells h (by rw [HC.out]; omega)
          rw [HC.out] at hcb
          have HT5 := Lib.hid ht5
          have HO5 := Lib.hid hown5
          clear ht5 hca hown5
          go_wp2_with fail
          refine hcb.mono ?_
          rintro e w6 ⟨⟨A6, c6, rfl, hown6⟩, hb6⟩
          have heq6 := equal64_any A5 A6 n n c5 c6 Cs Cs w6 (by omega) (by omega) (Reads.of_own (own_under HO5.out hb6)) (Reads.of_own hown6)
          rw [show eqB Cs Cs = true by simp [eqB]] at heq6
          have HT6 := Lib.hid (HT5.out.below hb6)
          clear hcb hown6 hb5 hb6
          go_wp2_with fail
          refine heq6.mono ?_
          rintro e w7 ⟨rfl, hb7⟩
          have ht7 := HT6.out.below hb7
          have hu7 : Calls Try.prog 14 #[.pointer (some ⟨ga, 0, none⟩), .int .i64 0] w7 fun e w' => e = .returned (.int .i64 0) ∧ Two w2 ga gb ps Cs [] [ps] ev 1 w' :=
            ht7.one fun F h => tf_undo h (stop := Y) (s := ps) (ss0 := []) rfl (by rw [HC.out]; omega) (by have := HY9.out; simp; omega)
          clear heq6 ht7 hb7
          go_wp2_with fail
          refine hu7.mono ?_
          rintro e w8 ⟨rfl, ht8⟩
          have hu8 : Calls Try.prog 14 #[.pointer (some ⟨gb, 0, none⟩), .int .i64 0] w8 fun e w' => e = .returned (.int .i64 0) ∧ Two w2 ga gb ps ps [] [] ev 1 w' :=
            ht8.two fun F h => tf_undo h (stop := []) (s := ps) (ss0 := []) rfl (by rw [HC.out]; omega) (by simp)
          clear hu7 ht8
          go_wp2_with fail
          refine hu8.mono ?_
          rintro e w9 ⟨rfl, ht9⟩
          have hc9 := ht9.fst fun F h => tf_cells h (by rw [HLP.out]; omega)
          rw [HLP.out] at hc9
          have HT9 := Lib.hid ht9
          clear hu8 ht9
          go_wp2_with fail
          refine hc9.mono ?_
          rintro e w10 ⟨⟨A10, c10, rfl, hown10⟩, hb10⟩
          have ht10 := HT9.out.below hb10
          have heq10 := equal64_any A10 A2 n n c10 c2 ps ps w10 (by omega) (by omega) (Reads.of_own hown10) (Reads.of_own (HOWN.out _ ht10.bel))
          rw [show eqB ps ps = true by simp [eqB]] at heq10
          have HT10 := Lib.hid ht10
          clear hc9 hown10 ht10
          go_wp2_with fail
          refine heq10.mono ?_
          rintro e w11 ⟨rfl, hb11⟩
          have ht11 := HT10.out.below hb11
          have hc11 := ht11.snd fun F h => tf_cells h (by rw [HLP.out]; omega)
          rw [HLP.out] at hc11
          have HT11 := Lib.hid ht11
          clear heq10 ht11
          go_wp2_with fail
          refine hc11.mono ?_
          rintro e w12 ⟨⟨A12, c12, rfl, hown12⟩, hb12⟩
          have ht12 := HT11.out.below hb12
          have heq12 := equal64_any A12 A2 n n c12 c2 ps ps w12 (by omega) (by omega) (Reads.of_own hown12) (Reads.of_own (HOWN.out _ ht12.bel))
          rw [show eqB ps ps = true by simp [eqB]] at heq12
          have HT12 := Lib.hid ht12
          clear hc11 hown12 ht12
          go_wp2_with fail
          refine heq12.mono ?_
          rintro e w13 ⟨rfl, hb13⟩
          clear heq12
          go_wp2_with fail
          go_ret
          exact ⟨rfl, bto HB2.out (bto HT12.out.bel hb13)⟩
theorem walk (a0 : Option Addr) (len0 cap0 : Nat) (z0 : List Int) (a1 : Option Addr) (len1 cap1 : Nat) (z1 : List RowT) (a2 : Int) (w : World) (w0 : z0.length = len0 ∧ Reads w w.heap.size 1 a0 len0 (z0.map (Value.int .i64)) ∧ (∀ x ∈ z0, (Lit.int .i64 x).wf = true) ∧ len0 ≤ cap0 ∧ len0 ≤ 9223372036854775807) (w1 : z1.length = len1 ∧ Reads w w.heap.size 1 a1 len1 (z1.flatMap rowV) ∧ (∀ x ∈ z1, rowQ w x) ∧ len1 ≤ cap1 ∧ len1 ≤ 9223372036854775807) (w2 : (Lit.int .u8 a2).wf = true) :
    Calls Try.prog 8 #[.slice a0 len0 cap0, .slice a1 len1 cap1, .int .u8 a2] w fun e w' => e = .returned (.bool true) ∧ Below w.heap.size w w' := by
  obtain ⟨_, hr, _, hc, hl⟩ := w0
  obtain ⟨hlz, ha, hQ, _, hm⟩ := w1
  obtain ⟨d, rfl, hd⟩ := wf_u8 w2
  exact core a0 a1 len0 cap0 len1 cap1 d z0 z1 w hd hl hm hc hlz hr ha hQ

set_option maxRecDepth 100000 in
theorem lifted (os : Os) (started : os.Started) (H : Type) (enc : TypeId × Value → H) :
    ReturnsInHanded {} Try.checked os 8 .any (Rows.trailForgetsSpec.pre6 enc Try.prog Try.f8 Rows.trailForgetsRow.domain false) (Rows.trailForgetsSpec.post enc Try.prog Try.f8 false true false false) := by
  refine returnsInHanded_of_change (C := Try.checked) own started (by kernel_rfl) Try.func8
    (ChangeSpec.witness6 (enc := enc) (C := Try.checked) false ⟨#[], #[.slice none 0 0, .slice none 0 0, .int .u8 0], []⟩ 8 (by kernel_rfl) (by kernel_rfl) (by kernel_rfl) (by kernel_rfl)) ?_
  intro W base args ds gs before hval0 hW hcnd _
  have hval : ∀ (j : Nat) t v, Try.f8.params[j]? = some t → args[j]? = some v → Value.okWide Try.prog W .any base t v := hval0
  have hW' := hW
  obtain ⟨p, q, hA0, hV, rfl, hfz, hnd⟩ := hW
  have hA : DataW.TrodAll enc Try.prog W 0 (fun _ => true) true Try.f8.params.toList args.toList ds p := hA0
  rw [Try.params8] at hA hval
  obtain ⟨v0, vs0, d0, ds0, p0, q0, hargs, rfl, rfl, h0, r0⟩ := trodAll_cons hA
  obtain ⟨v1, vs1, d1, ds1, p1, q1, rfl, rfl, rfl, h1, r1⟩ := trodAll_cons r0
  obtain ⟨v2, vs2, d2, ds2, p2, q2, rfl, rfl, rfl, h2, r2⟩ := trodAll_cons r1
  obtain ⟨rfl, rfl, rfl⟩ := trodAll_nil r2
  obtain rfl : args = #[v0, v1, v2] := by cases args; simp_all
  obtain ⟨rfl, rfl⟩ := trodVars_none hV
  obtain ⟨a0, len0, cap0, rfl⟩ := okWide_slice Try.underlying22 (hval 0 22 v0 rfl rfl)
  have k0 := h0
  have lt0 : ∀ x ∈ p0, x.block < W.heap.size := by obtain ⟨m, hm⟩ := k0; exact DataW.trod_lt m _ _ _ hm
  obtain ⟨z0, w0⟩ := open_ones (Value.int .i64) (fun x => (Lit.int .i64 x).wf = true) Try.underlying22 (by kernel_rfl) (dec_int Try.underlying2) h0
  obtain ⟨a1, len1, cap1, rfl⟩ := okWide_slice Try.underlying46 (hval 1 46 v1 rfl rfl)
  have k1 := h1
  have lt1 : ∀ x ∈ p1, x.block < W.heap.size := by obtain ⟨m, hm⟩ := k1; exact DataW.trod_lt m _ _ _ hm
  obtain ⟨z1, w1⟩ := open_rows (s := 1) rowV (rowQ W) (fun _ => rfl) (by decide) Try.underlying46 (by kernel_rfl) dec_row h1
  obtain ⟨a2, rfl, rfl, rfl, w2⟩ := open_int Try.underlying5 (hval 2 5 v2 rfl rfl) h2
  clear hA0 hval0
  refine (walk a0 len0 cap0 z0 a1 len1 cap1 z1 a2 W w0 w1 w2).mono fun e W' ⟨he, bel⟩ => ?_
  subst he
  exact ⟨_, rfl, _, _, _, [], _, [], hW', trodAll_mk1 (shut_bool Try.underlying4 _), (trodAll_cons_mk (Below.trod laidOut (by kernel_rfl) (of_decide_eq_true (by kernel_rfl)) k0 bel lt0) (trodAll_cons_mk (Below.trod laidOut (by kernel_rfl) (of_decide_eq_true (by kernel_rfl)) k1 bel lt1) (trodAll_cons_mk (shut_int Try.underlying5 w2) trodAll_mk0))), rfl, bel.frame _, fun h => by cases h⟩
theorem over : Rows.trailForgetsRow.holds Try.pinned (OpenSpec.ofChange Rows.trailForgetsSpec) :=
  OpenClaim.holds_of_wide 8 Try.f8 rfl rfl rfl rfl rfl rfl rfl ⟨rfl, rfl, rfl, rfl, rfl⟩ rfl rfl rfl rfl rfl (by kernel_rfl) Try.func8 (by kernel_rfl)
    (of_decide_eq_true (by kernel_rfl)) (by unfold Func.isWrapper; first | (rw [if_pos (by decide +kernel)]; kernel_rfl) | (rw [if_neg (by decide +kernel)]; exact ⟨rfl, rfl⟩))
    (fun os started H enc _ => lifted os started H enc)
theorem proved : Rows.TrailForgetsSaid := over
end Go.Proofs.Ytgojncgdmcpkiaa.trailForgets
