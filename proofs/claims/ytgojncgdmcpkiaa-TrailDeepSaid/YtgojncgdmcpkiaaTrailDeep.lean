/- For every input TrailDeep returns true; its arguments read as before. No condition. -/
import Derived.Test.YtgojncgdmcpkiaaRows
import Derived.WalkKit
import Derived.ProofKit
import Derived.OpenShut
import Derived.ShutString
import Derived.ChangeOld
import Derived.Below
import Derived.Test.YtgojncgdmcpkiaaOpen
import Derived.Test.YtgojncgdmcpkiaaTrLaw
import Derived.Test.YtgojncgdmcpkiaaI64Clone
import Derived.Test.YtgojncgdmcpkiaaIntEq64
import Derived.Deep.LoopGhost
namespace Go.Proofs.Ytgojncgdmcpkiaa.trailDeep
open Go.Proofs.Ytgojncgdmcpkiaa.trl Go.Proofs.Ytgojncgdmcpkiaa.words
open Go.ChangeShapes Go.WideShapes Go.ChangeAt Go.RowKit
open Go.ChangeMaps (open_string shut_string)
set_option linter.unusedVariables false
theorem own : ownKnob Try.prog.godebug = none := by kernel_rfl
theorem laidOut : laidOutB Try.prog = true := by kernel_rfl
theorem wf_u16 {x : Int} (h : (Lit.int .u16 x).wf = true) : ∃ n : Nat, x = n ∧ n < 65536 := by
  simp [Lit.wf, IntKind.min, IntKind.max, IntKind.signed, IntKind.bits] at h
  exact ⟨x.toNat, by omega, by omega⟩
theorem fill_set {ps : List Int} {i n : Nat} {v : Int} (hl : ps.length = n) (hi : i < n) (hv : ps[i]? = some v) : (ps.take i ++ List.replicate (n - i) 0).set i v = ps.take (i + 1) ++ List.replicate (n - (i + 1)) 0 := by
  have h0 : (ps.take i).length = i := by rw [List.length_take]; omega
  rw [List.set_append_right _ _ (by omega), h0, Nat.sub_self, show n - i = (n - (i + 1)) + 1 by omega, List.replicate_succ (n := n - (i + 1)), List.set_cons_zero, List.take_add_one, hv]
  simp
set_option maxRecDepth 100000 in
set_option maxHeartbeats 8000000 in
theorem core (A C : Option Addr) (n0 cap m c d : Nat) (ps0 : List Int) (az : List Int) (w : World) (hd : d < 65536) (hn : n0 ≤ 9223372036854775807) (hm : m ≤ 9223372036854775807) (hnc : n0 ≤ cap)
    (hr0 : Reads w w.heap.size 1 A n0 (nums ps0)) (ha0 : Reads w w.heap.size 1 C m (az.map (Value.int .u8))) (hwf : ∀ x ∈ az, (Lit.int .u8 x).wf = true) :
    Calls Try.prog 3 #[.slice A n0 cap, .int .u16 d, .slice C m c] w fun e w' => e = .returned (.bool true) ∧ Below w.heap.size w w' := by
  obtain ⟨n, hn1, n1, n2, -⟩ := min_nat n0 10
  have hn1' : (if (10 : Int) < (n0 : Int) then (10 : Int) else (n0 : Int)) = (n : Int) := hn1
  clear hn1
  obtain ⟨K, hK⟩ : ∃ K, d % 300 = K := ⟨_, rfl⟩
  have hKI : (d : Int) % 300 = (K : Int) := by omega
  have hKb : K < 300 := by omega
  have hrn : Reads w w.heap.size 1 A n (nums (ps0.take n)) := by
    have := hr0.take_ n1; unfold nums at this ⊢; rwa [List.map_take]
  obtain ⟨ps, hps⟩ : ∃ ps, ps0.take n = ps := ⟨_, rfl⟩
  rw [hps] at hrn
  clear hr0 hps hK
  have hlp := nums_len hrn
  have nI : (0 : Int) ≤ (n : Int) := Int.natCast_nonneg _
  have nc : (n : Int) ≤ (cap : Int) := by omega
  go_enter Try.func3, Try.ntmps3
  go_wp2_with fail
  refine (awake_any w).mono ?_
  rintro e w1 ⟨rfl, hb1⟩
  go_wp2_with fail
  refine (clone64_any A n cap ps w1 (by omega) (hrn.lift hb1)).mono ?_
  rintro e w2 ⟨A2, c2, rfl, hown, hb2⟩
  rw [hlp] at hown ⊢
  have hB2 := bto hb1 hb2
  clear hn1' hrn hb1 hb2
  go_wp2_with fail
  refine (ti_new n w2 (by omega)).mono ?_
  rintro e w3 ⟨g, rfl, ht⟩
  rw [Int.toNat_natCast] at ht
  have HLP := Lib.hid hlp
  have HOWN : Hid (∀ w', Below w2.heap.size w2 w' → w'.ownsRow w1.heap.size 2 1 (.slice A2 n c2) n (nums ps)) := fun w' hb => own_under hown hb
  have HAL : Hid (∀ w', Below w2.heap.size w2 w' → Reads w' w.heap.size 1 C m (az.map (Value.int .u8))) := fun w' hb => ha0.below (hB2.trans (hb.mono hB2.size))
  have HB2 := Lib.hid hB2
  have HWF := Lib.hid hwf
  clear hown hB2 hlp ha0 hwf
  go_wp2_with fail
  go_loopw [25] (fun iv wr => ∃ (i : Nat), i ≤ n ∧ iv = .int .i64 i ∧ TI w2 g (ps.take i ++ List.replicate (n - i) 0) [] 0 wr) (fun iv _ => n - (intOf iv).toNat)
  case atStart => exact ⟨0, by omega, rfl, by simpa using ht⟩
  case round =>
    clear ht
    obtain ⟨i, hi, rfl, ht⟩ := hrel
    by_cases hlt : i < n
    · obtain ⟨ad, p, rfl, _, hp, hc⟩ := (Reads.of_own (HOWN.out _ ht.bel)).num hlt
      have hlen : (ps.take i ++ List.replicate (n - i) 0).length = n := by rw [List.length_append, List.length_take, List.length_replicate, HLP.out]; omega
      have hst := ti_set ht i p (by rw [hlen]; exact hlt) (by rw [hlen]; omega) (by simp)
      rw [fill_set HLP.out hlt hp] at hst
      have HS := Lib.hid hst
      clear hst ht hp hlen
      go_wp2_with fail
      refine HS.out.mono ?_
      rintro e w4 ⟨rfl, ht4⟩
      go_wp2_with fail
      go_roundw
      case rel => exact ⟨i + 1, by omega, by go_num, ht4⟩
      case measure => simp [intOf]; omega
    · obtain rfl : n = i := by omega
      rw [Nat.sub_self, List.replicate_zero, List.append_nil, List.take_of_length_le (by rw [HLP.out]; exact Nat.le_refl _)] at ht
      have hmk : Calls Try.prog 13 #[.pointer (some ⟨g, 0, none⟩)] wr fun e w' => e = .returned (.int .i64 0) ∧ TI w2 g ps [ps] 1 w' := ti_mark ht (by rw [HLP.out]; omega) (by simp) (by omega)
      have HM := Lib.hid hmk
      clear ht hmk hlt hi
      go_wp2_with fail
      refine HM.out.mono ?_
      rintro e w4 ⟨rfl, ht4⟩
      go_wp2_with fail
      go_loopw [40] (fun kv wr => ∃ (k : Nat) (Cs : List Int) (ss : List (List Int)), k ≤ K ∧ kv = .int .i64 k ∧ Cs.length = n ∧ ss.length = k ∧ TI w2 g Cs (ss ++ [ps]) (k + 1) wr) (fun kv _ => K - (intOf kv).toNat)
      case atStart => exact ⟨0, ps, [], by omega, rfl, HLP.out, rfl, ht4⟩
      case round =>
        clear ht4 hKI
        obtain ⟨k, Cs, ss, hk, rfl, hCs, hss, ht⟩ := hrel
        by_cases hlt : k < K
        · have hsl : (ss ++ [ps]).length = k + 1 := by simp [hss]
          obtain ⟨k1, hk1⟩ : ∃ k1, k + 1 = k1 := ⟨_, rfl⟩
          have hk1I : (k : Int) + 1 = (k1 : Int) := by omega
          have enn : ((k1 : Int) != (k1 : Int)) = false := by simp
          by_cases h0 : 0 < n ∧ 0 < m
          · obtain ⟨hn0, hm0⟩ := h0
            obtain ⟨q, hq⟩ : ∃ q, k % m = q := ⟨_, rfl⟩
            have hqm : q < m := by rw [← hq]; exact Nat.mod_lt _ hm0
            have hqI : (k : Int) % (m : Int) = (q : Int) := by rw [← hq]; rfl
            obtain ⟨ad, u, rfl, _, hu, hc⟩ := (HAL.out _ ht.bel).at_ hqm
            obtain ⟨a, hau, rfl⟩ : ∃ a, az[q]? = some a ∧ u = .int .u8 a := by
              rw [List.getElem?_map] at hu
              cases hq' : az[q]? with
              | none => rw [hq'] at hu; simp at hu
              | some a => rw [hq'] at hu; simp at hu; exact ⟨a, rfl, hu.symm⟩
            obtain ⟨a, rfl, ha⟩ := wf_u8 (HWF.out a (List.mem_of_getElem? hau))
            obtain ⟨x, hx⟩ : ∃ x, a % n = x := ⟨_, rfl⟩
            have hxn : x < n := by rw [← hx]; exact Nat.mod_lt _ hn0
            have hxI : (a : Int) % (n : Int) = (x : Int) := by rw [← hx]; rfl
            have hst := ti_set ht x (k : Int) (by rw [hCs]; exact hxn) (by rw [hCs]; omega) (by rw [hsl]; omega)
            have HS := Lib.hid hst
            have HC := Lib.hid hCs
            have HSL := Lib.hid hsl
            have HSS := Lib.hid hss
            have HK1 := Lib.hid hk1
            clear hst ht hu hau hCs hsl hss hq hx hk1
            go_wp2_with fail
            refine HS.out.mono ?_
            rintro e w5 ⟨rfl, ht5⟩
            have hmk := ti_mark ht5 (by rw [List.length_set, HC.out]; omega) (by rw [HSL.out]; omega) (by omega)
            rw [HSL.out, HK1.out] at hmk
            go_wp2_with fail
            refine hmk.mono ?_
            rintro e w6 ⟨rfl, ht6⟩
            go_wp2_with fail
            go_roundw
            case rel => exact ⟨k + 1, Cs.set x (k : Int), Cs.set x (k : Int) :: ss, by omega, by go_num, by rw [List.length_set]; exact HC.out, by rw [List.length_cons, HSS.out], by rw [HK1.out]; exact ht6⟩
            case measure => simp [intOf]; omega
          · have hmk := ti_mark ht (by rw [hCs]; omega) (by rw [hsl]; omega) (by omega)
            rw [hsl, hk1] at hmk
            have HC := Lib.hid hCs
            have HSS := Lib.hid hss
            have HK1 := Lib.hid hk1
            have HMK := Lib.hid hmk
            clear hCs hss hk1 ht hsl hmk
            by_cases hn0 : 0 < n
            · have tn : decide ((0 : Int) < (n : Int)) = true := decide_eq_true (by omega)
              have tm : decide ((0 : Int) < (m : Int)) = false := decide_eq_false (by omega)
              have tn' : decide (0 < n) = true := decide_eq_true (by omega)
              have tm' : decide (0 < m) = false := decide_eq_false (by omega)
              clear h0 hn0
              go_wp2_with fail
              refine HMK.out.mono ?_
              rintro e w6 ⟨rfl, ht6⟩
              go_wp2_with fail
              go_roundw
              case rel => exact ⟨k + 1, Cs, Cs :: ss, by omega, by go_num, HC.out, by rw [List.length_cons, HSS.out], by rw [HK1.out]; exact ht6⟩
              case measure => simp [intOf]; omega
            · have tn : decide ((0 : Int) < (n : Int)) = false := decide_eq_false (by omega)
              have tn' : decide (0 < n) = false := decide_eq_false (by omega)
              clear h0 hn0
              go_wp2_with fail
              refine HMK.out.mono ?_
              rintro e w6 ⟨rfl, ht6⟩
              go_wp2_with fail
              go_roundw
              case rel => exact ⟨k + 1, Cs, Cs :: ss, by omega, by go_num, HC.out, by rw [List.length_cons, HSS.out], by rw [HK1.out]; exact ht6⟩
              case measure => simp [intOf]; omega
        · obtain rfl : K = k := by omega
          have hU1 : Calls Try.prog 14 #[.pointer (some ⟨g, 0, none⟩), .int .i64 0] wr fun e w' => e = .returned (.int .i64 0) ∧ TI w2 g ps [] (K + 1) w' := ti_undo ht (stop := ss) (s := ps) (ss0 := []) rfl (by rw [hCs]; omega) (by simp [hss]; omega)
          have heq : eqB ps ps = true := by simp [eqB]
          have HU1 := Lib.hid hU1
          have HEQ := Lib.hid heq
          clear hU1 ht hCs hss hlt hk heq
          go_wp2_with fail
          refine HU1.out.mono ?_
          rintro e w6 ⟨rfl, ht6⟩
          have hc6 := ti_cells ht6 (by rw [HLP.out]; omega)
          rw [HLP.out] at hc6
          have HT6 := Lib.hid ht6
          clear ht6
          go_wp2_with fail
          refine hc6.mono ?_
          rintro e w7 ⟨⟨A7, c7, rfl, hown7⟩, hb7⟩
          have ht7 := HT6.out.below hb7
          have heq7 := equal64_any A7 A2 n n c7 c2 ps ps w7 (by omega) (by omega) ((Reads.of_own hown7)) ((Reads.of_own (HOWN.out _ ht7.bel)))
          rw [HEQ.out] at heq7
          have HT7 := Lib.hid ht7
          clear ht7 hown7 hc6
          go_wp2_with fail
          refine heq7.mono ?_
          rintro e w8 ⟨rfl, hb8⟩
          have ht8 := HT7.out.below hb8
          have hd8 : Calls Try.prog 17 #[.pointer (some ⟨g, 0, none⟩)] w8 fun e w' => e = .returned (.int .i64 0) ∧ w8 = w' := ti_depth ht8
          have hU8 := ti_undo_out ht8 0 (by simp)
          clear ht8 heq7
          go_wp2_with fail
          refine hd8.mono ?_
          rintro e w9 ⟨rfl, rfl⟩
          go_wp2_with fail
          refine hU8.mono ?_
          rintro e w9 ⟨rfl, ht9⟩
          go_wp2_with fail
          go_ret
          exact ⟨rfl, HB2.out.trans (ht9.bel.mono HB2.out.size)⟩
theorem walk (a0 : Option Addr) (len0 cap0 : Nat) (z0 : List Int) (a1 : Int) (a2 : Option Addr) (len2 cap2 : Nat) (z2 : List Int) (w : World) (w0 : z0.length = len0 ∧ Reads w w.heap.size 1 a0 len0 (z0.map (Value.int .i64)) ∧ (∀ x ∈ z0, (Lit.int .i64 x).wf = true) ∧ len0 ≤ cap0 ∧ len0 ≤ 9223372036854775807) (w1 : (Lit.int .u16 a1).wf = true) (w2 : z2.length = len2 ∧ Reads w w.heap.size 1 a2 len2 (z2.map (Value.int .u8)) ∧ (∀ x ∈ z2, (Lit.int .u8 x).wf = true) ∧ len2 ≤ cap2 ∧ len2 ≤ 9223372036854775807) :
    Calls Try.prog 3 #[.slice a0 len0 cap0, .int .u16 a1, .slice a2 len2 cap2] w fun e w' => e = .returned (.bool true) ∧ Below w.heap.size w w' := by
  obtain ⟨_, hr, _, hc, hl⟩ := w0
  obtain ⟨d, rfl, hd⟩ := wf_u16 w1
  obtain ⟨_, ha, hwf, _, hm⟩ := w2
  exact core a0 a2 len0 cap0 len2 cap2 d z0 z2 w hd hl hm hc hr ha hwf

set_option maxRecDepth 100000 in
theorem lifted (os : Os) (started : os.Started) (H : Type) (enc : TypeId × Value → H) :
    ReturnsInHanded {} Try.checked os 3 .any (Rows.trailDeepSpec.pre6 enc Try.prog Try.f3 Rows.trailDeepRow.domain false) (Rows.trailDeepSpec.post enc Try.prog Try.f3 false true false false) := by
  refine returnsInHanded_of_change (C := Try.checked) own started (by kernel_rfl) Try.func3
    (ChangeSpec.witness6 (enc := enc) (C := Try.checked) false ⟨#[], #[.slice none 0 0, .int .u16 0, .slice none 0 0], []⟩ 8 (by kernel_rfl) (by kernel_rfl) (by kernel_rfl) (by kernel_rfl)) ?_
  intro W base args ds gs before hval0 hW hcnd _
  have hval : ∀ (j : Nat) t v, Try.f3.params[j]? = some t → args[j]? = some v → Value.okWide Try.prog W .any base t v := hval0
  have hW' := hW
  obtain ⟨p, q, hA0, hV, rfl, hfz, hnd⟩ := hW
  have hA : DataW.TrodAll enc Try.prog W 0 (fun _ => true) true Try.f3.params.toList args.toList ds p := hA0
  rw [Try.params3] at hA hval
  obtain ⟨v0, vs0, d0, ds0, p0, q0, hargs, rfl, rfl, h0, r0⟩ := trodAll_cons hA
  obtain ⟨v1, vs1, d1, ds1, p1, q1, rfl, rfl, rfl, h1, r1⟩ := trodAll_cons r0
  obtain ⟨v2, vs2, d2, ds2, p2, q2, rfl, rfl, rfl, h2, r2⟩ := trodAll_cons r1
  obtain ⟨rfl, rfl, rfl⟩ := trodAll_nil r2
  obtain rfl : args = #[v0, v1, v2] := by cases args; simp_all
  obtain ⟨rfl, rfl⟩ := trodVars_none hV
  obtain ⟨a0, len0, cap0, rfl⟩ := okWide_slice Try.underlying22 (hval 0 22 v0 rfl rfl)
  have k0 := h0
  have lt0 : ∀ x ∈ p0, x.block < W.heap.size := by obtain ⟨m, hm⟩ := k0; exact DataW.trod_lt m _ _ _ hm
  obtain ⟨z0, w0⟩ := open_ones (Value.int .i64) (fun x => (Lit.int .i64 x).wf = true) Try.underlying22 (by kernel_rfl) (dec_int Try.underlying2) h0
  obtain ⟨a1, rfl, rfl, rfl, w1⟩ := open_int Try.underlying23 (hval 1 23 v1 rfl rfl) h1
  obtain ⟨a2, len2, cap2, rfl⟩ := okWide_slice Try.underlying24 (hval 2 24 v2 rfl rfl)
  have k2 := h2
  have lt2 : ∀ x ∈ p2, x.block < W.heap.size := by obtain ⟨m, hm⟩ := k2; exact DataW.trod_lt m _ _ _ hm
  obtain ⟨z2, w2⟩ := open_ones (Value.int .u8) (fun x => (Lit.int .u8 x).wf = true) Try.underlying24 (by kernel_rfl) (dec_int Try.underlying5) h2
  clear hA0 hval0
  refine (walk a0 len0 cap0 z0 a1 a2 len2 cap2 z2 W w0 w1 w2).mono fun e W' ⟨he, bel⟩ => ?_
  subst he
  exact ⟨_, rfl, _, _, _, [], _, [], hW', trodAll_mk1 (shut_bool Try.underlying4 _), (trodAll_cons_mk (Below.trod laidOut (by kernel_rfl) (of_decide_eq_true (by kernel_rfl)) k0 bel lt0) (trodAll_cons_mk (shut_int Try.underlying23 w1) (trodAll_cons_mk (Below.trod laidOut (by kernel_rfl) (of_decide_eq_true (by kernel_rfl)) k2 bel lt2) trodAll_mk0))), rfl, bel.frame _, fun h => by cases h⟩
theorem over : Rows.trailDeepRow.holds Try.pinned (OpenSpec.ofChange Rows.trailDeepSpec) :=
  OpenClaim.holds_of_wide 3 Try.f3 rfl rfl rfl rfl rfl rfl rfl ⟨rfl, rfl, rfl, rfl, rfl⟩ rfl rfl rfl rfl rfl (by kernel_rfl) Try.func3 (by kernel_rfl)
    (of_decide_eq_true (by kernel_rfl)) (by unfold Func.isWrapper; first | (rw [if_pos (by decide +kernel)]; kernel_rfl) | (rw [if_neg (by decide +kernel)]; exact ⟨rfl, rfl⟩))
    (fun os started H enc _ => lifted os started H enc)
theorem proved : Rows.TrailDeepSaid := over
end Go.Proofs.Ytgojncgdmcpkiaa.trailDeep
