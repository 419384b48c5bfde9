/- For every input TrailWeighs returns true; its arguments read as before. No condition. -/
import Derived.Test.YtgojncgdmcpkiaaRows
import Derived.WalkKit
import Derived.ProofKit
import Derived.OpenShut
import Derived.ShutString
import Derived.ChangeOld
import Derived.Below
import Derived.Test.YtgojncgdmcpkiaaOpen
import Derived.Test.YtgojncgdmcpkiaaTrWeight
import Derived.Deep.LoopGhost
import Derived.Deep.DeepCutAuto
import Derived.Deep.CutBlock
import Derived.Deep.RegionWith
namespace Go.Proofs.Ytgojncgdmcpkiaa.trailWeighs
open Go.Proofs.Ytgojncgdmcpkiaa.trl Go.Proofs.Ytgojncgdmcpkiaa.words Go.Maps
open Go.ChangeShapes Go.WideShapes Go.ChangeAt Go.RowKit
open Go.ChangeMaps (open_string shut_string)
set_option linter.unusedVariables false
theorem own : ownKnob Try.prog.godebug = none := by kernel_rfl
theorem laidOut : laidOutB Try.prog = true := by kernel_rfl
set_option maxRecDepth 100000 in
set_option maxHeartbeats 8000000 in
theorem core (A B : Option Addr) (n cap u m cm : Nat) (zs : List AT) (az : List Int) (w : World) (hl : zs.length = n) (hn : n ≤ 9223372036854775807) (hm : m ≤ 9223372036854775807) (hu : u < 256) (hnc : n ≤ cap) (hr : Reads w w.heap.size 3 A n (zs.flatMap aV)) (hQ : ∀ a ∈ zs, aQ a)
    (ha0 : Reads w w.heap.size 1 B m (az.map (Value.int .u8))) (hwf : ∀ x ∈ az, (Lit.int .u8 x).wf = true) :
    Calls Try.prog 4 #[.int .u8 u, .slice A n cap, .slice B m cm] w fun e w' => e = .returned (.bool true) ∧ Below w.heap.size w w' := by
  obtain ⟨i0, hi0, hz0, hz1, hz2⟩ := info_parts infoL
  obtain ⟨N, hN⟩ : ∃ N, u % 8 = N := ⟨_, rfl⟩
  have hNI : (u : Int) % 8 = (N : Int) := by omega
  obtain ⟨M, hM⟩ : ∃ M, 1 + N = M := ⟨_, rfl⟩
  have hMI : 1 + (N : Int) = (M : Int) := by omega
  have hM8 : M ≤ 8 := by omega
  have hM1 : 1 ≤ M := by omega
  have hmk := fun W => run_make_rowN (P := Try.prog) 22 2 i0 _ Try.underlying22 hi0 hz0 .i64 .i64 M M (Nat.le_refl _) (by rw [hz2]; omega) (by omega) W
  simp only [hz1, Nat.mul_one] at hmk
  have hcel : (Value.int .i64 0).cells = #[.int .i64 0] := by kernel_rfl
  rw [hcel] at hmk
  have hmm := @run_makeMap Try.prog
  have HMM := Lib.hid hmm
  have HL := Lib.hid hl
  have HR := Lib.hid hr
  have HQ := Lib.hid hQ
  have HA := Lib.hid ha0
  have HW := Lib.hid hwf
  clear hN hM hl hr hQ ha0 hwf hmm
  go_enter Try.func4, Try.ntmps4
  go_wp2_with fail
  refine (awake_any w).mono ?_
  rintro e w1 ⟨rfl, hb1⟩
  go_upto_region 4 with (fail)
  go_cut [8, 9] (fun tv xv wx => ∃ g gx, tv = .pointer (some ⟨g, 0, none⟩) ∧ xv = .pointer (some ⟨gx, 0, none⟩) ∧ Mid (fun k => k < w1.heap.size) w1 g gx (List.replicate M 0) (sn []) 0 (List.replicate M 0) [] wx)
  case first =>
    go_region_with (go_at_call 11; refine (tf_new (M : Int) _ (by omega)).mono ?_; rintro e w5 ⟨g, F, rfl, ht, hF, hb5⟩)
    all_goals
      rw [Int.toNat_natCast] at ht
      go_wp2_with fail
      go_meet
      case rel =>
        first
        | exact ⟨g, _, rfl, rfl, start_a (by omega) ht hF hb5⟩
        | exact ⟨g, _, rfl, rfl, start_b (by omega) ht hF hb5⟩
        | exact ⟨g, _, rfl, rfl, start_c (by omega) ht hF hb5⟩
  case rest =>
    clear hmk
    obtain ⟨g, gx, rfl, rfl, hmid⟩ := hcut
    have HB1 := Lib.hid hb1
    clear hb1
    go_upto_block 0 with (fail)
    go_cut [] (fun wx => ∃ (C : List Int) (R : List RR) (ev : Nat), ev ≤ 60 ∧ Fit 1 C R ∧ Mid (fun k => k < w1.heap.size) w1 g gx C (sn R) ev C R wx)
    case first =>
      go_wp2_with fail
      go_loopg [31] n (fun gk iv wr => ∃ (i : Nat) (C : List Int) (R : List RR) (ev : Nat), i ≤ n ∧ gk = n - i ∧ iv = .int .i64 i ∧ i ≤ 60 ∧ ev ≤ i ∧ Fit 1 C R ∧ Mid (fun k => k < w1.heap.size) w1 g gx C (sn R) ev C R wr)
      case atStart => exact ⟨0, _, [], 0, Nat.zero_le _, by omega, rfl, by omega, by omega, ⟨by rw [List.length_replicate]; omega, by rw [List.length_replicate]; omega, Nat.zero_le _, (fun x hx => by cases hx), (fun x hx => by cases hx)⟩, hmid⟩
      case round =>
        clear hmid
        obtain ⟨i, C, R, ev, hi, rfl, rfl, hi60, hev, hf, hm⟩ := hrel
        have hB : Below w.heap.size w wr := bto HB1.out (hm.bel (Nat.le_refl _) fun k h => h)
        by_cases hlt : i < n
        · obtain ⟨ad, d, x, p, rfl, hz, c0, c1, c2⟩ := act_at HR.out hB HL.out hlt
          have c1' : wr.cell? { block := (ad.add (i * 3)).block, off := (ad.add (i * 3)).off + 1 } = some (.int .i64 x) := by rw [← c1, ← Go.Deep.add_add]; rfl
          have c2' : wr.cell? { block := (ad.add (i * 3)).block, off := (ad.add (i * 3)).off + 2 } = some (.int .i64 p) := by rw [← c2, ← Go.Deep.add_add]; rfl
          clear c1 c2
          obtain ⟨dn, hdn, hd⟩ := wf_u8 (x := d) (HQ.out _ (List.mem_of_getElem? hz)).1
          subst hdn
          clear hz hB
          have hm0 := hm.below (bone wr (.cells #[.int .u8 (dn : Nat), .int .i64 x, .int .i64 p] 42))
          by_cases h80 : i < 60
          · have g8 : decide ((60 : Int) ≤ (i : Int)) = false := decide_eq_false (by omega)
            have hdo := do_any hm0 hf (by omega) dn x p
            clear hm hm0 hf
            go_wp2_with fail
            refine hdo.mono ?_
            rintro e w5 ⟨rfl, C', R', ev', h5, hf5, hev5⟩
            obtain ⟨q, hq⟩ : ∃ q, C'.length = q := ⟨_, rfl⟩
            obtain ⟨r, hr⟩ : ∃ r, R'.length = r := ⟨_, rfl⟩
            have hql := hf5.high
            have hrl := hf5.n
            have hd5 := h5.fst fun F t => tf_depth t
            have hl5 := h5.fst fun F t => tf_len t
            obtain ⟨nw, hnw, hw5⟩ := h5.fst fun F t => tf_weight t
            rw [sn_len, hr] at hd5
            rw [sn_len, hr, hq] at hnw
            rw [hq] at hl5 hql
            rw [hr] at hrl
            obtain ⟨pr, hpr⟩ : ∃ pr, r * q = pr := ⟨_, rfl⟩
            have hprI : (r : Int) * (q : Int) = (pr : Int) := by rw [← hpr]; exact (Int.natCast_mul r q).symm
            have hpr2 : pr ≤ 20 * 64 := by rw [← hpr]; exact Nat.mul_le_mul hrl hql
            have hpw : IntKind.i64.wrap (pr : Int) = (pr : Int) := by rw [IntKind.wrap_i64]; omega
            have hnp : nw ≤ pr := by rw [← hpr]; exact hnw
            have hgt : decide ((pr : Int) < (nw : Int)) = false := decide_eq_false (by omega)
            have hgtN : decide (pr < nw) = false := decide_eq_false (by omega)
            have H5 := Lib.hid (And.intro h5 (And.intro hf5 hev5))
            by_cases hr0 : r = 0
            · subst hr0
              obtain rfl : nw = 0 := by rw [Nat.zero_mul] at hpr; omega
              clear hdo h5 hf5 hev5 hq hr hpr hnw
              go_wp2_with (first
                | (go_at_call 17; refine hd5.mono ?_; rintro e w6 ⟨rfl, rfl⟩)
                | (go_at_call 19; refine hw5.mono ?_; rintro e w6 ⟨rfl, rfl⟩)
                | (go_at_call 20; refine hl5.mono ?_; rintro e w6 ⟨rfl, rfl⟩)
                | fail)
              go_roundg (n - (i + 1))
              case rel => exact ⟨i + 1, C', R', ev', by omega, rfl, by go_num, by omega, by have := H5.out.2.2; omega, H5.out.2.1, H5.out.1⟩
              case measure => omega
            · have hr0I : ((r : Int) == 0) = false := by simp; omega
              clear hdo h5 hf5 hev5 hq hr hpr hnw hr0
              go_wp2_with (first
                | (go_at_call 17; refine hd5.mono ?_; rintro e w6 ⟨rfl, rfl⟩)
                | (go_at_call 19; refine hw5.mono ?_; rintro e w6 ⟨rfl, rfl⟩)
                | (go_at_call 20; refine hl5.mono ?_; rintro e w6 ⟨rfl, rfl⟩)
                | fail)
              go_roundg (n - (i + 1))
              case rel => exact ⟨i + 1, C', R', ev', by omega, rfl, by go_num, by omega, by have := H5.out.2.2; omega, H5.out.2.1, H5.out.1⟩
              case measure => omega
          · have g8 : decide ((60 : Int) ≤ (i : Int)) = true := decide_eq_true (by omega)
            have HM := Lib.hid hm0
            have HF := Lib.hid hf
            clear hm hm0 hf
            go_wp2_with fail
            go_meet
            case rel => exact ⟨C, R, ev, by omega, HF.out, (by first | exact HM.out | exact HM.out.below (below_drewN (Below.refl _ _) _))⟩
        · have HM := Lib.hid hm
          have HF := Lib.hid hf
          clear hm hf hB
          go_wp2_with fail
          go_meet
          case rel => exact ⟨C, R, ev, by omega, HF.out, HM.out⟩
    case rest =>
      clear hmid HL HR HQ
      obtain ⟨C, R, ev, hev, hf, hm⟩ := hcut
      have hql := hf.high
      have hq1 := hf.low
      have hrl := hf.n
      have hmk := hm.one fun F t => tf_mark t (by omega) (by rw [sn_len]; omega) (by omega)
      have HF := Lib.hid hf
      clear hm hf
      go_wp2_with fail
      refine hmk.mono ?_
      rintro e w2 ⟨rfl, h2⟩
      clear hmk
      obtain ⟨F, H, t2, _, hFb, _, hTc, hX⟩ := h2
      have hB2 : Below w1.heap.size w1 w2 := hTc.below (Nat.le_refl _) fun i hi hx => hx hi
      obtain ⟨n0, tg, hn0, hw0⟩ := tf_tg t2
      have hn0' : n0 ≤ 21 * 64 := Nat.le_trans hn0 (Nat.mul_le_mul (by rw [List.length_cons, sn_len]; omega) hql)
      have hwg := wgh_new (w0 := w1) tg (fun i hi => ⟨Nat.le_of_not_lt (hFb i hi).1, (hFb i hi).2.1⟩) hB2
      have hsl : (C :: sn R).length ≤ 999 := by rw [List.length_cons, sn_len]; omega
      obtain ⟨q, hq⟩ : ∃ q, C.length = q := ⟨_, rfl⟩
      obtain ⟨b, hbe⟩ : ∃ b, w2.heap.size = b := ⟨_, rfl⟩
      rw [hq, hbe] at hwg
      rw [hq] at hql hq1
      have HSL := Lib.hid hsl
      have hmm := HMM.out
      clear t2 hFb hTc hX hB2 tg hn0 hsl hq
      go_wp2_with fail
      refine hw0.mono ?_
      rintro e w3 ⟨rfl, rfl⟩
      clear hw0
      go_wp2_with fail
      clear hmm
      go_loopw [71] (fun iv wr => ∃ (j : Nat) (T : List Nat), iv = .int .i64 j ∧ j ≤ m ∧ j ≤ 50 ∧ T.length ≤ j ∧ Wgh w1 g b q (C :: sn R) (ev + 1) n0 T j wr) (fun iv _ => m - (intOf iv).toNat)
      case atStart => exact ⟨0, [], rfl, Nat.zero_le _, by omega, Nat.le_refl _, hwg⟩
      case round =>
        clear hwg hbe
        obtain ⟨j, T, rfl, hj, hj50, hTj, hg⟩ := hrel
        have hB := bto HB1.out hg.bel
        by_cases hlt : j < m
        · obtain ⟨ad, y, rfl, hy, hcy, hyb⟩ := u8_at (HA.out.lift hB) HW.out hlt
          have HBB := Lib.hid hB
          clear hB hy
          by_cases h50 : j < 50
          · have g8 : decide ((50 : Int) ≤ (j : Int)) = false := decide_eq_false (by omega)
            obtain ⟨x, hx⟩ : ∃ x, y % q = x := ⟨_, rfl⟩
            have hxq : x < q := by rw [← hx]; exact Nat.mod_lt _ (by omega)
            have hxI : (y : Int) % (q : Int) = (x : Int) := by rw [← hx]; rfl
            have hle := wgh_len hg
            have hse := wgh_set hg x (j : Int) hxq (by omega) HSL.out
            have htl := tell_len T x
            clear hg hx
            go_wp2_with fail
            refine hle.mono ?_
            rintro e w4 ⟨rfl, rfl⟩
            clear hle
            go_wp2_with fail
            refine hse.mono ?_
            rintro e w5 ⟨rfl, D, hmp, hnx⟩
            clear hse
            go_wp2_with (first
              | (at_lookup; refine look_val _ rfl _ _ rfl rfl hmp (x : Int) (WalkArith.wf_i64 (by omega)) rfl ?_; intro cc)
              | (at_mapUpdate; refine wpList_mapUpdate_own _ rfl _ _ _ 44 rfl 3 3 lawK Try.underlying44 _ b j _ rfl hmp (by unfold maxLen; omega) _ _ _ rfl rfl (keyOf_int_mk Try.underlying3 (WalkArith.wf_i64 (by omega))) _ [] (plainElem_int Try.underlying3 (wrap64_wf _)) ?_; intro w6 hown6 hgrow6; have hg6 := hnx _ _ hown6 hgrow6; obtain ⟨mw, hmw, hw6⟩ := wgh_weight hg6; obtain ⟨D6, hmp6, hsz6⟩ := wgh_size hg6; obtain ⟨tl, htl6⟩ : ∃ tl, (tell T x).length = tl := ⟨_, rfl⟩; rw [htl6] at hmw hsz6 htl; have HG6 := Lib.hid hg6; have HT6 := Lib.hid htl6; clear hg6 htl6 hnx)
              | fail)
            have g9 : decide ((n0 : Int) + (tl : Int) < (mw : Int)) = false := decide_eq_false (by omega)
            have g9N : decide (n0 + tl < mw) = false := decide_eq_false (by omega)
            go_wp2_with (first
              | (go_at_call 19; refine hw6.mono ?_; rintro e w7 ⟨rfl, rfl⟩)
              | (at_len; refine look_len _ rfl _ rfl rfl hmp6 hsz6 ?_)
              | fail)
            go_roundw
            case rel => exact ⟨j + 1, tell T x, by go_num, by omega, by omega, by rw [HT6.out]; omega, HG6.out⟩
            case measure => simp [intOf]; omega
          · have g8 : decide ((50 : Int) ≤ (j : Int)) = true := decide_eq_true (by omega)
            clear hg
            go_wp2_with fail
            go_ret
            exact ⟨rfl, (by first | exact HBB.out | exact below_drewN HBB.out _)⟩
        · clear hg
          go_wp2_with fail
          go_ret
          exact ⟨rfl, hB⟩
theorem walk (a0 : Int) (a1 : Option Addr) (len1 cap1 : Nat) (z1 : List AT) (a2 : Option Addr) (len2 cap2 : Nat) (z2 : List Int) (w : World) (w0 : (Lit.int .u8 a0).wf = true) (w1 : z1.length = len1 ∧ Reads w w.heap.size 3 a1 len1 (z1.flatMap aV) ∧ (∀ x ∈ z1, aQ x) ∧ len1 ≤ cap1 ∧ len1 ≤ 9223372036854775807) (w2 : z2.length = len2 ∧ Reads w w.heap.size 1 a2 len2 (z2.map (Value.int .u8)) ∧ (∀ x ∈ z2, (Lit.int .u8 x).wf = true) ∧ len2 ≤ cap2 ∧ len2 ≤ 9223372036854775807) :
    Calls Try.prog 4 #[.int .u8 a0, .slice a1 len1 cap1, .slice a2 len2 cap2] w fun e w' => e = .returned (.bool true) ∧ Below w.heap.size w w' := by
  obtain ⟨hl, hr, hQ, hc, hn⟩ := w1
  obtain ⟨hl2, hr2, hQ2, hc2, hn2⟩ := w2
  obtain ⟨u, rfl, hu⟩ := wf_u8 w0
  exact core a1 a2 len1 cap1 u len2 cap2 z1 z2 w hl hn hn2 hu hc hr hQ hr2 hQ2

set_option maxRecDepth 100000 in
theorem lifted (os : Os) (started : os.Started) (H : Type) (enc : TypeId × Value → H) :
    ReturnsInHanded {} Try.checked os 4 .any (Rows.trailWeighsSpec.pre6 enc Try.prog Try.f4 Rows.trailWeighsRow.domain false) (Rows.trailWeighsSpec.post enc Try.prog Try.f4 false true false false) := by
  refine returnsInHanded_of_change (C := Try.checked) own started (by kernel_rfl) Try.func4
    (ChangeSpec.witness6 (enc := enc) (C := Try.checked) false ⟨#[], #[.int .u8 0, .slice none 0 0, .slice none 0 0], []⟩ 8 (by kernel_rfl) (by kernel_rfl) (by kernel_rfl) (by kernel_rfl)) ?_
  intro W base args ds gs before hval0 hW hcnd _
  have hval : ∀ (j : Nat) t v, Try.f4.params[j]? = some t → args[j]? = some v → Value.okWide Try.prog W .any base t v := hval0
  have hW' := hW
  obtain ⟨p, q, hA0, hV, rfl, hfz, hnd⟩ := hW
  have hA : DataW.TrodAll enc Try.prog W 0 (fun _ => true) true Try.f4.params.toList args.toList ds p := hA0
  rw [Try.params4] at hA hval
  obtain ⟨v0, vs0, d0, ds0, p0, q0, hargs, rfl, rfl, h0, r0⟩ := trodAll_cons hA
  obtain ⟨v1, vs1, d1, ds1, p1, q1, rfl, rfl, rfl, h1, r1⟩ := trodAll_cons r0
  obtain ⟨v2, vs2, d2, ds2, p2, q2, rfl, rfl, rfl, h2, r2⟩ := trodAll_cons r1
  obtain ⟨rfl, rfl, rfl⟩ := trodAll_nil r2
  obtain rfl : args = #[v0, v1, v2] := by cases args; simp_all
  obtain ⟨rfl, rfl⟩ := trodVars_none hV
  obtain ⟨a0, rfl, rfl, rfl, w0⟩ := open_int Try.underlying5 (hval 0 5 v0 rfl rfl) h0
  obtain ⟨a1, len1, cap1, rfl⟩ := okWide_slice Try.underlying36 (hval 1 36 v1 rfl rfl)
  have k1 := h1
  have lt1 : ∀ x ∈ p1, x.block < W.heap.size := by obtain ⟨m, hm⟩ := k1; exact DataW.trod_lt m _ _ _ hm
  obtain ⟨z1, w1⟩ := open_rows (s := 3) aV aQ (fun _ => rfl) (by decide) Try.underlying36 (by kernel_rfl) dec_a h1
  obtain ⟨a2, len2, cap2, rfl⟩ := okWide_slice Try.underlying24 (hval 2 24 v2 rfl rfl)
  have k2 := h2
  have lt2 : ∀ x ∈ p2, x.block < W.heap.size := by obtain ⟨m, hm⟩ := k2; exact DataW.trod_lt m _ _ _ hm
  obtain ⟨z2, w2⟩ := open_ones (Value.int .u8) (fun x => (Lit.int .u8 x).wf = true) Try.underlying24 (by kernel_rfl) (dec_int Try.underlying5) h2
  clear hA0 hval0
  refine (walk a0 a1 len1 cap1 z1 a2 len2 cap2 z2 W w0 w1 w2).mono fun e W' ⟨he, bel⟩ => ?_
  subst he
  exact ⟨_, rfl, _, _, _, [], _, [], hW', trodAll_mk1 (shut_bool Try.underlying4 _), (trodAll_cons_mk (shut_int Try.underlying5 w0) (trodAll_cons_mk (Below.trod laidOut (by kernel_rfl) (of_decide_eq_true (by kernel_rfl)) k1 bel lt1) (trodAll_cons_mk (Below.trod laidOut (by kernel_rfl) (of_decide_eq_true (by kernel_rfl)) k2 bel lt2) trodAll_mk0))), rfl, bel.frame _, fun h => by cases h⟩
theorem over : Rows.trailWeighsRow.holds Try.pinned (OpenSpec.ofChange Rows.trailWeighsSpec) :=
  OpenClaim.holds_of_wide 4 Try.f4 rfl rfl rfl rfl rfl rfl rfl ⟨rfl, rfl, rfl, rfl, rfl⟩ rfl rfl rfl rfl rfl (by kernel_rfl) Try.func4 (by kernel_rfl)
    (of_decide_eq_true (by kernel_rfl)) (by unfold Func.isWrapper; first | (rw [if_pos (by decide +kernel)]; kernel_rfl) | (rw [if_neg (by decide +kernel)]; exact ⟨rfl, rfl⟩))
    (fun os started H enc _ => lifted os started H enc)
theorem proved : Rows.TrailWeighsSaid := over
end Go.Proofs.Ytgojncgdmcpkiaa.trailWeighs
