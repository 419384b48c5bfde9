/- For every input TrailPlays returns true; its arguments read as before. No condition. -/
import Derived.Test.YtgojncgdmcpkiaaRows
import Derived.WalkKit
import Derived.ProofKit
import Derived.OpenShut
import Derived.ShutString
import Derived.ChangeOld
import Derived.Below
import Derived.Test.YtgojncgdmcpkiaaOpen
import Derived.Test.YtgojncgdmcpkiaaTrAct
import Derived.Deep.LoopGhost
import Derived.Deep.DeepCutAuto
import Derived.Deep.CutBlock
import Derived.Deep.RegionWith
namespace Go.Proofs.Ytgojncgdmcpkiaa.trailPlays
open Go.Proofs.Ytgojncgdmcpkiaa.trl Go.Proofs.Ytgojncgdmcpkiaa.words
open Go.ChangeShapes Go.WideShapes Go.ChangeAt Go.RowKit
open Go.ChangeMaps (open_string shut_string)
set_option linter.unusedVariables false
theorem own : ownKnob Try.prog.godebug = none := by kernel_rfl
theorem laidOut : laidOutB Try.prog = true := by kernel_rfl
set_option maxRecDepth 100000 in
set_option maxHeartbeats 8000000 in
theorem core (A : Option Addr) (n cap u : Nat) (zs : List AT) (w : World) (hl : zs.length = n) (hn : n ≤ 9223372036854775807) (hu : u < 256) (hnc : n ≤ cap) (hr : Reads w w.heap.size 3 A n (zs.flatMap aV)) (hQ : ∀ a ∈ zs, aQ a) :
    Calls Try.prog 7 #[.int .u8 u, .slice A n cap] w fun e w' => e = .returned (.bool true) ∧ Below w.heap.size w w' := by
  obtain ⟨i0, hi0, hz0, hz1, hz2⟩ := info_parts infoL
  obtain ⟨N, hN⟩ : ∃ N, u % 12 = N := ⟨_, rfl⟩
  have hN12 : N < 12 := by omega
  have hNI : (u : Int) % 12 = (N : Int) := by omega
  have hmk := fun W => run_make_rowN (P := Try.prog) 22 2 i0 _ Try.underlying22 hi0 hz0 .i64 .i64 N N (Nat.le_refl _) (by rw [hz2]; omega) (by omega) W
  simp only [hz1, Nat.mul_one] at hmk
  have hcel : (Value.int .i64 0).cells = #[.int .i64 0] := by kernel_rfl
  rw [hcel] at hmk
  have HL := Lib.hid hl
  have HR := Lib.hid hr
  have HQ := Lib.hid hQ
  clear hN hl hr hQ
  go_enter Try.func7, Try.ntmps7
  go_wp2_with fail
  refine (awake_any w).mono ?_
  rintro e w1 ⟨rfl, hb1⟩
  go_upto_region 4 with (fail)
  go_cut [6, 7] (fun tv xv wx => ∃ g gx, tv = .pointer (some ⟨g, 0, none⟩) ∧ xv = .pointer (some ⟨gx, 0, none⟩) ∧ Mid (fun k => k < w1.heap.size) w1 g gx (List.replicate N 0) (sn []) 0 (List.replicate N 0) [] wx)
  case first =>
    go_region_with (go_at_call 11; refine (tf_new (N : Int) _ (by omega)).mono ?_; rintro e w5 ⟨g, F, rfl, ht, hF, hb5⟩)
    all_goals
      rw [Int.toNat_natCast] at ht
      go_wp2_with fail
      go_meet
      case rel =>
        first
        | exact ⟨g, _, rfl, rfl, start_a (by omega) ht hF hb5⟩
        | exact ⟨g, _, rfl, rfl, start_b (by omega) ht hF hb5⟩
        | exact ⟨g, _, rfl, rfl, start_c (by omega) ht hF hb5⟩
  case rest =>
    clear hmk
    obtain ⟨g, gx, rfl, rfl, hmid⟩ := hcut
    have HB1 := Lib.hid hb1
    clear hb1
    go_wp2_with fail
    go_loopg [23] n (fun gk iv wr => ∃ (i : Nat) (C : List Int) (R : List RR) (ev : Nat), i ≤ n ∧ gk = n - i ∧ iv = .int .i64 i ∧ i ≤ 80 ∧ ev ≤ i ∧ Fit 0 C R ∧ Mid (fun k => k < w1.heap.size) w1 g gx C (sn R) ev C R wr)
    case atStart => exact ⟨0, _, [], 0, Nat.zero_le _, by omega, rfl, by omega, by omega, ⟨Nat.zero_le _, by rw [List.length_replicate]; omega, Nat.zero_le _, (fun x hx => by cases hx), (fun x hx => by cases hx)⟩, hmid⟩
    case round =>
      clear hmid
      obtain ⟨i, C, R, ev, hi, rfl, rfl, hi80, hev, hf, hm⟩ := hrel
      have hB : Below w.heap.size w wr := bto HB1.out (hm.bel (Nat.le_refl _) fun k h => h)
      by_cases hlt : i < n
      · obtain ⟨ad, d, x, p, rfl, hz, c0, c1, c2⟩ := act_at HR.out hB HL.out hlt
        have c1' : wr.cell? { block := (ad.add (i * 3)).block, off := (ad.add (i * 3)).off + 1 } = some (.int .i64 x) := by rw [← c1, ← Go.Deep.add_add]; rfl
        have c2' : wr.cell? { block := (ad.add (i * 3)).block, off := (ad.add (i * 3)).off + 2 } = some (.int .i64 p) := by rw [← c2, ← Go.Deep.add_add]; rfl
        clear c1 c2
        obtain ⟨dn, hdn, hd⟩ := wf_u8 (x := d) (HQ.out _ (List.mem_of_getElem? hz)).1
        subst hdn
        have HBB := Lib.hid hB
        clear hz hB
        by_cases h80 : i < 80
        · have g8 : decide ((80 : Int) ≤ (i : Int)) = false := decide_eq_false (by omega)
          have hdo := do_any (hm.below (bone wr (.cells #[.int .u8 (dn : Nat), .int .i64 x, .int .i64 p] 42))) hf (by omega) dn x p
          clear hm hf
          go_wp2_with fail
          refine hdo.mono ?_
          rintro e w5 ⟨rfl, C', R', ev', h5, hf5, hev5⟩
          have hli := like_any h5 hf5
          have H5 := Lib.hid (And.intro h5 (And.intro hf5 hev5))
          clear hdo h5 hf5 hev5
          go_wp2_with fail
          refine hli.mono ?_
          rintro e w6 ⟨rfl, hb6⟩
          clear hli
          go_wp2_with fail
          go_roundg (n - (i + 1))
          case rel => exact ⟨i + 1, C', R', ev', by omega, rfl, by go_num, by omega, by have := H5.out.2.2; omega, H5.out.2.1, H5.out.1.below hb6⟩
          case measure => omega
        · have g8 : decide ((80 : Int) ≤ (i : Int)) = true := decide_eq_true (by omega)
          clear hm hf
          go_wp2_with fail
          go_ret
          exact ⟨rfl, (by first | exact bnew HBB.out _ | exact HBB.out | exact below_drewN (bnew HBB.out _) _)⟩
      · clear hm hf
        go_wp2_with fail
        go_ret
        exact ⟨rfl, hB⟩
theorem walk (a0 : Int) (a1 : Option Addr) (len1 cap1 : Nat) (z1 : List AT) (w : World) (w0 : (Lit.int .u8 a0).wf = true) (w1 : z1.length = len1 ∧ Reads w w.heap.size 3 a1 len1 (z1.flatMap aV) ∧ (∀ x ∈ z1, aQ x) ∧ len1 ≤ cap1 ∧ len1 ≤ 9223372036854775807) :
    Calls Try.prog 7 #[.int .u8 a0, .slice a1 len1 cap1] w fun e w' => e = .returned (.bool true) ∧ Below w.heap.size w w' := by
  obtain ⟨hl, hr, hQ, hc, hn⟩ := w1
  obtain ⟨u, rfl, hu⟩ := wf_u8 w0
  exact core a1 len1 cap1 u z1 w hl hn hu hc hr hQ

set_option maxRecDepth 100000 in
theorem lifted (os : Os) (started : os.Started) (H : Type) (enc : TypeId × Value → H) :
    ReturnsInHanded {} Try.checked os 7 .any (Rows.trailPlaysSpec.pre6 enc Try.prog Try.f7 Rows.trailPlaysRow.domain false) (Rows.trailPlaysSpec.post enc Try.prog Try.f7 false true false false) := by
  refine returnsInHanded_of_change (C := Try.checked) own started (by kernel_rfl) Try.func7
    (ChangeSpec.witness6 (enc := enc) (C := Try.checked) false ⟨#[], #[.int .u8 0, .slice none 0 0], []⟩ 8 (by kernel_rfl) (by kernel_rfl) (by kernel_rfl) (by kernel_rfl)) ?_
  intro W base args ds gs before hval0 hW hcnd _
  have hval : ∀ (j : Nat) t v, Try.f7.params[j]? = some t → args[j]? = some v → Value.okWide Try.prog W .any base t v := hval0
  have hW' := hW
  obtain ⟨p, q, hA0, hV, rfl, hfz, hnd⟩ := hW
  have hA : DataW.TrodAll enc Try.prog W 0 (fun _ => true) true Try.f7.params.toList args.toList ds p := hA0
  rw [Try.params7] at hA hval
  obtain ⟨v0, vs0, d0, ds0, p0, q0, hargs, rfl, rfl, h0, r0⟩ := trodAll_cons hA
  obtain ⟨v1, vs1, d1, ds1, p1, q1, rfl, rfl, rfl, h1, r1⟩ := trodAll_cons r0
  obtain ⟨rfl, rfl, rfl⟩ := trodAll_nil r1
  obtain rfl : args = #[v0, v1] := by cases args; simp_all
  obtain ⟨rfl, rfl⟩ := trodVars_none hV
  obtain ⟨a0, rfl, rfl, rfl, w0⟩ := open_int Try.underlying5 (hval 0 5 v0 rfl rfl) h0
  obtain ⟨a1, len1, cap1, rfl⟩ := okWide_slice Try.underlying36 (hval 1 36 v1 rfl rfl)
  have k1 := h1
  have lt1 : ∀ x ∈ p1, x.block < W.heap.size := by obtain ⟨m, hm⟩ := k1; exact DataW.trod_lt m _ _ _ hm
  obtain ⟨z1, w1⟩ := open_rows (s := 3) aV aQ (fun _ => rfl) (by decide) Try.underlying36 (by kernel_rfl) dec_a h1
  clear hA0 hval0
  refine (walk a0 a1 len1 cap1 z1 W w0 w1).mono fun e W' ⟨he, bel⟩ => ?_
  subst he
  exact ⟨_, rfl, _, _, _, [], _, [], hW', trodAll_mk1 (shut_bool Try.underlying4 _), (trodAll_cons_mk (shut_int Try.underlying5 w0) (trodAll_cons_mk (Below.trod laidOut (by kernel_rfl) (of_decide_eq_true (by kernel_rfl)) k1 bel lt1) trodAll_mk0)), rfl, bel.frame _, fun h => by cases h⟩
theorem over : Rows.trailPlaysRow.holds Try.pinned (OpenSpec.ofChange Rows.trailPlaysSpec) :=
  OpenClaim.holds_of_wide 7 Try.f7 rfl rfl rfl rfl rfl rfl rfl ⟨rfl, rfl, rfl, rfl, rfl⟩ rfl rfl rfl rfl rfl (by kernel_rfl) Try.func7 (by kernel_rfl)
    (of_decide_eq_true (by kernel_rfl)) (by unfold Func.isWrapper; first | (rw [if_pos (by decide +kernel)]; kernel_rfl) | (rw [if_neg (by decide +kernel)]; exact ⟨rfl, rfl⟩))
    (fun os started H enc _ => lifted os started H enc)
theorem proved : Rows.TrailPlaysSaid := over
end Go.Proofs.Ytgojncgdmcpkiaa.trailPlays
