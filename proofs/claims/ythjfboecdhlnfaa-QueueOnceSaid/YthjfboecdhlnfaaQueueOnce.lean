/- For every input QueueOnce returns true; its arguments read as before. No condition. -/
import Derived.Test.YthjfboecdhlnfaaRows
import Derived.WalkKit
import Derived.ProofKit
import Derived.OpenShut
import Derived.ShutString
import Derived.ChangeOld
import Derived.Below
import Derived.Test.YthjfboecdhlnfaaOpen
import Derived.Test.YthjfboecdhlnfaaQuMap
import Derived.Deep.LoopGhost
namespace Go.Proofs.Ythjfboecdhlnfaa.queueOnce
open Go.Proofs.Ythjfboecdhlnfaa.que Go.Proofs.Ythjfboecdhlnfaa.words Go.Maps
open Go.ChangeShapes Go.WideShapes Go.ChangeAt Go.RowKit
open Go.ChangeMaps (open_string shut_string)
set_option linter.unusedVariables false
theorem own : ownKnob Try.prog.godebug = none := by kernel_rfl
theorem laidOut : laidOutB Try.prog = true := by kernel_rfl
theorem pair_at {w : World} {n : Nat} {A : Option Addr} {zs : List PairT} (h : Reads w w.heap.size 2 A n (zs.flatMap pairV)) {w' : World} (hb : Below w.heap.size w w') {i : Nat} (hl : zs.length = n) (hi : i < n) :
    ∃ ad x p, A = some ad ∧ zs[i]? = some (x, p) ∧ w'.cell? (ad.add (i * 2)) = some (.int .u8 x) ∧ w'.cell? (ad.add (i * 2 + 1)) = some (.int .u8 p) := by
  obtain ⟨ad, rfl, hlt, hat⟩ := h.2 (by omega)
  have hz : zs[i]? = some (zs[i]'(by omega)) := List.getElem?_eq_getElem _
  obtain ⟨⟨x, p⟩, hd⟩ : ∃ a, zs[i]'(by omega) = a := ⟨_, rfl⟩
  rw [hd] at hz
  have get := fun j (hj : j < 2) => flat_get pairV 2 (fun _ => rfl) zs i j _ hz hj
  have up : ∀ q, w'.cell? (ad.add q) = w.cell? (ad.add q) := fun q => hb.cell (by rw [block_of_add]; exact hlt)
  refine ⟨ad, x, p, rfl, hz, ?_, ?_⟩
  · rw [up]; exact hat (i * 2) _ (get 0 (by omega))
  · rw [up]; exact hat (i * 2 + 1) _ (get 1 (by omega))
set_option maxRecDepth 100000 in
set_option maxHeartbeats 8000000 in
theorem core (A C : Option Addr) (n cap m c : Nat) (zs : List PairT) (az : List Int) (w : World) (hl : zs.length = n) (hn : n ≤ 9223372036854775807) (hm : m ≤ 9223372036854775807) (hnc : n ≤ cap)
    (hr : Reads w w.heap.size 2 A n (zs.flatMap pairV)) (hQ : ∀ a ∈ zs, pairQ a) (ha0 : Reads w w.heap.size 1 C m (az.map (Value.int .u8))) (hwf : ∀ x ∈ az, (Lit.int .u8 x).wf = true) :
    Calls Try.prog 3 #[.slice A n cap, .slice C m c] w fun e w' => e = .returned (.bool true) ∧ Below w.heap.size w w' := by
  have HL := Lib.hid hl
  have hmm := @run_makeMap Try.prog
  clear hl
  go_enter Try.func3, Try.ntmps3
  go_wp2_with fail
  refine (awake_any w).mono ?_
  rintro e w1 ⟨rfl, hb1⟩
  go_wp2_with fail
  refine (ql_new 16 w1 (by omega)).mono ?_
  rintro e w2 ⟨⟨g, rfl, hq⟩, hb2⟩
  have hB2 := bto hb1 hb2
  have hon : On w g w2.heap.size 0 [] (.map []) (w2.alloc (.map #[] 0)) := by
    have hq' : QB w2 g w.heap.size 16 [] := hq.mono fun k hk => Nat.le_trans hb1.size hk
    exact ⟨hq'.below (bone _ _), World.ownsMap_made _ _ _ _, hB2.size, bto hB2 (bone _ _)⟩
  clear hq hb1 hb2 hB2
  obtain ⟨b, hbe⟩ : ∃ b, w2.heap.size = b := ⟨_, rfl⟩
  rw [hbe] at hon
  go_wp2_with fail
  go_loopw [24] (fun iv wr => ∃ (i : Nat) (L : List It) (D : DataW Unit), i ≤ n ∧ iv = .int .i64 i ∧ Same D L ∧ L.length ≤ i ∧ L.length ≤ 60 ∧ On w g b i L D wr) (fun iv _ => n - (intOf iv).toNat)
  case atStart => exact ⟨0, [], .map [], by omega, rfl, same_empty, by simp, by simp, hon⟩
  case round =>
    clear hon hbe
    obtain ⟨i, L, D, hi, rfl, hsm, hLi, hL60, hon⟩ := hrel
    by_cases hlt : i < n
    · obtain ⟨ad, xI, pI, rfl, hz, c0, c1⟩ := pair_at hr hon.2.2.2 HL.out hlt
      have c1' : wr.cell? { block := (ad.add (i * 2)).block, off := (ad.add (i * 2)).off + 1 } = some (.int .u8 pI) := by rw [← c1, ← Go.Deep.add_add]; rfl
      clear c1
      have hzq := hQ _ (List.mem_of_getElem? hz)
      obtain ⟨x, hx, hx1⟩ := wf_u8 (x := xI) hzq.1
      obtain ⟨p, hp, hp1⟩ := wf_u8 (x := pI) hzq.2
      subst hx; subst hp
      clear hzq hz
      have hon1 : On w g b i L D (wr.alloc (.cells #[.int .u8 x, .int .u8 p] 28)) := hon.below (bone _ _)
      have hba : Blk (wr.alloc (.cells #[.int .u8 x, .int .u8 p] 28)) wr.heap.size 28 #[.int .u8 x, .int .u8 p] := heap_alloc_new _ _
      by_cases h60 : i < 60
      · obtain ⟨r, hr0⟩ : ∃ r, x % 16 = r := ⟨_, rfl⟩
        have hrI : (x : Int) % 16 = (r : Int) := by omega
        have hrl : r < 16 := by omega
        have hpu := on_push hon1 r p hrl (by omega)
        obtain ⟨k0, k1⟩ := blk_two hba
        have HB := Lib.hid hba
        have HV := Lib.hid hon1.1.val
        have HT := Lib.hid hon1.tidy
        have HS := Lib.hid hsm
        clear hr0 hba hon1 hon hsm
        go_wp2_with fail
        refine hpu.mono ?_
        rintro e w4 ⟨rfl, hon4, hk4⟩
        obtain ⟨q0, q1⟩ := blk_two (hk4 _ _ HB.out)
        have hmp4 := hon4.2.1
        go_wp2_with (first
          | (at_mapUpdate; refine wpList_mapUpdate_own _ rfl _ _ _ 27 rfl 3 2 lawK Try.underlying27 _ b i _ rfl hmp4 (by unfold maxLen; omega) _ _ _ rfl rfl (keyOf_int_mk Try.underlying3 (WalkArith.wf_i64 (by omega))) _ [] (plainElem_int Try.underlying2 (WalkArith.wf_i64 (by omega))) ?_; intro w5 hown5 hgrow5)
          | fail)
        go_roundw
        case rel =>
          have hs5 := same_put HS.out HV.out HT.out (r : Int) (p : Int)
          have hle := List.length_filter_le (fun a : It => decide (a.2 ≠ (r : Int))) L
          refine ⟨i + 1, _, _, by omega, by go_num, hs5, ?_, ?_, (hon4.turn hown5 hgrow5).1⟩
          · rw [List.length_cons]; exact Nat.succ_le_succ (Nat.le_trans hle hLi)
          · rw [List.length_cons]; exact Nat.le_trans (Nat.succ_le_succ (Nat.le_trans hle hLi)) h60
        case measure => simp [intOf]; omega
      · go_wp2_with fail
        go_roundw
        case rel => exact ⟨i + 1, L, D, by omega, by go_num, hsm, by omega, hL60, hon1.mono (by omega)⟩
        case measure => simp [intOf]; omega
    · obtain rfl : n = i := by omega
      clear hlt hi hLi
      go_wp2_with fail
      go_loopw [51] (fun iv wr => ∃ (j : Nat) (L : List It) (D : DataW Unit), j ≤ m ∧ iv = .int .i64 j ∧ Same D L ∧ L.length ≤ 60 ∧ On w g b n L D wr) (fun iv _ => m - (intOf iv).toNat)
      case atStart => exact ⟨0, L, D, by omega, rfl, hsm, hL60, hon⟩
      case round =>
        clear hsm hL60 hon
        obtain ⟨j, L, D, hj, rfl, hsm, hL60, hon⟩ := hrel
        by_cases hlt : j < m
        · obtain ⟨ad, u, rfl, _, hu, hc⟩ := (ha0.below hon.2.2.2).at_ hlt
          obtain ⟨a, hau, rfl⟩ : ∃ a, az[j]? = some a ∧ u = .int .u8 a := by
            rw [List.getElem?_map] at hu
            cases hq' : az[j]? with
            | none => rw [hq'] at hu; simp at hu
            | some a => rw [hq'] at hu; simp at hu; exact ⟨a, rfl, hu.symm⟩
          obtain ⟨a, rfl, ha⟩ := wf_u8 (hwf a (List.mem_of_getElem? hau))
          clear hu hau
          by_cases h10 : j < 10
          · obtain ⟨r, hr0⟩ : ∃ r, a % 16 = r := ⟨_, rfl⟩
            have hrI : (a : Int) % 16 = (r : Int) := by omega
            have hrl : r < 16 := by omega
            have hdr := on_drop hon r (by omega)
            obtain ⟨bq, hbq⟩ : ∃ q, inQ L (r : Int) = q := ⟨_, rfl⟩
            rw [hbq] at hdr
            have hs5 := Lib.hid (same_del hsm hon.1.val hon.tidy (r : Int))
            have hmp := hon.2.1
            have eb : (bq != bq) = false := by simp
            have HLe := Lib.hid (Nat.le_trans (List.length_filter_le (fun a : It => decide (a.2 ≠ (r : Int))) L) hL60)
            clear hr0 hon
            go_wp2_with (first
              | (at_lookup; refine look_any _ rfl _ _ rfl rfl hmp hsm (r : Int) bq hbq (WalkArith.wf_i64 (by omega)) rfl ?_; intro cc)
              | fail)
            refine hdr.mono ?_
            rintro e w4 ⟨rfl, hon4, hk4⟩
            have hmp4 := hon4.2.1
            clear hbq
            go_wp2_with (first
              | (at_delete; refine wpList_delete_own _ rfl _ _ 27 3 rfl 2 lawK Try.underlying27 _ b n D rfl hmp4 _ _ rfl (keyOf_int_mk Try.underlying3 (WalkArith.wf_i64 (by omega))) ?_; intro w5 hown5 hturn5)
              | fail)
            go_roundw
            case rel => exact ⟨j + 1, _, _, by omega, by go_num, hs5.out, HLe.out, (hon4.turn hown5 hturn5.grown).1⟩
            case measure => simp [intOf]; omega
          · go_wp2_with fail
            go_roundw
            case rel => exact ⟨j + 1, L, D, by omega, by go_num, hsm, hL60, hon⟩
            case measure => simp [intOf]; omega
        · obtain rfl : m = j := by omega
          clear hlt hj
          obtain ⟨nl, hnl⟩ : ∃ q, L.length = q := ⟨_, rfl⟩
          have hle := on_len hon
          have hmp := hon.2.1
          have hsz : Maps.size D = nl := hsm.2.2.trans hnl
          rw [hnl] at hle
          have en : ((nl : Int) != (nl : Int)) = false := by simp
          have hnl60 : nl ≤ 60 := by omega
          have HNL := Lib.hid hnl
          clear hnl
          go_wp2_with fail
          refine hle.mono ?_
          rintro e w4 ⟨rfl, rfl⟩
          go_wp2_with (first
            | (at_len; refine look_len _ rfl _ rfl rfl hmp hsz ?_)
            | fail)
          go_loopw [85] (fun iv wr => ∃ (q : Nat) (L : List It) (D : DataW Unit), L.length + q = nl ∧ iv = .int .i64 q ∧ Same D L ∧ L.length ≤ 60 ∧ On w g b n L D wr) (fun iv _ => nl - (intOf iv).toNat)
          case atStart => exact ⟨0, L, D, HNL.out, rfl, hsm, hL60, hon⟩
          case round =>
            clear hsm hL60 hon hle hmp hsz HNL
            obtain ⟨q, L, D, hq, rfl, hsm, hL60, hon⟩ := hrel
            by_cases hlt : q < nl
            · obtain ⟨mi, hmi⟩ := on_most L (by intro e; rw [e] at hq; simp at hq; omega)
              have hpp := on_pop hon hmi (by omega)
              have hlo := hon.1.val.lo _ hmi.1
              have hs5 := Lib.hid (same_del hsm hon.1.val hon.tidy mi.2)
              have hcut := Lib.hid (show (L.filter fun a => decide (a.2 ≠ mi.2)).length + 1 = L.length by
                have := cut_len (x := mi.2) hon.1.val
                rwa [if_pos ((inQ_iff _ _).2 ⟨mi, hmi.1, rfl⟩)] at this)
              have em : (mi.1 != mi.1) = false := by simp
              clear hon
              go_wp2_with fail
              refine hpp.mono ?_
              rintro e w4 ⟨rfl, hon4, hk4⟩
              have hmp4 := hon4.2.1
              go_wp2_with (first
                | (at_lookup; refine look_member _ rfl _ _ rfl rfl hmp4 hsm mi hmi.1 (WalkArith.wf_i64 (by omega)) rfl ?_)
                | (at_delete; refine wpList_delete_own _ rfl _ _ 27 3 rfl 2 lawK Try.underlying27 _ b n D rfl hmp4 _ _ rfl (keyOf_int_mk Try.underlying3 (WalkArith.wf_i64 (by omega))) ?_; intro w5 hown5 hturn5)
                | fail)
              go_roundw
              case rel => exact ⟨q + 1, _, _, by have := hcut.out; rw [← this] at hq; omega, by go_num, hs5.out, by have := hcut.out; rw [← this] at hL60; omega, (hon4.turn hown5 hturn5.grown).1⟩
              case measure => simp [intOf]; omega
            · obtain rfl : nl = q := by omega
              obtain rfl : L = [] := List.length_eq_zero_iff.1 (by omega)
              have hle := on_len hon
              clear hlt hq hsm
              go_wp2_with fail
              refine hle.mono ?_
              rintro e w4 ⟨rfl, rfl⟩
              go_wp2_with fail
              go_ret
              exact ⟨rfl, hon.2.2.2⟩
theorem walk (a0 : Option Addr) (len0 cap0 : Nat) (z0 : List PairT) (a1 : Option Addr) (len1 cap1 : Nat) (z1 : List Int) (w : World) (w0 : z0.length = len0 ∧ Reads w w.heap.size 2 a0 len0 (z0.flatMap pairV) ∧ (∀ x ∈ z0, pairQ x) ∧ len0 ≤ cap0 ∧ len0 ≤ 9223372036854775807) (w1 : z1.length = len1 ∧ Reads w w.heap.size 1 a1 len1 (z1.map (Value.int .u8)) ∧ (∀ x ∈ z1, (Lit.int .u8 x).wf = true) ∧ len1 ≤ cap1 ∧ len1 ≤ 9223372036854775807) :
    Calls Try.prog 3 #[.slice a0 len0 cap0, .slice a1 len1 cap1] w fun e w' => e = .returned (.bool true) ∧ Below w.heap.size w w' := by
  obtain ⟨hl, hr, hQ, hc, hn⟩ := w0
  obtain ⟨hl1, hr1, hQ1, hc1, hn1⟩ := w1
  exact core a0 a1 len0 cap0 len1 cap1 z0 z1 w hl hn hn1 hc hr hQ hr1 hQ1

set_option maxRecDepth 100000 in
theorem lifted (os : Os) (started : os.Started) (H : Type) (enc : TypeId × Value → H) :
    ReturnsInHanded {} Try.checked os 3 .any (Rows.queueOnceSpec.pre6 enc Try.prog Try.f3 Rows.queueOnceRow.domain false) (Rows.queueOnceSpec.post enc Try.prog Try.f3 false true false false) := by
  refine returnsInHanded_of_change (C := Try.checked) own started (by kernel_rfl) Try.func3
    (ChangeSpec.witness6 (enc := enc) (C := Try.checked) false ⟨#[], #[.slice none 0 0, .slice none 0 0], []⟩ 8 (by kernel_rfl) (by kernel_rfl) (by kernel_rfl) (by kernel_rfl)) ?_
  intro W base args ds gs before hval0 hW hcnd _
  have hval : ∀ (j : Nat) t v, Try.f3.params[j]? = some t → args[j]? = some v → Value.okWide Try.prog W .any base t v := hval0
  have hW' := hW
  obtain ⟨p, q, hA0, hV, rfl, hfz, hnd⟩ := hW
  have hA : DataW.TrodAll enc Try.prog W 0 (fun _ => true) true Try.f3.params.toList args.toList ds p := hA0
  rw [Try.params3] at hA hval
  obtain ⟨v0, vs0, d0, ds0, p0, q0, hargs, rfl, rfl, h0, r0⟩ := trodAll_cons hA
  obtain ⟨v1, vs1, d1, ds1, p1, q1, rfl, rfl, rfl, h1, r1⟩ := trodAll_cons r0
  obtain ⟨rfl, rfl, rfl⟩ := trodAll_nil r1
  obtain rfl : args = #[v0, v1] := by cases args; simp_all
  obtain ⟨rfl, rfl⟩ := trodVars_none hV
  obtain ⟨a0, len0, cap0, rfl⟩ := okWide_slice Try.underlying22 (hval 0 22 v0 rfl rfl)
  have k0 := h0
  have lt0 : ∀ x ∈ p0, x.block < W.heap.size := by obtain ⟨m, hm⟩ := k0; exact DataW.trod_lt m _ _ _ hm
  obtain ⟨z0, w0⟩ := open_rows (s := 2) pairV pairQ (fun _ => rfl) (by decide) Try.underlying22 (by kernel_rfl) dec_pair h0
  obtain ⟨a1, len1, cap1, rfl⟩ := okWide_slice Try.underlying23 (hval 1 23 v1 rfl rfl)
  have k1 := h1
  have lt1 : ∀ x ∈ p1, x.block < W.heap.size := by obtain ⟨m, hm⟩ := k1; exact DataW.trod_lt m _ _ _ hm
  obtain ⟨z1, w1⟩ := open_ones (Value.int .u8) (fun x => (Lit.int .u8 x).wf = true) Try.underlying23 (by kernel_rfl) (dec_int Try.underlying5) h1
  clear hA0 hval0
  refine (walk a0 len0 cap0 z0 a1 len1 cap1 z1 W w0 w1).mono fun e W' ⟨he, bel⟩ => ?_
  subst he
  exact ⟨_, rfl, _, _, _, [], _, [], hW', trodAll_mk1 (shut_bool Try.underlying4 _), (trodAll_cons_mk (Below.trod laidOut (by kernel_rfl) (of_decide_eq_true (by kernel_rfl)) k0 bel lt0) (trodAll_cons_mk (Below.trod laidOut (by kernel_rfl) (of_decide_eq_true (by kernel_rfl)) k1 bel lt1) trodAll_mk0)), rfl, bel.frame _, fun h => by cases h⟩
theorem over : Rows.queueOnceRow.holds Try.pinned (OpenSpec.ofChange Rows.queueOnceSpec) :=
  OpenClaim.holds_of_wide 3 Try.f3 rfl rfl rfl rfl rfl rfl rfl ⟨rfl, rfl, rfl, rfl, rfl⟩ rfl rfl rfl rfl rfl (by kernel_rfl) Try.func3 (by kernel_rfl)
    (of_decide_eq_true (by kernel_rfl)) (by unfold Func.isWrapper; first | (rw [if_pos (by decide +kernel)]; kernel_rfl) | (rw [if_neg (by decide +kernel)]; exact ⟨rfl, rfl⟩))
    (fun os started H enc _ => lifted os started H enc)
theorem proved : Rows.QueueOnceSaid := over
end Go.Proofs.Ythjfboecdhlnfaa.queueOnce
