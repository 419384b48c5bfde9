/- For every input RatioSorts returns true; its arguments read as before. No condition. -/
import Derived.Test.YtnnlkjbnonkjmaaRows
import Derived.WalkKit
import Derived.ProofKit
import Derived.OpenShut
import Derived.ShutString
import Derived.ChangeOld
import Derived.Below
import Derived.Test.YtnnlkjbnonkjmaaOpen
import Derived.Test.YtnnlkjbnonkjmaaFloAwake
import Derived.Test.YtnnlkjbnonkjmaaSel
import Derived.Deep.RegionHeld3
import Derived.Deep.RegionLaw
namespace Go.Proofs.Ytnnlkjbnonkjmaa.ratioSorts
open Go.Proofs.Ytnnlkjbnonkjmaa.flo Go.Proofs.Ytnnlkjbnonkjmaa.words
open Go.ChangeShapes Go.WideShapes Go.ChangeAt Go.RowKit
open Go.ChangeMaps (open_string shut_string)
set_option linter.unusedVariables false
theorem own : ownKnob Try.prog.godebug = none := by kernel_rfl
theorem laidOut : laidOutB Try.prog = true := by kernel_rfl
theorem infoF : (Try.prog.info? 24).map (fun i => (i.zero, i.size, i.bytes)) = some (some (.float .f64 0), 1, 8) := by kernel_rfl
theorem own_ge {w : World} {base : Nat} {e : TypeId} {size : Nat} {v : Value} {n : Nat} {xs : List Value} (h : w.ownsRow base e size v n xs) {q : Nat} (hq : v.ownBlock = some q) : base ≤ q ∧ q < w.heap.size := by
  rcases h.2 with ⟨rfl, _⟩ | ⟨g, cap, cur, rfl, hb, hg, _⟩
  · cases hq
  · injection hq with hq; subst hq; exact ⟨hb, Blk.lt hg⟩
theorem isN_walk (x : Nat) : (FloatKind.f64.format.order x x != some .eq) = isN x := nan_key x
theorem flts_take (xs : List Nat) (k : Nat) : (flts xs).take k = flts (xs.take k) := by unfold flts; rw [List.map_take]
theorem flts_drop (xs : List Nat) (k : Nat) : (flts xs).drop k = flts (xs.drop k) := by unfold flts; rw [List.map_drop]
theorem flts_app (xs ys : List Nat) : flts xs ++ flts ys = flts (xs ++ ys) := by unfold flts; rw [List.map_append]
set_option maxRecDepth 100000 in
set_option maxHeartbeats 4000000 in
theorem core (A : Option Addr) (n cap : Nat) (xs : List Nat) (w : World) (hr : Reads w w.heap.size 1 A n (flts xs)) (hn : n ≤ 9223372036854775807) (hcap : n ≤ cap) :
    Calls Try.prog 4 #[.slice A n cap] w fun e w' => e = .returned (.bool true) ∧ Below w.heap.size w w' := by
  obtain ⟨i0, hi0, hz0, hz1, hz2⟩ := info_parts infoF
  obtain ⟨m, hm, m1, m2, -⟩ := min_nat n 15
  have hm' : (if (15 : Int) < (n : Int) then (15 : Int) else (n : Int)) = (m : Int) := hm
  clear hm
  go_enter Try.func4, Try.ntmps4
  go_wp2_with fail
  refine (awake_any w).mono ?_
  rintro e w1 ⟨rfl, hb1⟩
  have hr1 := hr.lift hb1
  have hrm := ((hr1.take_ m1).alloc (Nat.le_refl _) (.cells #[] 24))
  have hlit := World.ownsRow_lit (base := w1.heap.size) (e := 24) (size := 1) w1 #[] 0 (Nat.le_refl _) (by unfold maxLen; omega) rfl
  have hone : ∀ u ∈ (flts xs).take m, u.oneCell' = true := fun u hu => flts_one u (List.mem_of_mem_take hu)
  clear hr hr1
  go_wp2_with (first
    | (at_builtin; refine wpList_append_any _ rfl (.tmp 12) (.tmp 17) _ rfl w1.heap.size 24 i0 _ 1 8 Try.underlying22 hi0 hz0 hz1 hz2 rfl (by omega) _ 0 [] rfl hlit w1.heap.size A m cap ((flts xs).take m) rfl hrm hone (by simp only [maxLen]; omega) (by omega) (by simp) ?_; intro v2 w2 hown hg2 hat; clear hat; rw [Nat.zero_add, List.nil_append] at hown; obtain ⟨A2, c2, rfl⟩ := own_shape hown)
    | fail)
  have hg3 : (w1.alloc (.cells #[] 24)).grownBy w2 (some w1.heap.size) := hg2
  have hb2 : Below w1.heap.size w1 w2 := (bone w1 (.cells #[] 24)).grown hg3 (by simp) (by simp)
  obtain ⟨ys, hys⟩ : ∃ ys, ys = xs.take m := ⟨_, rfl⟩
  rw [flts_take, ← hys] at hown
  have hB := bto hb1 hb2
  have hw2 : w.heap.size ≤ w1.heap.size := hb1.size
  have hry := Reads.of_own hown
  have hlen := flts_len hry
  have hs2 := hb2.size
  clear hrm hlit hg2 hg3 hys hm' hone hb2 hb1
  go_wp2_with fail
  go_loop [3, 21] (fun cv iv => ∃ i : Nat, i ≤ m ∧ iv = .int .i64 i ∧ cv = .int .i64 ((ys.take i).countP isN : Nat)) (fun _ iv => m - (intOf iv).toNat)
  case atStart => exact ⟨0, by omega, rfl, rfl⟩
  case round =>
    obtain ⟨i, hi, rfl, rfl⟩ := hrel
    by_cases hlt : i < m
    · obtain ⟨ad, a, rfl, _, hya, hca⟩ := Reads.flt hry hlt
      have hcs := cnt_snoc hya
      have hle := List.countP_le_length (p := isN) (l := ys.take i)
      rw [List.length_take] at hle
      obtain ⟨q, hq⟩ : ∃ q, (ys.take i).countP isN = q := ⟨_, rfl⟩
      rw [hq] at hcs hle ⊢
      have hqb : q ≤ 15 := by omega
      have hna := isN_walk a
      have HL := Lib.hid hlen
      clear hq hle hya hlen
      by_cases ha : isN a = true
      · rw [ha] at hna hcs
        rw [if_pos rfl] at hcs
        clear ha
        have HC := Lib.hid hcs
        clear hcs
        go_wp2
        go_round
        case rel => exact ⟨i + 1, by omega, by go_num, by rw [HC.out]; go_num⟩
        case measure => simp [intOf]; omega
      · rw [Bool.not_eq_true] at ha
        rw [ha] at hna hcs
        rw [if_neg (by decide), Nat.add_zero] at hcs
        clear ha
        have HC := Lib.hid hcs
        clear hcs
        go_wp2
        go_round
        case rel => exact ⟨i + 1, by omega, by go_num, by rw [HC.out]; rfl⟩
        case measure => simp [intOf]; omega
    · obtain rfl : i = m := by omega
      have hs0 := Sel.start ys
      rw [List.take_of_length_le (by omega : ys.length ≤ i)]
      rw [hlen] at hs0
      obtain ⟨cnt, hcnt⟩ : ∃ q, ys.countP isN = q := ⟨_, rfl⟩
      have hcle := List.countP_le_length (p := isN) (l := ys)
      rw [hcnt] at hs0 hcle ⊢
      rw [hlen] at hcle
      clear hcnt hry hlt hi
      go_wp2_with fail
      go_loopw [0, 6] (fun lv ov wr => ∃ (A : Option Addr) (k c : Nat) (ys : List Nat) (A' : Option Addr) (k' c' : Nat) (zs : List Nat), lv = .slice A k c ∧ ov = .slice A' k' c' ∧ wr.ownsRow w1.heap.size 24 1 (.slice A k c) k (flts ys) ∧ wr.ownsRow w1.heap.size 24 1 (.slice A' k' c') k' (flts zs) ∧ (∀ q, (Value.slice A k c).ownBlock = some q → (Value.slice A' k' c').ownBlock ≠ some q) ∧ Sel i cnt ys zs ∧ ys.length = k ∧ zs.length = k' ∧ w1.heap.size ≤ wr.heap.size ∧ Below w.heap.size w wr) (fun lv _ _ => match lv with | .slice _ k _ => k | _ => 0)
      case atStart => exact ⟨A2, i, c2, ys, none, 0, 0, [], rfl, rfl, hown, World.ownsRow_nil _ _ _ _, (fun q _ e => by cases e), hs0, hlen, rfl, hs2, hB⟩
      case round =>
        clear hs0 hown hB
        obtain ⟨A, k, c, ys, A', k', c', zs, rfl, rfl, ho, ho', hap, hs, hy, hz, hsz, hB⟩ := hrel
        have hl := hs.len
        rw [hy, hz] at hl
        by_cases hk : 0 < k
        · have hry := Reads.of_own ho
          have hcc := own_cap ho
          obtain ⟨g, rfl, hg1, hg2⟩ := own_some ho hk
          go_wp2_with fail
          refine (first_any _ k c ys _ (by omega) hry).mono ?_
          rintro e w' ⟨⟨b, hb, rfl⟩, rfl⟩
          rcases hb with ⟨h0, _⟩ | ⟨p, rfl, x, hx, hbest, -⟩
          · rw [h0] at hy; simp at hy; omega
          have hp : p < k := by rw [← hy]; exact (List.getElem?_eq_some_iff.1 hx).1
          have HS := Lib.hid (hs.step hx hbest)
          obtain ⟨_, x', hA, _, hx', hcx⟩ := Reads.flt hry hp
          obtain rfl := Option.some.inj hA
          obtain rfl : x = x' := Option.some.inj (hx.symm.trans hx')
          have hadd : (Addr.add ⟨g, 0, none⟩ p) = ⟨g, p, none⟩ := by unfold Addr.add; split <;> simp_all
          rw [hadd] at hcx
          clear hadd
          have ho1 := ho'.alloc (.cells #[.float .f64 x] 24)
          have hr1 : Reads (wr.alloc (.cells #[.float .f64 x] 24)) (wr.alloc (.cells #[.float .f64 x] 24)).heap.size 1 (some ⟨wr.heap.size, 0, none⟩) 1 (flts [x]) := reads_block (t := 24) (heap_alloc_new _ _) rfl
          clear hbest hx hx' hA hry
          have HY := Lib.hid hy
          have HZ := Lib.hid hz
          have HL := Lib.hid hl
          clear hy hz
          go_wp2_with (first
            | (at_builtin; refine wpList_append_any _ rfl (.tmp 44) (.tmp 49) _ rfl w1.heap.size 24 i0 _ 1 8 Try.underlying22 hi0 hz0 hz1 hz2 rfl (by omega) _ k' _ rfl ho1 (wr.alloc (.cells #[.float .f64 x] 24)).heap.size (some ⟨wr.heap.size, 0, none⟩) 1 1 (flts [x]) rfl hr1 flts_one (by simp only [maxLen]; omega) (by omega) (by simp; omega) ?_; intro v3 w3 hown3 hg3 hat; clear hat; obtain ⟨A3, c3, rfl⟩ := own_shape hown3)
            | fail)
          have hlit := World.ownsRow_lit (base := w3.heap.size) (e := 24) (size := 1) w3 #[] 0 (Nat.le_refl _) (by unfold maxLen; omega) rfl
          have hgw : (wr.alloc (.cells #[.float .f64 x] 24)).grownBy w3 (Value.slice A' k' c').ownBlock := hg3
          have ht : Tch wr w3 (fun q => some q = (Value.slice A' k' c').ownBlock) := (Tch.of_below (bone wr _) _).trans (Tch.of_grown hgw fun q _ hq => hq) fun _ _ x => x
          have ho3 := ht.own ho fun q hq e => hap q hq e.symm
          have hr3 := Reads.of_own ho3
          have hB3 : Below w.heap.size w w3 := hB.trans (ht.below hB.size fun q hq e => by have := own_ge ho' e.symm; omega)
          have hrp := (hr3.take_ (Nat.le_of_lt hp)).alloc (Nat.le_refl _) (.cells #[] 24)
          rw [flts_take] at hrp
          have hrd : Reads w3 w3.heap.size 1 (if c = p + 1 then some ⟨g, 0, none⟩ else some ⟨g, p + 1, none⟩) (k - (p + 1)) (flts (ys.drop (p + 1))) := by
            have := hr3.cut (k := p + 1) (cap := c) (by omega) hcc
            rw [flts_drop] at this
            simpa [Addr.add] using this
          have hgg : w1.heap.size ≤ w3.heap.size := Nat.le_trans hsz ht.size
          clear hr1 ho1 hcx hgw hg3 ho ho' hap hB hr3
          have z1 : (0 : Int) ≤ (p : Int) := by omega
          have z2 : (p : Int) ≤ (k : Int) := by omega
          have z3 : (p : Int) ≤ (c : Int) := by omega
          have z4 : IntKind.i64.wrap ((p : Int) + 1) = (p : Int) + 1 := by rw [IntKind.wrap_i64]; omega
          have z8 : ¬ c = 0 := by omega
          have y1 : p ≤ c := by omega
          have y2 : p + 1 ≤ k := by omega
          have z5 : (0 : Int) ≤ (p : Int) + 1 := by omega
          have z6 : (p : Int) + 1 ≤ (k : Int) := by omega
          have z7 : ((p : Int) + 1).toNat = p + 1 := by omega
          obtain ⟨A5, hA5⟩ : ∃ A5, (if c = p + 1 then (some ⟨g, 0, none⟩ : Option Addr) else some ⟨g, p + 1, none⟩) = A5 := ⟨_, rfl⟩
          rw [hA5] at hrd
          go_region_held3 (fun w' => Below w3.heap.size w3 w') (first | assumption | exact (Below.refl _ _).drew | exact (bone w3 _).drew)
            (first
              | (refine step_append_any _ rfl (.tmp 51) (.tmp 54) 22 rfl w3.heap.size 24 i0 (.float .f64 0) 1 8 Try.underlying22 hi0 hz0 hz1 hz2 rfl (by omega) (.slice (some ⟨w3.heap.size, 0, none⟩) 0 0) 0 [] rfl hlit w3.heap.size (some ⟨g, 0, none⟩) p c (flts (ys.take p)) rfl hrp flts_one (by simp only [maxLen]; omega) (by omega) (by simp) ?_; intro v4 w4 hown4 hg4 hat; clear hat; rw [Nat.zero_add, List.nil_append] at hown4; obtain ⟨A4, c4, rfl⟩ := own_shape hown4; have hg5 : (w3.alloc (.cells #[] 24)).drew.grownBy w4 (some w3.heap.size) := hg4; have hb4 : Below w3.heap.size w3 w4 := (bone w3 (.cells #[] 24)).drew.grown hg5 (by simp) (by simp))
              | (refine step_append_any _ rfl (.tmp 55) (.tmp 59) 22 rfl w3.heap.size 24 i0 (.float .f64 0) 1 8 Try.underlying22 hi0 hz0 hz1 hz2 rfl (by omega) (.slice A4 p c4) p (flts (ys.take p)) rfl hown4 w3.heap.size A5 (k - (p + 1)) (c - (p + 1)) (flts (ys.drop (p + 1))) rfl (hrd.below hb4) flts_one (by simp only [maxLen]; omega) (by omega) hb4.size ?_; intro v5 w5 hown5 hg6 hat5; obtain ⟨A6, c6, rfl⟩ := own_shape hown5; have hb5 : Below w3.heap.size w3 w5 := hb4.grown hg6 hb4.size (fun q hq => (own_ge hown4 hq).1)))
          go_wp2_with fail
          go_roundw
          case rel =>
            refine ⟨A6, _, c6, ys.take p ++ ys.drop (p + 1), A3, _, c3, zs ++ [x], rfl, rfl, ?_, ?_, ?_, HS.out, ?_, ?_, ?_, ?_⟩
            · rw [← flts_app]; exact own_base hown5 hgg
            · rw [← flts_app]; exact own_under hown3 hb5
            · intro q hq e
              have h1 := own_ge hown5 hq
              have h2 := own_ge hown3 e
              omega
            · simp [HY.out]; omega
            · simp [HZ.out]
            · exact Nat.le_trans hgg hb5.size
            · exact bto hB3 hb5
          case measure => simp; omega
        · have hk0 : k = 0 := by omega
          subst hk0
          have hz' := Reads.of_own ho'
          obtain rfl : ys = [] := List.length_eq_zero_iff.1 hy
          have HS := Lib.hid hs
          have HZ := Lib.hid hz
          have hcl : cnt ≤ k' := by have := hs.cnt; have h2 := List.countP_le_length (p := isN) (l := zs); simp at this; omega
          clear hap ho ho' hs hy hz
          go_wp2_with fail
          go_loop [63] (fun iv => ∃ j : Nat, j ≤ k' ∧ iv = .int .i64 j) (fun iv => k' - (intOf iv).toNat)
          case atStart => exact ⟨0, by omega, rfl⟩
          case round =>
            obtain ⟨j, hj, rfl⟩ := hrel
            by_cases hlt : j < k'
            · obtain ⟨ad, a, rfl, _, hza, hca⟩ := Reads.flt hz' hlt
              have hna := isN_walk a
              rw [HS.out.nan hza, HZ.out] at hna
              have hw : IntKind.i64.wrap ((k' : Int) - cnt) = (k' : Int) - cnt := by rw [IntKind.wrap_i64]; omega
              by_cases hj0 : ¬ 0 < j
              · clear hza
                by_cases hge : (k' : Int) - cnt ≤ (j : Int)
                · rw [decide_eq_true hge] at hna
                  go_wp2_with fail
                  go_round
                  case rel => exact ⟨j + 1, by omega, by go_num⟩
                  case measure => simp [intOf]; omega
                · rw [decide_eq_false hge] at hna
                  go_wp2_with fail
                  go_round
                  case rel => exact ⟨j + 1, by omega, by go_num⟩
                  case measure => simp [intOf]; omega
              · obtain ⟨p, hpj⟩ : ∃ p, p + 1 = j := ⟨j - 1, by omega⟩
                obtain ⟨_, b, hA, _, hzb, hcb⟩ := Reads.flt hz' (k := p) (by omega)
                obtain rfl := Option.some.inj hA
                have hcm := HS.out.cmp hzb (by rw [hpj]; exact hza)
                have h3 := fun w => cmp_any b a w
                obtain ⟨s, hs⟩ : ∃ s, cmpK (key b) (key a) = s := ⟨_, rfl⟩
                rw [hs] at hcm h3
                have hw2 : IntKind.i64.wrap ((j : Int) - 1) = (p : Int) := by rw [IntKind.wrap_i64]; omega
                have hpk : p < k' := by omega
                clear hza hzb hA hs hpj
                by_cases hge : (k' : Int) - cnt ≤ (j : Int)
                · rw [decide_eq_true hge] at hna
                  go_wp2_with (first
                    | (go_at_call 11; (with_reducible refine (h3 _).mono ?_); rintro e w' ⟨rfl, rfl⟩)
                    | fail)
                  go_round
                  case rel => exact ⟨j + 1, by omega, by go_num⟩
                  case measure => simp [intOf]; omega
                · rw [decide_eq_false hge] at hna
                  go_wp2_with (first
                    | (go_at_call 11; (with_reducible refine (h3 _).mono ?_); rintro e w' ⟨rfl, rfl⟩)
                    | fail)
                  go_round
                  case rel => exact ⟨j + 1, by omega, by go_num⟩
                  case measure => simp [intOf]; omega
            · go_wp2
              go_ret
              exact ⟨rfl, hB⟩
theorem walk (a0 : Option Addr) (len0 cap0 : Nat) (z0 : List Nat) (w : World) (w0 : z0.length = len0 ∧ Reads w w.heap.size 1 a0 len0 (z0.map (Value.float .f64)) ∧ (∀ x ∈ z0, (Lit.float .f64 x).wf = true) ∧ len0 ≤ cap0 ∧ len0 ≤ 9223372036854775807) :
    Calls Try.prog 4 #[.slice a0 len0 cap0] w fun e w' => e = .returned (.bool true) ∧ Below w.heap.size w w' := by
  obtain ⟨_, hr, _, hc, hl⟩ := w0
  exact core a0 len0 cap0 z0 w hr hl hc

set_option maxRecDepth 100000 in
theorem lifted (os : Os) (started : os.Started) (H : Type) (enc : TypeId × Value → H) :
    ReturnsInHanded {} Try.checked os 4 .any (Rows.ratioSortsSpec.pre6 enc Try.prog Try.f4 Rows.ratioSortsRow.domain false) (Rows.ratioSortsSpec.post enc Try.prog Try.f4 false true false false) := by
  refine returnsInHanded_of_change (C := Try.checked) own started (by kernel_rfl) Try.func4
    (ChangeSpec.witness6 (enc := enc) (C := Try.checked) false ⟨#[], #[.slice none 0 0], []⟩ 8 (by kernel_rfl) (by kernel_rfl) (by kernel_rfl) (by kernel_rfl)) ?_
  intro W base args ds gs before hval0 hW hcnd _
  have hval : ∀ (j : Nat) t v, Try.f4.params[j]? = some t → args[j]? = some v → Value.okWide Try.prog W .any base t v := hval0
  have hW' := hW
  obtain ⟨p, q, hA0, hV, rfl, hfz, hnd⟩ := hW
  have hA : DataW.TrodAll enc Try.prog W 0 (fun _ => true) true Try.f4.params.toList args.toList ds p := hA0
  rw [Try.params4] at hA hval
  obtain ⟨v0, vs0, d0, ds0, p0, q0, hargs, rfl, rfl, h0, r0⟩ := trodAll_cons hA
  obtain ⟨rfl, rfl, rfl⟩ := trodAll_nil r0
  obtain rfl : args = #[v0] := by cases args; simp_all
  obtain ⟨rfl, rfl⟩ := trodVars_none hV
  obtain ⟨a0, len0, cap0, rfl⟩ := okWide_slice Try.underlying22 (hval 0 22 v0 rfl rfl)
  have k0 := h0
  have lt0 : ∀ x ∈ p0, x.block < W.heap.size := by obtain ⟨m, hm⟩ := k0; exact DataW.trod_lt m _ _ _ hm
  obtain ⟨z0, w0⟩ := open_ones (Value.float .f64) (fun x => (Lit.float .f64 x).wf = true) Try.underlying22 (by kernel_rfl) (dec_float Try.underlying24) h0
  clear hA0 hval0
  refine (walk a0 len0 cap0 z0 W w0).mono fun e W' ⟨he, bel⟩ => ?_
  subst he
  exact ⟨_, rfl, _, _, _, [], _, [], hW', trodAll_mk1 (shut_bool Try.underlying4 _), (trodAll_cons_mk (Below.trod laidOut (by kernel_rfl) (of_decide_eq_true (by kernel_rfl)) k0 bel lt0) trodAll_mk0), rfl, bel.frame _, fun h => by cases h⟩
theorem over : Rows.ratioSortsRow.holds Try.pinned (OpenSpec.ofChange Rows.ratioSortsSpec) :=
  OpenClaim.holds_of_wide 4 Try.f4 rfl rfl rfl rfl rfl rfl rfl ⟨rfl, rfl, rfl, rfl, rfl⟩ rfl rfl rfl rfl rfl (by kernel_rfl) Try.func4 (by kernel_rfl)
    (of_decide_eq_true (by kernel_rfl)) (by unfold Func.isWrapper; first | (rw [if_pos (by decide +kernel)]; kernel_rfl) | (rw [if_neg (by decide +kernel)]; exact ⟨rfl, rfl⟩))
    (fun os started H enc _ => lifted os started H enc)
theorem proved : Rows.RatioSortsSaid := over
end Go.Proofs.Ytnnlkjbnonkjmaa.ratioSorts
