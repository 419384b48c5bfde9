/- For every input ScanAts returns true; its arguments read as before. No condition. -/
import Derived.Test.YtbdeghhoophkbaaRows
import Derived.WalkKit
import Derived.ProofKit
import Derived.OpenShut
import Derived.ShutString
import Derived.ChangeOld
import Derived.Below
import Derived.Test.YtbdeghhoophkbaaOpen
import Derived.Test.YtbdeghhoophkbaaScLaw
import Derived.Deep.RegionHeld3
namespace Go.Proofs.Ytbdeghhoophkbaa.scanAts
open Go.Proofs.Ytbdeghhoophkbaa.scn Go.Proofs.Ytbdeghhoophkbaa.words
open Go.ChangeShapes Go.WideShapes Go.ChangeAt Go.RowKit
open Go.ChangeMaps (open_string shut_string)
set_option linter.unusedVariables false
theorem own : ownKnob Try.prog.godebug = none := by kernel_rfl
theorem laidOut : laidOutB Try.prog = true := by kernel_rfl
set_option maxRecDepth 4000 in
set_option maxHeartbeats 8000000 in
theorem core (A C : Option Addr) (n0 cap nb cb : Nat) (xs : List Int) (zs : List Bool) (w : World) (hn : n0 ≤ 9223372036854775807) (hc : n0 ≤ cap) (hnb : nb ≤ 9223372036854775807) (hzl : zs.length = nb)
    (hr : Reads w w.heap.size 1 A n0 (xs.map (Value.int .u8))) (hwf : ∀ x ∈ xs, (Lit.int .u8 x).wf = true) (hrb : Reads w w.heap.size 1 C nb (zs.map Value.bool)) :
    Calls Try.prog 4 #[.slice A n0 cap, .slice C nb cb] w fun e w' => e = .returned (.bool true) ∧ Below w.heap.size w w' := by
  obtain ⟨bs0, hbs⟩ := bytes_of hwf
  rw [hbs] at hr
  clear hbs hwf
  have HB0 := Lib.hid hrb
  have HZ := Lib.hid hzl
  clear hrb hzl
  go_enter Try.func4, Try.ntmps4
  go_wp2_with fail
  refine (awake_any w).mono ?_
  rintro e w1 ⟨rfl, hb1⟩
  have hcut := cut_any A n0 cap bs0 w1 hn hc (hr.lift hb1)
  have hL : (bs0.take 200).length ≤ 200 := by simp; omega
  obtain ⟨bs, hbs⟩ : ∃ bs, bs0.take 200 = bs := ⟨_, rfl⟩
  rw [hbs] at hcut hL
  clear hbs hr
  go_wp2_with fail
  refine hcut.mono ?_
  rintro e w2 ⟨A2, c2, rfl, ho2, hb2⟩
  have hB2 := bto hb1 hb2
  have hnw := new_any A2 _ c2 bs w2 (by omega) (Reads.of_own ho2)
  clear hcut hb1 hb2
  obtain ⟨n, hnl⟩ : ∃ n, bs.length = n := ⟨_, rfl⟩
  rw [hnl] at hnw ho2 ⊢
  go_wp2_with fail
  refine hnw.mono ?_
  rintro e w3 ⟨g, rfl, hs3, hg, hb3⟩
  have hB3 := bto hB2 hb3
  have hgw : w.heap.size ≤ g := by have := hB2.size; omega
  have hwd := words_all A2 n c2 _ bs w3 hnl (by omega) (own_under ho2 hb3)
  clear hnw ho2 hB2 hb3 hg
  go_wp2_with fail
  refine hwd.mono ?_
  rintro e w4 ⟨l, bad, A4, c4, rfl, hT, hR4, hb4⟩
  have hs4 := hs3.below hb4
  have hB4 := bto hB3 hb4
  clear hwd hs3 hB3 hb4
  have hN : bs.length ≤ 1000000 := by omega
  have hR4' : Row w3 l A4 c4 w4 := hR4
  have HT := Lib.hid hT
  obtain ⟨m, hm⟩ : ∃ m, l.length = m := ⟨_, rfl⟩
  rw [hm]
  have hm63 : m ≤ 1000000 := by have := hT.len; omega
  clear hT hR4 hnl
  go_wp2_with fail
  go_loopw [8, 32] (fun av iv wr => ∃ (i a : Nat), iv = .int .i64 i ∧ av = .int .i64 a ∧ i ≤ m ∧ Lft bs a (l.drop i) bad ∧ Scn wr g bs a (-1) ∧ Row w3 l A4 c4 wr ∧ Below w.heap.size w wr) (fun _ iv _ => m - (intOf iv).toNat)
  case atStart => exact ⟨0, 0, rfl, rfl, Nat.zero_le _, HT.out.left, hs4, hR4', hB4⟩
  case round =>
    obtain ⟨i, a, rfl, rfl, him, hleft, hs, hR, hB⟩ := hrel
    by_cases hlt : i < m
    · obtain ⟨⟨v, s⟩, hget⟩ : ∃ x, l[i]? = some x := ⟨_, List.getElem?_eq_getElem (by omega)⟩
      rw [List.drop_eq_getElem_cons (show i < l.length by omega)] at hleft
      have hx : l[i]'(by omega) = (v, s) := by rw [List.getElem?_eq_getElem (by omega)] at hget; exact Option.some.inj hget
      rw [hx] at hleft
      obtain ⟨j, hnx, hv, hleft2, hsj, hjl, hvl⟩ := hleft.step
      obtain ⟨q, rfl, hq0, hq1⟩ := hR.at_ hget
      have hbx := bone wr (.cells #[strV v, .int .i64 s] 31)
      have hs5 := hs.below hbx
      have hR5 := hR.below hbx
      have hB5 := bnew hB (.cells #[strV v, .int .i64 s] 31)
      have hbk : Blk (wr.alloc (.cells #[strV v, .int .i64 s] 31)) wr.heap.size 31 #[strV v, .int .i64 s] := Blk.new _ _ _
      have HL2 := Lib.hid hleft2
      have HX := Lib.hid hnx
      have hal := hleft.1
      have HV := Lib.hid hv
      have vsz : (⟨v.toArray⟩ : ByteArray).size = j - s := by simp [ByteArray.size, hvl]
      obtain ⟨k, hk⟩ : ∃ k, j - s = k := ⟨_, rfl⟩
      rw [hk] at vsz hvl
      have kk : k ≤ 1000000 := by omega
      have kI : (s : Int) + (k : Int) = (j : Int) := by omega
      have kw : IntKind.i64.wrap (j : Int) = (j : Int) := by rw [IntKind.wrap_i64]; omega
      clear hv hk hleft hleft2 hnx hget hx hs hR hB hbx
      go_wp2_with fail
      refine (at_any hs5).mono ?_
      rintro e w6 ⟨rfl, rfl⟩
      have hmo := more_any hs5 hal hN
      go_wp2_with fail
      refine hmo.mono ?_
      rintro e w6 ⟨i', rfl, hsk, hb6⟩
      rw [hsk.more HX.out]
      have hs6 := hs5.below hb6
      have hR6 := hR5.below hb6
      have hB6 := bto hB5 hb6
      have hbk6 := Blk.under hbk hb6
      have hne : ¬ wr.heap.size = g := fun e => by
        subst e
        obtain ⟨_, _, hbg, _⟩ := hs6
        have h1 : some (Obj.cells #[strV v, .int .i64 s] 31 (0, 0)) = some _ := hbk6.symm.trans hbg
        cases h1
      have hrd := fun W => read_ref v W (by omega)
      clear hmo hsk hs5 hR5 hB5 hbk hb6
      by_cases hib : i < nb
      · obtain ⟨ad, u, rfl, _, hu, hc⟩ := (HB0.out.lift hB6).at_ hib
        rw [List.getElem?_map] at hu
        obtain ⟨b, hzi⟩ : ∃ b, zs[i]? = some b := ⟨_, List.getElem?_eq_getElem (by have := HZ.out; omega)⟩
        rw [hzi] at hu
        simp only [Option.map_some, Option.some.injEq] at hu
        subst hu
        have hibD : decide (i < nb) = true := decide_eq_true hib
        have hibI : decide ((i : Int) < (nb : Int)) = true := decide_eq_true (by omega)
        clear hzi
        cases b with
        | true =>
          have hi6 := int_any hs6 hal hN
          go_upto_region 13 with (fail)
          go_wp2_with fail
          refine hi6.mono ?_
          rintro e w7 (⟨i2, k1, _⟩ | ⟨k1, _⟩ | ⟨i2, j2, k1, rfl, hs7, ht7⟩)
          · cases k1.uniq HX.out
          · cases k1.uniq HX.out
          cases k1.uniq HX.out
          rw [← HV.out]
          have hR7 := hR6.scn hs6 ht7
          have hB7 := scn_bel hB6 hgw (by have := hB6.size; omega) ht7
          have hbk7 := ht7.blk hbk6 hne
          have c0 := hbk7.cell 0
          have c1 := hbk7.cell 1
          clear hi6 hs6 hR6 hB6 hbk6 ht7 hne k1 hbk7 hc
          go_wp2_with fail
          refine (hrd _).mono ?_
          rintro e w8 ⟨rfl, rfl⟩
          clear hrd
          go_wp2_with fail
          go_roundw
          case rel => exact ⟨i + 1, j, by go_num, by go_num, by omega, HL2.out, hs7, hR7, hB7⟩
          case measure => simp [intOf]; omega
        | false =>
          have hi6 := word_any hs6 hal hN
          clear hrd
          go_upto_region 17 with (fail)
          go_wp2_with fail
          refine hi6.mono ?_
          rintro e w7 (⟨i2, k1, _⟩ | ⟨k1, _⟩ | ⟨i2, j2, k1, rfl, hs7, ht7⟩)
          · cases k1.uniq HX.out
          · cases k1.uniq HX.out
          cases k1.uniq HX.out
          rw [← HV.out]
          have hR7 := hR6.scn hs6 ht7
          have hB7 := scn_bel hB6 hgw (by have := hB6.size; omega) ht7
          have hbk7 := ht7.blk hbk6 hne
          have c0 := hbk7.cell 0
          have c1 := hbk7.cell 1
          clear hi6 hs6 hR6 hB6 hbk6 ht7 hne k1 hbk7 hc
          go_wp2_with fail
          go_roundw
          case rel => exact ⟨i + 1, j, by go_num, by go_num, by omega, HL2.out, hs7, hR7, hB7⟩
          case measure => simp [intOf]; omega
      · have hibD : decide (i < nb) = false := decide_eq_false hib
        have hibI : decide ((i : Int) < (nb : Int)) = false := decide_eq_false (by omega)
        have hi6 := word_any hs6 hal hN
        clear hrd
        go_upto_region 17 with (fail)
        go_wp2_with fail
        refine hi6.mono ?_
        rintro e w7 (⟨i2, k1, _⟩ | ⟨k1, _⟩ | ⟨i2, j2, k1, rfl, hs7, ht7⟩)
        · cases k1.uniq HX.out
        · cases k1.uniq HX.out
        cases k1.uniq HX.out
        rw [← HV.out]
        have hR7 := hR6.scn hs6 ht7
        have hB7 := scn_bel hB6 hgw (by have := hB6.size; omega) ht7
        have hbk7 := ht7.blk hbk6 hne
        have c0 := hbk7.cell 0
        have c1 := hbk7.cell 1
        clear hi6 hs6 hR6 hB6 hbk6 ht7 hne k1 hbk7
        go_wp2_with fail
        go_roundw
        case rel => exact ⟨i + 1, j, by go_num, by go_num, by omega, HL2.out, hs7, hR7, hB7⟩
        case measure => simp [intOf]; omega
    · obtain rfl : m = i := by omega
      rw [List.drop_of_length_le (by omega)] at hleft
      have hmo := more_any hs hleft.1 hN
      have hlast := hleft.last
      clear hleft
      rcases hlast with ⟨rfl, hnx⟩ | ⟨b, rfl, hnx⟩
      · have HX := Lib.hid hnx
        clear hnx
        go_wp2_with fail
        refine (at_any hs).mono ?_
        rintro e w6 ⟨rfl, rfl⟩
        go_wp2_with fail
        refine hmo.mono ?_
        rintro e w6 ⟨i', rfl, hsk, hb6⟩
        rw [hsk.over HX.out]
        clear hmo
        go_wp2_with fail
        go_ret
        exact ⟨rfl, bto hB hb6⟩
      · have HX := Lib.hid hnx
        have b0 : (0 : Int) ≤ (b : Int) := Int.natCast_nonneg _
        clear hnx
        go_wp2_with fail
        refine (at_any hs).mono ?_
        rintro e w6 ⟨rfl, rfl⟩
        go_wp2_with fail
        refine hmo.mono ?_
        rintro e w6 ⟨i', rfl, hsk, hb6⟩
        rw [hsk.wrong HX.out]
        clear hmo
        go_wp2_with fail
        go_ret
        exact ⟨rfl, bto hB hb6⟩
theorem walk (a0 : Option Addr) (len0 cap0 : Nat) (z0 : List Int) (a1 : Option Addr) (len1 cap1 : Nat) (z1 : List Bool) (w : World) (w0 : z0.length = len0 ∧ Reads w w.heap.size 1 a0 len0 (z0.map (Value.int .u8)) ∧ (∀ x ∈ z0, (Lit.int .u8 x).wf = true) ∧ len0 ≤ cap0 ∧ len0 ≤ 9223372036854775807) (w1 : z1.length = len1 ∧ Reads w w.heap.size 1 a1 len1 (z1.map Value.bool) ∧ (∀ x ∈ z1, True) ∧ len1 ≤ cap1 ∧ len1 ≤ 9223372036854775807) :
    Calls Try.prog 4 #[.slice a0 len0 cap0, .slice a1 len1 cap1] w fun e w' => e = .returned (.bool true) ∧ Below w.heap.size w w' := by
  obtain ⟨_, hr, hwf, hc, hl⟩ := w0
  obtain ⟨hz, hrb, _, _, hlb⟩ := w1
  exact core a0 a1 len0 cap0 len1 cap1 z0 z1 w hl hc hlb hz hr hwf hrb

set_option maxRecDepth 100000 in
theorem lifted (os : Os) (started : os.Started) (H : Type) (enc : TypeId × Value → H) :
    ReturnsInHanded {} Try.checked os 4 .any (Rows.scanAtsSpec.pre6 enc Try.prog Try.f4 Rows.scanAtsRow.domain false) (Rows.scanAtsSpec.post enc Try.prog Try.f4 false true false false) := by
  refine returnsInHanded_of_change (C := Try.checked) own started (by kernel_rfl) Try.func4
    (ChangeSpec.witness6 (enc := enc) (C := Try.checked) false ⟨#[], #[.slice none 0 0, .slice none 0 0], []⟩ 8 (by kernel_rfl) (by kernel_rfl) (by kernel_rfl) (by kernel_rfl)) ?_
  intro W base args ds gs before hval0 hW hcnd _
  have hval : ∀ (j : Nat) t v, Try.f4.params[j]? = some t → args[j]? = some v → Value.okWide Try.prog W .any base t v := hval0
  have hW' := hW
  obtain ⟨p, q, hA0, hV, rfl, hfz, hnd⟩ := hW
  have hA : DataW.TrodAll enc Try.prog W 0 (fun _ => true) true Try.f4.params.toList args.toList ds p := hA0
  rw [Try.params4] at hA hval
  obtain ⟨v0, vs0, d0, ds0, p0, q0, hargs, rfl, rfl, h0, r0⟩ := trodAll_cons hA
  obtain ⟨v1, vs1, d1, ds1, p1, q1, rfl, rfl, rfl, h1, r1⟩ := trodAll_cons r0
  obtain ⟨rfl, rfl, rfl⟩ := trodAll_nil r1
  obtain rfl : args = #[v0, v1] := by cases args; simp_all
  obtain ⟨rfl, rfl⟩ := trodVars_none hV
  obtain ⟨a0, len0, cap0, rfl⟩ := okWide_slice Try.underlying22 (hval 0 22 v0 rfl rfl)
  have k0 := h0
  have lt0 : ∀ x ∈ p0, x.block < W.heap.size := by obtain ⟨m, hm⟩ := k0; exact DataW.trod_lt m _ _ _ hm
  obtain ⟨z0, w0⟩ := open_ones (Value.int .u8) (fun x => (Lit.int .u8 x).wf = true) Try.underlying22 (by kernel_rfl) (dec_int Try.underlying5) h0
  obtain ⟨a1, len1, cap1, rfl⟩ := okWide_slice Try.underlying38 (hval 1 38 v1 rfl rfl)
  have k1 := h1
  have lt1 : ∀ x ∈ p1, x.block < W.heap.size := by obtain ⟨m, hm⟩ := k1; exact DataW.trod_lt m _ _ _ hm
  obtain ⟨z1, w1⟩ := open_ones Value.bool (fun x => True) Try.underlying38 (by kernel_rfl) (dec_bool Try.underlying4) h1
  clear hA0 hval0
  refine (walk a0 len0 cap0 z0 a1 len1 cap1 z1 W w0 w1).mono fun e W' ⟨he, bel⟩ => ?_
  subst he
  exact ⟨_, rfl, _, _, _, [], _, [], hW', trodAll_mk1 (shut_bool Try.underlying4 _), (trodAll_cons_mk (Below.trod laidOut (by kernel_rfl) (of_decide_eq_true (by kernel_rfl)) k0 bel lt0) (trodAll_cons_mk (Below.trod laidOut (by kernel_rfl) (of_decide_eq_true (by kernel_rfl)) k1 bel lt1) trodAll_mk0)), rfl, bel.frame _, fun h => by cases h⟩
theorem over : Rows.scanAtsRow.holds Try.pinned (OpenSpec.ofChange Rows.scanAtsSpec) :=
  OpenClaim.holds_of_wide 4 Try.f4 rfl rfl rfl rfl rfl rfl rfl ⟨rfl, rfl, rfl, rfl, rfl⟩ rfl rfl rfl rfl rfl (by kernel_rfl) Try.func4 (by kernel_rfl)
    (of_decide_eq_true (by kernel_rfl)) (by unfold Func.isWrapper; first | (rw [if_pos (by decide +kernel)]; kernel_rfl) | (rw [if_neg (by decide +kernel)]; exact ⟨rfl, rfl⟩))
    (fun os started H enc _ => lifted os started H enc)
theorem proved : Rows.ScanAtsSaid := over
end Go.Proofs.Ytbdeghhoophkbaa.scanAts
