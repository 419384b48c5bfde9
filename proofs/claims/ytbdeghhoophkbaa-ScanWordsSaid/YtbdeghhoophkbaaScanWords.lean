/- For every input ScanWords returns true; its argument reads as before. No condition. -/
import Derived.Test.YtbdeghhoophkbaaRows
import Derived.WalkKit
import Derived.ProofKit
import Derived.OpenShut
import Derived.ShutString
import Derived.ChangeOld
import Derived.Below
import Derived.Test.YtbdeghhoophkbaaOpen
import Derived.Test.YtbdeghhoophkbaaScFar
namespace Go.Proofs.Ytbdeghhoophkbaa.scanWords
open Go.Proofs.Ytbdeghhoophkbaa.scn Go.Proofs.Ytbdeghhoophkbaa.words
open Go.ChangeShapes Go.WideShapes Go.ChangeAt Go.RowKit
open Go.ChangeMaps (open_string shut_string)
set_option linter.unusedVariables false
theorem own : ownKnob Try.prog.godebug = none := by kernel_rfl
theorem laidOut : laidOutB Try.prog = true := by kernel_rfl
theorem take_take {bs : List UInt8} : (bs.take 200).take 200 = bs.take 200 := by rw [List.take_take]; simp
set_option maxRecDepth 8000 in
set_option maxHeartbeats 16000000 in
theorem core (A : Option Addr) (n0 cap : Nat) (xs : List Int) (w : World) (hn : n0 ≤ 9223372036854775807) (hc : n0 ≤ cap) (hr : Reads w w.heap.size 1 A n0 (xs.map (Value.int .u8))) (hwf : ∀ x ∈ xs, (Lit.int .u8 x).wf = true) :
    Calls Try.prog 6 #[.slice A n0 cap] w fun e w' => e = .returned (.bool true) ∧ Below w.heap.size w w' := by
  obtain ⟨bs0, hbs⟩ := bytes_of hwf
  rw [hbs] at hr
  clear hbs hwf
  go_enter Try.func6, Try.ntmps6
  go_wp2_with fail
  refine (awake_any w).mono ?_
  rintro e w1 ⟨rfl, hb1⟩
  have hcut := cut_any A n0 cap bs0 w1 hn hc (hr.lift hb1)
  have hL : (bs0.take 200).length ≤ 200 := by simp; omega
  have htt := take_take (bs := bs0)
  obtain ⟨bs, hbs⟩ : ∃ bs, bs0.take 200 = bs := ⟨_, rfl⟩
  rw [hbs] at hcut hL htt
  clear hbs hr
  go_wp2_with fail
  refine hcut.mono ?_
  rintro e w2 ⟨A2, c2, rfl, ho2, hb2⟩
  have hB2 := bto hb1 hb2
  have hcut2 := cut_any A2 bs.length c2 bs w2 (by omega) (own_cap ho2) (Reads.of_own ho2)
  rw [htt] at hcut2
  obtain ⟨n, hnl⟩ : ∃ n, bs.length = n := ⟨_, rfl⟩
  rw [hnl] at hcut2 ho2 ⊢
  clear hcut hb1 hb2 htt
  go_wp2_with fail
  refine hcut2.mono ?_
  rintro e w3 ⟨A3, c3, rfl, ho3, hb3⟩
  rw [hnl] at ho3 ⊢
  have hB3 := bto hB2 hb3
  have hnw := new_far A3 n c3 bs w3 (by omega) (Reads.of_own ho3)
  have ho2a := own_under ho2 hb3
  have hs23 := hb3.size
  have hs2 := hB2.size
  clear hcut2 hb3
  go_wp2_with fail
  refine hnw.mono ?_
  rintro e w4 ⟨g, rfl, hs4, hg, hb4⟩
  have hB4 := bto hB3 hb4
  have hgw : w.heap.size ≤ g := by have := hB3.size; omega
  have ho2b := own_under ho2a hb4
  have ho3b := own_under ho3 hb4
  have HO2 : Hid (∀ q, A2 = some ⟨q, 0, none⟩ → q < w2.heap.size) := fun q hq => (own_in ho2 (by rw [hq]; rfl)).2
  have HO3 : Hid (∀ q, A3 = some ⟨q, 0, none⟩ → q < w3.heap.size) := fun q hq => (own_in ho3 (by rw [hq]; rfl)).2
  have HNL := Lib.hid hnl
  have hcap3 := own_cap ho3
  clear hnw ho2 ho2a ho3 hB3 hb4
  go_wp2_with fail
  go_loopw [29] (fun iv wr => ∃ (i : Nat) (us : List Value), iv = .int .i64 i ∧ i ≤ n ∧ us.length = n ∧ (∀ j, i ≤ j → us[j]? = (bv bs)[j]?) ∧ wr.ownsRow w2.heap.size 5 1 (.slice A3 n c3) n us ∧ Scf w3.heap.size wr g bs 0 (-1) ∧ wr.ownsRow w1.heap.size 5 1 (.slice A2 n c2) n (bv bs) ∧ Below w.heap.size w wr) (fun iv _ => n - (intOf iv).toNat)
  case atStart => exact ⟨0, bv bs, rfl, Nat.zero_le _, by rw [bv_len]; exact hnl, fun _ _ => rfl, ho3b, hs4, ho2b, hB4⟩
  case round =>
    obtain ⟨i, us, rfl, hin, hul, hus, h3, hs, h2, hB⟩ := hrel
    by_cases hlt : i < n
    · obtain ⟨r3, rfl, hr30, hr31⟩ := own_some h3 (by omega)
      have hr3 := HO3.out r3 rfl
      have q0 := (h3.cellAt i (by omega)).trans ((hus i (Nat.le_refl _)).trans (bv_get (by omega)))
      have q1 := h3.frozenAt i
      have hst : Hid (∀ v, (wr.setCell ⟨r3, i, none⟩ v).ownsRow w2.heap.size 5 1 (.slice (some ⟨r3, 0, none⟩) n c3) n (us.set i v) ∧ Scf w3.heap.size (wr.setCell ⟨r3, i, none⟩ v) g bs 0 (-1) ∧ (wr.setCell ⟨r3, i, none⟩ v).ownsRow w1.heap.size 5 1 (.slice A2 n c2) n (bv bs) ∧ Below w.heap.size w (wr.setCell ⟨r3, i, none⟩ v)) := fun v => by
        have ht : Tch wr (wr.setCell ⟨r3, i, none⟩ v) (fun k => k = r3) := Tch.set_ wr (p := ⟨r3, i, none⟩) v rfl
        refine ⟨(h3.stored i v).1, hs.tch ht (fun e => by omega) (fun k hk => by omega), ht.own h2 fun q hq e => ?_, hB.trans (ht.below hB.size fun k hk e => by omega)⟩
        have h1 : A2 = some ⟨q, 0, none⟩ := by
          obtain ⟨q', h1, _⟩ := own_some h2 (by omega)
          rw [h1] at hq ⊢
          injection hq with hq; rw [← hq]
        have := HO2.out q h1
        omega
      have HUL := Lib.hid hul
      have HUS := Lib.hid hus
      have i0 : (0 : Int) ≤ (i : Int) := Int.natCast_nonneg _
      have ii : (i : Int) < (n : Int) := by omega
      obtain ⟨x, hx⟩ : ∃ x, at_ bs i = x := ⟨_, rfl⟩
      have hx256 : x < 256 := by rw [← hx]; exact UInt8.toNat_lt _
      rw [hx] at q0
      clear hx hul hus h3 hs h2 hB
      go_wp2_with fail
      go_roundw
      case rel =>
        obtain ⟨a1, a2, a3, a4⟩ := hst.out _
        exact ⟨i + 1, _, by go_num, by omega, by rw [List.length_set]; exact HUL.out, fun j hj => by rw [List.getElem?_set_ne (by omega)]; exact HUS.out j (by omega), a1, a2, a3, a4⟩
      case measure => simp [intOf]; omega
    · obtain rfl : n = i := by omega
      have hwd := words_all A2 n c2 _ bs wr hnl (by omega) h2
      have hs' := hs.scn
      have hgB : w.heap.size ≤ wr.heap.size := hB.size
      clear hs h3 hus hul hin
      go_wp2_with fail
      refine hwd.mono ?_
      rintro e w5 ⟨l, bad, A4, c4, rfl, hT, hR5, hb5⟩
      have hs5 := hs'.below hb5
      have hB5 := bto hB hb5
      have hp5 := own_under h2 hb5
      have hN : bs.length ≤ 1000000 := by omega
      have hR5' : Row wr l A4 c4 w5 := hR5
      have HT := Lib.hid hT
      obtain ⟨m, hm⟩ : ∃ m, l.length = m := ⟨_, rfl⟩
      rw [hm]
      have hm63 : m ≤ 1000000 := by have := hT.len; omega
      have HM := Lib.hid hm
      clear hwd hs' hB h2 hb5 hT hR5 hnl
      go_wp2_with fail
      go_loopw [46] (fun iv wr => ∃ (i a : Nat), iv = .int .i64 i ∧ i ≤ m ∧ Lft bs a (l.drop i) bad ∧ Scn wr g bs a (-1) ∧ wr.ownsRow w1.heap.size 5 1 (.slice A2 n c2) n (bv bs) ∧ (∃ wr0, Row wr0 l A4 c4 wr) ∧ Below w.heap.size w wr) (fun iv _ => m - (intOf iv).toNat)
      case atStart => exact ⟨0, 0, rfl, Nat.zero_le _, HT.out.left, hs5, hp5, ⟨_, hR5'⟩, hB5⟩
      case round =>
        clear hs5 hp5 hR5' hB5
        obtain ⟨i, a, rfl, him, hleft, hs, hp, ⟨wr0, hR⟩, hB⟩ := hrel
        have hm := HM.out
        by_cases hlt : i < m
        · obtain ⟨⟨v, s⟩, hget⟩ : ∃ x, l[i]? = some x := ⟨_, List.getElem?_eq_getElem (by omega)⟩
          rw [List.drop_eq_getElem_cons (show i < l.length by omega)] at hleft
          have hx : l[i]'(by omega) = (v, s) := by rw [List.getElem?_eq_getElem (by omega)] at hget; exact Option.some.inj hget
          rw [hx] at hleft
          obtain ⟨j, hnx, hv, hleft2, hsj, hjl, hvl⟩ := hleft.step
          obtain ⟨q, rfl, hq0, hq1⟩ := hR.at_ hget
          have hbx := bone wr (.cells #[strV v, .int .i64 s] 31)
          have hs6 := hs.below hbx
          have hR6 := hR.below hbx
          have hp6 := own_under hp hbx
          have hB6 := bnew hB (.cells #[strV v, .int .i64 s] 31)
          have hbk6 : Blk (wr.alloc (.cells #[strV v, .int .i64 s] 31)) wr.heap.size 31 #[strV v, .int .i64 s] := Blk.new _ _ _
          have hne : ¬ wr.heap.size = g := fun e => by
            subst e
            obtain ⟨_, _, hbg, _⟩ := hs6
            have h1 : some (Obj.cells #[strV v, .int .i64 s] 31 (0, 0)) = some _ := hbk6.symm.trans hbg
            cases h1
          have hi6 := word_any hs6 hleft.1 hN
          have HL2 := Lib.hid hleft2
          have HX := Lib.hid hnx
          have hal := hleft.1
          have HV := Lib.hid hv
          have vsz : (⟨v.toArray⟩ : ByteArray).size = j - s := by simp [ByteArray.size, hvl]
          obtain ⟨k, hk⟩ : ∃ k, j - s = k := ⟨_, rfl⟩
          rw [hk] at vsz hvl
          have kk : k ≤ 1000000 := by omega
          have kI : (s : Int) + (k : Int) = (j : Int) := by omega
          have kw : IntKind.i64.wrap (j : Int) = (j : Int) := by rw [IntKind.wrap_i64]; omega
          clear hv hk hleft hleft2 hnx hget hx hs hR hp hB hbx
          go_wp2_with fail
          refine hi6.mono ?_
          rintro e w7 (⟨i2, k1, _⟩ | ⟨k1, _⟩ | ⟨i2, j2, k1, rfl, hs7, ht7⟩)
          · cases k1.uniq HX.out
          · cases k1.uniq HX.out
          cases k1.uniq HX.out
          rw [← HV.out]
          have hR7 := hR6.scn hs6 ht7
          have hp7 := hs6.own_apart hp6 (by decide) ht7
          have hB7 := scn_bel hB6 hgw (by have := hB6.size; omega) ht7
          have hbk7 := ht7.blk hbk6 hne
          have c0 := hbk7.cell 0
          have c1 := hbk7.cell 1
          have hat7 := at_any hs7
          clear hi6 hs6 hR6 hp6 hB6 hbk6 ht7 hne k1 hbk7
          go_wp2_with (first | (go_at_call 14; (with_reducible refine hat7.mono ?_); rintro e wx ⟨rfl, rfl⟩) | fail)
          go_roundw
          case rel => exact ⟨i + 1, j, by go_num, by omega, HL2.out, hs7, hp7, ⟨_, hR7⟩, hB7⟩
          case measure => simp [intOf]; omega
        · obtain rfl : m = i := by omega
          rw [List.drop_of_length_le (by omega)] at hleft
          have hct := count_any A2 n c2 bs l bad wr (by have := HNL.out; omega) HNL.out (Reads.of_own hp) HT.out
          rw [HM.out] at hct
          have HLL := Lib.hid hleft
          have hlast := hleft.last
          have hla := hleft.1
          clear hleft hR hp hm hlt
          rcases hlast with ⟨rfl, hnx⟩ | ⟨b, rfl, hnx⟩
          · have HX := Lib.hid hnx
            clear hnx
            go_wp2_with fail
            refine hct.mono ?_
            rintro e w8 ⟨en, er, rfl, h1, hb8⟩
            obtain ⟨rfl, rfl⟩ : en = n ∧ er = 0 := by
              rcases h1 with ⟨a1, a2, a3⟩ | ⟨a1, a2, a3⟩
              · exact ⟨a2, a3⟩
              · omega
            have hs8 := hs.below hb8
            have hB8 := bto hB hb8
            clear hct h1 hb8 hs hB
            go_wp2_with fail
            go_loopw [86] (fun kv wr => ∃ k : Nat, kv = .int .i64 k ∧ k ≤ 2 ∧ (Scn wr g bs a (-1) ∨ Scn wr g bs a (-1)) ∧ Below w.heap.size w wr) (fun kv _ => 2 - (intOf kv).toNat)
            case atStart => exact ⟨0, rfl, by omega, .inl hs8, hB8⟩
            case round =>
              clear hs8 hB8
              obtain ⟨k, rfl, hk, hor, hB⟩ := hrel
              by_cases hk2 : k < 2
              · have hwe := word_end hor HLL.out hN
                have kI : (k : Int) < 2 := by omega
                clear hor
                go_wp2_with fail
                refine hwe.mono ?_
                rintro e w9 ⟨x, er, rfl, h1, hs9, ht9⟩
                obtain ⟨rfl, rfl⟩ : x = n ∧ er = 2 := by
                  rcases h1 with ⟨a1, a2, a3⟩ | ⟨a1, a2, a3⟩
                  · exact ⟨by rw [a2, HNL.out], a3⟩
                  · omega
                have hB9 := scn_bel hB hgw (by have := hB.size; omega) ht9
                have hmo : Calls Try.prog 11 #[.pointer (some ⟨g, 0, none⟩)] w9 fun e w'' => e = .returned (.bool false) ∧ Below w9.heap.size w9 w'' := (more_any hs9 hla hN).mono fun e w'' ⟨i', h1, h2, h3⟩ => ⟨by rw [h1, h2.over HX.out], h3⟩
                have HS9 := Lib.hid hs9
                clear hwe h1 hs9 ht9 hB
                go_wp2_with (first | (go_at_call 11; (with_reducible refine hmo.mono ?_); rintro e wx ⟨rfl, hbx⟩) | fail)
                go_roundw
                case rel => exact ⟨k + 1, by go_num, by omega, .inr (HS9.out.below hbx), bto hB9 hbx⟩
                case measure => simp [intOf]; omega
              · obtain rfl : k = 2 := by omega
                clear hor
                go_wp2_with fail
                go_ret
                exact ⟨rfl, hB⟩
          · have HX := Lib.hid hnx
            have b0 : (0 : Int) ≤ (b : Int) := Int.natCast_nonneg _
            have b1 : decide ((b : Int) < 0) = false := decide_eq_false (by omega)
            clear hnx
            go_wp2_with fail
            refine hct.mono ?_
            rintro e w8 ⟨en, er, rfl, h1, hb8⟩
            obtain ⟨rfl, rfl⟩ : en = b ∧ er = 11 := by
              rcases h1 with ⟨a1, a2, a3⟩ | ⟨a1, a2, a3⟩
              · omega
              · exact ⟨a2, a3⟩
            have hs8 := hs.below hb8
            have hB8 := bto hB hb8
            clear hct h1 hb8 hs hB
            go_wp2_with fail
            go_loopw [86] (fun kv wr => ∃ k : Nat, kv = .int .i64 k ∧ k ≤ 2 ∧ (Scn wr g bs a (-1) ∨ Scn wr g bs a (b : Int)) ∧ Below w.heap.size w wr) (fun kv _ => 2 - (intOf kv).toNat)
            case atStart => exact ⟨0, rfl, by omega, .inl hs8, hB8⟩
            case round =>
              clear hs8 hB8
              obtain ⟨k, rfl, hk, hor, hB⟩ := hrel
              by_cases hk2 : k < 2
              · have hwe := word_end hor HLL.out hN
                have kI : (k : Int) < 2 := by omega
                clear hor
                go_wp2_with fail
                refine hwe.mono ?_
                rintro e w9 ⟨x, er, rfl, h1, hs9, ht9⟩
                obtain ⟨rfl, rfl⟩ : x = b ∧ er = 11 := by
                  rcases h1 with ⟨a1, a2, a3⟩ | ⟨a1, a2, a3⟩
                  · omega
                  · exact ⟨a2, a3⟩
                have hB9 := scn_bel hB hgw (by have := hB.size; omega) ht9
                have hmo : Calls Try.prog 11 #[.pointer (some ⟨g, 0, none⟩)] w9 fun e w'' => e = .returned (.bool true) ∧ Below w9.heap.size w9 w'' := (more_any hs9 hla hN).mono fun e w'' ⟨i', h1, h2, h3⟩ => ⟨by rw [h1, h2.wrong HX.out], h3⟩
                have HS9 := Lib.hid hs9
                clear hwe h1 hs9 ht9 hB
                go_wp2_with (first | (go_at_call 11; (with_reducible refine hmo.mono ?_); rintro e wx ⟨rfl, hbx⟩) | fail)
                go_roundw
                case rel => exact ⟨k + 1, by go_num, by omega, .inr (HS9.out.below hbx), bto hB9 hbx⟩
                case measure => simp [intOf]; omega
              · obtain rfl : k = 2 := by omega
                clear hor
                go_wp2_with fail
                go_ret
                exact ⟨rfl, hB⟩
theorem walk (a0 : Option Addr) (len0 cap0 : Nat) (z0 : List Int) (w : World) (w0 : z0.length = len0 ∧ Reads w w.heap.size 1 a0 len0 (z0.map (Value.int .u8)) ∧ (∀ x ∈ z0, (Lit.int .u8 x).wf = true) ∧ len0 ≤ cap0 ∧ len0 ≤ 9223372036854775807) :
    Calls Try.prog 6 #[.slice a0 len0 cap0] w fun e w' => e = .returned (.bool true) ∧ Below w.heap.size w w' := by
  obtain ⟨_, hr, hwf, hc, hl⟩ := w0
  exact core a0 len0 cap0 z0 w hl hc hr hwf

set_option maxRecDepth 100000 in
theorem lifted (os : Os) (started : os.Started) (H : Type) (enc : TypeId × Value → H) :
    ReturnsInHanded {} Try.checked os 6 .any (Rows.scanWordsSpec.pre6 enc Try.prog Try.f6 Rows.scanWordsRow.domain false) (Rows.scanWordsSpec.post enc Try.prog Try.f6 false true false false) := by
  refine returnsInHanded_of_change (C := Try.checked) own started (by kernel_rfl) Try.func6
    (ChangeSpec.witness6 (enc := enc) (C := Try.checked) false ⟨#[], #[.slice none 0 0], []⟩ 8 (by kernel_rfl) (by kernel_rfl) (by kernel_rfl) (by kernel_rfl)) ?_
  intro W base args ds gs before hval0 hW hcnd _
  have hval : ∀ (j : Nat) t v, Try.f6.params[j]? = some t → args[j]? = some v → Value.okWide Try.prog W .any base t v := hval0
  have hW' := hW
  obtain ⟨p, q, hA0, hV, rfl, hfz, hnd⟩ := hW
  have hA : DataW.TrodAll enc Try.prog W 0 (fun _ => true) true Try.f6.params.toList args.toList ds p := hA0
  rw [Try.params6] at hA hval
  obtain ⟨v0, vs0, d0, ds0, p0, q0, hargs, rfl, rfl, h0, r0⟩ := trodAll_cons hA
  obtain ⟨rfl, rfl, rfl⟩ := trodAll_nil r0
  obtain rfl : args = #[v0] := by cases args; simp_all
  obtain ⟨rfl, rfl⟩ := trodVars_none hV
  obtain ⟨a0, len0, cap0, rfl⟩ := okWide_slice Try.underlying22 (hval 0 22 v0 rfl rfl)
  have k0 := h0
  have lt0 : ∀ x ∈ p0, x.block < W.heap.size := by obtain ⟨m, hm⟩ := k0; exact DataW.trod_lt m _ _ _ hm
  obtain ⟨z0, w0⟩ := open_ones (Value.int .u8) (fun x => (Lit.int .u8 x).wf = true) Try.underlying22 (by kernel_rfl) (dec_int Try.underlying5) h0
  clear hA0 hval0
  refine (walk a0 len0 cap0 z0 W w0).mono fun e W' ⟨he, bel⟩ => ?_
  subst he
  exact ⟨_, rfl, _, _, _, [], _, [], hW', trodAll_mk1 (shut_bool Try.underlying4 _), (trodAll_cons_mk (Below.trod laidOut (by kernel_rfl) (of_decide_eq_true (by kernel_rfl)) k0 bel lt0) trodAll_mk0), rfl, bel.frame _, fun h => by cases h⟩
theorem over : Rows.scanWordsRow.holds Try.pinned (OpenSpec.ofChange Rows.scanWordsSpec) :=
  OpenClaim.holds_of_wide 6 Try.f6 rfl rfl rfl rfl rfl rfl rfl ⟨rfl, rfl, rfl, rfl, rfl⟩ rfl rfl rfl rfl rfl (by kernel_rfl) Try.func6 (by kernel_rfl)
    (of_decide_eq_true (by kernel_rfl)) (by unfold Func.isWrapper; first | (rw [if_pos (by decide +kernel)]; kernel_rfl) | (rw [if_neg (by decide +kernel)]; exact ⟨rfl, rfl⟩))
    (fun os started H enc _ => lifted os started H enc)
theorem proved : Rows.ScanWordsSaid := over
end Go.Proofs.Ytbdeghhoophkbaa.scanWords
