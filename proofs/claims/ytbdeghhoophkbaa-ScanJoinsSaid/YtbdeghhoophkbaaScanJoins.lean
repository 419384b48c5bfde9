/- For every input ScanJoins returns true; its arguments read as before. No condition. -/
import Derived.Test.YtbdeghhoophkbaaRows
import Derived.WalkKit
import Derived.ProofKit
import Derived.OpenShut
import Derived.ShutString
import Derived.ChangeOld
import Derived.Below
import Derived.Test.YtbdeghhoophkbaaOpen
import Derived.Test.YtbdeghhoophkbaaScJoin
import Derived.Deep.LoopGhost
namespace Go.Proofs.Ytbdeghhoophkbaa.scanJoins
open Go.Proofs.Ytbdeghhoophkbaa.scn Go.Proofs.Ytbdeghhoophkbaa.words
open Go.ChangeShapes Go.WideShapes Go.ChangeAt Go.RowKit
open Go.ChangeMaps (open_string shut_string)
set_option linter.unusedVariables false
theorem own : ownKnob Try.prog.godebug = none := by kernel_rfl
theorem laidOut : laidOutB Try.prog = true := by kernel_rfl
theorem blank4 (r : Nat) (h : r < 4) : r = 0 ∨ r = 1 ∨ r = 2 ∨ r = 3 := by omega
theorem take_snoc {v : List UInt8} {j : Nat} (h : j < v.length) : v.take (j + 1) = v.take j ++ [v.getD j 0] := by
  rw [List.take_add_one, List.getD_eq_getElem?_getD, List.getElem?_eq_getElem h]; rfl
set_option maxRecDepth 8000 in
set_option maxHeartbeats 32000000 in
theorem core (A C : Option Addr) (n cap nb cb : Nat) (zs : List ByteArray) (ys : List Int) (w : World) (hn : n ≤ 9223372036854775807) (hzl : zs.length = n)
    (hr : Reads w w.heap.size 1 A n (zs.map Value.string)) (hsz : ∀ x ∈ zs, x.size ≤ maxLen) (hnb : nb ≤ 9223372036854775807) (hrb : Reads w w.heap.size 1 C nb (ys.map (Value.int .u8))) (hwf : ∀ x ∈ ys, (Lit.int .u8 x).wf = true) :
    Calls Try.prog 5 #[.slice A n cap, .slice C nb cb] w fun e w' => e = .returned (.bool true) ∧ Below w.heap.size w w' := by
  obtain ⟨bz, hbz⟩ := bytes_of hwf
  rw [hbz] at hrb
  obtain ⟨i0, hi0, hz0, hz1, hz2⟩ := info_parts infoW
  obtain ⟨b0, hb0, by0, by1, by2⟩ := info_parts infoB
  have HRA := Lib.hid hr
  have HRB := Lib.hid hrb
  have HZL := Lib.hid hzl
  have HSZ := Lib.hid hsz
  clear hbz hwf hr hrb hzl hsz
  go_enter Try.func5, Try.ntmps5
  go_wp2_with fail
  refine (awake_any w).mono ?_
  rintro e w1 ⟨rfl, hb1⟩
  go_wp2_with fail
  go_loopg [5, 6, 28] n (fun gk pv lv iv wr => ∃ (i : Nat) (bs : List UInt8) (l : List Wd) (A5 : Option Addr) (n5 c5 : Nat) (A6 : Option Addr) (n6 c6 : Nat), gk = n - i ∧ iv = .int .i64 i ∧ i ≤ n ∧ pv = .slice A5 n5 c5 ∧ lv = .slice A6 n6 c6 ∧ bs.length = n5 ∧ l.length = n6 ∧ Bld bs l ∧ n5 ≤ 23 * i ∧ n5 ≤ 276 ∧ n6 ≤ i ∧ n6 ≤ 12 ∧
    wr.ownsRow w.heap.size 5 1 (.slice A5 n5 c5) n5 (bv bs) ∧ wr.ownsRow w.heap.size 31 2 (.slice A6 n6 c6) n6 (l.flatMap wv) ∧ Below w.heap.size w wr)
  case atStart => exact ⟨0, [], [], none, 0, 0, none, 0, 0, by omega, rfl, Nat.zero_le _, rfl, rfl, rfl, rfl, bld_nil, by omega, by omega, by omega, by omega, World.ownsRow_nil _ _ _ _, World.ownsRow_nil _ _ _ _, hb1⟩
  case round =>
    obtain ⟨i, bs, l, A5, n5, c5, A6, n6, c6, rfl, rfl, hin, rfl, rfl, hbl, hll, hBld, h5a, h5, h6a, h6, ho5, ho6, hB⟩ := hrel
    by_cases hlt : i < n
    · obtain ⟨ad, u, rfl, _, hu, hc⟩ := (HRA.out.lift hB).at_ hlt
      obtain ⟨x, hx⟩ : ∃ x, zs[i]? = some x := ⟨_, List.getElem?_eq_getElem (by have := HZL.out; omega)⟩
      rw [List.getElem?_map, hx] at hu
      simp only [Option.map_some, Option.some.injEq] at hu
      subst hu
      have hxs : x.size ≤ maxLen := HSZ.out x (List.mem_of_getElem? hx)
      obtain ⟨y, rfl⟩ : ∃ y : List UInt8, x = ⟨y.toArray⟩ := ⟨x.data.toList, rfl⟩
      obtain ⟨k, hk1, k1, k2, hkm⟩ := min_nat y.length 20
      have hk1' : (if (20 : Int) < (y.length : Int) then (20 : Int) else (y.length : Int)) = (k : Int) := hk1
      have hys : (⟨y.toArray⟩ : ByteArray).size = y.length := by simp [ByteArray.size]
      have hex : (⟨y.toArray⟩ : ByteArray).extract 0 k = ⟨(y.take k).toArray⟩ := by
        apply ByteArray.ext
        rw [ByteArray.data_extract]
        simp
      obtain ⟨m, hm⟩ : ∃ m, y.length = m := ⟨_, rfl⟩
      have hvl : (y.take k).length = k := by rw [List.length_take]; omega
      obtain ⟨v, hv⟩ : ∃ v, y.take k = v := ⟨_, rfl⟩
      rw [hv] at hex hvl
      rw [hm] at hk1 hk1' hys k1
      rw [hys] at hxs
      have hvs : (⟨v.toArray⟩ : ByteArray).size = k := by simp [ByteArray.size, hvl]
      have kI : (0 : Int) ≤ (k : Int) := Int.natCast_nonneg _
      have km : (k : Int) ≤ (m : Int) := by omega
      have HV := Lib.hid hvl
      have HBld := Lib.hid (And.intro hbl (And.intro hll hBld))
      have HO5 := Lib.hid ho5
      have HO6 := Lib.hid ho6
      have HB := Lib.hid hB
      clear hx hm hv hvl hbl hll hBld ho5 ho6 hB hkm
      go_wp2_with fail
      go_loopw [9, 43] (fun plv jv wz => ∃ (j : Nat), jv = .int .i64 j ∧ j ≤ k ∧ plv = .bool (decide (0 < k) && (v.take j).all fun b => isIn b.toNat) ∧ wz = wr) (fun _ jv _ => k - (intOf jv).toNat)
      case atStart => exact ⟨0, rfl, Nat.zero_le _, by first | (simp; done) | skip, rfl⟩
      case round =>
        obtain ⟨j, rfl, hj, rfl, rfl⟩ := hrel
        by_cases hjk : j < k
        · have hsn := take_snoc (v := v) (j := j) (by rw [HV.out]; exact hjk)
          have hxj := str_at (l := v) (j := j) (by rw [HV.out]; exact hjk)
          obtain ⟨x, hx⟩ : ∃ x, at_ v j = x := ⟨_, rfl⟩
          have hx256 : x < 256 := by rw [← hx]; exact UInt8.toNat_lt _
          rw [hx] at hxj
          have hal : ((v.take (j + 1)).all fun b => isIn b.toNat) = (((v.take j).all fun b => isIn b.toNat) && isIn x) := by
            rw [hsn, List.all_append]
            simp only [List.all_cons, List.all_nil, Bool.and_true]
            rw [← hx]; rfl
          obtain ⟨pl, hpl⟩ : ∃ pl, (decide (0 < k) && (v.take j).all fun b => isIn b.toNat) = pl := ⟨_, rfl⟩
          have HN : Hid ((decide (0 < k) && (v.take (j + 1)).all fun b => isIn b.toNat) = (pl && isIn x)) := by
            rw [Hid, hal, ← Bool.and_assoc, hpl]
          rw [hpl]
          clear hpl hal hsn hx
          cases pl with
          | false =>
            go_wp2_with fail
            go_roundw
            case rel => exact ⟨j + 1, by go_num, by omega, by rw [HN.out]; rfl, by first | rfl | trivial⟩
            case measure => simp [intOf]; omega
          | true =>
            by_cases x1 : 32 < x
            · have b1 : decide (32 < x) = true := decide_eq_true x1
              have b1I : decide ((32 : Int) < (x : Int)) = true := decide_eq_true (by omega)
              by_cases x2 : x < 127
              · have b2 : decide (x < 127) = true := decide_eq_true x2
                have b2I : decide ((x : Int) < 127) = true := decide_eq_true (by omega)
                have e : isIn x = true := by unfold isIn; simp; omega
                rw [e] at HN
                go_wp2_with fail
                go_roundw
                case rel => exact ⟨j + 1, by go_num, by omega, by rw [HN.out]; rfl, by first | rfl | trivial⟩
                case measure => simp [intOf]; omega
              · have b2 : decide (x < 127) = false := decide_eq_false x2
                have b2I : decide ((x : Int) < 127) = false := decide_eq_false (by omega)
                have e : isIn x = false := by unfold isIn; simp; omega
                rw [e] at HN
                go_wp2_with fail
                go_roundw
                case rel => exact ⟨j + 1, by go_num, by omega, by rw [HN.out]; rfl, by first | rfl | trivial⟩
                case measure => simp [intOf]; omega
            · have b1 : decide (32 < x) = false := decide_eq_false x1
              have b1I : decide ((32 : Int) < (x : Int)) = false := decide_eq_false (by omega)
              have e : isIn x = false := by unfold isIn; simp; omega
              rw [e] at HN
              go_wp2_with fail
              go_roundw
              case rel => exact ⟨j + 1, by go_num, by omega, by rw [HN.out]; rfl, by first | rfl | trivial⟩
              case measure => simp [intOf]; omega
        · obtain rfl : k = j := by omega
          rw [List.take_of_length_le (by rw [HV.out]; exact Nat.le_refl _)]
          obtain ⟨ok, hok⟩ : ∃ ok, (decide (0 < k) && v.all fun b => isIn b.toNat) = ok := ⟨_, rfl⟩
          have HOK := Lib.hid hok
          rw [hok]
          clear hok hj hjk
          have hiI : (i : Int) < (n : Int) := by omega
          obtain ⟨hbl, hll, hBld⟩ := HBld.out
          by_cases hi12 : i < 12
          · have d12 : decide ((12 : Int) ≤ (i : Int)) = false := decide_eq_false (by omega)
            have d12N : decide (12 ≤ i) = false := decide_eq_false (by omega)
            cases ok with
            | false =>
              go_wp2_with fail
              go_roundg (n - (i + 1))
              case rel => exact ⟨i + 1, bs, l, A5, n5, c5, A6, n6, c6, rfl, by go_num, by omega, rfl, rfl, hbl, hll, hBld, by omega, by omega, by omega, by omega, HO5.out, HO6.out, HB.out⟩
              case measure => omega
            | true =>
              have hk0 : 0 < k ∧ v.all (fun b => isIn b.toNat) = true := by
                have := HOK.out
                simp only [Bool.and_eq_true, decide_eq_true_eq] at this
                exact this
              have HK0 := Lib.hid hk0
              have hw1 := hb1.size
              have hwr := HB.out.size
              have hr1 : Reads (wr.alloc (.cells #[strV v, .int .i64 (n5 : Int)] 31)) (wr.alloc (.cells #[strV v, .int .i64 (n5 : Int)] 31)).heap.size 2 (some ⟨wr.heap.size, 0, none⟩) 1 [strV v, .int .i64 (n5 : Int)] := reads_two (t := 31) (heap_alloc_new wr _)
              have hone : ∀ u ∈ ([strV v, .int .i64 (n5 : Int)] : List Value), u.oneCell' = true := fun u hu => by simp at hu; rcases hu with rfl | rfl <;> rfl
              have ho6 := own_under HO6.out (bone wr (.cells #[strV v, .int .i64 (n5 : Int)] 31))
              have ho5 := own_under HO5.out (bone wr (.cells #[strV v, .int .i64 (n5 : Int)] 31))
              have hB2 := bnew HB.out (.cells #[strV v, .int .i64 (n5 : Int)] 31)
              have hsa : w.heap.size ≤ (wr.alloc (.cells #[strV v, .int .i64 (n5 : Int)] 31)).heap.size := hB2.size
              have HO5b := Lib.hid ho5
              have HO6b := Lib.hid ho6
              have HB2 := Lib.hid hB2
              clear ho5 hk0 hB2 hwr hw1
              go_upto_region 17 with (first
                | (at_builtin; refine wpList_append_any _ rfl (.tmp 66) (.tmp 71) _ rfl w.heap.size 31 i0 _ 2 24 Try.underlying27 hi0 hz0 hz1 hz2 rfl (by omega) (.slice A6 n6 c6) n6 _ rfl ho6 (wr.alloc (.cells #[strV v, .int .i64 (n5 : Int)] 31)).heap.size (some ⟨wr.heap.size, 0, none⟩) 1 1 [strV v, .int .i64 (n5 : Int)] rfl hr1 hone (by simp only [maxLen]; omega) (by omega) hsa ?_; intro v5 w5 hown5 hg5 hat; clear hat; obtain ⟨A6', c6', rfl⟩ := own_shape hown5; have HN6 := Lib.hid hown5; have HG6 := Lib.hid hg5; clear hown5 hg5 ho6 hr1)
                | fail)
              have hB5 : Below w.heap.size w w5 := HB2.out.grown HG6.out hsa (fun q hq => (own_in HO6b.out hq).1)
              have hO5 := own_keep HO5b.out HO6b.out (by decide) HG6.out
              have h5s : w.heap.size ≤ w5.heap.size := hB5.size
              have hb63 : n5 + (⟨v.toArray⟩ : ByteArray).size ≤ maxLen := by rw [hvs]; simp only [maxLen]; omega
              have hb47 : n5 + (⟨v.toArray⟩ : ByteArray).size ≤ 140737488355328 := by rw [hvs]; omega
              have HB5 := Lib.hid hB5
              have HO5c := Lib.hid hO5
              clear hB5 hsa
              go_upto_region 18 with (first
                | (at_builtin; go_loud (refine Lib.wpList_append_own_string _ rfl (.tmp 73) (.tmp 74) _ _ rfl w.heap.size 5 b0 Try.underlying22 Try.underlying9 hb0 by0 by1 by2 (.slice A5 n5 c5) n5 (bv bs) rfl hO5 ⟨v.toArray⟩ rfl hb63 hb47 h5s ?_; intro v7 w7 hown7 hg7 hnil; clear hnil; rw [hvs, str_cells, show bv bs ++ bv v = bv (bs ++ v) by simp [bv]] at hown7; obtain ⟨A7, c7, rfl⟩ := own_shape hown7; have HN5 := Lib.hid hown7; have HG5 := Lib.hid hg7; clear hown7 hg7 hO5))
                | fail)
              have hB7 : Below w.heap.size w w7 := HB5.out.grown HG5.out h5s (fun q hq => (own_in HO5c.out hq).1)
              have hO6 := own_keep HN6.out HO5c.out (by decide) HG5.out
              rw [show l.flatMap wv ++ [strV v, .int .i64 (n5 : Int)] = (l ++ [(v, n5)]).flatMap wv by rw [List.flatMap_append]; rfl] at hO6
              have hO5 := HN5.out
              have hW := fun b (hb : isB b.toNat = true) => hBld.word (v := v) (by rintro rfl; have h0 := HK0.out.1; have h1 := HV.out; rw [List.length_nil] at h1; omega) HK0.out.2 (b := b) hb
              rw [hbl] at hW
              have hW2 := Lib.hid hW
              obtain ⟨l2, hl2⟩ : ∃ l2, l ++ [(v, n5)] = l2 := ⟨_, rfl⟩
              have hl2l : l2.length = n6 + 1 := by rw [← hl2]; simp [hll]
              obtain ⟨b2, hb2⟩ : ∃ b2, bs ++ v = b2 := ⟨_, rfl⟩
              have hb2l : b2.length = n5 + k := by rw [← hb2]; simp [hbl, HV.out]
              rw [Hid, hl2, hb2] at hW2
              rw [hl2] at hO6
              rw [hb2] at hO5
              obtain ⟨n7, hn7⟩ : ∃ n7, n5 + k = n7 := ⟨_, rfl⟩
              obtain ⟨n8, hn8⟩ : ∃ n8, n6 + 1 = n8 := ⟨_, rfl⟩
              rw [hn7] at hO5 hb2l ⊢
              rw [hn8] at hO6 hl2l ⊢
              obtain ⟨x, hx256, hor⟩ : ∃ x : Nat, x < 256 ∧ ((i < nb ∧ ∃ ad : Addr, C = some ad ∧ w7.cell? (ad.add i) = some (.int .u8 (x : Nat))) ∨ (nb ≤ i ∧ x = 0)) := by
                by_cases hib : i < nb
                · obtain ⟨ad, u, hC, _, hu, hc⟩ := (HRB.out.lift hB7).at_ hib
                  obtain ⟨y0, rfl⟩ : ∃ y0 : UInt8, u = .int .u8 (y0.toNat : Nat) := by
                    unfold bv at hu
                    rw [List.getElem?_map] at hu
                    cases hq : bz[i]? with
                    | none => rw [hq] at hu; cases hu
                    | some y0 => rw [hq] at hu; exact ⟨y0, (Option.some.inj hu).symm⟩
                  exact ⟨y0.toNat, UInt8.toNat_lt _, .inl ⟨hib, ad, hC, hc⟩⟩
                · exact ⟨0, by omega, .inr ⟨by omega, rfl⟩⟩
              have HW := Lib.hid hW2
              have HL2 := Lib.hid hl2l
              have HB2l := Lib.hid hb2l
              have HB7 := Lib.hid hB7
              have HO5d := Lib.hid hO5
              have HO6d := Lib.hid hO6
              have h7s := hB7.size
              have n7l : n7 ≤ 300 := by omega
              have h57 : n7 + 3 ≤ 23 * (i + 1) := by omega
              have n8l : n8 ≤ i + 1 := by omega
              clear hW hW2 hl2 hl2l hb2 hb2l hn7 hn8 hB7 hO6 hO5 hb63 hb47 hBld hbl hll HN5 HN6 HG5 HG6 HO5c HO6b HO5b HB2 HB5 h5s h5a h6a h5 h6 HO5 HO6 HBld
              rcases hor with ⟨hib, ad, rfl, hcx⟩ | ⟨hib, rfl⟩
              · obtain ⟨r, hr⟩ : ∃ r, x % 4 = r := ⟨_, rfl⟩
                obtain ⟨q1, hq1⟩ : ∃ q1, x / 4 = q1 := ⟨_, rfl⟩
                obtain ⟨q, hq⟩ : ∃ q, q1 % 3 = q := ⟨_, rfl⟩
                have hq1I : (x : Int).tdiv 4 = (q1 : Int) := by rw [Int.tdiv_eq_ediv_of_nonneg (by omega)]; omega
                have hqI : (q1 : Int).tmod 3 = (q : Int) := by rw [Int.tmod_eq_emod_of_nonneg (by omega)]; omega
                have hq1w : IntKind.u8.wrap (q1 : Int) = (q1 : Int) := by rw [IntKind.wrap_u8]; omega
                have hqw : IntKind.u8.wrap (q : Int) = (q : Int) := by rw [IntKind.wrap_u8]; omega
                have hrI : (x : Int).tmod 4 = (r : Int) := by rw [Int.tmod_eq_emod_of_nonneg (by omega)]; omega
                have hr4 : r < 4 := by omega
                have hq2 : q ≤ 2 := by omega
                have d1 : decide ((i : Int) < (nb : Int)) = true := decide_eq_true (by omega)
                have d1I : (i : Int) < (nb : Int) := by omega
                clear hr hq hq1
                rcases blank4 r hr4 with rfl | rfl | rfl | rfl
                · have hrb : Reads (w7.alloc (.cells #[.int .u8 32] 5)) (w7.alloc (.cells #[.int .u8 32] 5)).heap.size 1 (some ⟨w7.heap.size, 0, none⟩) 1 [.int .u8 32] := reads_block (t := 5) (heap_alloc_new w7 _) rfl
                  have hone1 : ∀ u ∈ ([.int .u8 32] : List Value), u.oneCell' = true := fun u hu => by simp at hu; subst hu; rfl
                  have ho7 := own_under HO5d.out (bone w7 (.cells #[.int .u8 32] 5))
                  have hB8 := Lib.hid (bnew HB7.out (.cells #[.int .u8 32] 5))
                  have ho7b := Lib.hid ho7
                  have ho6b := Lib.hid (own_under HO6d.out (bone w7 (.cells #[.int .u8 32] 5)))
                  have h8s : w.heap.size ≤ (w7.alloc (.cells #[.int .u8 32] 5)).heap.size := hB8.out.size
                  go_upto_region 22 with (first
                    | (at_builtin; refine wpList_append_any _ rfl (.tmp 84) (.tmp 88) _ rfl w.heap.size 5 b0 _ 1 1 Try.underlying22 hb0 by0 by1 by2 rfl (by omega) (.slice A7 n7 c7) n7 _ rfl ho7 (w7.alloc (.cells #[.int .u8 32] 5)).heap.size (some ⟨w7.heap.size, 0, none⟩) 1 1 [.int .u8 32] rfl hrb hone1 (by simp only [maxLen]; omega) (by omega) h8s ?_; intro v9 w9 hown9 hg9 hat; clear hat; obtain ⟨A9, c9, rfl⟩ := own_shape hown9; have HN9 := Lib.hid hown9; have HG9 := Lib.hid hg9; clear hown9 hg9 ho7 hrb)
                    | fail)
                  have hB9 : Below w.heap.size w w9 := hB8.out.grown HG9.out h8s (fun q hq => (own_in ho7b.out hq).1)
                  have ho9 := HN9.out
                  rw [show bv b2 ++ [.int .u8 32] = bv (b2 ++ [32]) by unfold bv; rw [List.map_append]; rfl] at ho9
                  have ho6c := own_keep ho6b.out ho7b.out (by decide) HG9.out
                  have hW3 := HW.out 32 rfl
                  have hlen : (b2 ++ [32]).length = n7 + 1 := by rw [List.length_append, HB2l.out]; rfl
                  obtain ⟨b3, hb3⟩ : ∃ b3, b2 ++ [32] = b3 := ⟨_, rfl⟩
                  rw [hb3] at ho9 hW3 hlen
                  obtain ⟨n9, hn9⟩ : ∃ n9, n7 + 1 = n9 := ⟨_, rfl⟩
                  rw [hn9] at ho9 hlen ⊢
                  have n9l : n9 ≤ 301 := by omega
                  have h59 : n9 + 2 ≤ 23 * (i + 1) := by omega
                  have HB9 := Lib.hid hB9
                  have HO9 := Lib.hid ho9
                  have HO6e := Lib.hid ho6c
                  have HW3 := Lib.hid hW3
                  have HLEN := Lib.hid hlen
                  clear hB9 ho9 ho6c hW3 hlen hb3 hn9 h57 HN9 HG9 hB8 h8s
                  go_wp2_with fail
                  go_loopw [5, 93] (fun pv tv wr => ∃ (t : Nat) (bt : List UInt8) (A : Option Addr) (nt ct : Nat), tv = .int .u8 t ∧ t ≤ q ∧ pv = .slice A nt ct ∧ bt.length = nt ∧ nt = n9 + t ∧ Bld bt l2 ∧ wr.ownsRow w.heap.size 5 1 (.slice A nt ct) nt (bv bt) ∧ wr.ownsRow w.heap.size 31 2 (.slice A6' n8 c6') n8 (l2.flatMap wv) ∧ Below w.heap.size w wr) (fun _ tv _ => q - (intOf tv).toNat)
                  case atStart => exact ⟨0, b3, A9, n9, c9, rfl, Nat.zero_le _, rfl, HLEN.out, rfl, HW3.out, HO9.out, HO6e.out, HB9.out⟩
                  case round =>
                    clear HB9 HO9 HO6e HW3 HLEN
                    obtain ⟨t, bt, A, nt, ct, rfl, ht, rfl, hbt, hnt, hBt, hro5, hro6, hrB⟩ := hrel
                    by_cases htq : t < q
                    · have hrz : Reads (wr.alloc (.cells #[.int .u8 32] 5)) (wr.alloc (.cells #[.int .u8 32] 5)).heap.size 1 (some ⟨wr.heap.size, 0, none⟩) 1 [.int .u8 32] := reads_block (t := 5) (heap_alloc_new wr _) rfl
                      have hone1 : ∀ u ∈ ([.int .u8 32] : List Value), u.oneCell' = true := fun u hu => by simp at hu; subst hu; rfl
                      have ho7 := own_under hro5 (bone wr (.cells #[.int .u8 32] 5))
                      have hB8 := Lib.hid (bnew hrB (.cells #[.int .u8 32] 5))
                      have ho7b := Lib.hid ho7
                      have ho6b := Lib.hid (own_under hro6 (bone wr (.cells #[.int .u8 32] 5)))
                      have h8s : w.heap.size ≤ (wr.alloc (.cells #[.int .u8 32] 5)).heap.size := hB8.out.size
                      have HBT := Lib.hid (hBt.blank (b := 32) rfl)
                      have HLT : Hid ((bt ++ [32]).length = nt + 1) := by rw [Hid, List.length_append, hbt]; rfl
                      have ntl : nt ≤ 310 := by omega
                      obtain ⟨t1, ht1⟩ : ∃ t1, t + 1 = t1 := ⟨_, rfl⟩
                      have t1I : (t : Int) + 1 = (t1 : Int) := by omega
                      have t1w : IntKind.u8.wrap (t1 : Int) = (t1 : Int) := by rw [IntKind.wrap_u8]; omega
                      have htI : (t : Int) < (q : Int) := by omega
                      have htd : decide ((t : Int) < (q : Int)) = true := decide_eq_true htI
                      have HNT := Lib.hid hnt
                      clear hro5 hro6 hrB hBt hbt hnt
                      go_wp2_with (first
                        | (at_builtin; refine wpList_append_any _ rfl (.tmp 95) (.tmp 96) _ rfl w.heap.size 5 b0 _ 1 1 Try.underlying22 hb0 by0 by1 by2 rfl (by omega) (.slice A nt ct) nt _ rfl ho7 (wr.alloc (.cells #[.int .u8 32] 5)).heap.size (some ⟨wr.heap.size, 0, none⟩) 1 1 [.int .u8 32] rfl hrz hone1 (by simp only [maxLen]; omega) (by omega) h8s ?_; intro v9 wy hown9 hg9 hat; clear hat; obtain ⟨A10, c10, rfl⟩ := own_shape hown9; have HN9 := Lib.hid hown9; have HG9 := Lib.hid hg9; clear hown9 hg9 ho7 hrz)
                        | fail)
                      go_roundw
                      case rel =>
                        have hB9 : Below w.heap.size w wy := hB8.out.grown HG9.out h8s (fun q hq => (own_in ho7b.out hq).1)
                        have ho9 := HN9.out
                        rw [show bv bt ++ [.int .u8 32] = bv (bt ++ [32]) by unfold bv; rw [List.map_append]; rfl] at ho9
                        exact ⟨t1, bt ++ [32], A10, nt + 1, c10, by go_num, by omega, by first | rfl | go_num, HLT.out, by have := HNT.out; omega, HBT.out, ho9, own_keep ho6b.out ho7b.out (by decide) HG9.out, hB9⟩
                      case measure => simp [intOf]; omega
                    · obtain rfl : q = t := by omega
                      go_wp2_with fail
                      go_roundg (n - (i + 1))
                      case rel => exact ⟨i + 1, bt, l2, A, nt, ct, A6', n8, c6', rfl, by go_num, by omega, rfl, rfl, hbt, HL2.out, hBt, by omega, by omega, by omega, by omega, hro5, hro6, hrB⟩
                      case measure => omega
                · have hrb : Reads (w7.alloc (.cells #[.int .u8 9] 5)) (w7.alloc (.cells #[.int .u8 9] 5)).heap.size 1 (some ⟨w7.heap.size, 0, none⟩) 1 [.int .u8 9] := reads_block (t := 5) (heap_alloc_new w7 _) rfl
                  have hone1 : ∀ u ∈ ([.int .u8 9] : List Value), u.oneCell' = true := fun u hu => by simp at hu; subst hu; rfl
                  have ho7 := own_under HO5d.out (bone w7 (.cells #[.int .u8 9] 5))
                  have hB8 := Lib.hid (bnew HB7.out (.cells #[.int .u8 9] 5))
                  have ho7b := Lib.hid ho7
                  have ho6b := Lib.hid (own_under HO6d.out (bone w7 (.cells #[.int .u8 9] 5)))
                  have h8s : w.heap.size ≤ (w7.alloc (.cells #[.int .u8 9] 5)).heap.size := hB8.out.size
                  go_upto_region 22 with (first
                    | (at_builtin; refine wpList_append_any _ rfl (.tmp 84) (.tmp 88) _ rfl w.heap.size 5 b0 _ 1 1 Try.underlying22 hb0 by0 by1 by2 rfl (by omega) (.slice A7 n7 c7) n7 _ rfl ho7 (w7.alloc (.cells #[.int .u8 9] 5)).heap.size (some ⟨w7.heap.size, 0, none⟩) 1 1 [.int .u8 9] rfl hrb hone1 (by simp only [maxLen]; omega) (by omega) h8s ?_; intro v9 w9 hown9 hg9 hat; clear hat; obtain ⟨A9, c9, rfl⟩ := own_shape hown9; have HN9 := Lib.hid hown9; have HG9 := Lib.hid hg9; clear hown9 hg9 ho7 hrb)
                    | fail)
                  have hB9 : Below w.heap.size w w9 := hB8.out.grown HG9.out h8s (fun q hq => (own_in ho7b.out hq).1)
                  have ho9 := HN9.out
                  rw [show bv b2 ++ [.int .u8 9] = bv (b2 ++ [9]) by unfold bv; rw [List.map_append]; rfl] at ho9
                  have ho6c := own_keep ho6b.out ho7b.out (by decide) HG9.out
                  have hW3 := HW.out 9 rfl
                  have hlen : (b2 ++ [9]).length = n7 + 1 := by rw [List.length_append, HB2l.out]; rfl
                  obtain ⟨b3, hb3⟩ : ∃ b3, b2 ++ [9] = b3 := ⟨_, rfl⟩
                  rw [hb3] at ho9 hW3 hlen
                  obtain ⟨n9, hn9⟩ : ∃ n9, n7 + 1 = n9 := ⟨_, rfl⟩
                  rw [hn9] at ho9 hlen ⊢
                  have n9l : n9 ≤ 301 := by omega
                  have h59 : n9 + 2 ≤ 23 * (i + 1) := by omega
                  have HB9 := Lib.hid hB9
                  have HO9 := Lib.hid ho9
                  have HO6e := Lib.hid ho6c
                  have HW3 := Lib.hid hW3
                  have HLEN := Lib.hid hlen
                  clear hB9 ho9 ho6c hW3 hlen hb3 hn9 h57 HN9 HG9 hB8 h8s
                  go_wp2_with fail
                  go_loopw [5, 93] (fun pv tv wr => ∃ (t : Nat) (bt : List UInt8) (A : Option Addr) (nt ct : Nat), tv = .int .u8 t ∧ t ≤ q ∧ pv = .slice A nt ct ∧ bt.length = nt ∧ nt = n9 + t ∧ Bld bt l2 ∧ wr.ownsRow w.heap.size 5 1 (.slice A nt ct) nt (bv bt) ∧ wr.ownsRow w.heap.size 31 2 (.slice A6' n8 c6') n8 (l2.flatMap wv) ∧ Below w.heap.size w wr) (fun _ tv _ => q - (intOf tv).toNat)
                  case atStart => exact ⟨0, b3, A9, n9, c9, rfl, Nat.zero_le _, rfl, HLEN.out, rfl, HW3.out, HO9.out, HO6e.out, HB9.out⟩
                  case round =>
                    clear HB9 HO9 HO6e HW3 HLEN
                    obtain ⟨t, bt, A, nt, ct, rfl, ht, rfl, hbt, hnt, hBt, hro5, hro6, hrB⟩ := hrel
                    by_cases htq : t < q
                    · have hrz : Reads (wr.alloc (.cells #[.int .u8 32] 5)) (wr.alloc (.cells #[.int .u8 32] 5)).heap.size 1 (some ⟨wr.heap.size, 0, none⟩) 1 [.int .u8 32] := reads_block (t := 5) (heap_alloc_new wr _) rfl
                      have hone1 : ∀ u ∈ ([.int .u8 32] : List Value), u.oneCell' = true := fun u hu => by simp at hu; subst hu; rfl
                      have ho7 := own_under hro5 (bone wr (.cells #[.int .u8 32] 5))
                      have hB8 := Lib.hid (bnew hrB (.cells #[.int .u8 32] 5))
                      have ho7b := Lib.hid ho7
                      have ho6b := Lib.hid (own_under hro6 (bone wr (.cells #[.int .u8 32] 5)))
                      have h8s : w.heap.size ≤ (wr.alloc (.cells #[.int .u8 32] 5)).heap.size := hB8.out.size
                      have HBT := Lib.hid (hBt.blank (b := 32) rfl)
                      have HLT : Hid ((bt ++ [32]).length = nt + 1) := by rw [Hid, List.length_append, hbt]; rfl
                      have ntl : nt ≤ 310 := by omega
                      obtain ⟨t1, ht1⟩ : ∃ t1, t + 1 = t1 := ⟨_, rfl⟩
                      have t1I : (t : Int) + 1 = (t1 : Int) := by omega
                      have t1w : IntKind.u8.wrap (t1 : Int) = (t1 : Int) := by rw [IntKind.wrap_u8]; omega
                      have htI : (t : Int) < (q : Int) := by omega
                      have htd : decide ((t : Int) < (q : Int)) = true := decide_eq_true htI
                      have HNT := Lib.hid hnt
                      clear hro5 hro6 hrB hBt hbt hnt
                      go_wp2_with (first
                        | (at_builtin; refine wpList_append_any _ rfl (.tmp 95) (.tmp 96) _ rfl w.heap.size 5 b0 _ 1 1 Try.underlying22 hb0 by0 by1 by2 rfl (by omega) (.slice A nt ct) nt _ rfl ho7 (wr.alloc (.cells #[.int .u8 32] 5)).heap.size (some ⟨wr.heap.size, 0, none⟩) 1 1 [.int .u8 32] rfl hrz hone1 (by simp only [maxLen]; omega) (by omega) h8s ?_; intro v9 wy hown9 hg9 hat; clear hat; obtain ⟨A10, c10, rfl⟩ := own_shape hown9; have HN9 := Lib.hid hown9; have HG9 := Lib.hid hg9; clear hown9 hg9 ho7 hrz)
                        | fail)
                      go_roundw
                      case rel =>
                        have hB9 : Below w.heap.size w wy := hB8.out.grown HG9.out h8s (fun q hq => (own_in ho7b.out hq).1)
                        have ho9 := HN9.out
                        rw [show bv bt ++ [.int .u8 32] = bv (bt ++ [32]) by unfold bv; rw [List.map_append]; rfl] at ho9
                        exact ⟨t1, bt ++ [32], A10, nt + 1, c10, by go_num, by omega, by first | rfl | go_num, HLT.out, by have := HNT.out; omega, HBT.out, ho9, own_keep ho6b.out ho7b.out (by decide) HG9.out, hB9⟩
                      case measure => simp [intOf]; omega
                    · obtain rfl : q = t := by omega
                      go_wp2_with fail
                      go_roundg (n - (i + 1))
                      case rel => exact ⟨i + 1, bt, l2, A, nt, ct, A6', n8, c6', rfl, by go_num, by omega, rfl, rfl, hbt, HL2.out, hBt, by omega, by omega, by omega, by omega, hro5, hro6, hrB⟩
                      case measure => omega
                · have hrb : Reads (w7.alloc (.cells #[.int .u8 10] 5)) (w7.alloc (.cells #[.int .u8 10] 5)).heap.size 1 (some ⟨w7.heap.size, 0, none⟩) 1 [.int .u8 10] := reads_block (t := 5) (heap_alloc_new w7 _) rfl
                  have hone1 : ∀ u ∈ ([.int .u8 10] : List Value), u.oneCell' = true := fun u hu => by simp at hu; subst hu; rfl
                  have ho7 := own_under HO5d.out (bone w7 (.cells #[.int .u8 10] 5))
                  have hB8 := Lib.hid (bnew HB7.out (.cells #[.int .u8 10] 5))
                  have ho7b := Lib.hid ho7
                  have ho6b := Lib.hid (own_under HO6d.out (bone w7 (.cells #[.int .u8 10] 5)))
                  have h8s : w.heap.size ≤ (w7.alloc (.cells #[.int .u8 10] 5)).heap.size := hB8.out.size
                  go_upto_region 22 with (first
                    | (at_builtin; refine wpList_append_any _ rfl (.tmp 84) (.tmp 88) _ rfl w.heap.size 5 b0 _ 1 1 Try.underlying22 hb0 by0 by1 by2 rfl (by omega) (.slice A7 n7 c7) n7 _ rfl ho7 (w7.alloc (.cells #[.int .u8 10] 5)).heap.size (some ⟨w7.heap.size, 0, none⟩) 1 1 [.int .u8 10] rfl hrb hone1 (by simp only [maxLen]; omega) (by omega) h8s ?_; intro v9 w9 hown9 hg9 hat; clear hat; obtain ⟨A9, c9, rfl⟩ := own_shape hown9; have HN9 := Lib.hid hown9; have HG9 := Lib.hid hg9; clear hown9 hg9 ho7 hrb)
                    | fail)
                  have hB9 : Below w.heap.size w w9 := hB8.out.grown HG9.out h8s (fun q hq => (own_in ho7b.out hq).1)
                  have ho9 := HN9.out
                  rw [show bv b2 ++ [.int .u8 10] = bv (b2 ++ [10]) by unfold bv; rw [List.map_append]; rfl] at ho9
                  have ho6c := own_keep ho6b.out ho7b.out (by decide) HG9.out
                  have hW3 := HW.out 10 rfl
                  have hlen : (b2 ++ [10]).length = n7 + 1 := by rw [List.length_append, HB2l.out]; rfl
                  obtain ⟨b3, hb3⟩ : ∃ b3, b2 ++ [10] = b3 := ⟨_, rfl⟩
                  rw [hb3] at ho9 hW3 hlen
                  obtain ⟨n9, hn9⟩ : ∃ n9, n7 + 1 = n9 := ⟨_, rfl⟩
                  rw [hn9] at ho9 hlen ⊢
                  have n9l : n9 ≤ 301 := by omega
                  have h59 : n9 + 2 ≤ 23 * (i + 1) := by omega
                  have HB9 := Lib.hid hB9
                  have HO9 := Lib.hid ho9
                  have HO6e := Lib.hid ho6c
                  have HW3 := Lib.hid hW3
                  have HLEN := Lib.hid hlen
                  clear hB9 ho9 ho6c hW3 hlen hb3 hn9 h57 HN9 HG9 hB8 h8s
                  go_wp2_with fail
                  go_loopw [5, 93] (fun pv tv wr => ∃ (t : Nat) (bt : List UInt8) (A : Option Addr) (nt ct : Nat), tv = .int .u8 t ∧ t ≤ q ∧ pv = .slice A nt ct ∧ bt.length = nt ∧ nt = n9 + t ∧ Bld bt l2 ∧ wr.ownsRow w.heap.size 5 1 (.slice A nt ct) nt (bv bt) ∧ wr.ownsRow w.heap.size 31 2 (.slice A6' n8 c6') n8 (l2.flatMap wv) ∧ Below w.heap.size w wr) (fun _ tv _ => q - (intOf tv).toNat)
                  case atStart => exact ⟨0, b3, A9, n9, c9, rfl, Nat.zero_le _, rfl, HLEN.out, rfl, HW3.out, HO9.out, HO6e.out, HB9.out⟩
                  case round =>
                    clear HB9 HO9 HO6e HW3 HLEN
                    obtain ⟨t, bt, A, nt, ct, rfl, ht, rfl, hbt, hnt, hBt, hro5, hro6, hrB⟩ := hrel
                    by_cases htq : t < q
                    · have hrz : Reads (wr.alloc (.cells #[.int .u8 32] 5)) (wr.alloc (.cells #[.int .u8 32] 5)).heap.size 1 (some ⟨wr.heap.size, 0, none⟩) 1 [.int .u8 32] := reads_block (t := 5) (heap_alloc_new wr _) rfl
                      have hone1 : ∀ u ∈ ([.int .u8 32] : List Value), u.oneCell' = true := fun u hu => by simp at hu; subst hu; rfl
                      have ho7 := own_under hro5 (bone wr (.cells #[.int .u8 32] 5))
                      have hB8 := Lib.hid (bnew hrB (.cells #[.int .u8 32] 5))
                      have ho7b := Lib.hid ho7
                      have ho6b := Lib.hid (own_under hro6 (bone wr (.cells #[.int .u8 32] 5)))
                      have h8s : w.heap.size ≤ (wr.alloc (.cells #[.int .u8 32] 5)).heap.size := hB8.out.size
                      have HBT := Lib.hid (hBt.blank (b := 32) rfl)
                      have HLT : Hid ((bt ++ [32]).length = nt + 1) := by rw [Hid, List.length_append, hbt]; rfl
                      have ntl : nt ≤ 310 := by omega
                      obtain ⟨t1, ht1⟩ : ∃ t1, t + 1 = t1 := ⟨_, rfl⟩
                      have t1I : (t : Int) + 1 = (t1 : Int) := by omega
                      have t1w : IntKind.u8.wrap (t1 : Int) = (t1 : Int) := by rw [IntKind.wrap_u8]; omega
                      have htI : (t : Int) < (q : Int) := by omega
                      have htd : decide ((t : Int) < (q : Int)) = true := decide_eq_true htI
                      have HNT := Lib.hid hnt
                      clear hro5 hro6 hrB hBt hbt hnt
                      go_wp2_with (first
                        | (at_builtin; refine wpList_append_any _ rfl (.tmp 95) (.tmp 96) _ rfl w.heap.size 5 b0 _ 1 1 Try.underlying22 hb0 by0 by1 by2 rfl (by omega) (.slice A nt ct) nt _ rfl ho7 (wr.alloc (.cells #[.int .u8 32] 5)).heap.size (some ⟨wr.heap.size, 0, none⟩) 1 1 [.int .u8 32] rfl hrz hone1 (by simp only [maxLen]; omega) (by omega) h8s ?_; intro v9 wy hown9 hg9 hat; clear hat; obtain ⟨A10, c10, rfl⟩ := own_shape hown9; have HN9 := Lib.hid hown9; have HG9 := Lib.hid hg9; clear hown9 hg9 ho7 hrz)
                        | fail)
                      go_roundw
                      case rel =>
                        have hB9 : Below w.heap.size w wy := hB8.out.grown HG9.out h8s (fun q hq => (own_in ho7b.out hq).1)
                        have ho9 := HN9.out
                        rw [show bv bt ++ [.int .u8 32] = bv (bt ++ [32]) by unfold bv; rw [List.map_append]; rfl] at ho9
                        exact ⟨t1, bt ++ [32], A10, nt + 1, c10, by go_num, by omega, by first | rfl | go_num, HLT.out, by have := HNT.out; omega, HBT.out, ho9, own_keep ho6b.out ho7b.out (by decide) HG9.out, hB9⟩
                      case measure => simp [intOf]; omega
                    · obtain rfl : q = t := by omega
                      go_wp2_with fail
                      go_roundg (n - (i + 1))
                      case rel => exact ⟨i + 1, bt, l2, A, nt, ct, A6', n8, c6', rfl, by go_num, by omega, rfl, rfl, hbt, HL2.out, hBt, by omega, by omega, by omega, by omega, hro5, hro6, hrB⟩
                      case measure => omega
                · have hrb : Reads (w7.alloc (.cells #[.int .u8 13] 5)) (w7.alloc (.cells #[.int .u8 13] 5)).heap.size 1 (some ⟨w7.heap.size, 0, none⟩) 1 [.int .u8 13] := reads_block (t := 5) (heap_alloc_new w7 _) rfl
                  have hone1 : ∀ u ∈ ([.int .u8 13] : List Value), u.oneCell' = true := fun u hu => by simp at hu; subst hu; rfl
                  have ho7 := own_under HO5d.out (bone w7 (.cells #[.int .u8 13] 5))
                  have hB8 := Lib.hid (bnew HB7.out (.cells #[.int .u8 13] 5))
                  have ho7b := Lib.hid ho7
                  have ho6b := Lib.hid (own_under HO6d.out (bone w7 (.cells #[.int .u8 13] 5)))
                  have h8s : w.heap.size ≤ (w7.alloc (.cells #[.int .u8 13] 5)).heap.size := hB8.out.size
                  go_upto_region 22 with (first
                    | (at_builtin; refine wpList_append_any _ rfl (.tmp 84) (.tmp 88) _ rfl w.heap.size 5 b0 _ 1 1 Try.underlying22 hb0 by0 by1 by2 rfl (by omega) (.slice A7 n7 c7) n7 _ rfl ho7 (w7.alloc (.cells #[.int .u8 13] 5)).heap.size (some ⟨w7.heap.size, 0, none⟩) 1 1 [.int .u8 13] rfl hrb hone1 (by simp only [maxLen]; omega) (by omega) h8s ?_; intro v9 w9 hown9 hg9 hat; clear hat; obtain ⟨A9, c9, rfl⟩ := own_shape hown9; have HN9 := Lib.hid hown9; have HG9 := Lib.hid hg9; clear hown9 hg9 ho7 hrb)
                    | fail)
                  have hB9 : Below w.heap.size w w9 := hB8.out.grown HG9.out h8s (fun q hq => (own_in ho7b.out hq).1)
                  have ho9 := HN9.out
                  rw [show bv b2 ++ [.int .u8 13] = bv (b2 ++ [13]) by unfold bv; rw [List.map_append]; rfl] at ho9
                  have ho6c := own_keep ho6b.out ho7b.out (by decide) HG9.out
                  have hW3 := HW.out 13 rfl
                  have hlen : (b2 ++ [13]).length = n7 + 1 := by rw [List.length_append, HB2l.out]; rfl
                  obtain ⟨b3, hb3⟩ : ∃ b3, b2 ++ [13] = b3 := ⟨_, rfl⟩
                  rw [hb3] at ho9 hW3 hlen
                  obtain ⟨n9, hn9⟩ : ∃ n9, n7 + 1 = n9 := ⟨_, rfl⟩
                  rw [hn9] at ho9 hlen ⊢
                  have n9l : n9 ≤ 301 := by omega
                  have h59 : n9 + 2 ≤ 23 * (i + 1) := by omega
                  have HB9 := Lib.hid hB9
                  have HO9 := Lib.hid ho9
                  have HO6e := Lib.hid ho6c
                  have HW3 := Lib.hid hW3
                  have HLEN := Lib.hid hlen
                  clear hB9 ho9 ho6c hW3 hlen hb3 hn9 h57 HN9 HG9 hB8 h8s
                  go_wp2_with fail
                  go_loopw [5, 93] (fun pv tv wr => ∃ (t : Nat) (bt : List UInt8) (A : Option Addr) (nt ct : Nat), tv = .int .u8 t ∧ t ≤ q ∧ pv = .slice A nt ct ∧ bt.length = nt ∧ nt = n9 + t ∧ Bld bt l2 ∧ wr.ownsRow w.heap.size 5 1 (.slice A nt ct) nt (bv bt) ∧ wr.ownsRow w.heap.size 31 2 (.slice A6' n8 c6') n8 (l2.flatMap wv) ∧ Below w.heap.size w wr) (fun _ tv _ => q - (intOf tv).toNat)
                  case atStart => exact ⟨0, b3, A9, n9, c9, rfl, Nat.zero_le _, rfl, HLEN.out, rfl, HW3.out, HO9.out, HO6e.out, HB9.out⟩
                  case round =>
                    clear HB9 HO9 HO6e HW3 HLEN
                    obtain ⟨t, bt, A, nt, ct, rfl, ht, rfl, hbt, hnt, hBt, hro5, hro6, hrB⟩ := hrel
                    by_cases htq : t < q
                    · have hrz : Reads (wr.alloc (.cells #[.int .u8 32] 5)) (wr.alloc (.cells #[.int .u8 32] 5)).heap.size 1 (some ⟨wr.heap.size, 0, none⟩) 1 [.int .u8 32] := reads_block (t := 5) (heap_alloc_new wr _) rfl
                      have hone1 : ∀ u ∈ ([.int .u8 32] : List Value), u.oneCell' = true := fun u hu => by simp at hu; subst hu; rfl
                      have ho7 := own_under hro5 (bone wr (.cells #[.int .u8 32] 5))
                      have hB8 := Lib.hid (bnew hrB (.cells #[.int .u8 32] 5))
                      have ho7b := Lib.hid ho7
                      have ho6b := Lib.hid (own_under hro6 (bone wr (.cells #[.int .u8 32] 5)))
                      have h8s : w.heap.size ≤ (wr.alloc (.cells #[.int .u8 32] 5)).heap.size := hB8.out.size
                      have HBT := Lib.hid (hBt.blank (b := 32) rfl)
                      have HLT : Hid ((bt ++ [32]).length = nt + 1) := by rw [Hid, List.length_append, hbt]; rfl
                      have ntl : nt ≤ 310 := by omega
                      obtain ⟨t1, ht1⟩ : ∃ t1, t + 1 = t1 := ⟨_, rfl⟩
                      have t1I : (t : Int) + 1 = (t1 : Int) := by omega
                      have t1w : IntKind.u8.wrap (t1 : Int) = (t1 : Int) := by rw [IntKind.wrap_u8]; omega
                      have htI : (t : Int) < (q : Int) := by omega
                      have htd : decide ((t : Int) < (q : Int)) = true := decide_eq_true htI
                      have HNT := Lib.hid hnt
                      clear hro5 hro6 hrB hBt hbt hnt
                      go_wp2_with (first
                        | (at_builtin; refine wpList_append_any _ rfl (.tmp 95) (.tmp 96) _ rfl w.heap.size 5 b0 _ 1 1 Try.underlying22 hb0 by0 by1 by2 rfl (by omega) (.slice A nt ct) nt _ rfl ho7 (wr.alloc (.cells #[.int .u8 32] 5)).heap.size (some ⟨wr.heap.size, 0, none⟩) 1 1 [.int .u8 32] rfl hrz hone1 (by simp only [maxLen]; omega) (by omega) h8s ?_; intro v9 wy hown9 hg9 hat; clear hat; obtain ⟨A10, c10, rfl⟩ := own_shape hown9; have HN9 := Lib.hid hown9; have HG9 := Lib.hid hg9; clear hown9 hg9 ho7 hrz)
                        | fail)
                      go_roundw
                      case rel =>
                        have hB9 : Below w.heap.size w wy := hB8.out.grown HG9.out h8s (fun q hq => (own_in ho7b.out hq).1)
                        have ho9 := HN9.out
                        rw [show bv bt ++ [.int .u8 32] = bv (bt ++ [32]) by unfold bv; rw [List.map_append]; rfl] at ho9
                        exact ⟨t1, bt ++ [32], A10, nt + 1, c10, by go_num, by omega, by first | rfl | go_num, HLT.out, by have := HNT.out; omega, HBT.out, ho9, own_keep ho6b.out ho7b.out (by decide) HG9.out, hB9⟩
                      case measure => simp [intOf]; omega
                    · obtain rfl : q = t := by omega
                      go_wp2_with fail
                      go_roundg (n - (i + 1))
                      case rel => exact ⟨i + 1, bt, l2, A, nt, ct, A6', n8, c6', rfl, by go_num, by omega, rfl, rfl, hbt, HL2.out, hBt, by omega, by omega, by omega, by omega, hro5, hro6, hrB⟩
                      case measure => omega
              · have d1 : decide ((i : Int) < (nb : Int)) = false := decide_eq_false (by omega)
                have d1I : ¬ (i : Int) < (nb : Int) := by omega
                have hq2 : 0 ≤ 2 := by omega
                have hrb : Reads (w7.alloc (.cells #[.int .u8 32] 5)) (w7.alloc (.cells #[.int .u8 32] 5)).heap.size 1 (some ⟨w7.heap.size, 0, none⟩) 1 [.int .u8 32] := reads_block (t := 5) (heap_alloc_new w7 _) rfl
                have hone1 : ∀ u ∈ ([.int .u8 32] : List Value), u.oneCell' = true := fun u hu => by simp at hu; subst hu; rfl
                have ho7 := own_under HO5d.out (bone w7 (.cells #[.int .u8 32] 5))
                have hB8 := Lib.hid (bnew HB7.out (.cells #[.int .u8 32] 5))
                have ho7b := Lib.hid ho7
                have ho6b := Lib.hid (own_under HO6d.out (bone w7 (.cells #[.int .u8 32] 5)))
                have h8s : w.heap.size ≤ (w7.alloc (.cells #[.int .u8 32] 5)).heap.size := hB8.out.size
                go_upto_region 22 with (first
                  | (at_builtin; refine wpList_append_any _ rfl (.tmp 84) (.tmp 88) _ rfl w.heap.size 5 b0 _ 1 1 Try.underlying22 hb0 by0 by1 by2 rfl (by omega) (.slice A7 n7 c7) n7 _ rfl ho7 (w7.alloc (.cells #[.int .u8 32] 5)).heap.size (some ⟨w7.heap.size, 0, none⟩) 1 1 [.int .u8 32] rfl hrb hone1 (by simp only [maxLen]; omega) (by omega) h8s ?_; intro v9 w9 hown9 hg9 hat; clear hat; obtain ⟨A9, c9, rfl⟩ := own_shape hown9; have HN9 := Lib.hid hown9; have HG9 := Lib.hid hg9; clear hown9 hg9 ho7 hrb)
                  | fail)
                have hB9 : Below w.heap.size w w9 := hB8.out.grown HG9.out h8s (fun q hq => (own_in ho7b.out hq).1)
                have ho9 := HN9.out
                rw [show bv b2 ++ [.int .u8 32] = bv (b2 ++ [32]) by unfold bv; rw [List.map_append]; rfl] at ho9
                have ho6c := own_keep ho6b.out ho7b.out (by decide) HG9.out
                have hW3 := HW.out 32 rfl
                have hlen : (b2 ++ [32]).length = n7 + 1 := by rw [List.length_append, HB2l.out]; rfl
                obtain ⟨b3, hb3⟩ : ∃ b3, b2 ++ [32] = b3 := ⟨_, rfl⟩
                rw [hb3] at ho9 hW3 hlen
                obtain ⟨n9, hn9⟩ : ∃ n9, n7 + 1 = n9 := ⟨_, rfl⟩
                rw [hn9] at ho9 hlen ⊢
                have n9l : n9 ≤ 301 := by omega
                have h59 : n9 + 2 ≤ 23 * (i + 1) := by omega
                have HB9 := Lib.hid hB9
                have HO9 := Lib.hid ho9
                have HO6e := Lib.hid ho6c
                have HW3 := Lib.hid hW3
                have HLEN := Lib.hid hlen
                clear hB9 ho9 ho6c hW3 hlen hb3 hn9 h57 HN9 HG9 hB8 h8s
                go_wp2_with fail
                go_loopw [5, 93] (fun pv tv wr => ∃ (t : Nat) (bt : List UInt8) (A : Option Addr) (nt ct : Nat), tv = .int .u8 t ∧ t ≤ 0 ∧ pv = .slice A nt ct ∧ bt.length = nt ∧ nt = n9 + t ∧ Bld bt l2 ∧ wr.ownsRow w.heap.size 5 1 (.slice A nt ct) nt (bv bt) ∧ wr.ownsRow w.heap.size 31 2 (.slice A6' n8 c6') n8 (l2.flatMap wv) ∧ Below w.heap.size w wr) (fun _ tv _ => 0 - (intOf tv).toNat)
                case atStart => exact ⟨0, b3, A9, n9, c9, rfl, Nat.zero_le _, rfl, HLEN.out, rfl, HW3.out, HO9.out, HO6e.out, HB9.out⟩
                case round =>
                  clear HB9 HO9 HO6e HW3 HLEN
                  obtain ⟨t, bt, A, nt, ct, rfl, ht, rfl, hbt, hnt, hBt, hro5, hro6, hrB⟩ := hrel
                  obtain rfl : t = 0 := by omega
                  go_wp2_with fail
                  go_roundg (n - (i + 1))
                  case rel => exact ⟨i + 1, bt, l2, A, nt, ct, A6', n8, c6', rfl, by go_num, by omega, rfl, rfl, hbt, HL2.out, hBt, by omega, by omega, by omega, by omega, hro5, hro6, hrB⟩
                  case measure => omega
          · have d12 : decide ((12 : Int) ≤ (i : Int)) = true := decide_eq_true (by omega)
            have d12N : decide (12 ≤ i) = true := decide_eq_true (by omega)
            go_wp2_with fail
            go_roundg (n - (i + 1))
            case rel => exact ⟨i + 1, bs, l, A5, n5, c5, A6, n6, c6, rfl, by go_num, by omega, rfl, rfl, hbl, hll, hBld, by omega, by omega, by omega, by omega, HO5.out, HO6.out, HB.out⟩
            case measure => omega
    · obtain rfl : n = i := by omega
      have hT := hBld.told
      have hnw := new_any A5 n5 c5 bs wr (by omega) (Reads.of_own ho5)
      have hL : bs.length ≤ 1000000 := by omega
      have hrow : Row w l A6 c6 wr := by unfold Row; rw [hll]; exact ho6
      have HLL := Lib.hid hll
      have HBL := Lib.hid hbl
      have HT := Lib.hid hT
      have HO5 := Lib.hid ho5
      have HR := Lib.hid hrow
      have HB := Lib.hid hB
      have hBs := hB.size
      clear hT hrow hll hbl ho5 ho6 hB hBld
      go_wp2_with fail
      refine hnw.mono ?_
      rintro e w4 ⟨g, rfl, hs4, hg, hb4⟩
      have hgw : w.heap.size ≤ g := by omega
      have hB4 := bto HB.out hb4
      have hp4 := own_under HO5.out hb4
      have hR4 := HR.out.below hb4
      clear hnw hb4 HO5 HR HB hBs
      go_wp2_with fail
      go_loopw [104] (fun jv wr => ∃ (j a : Nat), jv = .int .i64 j ∧ j ≤ n6 ∧ Lft bs a (l.drop j) (-1) ∧ Scn wr g bs a (-1) ∧ wr.ownsRow w.heap.size 5 1 (.slice A5 n5 c5) n5 (bv bs) ∧ (∃ wr0, Row wr0 l A6 c6 wr) ∧ Below w.heap.size w wr) (fun jv _ => n6 - (intOf jv).toNat)
      case atStart => exact ⟨0, 0, rfl, Nat.zero_le _, HT.out.left, hs4, hp4, ⟨_, hR4⟩, hB4⟩
      case round =>
        clear hs4 hp4 hR4 hB4
        obtain ⟨j, a, rfl, hjm, hleft, hs, hp, ⟨wr0, hR⟩, hB⟩ := hrel
        have hm := HLL.out
        by_cases hlt : j < n6
        · obtain ⟨⟨v, s⟩, hget⟩ : ∃ x, l[j]? = some x := ⟨_, List.getElem?_eq_getElem (by omega)⟩
          rw [List.drop_eq_getElem_cons (show j < l.length by omega)] at hleft
          have hx : l[j]'(by omega) = (v, s) := by rw [List.getElem?_eq_getElem (by omega)] at hget; exact Option.some.inj hget
          rw [hx] at hleft
          obtain ⟨z, hnx, hv, hleft2, hsj, hjl, hvl⟩ := hleft.step
          obtain ⟨q, rfl, hq0, hq1⟩ := hR.at_ hget
          have hbx := bone wr (.cells #[strV v, .int .i64 s] 31)
          have hs6 := hs.below hbx
          have hR6 := hR.below hbx
          have hp6 := own_under hp hbx
          have hB6 := bnew hB (.cells #[strV v, .int .i64 s] 31)
          have hbk6 : Blk (wr.alloc (.cells #[strV v, .int .i64 s] 31)) wr.heap.size 31 #[strV v, .int .i64 s] := Blk.new _ _ _
          have hne : ¬ wr.heap.size = g := fun e => by
            subst e
            obtain ⟨_, _, hbg, _⟩ := hs6
            have h1 : some (Obj.cells #[strV v, .int .i64 s] 31 (0, 0)) = some _ := hbk6.symm.trans hbg
            cases h1
          have hi6 := word_any hs6 hleft.1 hL
          have HL2 := Lib.hid hleft2
          have HX := Lib.hid hnx
          have HV := Lib.hid hv
          have hjI : (j : Int) < (n6 : Int) := by omega
          clear hv hleft hleft2 hnx hget hx hs hR hp hB hbx hm
          go_wp2_with fail
          refine hi6.mono ?_
          rintro e w7 (⟨i2, k1, _⟩ | ⟨k1, _⟩ | ⟨i2, j2, k1, rfl, hs7, ht7⟩)
          · cases k1.uniq HX.out
          · cases k1.uniq HX.out
          cases k1.uniq HX.out
          rw [← HV.out]
          have hR7 := hR6.scn hs6 ht7
          have hp7 := hs6.own_apart hp6 (by decide) ht7
          have hB7 := scn_bel hB6 hgw (by have := hB6.size; omega) ht7
          have hbk7 := ht7.blk hbk6 hne
          have c0 := hbk7.cell 0
          have c1 := hbk7.cell 1
          clear hi6 hs6 hR6 hp6 hB6 hbk6 ht7 hne k1 hbk7
          go_wp2_with fail
          go_roundw
          case rel => exact ⟨j + 1, z, by go_num, by omega, HL2.out, hs7, hp7, ⟨_, hR7⟩, hB7⟩
          case measure => simp [intOf]; omega
        · obtain rfl : n6 = j := by omega
          rw [List.drop_of_length_le (by omega)] at hleft
          have hct := count_any A5 n5 c5 bs l (-1) wr (by omega) HBL.out (Reads.of_own hp) HT.out
          rw [HLL.out] at hct
          have HLF := Lib.hid hleft
          have hla := hleft.1
          have hX : Hid (Go.Proofs.Ytbdeghhoophkbaa.scn.Next bs a .none) := by
            rcases hleft.last with ⟨_, h⟩ | ⟨b, h, _⟩
            · exact h
            · omega
          clear hleft hR hp hm hlt
          go_wp2_with fail
          refine hct.mono ?_
          rintro e w8 ⟨en, er, rfl, h1, hb8⟩
          obtain ⟨rfl, rfl⟩ : en = n5 ∧ er = 0 := by
            rcases h1 with ⟨a1, a2, a3⟩ | ⟨a1, a2, a3⟩
            · exact ⟨a2, a3⟩
            · omega
          have hs8 := hs.below hb8
          have hB8 := bto hB hb8
          have hwe := word_end (.inl hs8) HLF.out hL
          clear hct h1 hb8 hs hB hs8
          go_wp2_with fail
          refine hwe.mono ?_
          rintro e w9 ⟨x, er, rfl, h1, hs9, ht9⟩
          obtain ⟨rfl, rfl⟩ : x = n5 ∧ er = 2 := by
            rcases h1 with ⟨a1, a2, a3⟩ | ⟨a1, a2, a3⟩
            · exact ⟨by rw [a2, HBL.out], a3⟩
            · omega
          have hB9 := scn_bel hB8 hgw (by have := hB8.size; omega) ht9
          have hmo : Calls Try.prog 11 #[.pointer (some ⟨g, 0, none⟩)] w9 fun e w'' => e = .returned (.bool false) ∧ Below w9.heap.size w9 w'' := (more_any hs9 hla hL).mono fun e w'' ⟨i', h1, h2, h3⟩ => ⟨by rw [h1, h2.over hX.out], h3⟩
          clear hwe h1 hs9 ht9 hB8
          go_wp2_with (first | (go_at_call 11; (with_reducible refine hmo.mono ?_); rintro e wx ⟨rfl, hbx⟩) | fail)
          go_ret
          exact ⟨rfl, bto hB9 hbx⟩
theorem walk (a0 : Option Addr) (len0 cap0 : Nat) (z0 : List ByteArray) (a1 : Option Addr) (len1 cap1 : Nat) (z1 : List Int) (w : World) (w0 : z0.length = len0 ∧ Reads w w.heap.size 1 a0 len0 (z0.map Value.string) ∧ (∀ x ∈ z0, x.size ≤ maxLen) ∧ len0 ≤ cap0 ∧ len0 ≤ 9223372036854775807) (w1 : z1.length = len1 ∧ Reads w w.heap.size 1 a1 len1 (z1.map (Value.int .u8)) ∧ (∀ x ∈ z1, (Lit.int .u8 x).wf = true) ∧ len1 ≤ cap1 ∧ len1 ≤ 9223372036854775807) :
    Calls Try.prog 5 #[.slice a0 len0 cap0, .slice a1 len1 cap1] w fun e w' => e = .returned (.bool true) ∧ Below w.heap.size w w' := by
  obtain ⟨hz, hr, hs, hc, hl⟩ := w0
  obtain ⟨_, hrb, hwf, _, hlb⟩ := w1
  exact core a0 a1 len0 cap0 len1 cap1 z0 z1 w hl hz hr hs hlb hrb hwf

set_option maxRecDepth 100000 in
theorem lifted (os : Os) (started : os.Started) (H : Type) (enc : TypeId × Value → H) :
    ReturnsInHanded {} Try.checked os 5 .any (Rows.scanJoinsSpec.pre6 enc Try.prog Try.f5 Rows.scanJoinsRow.domain false) (Rows.scanJoinsSpec.post enc Try.prog Try.f5 false true false false) := by
  refine returnsInHanded_of_change (C := Try.checked) own started (by kernel_rfl) Try.func5
    (ChangeSpec.witness6 (enc := enc) (C := Try.checked) false ⟨#[], #[.slice none 0 0, .slice none 0 0], []⟩ 8 (by kernel_rfl) (by kernel_rfl) (by kernel_rfl) (by kernel_rfl)) ?_
  intro W base args ds gs before hval0 hW hcnd _
  have hval : ∀ (j : Nat) t v, Try.f5.params[j]? = some t → args[j]? = some v → Value.okWide Try.prog W .any base t v := hval0
  have hW' := hW
  obtain ⟨p, q, hA0, hV, rfl, hfz, hnd⟩ := hW
  have hA : DataW.TrodAll enc Try.prog W 0 (fun _ => true) true Try.f5.params.toList args.toList ds p := hA0
  rw [Try.params5] at hA hval
  obtain ⟨v0, vs0, d0, ds0, p0, q0, hargs, rfl, rfl, h0, r0⟩ := trodAll_cons hA
  obtain ⟨v1, vs1, d1, ds1, p1, q1, rfl, rfl, rfl, h1, r1⟩ := trodAll_cons r0
  obtain ⟨rfl, rfl, rfl⟩ := trodAll_nil r1
  obtain rfl : args = #[v0, v1] := by cases args; simp_all
  obtain ⟨rfl, rfl⟩ := trodVars_none hV
  obtain ⟨a0, len0, cap0, rfl⟩ := okWide_slice Try.underlying43 (hval 0 43 v0 rfl rfl)
  have k0 := h0
  have lt0 : ∀ x ∈ p0, x.block < W.heap.size := by obtain ⟨m, hm⟩ := k0; exact DataW.trod_lt m _ _ _ hm
  obtain ⟨z0, w0⟩ := open_ones Value.string (fun x => x.size ≤ maxLen) Try.underlying43 (by kernel_rfl) (dec_string Try.underlying9) h0
  obtain ⟨a1, len1, cap1, rfl⟩ := okWide_slice Try.underlying22 (hval 1 22 v1 rfl rfl)
  have k1 := h1
  have lt1 : ∀ x ∈ p1, x.block < W.heap.size := by obtain ⟨m, hm⟩ := k1; exact DataW.trod_lt m _ _ _ hm
  obtain ⟨z1, w1⟩ := open_ones (Value.int .u8) (fun x => (Lit.int .u8 x).wf = true) Try.underlying22 (by kernel_rfl) (dec_int Try.underlying5) h1
  clear hA0 hval0
  refine (walk a0 len0 cap0 z0 a1 len1 cap1 z1 W w0 w1).mono fun e W' ⟨he, bel⟩ => ?_
  subst he
  exact ⟨_, rfl, _, _, _, [], _, [], hW', trodAll_mk1 (shut_bool Try.underlying4 _), (trodAll_cons_mk (Below.trod laidOut (by kernel_rfl) (of_decide_eq_true (by kernel_rfl)) k0 bel lt0) (trodAll_cons_mk (Below.trod laidOut (by kernel_rfl) (of_decide_eq_true (by kernel_rfl)) k1 bel lt1) trodAll_mk0)), rfl, bel.frame _, fun h => by cases h⟩
theorem over : Rows.scanJoinsRow.holds Try.pinned (OpenSpec.ofChange Rows.scanJoinsSpec) :=
  OpenClaim.holds_of_wide 5 Try.f5 rfl rfl rfl rfl rfl rfl rfl ⟨rfl, rfl, rfl, rfl, rfl⟩ rfl rfl rfl rfl rfl (by kernel_rfl) Try.func5 (by kernel_rfl)
    (of_decide_eq_true (by kernel_rfl)) (by unfold Func.isWrapper; first | (rw [if_pos (by decide +kernel)]; kernel_rfl) | (rw [if_neg (by decide +kernel)]; exact ⟨rfl, rfl⟩))
    (fun os started H enc _ => lifted os started H enc)
theorem proved : Rows.ScanJoinsSaid := over
end Go.Proofs.Ytbdeghhoophkbaa.scanJoins
