/- For every input WcspSpaces returns true; its arguments read as before. No condition; the tables of Go's library are tied to the program's text. -/
import Derived.Test.YtafdijfbgkcnnaaDoorCards
import Derived.Test.YtafdijfbgkcnnaaDoorTie
import Derived.Deep.DeepHandedRow
import Derived.Lib.LaidTab
import Derived.Stop.LaidErr
import Derived.WalkKit
import Derived.ProofKit
import Derived.OpenShut
import Derived.ShutString
import Derived.ChangeOld
import Derived.Below
import Derived.Test.YtafdijfbgkcnnaaDoorOpen
import Derived.Test.YtafdijfbgkcnnaaDoorPkS
import Derived.Test.YtafdijfbgkcnnaaDoorFunsEq
import Derived.Test.YtafdijfbgkcnnaaDoorByteClone
import Derived.Test.YtafdijfbgkcnnaaDoorIdxI
import Derived.Deep.RegionHeld3
import Derived.Deep.CutRange
namespace Go.Proofs.YtafdijfbgkcnnaaDoor.wcspSpaces
open Go.Proofs.YtafdijfbgkcnnaaDoor.wcp Go.Proofs.YtafdijfbgkcnnaaDoor.scn Go.Proofs.YtafdijfbgkcnnaaDoor.words
open Go.ChangeShapes Go.WideShapes Go.ChangeAt Go.RowKit
open Go.ChangeMaps (open_string shut_string)
set_option linter.unusedVariables false
theorem own : ownKnob Tryd.prog.godebug = none := by kernel_rfl
theorem laidOut : laidOutB Tryd.prog = true := by kernel_rfl
theorem pow_eq : [1, 10, 100, 1000, 10000, 100000, 1000000, 10000000, 100000000, 1000000000, 10000000000, 100000000000, 1000000000000, 10000000000000, 100000000000000, 1000000000000000, 10000000000000000, 100000000000000000, 1000000000000000000, 10000000000000000000] = Lib.pow10Tab := by decide +kernel
theorem pow_tab {W : World} (h : Lib.TabIs Tryd.prog W "internal/strconv.uint64pow10" .u64 [1, 10, 100, 1000, 10000, 100000, 1000000, 10000000, 100000000, 1000000000, 10000000000, 100000000000, 1000000000000, 10000000000000, 100000000000000, 1000000000000000, 10000000000000000, 100000000000000000, 1000000000000000000, 10000000000000000000]) : Tab W := by
  unfold Tab; rw [← pow_eq]; exact h
theorem lenSum_fst : ∀ (l m : List Wd), l.map Prod.fst = m.map Prod.fst → lenSum l = lenSum m := by
  intro l
  induction l with
  | nil => intro m h; cases m with
    | nil => rfl
    | cons x m => cases h
  | cons x l ih => intro m h; cases m with
    | nil => cases h
    | cons y m =>
      rw [List.map_cons, List.map_cons] at h
      injection h with h1 h2
      rw [lenSum_cons, lenSum_cons, h1, ih m h2]
theorem idx_fst (ws : List (List UInt8)) : (idx ws).map Prod.fst = ws := by unfold idx; simp
theorem idx_take (l : List Wd) (i : Nat) : lenSum (idx ((l.map Prod.fst).take i)) ≤ lenSum l := by
  rw [lenSum_fst (idx ((l.map Prod.fst).take i)) (l.take i) (by rw [idx_fst, List.map_take])]
  have h : lenSum l = lenSum (l.take i) + lenSum (l.drop i) := by rw [← lenSum_append, List.take_append_drop]
  omega
/-- the byte between -/
theorem blank_of (y : Nat) : ∃ r : Nat, r < 4 ∧ ((y : Int).tdiv 3).tmod 4 = (r : Int) ∧ ∃ b : UInt8, isB b.toNat = true ∧ at_ [32, 9, 10, 13] r = b.toNat := by
  refine ⟨y / 3 % 4, Nat.mod_lt _ (by omega), ?_, ?_⟩
  · rw [Int.tdiv_eq_ediv_of_nonneg (by omega), Int.tmod_eq_emod_of_nonneg (by omega)]; omega
  · have h : y / 3 % 4 = 0 ∨ y / 3 % 4 = 1 ∨ y / 3 % 4 = 2 ∨ y / 3 % 4 = 3 := by omega
    rcases h with h | h | h | h <;> rw [h]
    · exact ⟨32, by decide, rfl⟩
    · exact ⟨9, by decide, rfl⟩
    · exact ⟨10, by decide, rfl⟩
    · exact ⟨13, by decide, rfl⟩
theorem rem3 (y : Nat) : ∃ r s : Nat, (y : Int).tmod 3 = (r : Int) ∧ (1 : Int) + (r : Int) = (s : Int) ∧ 1 ≤ s ∧ s ≤ 3 ∧ r < 3 := ⟨y % 3, 1 + y % 3, by rw [Int.tmod_eq_emod_of_nonneg (by omega)]; omega, by omega, by omega, by omega, by omega⟩
theorem spe {w : World} {b : Nat} {e : TypeId} {v : Value} {pb : List UInt8} (h : w.ownsRow b e 1 v (pb ++ [32]).length (bv (pb ++ [32]))) : w.ownsRow b e 1 v (pb.length + 1) (bv (pb ++ [32])) := by
  have e1 : (pb ++ [32]).length = pb.length + 1 := by simp
  rw [e1] at h; exact h
theorem w8 (n : Nat) (h : n < 256) : IntKind.u8.wrap (n : Int) = (n : Int) := by rw [IntKind.wrap_u8]; omega
theorem div3 (y : Nat) : ∃ q : Nat, (y : Int).tdiv 3 = (q : Int) ∧ q ≤ y := ⟨y / 3, by rw [Int.tdiv_eq_ediv_of_nonneg (by omega)]; omega, by omega⟩
set_option maxRecDepth 100000 in
set_option maxHeartbeats 8000000 in
theorem core (A B : Option Addr) (n m cap capm : Nat) (xs ys : List UInt8) (w : World) (hn : n ≤ 9223372036854775807) (hm : m ≤ 9223372036854775807) (hnc : n ≤ cap) (hr : Reads w w.heap.size 1 A n (bv xs)) (hs : Reads w w.heap.size 1 B m (bv ys)) (ht : Tab w) :
    Calls Tryd.prog 7 #[.slice A n cap, .slice B m capm] w fun e w' => e = .returned (.bool true) ∧ Below w.heap.size w w' := by
  obtain ⟨i0, hi0, hz0, hz1, hz2⟩ := info_parts infoB
  obtain ⟨iI, hI0, hI1, hI2, hI3⟩ := info_parts Go.Proofs.YtafdijfbgkcnnaaDoor.words.infoI
  obtain ⟨k, hk1, k1, k2, hkm⟩ := min_nat n 300
  have hkI : min (n : Int) 300 = (k : Int) := by omega
  have hk1' : (if (300 : Int) < (n : Int) then (300 : Int) else (n : Int)) = (k : Int) := hk1
  have kI : (0 : Int) ≤ (k : Int) := Int.natCast_nonneg _
  have kc : (k : Int) ≤ (cap : Int) := by omega
  have hxl : xs.length = n := by have := hr.1; rw [bv_len] at this; omega
  have hyl : ys.length = m := by have := hs.1; rw [bv_len] at this; omega
  obtain ⟨bs, hbs⟩ : ∃ bs, xs.take k = bs := ⟨_, rfl⟩
  have hbl : bs.length = k := by rw [← hbs, List.length_take]; omega
  have hrk : Reads w w.heap.size 1 A k (bv bs) := by
    have := hr.take_ (m := k) (by omega)
    rw [← hbs]; unfold bv at this ⊢; rw [List.map_take]; exact this
  have HCA := Lib.hid (fun (W : World) (c : Nat) (hW : Below w.heap.size w W) => (cloneB_any A k c bs W (by omega) ((hrk.below hW).more hW.size) : Calls Tryd.prog 10 #[.slice A k c] W fun e w' => CopiedB W bs e w'))
  have HBL := Lib.hid hbl
  have HT := Lib.hid ht
  have HS := Lib.hid hs
  have HYL := Lib.hid hyl
  clear hr hs ht hxl hyl hbs hbl hrk hkm hk1
  go_enter Tryd.func7, Tryd.ntmps7
  go_wp2_with fail
  refine (wawake_any w HT.out).mono ?_
  rintro e w1 ⟨rfl, hb1⟩
  have HB1 := Lib.hid hb1
  have hca := HCA.out w1 cap hb1
  clear hb1
  go_wp2_with fail
  refine hca.mono ?_
  rintro e w2 ⟨A1, c1, rfl, ho1, hb2⟩
  rw [HBL.out] at ho1 ⊢
  have hfi := fields_any A1 k c1 w1.heap.size bs w2 HBL.out (by omega) ho1
  have HB2 := Lib.hid (bto HB1.out hb2)
  clear hca ho1 hb2
  go_wp2_with fail
  refine hfi.mono ?_
  rintro e w3 ⟨l, bad, A5, c5, rfl, hT, hstr, hb3⟩
  have HB3 := Lib.hid (bto HB2.out hb3)
  obtain ⟨hwd, hls, hll⟩ := told_words hT
  rw [HBL.out] at hls
  have hl3 : l.length ≤ 300 := by omega
  have HWD : Hid (∀ v ∈ l.map Prod.fst, v ≠ [] ∧ v.all (fun b => isIn b.toNat) = true) := fun v hv => by
    obtain ⟨x, hx, rfl⟩ := List.mem_map.1 hv
    exact hwd x hx
  have HLS : Hid (∀ i, lenSum (idx ((l.map Prod.fst).take i)) ≤ 300) := fun i => Nat.le_trans (idx_take l i) (by omega)
  obtain ⟨ws, hws⟩ : ∃ ws, l.map Prod.fst = ws := ⟨_, rfl⟩
  have hwl : l.length = ws.length := by rw [← hws]; simp
  rw [hws] at HWD HLS hstr
  rw [hwl] at hstr hl3 ⊢
  have HSTR := Lib.hid hstr
  clear hfi hb3 hT hwd hls hll hws hwl hstr
  go_wp2_with fail
  go_loopw [6, 7, 8, 9, 32] (fun qv pv lv ov iv wr => ∃ (i : Nat) (qb pb : List UInt8) (pl ol : List Nat) (Aq Ap_ Al Ao : Option Addr) (cq cp cl co : Nat), iv = .int .i64 i ∧ i ≤ ws.length ∧ qv = .slice Aq qb.length cq ∧ pv = .slice Ap_ pb.length cp ∧ lv = .slice Al pl.length cl ∧ ov = .slice Ao ol.length co ∧
    SpI ws i qb pb pl ol ∧ SpW w3 wr qv pv lv ov qb pb pl ol ∧ wr.ownsRow w2.heap.size 9 1 (.slice A5 ws.length c5) ws.length (scn.strs ws)) (fun _ _ _ _ iv _ => ws.length - (intOf iv).toNat)
  case atStart => exact ⟨0, [], [], [], [], none, none, none, none, 0, 0, 0, 0, rfl, Nat.zero_le _, rfl, rfl, rfl, rfl, SpI.zero ws, SpW.nil (Below.refl _ _), HSTR.out⟩
  case round =>
    obtain ⟨i, qb, pb, pl, ol, Aq, Ap_, Al, Ao, cq, cp, cl, co, rfl, hi, rfl, rfl, rfl, rfl, hI, hW, hst⟩ := hrel
    by_cases hlt : i < ws.length
    · obtain ⟨v, hv⟩ : ∃ v, ws[i]? = some v := ⟨_, List.getElem?_eq_getElem hlt⟩
      obtain ⟨sq, rfl, _, _⟩ := own_some hst (by omega)
      have hcell : wr.cell? ⟨sq, i, none⟩ = some (strV v) := (hst.cellAt i (by omega)).trans (by unfold scn.strs; rw [List.getElem?_map, hv]; rfl)
      have hscap := own_cap hst
      have j0 : (0 : Int) ≤ (i : Int) := Int.natCast_nonneg _
      have j1 : (i : Int) < (ws.length : Int) := by omega
      have HI := Lib.hid hI
      have HW := Lib.hid hW
      have HST := Lib.hid hst
      have HV := Lib.hid hv
      clear hI hW hst hv
      go_upto_if 40 with fail
      go_cut [12, 32] from 33 to 77 (fun bv iv wq => ∃ y : Nat, bv = .int .u8 y ∧ y < 256 ∧ iv = .int .i64 i ∧ wq = wr)
      case first =>
        by_cases him : i < m
        · obtain ⟨ad, x, rfl, _, hx, hc⟩ := (HS.out.lift (bto HB3.out HW.out.b)).at_ him
          rw [bv_get (by have := HYL.out; omega)] at hx
          obtain rfl := Option.some.inj hx
          have hy256 : at_ ys i < 256 := by unfold at_; exact UInt8.toNat_lt _
          obtain ⟨y, hy⟩ : ∃ y, at_ ys i = y := ⟨_, rfl⟩
          rw [hy] at hc hy256
          have hmI : (i : Int) < (m : Int) := by omega
          have hmd : decide ((i : Int) < (m : Int)) = true := decide_eq_true hmI
          clear hy hx
          go_wp2_with fail
          go_meet
          case rel => exact ⟨y, rfl, hy256, rfl, by first | rfl | trivial⟩
        · have hmd : decide ((i : Int) < (m : Int)) = false := decide_eq_false (by omega)
          go_wp2_with fail
          go_meet
          case rel => exact ⟨0, rfl, by omega, rfl, by first | rfl | trivial⟩
      case rest =>
        obtain ⟨y, rfl, hy, rfl, rfl⟩ := hcut
        obtain ⟨r3, s3, r3I, s3I, s31, s33, r33⟩ := rem3 y
        obtain ⟨q3, q3I, q3y⟩ := div3 y
        obtain ⟨r4, r44, r4I, bt, hbt, hat4⟩ := blank_of y
        rw [q3I] at r4I
        have r3w := w8 r3 (by omega)
        have s3w := w8 s3 (by omega)
        have q3w := w8 q3 (by omega)
        have r4w := w8 r4 (by omega)
        have hix : ((⟨#[32, 9, 10, 13]⟩ : ByteArray)[r4]'(by simpa [ByteArray.size] using r44)).toNat = bt.toNat := (str_at (l := [32, 9, 10, 13]) (j := r4) (by simpa using r44)).trans hat4
        have r4Z : (0 : Int) ≤ (r4 : Int) := Int.natCast_nonneg _
        have r4L : (r4 : Int) < 4 := by omega
        have HBT := Lib.hid hbt
        clear hat4 hbt hcell
        go_wp2_with fail
        go_loopw [6, 48] (fun qv tv wz => ∃ (t : Nat) (q2 : List UInt8) (A2 : Option Addr) (c2 : Nat), tv = .int .u8 t ∧ t ≤ s3 ∧ qv = .slice A2 q2.length c2 ∧ q2.length = qb.length + t ∧ ((t = 0 ∧ q2 = qb) ∨ (0 < t ∧ Bld q2 (atP (ws.take i) pl))) ∧
          SpW w3 wz (.slice A2 q2.length c2) (.slice Ap_ pb.length cp) (.slice Al pl.length cl) (.slice Ao ol.length co) q2 pb pl ol ∧ wz.ownsRow w2.heap.size 9 1 (.slice (some ⟨sq, 0, none⟩) ws.length c5) ws.length (scn.strs ws)) (fun _ tv _ => s3 - (intOf tv).toNat)
        case atStart => exact ⟨0, qb, Aq, cq, rfl, by omega, rfl, rfl, .inl ⟨rfl, rfl⟩, HW.out, HST.out⟩
        case round =>
          obtain ⟨t, q2, A2, c2, rfl, ht3, rfl, hq2, hb2, hW2, hst2⟩ := hrel
          have hql : q2.length ≤ 1300 := by
            have h1 := HI.out.ql
            have h2 := HLS.out i
            omega
          by_cases htl : t < s3
          · have htd : decide ((t : Int) < (s3 : Int)) = true := decide_eq_true (by omega)
            have HB' : Hid (Bld (q2 ++ [bt]) (atP (ws.take i) pl)) := by
              rcases hb2 with ⟨_, rfl⟩ | ⟨_, hb⟩
              · exact HI.out.fq.blank HBT.out
              · exact hb.blank HBT.out
            have hWa := hW2.alloc (.cells #[.int .u8 (bt.toNat : Nat)] 5)
            have hqa := hWa.q
            have hra : Reads (wr.alloc (.cells #[.int .u8 (bt.toNat : Nat)] 5)) (wr.alloc (.cells #[.int .u8 (bt.toNat : Nat)] 5)).heap.size 1 (some ⟨wr.heap.size, 0, none⟩) 1 (bv [bt]) := reads_block (t := 5) (heap_alloc_new _ _) rfl
            have hsa := hWa.b.size
            have HWA := Lib.hid hWa
            have HSTA := Lib.hid (own_under hst2 (bone wr (.cells #[.int .u8 (bt.toNat : Nat)] 5)))
            have tw := w8 (t + 1) (by omega)
            have HQ2 := Lib.hid hq2
            clear hb2 hW2 hst2 hWa hq2
            go_wp2_with (first
              | (at_builtin; refine wpList_append_any _ rfl (.tmp 50) (.tmp 55) _ rfl w3.heap.size 5 i0 _ 1 1 Tryd.underlying22 hi0 hz0 hz1 hz2 rfl (by omega) (.slice A2 q2.length c2) q2.length _ rfl hqa (wr.alloc (.cells #[.int .u8 (bt.toNat : Nat)] 5)).heap.size (some ⟨wr.heap.size, 0, none⟩) 1 1 (bv [bt]) rfl hra bv_one (by simp only [maxLen]; omega) (by omega) hsa ?_; intro v6 w6 hown6 hg6 hat6; obtain ⟨A6, c6, rfl⟩ := own_shape hown6; have HO6 := Lib.hid hown6; have HG6 := Lib.hid hg6; have HA6 := Lib.hid hat6; clear hown6 hg6 hat6 hqa hra)
              | fail)
            go_roundw
            case measure => simp [intOf]; omega
            case rel =>
              have ho := own_u8 HO6.out rfl rfl
              have hl : (q2 ++ [bt]).length = q2.length + 1 := by simp
              exact ⟨t + 1, q2 ++ [bt], A6, c6, by go_num, by omega, by rw [hl], by rw [hl, HQ2.out]; omega, .inr ⟨by omega, HB'.out⟩, by rw [hl] at ho ⊢; exact HWA.out.growQ (by rw [hl]; exact ho) HG6.out HA6.out, strs_keep HSTA.out HWA.out.q (by decide) HG6.out⟩
          · obtain rfl : t = s3 := by omega
            have htd : decide ((t : Int) < (t : Int)) = false := decide_eq_false (by omega)
            have hbld : Bld q2 (atP (ws.take i) pl) := by
              rcases hb2 with ⟨h0, _⟩ | ⟨_, hb⟩
              · omega
              · exact hb
            have hvw := HWD.out v (List.mem_of_getElem? HV.out)
            have HSP := Lib.hid (HI.out.step HV.out hvw.1 hvw.2 hbld (by omega))
            have hvl : v.length ≤ 300 := by
              have h1 := HLS.out (i + 1)
              rw [idx_snoc HV.out] at h1
              omega
            have hv0 : 0 < (⟨v.toArray⟩ : ByteArray).size := by
              have := List.length_pos_iff.2 hvw.1
              simpa [ByteArray.size] using this
            have hvs : (⟨v.toArray⟩ : ByteArray).size = v.length := by simp [ByteArray.size]
            have hpl : pb.length ≤ 600 := by
              have h1 := HI.out.pbl
              have h2 := HLS.out i
              omega
            have hll1 : pl.length ≤ 300 := by rw [HI.out.lpl]; omega
            have hll2 : ol.length ≤ 300 := by rw [HI.out.lol]; omega
            have hWa := hW2.alloc (.cells #[.int .u8 32] 5)
            have hpa := hWa.p
            have hra : Reads (wr.alloc (.cells #[.int .u8 32] 5)) (wr.alloc (.cells #[.int .u8 32] 5)).heap.size 1 (some ⟨wr.heap.size, 0, none⟩) 1 (bv [32]) := reads_block (t := 5) (heap_alloc_new _ _) rfl
            have hsa := hWa.b.size
            have HWA := Lib.hid hWa
            have HSTA := Lib.hid (own_under hst2 (bone wr (.cells #[.int .u8 32] 5)))
            clear hb2 hW2 hst2 hWa hq2 hbld hvw HW HST hix r4I r3I
            go_upto_region 19 with (first
              | (at_builtin; refine wpList_append_any _ rfl (.tmp 58) (.tmp 59) _ rfl w3.heap.size 5 i0 _ 1 1 Tryd.underlying22 hi0 hz0 hz1 hz2 rfl (by omega) (.slice Ap_ pb.length cp) pb.length _ rfl hpa (wr.alloc (.cells #[.int .u8 32] 5)).heap.size (some ⟨wr.heap.size, 0, none⟩) 1 1 (bv [32]) rfl hra bv_one (by simp only [maxLen]; omega) (by omega) hsa ?_; intro v5 w5 hown5 hg5 hat5; obtain ⟨A5', c5', rfl⟩ := own_shape hown5; have HW5 := Lib.hid (HWA.out.growP (own_u8 hown5 rfl rfl) hg5 hat5); have HST5 := Lib.hid (strs_keep HSTA.out HWA.out.p (by decide) hg5); clear hown5 hg5 hat5 hpa hra)
              | fail)
            have hWb := HW5.out.alloc (.cells #[.int .i64 (q2.length : Nat)] 3)
            have hlb := hWb.l
            have hrb : Reads (w5.alloc (.cells #[.int .i64 (q2.length : Nat)] 3)) (w5.alloc (.cells #[.int .i64 (q2.length : Nat)] 3)).heap.size 1 (some ⟨w5.heap.size, 0, none⟩) 1 (nums [(q2.length : Int)]) := reads_block (t := 3) (heap_alloc_new _ _) rfl
            have hsb := hWb.b.size
            have HWB := Lib.hid hWb
            have HSTB := Lib.hid (own_under HST5.out (bone w5 (.cells #[.int .i64 (q2.length : Nat)] 3)))
            clear hWb hsa
            go_upto_region 20 with (first
              | (at_builtin; refine wpList_append_any _ rfl (.tmp 61) (.tmp 64) _ rfl w3.heap.size 3 iI _ 1 8 Tryd.underlying23 hI0 hI1 hI2 hI3 rfl (by omega) (.slice Al pl.length cl) pl.length _ rfl hlb (w5.alloc (.cells #[.int .i64 (q2.length : Nat)] 3)).heap.size (some ⟨w5.heap.size, 0, none⟩) 1 1 (nums [(q2.length : Int)]) rfl hrb nums_one (by simp only [maxLen]; omega) (by omega) hsb ?_; intro v6 w6 hown6 hg6 hat6; obtain ⟨A6, c6, rfl⟩ := own_shape hown6; have HW6 := Lib.hid (HWB.out.growL (own_int hown6) hg6 hat6); have HST6 := Lib.hid (strs_keep HSTB.out HWB.out.l (by decide) hg6); have hoc := (HW6.out.alloc (.cells #[.int .i64 (pb.length + 1 : Nat)] 3)).o; have hrc : Reads (w6.alloc (.cells #[.int .i64 (pb.length + 1 : Nat)] 3)) (w6.alloc (.cells #[.int .i64 (pb.length + 1 : Nat)] 3)).heap.size 1 (some ⟨w6.heap.size, 0, none⟩) 1 (nums [((pb.length + 1 : Nat) : Int)]) := reads_block (t := 3) (heap_alloc_new _ _) rfl; have hsc := (HW6.out.alloc (.cells #[.int .i64 (pb.length + 1 : Nat)] 3)).b.size; clear hown6 hg6 hat6 hlb hrb hsb)
              | (at_builtin; refine wpList_append_any _ rfl (.tmp 66) (.tmp 69) _ rfl w3.heap.size 3 iI _ 1 8 Tryd.underlying23 hI0 hI1 hI2 hI3 rfl (by omega) (.slice Ao ol.length co) ol.length _ rfl hoc (w6.alloc (.cells #[.int .i64 (pb.length + 1 : Nat)] 3)).heap.size (some ⟨w6.heap.size, 0, none⟩) 1 1 (nums [((pb.length + 1 : Nat) : Int)]) rfl hrc nums_one (by simp only [maxLen]; omega) (by omega) hsc ?_; intro v7 w7 hown7 hg7 hat7; obtain ⟨A7, c7, rfl⟩ := own_shape hown7; have HW7 := Lib.hid ((HW6.out.alloc (.cells #[.int .i64 (pb.length + 1 : Nat)] 3)).growO (own_int hown7) hg7 hat7); have HST7 := Lib.hid (strs_keep (own_under HST6.out (bone w6 (.cells #[.int .i64 (pb.length + 1 : Nat)] 3))) (HW6.out.alloc (.cells #[.int .i64 (pb.length + 1 : Nat)] 3)).o (by decide) hg7); clear hown7 hg7 hat7 hoc hrc hsc)
              | fail)
            have hqd := HW7.out.q
            have hs7 := HW7.out.b.size
            have hsc8 : scn.bv v = Lib.strCells ⟨v.toArray⟩ := (str_cells v).symm
            clear hll1 hll2
            go_wp2_with (first
              | (at_builtin; refine wpList_append_str_at _ rfl (.tmp 71) (.tmp 72) 22 9 rfl w3.heap.size 5 i0 Tryd.underlying22 Tryd.underlying9 hi0 hz0 hz1 hz2 (.slice A2 q2.length c2) q2.length (bv q2) rfl hqd ⟨v.toArray⟩ hv0 rfl (by rw [hvs]; simp only [maxLen]; omega) (by rw [hvs]; omega) hs7 ?_; intro v8 w8 hown8 hg8 hat8; rw [hvs, ← hsc8] at hown8; obtain ⟨A8, c8, rfl⟩ := own_shape hown8; have HW8 := Lib.hid (HW7.out.growQ (own_u8 hown8 rfl rfl) hg8 hat8); have HST8 := Lib.hid (strs_keep HST7.out HW7.out.q (by decide) hg8); have hpe := HW8.out.p; have hs8 := HW8.out.b.size; have hpe' : w8.ownsRow w3.heap.size 5 1 (.slice A5' (pb.length + 1) c5') (pb.length + 1) (bv (pb ++ [32])) := spe hpe; clear hown8 hg8 hat8 hqd hs7 hpe)
              | (at_builtin; refine wpList_append_str_at _ rfl (.tmp 74) (.tmp 75) 22 9 rfl w3.heap.size 5 i0 Tryd.underlying22 Tryd.underlying9 hi0 hz0 hz1 hz2 (.slice A5' (pb.length + 1) c5') (pb.length + 1) (bv (pb ++ [32])) rfl hpe' ⟨v.toArray⟩ hv0 rfl (by rw [hvs]; simp only [maxLen]; omega) (by rw [hvs]; omega) hs8 ?_; intro v9 w9 hown9 hg9 hat9; rw [hvs, ← hsc8] at hown9; obtain ⟨A9, c9, rfl⟩ := own_shape hown9; have HO9 := Lib.hid (own_u8 hown9 (by simp) rfl); have HG9 := Lib.hid hg9; have HA9 := Lib.hid hat9; clear hown9 hg9 hat9 hpe' hs8)
              | fail)
            go_roundw
            case measure => simp [intOf]; omega
            case rel =>
              have e1 : (q2 ++ v).length = q2.length + v.length := by simp
              have e2 : (pb ++ [32] ++ v).length = pb.length + 1 + v.length := by simp; omega
              have e3 : (pl ++ [q2.length]).length = pl.length + 1 := by simp
              have e4 : (ol ++ [pb.length + 1]).length = ol.length + 1 := by simp
              have hW9 := HW8.out.growP HO9.out HG9.out HA9.out
              exact ⟨i + 1, q2 ++ v, pb ++ [32] ++ v, pl ++ [q2.length], ol ++ [pb.length + 1], A8, A9, A6, A7, c8, c9, c6, c7, by go_num, by omega, by rw [e1], by rw [e2], by rw [e3], by rw [e4], HSP.out, hW9, strs_keep HST8.out HW8.out.p (by decide) HG9.out⟩
    · obtain rfl : i = ws.length := by omega
      have jd : decide ((ws.length : Int) < (ws.length : Int)) = false := decide_eq_false (by omega)
      obtain ⟨lp, lq, tp, tq, hcase⟩ := hI.law
      have hql : qb.length ≤ 1300 := by
        have h1 := hI.ql
        have h2 := HLS.out ws.length
        omega
      have hpl : pb.length ≤ 700 := by
        have h1 := hI.pbl
        have h2 := HLS.out ws.length
        omega
      have hol : ol.length ≤ 300 := by rw [hI.lol]; omega
      have hpol : pl.length = ol.length := by rw [hI.lol, hI.lpl]
      have hrp := read_any Ap_ pb.length cp pb (-1) lp wr rfl (Reads.of_own hW.p) (by omega) tp (HT.out.below (bto HB3.out hW.b))
      have HW := Lib.hid hW
      have HCS := Lib.hid hcase
      have HTQ := Lib.hid tq
      have HTP := Lib.hid tp
      have hlpl : lp.length ≤ 65536 := by have := (told_words tp).2; omega
      clear hI hW hst tp tq hcase
      go_wp2_with fail
      refine hrp.mono ?_
      rintro e w4 ⟨hb4, hm4⟩
      have hW4 := HW.out.below hb4
      have HB4 : Hid (Below w.heap.size w w4) := bto HB3.out hW4.b
      have hrq := read_any Aq qb.length cq qb (-1) lq w4 rfl (Reads.of_own hW4.q) (by omega) HTQ.out (HT.out.below HB4.out)
      have HW4 := Lib.hid hW4
      clear hrp hb4 hW4
      rcases HCS.out with ⟨f, hf1, hf2⟩ | ⟨er, x, y, he1, he2, hxy⟩
      · rw [hf1] at hm4
        obtain ⟨gf, rfl, hfv⟩ := hm4
        have hFok := okFile_of HTP.out hf1 hlpl
        obtain ⟨_, SA, sc, FA, fc, V, hfw⟩ := hfv.filw
        have HF2 := Lib.hid hf2
        have HFW := Lib.hid hfw
        clear hf1 hf2 hfv hfw
        go_wp2_with fail
        refine hrq.mono ?_
        rintro e w5 ⟨hb5, hm5⟩
        rw [HF2.out] at hm5
        obtain ⟨gg, rfl, hgv⟩ := hm5
        obtain ⟨_, SB, sd, GA, gc, U, hgw⟩ := hgv.filw
        have hf5 := HFW.out.below hb5
        have HB5 : Hid (Below w.heap.size w w5) := bto HB4.out hb5
        have hszl : f.sizes.length ≤ 9223372036854775807 := by have := hFok.s2; omega
        have heq := equalI_any SA SB f.sizes.length f.sizes.length sc sd f.sizes f.sizes w5.drew hszl hszl (Reads.of_own hf5.2.2.1) (Reads.of_own hgw.2.2.1)
        rw [show eqB f.sizes f.sizes = true from decide_eq_true rfl] at heq
        have HFUN := Lib.hid (fun (W : World) (hW : Below w5.heap.size w5 W) => funseq_any (hf5.below hW) (hgw.below hW) hFok)
        have HCELL : Hid (∀ W : World, Below w5.heap.size w5 W → W.cell? ⟨gf, 0, none⟩ = some (strV f.name) ∧ W.cell? ⟨gf, 1, none⟩ = some (.int .i64 f.k) ∧ W.cell? ⟨gf, 2, none⟩ = some (.slice SA f.sizes.length sc) ∧ W.cell? ⟨gf, 3, none⟩ = some (.slice FA V.length fc) ∧ W.cell? ⟨gg, 0, none⟩ = some (strV f.name) ∧ W.cell? ⟨gg, 1, none⟩ = some (.int .i64 f.k) ∧ W.cell? ⟨gg, 2, none⟩ = some (.slice SB f.sizes.length sd) ∧ W.cell? ⟨gg, 3, none⟩ = some (.slice GA U.length gc)) := fun W hW => by
          have b1 := (hf5.below hW).2.1
          have b2 := (hgw.below hW).2.1
          exact ⟨(Blk.cell b1 0).trans rfl, (Blk.cell b1 1).trans rfl, (Blk.cell b1 2).trans rfl, (Blk.cell b1 3).trans rfl, (Blk.cell b2 0).trans rfl, (Blk.cell b2 1).trans rfl, (Blk.cell b2 2).trans rfl, (Blk.cell b2 3).trans rfl⟩
        have HSW := HCELL.out w5 (Below.refl _ _)
        have hpb : ((pb.length : Int) == (pb.length : Int)) = true := by simp
        have hqb : ((qb.length : Int) == (qb.length : Int)) = true := by simp
        have hkk : (f.k == f.k) = true := by simp
        clear hrq hb5 hgv hgw hf5 hszl
        go_upto_region 29 with fail
        go_region_held3 (fun W => W.cell? ⟨gf, 0, none⟩ = some (strV f.name) ∧ W.cell? ⟨gf, 1, none⟩ = some (.int .i64 f.k) ∧ W.cell? ⟨gf, 2, none⟩ = some (.slice SA f.sizes.length sc) ∧ W.cell? ⟨gf, 3, none⟩ = some (.slice FA V.length fc) ∧ W.cell? ⟨gg, 0, none⟩ = some (strV f.name) ∧ W.cell? ⟨gg, 1, none⟩ = some (.int .i64 f.k) ∧ W.cell? ⟨gg, 2, none⟩ = some (.slice SB f.sizes.length sd) ∧ W.cell? ⟨gg, 3, none⟩ = some (.slice GA U.length gc)) (first | exact HSW | exact HS5 | exact HS6) (first
          | (go_at_call 18; refine heq.mono ?_; rintro e w6 ⟨rfl, hb6⟩; have hk6 : Below w5.heap.size w5 w6 := ⟨hb6.os, hb6.tape, hb6.output, hb6.size, hb6.block⟩; have HS5 := HCELL.out w6 hk6; have hfe := HFUN.out w6 hk6; have HK6 := Lib.hid hk6; clear hb6 hk6 heq)
          | (go_at_call 23; refine hfe.mono ?_; rintro e w7 ⟨rfl, hb7⟩; have hk7 : Below w5.heap.size w5 w7 := bto HK6.out hb7; have HS6 := HCELL.out w7 hk7; have HK7 := Lib.hid hk7; clear hb7 hk7 hfe))
        all_goals
          go_wp2_with fail
          go_ret
          exact ⟨rfl, bto HB5.out HK7.out⟩
      · rw [he1] at hm4
        obtain rfl := hm4
        have HE2 := Lib.hid he2
        have hee : (er != er) = false := by simp
        clear he1 he2
        go_wp2_with fail
        refine hrq.mono ?_
        rintro e w5 ⟨hb5, hm5⟩
        rw [HE2.out] at hm5
        obtain rfl := hm5
        have hW5 := HW4.out.below hb5
        have hix := indexI_any Ao ol.length co (nats ol) (x : Int) w5 (by omega) (Reads.of_own hW5.o)
        have HW5 := Lib.hid hW5
        clear hrq hb5 hW5
        go_wp2_with fail
        refine hix.mono ?_
        rintro e w6 ⟨⟨r, rfl, hrr⟩, hb6⟩
        have HB6 : Hid (Below w.heap.size w w6) := bto (bto HB3.out HW5.out.b) hb6
        rcases hxy with ⟨rfl, rfl, hno⟩ | ⟨k, hok, hpk, huq⟩
        · obtain rfl : r = -1 := by
            rcases hrr with ⟨m', _, hm', _⟩ | ⟨h, _⟩
            · exfalso
              unfold nats at hm'
              rw [List.getElem?_map] at hm'
              cases ho : ol[m']? with
              | none => rw [ho] at hm'; cases hm'
              | some o =>
                rw [ho] at hm'
                have h1 : (o : Int) = (pb.length : Int) := Option.some.inj hm'
                exact hno o (List.mem_of_getElem? ho) (by omega)
            · exact h
          clear hix hrr hno hb6
          go_wp2_with fail
          go_ret
          exact ⟨rfl, HB6.out⟩
        · obtain rfl : r = (k : Int) := by
            rcases hrr with ⟨m', rfl, hm', _⟩ | ⟨_, h⟩
            · unfold nats at hm'
              rw [List.getElem?_map] at hm'
              cases ho : ol[m']? with
              | none => rw [ho] at hm'; cases hm'
              | some o =>
                rw [ho] at hm'
                have h1 : (o : Int) = (x : Int) := Option.some.inj hm'
                obtain rfl : o = x := by omega
                rw [huq m' ho]
            · exact absurd (List.mem_map.2 ⟨x, List.mem_of_getElem? hok, rfl⟩) h
          have hkl := (List.getElem?_eq_some_iff.1 hpk).1
          have hlrow := own_under HW5.out.l hb6
          obtain ⟨pq, rfl, _, _⟩ := own_some hlrow (by omega)
          have hcy : w6.cell? ⟨pq, k, none⟩ = some (.int .i64 (y : Int)) := (hlrow.cellAt k (by omega)).trans (by unfold nums nats; rw [List.getElem?_map, List.getElem?_map, hpk]; rfl)
          have hcap := own_cap hlrow
          have hk0 : (0 : Int) ≤ (k : Int) := Int.natCast_nonneg _
          have hk1 : (k : Int) < (pl.length : Int) := by omega
          have hk2 : decide ((k : Int) < 0) = false := decide_eq_false (by omega)
          have hk3 : decide ((0 : Int) ≤ (k : Int)) = true := decide_eq_true (by omega)
          have hyy : ((y : Int) == (y : Int)) = true := by simp
          clear hix hrr hok hpk huq hkl hlrow hb6
          go_wp2_with fail
          go_ret
          exact ⟨rfl, HB6.out⟩
def tab0 : List Int := [1, 10, 100, 1000, 10000, 100000, 1000000, 10000000, 100000000, 1000000000, 10000000000, 100000000000, 1000000000000, 10000000000000, 100000000000000, 1000000000000000, 10000000000000000, 100000000000000000, 1000000000000000000, 10000000000000000000]
theorem gTab0 : Tryd.prog.globalNamed "internal/strconv.uint64pow10" = some 0 := by kernel_rfl
theorem gTabType0 : (Tryd.prog.globals[0]?).map (·.type) = some 204 := by kernel_rfl
theorem cellsA0 : Tryd.prog.cellsOf 204 = tab0.length := by kernel_rfl
theorem cellsE0 : Tryd.prog.cellsOf 154 = 1 := by kernel_rfl
theorem table0 {W : World} (h : laidMetH Tryd.prog Rows.wcspSpacesRow.laid W) : Lib.TabIs Tryd.prog W "internal/strconv.uint64pow10" .u64 tab0 :=
  Lib.tabIs_of_head gTab0 gTabType0 Tryd.underlying204 Tryd.underlying154 cellsE0 cellsA0 (laidMet.tail (laidMet.tail h))
theorem walk (a0 : Option Addr) (len0 cap0 : Nat) (z0 : List Int) (a1 : Option Addr) (len1 cap1 : Nat) (z1 : List Int) (w : World) (w0 : z0.length = len0 ∧ Reads w w.heap.size 1 a0 len0 (z0.map (Value.int .u8)) ∧ (∀ x ∈ z0, (Lit.int .u8 x).wf = true) ∧ len0 ≤ cap0 ∧ len0 ≤ 9223372036854775807) (w1 : z1.length = len1 ∧ Reads w w.heap.size 1 a1 len1 (z1.map (Value.int .u8)) ∧ (∀ x ∈ z1, (Lit.int .u8 x).wf = true) ∧ len1 ≤ cap1 ∧ len1 ≤ 9223372036854775807) (ht : Tab w) :
    Calls Tryd.prog 7 #[.slice a0 len0 cap0, .slice a1 len1 cap1] w fun e w' => e = .returned (.bool true) ∧ Below w.heap.size w w' := by
  obtain ⟨_, hr, hwf, hc, hl⟩ := w0
  obtain ⟨_, hr2, hwf2, hc2, hl2⟩ := w1
  obtain ⟨bs0, hbs⟩ := bytes_of hwf
  obtain ⟨bs1, hbs1⟩ := bytes_of hwf2
  rw [hbs] at hr
  rw [hbs1] at hr2
  exact core a0 a1 len0 len1 cap0 cap1 bs0 bs1 w hl hl2 hc hr hr2 ht

set_option maxRecDepth 100000 in
theorem contract (H : Type) (enc : TypeId × Value → H) (W : World) (base : Nat) (args : Array Value) (ds gs : List (DataW H)) (before : List MemPlace)
    (hval0 : ∀ (j : Nat) t v, Tryd.f7.params[j]? = some t → args[j]? = some v → Value.okWide Tryd.prog W .any base t v)
    (hW : DataW.Whole enc Tryd.prog Tryd.f7.params.toList Rows.wcspSpacesSpec.vars false W args.toList ds gs before) (hL : laidMetH Tryd.prog Rows.wcspSpacesRow.laid W) :
    Calls Tryd.prog 7 args W fun e W' => ∃ v, e = .returned v ∧ Rows.wcspSpacesSpec.post enc Tryd.prog Tryd.f7 false true false false W args v W' := by
  have hval : ∀ (j : Nat) t v, Tryd.f7.params[j]? = some t → args[j]? = some v → Value.okWide Tryd.prog W .any base t v := hval0
  have hW' := hW
  obtain ⟨p, q, hA0, hV, rfl, hfz, hnd⟩ := hW
  have hA : DataW.TrodAll enc Tryd.prog W 0 (fun _ => true) true Tryd.f7.params.toList args.toList ds p := hA0
  rw [Tryd.params7] at hA hval
  obtain ⟨v0, vs0, d0, ds0, p0, q0, hargs, rfl, rfl, h0, r0⟩ := trodAll_cons hA
  obtain ⟨v1, vs1, d1, ds1, p1, q1, rfl, rfl, rfl, h1, r1⟩ := trodAll_cons r0
  obtain ⟨rfl, rfl, rfl⟩ := trodAll_nil r1
  obtain rfl : args = #[v0, v1] := by cases args; simp_all
  obtain ⟨rfl, rfl⟩ := trodVars_none hV
  obtain ⟨a0, len0, cap0, rfl⟩ := okWide_slice Tryd.underlying22 (hval 0 22 v0 rfl rfl)
  have k0 := h0
  have lt0 : ∀ x ∈ p0, x.block < W.heap.size := by obtain ⟨m, hm⟩ := k0; exact DataW.trod_lt m _ _ _ hm
  obtain ⟨z0, w0⟩ := open_ones (Value.int .u8) (fun x => (Lit.int .u8 x).wf = true) Tryd.underlying22 (by kernel_rfl) (dec_int Tryd.underlying5) h0
  obtain ⟨a1, len1, cap1, rfl⟩ := okWide_slice Tryd.underlying22 (hval 1 22 v1 rfl rfl)
  have k1 := h1
  have lt1 : ∀ x ∈ p1, x.block < W.heap.size := by obtain ⟨m, hm⟩ := k1; exact DataW.trod_lt m _ _ _ hm
  obtain ⟨z1, w1⟩ := open_ones (Value.int .u8) (fun x => (Lit.int .u8 x).wf = true) Tryd.underlying22 (by kernel_rfl) (dec_int Tryd.underlying5) h1
  clear hA0 hval0
  have htab : Tab W := (pow_tab (table0 hL))
  refine (walk a0 len0 cap0 z0 a1 len1 cap1 z1 W w0 w1 htab).mono fun e W' ⟨he, bel⟩ => ?_
  subst he
  exact ⟨_, rfl, _, _, _, [], _, [], hW', trodAll_mk1 (shut_bool Tryd.underlying4 _), (trodAll_cons_mk (Below.trod laidOut (by kernel_rfl) (of_decide_eq_true (by kernel_rfl)) k0 bel lt0) (trodAll_cons_mk (Below.trod laidOut (by kernel_rfl) (of_decide_eq_true (by kernel_rfl)) k1 bel lt1) trodAll_mk0)), rfl, bel.frame _, fun h => by cases h⟩
noncomputable def laidWorld (os : Os) : World :=
  { World.holding Tryd.prog os ⟨#[], #[], []⟩ with heap := ((((World.holding Tryd.prog os ⟨#[], #[], []⟩).heap.modify 1 (fun | .cells _ t frozen => .cells #[.int .u8 0, .int .u8 1, .int .u8 28, .int .u8 2, .int .u8 29, .int .u8 14, .int .u8 24, .int .u8 3, .int .u8 30, .int .u8 22, .int .u8 20, .int .u8 15, .int .u8 25, .int .u8 17, .int .u8 4, .int .u8 8, .int .u8 31, .int .u8 27, .int .u8 13, .int .u8 23, .int .u8 21, .int .u8 19, .int .u8 16, .int .u8 7, .int .u8 26, .int .u8 12, .int .u8 18, .int .u8 6, .int .u8 11, .int .u8 5, .int .u8 10, .int .u8 9] t frozen | o => o)).modify 2 (fun | .cells _ t frozen => .cells #[.int .u8 0, .int .u8 1, .int .u8 56, .int .u8 2, .int .u8 57, .int .u8 49, .int .u8 28, .int .u8 3, .int .u8 61, .int .u8 58, .int .u8 42, .int .u8 50, .int .u8 38, .int .u8 29, .int .u8 17, .int .u8 4, .int .u8 62, .int .u8 47, .int .u8 59, .int .u8 36, .int .u8 45, .int .u8 43, .int .u8 51, .int .u8 22, .int .u8 53, .int .u8 39, .int .u8 33, .int .u8 30, .int .u8 24, .int .u8 18, .int .u8 12, .int .u8 5, .int .u8 63, .int .u8 55, .int .u8 48, .int .u8 27, .int .u8 60, .int .u8 41, .int .u8 37, .int .u8 16, .int .u8 46, .int .u8 35, .int .u8 44, .int .u8 21, .int .u8 52, .int .u8 32, .int .u8 23, .int .u8 11, .int .u8 54, .int .u8 26, .int .u8 40, .int .u8 15, .int .u8 34, .int .u8 20, .int .u8 31, .int .u8 10, .int .u8 25, .int .u8 14, .int .u8 19, .int .u8 9, .int .u8 13, .int .u8 8, .int .u8 7, .int .u8 6] t frozen | o => o)).modify 0 (fun | .cells _ t frozen => .cells #[.int .u64 1, .int .u64 10, .int .u64 100, .int .u64 1000, .int .u64 10000, .int .u64 100000, .int .u64 1000000, .int .u64 10000000, .int .u64 100000000, .int .u64 1000000000, .int .u64 10000000000, .int .u64 100000000000, .int .u64 1000000000000, .int .u64 10000000000000, .int .u64 100000000000000, .int .u64 1000000000000000, .int .u64 10000000000000000, .int .u64 100000000000000000, .int .u64 1000000000000000000, .int .u64 10000000000000000000] t frozen | o => o)) }
theorem laid_met (os : Os) : laidMet Tryd.prog Rows.wcspSpacesRow.laid ((laidWorld os).forCall (fun _ _ => 0) ⟨#[], #[.slice none 0 0, .slice none 0 0], []⟩).memory :=
  laidMet_of_run' 8 (by kernel_rfl) (by kernel_rfl)
theorem reads (os : Os) {H : Type} (enc : TypeId × Value → H) : ∃ places, DataW.whole enc Tryd.prog ((laidWorld os).forCall (fun _ _ => 0) ⟨#[], #[.slice none 0 0, .slice none 0 0], []⟩).memory Tryd.f7.params.toList Rows.wcspSpacesSpec.vars false (#[.slice none 0 0, .slice none 0 0] : Array Value).toList 8 = some ([.nil, .nil], [], places) :=
  ⟨[], by kernel_rfl⟩
set_option maxRecDepth 100000 in
theorem lifted (os : Os) (started : os.Started) (H : Type) (enc : TypeId × Value → H) (F : Stop.Interp) :
    ReturnsInHanded {} Tryd.checked os 7 .any ((OpenSpec.ofChange Rows.wcspSpacesSpec).preRow enc Tryd.prog Tryd.f7 Rows.wcspSpacesRow.domain false Rows.wcspSpacesRow.laid) (((OpenSpec.ofChange Rows.wcspSpacesSpec).at F).post enc Tryd.prog Tryd.f7 false true false false) := by
  obtain ⟨places, hx⟩ := reads os enc
  refine returnsInHanded_of_row (C := Tryd.checked) (s := OpenSpec.ofChange Rows.wcspSpacesSpec) own started (by kernel_rfl) Tryd.func7
    (witness_row_at (enc := enc) (C := Tryd.checked) false (laidWorld os) #[.slice none 0 0, .slice none 0 0] rfl (by kernel_rfl) (by kernel_rfl) (by kernel_rfl)
      (OpenSpec.preRow_of_cond 8 hx (by kernel_rfl) (fun k hk => by cases hk) (by kernel_rfl) (laid_met os))) ?_
  intro W base args ds gs before hval hW _ _ _ hL _ _
  exact contract H enc W base args ds gs before hval hW hL
theorem said : Rows.WcspSpacesSaid :=
  OpenClaim.holds_of_cond 7 Tryd.f7 rfl rfl rfl rfl rfl rfl rfl ⟨rfl, rfl, rfl, rfl, rfl⟩ rfl rfl rfl rfl rfl (by kernel_rfl) Tryd.func7 (by kernel_rfl)
    (of_decide_eq_true (by kernel_rfl)) (by unfold Func.isWrapper; first | (rw [if_pos (by decide +kernel)]; kernel_rfl) | (rw [if_neg (by decide +kernel)]; exact ⟨rfl, rfl⟩))
    (fun os started H enc _ F => by rw [OpenClaim.pre_eq_preRow]; exact lifted os started H enc F)
theorem plain (f : FuncId) (fn : Func) (hf : Tryd.pinned.checked.prog.funcNamed "pennyweight/pennyweightlaw07.WcspSpaces" = some f) (hfn : Tryd.pinned.checked.prog.funcs[f]? = some fn) :
    false = Tryd.pinned.checked.prog.looks [] ∧ ∀ (j : Nat) t, fn.params[j]? = some t → Tryd.pinned.checked.prog.wantsStandIn t = false := by
  obtain rfl : f = 7 := Option.some.inj ((show Tryd.prog.funcNamed "pennyweight/pennyweightlaw07.WcspSpaces" = some 7 by kernel_rfl).symm.trans hf) |>.symm
  obtain rfl : fn = Tryd.f7 := (Option.some.inj (Tryd.func7.symm.trans hfn)).symm
  refine ⟨by kernel_rfl, fun j t ht => ?_⟩
  rw [Tryd.params7] at ht
  have hm := Array.mem_of_getElem? ht
  simp only [Array.mem_def, List.mem_cons, List.not_mem_nil, or_false] at hm
  rcases hm with rfl | rfl <;> (show Tryd.prog.wantsStandIn _ = false; kernel_rfl)
theorem proved : Rows.WcspSpacesCardSaid :=
  Claim7.holds_tied_plain_at .later [] _ _ _ _ said (fun _ h => by cases h) (by kernel_rfl) (fun _ h => by cases h) wcspSpaces_row_tie rfl ⟨rfl, rfl⟩ (by kernel_rfl) rfl plain (by kernel_rfl)
end Go.Proofs.YtafdijfbgkcnnaaDoor.wcspSpaces
