/- For every input WcspShared returns true; its arguments read as before. No condition; the tables of Go's library are tied to the program's text. -/
import Derived.Test.YtafdijfbgkcnnaaDoorCards
import Derived.Test.YtafdijfbgkcnnaaDoorTie
import Derived.Deep.DeepHandedRow
import Derived.Lib.LaidTab
import Derived.Stop.LaidErr
import Derived.WalkKit
import Derived.ProofKit
import Derived.OpenShut
import Derived.ShutString
import Derived.ChangeOld
import Derived.Below
import Derived.Test.YtafdijfbgkcnnaaDoorOpen
import Derived.Test.YtafdijfbgkcnnaaDoorPkH
import Derived.Test.YtafdijfbgkcnnaaDoorAllRef
import Derived.Test.YtafdijfbgkcnnaaDoorStrBytes
import Derived.Test.YtafdijfbgkcnnaaDoorAwk
import Derived.Test.YtafdijfbgkcnnaaDoorRefDec
import Derived.Deep.RegionHeld3
namespace Go.Proofs.YtafdijfbgkcnnaaDoor.wcspShared
open Go.Proofs.YtafdijfbgkcnnaaDoor.wcp Go.Proofs.YtafdijfbgkcnnaaDoor.scn Go.Proofs.YtafdijfbgkcnnaaDoor.words
open Go.ChangeShapes Go.WideShapes Go.ChangeAt Go.RowKit
open Go.ChangeMaps (open_string shut_string)
set_option linter.unusedVariables false
theorem own : ownKnob Tryd.prog.godebug = none := by kernel_rfl
theorem laidOut : laidOutB Tryd.prog = true := by kernel_rfl
theorem pow_eq : [1, 10, 100, 1000, 10000, 100000, 1000000, 10000000, 100000000, 1000000000, 10000000000, 100000000000, 1000000000000, 10000000000000, 100000000000000, 1000000000000000, 10000000000000000, 100000000000000000, 1000000000000000000, 10000000000000000000] = Lib.pow10Tab := by decide +kernel
theorem pow_tab {W : World} (h : Lib.TabIs Tryd.prog W "internal/strconv.uint64pow10" .u64 [1, 10, 100, 1000, 10000, 100000, 1000000, 10000000, 100000000, 1000000000, 10000000000, 100000000000, 1000000000000, 10000000000000, 100000000000000, 1000000000000000, 10000000000000000, 100000000000000000, 1000000000000000000, 10000000000000000000]) : Tab W := by
  unfold Tab; rw [← pow_eq]; exact h
theorem it_len {n : Nat} (h : n < 18446744073709551616) : (Lib.itoa (n : Int)).length ≤ 20 := by
  rw [Lib.itoa_nonneg]; exact dd_len h
theorem w16 (n : Nat) (h : n < 65536) : IntKind.u16.wrap (n : Int) = (n : Int) := by rw [IntKind.wrap_u16]; omega
theorem w64 (n : Nat) (h : n < 9223372036854775808) : IntKind.i64.wrap (n : Int) = (n : Int) := by rw [IntKind.wrap_i64]; omega
theorem u16_at {w : World} {B n : Nat} {A : Option Addr} {xs : List Int} (h : Reads w B 1 A n (xs.map (Value.int .u16))) (hw : ∀ y ∈ xs, (Lit.int .u16 y).wf = true) {i : Nat} (hi : i < n) :
    ∃ (ad : Addr) (y r : Nat), A = some ad ∧ xs[i]? = some (y : Int) ∧ w.cell? (ad.add i) = some (.int .u16 (y : Nat)) ∧ (y : Nat) < 65536 ∧ (y : Int).tmod 3 = (r : Int) ∧ r = y % 3 ∧ IntKind.u16.wrap (r : Int) = (r : Int) := by
  obtain ⟨ad, u, rfl, _, hu, hc⟩ := h.at_ hi
  rw [List.getElem?_map] at hu
  cases hq : xs[i]? with
  | none => rw [hq] at hu; simp at hu
  | some a =>
    rw [hq] at hu
    have hb := Go.bounds_u16 (hw a (List.mem_of_getElem? hq))
    obtain ⟨y, rfl⟩ := Int.eq_ofNat_of_zero_le hb.1
    simp only [Option.map_some, Option.some.injEq] at hu
    subst hu
    exact ⟨ad, y, y % 3, rfl, rfl, hc, by omega, by rw [Int.tmod_eq_emod_of_nonneg (by omega)]; omega, rfl, w16 _ (by omega)⟩
set_option maxRecDepth 100000 in
set_option maxHeartbeats 8000000 in
theorem core (A : Option Addr) (n cap : Nat) (zs : List Int) (u : Nat) (fl : Bool) (w : World) (hn : n ≤ 9223372036854775807) (hr : Reads w w.heap.size 1 A n (zs.map (Value.int .u16))) (hwf : ∀ y ∈ zs, (Lit.int .u16 y).wf = true) (hu : u < 256) (ht : Tab w) :
    Calls Tryd.prog 6 #[.slice A n cap, .int .u8 u, .bool fl] w fun e w' => e = .returned (.bool true) ∧ Below w.heap.size w w' := by
  have HT := Lib.hid ht
  have HR := Lib.hid hr
  have HWF := Lib.hid hwf
  have HDEC := Lib.hid (fun (v : Nat) (W : World) (hv : v < 100000) => dec7_any (v : Int) W (by omega) (by omega))
  clear ht hr hwf
  go_enter Tryd.func6, Tryd.ntmps6
  go_wp2_with fail
  refine (wawake_any w HT.out).mono ?_
  rintro e w1 ⟨rfl, hb1⟩
  have HB1 := Lib.hid hb1
  have hlit : Reads (w1.alloc (.cells #[.int .i64 2, .int .i64 3] 3)) (w1.alloc (.cells #[.int .i64 2, .int .i64 3] 3)).heap.size 1 (some ⟨w1.heap.size, 0, none⟩) 2 (nums [2, 3]) := reads_block (t := 3) (heap_alloc_new _ _) rfl
  have hall := shp.ref_all [2, 3] (some ⟨w1.heap.size, 0, none⟩) 2 2 (w1.alloc (.cells #[.int .i64 2, .int .i64 3] 3)) (Nat.le_refl _) hlit ⟨by decide, by decide⟩
  have HB2 := Lib.hid (bnew hb1 (.cells #[.int .i64 2, .int .i64 3] 3))
  clear hb1 hlit
  go_wp2_with fail
  refine hall.mono ?_
  rintro e w2 ⟨A2, c2, rfl, hrows, hb2⟩
  rw [all23] at hrows ⊢
  rw [show (all6.length) = 6 from rfl]
  have HB2 := Lib.hid (bto HB2.out hb2)
  have HRW := Lib.hid hrows
  clear hall hb2 hrows
  go_wp2_with fail
  go_loopw [7, 8, 34] (fun lv nv iv wr => ∃ (i : Nat) (ls : List (List Int × Int)), iv = .int .i64 i ∧ i ≤ 6 ∧ lv = strV (numT (flatL ls)) ∧ nv = .int .i64 ls.length ∧ ls.length ≤ i ∧ (ls.map Prod.fst).Sublist (all6.take i) ∧ (∀ l ∈ ls, 0 ≤ l.2 ∧ l.2 ≤ 65535) ∧ (numT (flatL ls)).length ≤ 66 * i ∧ Below w2.heap.size w2 wr) (fun _ _ iv _ => 6 - (intOf iv).toNat)
  case atStart => exact ⟨0, [], rfl, by omega, rfl, rfl, Nat.le_refl _, List.Sublist.refl _, (fun l hl => by cases hl), Nat.le_refl _, Below.refl _ _⟩
  case round =>
    obtain ⟨i, ls, rfl, hi, rfl, rfl, hli, hsub, hcs, htl, hbw⟩ := hrel
    by_cases hlt : i < 6
    · obtain ⟨a, b, hab, ha3, hb3⟩ := all6_at hlt
      obtain ⟨q, A', c', hA2, hcell, hrd, htc, _, hlc⟩ := (HRW.out.under hbw).at_ hab
      obtain rfl := hA2
      obtain ⟨ad0, x0, rfl, _, hx0, hc0⟩ := hrd.num (k := 0) (by simp)
      obtain ⟨ad1, x1, hA1, _, hx1, hc1⟩ := hrd.num (k := 1) (by simp)
      obtain rfl := Option.some.inj hA1
      obtain rfl : (a : Int) = x0 := by simpa using hx0
      obtain rfl : (b : Int) = x1 := by simpa using hx1
      have hl6 : (all6.length : Nat) ≤ c2 := hlc
      have hsn : all6.take (i + 1) = all6.take i ++ [[(a : Int), (b : Int)]] := by rw [List.take_add_one, hab]; rfl
      have HSN := Lib.hid hsn
      have HSUB := Lib.hid hsub
      have HCS := Lib.hid hcs
      have HBW := Lib.hid hbw
      have hskip : (ls.map Prod.fst).Sublist (all6.take (i + 1)) := by rw [hsn]; exact hsub.trans (List.sublist_append_left _ _)
      have HSKIP := Lib.hid hskip
      rw [show ad0.add 0 = ad0 by simp [Addr.add]] at hc0
      have hc1b : wr.cell? ⟨ad0.block, ad0.off + 1, none⟩ = some (.int .i64 b) := by simpa [Addr.add] using hc1
      have i0 : (0 : Int) ≤ (i : Int) := Int.natCast_nonneg _
      have i1 : (i : Int) < 6 := by omega
      have hl2 : ([(a : Int), (b : Int)] : List Int).length = 2 := rfl
      rw [hl2] at hcell
      clear hrd htc hlc hx0 hx1 hA1 hab hsn hsub hcs hbw hskip hl2
      by_cases hin : i < n
      · obtain ⟨ad, y, r, rfl, hy, hcy, hy6, hyr, hr3, hrw⟩ := u16_at (HR.out.lift (bto HB2.out HBW.out)) HWF.out hin
        have hinI : decide ((i : Int) < (n : Int)) = true := decide_eq_true (by omega)
        have hinI2 : (i : Int) < (n : Int) := by omega
        by_cases hr0 : 0 < r
        · have hrb : decide ((0 : Int) < (r : Int)) = true := decide_eq_true (by omega)
          have hrbN : decide (0 < r) = true := decide_eq_true hr0
          have yw := w64 y (by omega)
          obtain ⟨Da, hDa⟩ : ∃ D, Lib.itoa (a : Int) = D := ⟨_, rfl⟩
          obtain ⟨Db, hDb⟩ : ∃ D, Lib.itoa (b : Int) = D := ⟨_, rfl⟩
          obtain ⟨Dy, hDy⟩ : ∃ D, Lib.itoa (y : Int) = D := ⟨_, rfl⟩
          have la : Da.length ≤ 20 := by rw [← hDa]; exact it_len (by omega)
          have lb : Db.length ≤ 20 := by rw [← hDb]; exact it_len (by omega)
          have ly : Dy.length ≤ 20 := by rw [← hDy]; exact it_len (by omega)
          have da := fun W : World => HDEC.out a W (by omega)
          have db := fun W : World => HDEC.out b W (by omega)
          have dy := fun W : World => HDEC.out y W (by omega)
          rw [hDa] at da
          rw [hDb] at db
          rw [hDy] at dy
          have HTX : Hid (numT (flatL ls) ++ ((((([32] ++ Da) ++ [32]) ++ Db) ++ [32]) ++ Dy) = numT (flatL (ls ++ [([(a : Int), (b : Int)], (y : Int))]))) := by
            rw [Hid, flatL_snoc, numT_append]
            simp only [List.cons_append, List.nil_append, numT_cons, hDa, hDb, hDy, show numT [] = [] from rfl, List.append_nil, List.append_assoc]
          obtain ⟨tx, htx⟩ : ∃ tx, numT (flatL ls) = tx := ⟨_, rfl⟩
          rw [htx] at htl HTX ⊢
          have s1 : ∀ W : World, (Op.stringOp .add ⟨#[32]⟩ ⟨Da.toArray⟩).run Tryd.prog W = .ok (strV ([32] ++ Da)) W := sadd [32] Da (by simp; omega)
          have s2 : ∀ W : World, (Op.stringOp .add ⟨([32] ++ Da).toArray⟩ ⟨#[32]⟩).run Tryd.prog W = .ok (strV ([32] ++ Da ++ [32])) W := sadd ([32] ++ Da) [32] (by simp; omega)
          have s3 : ∀ W : World, (Op.stringOp .add ⟨([32] ++ Da ++ [32]).toArray⟩ ⟨Db.toArray⟩).run Tryd.prog W = .ok (strV ([32] ++ Da ++ [32] ++ Db)) W := sadd ([32] ++ Da ++ [32]) Db (by simp; omega)
          have s4 : ∀ W : World, (Op.stringOp .add ⟨([32] ++ Da ++ [32] ++ Db).toArray⟩ ⟨#[32]⟩).run Tryd.prog W = .ok (strV ([32] ++ Da ++ [32] ++ Db ++ [32])) W := sadd ([32] ++ Da ++ [32] ++ Db) [32] (by simp; omega)
          have s5 : ∀ W : World, (Op.stringOp .add ⟨([32] ++ Da ++ [32] ++ Db ++ [32]).toArray⟩ ⟨Dy.toArray⟩).run Tryd.prog W = .ok (strV ([32] ++ Da ++ [32] ++ Db ++ [32] ++ Dy)) W := sadd ([32] ++ Da ++ [32] ++ Db ++ [32]) Dy (by simp; omega)
          have hl5 : ([32] ++ Da ++ [32] ++ Db ++ [32] ++ Dy).length ≤ 66 := by simp; omega
          obtain ⟨b1, hb1⟩ : ∃ b1, [32] ++ Da = b1 := ⟨_, rfl⟩
          rw [hb1] at s1 s2 s3 s4 s5 hl5 HTX
          obtain ⟨b2, hb2⟩ : ∃ b2, b1 ++ [32] = b2 := ⟨_, rfl⟩
          rw [hb2] at s2 s3 s4 s5 hl5 HTX
          obtain ⟨b3, hb3'⟩ : ∃ b3, b2 ++ Db = b3 := ⟨_, rfl⟩
          rw [hb3'] at s3 s4 s5 hl5 HTX
          obtain ⟨b4, hb4⟩ : ∃ b4, b3 ++ [32] = b4 := ⟨_, rfl⟩
          rw [hb4] at s4 s5 hl5 HTX
          obtain ⟨b5, hb5⟩ : ∃ b5, b4 ++ Dy = b5 := ⟨_, rfl⟩
          rw [hb5] at s5 hl5 HTX
          have s6 : ∀ W : World, (Op.stringOp .add ⟨tx.toArray⟩ ⟨b5.toArray⟩).run Tryd.prog W = .ok (strV (tx ++ b5)) W := sadd tx b5 (by omega)
          have HL6 : Hid ((tx ++ b5).length ≤ 66 * (i + 1)) := by rw [Hid, List.length_append]; omega
          have HLI := Lib.hid hli
          have hlw := w64 (ls.length + 1) (by omega)
          clear hr3 hDa hDb hDy la lb ly hb1 hb2 hb3' hb4 hb5 hl5 htl htx hli
          go_upto_region 8 with fail
          go_quiet (first | (go_at_call 16; exact quiet_left (da _)) | (go_at_call 16; exact quiet_left (db _)) | (go_at_call 16; exact quiet_left (dy _)))
          go_wp2_with fail
          go_roundw
          case measure => simp [intOf]; omega
          case rel =>
            refine ⟨i + 1, ls ++ [([(a : Int), (b : Int)], (y : Int))], by go_num, by omega, by rw [← HTX.out], ?_, by have := HLI.out; simp; omega, ?_, fun l hl => ?_, by rw [← HTX.out]; exact HL6.out, below_drewN HBW.out _⟩
            · have := HLI.out
              refine val_int ?_
              rw [List.length_append]
              unfold wrap64
              simp
              omega
            · rw [HSN.out, List.map_append]; exact List.Sublist.append HSUB.out (List.Sublist.refl _)
            · rcases List.mem_append.1 hl with hl | hl
              · exact HCS.out l hl
              · rw [List.mem_singleton.1 hl]; dsimp only; omega
        · have hrb : decide ((0 : Int) < (r : Int)) = false := decide_eq_false (by omega)
          have hrbN : decide (0 < r) = false := decide_eq_false hr0
          clear hr3
          go_wp2_with fail
          go_roundw
          case measure => simp [intOf]; omega
          case rel => exact ⟨i + 1, ls, by go_num, by omega, rfl, rfl, by omega, HSKIP.out, HCS.out, by omega, HBW.out⟩
      · have hinI : decide ((i : Int) < (n : Int)) = false := decide_eq_false (by omega)
        go_wp2_with fail
        go_roundw
        case measure => simp [intOf]; omega
        case rel => exact ⟨i + 1, ls, by go_num, by omega, rfl, rfl, by omega, HSKIP.out, HCS.out, by omega, HBW.out⟩
    · obtain rfl : i = 6 := by omega
      have hsub6 : (ls.map Prod.fst).Sublist all6 := by
        have := hsub
        rw [List.take_of_length_le (by decide)] at this
        exact this
      obtain ⟨hok, hnd, hl6⟩ := sub_lok hsub6 hcs
      have hrA := shared_A hok hnd hl6 (scOk fl) (o := (u : Int)) ⟨by omega, by omega⟩
      have hrB := shared_B hok hnd hl6 (scOk fl) (o := (u : Int)) ⟨by omega, by omega⟩
      have hTA := textA ls fl (u : Int)
      have hTB := textB ls fl (u : Int)
      have hdn := fun W : World => HDEC.out ls.length W (by omega)
      have hdo := fun W : World => HDEC.out u W (by omega)
      have lDn := it_len (n := ls.length) (by omega)
      have lDo := it_len (n := u) (by omega)
      have lsx : (scS fl).length ≤ 3 := by cases fl <;> decide
      have uw := w64 u (by omega)
      have HBW := Lib.hid hbw
      obtain ⟨Dn, hDn⟩ : ∃ D, Lib.itoa (ls.length : Int) = D := ⟨_, rfl⟩
      obtain ⟨Do, hDo⟩ : ∃ D, Lib.itoa (u : Int) = D := ⟨_, rfl⟩
      obtain ⟨tx, htx⟩ : ∃ t, numT (flatL ls) = t := ⟨_, rfl⟩
      obtain ⟨sx, hsx⟩ : ∃ t, scS fl = t := ⟨_, rfl⟩
      rw [hDn] at hTA hTB hdn lDn
      rw [hDo] at hTA hTB hdo lDo
      rw [hsx] at hTA hTB lsx
      rw [htx] at hTA hTB htl ⊢
      have sta1 : ∀ W : World, (Op.stringOp .add ⟨#[115, 32, 52, 32, 51, 32, 50, 32, 49, 48, 48, 48, 32, 50, 32, 51, 32, 50, 32, 51, 32]⟩ ⟨#[45, 50, 32, 48, 32, 49, 32, 48, 32]⟩).run Tryd.prog W = .ok (strV ([115, 32, 52, 32, 51, 32, 50, 32, 49, 48, 48, 48, 32, 50, 32, 51, 32, 50, 32, 51, 32] ++ [45, 50, 32, 48, 32, 49, 32, 48, 32])) W := sadd ([115, 32, 52, 32, 51, 32, 50, 32, 49, 48, 48, 48, 32, 50, 32, 51, 32, 50, 32, 51, 32]) ([45, 50, 32, 48, 32, 49, 32, 48, 32]) (by first | omega | (simp <;> omega))
      obtain ⟨ta1, hta1⟩ : ∃ x, ([115, 32, 52, 32, 51, 32, 50, 32, 49, 48, 48, 48, 32, 50, 32, 51, 32, 50, 32, 51, 32] : List UInt8) ++ [45, 50, 32, 48, 32, 49, 32, 48, 32] = x := ⟨_, rfl⟩
      have lta1 : ta1.length ≤ 30 := by rw [← hta1]; first | omega | (simp <;> omega)
      rw [hta1] at sta1 hTA
      have sta2 : ∀ W : World, (Op.stringOp .add ⟨ta1.toArray⟩ ⟨(Dn).toArray⟩).run Tryd.prog W = .ok (strV (ta1 ++ Dn)) W := sadd ta1 (Dn) (by first | omega | (simp <;> omega))
      obtain ⟨ta2, hta2⟩ : ∃ x, ta1 ++ Dn = x := ⟨_, rfl⟩
      have lta2 : ta2.length ≤ 50 := by rw [← hta2]; first | omega | (simp <;> omega)
      rw [hta2] at sta2 hTA
      have sta3 : ∀ W : World, (Op.stringOp .add ⟨ta2.toArray⟩ ⟨(tx).toArray⟩).run Tryd.prog W = .ok (strV (ta2 ++ tx)) W := sadd ta2 (tx) (by first | omega | (simp <;> omega))
      obtain ⟨ta3, hta3⟩ : ∃ x, ta2 ++ tx = x := ⟨_, rfl⟩
      have lta3 : ta3.length ≤ 446 := by rw [← hta3]; first | omega | (simp <;> omega)
      rw [hta3] at sta3 hTA
      have sta4 : ∀ W : World, (Op.stringOp .add ⟨ta3.toArray⟩ ⟨#[32, 50, 32]⟩).run Tryd.prog W = .ok (strV (ta3 ++ [32, 50, 32])) W := sadd ta3 ([32, 50, 32]) (by first | omega | (simp <;> omega))
      obtain ⟨ta4, hta4⟩ : ∃ x, ta3 ++ [32, 50, 32] = x := ⟨_, rfl⟩
      have lta4 : ta4.length ≤ 449 := by rw [← hta4]; first | omega | (simp <;> omega)
      rw [hta4] at sta4 hTA
      have sta5 : ∀ W : World, (Op.stringOp .add ⟨ta4.toArray⟩ ⟨(sx).toArray⟩).run Tryd.prog W = .ok (strV (ta4 ++ sx)) W := sadd ta4 (sx) (by first | omega | (simp <;> omega))
      obtain ⟨ta5, hta5⟩ : ∃ x, ta4 ++ sx = x := ⟨_, rfl⟩
      have lta5 : ta5.length ≤ 452 := by rw [← hta5]; first | omega | (simp <;> omega)
      rw [hta5] at sta5 hTA
      have sta6 : ∀ W : World, (Op.stringOp .add ⟨ta5.toArray⟩ ⟨#[32]⟩).run Tryd.prog W = .ok (strV (ta5 ++ [32])) W := sadd ta5 ([32]) (by first | omega | (simp <;> omega))
      obtain ⟨ta6, hta6⟩ : ∃ x, ta5 ++ [32] = x := ⟨_, rfl⟩
      have lta6 : ta6.length ≤ 453 := by rw [← hta6]; first | omega | (simp <;> omega)
      rw [hta6] at sta6 hTA
      have sta7 : ∀ W : World, (Op.stringOp .add ⟨ta6.toArray⟩ ⟨(Do).toArray⟩).run Tryd.prog W = .ok (strV (ta6 ++ Do)) W := sadd ta6 (Do) (by first | omega | (simp <;> omega))
      obtain ⟨ta7, hta7⟩ : ∃ x, ta6 ++ Do = x := ⟨_, rfl⟩
      have lta7 : ta7.length ≤ 473 := by rw [← hta7]; first | omega | (simp <;> omega)
      rw [hta7] at sta7 hTA
      have sta8 : ∀ W : World, (Op.stringOp .add ⟨ta7.toArray⟩ ⟨#[32, 45, 49]⟩).run Tryd.prog W = .ok (strV (ta7 ++ [32, 45, 49])) W := sadd ta7 ([32, 45, 49]) (by first | omega | (simp <;> omega))
      obtain ⟨ta8, hta8⟩ : ∃ x, ta7 ++ [32, 45, 49] = x := ⟨_, rfl⟩
      have lta8 : ta8.length ≤ 476 := by rw [← hta8]; first | omega | (simp <;> omega)
      rw [hta8] at sta8 hTA
      have stb1 : ∀ W : World, (Op.stringOp .add ⟨#[115, 32, 52, 32, 51, 32, 50, 32, 49, 48, 48, 48, 32, 50, 32, 51, 32, 50, 32, 51, 32]⟩ ⟨#[50, 32, 48, 32, 49, 32, 48, 32]⟩).run Tryd.prog W = .ok (strV ([115, 32, 52, 32, 51, 32, 50, 32, 49, 48, 48, 48, 32, 50, 32, 51, 32, 50, 32, 51, 32] ++ [50, 32, 48, 32, 49, 32, 48, 32])) W := sadd ([115, 32, 52, 32, 51, 32, 50, 32, 49, 48, 48, 48, 32, 50, 32, 51, 32, 50, 32, 51, 32]) ([50, 32, 48, 32, 49, 32, 48, 32]) (by first | omega | (simp <;> omega))
      obtain ⟨tb1, htb1⟩ : ∃ x, ([115, 32, 52, 32, 51, 32, 50, 32, 49, 48, 48, 48, 32, 50, 32, 51, 32, 50, 32, 51, 32] : List UInt8) ++ [50, 32, 48, 32, 49, 32, 48, 32] = x := ⟨_, rfl⟩
      have ltb1 : tb1.length ≤ 29 := by rw [← htb1]; first | omega | (simp <;> omega)
      rw [htb1] at stb1 hTB
      have stb2 : ∀ W : World, (Op.stringOp .add ⟨tb1.toArray⟩ ⟨(Dn).toArray⟩).run Tryd.prog W = .ok (strV (tb1 ++ Dn)) W := sadd tb1 (Dn) (by first | omega | (simp <;> omega))
      obtain ⟨tb2, htb2⟩ : ∃ x, tb1 ++ Dn = x := ⟨_, rfl⟩
      have ltb2 : tb2.length ≤ 49 := by rw [← htb2]; first | omega | (simp <;> omega)
      rw [htb2] at stb2 hTB
      have stb3 : ∀ W : World, (Op.stringOp .add ⟨tb2.toArray⟩ ⟨(tx).toArray⟩).run Tryd.prog W = .ok (strV (tb2 ++ tx)) W := sadd tb2 (tx) (by first | omega | (simp <;> omega))
      obtain ⟨tb3, htb3⟩ : ∃ x, tb2 ++ tx = x := ⟨_, rfl⟩
      have ltb3 : tb3.length ≤ 445 := by rw [← htb3]; first | omega | (simp <;> omega)
      rw [htb3] at stb3 hTB
      have stb4 : ∀ W : World, (Op.stringOp .add ⟨tb3.toArray⟩ ⟨#[32, 50, 32]⟩).run Tryd.prog W = .ok (strV (tb3 ++ [32, 50, 32])) W := sadd tb3 ([32, 50, 32]) (by first | omega | (simp <;> omega))
      obtain ⟨tb4, htb4⟩ : ∃ x, tb3 ++ [32, 50, 32] = x := ⟨_, rfl⟩
      have ltb4 : tb4.length ≤ 448 := by rw [← htb4]; first | omega | (simp <;> omega)
      rw [htb4] at stb4 hTB
      have stb5 : ∀ W : World, (Op.stringOp .add ⟨tb4.toArray⟩ ⟨(sx).toArray⟩).run Tryd.prog W = .ok (strV (tb4 ++ sx)) W := sadd tb4 (sx) (by first | omega | (simp <;> omega))
      obtain ⟨tb5, htb5⟩ : ∃ x, tb4 ++ sx = x := ⟨_, rfl⟩
      have ltb5 : tb5.length ≤ 451 := by rw [← htb5]; first | omega | (simp <;> omega)
      rw [htb5] at stb5 hTB
      have stb6 : ∀ W : World, (Op.stringOp .add ⟨tb5.toArray⟩ ⟨#[32]⟩).run Tryd.prog W = .ok (strV (tb5 ++ [32])) W := sadd tb5 ([32]) (by first | omega | (simp <;> omega))
      obtain ⟨tb6, htb6⟩ : ∃ x, tb5 ++ [32] = x := ⟨_, rfl⟩
      have ltb6 : tb6.length ≤ 452 := by rw [← htb6]; first | omega | (simp <;> omega)
      rw [htb6] at stb6 hTB
      have stb7 : ∀ W : World, (Op.stringOp .add ⟨tb6.toArray⟩ ⟨(Do).toArray⟩).run Tryd.prog W = .ok (strV (tb6 ++ Do)) W := sadd tb6 (Do) (by first | omega | (simp <;> omega))
      obtain ⟨tb7, htb7⟩ : ∃ x, tb6 ++ Do = x := ⟨_, rfl⟩
      have ltb7 : tb7.length ≤ 472 := by rw [← htb7]; first | omega | (simp <;> omega)
      rw [htb7] at stb7 hTB
      have stb8 : ∀ W : World, (Op.stringOp .add ⟨tb7.toArray⟩ ⟨#[32]⟩).run Tryd.prog W = .ok (strV (tb7 ++ [32])) W := sadd tb7 ([32]) (by first | omega | (simp <;> omega))
      obtain ⟨tb8, htb8⟩ : ∃ x, tb7 ++ [32] = x := ⟨_, rfl⟩
      have ltb8 : tb8.length ≤ 473 := by rw [← htb8]; first | omega | (simp <;> omega)
      rw [htb8] at stb8 hTB
      have stb9 : ∀ W : World, (Op.stringOp .add ⟨tb8.toArray⟩ ⟨(Dn).toArray⟩).run Tryd.prog W = .ok (strV (tb8 ++ Dn)) W := sadd tb8 (Dn) (by first | omega | (simp <;> omega))
      obtain ⟨tb9, htb9⟩ : ∃ x, tb8 ++ Dn = x := ⟨_, rfl⟩
      have ltb9 : tb9.length ≤ 493 := by rw [← htb9]; first | omega | (simp <;> omega)
      rw [htb9] at stb9 hTB
      have stb10 : ∀ W : World, (Op.stringOp .add ⟨tb9.toArray⟩ ⟨(tx).toArray⟩).run Tryd.prog W = .ok (strV (tb9 ++ tx)) W := sadd tb9 (tx) (by first | omega | (simp <;> omega))
      obtain ⟨tb10, htb10⟩ : ∃ x, tb9 ++ tx = x := ⟨_, rfl⟩
      have ltb10 : tb10.length ≤ 889 := by rw [← htb10]; first | omega | (simp <;> omega)
      rw [htb10] at stb10 hTB
      have HSX := Lib.hid hsx
      rw [← hTA] at hrA
      rw [← hTB] at hrB
      obtain ⟨lA, tdA, hpA⟩ := hrA
      obtain ⟨lB, tdB, hpB⟩ := hrB
      have HPA := Lib.hid (And.intro tdA hpA)
      have HPB := Lib.hid (And.intro tdB hpB)
      have HOK := Lib.hid (And.intro hok (And.intro hnd hl6))
      clear hsub hcs hsub6 hok hnd hl6 hTA hTB hDn hDo htx hsx tdA tdB hpA hpB hli hbw HDEC lDn lDo lsx htl hlt hi hta1 hta2 hta3 hta4 hta5 hta6 hta7 hta8 htb1 htb2 htb3 htb4 htb5 htb6 htb7 htb8 htb9 htb10 lta1 lta2 lta3 lta4 lta5 lta6 lta7 ltb1 ltb2 ltb3 ltb4 ltb5 ltb6 ltb7 ltb8 ltb9
      go_upto_if 78 with (first | (go_at_call 16; (with_reducible refine (hdo _).mono ?_); rintro e w2 ⟨rfl, rfl⟩) | fail)
      go_cut [2, 13] from 29 (fun _ sv wq => sv = strV sx ∧ wq = wr)
      case first =>
        cases fl with
        | true =>
          go_wp2_with fail
          go_meet
          case rel => exact ⟨by rw [← HSX.out]; rfl, rfl⟩
        | false =>
          go_wp2_with fail
          go_meet
          case rel => exact ⟨by rw [← HSX.out]; rfl, rfl⟩
      case rest =>
        obtain ⟨rfl, rfl⟩ := hcut
        go_upto_region 18 with (first | (go_at_call 16; (with_reducible refine (hdn _).mono ?_); rintro e w2 ⟨rfl, rfl⟩) | fail)
        have HBC : Hid (Below w.heap.size w wc) := bto HB2.out HBW.out
        obtain ⟨RA, hRA⟩ : ∃ R : Raw, R = ⟨[0, 1], [2, 3], 0, ls⟩ := ⟨_, rfl⟩
        obtain ⟨RB, hRB⟩ : ∃ R : Raw, R = ⟨scI fl, [2, 3], (u : Int), ls⟩ := ⟨_, rfl⟩
        have hfn : (shF ls (scI fl) (u : Int)).funs = [RA, RB] := by rw [hRA, hRB]; rfl
        have hcvA := conv_str ta8
        have hrA := read_any (some ⟨wc.heap.size, 0, none⟩) ta8.length (grownCap wc ta8.length 0 5) ta8 (-1) lA (bw wc ta8) rfl (bw_reads wc ta8) (by omega) HPA.out.1 (HT.out.below (bto HBC.out (bw_below wc ta8)))
        go_wp2_with fail
        refine hrA.mono ?_
        rintro e w3 ⟨hb3, hm3⟩
        rw [HPA.out.2] at hm3
        obtain ⟨gf, rfl, hfv⟩ := hm3
        obtain ⟨F0, F1, qf, fcf, S0, S1, t0, t1, hfT, hfg, hF0, hF1, hF01⟩ := two_of hfv hfn
        have hfT : TwoV w3 gf F0 F1 RA RB 1000 qf fcf S0 S1 t0 t1 := hfT
        have HB3 : Hid (Below w.heap.size w w3) := bto (bto HBC.out (bw_below wc ta8)) hb3
        have HFT := Lib.hid hfT
        have hcvB := conv_str tb10
        have hrB := read_any (some ⟨w3.heap.size, 0, none⟩) tb10.length (grownCap w3 tb10.length 0 5) tb10 (-1) lB (bw w3 tb10) rfl (bw_reads w3 tb10) (by omega) HPB.out.1 (HT.out.below (bto HB3.out (bw_below w3 tb10)))
        have hsw : w.heap.size ≤ (bw wc ta8).heap.size := by have := HBC.out.size; rw [bw_size]; omega
        clear hrA hb3 hfv hfT hcvA
        go_wp2_with fail
        refine hrB.mono ?_
        rintro e w4 ⟨hb4, hm4⟩
        rw [HPB.out.2] at hm4
        obtain ⟨gg, rfl, hgv⟩ := hm4
        obtain ⟨G0, G1, qg, fcg, R0, R1, u0, u1, hgT, hgg, hG0, hG1, hG01⟩ := two_of hgv hfn
        have hgT : TwoV w4 gg G0 G1 RA RB 1000 qg fcg R0 R1 u0 u1 := hgT
        have hb34 : Below w3.heap.size w3 w4 := bto (bw_below w3 tb10) hb4
        have HB4 : Hid (Below w.heap.size w w4) := bto HB3.out hb34
        have HGT := Lib.hid hgT
        have HFT4 := Lib.hid (HFT.out.below hb34)
        have hs34 : w3.heap.size ≤ (bw w3 tb10).heap.size := by rw [bw_size]; omega
        obtain ⟨c3, c0, c1, c2', c4, cfl⟩ := HFT4.out.cells
        obtain ⟨d3, d0, d1, d2, d4, dfl⟩ := HGT.out.cells
        have hfl1 : (2 : Int) ≤ (fcf : Int) := by omega
        have hgl1 : (2 : Int) ≤ (fcg : Int) := by omega
        clear hrB hb4 hgv hgT hcvB HB3
        go_wp2_with fail
        have h23 : ∀ k ∈ ([2, 3] : List Int), 1 ≤ k ∧ k ≤ 32 := by decide
        have hKA : okF RA 1000 := by
          have h2 := HOK.out.2.2
          rw [hRA]
          exact ⟨by dsimp only; decide, h23, by decide, by decide, by dsimp only; decide, fun l hl => ⟨(HOK.out.1 l hl).1, (HOK.out.1 l hl).2.1⟩, by dsimp only; omega, by dsimp only; decide⟩
        have hKB : okF RB 1000 := by
          have h2 := HOK.out.2.2
          have h3 : (scI fl).length ≤ 6 := by cases fl <;> decide
          rw [hRB]
          exact ⟨by dsimp only; decide, h23, by decide, by decide, by dsimp only; omega, fun l hl => ⟨(HOK.out.1 l hl).1, (HOK.out.1 l hl).2.1⟩, by dsimp only; omega, h3⟩
        have HTA := Lib.hid (hKA.tp RA.lines)
        have HTB := Lib.hid (hKB.tp RB.lines)
        have HNA : Hid (RA.lines.length ≤ 1000000) := by have := HOK.out.2.2; rw [hRA]; exact Nat.le_trans this (by omega)
        have HNB : Hid (RB.lines.length ≤ 1000000) := by have := HOK.out.2.2; rw [hRB]; exact Nat.le_trans this (by omega)
        have HLA : Hid (RA.scope.length ≤ 9223372036854775807) := by rw [hRA]; exact (show (2 : Nat) ≤ 9223372036854775807 by omega)
        have HLB : Hid (RB.scope.length ≤ 9223372036854775807) := by rw [hRB]; show (scI fl).length ≤ 9223372036854775807; cases fl <;> decide
        have HRA := Lib.hid hRA
        have HRB := Lib.hid hRB
        clear hKA hKB h23 hRA hRB hfn c3 c0 c1 c2' c4 cfl d3 d0 d1 d2 d4 dfl hfl1 hgl1
        go_loopw [145] (fun iv wr => ∃ (i : Nat), iv = .int .i64 i ∧ i ≤ 2 ∧ Below w4.heap.size w4 wr) (fun iv _ => 2 - (intOf iv).toNat)
        case atStart => exact ⟨0, rfl, by omega, Below.refl _ _⟩
        case round =>
          obtain ⟨i, rfl, hi, hbw⟩ := hrel
          have hi3 : i = 0 ∨ i = 1 ∨ i = 2 := by omega
          rcases hi3 with rfl | rfl | rfl
          · have hF5 := HFT4.out.below hbw
            have hG5 := HGT.out.below hbw
            obtain ⟨c3, c0, c1, c2', c4, cfl⟩ := hF5.cells
            obtain ⟨d3, d0, d1, d2, d4, dfl⟩ := hG5.cells
            obtain ⟨-, -, ⟨⟨P0, k0, rfl⟩, rf0⟩, ⟨⟨P1, k1, rfl⟩, rf1⟩, tf0, tf1⟩ := hF5
            obtain ⟨-, -, ⟨⟨Q0, m0, rfl⟩, rg0⟩, ⟨⟨Q1, m1, rfl⟩, rg1⟩, tg0, tg1⟩ := hG5
            have hfl1 : (2 : Int) ≤ (fcf : Int) := by omega
            have hgl1 : (2 : Int) ≤ (fcg : Int) := by omega
            have heq := equalI_any P0 Q0 RA.scope.length RA.scope.length k0 m0 RA.scope RA.scope wr.drew HLA.out HLA.out (Reads.of_own rf0) (Reads.of_own rg0)
            rw [show eqB RA.scope RA.scope = true from decide_eq_true rfl] at heq
            have hsame := fun (V : World) (hV : Below wr.heap.size wr V) => same_any (tf0.keep (Tch.of_below hV (fun _ => False)) (fun _ _ h => h)) (tg0.keep (Tch.of_below hV (fun _ => False)) (fun _ _ h => h)) HTA.out HTA.out HNA.out HNA.out rfl
            have HSAME := Lib.hid hsame
            have HBW5 := Lib.hid hbw
            have HCELL : Hid (∀ V : World, Below wr.heap.size wr V → V.cell? ⟨gf, 3, none⟩ = some (.slice (some ⟨qf, 0, none⟩) 2 fcf) ∧ V.cell? ⟨gg, 3, none⟩ = some (.slice (some ⟨qg, 0, none⟩) 2 fcg) ∧ V.cell? ⟨qf, 0, none⟩ = some (.slice P0 RA.scope.length k0) ∧ V.cell? ⟨qf, 1, none⟩ = some (.pointer (some ⟨t0, 0, none⟩)) ∧ V.cell? ⟨qg, 0, none⟩ = some (.slice Q0 RA.scope.length m0) ∧ V.cell? ⟨qg, 1, none⟩ = some (.pointer (some ⟨u0, 0, none⟩))) := fun V hV => by
              obtain ⟨a3, a0, a1, a2, a4, _⟩ := ((HFT4.out.below HBW5.out).below hV).cells
              obtain ⟨b3, b0, b1, b2, b4, _⟩ := ((HGT.out.below HBW5.out).below hV).cells
              exact ⟨a3, b3, a0, a1, b0, b1⟩
            have HSW := HCELL.out wr (Below.refl _ _)
            clear hbw hsame rf0 rf1 rg0 rg1 tf0 tf1 tg0 tg1 c3 c0 c1 c2' c4 d3 d0 d1 d2 d4
            go_upto_region 25 with fail
            go_region_held3 (fun V => V.cell? ⟨gf, 3, none⟩ = some (.slice (some ⟨qf, 0, none⟩) 2 fcf) ∧ V.cell? ⟨gg, 3, none⟩ = some (.slice (some ⟨qg, 0, none⟩) 2 fcg) ∧ V.cell? ⟨qf, 0, none⟩ = some (.slice P0 RA.scope.length k0) ∧ V.cell? ⟨qf, 1, none⟩ = some (.pointer (some ⟨t0, 0, none⟩)) ∧ V.cell? ⟨qg, 0, none⟩ = some (.slice Q0 RA.scope.length m0) ∧ V.cell? ⟨qg, 1, none⟩ = some (.pointer (some ⟨u0, 0, none⟩))) (first | exact HSW | exact HS5 | exact HS6) (first
              | (go_at_call 18; refine heq.mono ?_; rintro e w5 ⟨rfl, hb5⟩; have hk5 : Below wr.heap.size wr w5 := ⟨hb5.os, hb5.tape, hb5.output, hb5.size, hb5.block⟩; have HS5 := HCELL.out w5 hk5; have hsm := HSAME.out w5 hk5; have HK5 := Lib.hid hk5; clear hb5 hk5 heq)
              | (go_at_call 19; refine hsm.mono ?_; rintro e w6 ⟨b, rfl, hbi, hb6⟩; obtain rfl : b = true := hbi.2 ⟨rfl, rfl, fun _ _ => rfl, .inl rfl⟩; have hk6 : Below wr.heap.size wr w6 := bto HK5.out hb6; have HS6 := HCELL.out w6 hk6; have HK6 := Lib.hid hk6; clear hbi hb6 hk6 hsm))
            all_goals
              go_wp2_with fail
              go_roundw
              case measure => simp [intOf]
              case rel => exact ⟨1, rfl, by omega, bto HBW5.out HK6.out⟩
          · have hF5 := HFT4.out.below hbw
            have hG5 := HGT.out.below hbw
            obtain ⟨c3, c0, c1, c2', c4, cfl⟩ := hF5.cells
            obtain ⟨d3, d0, d1, d2, d4, dfl⟩ := hG5.cells
            obtain ⟨-, -, ⟨⟨P0, k0, rfl⟩, rf0⟩, ⟨⟨P1, k1, rfl⟩, rf1⟩, tf0, tf1⟩ := hF5
            obtain ⟨-, -, ⟨⟨Q0, m0, rfl⟩, rg0⟩, ⟨⟨Q1, m1, rfl⟩, rg1⟩, tg0, tg1⟩ := hG5
            have hfl1 : (2 : Int) ≤ (fcf : Int) := by omega
            have hgl1 : (2 : Int) ≤ (fcg : Int) := by omega
            have heq := equalI_any P1 Q1 RB.scope.length RB.scope.length k1 m1 RB.scope RB.scope wr.drew HLB.out HLB.out (Reads.of_own rf1) (Reads.of_own rg1)
            rw [show eqB RB.scope RB.scope = true from decide_eq_true rfl] at heq
            have hsame := fun (V : World) (hV : Below wr.heap.size wr V) => same_any (tf1.keep (Tch.of_below hV (fun _ => False)) (fun _ _ h => h)) (tg1.keep (Tch.of_below hV (fun _ => False)) (fun _ _ h => h)) HTB.out HTB.out HNB.out HNB.out rfl
            have HSAME := Lib.hid hsame
            have HBW5 := Lib.hid hbw
            have HCELL : Hid (∀ V : World, Below wr.heap.size wr V → V.cell? ⟨gf, 3, none⟩ = some (.slice (some ⟨qf, 0, none⟩) 2 fcf) ∧ V.cell? ⟨gg, 3, none⟩ = some (.slice (some ⟨qg, 0, none⟩) 2 fcg) ∧ V.cell? ⟨qf, 2, none⟩ = some (.slice P1 RB.scope.length k1) ∧ V.cell? ⟨qf, 3, none⟩ = some (.pointer (some ⟨t1, 0, none⟩)) ∧ V.cell? ⟨qg, 2, none⟩ = some (.slice Q1 RB.scope.length m1) ∧ V.cell? ⟨qg, 3, none⟩ = some (.pointer (some ⟨u1, 0, none⟩))) := fun V hV => by
              obtain ⟨a3, a0, a1, a2, a4, _⟩ := ((HFT4.out.below HBW5.out).below hV).cells
              obtain ⟨b3, b0, b1, b2, b4, _⟩ := ((HGT.out.below HBW5.out).below hV).cells
              exact ⟨a3, b3, a2, a4, b2, b4⟩
            have HSW := HCELL.out wr (Below.refl _ _)
            clear hbw hsame rf0 rf1 rg0 rg1 tf0 tf1 tg0 tg1 c3 c0 c1 c2' c4 d3 d0 d1 d2 d4
            go_upto_region 25 with fail
            go_region_held3 (fun V => V.cell? ⟨gf, 3, none⟩ = some (.slice (some ⟨qf, 0, none⟩) 2 fcf) ∧ V.cell? ⟨gg, 3, none⟩ = some (.slice (some ⟨qg, 0, none⟩) 2 fcg) ∧ V.cell? ⟨qf, 2, none⟩ = some (.slice P1 RB.scope.length k1) ∧ V.cell? ⟨qf, 3, none⟩ = some (.pointer (some ⟨t1, 0, none⟩)) ∧ V.cell? ⟨qg, 2, none⟩ = some (.slice Q1 RB.scope.length m1) ∧ V.cell? ⟨qg, 3, none⟩ = some (.pointer (some ⟨u1, 0, none⟩))) (first | exact HSW | exact HS5 | exact HS6) (first
              | (go_at_call 18; refine heq.mono ?_; rintro e w5 ⟨rfl, hb5⟩; have hk5 : Below wr.heap.size wr w5 := ⟨hb5.os, hb5.tape, hb5.output, hb5.size, hb5.block⟩; have HS5 := HCELL.out w5 hk5; have hsm := HSAME.out w5 hk5; have HK5 := Lib.hid hk5; clear hb5 hk5 heq)
              | (go_at_call 19; refine hsm.mono ?_; rintro e w6 ⟨b, rfl, hbi, hb6⟩; obtain rfl : b = true := hbi.2 ⟨rfl, rfl, fun _ _ => rfl, .inl rfl⟩; have hk6 : Below wr.heap.size wr w6 := bto HK5.out hb6; have HS6 := HCELL.out w6 hk6; have HK6 := Lib.hid hk6; clear hbi hb6 hk6 hsm))
            all_goals
              go_wp2_with fail
              go_roundw
              case measure => simp [intOf]
              case rel => exact ⟨2, rfl, by omega, bto HBW5.out HK6.out⟩
          · have hF5 := HFT4.out.below hbw
            have hG5 := HGT.out.below hbw
            have hbp := bone wr (.cells #[.int .i64 1, .int .i64 2] 3)
            have hFp := hF5.below hbp
            have hGp := hG5.below hbp
            have hlit : Reads (wr.alloc (.cells #[.int .i64 1, .int .i64 2] 3)) (wr.alloc (.cells #[.int .i64 1, .int .i64 2] 3)).heap.size 1 (some ⟨wr.heap.size, 0, none⟩) 2 (nums [1, 2]) := reads_block (t := 3) (heap_alloc_new _ _) rfl
            have hins : InS (tpOf RA 1000 RA.lines).sizes [1, 2] := by
              rw [(tpOf_same RA 1000 RA.lines).1, HRA.out]
              exact all6_ins [1, 2] (by decide)
            have hput := tput_any hFp.2.2.2.2.1 HTA.out (some ⟨wr.heap.size, 0, none⟩) 2 2 [1, 2] 999 hlit hins (by rw [(tpOf_same RA 1000 RA.lines).2.1]; decide) HNA.out
            obtain ⟨c3, c0, c1, c2', c4, cfl⟩ := hF5.cells
            obtain ⟨f3, f0, f1, f2, f4, ffl⟩ := hFp.cells
            have hfl1 : (2 : Int) ≤ (fcf : Int) := by omega
            have hfl0 : (0 : Int) < (fcf : Int) := by omega
            have HFP := Lib.hid hFp
            have HGP := Lib.hid hGp
            have HBP : Hid (Below w.heap.size w (wr.alloc (.cells #[.int .i64 1, .int .i64 2] 3))) := bto HB4.out (bto hbw hbp)
            have HSWP : Hid (w3.heap.size ≤ (wr.alloc (.cells #[.int .i64 1, .int .i64 2] 3)).heap.size) := by
              have h1 := hbw.size
              have h2 := hb34.size
              have h3 := hbp.size
              show _ ≤ _
              omega
            clear hF5 hG5 hFp hGp hbp hlit hins hbw f3 f0 f1 f2 f4 ffl
            go_wp2_with fail
            refine hput.mono ?_
            rintro e w5 ⟨rfl, htp, htch⟩
            obtain ⟨-, e3, e4, -, ht1⟩ := HFP.out.put (n := 0) (T := ⟨[], 0, 0, fun _ => none⟩) htch hF01
            have hg5 := HGP.out.tch htch (fun k hk => hk.2) (fun k hk hS => by have := (hG0 k hk).1; have := (hF0 k hS.1).2; omega) (fun k hk hS => by have := (hG1 k hk).1; have := (hF0 k hS.1).2; omega)
            obtain ⟨d3, d0, d1, d2, d4, dfl⟩ := hg5.cells
            have HB5 : Hid (Below w.heap.size w w5) := HBP.out.trans (htch.below HBP.out.size fun q hq hS => by have := (hF0 q hS.1).1; omega)
            have hgl1 : (2 : Int) ≤ (fcg : Int) := by omega
            have hgl2 : (1 : Int) < (fcg : Int) := by omega
            have hfl2 : (1 : Int) < (fcf : Int) := by omega
            have hsm := same_any (w := w5.drew) (show TpV w5.drew t1 F1 RB.lines.length (tpOf RB 1000 RB.lines) from ht1) (show TpV w5.drew u1 G1 RB.lines.length (tpOf RB 1000 RB.lines) from hg5.2.2.2.2.2) HTB.out HTB.out HNB.out HNB.out rfl
            have HB5s := HB5.out.size
            clear hput htp htch hg5 ht1 c3 c0 c1 c2' c4 d0 d1 d2 HFP HGP
            go_upto_region 29 with fail
            go_region_held3 (fun V => V.cell? ⟨gf, 3, none⟩ = some (.slice (some ⟨qf, 0, none⟩) 2 fcf) ∧ V.cell? ⟨gg, 3, none⟩ = some (.slice (some ⟨qg, 0, none⟩) 2 fcg) ∧ V.cell? ⟨qf, 3, none⟩ = some (.pointer (some ⟨t1, 0, none⟩)) ∧ V.cell? ⟨qg, 3, none⟩ = some (.pointer (some ⟨u1, 0, none⟩))) (first | exact ⟨e3, d3, e4, d4⟩ | exact HS6) (first
              | (go_at_call 19; refine hsm.mono ?_; rintro e w6 ⟨b, rfl, hbi, hb6⟩; obtain rfl : b = true := hbi.2 ⟨rfl, rfl, fun _ _ => rfl, .inl rfl⟩; have hk6 : Below w5.heap.size w5 w6 := ⟨hb6.os, hb6.tape, hb6.output, hb6.size, hb6.block⟩; have HS6 : w6.cell? ⟨gf, 3, none⟩ = some (.slice (some ⟨qf, 0, none⟩) 2 fcf) ∧ w6.cell? ⟨gg, 3, none⟩ = some (.slice (some ⟨qg, 0, none⟩) 2 fcg) ∧ w6.cell? ⟨qf, 3, none⟩ = some (.pointer (some ⟨t1, 0, none⟩)) ∧ w6.cell? ⟨qg, 3, none⟩ = some (.pointer (some ⟨u1, 0, none⟩)) := ⟨((bcell hk6).1 gf 3 (World.block_lt_of_cell? _ _ e3)).trans e3, ((bcell hk6).1 gg 3 (World.block_lt_of_cell? _ _ d3)).trans d3, ((bcell hk6).1 qf 3 (World.block_lt_of_cell? _ _ e4)).trans e4, ((bcell hk6).1 qg 3 (World.block_lt_of_cell? _ _ d4)).trans d4⟩; have HB6 : Hid (Below w.heap.size w w6) := bto HB5.out hk6; clear hbi hb6 hk6 hsm))
            all_goals
              obtain ⟨lC, xC, tdC, hpC⟩ := shared_bad (sc := [1, 0]) (n := -1) (.inl ⟨rfl, rfl⟩)
              obtain ⟨lD, xD, tdD, hpD⟩ := shared_bad (sc := [0, 1]) (n := -2) (.inr ⟨rfl, rfl⟩)
              rw [← textC] at tdC hpC
              rw [← textD] at tdD hpD
              have sC : ∀ W : World, (Op.stringOp .add ⟨#[115, 32, 52, 32, 51, 32, 50, 32, 49, 48, 48, 48, 32, 50, 32, 51, 32, 50, 32, 51, 32]⟩ ⟨#[45, 50, 32, 48, 32, 49, 32, 48, 32, 48, 32, 50, 32, 49, 32, 48, 32, 48, 32, 45, 49]⟩).run Tryd.prog W = .ok (strV ([115, 32, 52, 32, 51, 32, 50, 32, 49, 48, 48, 48, 32, 50, 32, 51, 32, 50, 32, 51, 32] ++ [45, 50, 32, 48, 32, 49, 32, 48, 32, 48, 32, 50, 32, 49, 32, 48, 32, 48, 32, 45, 49])) W := sadd [115, 32, 52, 32, 51, 32, 50, 32, 49, 48, 48, 48, 32, 50, 32, 51, 32, 50, 32, 51, 32] [45, 50, 32, 48, 32, 49, 32, 48, 32, 48, 32, 50, 32, 49, 32, 48, 32, 48, 32, 45, 49] (by simp)
              have sD : ∀ W : World, (Op.stringOp .add ⟨#[115, 32, 52, 32, 51, 32, 50, 32, 49, 48, 48, 48, 32, 50, 32, 51, 32, 50, 32, 51, 32]⟩ ⟨#[45, 50, 32, 48, 32, 49, 32, 48, 32, 48, 32, 50, 32, 48, 32, 49, 32, 48, 32, 45, 50]⟩).run Tryd.prog W = .ok (strV ([115, 32, 52, 32, 51, 32, 50, 32, 49, 48, 48, 48, 32, 50, 32, 51, 32, 50, 32, 51, 32] ++ [45, 50, 32, 48, 32, 49, 32, 48, 32, 48, 32, 50, 32, 48, 32, 49, 32, 48, 32, 45, 50])) W := sadd [115, 32, 52, 32, 51, 32, 50, 32, 49, 48, 48, 48, 32, 50, 32, 51, 32, 50, 32, 51, 32] [45, 50, 32, 48, 32, 49, 32, 48, 32, 48, 32, 50, 32, 48, 32, 49, 32, 48, 32, 45, 50] (by simp)
              have lnC : ([115, 32, 52, 32, 51, 32, 50, 32, 49, 48, 48, 48, 32, 50, 32, 51, 32, 50, 32, 51, 32] ++ [45, 50, 32, 48, 32, 49, 32, 48, 32, 48, 32, 50, 32, 49, 32, 48, 32, 48, 32, 45, 49] : List UInt8).length ≤ 100 := by simp
              have lnD : ([115, 32, 52, 32, 51, 32, 50, 32, 49, 48, 48, 48, 32, 50, 32, 51, 32, 50, 32, 51, 32] ++ [45, 50, 32, 48, 32, 49, 32, 48, 32, 48, 32, 50, 32, 48, 32, 49, 32, 48, 32, 45, 50] : List UInt8).length ≤ 100 := by simp
              obtain ⟨tc, htc⟩ : ∃ x, ([115, 32, 52, 32, 51, 32, 50, 32, 49, 48, 48, 48, 32, 50, 32, 51, 32, 50, 32, 51, 32] : List UInt8) ++ [45, 50, 32, 48, 32, 49, 32, 48, 32, 48, 32, 50, 32, 49, 32, 48, 32, 48, 32, 45, 49] = x := ⟨_, rfl⟩
              obtain ⟨td, htd⟩ : ∃ x, ([115, 32, 52, 32, 51, 32, 50, 32, 49, 48, 48, 48, 32, 50, 32, 51, 32, 50, 32, 51, 32] : List UInt8) ++ [45, 50, 32, 48, 32, 49, 32, 48, 32, 48, 32, 50, 32, 48, 32, 49, 32, 48, 32, 45, 50] = x := ⟨_, rfl⟩
              rw [htc] at tdC hpC sC lnC
              rw [htd] at tdD hpD sD lnD
              have HPC := Lib.hid (And.intro tdC hpC)
              have HPD := Lib.hid (And.intro tdD hpD)
              have hcvC := conv_str tc
              have hcvD := conv_str td
              have hrC := read_any (some ⟨w6.heap.size, 0, none⟩) tc.length (grownCap w6 tc.length 0 5) tc (-1) lC (bw w6 tc) rfl (bw_reads w6 tc) (by omega) HPC.out.1 (HT.out.below (bto HB6.out (bw_below w6 tc)))
              clear tdC hpC tdD hpD htc htd
              go_wp2_with fail
              refine hrC.mono ?_
              rintro e w7 ⟨hb7, hm7⟩
              rw [HPC.out.2] at hm7
              obtain rfl := hm7
              have HB7 : Hid (Below w.heap.size w w7) := bto (bto HB6.out (bw_below w6 tc)) hb7
              have hrD := read_any (some ⟨w7.heap.size, 0, none⟩) td.length (grownCap w7 td.length 0 5) td (-1) lD (bw w7 td) rfl (bw_reads w7 td) (by omega) HPD.out.1 (HT.out.below (bto HB7.out (bw_below w7 td)))
              clear hrC hb7
              go_wp2_with fail
              refine hrD.mono ?_
              rintro e w8 ⟨hb8, hm8⟩
              rw [HPD.out.2] at hm8
              obtain rfl := hm8
              have HB8 : Hid (Below w.heap.size w w8) := bto (bto HB7.out (bw_below w7 td)) hb8
              clear hrD hb8
              go_wp2_with fail
              go_ret
              exact ⟨rfl, HB8.out⟩
def tab0 : List Int := [1, 10, 100, 1000, 10000, 100000, 1000000, 10000000, 100000000, 1000000000, 10000000000, 100000000000, 1000000000000, 10000000000000, 100000000000000, 1000000000000000, 10000000000000000, 100000000000000000, 1000000000000000000, 10000000000000000000]
theorem gTab0 : Tryd.prog.globalNamed "internal/strconv.uint64pow10" = some 0 := by kernel_rfl
theorem gTabType0 : (Tryd.prog.globals[0]?).map (·.type) = some 204 := by kernel_rfl
theorem cellsA0 : Tryd.prog.cellsOf 204 = tab0.length := by kernel_rfl
theorem cellsE0 : Tryd.prog.cellsOf 154 = 1 := by kernel_rfl
theorem table0 {W : World} (h : laidMetH Tryd.prog Rows.wcspSharedRow.laid W) : Lib.TabIs Tryd.prog W "internal/strconv.uint64pow10" .u64 tab0 :=
  Lib.tabIs_of_head gTab0 gTabType0 Tryd.underlying204 Tryd.underlying154 cellsE0 cellsA0 (laidMet.tail (laidMet.tail h))
theorem walk (a0 : Option Addr) (len0 cap0 : Nat) (z0 : List Int) (a1 : Int) (a2 : Bool) (w : World) (w0 : z0.length = len0 ∧ Reads w w.heap.size 1 a0 len0 (z0.map (Value.int .u16)) ∧ (∀ x ∈ z0, (Lit.int .u16 x).wf = true) ∧ len0 ≤ cap0 ∧ len0 ≤ 9223372036854775807) (w1 : (Lit.int .u8 a1).wf = true) (ht : Tab w) :
    Calls Tryd.prog 6 #[.slice a0 len0 cap0, .int .u8 a1, .bool a2] w fun e w' => e = .returned (.bool true) ∧ Below w.heap.size w w' := by
  obtain ⟨_, hr, hwf, hc, hl⟩ := w0
  have h1 := bounds_u8 w1
  obtain ⟨u, rfl⟩ := Int.eq_ofNat_of_zero_le h1.1
  exact core a0 len0 cap0 z0 u a2 w hl hr hwf (by omega) ht

set_option maxRecDepth 100000 in
theorem contract (H : Type) (enc : TypeId × Value → H) (W : World) (base : Nat) (args : Array Value) (ds gs : List (DataW H)) (before : List MemPlace)
    (hval0 : ∀ (j : Nat) t v, Tryd.f6.params[j]? = some t → args[j]? = some v → Value.okWide Tryd.prog W .any base t v)
    (hW : DataW.Whole enc Tryd.prog Tryd.f6.params.toList Rows.wcspSharedSpec.vars false W args.toList ds gs before) (hL : laidMetH Tryd.prog Rows.wcspSharedRow.laid W) :
    Calls Tryd.prog 6 args W fun e W' => ∃ v, e = .returned v ∧ Rows.wcspSharedSpec.post enc Tryd.prog Tryd.f6 false true false false W args v W' := by
  have hval : ∀ (j : Nat) t v, Tryd.f6.params[j]? = some t → args[j]? = some v → Value.okWide Tryd.prog W .any base t v := hval0
  have hW' := hW
  obtain ⟨p, q, hA0, hV, rfl, hfz, hnd⟩ := hW
  have hA : DataW.TrodAll enc Tryd.prog W 0 (fun _ => true) true Tryd.f6.params.toList args.toList ds p := hA0
  rw [Tryd.params6] at hA hval
  obtain ⟨v0, vs0, d0, ds0, p0, q0, hargs, rfl, rfl, h0, r0⟩ := trodAll_cons hA
  obtain ⟨v1, vs1, d1, ds1, p1, q1, rfl, rfl, rfl, h1, r1⟩ := trodAll_cons r0
  obtain ⟨v2, vs2, d2, ds2, p2, q2, rfl, rfl, rfl, h2, r2⟩ := trodAll_cons r1
  obtain ⟨rfl, rfl, rfl⟩ := trodAll_nil r2
  obtain rfl : args = #[v0, v1, v2] := by cases args; simp_all
  obtain ⟨rfl, rfl⟩ := trodVars_none hV
  obtain ⟨a0, len0, cap0, rfl⟩ := okWide_slice Tryd.underlying46 (hval 0 46 v0 rfl rfl)
  have k0 := h0
  have lt0 : ∀ x ∈ p0, x.block < W.heap.size := by obtain ⟨m, hm⟩ := k0; exact DataW.trod_lt m _ _ _ hm
  obtain ⟨z0, w0⟩ := open_ones (Value.int .u16) (fun x => (Lit.int .u16 x).wf = true) Tryd.underlying46 (by kernel_rfl) (dec_int Tryd.underlying42) h0
  obtain ⟨a1, rfl, rfl, rfl, w1⟩ := open_int Tryd.underlying5 (hval 1 5 v1 rfl rfl) h1
  obtain ⟨a2, rfl, rfl, rfl⟩ := open_bool Tryd.underlying4 (hval 2 4 v2 rfl rfl) h2
  clear hA0 hval0
  have htab : Tab W := (pow_tab (table0 hL))
  refine (walk a0 len0 cap0 z0 a1 a2 W w0 w1 htab).mono fun e W' ⟨he, bel⟩ => ?_
  subst he
  exact ⟨_, rfl, _, _, _, [], _, [], hW', trodAll_mk1 (shut_bool Tryd.underlying4 _), (trodAll_cons_mk (Below.trod laidOut (by kernel_rfl) (of_decide_eq_true (by kernel_rfl)) k0 bel lt0) (trodAll_cons_mk (shut_int Tryd.underlying5 w1) (trodAll_cons_mk (shut_bool Tryd.underlying4 _) trodAll_mk0))), rfl, bel.frame _, fun h => by cases h⟩
noncomputable def laidWorld (os : Os) : World :=
  { World.holding Tryd.prog os ⟨#[], #[], []⟩ with heap := ((((World.holding Tryd.prog os ⟨#[], #[], []⟩).heap.modify 1 (fun | .cells _ t frozen => .cells #[.int .u8 0, .int .u8 1, .int .u8 28, .int .u8 2, .int .u8 29, .int .u8 14, .int .u8 24, .int .u8 3, .int .u8 30, .int .u8 22, .int .u8 20, .int .u8 15, .int .u8 25, .int .u8 17, .int .u8 4, .int .u8 8, .int .u8 31, .int .u8 27, .int .u8 13, .int .u8 23, .int .u8 21, .int .u8 19, .int .u8 16, .int .u8 7, .int .u8 26, .int .u8 12, .int .u8 18, .int .u8 6, .int .u8 11, .int .u8 5, .int .u8 10, .int .u8 9] t frozen | o => o)).modify 2 (fun | .cells _ t frozen => .cells #[.int .u8 0, .int .u8 1, .int .u8 56, .int .u8 2, .int .u8 57, .int .u8 49, .int .u8 28, .int .u8 3, .int .u8 61, .int .u8 58, .int .u8 42, .int .u8 50, .int .u8 38, .int .u8 29, .int .u8 17, .int .u8 4, .int .u8 62, .int .u8 47, .int .u8 59, .int .u8 36, .int .u8 45, .int .u8 43, .int .u8 51, .int .u8 22, .int .u8 53, .int .u8 39, .int .u8 33, .int .u8 30, .int .u8 24, .int .u8 18, .int .u8 12, .int .u8 5, .int .u8 63, .int .u8 55, .int .u8 48, .int .u8 27, .int .u8 60, .int .u8 41, .int .u8 37, .int .u8 16, .int .u8 46, .int .u8 35, .int .u8 44, .int .u8 21, .int .u8 52, .int .u8 32, .int .u8 23, .int .u8 11, .int .u8 54, .int .u8 26, .int .u8 40, .int .u8 15, .int .u8 34, .int .u8 20, .int .u8 31, .int .u8 10, .int .u8 25, .int .u8 14, .int .u8 19, .int .u8 9, .int .u8 13, .int .u8 8, .int .u8 7, .int .u8 6] t frozen | o => o)).modify 0 (fun | .cells _ t frozen => .cells #[.int .u64 1, .int .u64 10, .int .u64 100, .int .u64 1000, .int .u64 10000, .int .u64 100000, .int .u64 1000000, .int .u64 10000000, .int .u64 100000000, .int .u64 1000000000, .int .u64 10000000000, .int .u64 100000000000, .int .u64 1000000000000, .int .u64 10000000000000, .int .u64 100000000000000, .int .u64 1000000000000000, .int .u64 10000000000000000, .int .u64 100000000000000000, .int .u64 1000000000000000000, .int .u64 10000000000000000000] t frozen | o => o)) }
theorem laid_met (os : Os) : laidMet Tryd.prog Rows.wcspSharedRow.laid ((laidWorld os).forCall (fun _ _ => 0) ⟨#[], #[.slice none 0 0, .int .u8 0, .bool false], []⟩).memory :=
  laidMet_of_run' 8 (by kernel_rfl) (by kernel_rfl)
theorem reads (os : Os) {H : Type} (enc : TypeId × Value → H) : ∃ places, DataW.whole enc Tryd.prog ((laidWorld os).forCall (fun _ _ => 0) ⟨#[], #[.slice none 0 0, .int .u8 0, .bool false], []⟩).memory Tryd.f6.params.toList Rows.wcspSharedSpec.vars false (#[.slice none 0 0, .int .u8 0, .bool false] : Array Value).toList 8 = some ([.nil, .lit (.int .u8 0), .lit (.bool false)], [], places) :=
  ⟨[], by kernel_rfl⟩
set_option maxRecDepth 100000 in
theorem lifted (os : Os) (started : os.Started) (H : Type) (enc : TypeId × Value → H) (F : Stop.Interp) :
    ReturnsInHanded {} Tryd.checked os 6 .any ((OpenSpec.ofChange Rows.wcspSharedSpec).preRow enc Tryd.prog Tryd.f6 Rows.wcspSharedRow.domain false Rows.wcspSharedRow.laid) (((OpenSpec.ofChange Rows.wcspSharedSpec).at F).post enc Tryd.prog Tryd.f6 false true false false) := by
  obtain ⟨places, hx⟩ := reads os enc
  refine returnsInHanded_of_row (C := Tryd.checked) (s := OpenSpec.ofChange Rows.wcspSharedSpec) own started (by kernel_rfl) Tryd.func6
    (witness_row_at (enc := enc) (C := Tryd.checked) false (laidWorld os) #[.slice none 0 0, .int .u8 0, .bool false] rfl (by kernel_rfl) (by kernel_rfl) (by kernel_rfl)
      (OpenSpec.preRow_of_cond 8 hx (by kernel_rfl) (fun k hk => by cases hk) (by kernel_rfl) (laid_met os))) ?_
  intro W base args ds gs before hval hW _ _ _ hL _ _
  exact contract H enc W base args ds gs before hval hW hL
theorem said : Rows.WcspSharedSaid :=
  OpenClaim.holds_of_cond 6 Tryd.f6 rfl rfl rfl rfl rfl rfl rfl ⟨rfl, rfl, rfl, rfl, rfl⟩ rfl rfl rfl rfl rfl (by kernel_rfl) Tryd.func6 (by kernel_rfl)
    (of_decide_eq_true (by kernel_rfl)) (by unfold Func.isWrapper; first | (rw [if_pos (by decide +kernel)]; kernel_rfl) | (rw [if_neg (by decide +kernel)]; exact ⟨rfl, rfl⟩))
    (fun os started H enc _ F => by rw [OpenClaim.pre_eq_preRow]; exact lifted os started H enc F)
theorem plain (f : FuncId) (fn : Func) (hf : Tryd.pinned.checked.prog.funcNamed "pennyweight/pennyweightlaw07.WcspShared" = some f) (hfn : Tryd.pinned.checked.prog.funcs[f]? = some fn) :
    false = Tryd.pinned.checked.prog.looks [] ∧ ∀ (j : Nat) t, fn.params[j]? = some t → Tryd.pinned.checked.prog.wantsStandIn t = false := by
  obtain rfl : f = 6 := Option.some.inj ((show Tryd.prog.funcNamed "pennyweight/pennyweightlaw07.WcspShared" = some 6 by kernel_rfl).symm.trans hf) |>.symm
  obtain rfl : fn = Tryd.f6 := (Option.some.inj (Tryd.func6.symm.trans hfn)).symm
  refine ⟨by kernel_rfl, fun j t ht => ?_⟩
  rw [Tryd.params6] at ht
  have hm := Array.mem_of_getElem? ht
  simp only [Array.mem_def, List.mem_cons, List.not_mem_nil, or_false] at hm
  rcases hm with rfl | rfl | rfl <;> (show Tryd.prog.wantsStandIn _ = false; kernel_rfl)
theorem proved : Rows.WcspSharedCardSaid :=
  Claim7.holds_tied_plain_at .later [] _ _ _ _ said (fun _ h => by cases h) (by kernel_rfl) (fun _ h => by cases h) wcspShared_row_tie rfl ⟨rfl, rfl⟩ (by kernel_rfl) rfl plain (by kernel_rfl)
end Go.Proofs.YtafdijfbgkcnnaaDoor.wcspShared
