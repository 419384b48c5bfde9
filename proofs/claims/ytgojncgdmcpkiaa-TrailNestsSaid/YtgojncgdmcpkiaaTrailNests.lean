/- For every input TrailNests returns true; its arguments read as before. No condition. -/
import Derived.Test.YtgojncgdmcpkiaaRows
import Derived.WalkKit
import Derived.ProofKit
import Derived.OpenShut
import Derived.ShutString
import Derived.ChangeOld
import Derived.Below
import Derived.Test.YtgojncgdmcpkiaaOpen
import Derived.Test.YtgojncgdmcpkiaaTrSeen
import Derived.Test.YtgojncgdmcpkiaaU8Rows
import Derived.Test.YtgojncgdmcpkiaaI64Clone
import Derived.Test.YtgojncgdmcpkiaaIntEq64
import Derived.Deep.LoopGhost
import Derived.Deep.DeepCutAuto
import Derived.Deep.CutBlock
import Derived.Deep.RegionHeld3
namespace Go.Proofs.Ytgojncgdmcpkiaa.trailNests
open Go.Proofs.Ytgojncgdmcpkiaa.trl Go.Proofs.Ytgojncgdmcpkiaa.words
open Go.ChangeShapes Go.WideShapes Go.ChangeAt Go.RowKit
open Go.ChangeMaps (open_string shut_string)
set_option linter.unusedVariables false
theorem own : ownKnob Try.prog.godebug = none := by kernel_rfl
theorem laidOut : laidOutB Try.prog = true := by kernel_rfl
theorem fill_set {ps : List Int} {i n : Nat} {v : Int} (hl : ps.length = n) (hi : i < n) (hv : ps[i]? = some v) : (ps.take i ++ List.replicate (n - i) 0).set i v = ps.take (i + 1) ++ List.replicate (n - (i + 1)) 0 := by
  have h0 : (ps.take i).length = i := by rw [List.length_take]; omega
  rw [List.set_append_right _ _ (by omega), h0, Nat.sub_self, show n - i = (n - (i + 1)) + 1 by omega, List.replicate_succ (n := n - (i + 1)), List.set_cons_zero, List.take_add_one, hv]
  simp
/-- what each mark saw, the last first -/
def sn (R : List RR) : List (List Int) := (R.map (·.2.2)).reverse
/-- what the first mark saw; or what is -/
def fst (R : List RR) (Cs : List Int) : List Int := match R with | [] => Cs | x :: _ => x.2.2
theorem sn_add (R : List RR) (x : RR) : sn (R ++ [x]) = x.2.2 :: sn R := by simp [sn]
theorem sn_take {R : List RR} {k : Nat} {x : RR} (hx : R[k]? = some x) : sn (R.take (k + 1)) = x.2.2 :: sn (R.take k) := by
  rw [List.take_add_one, hx]; exact sn_add _ _
theorem fst_add {ps : List Int} (R : List RR) (x : RR) (Cs : List Int) (h : fst R x.2.2 = ps) : fst (R ++ [x]) Cs = ps := by
  cases R with
  | nil => exact h
  | cons y R => exact h
theorem fst_take {ps : List Int} {R : List RR} {k : Nat} {x : RR} (hx : R[k]? = some x) (Cs : List Int) (h : fst (R.take (k + 1)) Cs = ps) : fst (R.take k) x.2.2 = ps := by
  rw [List.take_add_one, hx] at h
  cases hk : R.take k with
  | nil => rw [hk] at h; exact h
  | cons y R' => rw [hk] at h; exact h
set_option maxRecDepth 100000 in
set_option maxHeartbeats 8000000 in
theorem core (A C : Option Addr) (n0 cap m c : Nat) (ps0 : List Int) (rz : List RowT) (w : World) (hn : n0 ≤ 9223372036854775807) (hm : m ≤ 9223372036854775807) (hnc : n0 ≤ cap) (hlz : rz.length = m)
    (hr0 : Reads w w.heap.size 1 A n0 (nums ps0)) (ha0 : Reads w w.heap.size 1 C m (rz.flatMap rowV)) (hQ : ∀ x ∈ rz, rowQ w x) :
    Calls Try.prog 5 #[.slice A n0 cap, .slice C m c] w fun e w' => e = .returned (.bool true) ∧ Below w.heap.size w w' := by
  obtain ⟨i0, hi0, hz0, hz1, hz2⟩ := info_parts infoS
  obtain ⟨n, hn1, n1, n2, -⟩ := min_nat n0 8
  have hn1' : (if (8 : Int) < (n0 : Int) then (8 : Int) else (n0 : Int)) = (n : Int) := hn1
  clear hn1
  have hrn : Reads w w.heap.size 1 A n (nums (ps0.take n)) := by
    have := hr0.take_ n1; unfold nums at this ⊢; rwa [List.map_take]
  obtain ⟨ps, hps⟩ : ∃ ps, ps0.take n = ps := ⟨_, rfl⟩
  rw [hps] at hrn
  clear hr0 hps
  have hlp := nums_len hrn
  have nI : (0 : Int) ≤ (n : Int) := Int.natCast_nonneg _
  have nc : (n : Int) ≤ (cap : Int) := by omega
  go_enter Try.func5, Try.ntmps5
  go_wp2_with fail
  refine (awake_any w).mono ?_
  rintro e w1 ⟨rfl, hb1⟩
  go_wp2_with fail
  refine (clone64_any A n cap ps w1 (by omega) (hrn.lift hb1)).mono ?_
  rintro e w2 ⟨A2, c2, rfl, hown, hb2⟩
  rw [hlp] at hown ⊢
  have hB2 := bto hb1 hb2
  clear hn1' hrn hb1 hb2 nc
  by_cases hz : n = 0
  · subst hz
    go_wp2_with fail
    refine (tf_new 0 w2 (by omega)).mono ?_
    rintro e w3 ⟨g, F, rfl, ht, _, hb3⟩
    have hdp : Calls Try.prog 20 #[.pointer (some ⟨g, 0, none⟩)] w3 fun e w' => e = .returned (.int .i64 0) ∧ w3 = w' := tf_len ht
    clear ht
    go_wp2_with fail
    refine hdp.mono ?_
    rintro e w4 ⟨rfl, rfl⟩
    go_wp2_with fail
    go_ret
    exact ⟨rfl, bto hB2 hb3⟩
  have hzI : ((n : Int) == 0) = false := by simp; omega
  go_wp2_with fail
  refine (tf_new n w2 (by omega)).mono ?_
  rintro e w3 ⟨g, F1, rfl, h1, hF1, hb3⟩
  rw [Int.toNat_natCast] at h1
  have hT := nst_new h1 hF1 hb3
  have HLP := Lib.hid hlp
  have HOWN : Hid (∀ w', Below w2.heap.size w2 w' → w'.ownsRow w1.heap.size 2 1 (.slice A2 n c2) n (nums ps)) := fun w' hb => own_under hown hb
  have HAL : Hid (∀ w' i, Below w2.heap.size w2 w' → i < m → ∃ (ad : Addr) (a : Option Addr) (len cap : Nat) (xs : List Int), C = some ad ∧ w'.cell? (ad.add i) = some (.slice a len cap) ∧ (∀ w3, Below w2.heap.size w2 w3 → Reads w3 w.heap.size 1 a len (xs.map (Value.int .u8))) ∧ (∀ y ∈ xs, (Lit.int .u8 y).wf = true) ∧ xs.length = len ∧ len ≤ cap ∧ len ≤ 9223372036854775807) := fun w' i hb hi => by
    obtain ⟨ad, a, len, cap, xs, q0, q1, q2, q3, q4, q5, q6⟩ := row_at ha0 hQ (hB2.trans (hb.mono hB2.size)) hlz hi
    exact ⟨ad, a, len, cap, xs, q0, q1, fun w3 h3 => q2 w3 (hB2.trans (h3.mono hB2.size)), q3, q4, q5, q6⟩
  have HB2 := Lib.hid hB2
  have HI0 := Lib.hid hi0
  have HZ0 := Lib.hid hz0
  have HZ1 := Lib.hid hz1
  have HZ2 := Lib.hid hz2
  clear hown hB2 hlp ha0 hQ hlz h1 hF1 hb3 hi0 hz0 hz1 hz2
  go_wp2_with fail
  go_loopw [33] (fun iv wr => ∃ (i : Nat), i ≤ n ∧ iv = .int .i64 i ∧ Nst w2 g (ps.take i ++ List.replicate (n - i) 0) [] 0 [] none 0 wr) (fun iv _ => n - (intOf iv).toNat)
  case atStart => exact ⟨0, by omega, rfl, by simpa using hT⟩
  case round =>
    clear hT
    obtain ⟨i, hi, rfl, ht⟩ := hrel
    by_cases hlt : i < n
    · obtain ⟨ad, p, rfl, _, hp, hc⟩ := (Reads.of_own (HOWN.out _ ht.bel)).num hlt
      have hlen : (ps.take i ++ List.replicate (n - i) 0).length = n := by rw [List.length_append, List.length_take, List.length_replicate, HLP.out]; omega
      have hfs := fill_set HLP.out hlt hp
      have HS : Hid (Calls Try.prog 12 #[.pointer (some ⟨g, 0, none⟩), .int .i64 i, .int .i64 p] wr fun e w' => e = .returned (.int .i64 0) ∧ Nst w2 g (ps.take (i + 1) ++ List.replicate (n - (i + 1)) 0) [] 0 [] none 0 w') :=
        ht.call fun F h => by
          have := tf_set h i p (by rw [hlen]; exact hlt) (by rw [hlen]; omega) (by simp)
          rwa [hfs] at this
      clear ht hp hlen hfs
      go_wp2_with fail
      refine HS.out.mono ?_
      rintro e w5 ⟨rfl, ht5⟩
      go_wp2_with fail
      go_roundw
      case rel => exact ⟨i + 1, by omega, by go_num, ht5⟩
      case measure => simp [intOf]; omega
    · obtain rfl : n = i := by omega
      rw [Nat.sub_self, List.replicate_zero, List.append_nil, List.take_of_length_le (by rw [HLP.out]; exact Nat.le_refl _)] at ht
      clear hlt hi
      go_upto_block 2 with (fail)
      go_cut [8] (fun lv wx => ∃ (R : List RR) (A : Option Addr) (c r : Nat) (Cs : List Int) (ev : Nat), lv = .slice A r c ∧ R.length = r ∧ r ≤ 12 ∧ Cs.length ≤ 40 ∧ (∀ x ∈ R, x.2.2.length ≤ 40) ∧ ev ≤ 100 ∧ fst R Cs = ps ∧ Nst w2 g Cs (sn R) ev R A c wx)
      case first =>
        go_wp2_with fail
        go_loopw [8, 45] (fun lv kv wr => ∃ (k : Nat) (R : List RR) (A : Option Addr) (c : Nat) (Cs : List Int), kv = .int .i64 k ∧ lv = .slice A k c ∧ k ≤ m ∧ k ≤ 12 ∧ R.length = k ∧ n ≤ Cs.length ∧ Cs.length ≤ 8 + 2 * k ∧ (∀ x ∈ R, x.2.2.length ≤ 40) ∧ fst R Cs = ps ∧ Nst w2 g Cs (sn R) k R A c wr) (fun _ kv _ => m - (intOf kv).toNat)
        case atStart => exact ⟨0, [], none, 0, ps, rfl, rfl, Nat.zero_le _, by omega, rfl, by rw [HLP.out]; exact Nat.le_refl _, by rw [HLP.out]; omega, (fun x hx => by cases hx), rfl, ht⟩
        case round =>
          clear ht
          obtain ⟨k, R, A, c, Cs, rfl, rfl, hkm, hk8, hR, hCn, hCs, hR40, hfs, ht⟩ := hrel
          by_cases hlt : k < m
          · obtain ⟨ad, a, len, lcap, xs, rfl, hc, hrow, hwf, hxl, hlc, hlen⟩ := HAL.out _ k ht.bel hlt
            by_cases h8 : k < 12
            · have hce := ht.ask fun F h => tf_cells h (by omega)
              have HT := Lib.hid ht
              have HROW := Lib.hid hrow
              have HWF := Lib.hid hwf
              have HR := Lib.hid hR
              have HCN := Lib.hid hCn
              have HCS := Lib.hid hCs
              have HR40 := Lib.hid hR40
              have HFS := Lib.hid hfs
              clear ht hrow hwf hR hCs hCn hR40 hfs
              go_wp2_with fail
              refine hce.mono ?_
              rintro e w5 ⟨⟨A5, c5, rfl, hown5⟩, hb5⟩
              clear hce
              obtain ⟨q, hq⟩ : ∃ q, Cs.length = q := ⟨_, rfl⟩
              rw [hq] at hown5 ⊢
              have hrow5 := (HT.out.below hb5).row
              rw [HR.out] at hrow5
              have ho1 := hrow5.alloc (.cells #[.slice A5 q c5] 22)
              have hr1 : Reads (w5.alloc (.cells #[.slice A5 q c5] 22)) (w5.alloc (.cells #[.slice A5 q c5] 22)).heap.size 1 (some ⟨w5.heap.size, 0, none⟩) 1 [.slice A5 q c5] := reads_block (t := 22) (heap_alloc_new _ _) rfl
              have hle5 := (HT.out.below hb5).bel.size
              have HO5 := Lib.hid hown5
              have HQ := Lib.hid hq
              have hi0' := HI0.out
              have hz0' := HZ0.out
              have hz1' := HZ1.out
              have hz2' := HZ2.out
              clear hown5 hq hrow5
              go_wp2_with (first
                | (at_builtin; refine wpList_append_any _ rfl (.tmp 52) (.tmp 55) _ rfl w2.heap.size 22 i0 _ 1 24 Try.underlying38 hi0' hz0' hz1' hz2' rfl (by omega) _ k _ rfl ho1 (w5.alloc (.cells #[.slice A5 q c5] 22)).heap.size (some ⟨w5.heap.size, 0, none⟩) 1 1 [.slice A5 q c5] rfl hr1 (fun u hu => by simp at hu; subst hu; rfl) (by simp only [maxLen]; omega) (by omega) (by simp; omega) ?_; intro v1 w6 hown6 hg6 hat6; obtain ⟨A6, c6, rfl⟩ := own_shape hown6; have HO6 := Lib.hid hown6; have HG6 := Lib.hid hg6; have HAT6 := Lib.hid hat6; clear hown6 hg6 hat6 ho1 hr1)
                | fail)
              obtain ⟨A7, c7, e7, hN⟩ := HT.out.push (w5 := w5) (wa := w5.alloc (.cells #[.slice A5 q c5] 22)) (w6 := w6) (x := (A5, c5, Cs)) (v := .slice A6 (k + 1) c6) (by show w5.ownsRow wr.heap.size 2 1 (.slice A5 Cs.length c5) Cs.length (nums Cs); rw [HQ.out]; exact HO5.out) hb5 (bone _ _) (by show w6.ownsRow w2.heap.size 22 1 (.slice A6 (k + 1) c6) (R.length + 1) (R.map rrV ++ [.slice A5 Cs.length c5]); rw [HR.out, HQ.out]; exact HO6.out) (by rw [HR.out]; exact HG6.out) (by rw [HR.out]; exact HAT6.out)
              injection e7 with e7 e7' e7''
              subst e7; subst e7''
              have hmk := hN.call fun F h => tf_mark h (by have := HCS.out; omega) (by have := HR.out; simp [sn]; omega) (by omega)
              rw [← sn_add R (A5, c5, Cs)] at hmk
              obtain ⟨R', hR'⟩ : ∃ R', R ++ [(A5, c5, Cs)] = R' := ⟨_, rfl⟩
              rw [hR'] at hmk
              have HR' : Hid (R'.length = k + 1) := by rw [Hid, ← hR', List.length_append, HR.out]; rfl
              have HR40' : Hid (∀ x ∈ R', x.2.2.length ≤ 40) := fun x hx => by
                rw [← hR'] at hx
                rcases List.mem_append.1 hx with hx | hx
                · exact HR40.out x hx
                · obtain rfl : x = (A5, c5, Cs) := by simpa using hx
                  have := HCS.out
                  show Cs.length ≤ 40
                  omega
              have HFS' : Hid (∀ Ds, fst R' Ds = ps) := fun Ds => by rw [← hR']; exact fst_add R _ Ds HFS.out
              clear hN e7' hR' hb5 hle5 HO6 HG6 HAT6 HO5 HT HR HR40 HFS
              refine hmk.mono ?_
              rintro e w7 ⟨rfl, ht7⟩
              clear hmk
              go_wp2_with fail
              go_loopw [61] (fun iv wr => ∃ (i : Nat) (Ds : List Int), iv = .int .i64 i ∧ i ≤ len ∧ Ds.length = q ∧ Nst w2 g Ds (sn R') (k + 1) R' A6 c6 wr) (fun iv _ => len - (intOf iv).toNat)
              case atStart => exact ⟨0, Cs, rfl, Nat.zero_le _, HQ.out, ht7⟩
              case round =>
                clear ht7 hc
                obtain ⟨i, Ds, rfl, hi, hDs, ht⟩ := hrel
                by_cases hil : i < len
                · obtain ⟨ad2, y, rfl, hy, hcy, hyb⟩ := u8_at (HROW.out _ ht.bel) HWF.out hil
                  by_cases h10 : i < 12
                  · obtain ⟨x, hx⟩ : ∃ x, y % n = x := ⟨_, rfl⟩
                    have hxn : x < n := by rw [← hx]; exact Nat.mod_lt _ (by omega)
                    have hxI : (y : Int) % (n : Int) = (x : Int) := by rw [← hx]; rfl
                    obtain ⟨v, hv⟩ : ∃ v, 100 * k + i = v := ⟨_, rfl⟩
                    have hvI : 100 * (k : Int) + (i : Int) = (v : Int) := by omega
                    have HS : Hid (Calls Try.prog 12 #[.pointer (some ⟨g, 0, none⟩), .int .i64 x, .int .i64 v] wr fun e w' => e = .returned (.int .i64 0) ∧ Nst w2 g (Ds.set x v) (sn R') (k + 1) R' A6 c6 w') :=
                      ht.call fun F h => tf_set h x v (by have := HQ.out; have := HCN.out; omega) (by have := HQ.out; have := HCS.out; omega) (by have := HR'.out; simp [sn]; omega)
                    have HDS := Lib.hid hDs
                    clear ht hy hDs hx hv
                    go_wp2_with fail
                    refine HS.out.mono ?_
                    rintro e w8 ⟨rfl, ht8⟩
                    go_wp2_with fail
                    go_roundw
                    case rel => exact ⟨i + 1, Ds.set x v, by go_num, by omega, by rw [List.length_set]; exact HDS.out, ht8⟩
                    case measure => simp [intOf]; omega
                  · have HT := Lib.hid ht
                    have HDS := Lib.hid hDs
                    clear ht hy hDs
                    go_wp2_with fail
                    go_roundw
                    case rel => exact ⟨i + 1, Ds, by go_num, by omega, HDS.out, HT.out⟩
                    case measure => simp [intOf]; omega
                · obtain rfl : len = i := by omega
                  obtain ⟨z, hz⟩ : ∃ z, k % 3 = z := ⟨_, rfl⟩
                  have hzI3 : (k : Int) % 3 = (z : Int) := by rw [← hz]; rfl
                  have hz3 : z < 3 := by rw [← hz]; exact Nat.mod_lt _ (by omega)
                  have hgr := ht.call fun F h => tf_grow h (z : Int) (by omega) (by have := HQ.out; have := HCS.out; omega)
                  have HG := Lib.hid hgr
                  have HDS := Lib.hid hDs
                  clear ht hDs hil hi hz hgr
                  go_wp2_with fail
                  refine HG.out.mono ?_
                  rintro e w8 ⟨rfl, ht8⟩
                  rw [Int.toNat_natCast] at ht8
                  have HT := Lib.hid ht8
                  clear ht8 HG
                  go_wp2_with fail
                  go_roundw
                  case rel =>
                    have a1 := HDS.out
                    have a2 := HQ.out
                    have a3 := HCN.out
                    have a4 := HCS.out
                    exact ⟨k + 1, R', A6, c6, Ds ++ List.replicate z 0, by go_num, rfl, by omega, by omega, HR'.out, by rw [List.length_append]; omega, by rw [List.length_append, List.length_replicate]; omega, HR40'.out, HFS'.out _, HT.out⟩
                  case measure => simp [intOf]; omega
            · have HT := Lib.hid ht
              have HC := Lib.hid hCs
              have HR := Lib.hid hR
              have HR40 := Lib.hid hR40
              have HFS := Lib.hid hfs
              clear ht hrow hwf hR hCs hR40 hfs hCn
              go_wp2_with fail
              go_meet
              case rel => exact ⟨R, A, c, k, Cs, k, rfl, HR.out, by omega, by have := HC.out; omega, HR40.out, by omega, HFS.out, HT.out⟩
          · have HT := Lib.hid ht
            have HC := Lib.hid hCs
            have HR := Lib.hid hR
            have HR40 := Lib.hid hR40
            have HFS := Lib.hid hfs
            clear ht hR hCs hR40 hfs hCn
            go_wp2_with fail
            go_meet
            case rel => exact ⟨R, A, c, k, Cs, k, rfl, HR.out, by omega, by have := HC.out; omega, HR40.out, by omega, HFS.out, HT.out⟩
      case rest =>
        clear ht HAL
        obtain ⟨R, A, c, r, Cs, ev, rfl, hR, hr12, hCs, hR40, hev, hfs, ht⟩ := hcut
        have HR := Lib.hid hR
        have HR40 := Lib.hid hR40
        clear hR hR40
        go_wp2_with fail
        go_loopw [13] (fun kv wr => ∃ (j : Nat) (i : Int) (Ds : List Int), kv = .int .i64 i ∧ i = (j : Int) - 1 ∧ j ≤ r ∧ Ds.length ≤ 40 ∧ fst (R.take j) Ds = ps ∧ Nst w2 g Ds (sn (R.take j)) ev R A c wr) (fun kv _ => (intOf kv + 1).toNat)
        case atStart =>
          have e : R.take r = R := List.take_of_length_le (by rw [HR.out]; exact Nat.le_refl _)
          exact ⟨r, (r : Int) - 1, Cs, by go_num, rfl, Nat.le_refl _, hCs, by rw [e]; exact hfs, by rw [e]; exact ht⟩
        case round =>
          clear ht hCs hfs
          obtain ⟨j, i, Ds, rfl, hi, hj, hDs, hfs, ht⟩ := hrel
          cases j with
          | zero =>
            obtain rfl : i = -1 := by omega
            have hps : Ds = ps := by rw [List.take_zero] at hfs; exact hfs
            subst hps
            have hce := ht.ask fun F h => tf_cells h (by omega)
            rw [HLP.out] at hce
            have HT := Lib.hid ht
            clear ht hi hfs hDs
            go_wp2_with fail
            refine hce.mono ?_
            rintro e w5 ⟨⟨A5, c5, rfl, hown5⟩, hb5⟩
            have ht5 := HT.out.below hb5
            have heq5 := equal64_any A5 A2 n n c5 c2 Ds Ds w5 (by omega) (by omega) (Reads.of_own hown5) (Reads.of_own (HOWN.out _ ht5.bel))
            rw [show eqB Ds Ds = true by simp [eqB]] at heq5
            have HT5 := Lib.hid ht5
            clear hce hown5 ht5
            go_wp2_with fail
            refine heq5.mono ?_
            rintro e w6 ⟨rfl, hb6⟩
            clear heq5
            go_wp2_with fail
            go_ret
            exact ⟨rfl, bto HB2.out (bto HT5.out.bel hb6)⟩
          | succ k =>
            obtain rfl : i = (k : Int) := by omega
            obtain ⟨⟨Ax, cx, Wx⟩, hx⟩ : ∃ x, R[k]? = some x := ⟨_, List.getElem?_eq_getElem (by rw [HR.out]; omega)⟩
            have hss := sn_take hx
            have hfx := fst_take hx Ds hfs
            have hW40 := HR40.out _ (List.mem_of_getElem? hx)
            have hstl : (sn (R.take k)).length = k := by simp [sn]; have := HR.out; omega
            rw [hss] at ht
            have hd := (ht.below (Below.refl _ _).drew).ask fun F h => tf_depth h
            rw [show (((Ax, cx, Wx) : RR).2.2 :: sn (R.take k)).length = k + 1 by rw [List.length_cons, hstl]] at hd
            have hu := (ht.below (Below.refl _ _).drew).call fun F h => tf_undo h (stop := []) (s := Wx) (ss0 := sn (R.take k)) rfl (by omega) (by rw [List.length_cons, hstl]; omega)
            rw [hstl] at hu
            obtain ⟨l, hl⟩ : ∃ l, Wx.length = l := ⟨_, rfl⟩
            have HC5 : Hid (∀ w5, Nst w2 g Wx (sn (R.take k)) ev R A c w5 → ∃ ad, A = some ad ∧ ∀ w', Below w5.heap.size w5 w' → w'.cell? (ad.add k) = some (.slice Ax l cx)) := fun w5 h5 => by
              obtain ⟨ad, e, _, _⟩ := h5.at_ hx
              refine ⟨ad, e, fun w' hb => ?_⟩
              obtain ⟨ad', e', k1, _⟩ := (h5.below hb).at_ hx
              have := e.symm.trans e'
              injection this with this
              subst this
              rw [← hl]; exact k1
            have HCE : Hid (∀ w5, Nst w2 g Wx (sn (R.take k)) ev R A c w5 → Calls Try.prog 16 #[.pointer (some ⟨g, 0, none⟩)] w5 fun e w' => (∃ A c, e = .returned (.slice A l c) ∧ w'.ownsRow w5.heap.size 2 1 (.slice A l c) l (nums Wx)) ∧ Below w5.heap.size w5 w') := fun w5 h5 => by
              have := h5.ask fun F h => tf_cells h (by have := hW40; dsimp only at this; omega)
              rwa [hl] at this
            have HEQ : Hid (∀ (w6 : World) A6 c6, Nst w2 g Wx (sn (R.take k)) ev R A c w6 → Reads w6 w6.heap.size 1 A6 l (nums Wx) → Calls Try.prog 15 #[.slice A6 l c6, .slice Ax l cx] w6 fun e w' => e = .returned (.bool true) ∧ Below w6.heap.size w6 w') := fun w6 A6 c6 h6 hr => by
              obtain ⟨ad, e, _, ho⟩ := h6.at_ hx
              unfold rrV at ho
              dsimp only at ho
              rw [hl] at ho
              have := equal64_any A6 Ax l l c6 cx Wx Wx w6 (by have := hW40; dsimp only at this; omega) (by have := hW40; dsimp only at this; omega) hr (Reads.of_own ho)
              rwa [show eqB Wx Wx = true by simp [eqB]] at this
            obtain ⟨k1, hk1⟩ : ∃ k1, k + 1 = k1 := ⟨_, rfl⟩
            have hk1I : (k : Int) + 1 = (k1 : Int) := by omega
            rw [hk1] at hd
            have hk1b : k1 ≤ 13 := by omega
            have hkw : IntKind.i64.wrap (k1 : Int) = (k1 : Int) := by rw [IntKind.wrap_i64]; omega
            obtain ⟨ad, rfl, hx0⟩ : ∃ ad, A = some ad ∧ wr.drew.cell? (ad.add k) = some (.slice Ax l cx) := by
              obtain ⟨ad, e, h, _⟩ := (ht.below (Below.refl _ _).drew).at_ hx
              exact ⟨ad, e, by rw [← hl]; exact h⟩
            have HFX := Lib.hid hfx
            have HW := Lib.hid hW40
            have kr : (k : Int) < (r : Int) := by omega
            have kn : (0 : Int) ≤ (k : Int) := Int.natCast_nonneg _
            clear ht hss hx hfs hi hDs hl hstl hfx hW40 hk1
            go_upto_region 30 with (fail)
            go_region_held3 (fun w' => w'.cell? (ad.add k) = some (.slice Ax l cx)) (first | assumption | exact hx0)
              (first
              | (go_at_call 17; refine hd.mono ?_; rintro e w4 ⟨rfl, rfl⟩; clear hd)
              | (go_at_call 14; refine hu.mono ?_; rintro e w5 ⟨rfl, ht5⟩; clear hu; have hc5 := HCE.out _ ht5; have hk5 := HC5.out _ ht5; obtain ⟨ad', e', hk5⟩ := hk5; (injection e' with e'; subst e'); have hx5 := hk5 _ (Below.refl _ _))
              | (go_at_call 16; refine hc5.mono ?_; rintro e w6 ⟨⟨A6, c6, rfl, hown6⟩, hb6⟩; clear hc5; have hx6 := hk5 _ hb6; have ht6 := ht5.below hb6; have hq6 := HEQ.out _ A6 c6 ht6 (Reads.of_own hown6); clear hown6)
              | (go_at_call 15; refine hq6.mono ?_; rintro e w7 ⟨rfl, hb7⟩; clear hq6; have ht7 := ht6.below hb7; have hx7 := hk5 _ (bto hb6 hb7)))
            all_goals
              go_wp2_with fail
              go_roundw
              case rel => exact ⟨k, (k : Int) - 1, Wx, by go_num, rfl, by omega, HW.out, HFX.out, ht7⟩
              case measure => first | (simp [intOf]; done) | (simp [intOf]; omega)
theorem walk (a0 : Option Addr) (len0 cap0 : Nat) (z0 : List Int) (a1 : Option Addr) (len1 cap1 : Nat) (z1 : List RowT) (w : World) (w0 : z0.length = len0 ∧ Reads w w.heap.size 1 a0 len0 (z0.map (Value.int .i64)) ∧ (∀ x ∈ z0, (Lit.int .i64 x).wf = true) ∧ len0 ≤ cap0 ∧ len0 ≤ 9223372036854775807) (w1 : z1.length = len1 ∧ Reads w w.heap.size 1 a1 len1 (z1.flatMap rowV) ∧ (∀ x ∈ z1, rowQ w x) ∧ len1 ≤ cap1 ∧ len1 ≤ 9223372036854775807) :
    Calls Try.prog 5 #[.slice a0 len0 cap0, .slice a1 len1 cap1] w fun e w' => e = .returned (.bool true) ∧ Below w.heap.size w w' := by
  obtain ⟨_, hr, _, hc, hl⟩ := w0
  obtain ⟨hlz, ha, hQ, _, hm⟩ := w1
  exact core a0 a1 len0 cap0 len1 cap1 z0 z1 w hl hm hc hlz hr ha hQ

set_option maxRecDepth 100000 in
theorem lifted (os : Os) (started : os.Started) (H : Type) (enc : TypeId × Value → H) :
    ReturnsInHanded {} Try.checked os 5 .any (Rows.trailNestsSpec.pre6 enc Try.prog Try.f5 Rows.trailNestsRow.domain false) (Rows.trailNestsSpec.post enc Try.prog Try.f5 false true false false) := by
  refine returnsInHanded_of_change (C := Try.checked) own started (by kernel_rfl) Try.func5
    (ChangeSpec.witness6 (enc := enc) (C := Try.checked) false ⟨#[], #[.slice none 0 0, .slice none 0 0], []⟩ 8 (by kernel_rfl) (by kernel_rfl) (by kernel_rfl) (by kernel_rfl)) ?_
  intro W base args ds gs before hval0 hW hcnd _
  have hval : ∀ (j : Nat) t v, Try.f5.params[j]? = some t → args[j]? = some v → Value.okWide Try.prog W .any base t v := hval0
  have hW' := hW
  obtain ⟨p, q, hA0, hV, rfl, hfz, hnd⟩ := hW
  have hA : DataW.TrodAll enc Try.prog W 0 (fun _ => true) true Try.f5.params.toList args.toList ds p := hA0
  rw [Try.params5] at hA hval
  obtain ⟨v0, vs0, d0, ds0, p0, q0, hargs, rfl, rfl, h0, r0⟩ := trodAll_cons hA
  obtain ⟨v1, vs1, d1, ds1, p1, q1, rfl, rfl, rfl, h1, r1⟩ := trodAll_cons r0
  obtain ⟨rfl, rfl, rfl⟩ := trodAll_nil r1
  obtain rfl : args = #[v0, v1] := by cases args; simp_all
  obtain ⟨rfl, rfl⟩ := trodVars_none hV
  obtain ⟨a0, len0, cap0, rfl⟩ := okWide_slice Try.underlying22 (hval 0 22 v0 rfl rfl)
  have k0 := h0
  have lt0 : ∀ x ∈ p0, x.block < W.heap.size := by obtain ⟨m, hm⟩ := k0; exact DataW.trod_lt m _ _ _ hm
  obtain ⟨z0, w0⟩ := open_ones (Value.int .i64) (fun x => (Lit.int .i64 x).wf = true) Try.underlying22 (by kernel_rfl) (dec_int Try.underlying2) h0
  obtain ⟨a1, len1, cap1, rfl⟩ := okWide_slice Try.underlying46 (hval 1 46 v1 rfl rfl)
  have k1 := h1
  have lt1 : ∀ x ∈ p1, x.block < W.heap.size := by obtain ⟨m, hm⟩ := k1; exact DataW.trod_lt m _ _ _ hm
  obtain ⟨z1, w1⟩ := open_rows (s := 1) rowV (rowQ W) (fun _ => rfl) (by decide) Try.underlying46 (by kernel_rfl) dec_row h1
  clear hA0 hval0
  refine (walk a0 len0 cap0 z0 a1 len1 cap1 z1 W w0 w1).mono fun e W' ⟨he, bel⟩ => ?_
  subst he
  exact ⟨_, rfl, _, _, _, [], _, [], hW', trodAll_mk1 (shut_bool Try.underlying4 _), (trodAll_cons_mk (Below.trod laidOut (by kernel_rfl) (of_decide_eq_true (by kernel_rfl)) k0 bel lt0) (trodAll_cons_mk (Below.trod laidOut (by kernel_rfl) (of_decide_eq_true (by kernel_rfl)) k1 bel lt1) trodAll_mk0)), rfl, bel.frame _, fun h => by cases h⟩
theorem over : Rows.trailNestsRow.holds Try.pinned (OpenSpec.ofChange Rows.trailNestsSpec) :=
  OpenClaim.holds_of_wide 5 Try.f5 rfl rfl rfl rfl rfl rfl rfl ⟨rfl, rfl, rfl, rfl, rfl⟩ rfl rfl rfl rfl rfl (by kernel_rfl) Try.func5 (by kernel_rfl)
    (of_decide_eq_true (by kernel_rfl)) (by unfold Func.isWrapper; first | (rw [if_pos (by decide +kernel)]; kernel_rfl) | (rw [if_neg (by decide +kernel)]; exact ⟨rfl, rfl⟩))
    (fun os started H enc _ => lifted os started H enc)
theorem proved : Rows.TrailNestsSaid := over
end Go.Proofs.Ytgojncgdmcpkiaa.trailNests
