/- For every input WcspPlaces returns true; its arguments read as before. No condition; the tables of Go's library are tied to the program's text. -/
import Derived.Test.YtafdijfbgkcnnaaDoorCards
import Derived.Test.YtafdijfbgkcnnaaDoorTie
import Derived.Deep.DeepHandedRow
import Derived.Lib.LaidTab
import Derived.Stop.LaidErr
import Derived.WalkKit
import Derived.ProofKit
import Derived.OpenShut
import Derived.ShutString
import Derived.ChangeOld
import Derived.Below
import Derived.Test.YtafdijfbgkcnnaaDoorOpen
import Derived.Test.YtafdijfbgkcnnaaDoorTellQ
import Derived.Test.YtafdijfbgkcnnaaDoorByteClone
namespace Go.Proofs.YtafdijfbgkcnnaaDoor.wcspPlaces
open Go.Proofs.YtafdijfbgkcnnaaDoor.wcp Go.Proofs.YtafdijfbgkcnnaaDoor.scn Go.Proofs.YtafdijfbgkcnnaaDoor.words
open Go.ChangeShapes Go.WideShapes Go.ChangeAt Go.RowKit
open Go.ChangeMaps (open_string shut_string)
set_option linter.unusedVariables false
theorem own : ownKnob Tryd.prog.godebug = none := by kernel_rfl
theorem laidOut : laidOutB Tryd.prog = true := by kernel_rfl
theorem pow_eq : [1, 10, 100, 1000, 10000, 100000, 1000000, 10000000, 100000000, 1000000000, 10000000000, 100000000000, 1000000000000, 10000000000000, 100000000000000, 1000000000000000, 10000000000000000, 100000000000000000, 1000000000000000000, 10000000000000000000] = Lib.pow10Tab := by decide +kernel
theorem pow_tab {W : World} (h : Lib.TabIs Tryd.prog W "internal/strconv.uint64pow10" .u64 [1, 10, 100, 1000, 10000, 100000, 1000000, 10000000, 100000000, 1000000000, 10000000000, 100000000000, 1000000000000, 10000000000000, 100000000000000, 1000000000000000, 10000000000000000, 100000000000000000, 1000000000000000000, 10000000000000000000]) : Tab W := by
  unfold Tab; rw [← pow_eq]; exact h
theorem own_ge {w : World} {base : Nat} {e : TypeId} {size : Nat} {v : Value} {n : Nat} {xs : List Value} (h : w.ownsRow base e size v n xs) {q : Nat} (hq : v.ownBlock = some q) : base ≤ q := by
  rcases h.2 with ⟨rfl, _⟩ | ⟨g, cap, cur, rfl, hb, hg, _⟩
  · cases hq
  · injection hq with hq; subst hq; exact hb
set_option maxRecDepth 100000 in
set_option maxHeartbeats 8000000 in
theorem core (A B : Option Addr) (n m cap capm : Nat) (xs ys : List UInt8) (w : World) (hn : n ≤ 9223372036854775807) (hm : m ≤ 9223372036854775807) (hnc : n ≤ cap) (hmc : m ≤ capm) (hr : Reads w w.heap.size 1 A n (bv xs)) (hs : Reads w w.heap.size 1 B m (bv ys)) (ht : Tab w) :
    Calls Tryd.prog 5 #[.slice A n cap, .slice B m capm] w fun e w' => e = .returned (.bool true) ∧ Below w.heap.size w w' := by
  obtain ⟨i0, hi0, hz0, hz1, hz2⟩ := info_parts infoB
  obtain ⟨k, hk1, k1, k2, hkm⟩ := min_nat n 300
  obtain ⟨q, hq1, q1, q2, hqm⟩ := min_nat m 50
  have hkI : min (n : Int) 300 = (k : Int) := by omega
  have hqI : min (m : Int) 50 = (q : Int) := by omega
  have hk1' : (if (300 : Int) < (n : Int) then (300 : Int) else (n : Int)) = (k : Int) := hk1
  have hq1' : (if (50 : Int) < (m : Int) then (50 : Int) else (m : Int)) = (q : Int) := hq1
  have kI : (0 : Int) ≤ (k : Int) := Int.natCast_nonneg _
  have qI : (0 : Int) ≤ (q : Int) := Int.natCast_nonneg _
  have kc : (k : Int) ≤ (cap : Int) := by omega
  have qc : (q : Int) ≤ (capm : Int) := by omega
  have hxl : xs.length = n := by have := hr.1; rw [bv_len] at this; omega
  have hyl : ys.length = m := by have := hs.1; rw [bv_len] at this; omega
  obtain ⟨bs, hbs⟩ : ∃ bs, xs.take k = bs := ⟨_, rfl⟩
  obtain ⟨ms, hms⟩ : ∃ ms, ys.take q = ms := ⟨_, rfl⟩
  have hbl : bs.length = k := by rw [← hbs, List.length_take]; omega
  have hml : ms.length = q := by rw [← hms, List.length_take]; omega
  have hrk : Reads w w.heap.size 1 A k (bv bs) := by
    have := hr.take_ (m := k) (by omega)
    rw [← hbs]; unfold bv at this ⊢; rw [List.map_take]; exact this
  have hsq : Reads w w.heap.size 1 B q (bv ms) := by
    have := hs.take_ (m := q) (by omega)
    rw [← hms]; unfold bv at this ⊢; rw [List.map_take]; exact this
  have HBL := Lib.hid hbl
  have HML := Lib.hid hml
  have HT := Lib.hid ht
  have hcA : ∀ W c, Below w.heap.size w W → Calls Tryd.prog 10 #[.slice A k c] W fun e w' => CopiedB W bs e w' := fun W c hW => cloneB_any A k c bs W (by omega) ((hrk.below hW).more hW.size)
  have hcB : ∀ W c, Below w.heap.size w W → Calls Tryd.prog 10 #[.slice B q c] W fun e w' => CopiedB W ms e w' := fun W c hW => cloneB_any B q c ms W (by omega) ((hsq.below hW).more hW.size)
  have HCA := Lib.hid hcA
  have HCB := Lib.hid hcB
  clear hr hs ht hxl hyl hbs hms hbl hml hrk hsq hcA hcB hkm hqm hk1 hq1
  go_enter Tryd.func5, Tryd.ntmps5
  go_wp2_with fail
  refine (wawake_any w HT.out).mono ?_
  rintro e w1 ⟨rfl, hb1⟩
  have HB1 := Lib.hid hb1
  clear hb1
  go_upto_region 3 with fail
  go_cut [0, 1] (fun u v wq => ∃ A1 c1 A2 c2, u = .slice A1 k c1 ∧ v = .slice A2 q c2 ∧ wq.ownsRow 0 5 1 (.slice A1 k c1) k (bv bs) ∧ wq.ownsRow 0 5 1 (.slice A2 q c2) q (bv ms) ∧ Below w.heap.size w wq)
  case first =>
    have hA1 := HCA.out w1.drew cap ⟨HB1.out.os, HB1.out.tape, HB1.out.output, HB1.out.size, HB1.out.block⟩
    have hB1 := HCB.out w1.drew capm ⟨HB1.out.os, HB1.out.tape, HB1.out.output, HB1.out.size, HB1.out.block⟩
    go_region_held3 (fun _ => True) (trivial) (first
      | (go_at_call 10; refine hA1.mono ?_; rintro e wA ⟨A1, c1, rfl, hoA, hbA⟩; have hbA' := bto HB1.out (show Below w1.heap.size w1 wA from ⟨hbA.os, hbA.tape, hbA.output, hbA.size, hbA.block⟩); have hB2 := HCB.out wA capm hbA'; have HOA := Lib.hid hoA; have HBA := Lib.hid hbA'; clear hoA hbA hbA' hA1)
      | (go_at_call 10; refine hB2.mono ?_; rintro e wB ⟨A2, c2, rfl, hoB, hbB⟩; have HOB := Lib.hid hoB; have HBB := Lib.hid (bto HBA.out hbB); have HOA2 := Lib.hid (own_under HOA.out hbB); clear hoB hbB hB2)
      | (go_at_call 10; refine hB1.mono ?_; rintro e wB ⟨A2, c2, rfl, hoB, hbB⟩; have hbB' := bto HB1.out (show Below w1.heap.size w1 wB from ⟨hbB.os, hbB.tape, hbB.output, hbB.size, hbB.block⟩); have hA2 := HCA.out wB cap hbB'; have HOB := Lib.hid hoB; have HBB := Lib.hid hbB'; clear hoB hbB hbB' hB1)
      | (go_at_call 10; refine hA2.mono ?_; rintro e wA ⟨A1, c1, rfl, hoA, hbA⟩; have HOA2 := Lib.hid hoA; have HBB := Lib.hid (bto HBB.out hbA); have HOB := Lib.hid (own_under HOB.out hbA); clear hoA hbA hA2))
    all_goals
      go_wp2_with fail
      go_meet
      case rel => exact ⟨A1, c1, A2, c2, by rw [HBL.out], by rw [HML.out], own_base (by have := HOA2.out; rw [HBL.out] at this; exact this) (Nat.zero_le _), own_base (by have := HOB.out; rw [HML.out] at this; exact this) (Nat.zero_le _), HBB.out⟩
  case rest =>
    obtain ⟨A1, c1, A2, c2, rfl, rfl, hoA, hoB, hbc⟩ := hcut
    obtain ⟨l, wb, htl⟩ := told_total bs
    have hrd := read_any A1 k c1 bs wb l wc HBL.out (Reads.of_own hoA) (by omega) htl (HT.out.below hbc)
    have HOA := Lib.hid hoA
    have HOB := Lib.hid hoB
    have HBC := Lib.hid hbc
    have HTL := Lib.hid htl
    clear hoA hoB hbc htl
    go_wp2_with fail
    refine hrd.mono ?_
    rintro e w2 ⟨hb2, hm2⟩
    clear hrd
    cases hp : pread (enOf bs wb) (eeOf wb) l with
    | file f =>
      rw [hp] at hm2
      obtain ⟨g, rfl, _⟩ := hm2
      have HBF := Lib.hid (bto HBC.out hb2)
      clear hb2 hp
      go_wp2_with fail
      go_ret
      exact ⟨rfl, HBF.out⟩
    | err er x =>
      rw [hp] at hm2
      obtain rfl := hm2
      have HBF := Lib.hid (bto HBC.out hb2)
      have HP := Lib.hid hp
      have HB2 := Lib.hid hb2
      clear hp hb2
      by_cases h0 : er = 0
      · subst h0
        go_wp2_with fail
        go_ret
        exact ⟨rfl, HBF.out⟩
      · have h0b : (er == 0) = false := by simpa using h0
        by_cases h5 : er = 5
        · subst h5
          clear h0 h0b
          go_wp2_with fail
          go_ret
          exact ⟨rfl, HBF.out⟩
        · have h5b : (er == 5) = false := by simpa using h5
          by_cases hx : x = (k : Int)
          · have hxb : (x == (k : Int)) = true := by simpa using hx
            have HX := Lib.hid hx
            clear h0 h5 hx
            go_wp2_with fail
            go_ret
            exact ⟨rfl, HBF.out⟩
          · have hxb : (x == (k : Int)) = false := by simpa using hx
            obtain ⟨l2, wb2, ht2, hp2⟩ := places (ext := ms) HTL.out HP.out h5 (by rw [HBL.out]; exact hx)
            have hcl := cloneB_any A1 k c1 bs w2 (by omega) (Reads.of_own (own_under HOA.out HB2.out))
            have HT2 := Lib.hid ht2
            have HP2 := Lib.hid hp2
            have h0e : (er == er) = true := by simp
            have hxe : (x == x) = true := by simp
            clear h0 h5 hx ht2 hp2
            go_wp2_with fail
            refine hcl.mono ?_
            rintro e w3 ⟨A3, c3, rfl, ho3, hb3⟩
            clear hcl
            rw [HBL.out] at ho3 ⊢
            have hA1 := ho3.alloc (.cells #[.int .u8 32] 5)
            have hr1 : Reads (w3.alloc (.cells #[.int .u8 32] 5)) (w3.alloc (.cells #[.int .u8 32] 5)).heap.size 1 (some ⟨w3.heap.size, 0, none⟩) 1 [.int .u8 32] := reads_block (t := 5) (heap_alloc_new _ _) rfl
            have hone : ∀ u ∈ ([.int .u8 32] : List Value), u.oneCell' = true := fun u hu => by rw [List.mem_singleton.1 hu]; rfl
            have hs1 : w2.heap.size ≤ (w3.alloc (.cells #[.int .u8 32] 5)).heap.size := by have := hb3.size; simp; omega
            have HOB3 := Lib.hid (own_under (own_under (own_under HOB.out HB2.out) hb3) (bone w3 (.cells #[.int .u8 32] 5)))
            have HB3 := Lib.hid hb3
            clear ho3 hb3
            go_wp2_with (first
              | (at_builtin; refine wpList_append_any _ rfl (.tmp 45) (.tmp 46) _ rfl w2.heap.size 5 i0 _ 1 1 Tryd.underlying22 hi0 hz0 hz1 hz2 rfl (by omega) _ k _ rfl hA1 (w3.alloc (.cells #[.int .u8 32] 5)).heap.size (some ⟨w3.heap.size, 0, none⟩) 1 1 [.int .u8 32] rfl hr1 hone (by simp only [maxLen]; omega) (by omega) hs1 ?_; intro v4 w4 hown4 hg4 hat4; clear hat4; have hg4' : (w3.alloc (.cells #[.int .u8 32] 5)).grownBy w4 (Value.slice A3 k c3).ownBlock := hg4; have hb4 : Below w2.heap.size w2 w4 := (bnew HB3.out (.cells #[.int .u8 32] 5)).grown hg4' hs1 (fun q hq => own_ge hA1 hq); obtain ⟨A4, c4, rfl⟩ := own_shape hown4; have hr4 : Reads w4 w4.heap.size 1 A2 q (bv ms) := Reads.of_own (own_under (own_under HOB.out HB2.out) hb4); have hs4 := hb4.size; have HG4 := Lib.hid hg4; have HB4 := Lib.hid hb4; clear hg4 hb4 hA1 hr1 hone hs1)
              | (at_builtin; refine wpList_append_any _ rfl (.tmp 47) (.tmp 48) _ rfl w2.heap.size 5 i0 _ 1 1 Tryd.underlying22 hi0 hz0 hz1 hz2 rfl (by omega) _ (k + 1) _ rfl hown4 w4.heap.size A2 q c2 (bv ms) rfl hr4 bv_one (by simp only [maxLen]; omega) (by omega) hs4 ?_))
            intro v5 w5 hown5 hg5 hat5
            clear hat5
            have hb5 : Below w2.heap.size w2 w5 := HB4.out.grown hg5 hs4 (fun q hq => own_ge hown4 hq)
            obtain ⟨A5, c5, rfl⟩ := own_shape hown5
            have hbv : bv bs ++ .int .u8 32 :: bv ms = bv (bs ++ 32 :: ms) := (by simp [bv]); rw [hbv] at hown5
            clear hbv
            have hlen5 : (bs ++ 32 :: ms).length = k + 1 + q := (by have h1 := HBL.out; have h2 := HML.out; simp only [List.length_append, List.length_cons]; omega)
            have hrd5 := read_any A5 (k + 1 + q) c5 (bs ++ 32 :: ms) wb2 l2 w5 hlen5 (Reads.of_own hown5) (by omega) HT2.out (HT.out.below (bto HBF.out hb5))
            have HBG := Lib.hid (bto HBF.out hb5)
            clear hown4 hown5 hg5 hb5 hr4 hs4
            go_wp2_with fail
            refine hrd5.mono ?_
            rintro e w6 ⟨hb6, hm6⟩
            rw [HP2.out] at hm6
            obtain rfl := hm6
            clear hrd5
            have HBF := Lib.hid (bto HBG.out hb6)
            clear hb6
            go_wp2_with fail
            go_ret
            exact ⟨rfl, HBF.out⟩
def tab0 : List Int := [1, 10, 100, 1000, 10000, 100000, 1000000, 10000000, 100000000, 1000000000, 10000000000, 100000000000, 1000000000000, 10000000000000, 100000000000000, 1000000000000000, 10000000000000000, 100000000000000000, 1000000000000000000, 10000000000000000000]
theorem gTab0 : Tryd.prog.globalNamed "internal/strconv.uint64pow10" = some 0 := by kernel_rfl
theorem gTabType0 : (Tryd.prog.globals[0]?).map (·.type) = some 204 := by kernel_rfl
theorem cellsA0 : Tryd.prog.cellsOf 204 = tab0.length := by kernel_rfl
theorem cellsE0 : Tryd.prog.cellsOf 154 = 1 := by kernel_rfl
theorem table0 {W : World} (h : laidMetH Tryd.prog Rows.wcspPlacesRow.laid W) : Lib.TabIs Tryd.prog W "internal/strconv.uint64pow10" .u64 tab0 :=
  Lib.tabIs_of_head gTab0 gTabType0 Tryd.underlying204 Tryd.underlying154 cellsE0 cellsA0 (laidMet.tail (laidMet.tail h))
theorem walk (a0 : Option Addr) (len0 cap0 : Nat) (z0 : List Int) (a1 : Option Addr) (len1 cap1 : Nat) (z1 : List Int) (w : World) (w0 : z0.length = len0 ∧ Reads w w.heap.size 1 a0 len0 (z0.map (Value.int .u8)) ∧ (∀ x ∈ z0, (Lit.int .u8 x).wf = true) ∧ len0 ≤ cap0 ∧ len0 ≤ 9223372036854775807) (w1 : z1.length = len1 ∧ Reads w w.heap.size 1 a1 len1 (z1.map (Value.int .u8)) ∧ (∀ x ∈ z1, (Lit.int .u8 x).wf = true) ∧ len1 ≤ cap1 ∧ len1 ≤ 9223372036854775807) (ht : Tab w) :
    Calls Tryd.prog 5 #[.slice a0 len0 cap0, .slice a1 len1 cap1] w fun e w' => e = .returned (.bool true) ∧ Below w.heap.size w w' := by
  obtain ⟨_, hr, hwf, hc, hl⟩ := w0
  obtain ⟨_, hr2, hwf2, hc2, hl2⟩ := w1
  obtain ⟨bs0, hbs⟩ := bytes_of hwf
  obtain ⟨bs1, hbs1⟩ := bytes_of hwf2
  rw [hbs] at hr
  rw [hbs1] at hr2
  exact core a0 a1 len0 len1 cap0 cap1 bs0 bs1 w hl hl2 hc hc2 hr hr2 ht

set_option maxRecDepth 100000 in
theorem contract (H : Type) (enc : TypeId × Value → H) (W : World) (base : Nat) (args : Array Value) (ds gs : List (DataW H)) (before : List MemPlace)
    (hval0 : ∀ (j : Nat) t v, Tryd.f5.params[j]? = some t → args[j]? = some v → Value.okWide Tryd.prog W .any base t v)
    (hW : DataW.Whole enc Tryd.prog Tryd.f5.params.toList Rows.wcspPlacesSpec.vars false W args.toList ds gs before) (hL : laidMetH Tryd.prog Rows.wcspPlacesRow.laid W) :
    Calls Tryd.prog 5 args W fun e W' => ∃ v, e = .returned v ∧ Rows.wcspPlacesSpec.post enc Tryd.prog Tryd.f5 false true false false W args v W' := by
  have hval : ∀ (j : Nat) t v, Tryd.f5.params[j]? = some t → args[j]? = some v → Value.okWide Tryd.prog W .any base t v := hval0
  have hW' := hW
  obtain ⟨p, q, hA0, hV, rfl, hfz, hnd⟩ := hW
  have hA : DataW.TrodAll enc Tryd.prog W 0 (fun _ => true) true Tryd.f5.params.toList args.toList ds p := hA0
  rw [Tryd.params5] at hA hval
  obtain ⟨v0, vs0, d0, ds0, p0, q0, hargs, rfl, rfl, h0, r0⟩ := trodAll_cons hA
  obtain ⟨v1, vs1, d1, ds1, p1, q1, rfl, rfl, rfl, h1, r1⟩ := trodAll_cons r0
  obtain ⟨rfl, rfl, rfl⟩ := trodAll_nil r1
  obtain rfl : args = #[v0, v1] := by cases args; simp_all
  obtain ⟨rfl, rfl⟩ := trodVars_none hV
  obtain ⟨a0, len0, cap0, rfl⟩ := okWide_slice Tryd.underlying22 (hval 0 22 v0 rfl rfl)
  have k0 := h0
  have lt0 : ∀ x ∈ p0, x.block < W.heap.size := by obtain ⟨m, hm⟩ := k0; exact DataW.trod_lt m _ _ _ hm
  obtain ⟨z0, w0⟩ := open_ones (Value.int .u8) (fun x => (Lit.int .u8 x).wf = true) Tryd.underlying22 (by kernel_rfl) (dec_int Tryd.underlying5) h0
  obtain ⟨a1, len1, cap1, rfl⟩ := okWide_slice Tryd.underlying22 (hval 1 22 v1 rfl rfl)
  have k1 := h1
  have lt1 : ∀ x ∈ p1, x.block < W.heap.size := by obtain ⟨m, hm⟩ := k1; exact DataW.trod_lt m _ _ _ hm
  obtain ⟨z1, w1⟩ := open_ones (Value.int .u8) (fun x => (Lit.int .u8 x).wf = true) Tryd.underlying22 (by kernel_rfl) (dec_int Tryd.underlying5) h1
  clear hA0 hval0
  have htab : Tab W := (pow_tab (table0 hL))
  refine (walk a0 len0 cap0 z0 a1 len1 cap1 z1 W w0 w1 htab).mono fun e W' ⟨he, bel⟩ => ?_
  subst he
  exact ⟨_, rfl, _, _, _, [], _, [], hW', trodAll_mk1 (shut_bool Tryd.underlying4 _), (trodAll_cons_mk (Below.trod laidOut (by kernel_rfl) (of_decide_eq_true (by kernel_rfl)) k0 bel lt0) (trodAll_cons_mk (Below.trod laidOut (by kernel_rfl) (of_decide_eq_true (by kernel_rfl)) k1 bel lt1) trodAll_mk0)), rfl, bel.frame _, fun h => by cases h⟩
noncomputable def laidWorld (os : Os) : World :=
  { World.holding Tryd.prog os ⟨#[], #[], []⟩ with heap := ((((World.holding Tryd.prog os ⟨#[], #[], []⟩).heap.modify 1 (fun | .cells _ t frozen => .cells #[.int .u8 0, .int .u8 1, .int .u8 28, .int .u8 2, .int .u8 29, .int .u8 14, .int .u8 24, .int .u8 3, .int .u8 30, .int .u8 22, .int .u8 20, .int .u8 15, .int .u8 25, .int .u8 17, .int .u8 4, .int .u8 8, .int .u8 31, .int .u8 27, .int .u8 13, .int .u8 23, .int .u8 21, .int .u8 19, .int .u8 16, .int .u8 7, .int .u8 26, .int .u8 12, .int .u8 18, .int .u8 6, .int .u8 11, .int .u8 5, .int .u8 10, .int .u8 9] t frozen | o => o)).modify 2 (fun | .cells _ t frozen => .cells #[.int .u8 0, .int .u8 1, .int .u8 56, .int .u8 2, .int .u8 57, .int .u8 49, .int .u8 28, .int .u8 3, .int .u8 61, .int .u8 58, .int .u8 42, .int .u8 50, .int .u8 38, .int .u8 29, .int .u8 17, .int .u8 4, .int .u8 62, .int .u8 47, .int .u8 59, .int .u8 36, .int .u8 45, .int .u8 43, .int .u8 51, .int .u8 22, .int .u8 53, .int .u8 39, .int .u8 33, .int .u8 30, .int .u8 24, .int .u8 18, .int .u8 12, .int .u8 5, .int .u8 63, .int .u8 55, .int .u8 48, .int .u8 27, .int .u8 60, .int .u8 41, .int .u8 37, .int .u8 16, .int .u8 46, .int .u8 35, .int .u8 44, .int .u8 21, .int .u8 52, .int .u8 32, .int .u8 23, .int .u8 11, .int .u8 54, .int .u8 26, .int .u8 40, .int .u8 15, .int .u8 34, .int .u8 20, .int .u8 31, .int .u8 10, .int .u8 25, .int .u8 14, .int .u8 19, .int .u8 9, .int .u8 13, .int .u8 8, .int .u8 7, .int .u8 6] t frozen | o => o)).modify 0 (fun | .cells _ t frozen => .cells #[.int .u64 1, .int .u64 10, .int .u64 100, .int .u64 1000, .int .u64 10000, .int .u64 100000, .int .u64 1000000, .int .u64 10000000, .int .u64 100000000, .int .u64 1000000000, .int .u64 10000000000, .int .u64 100000000000, .int .u64 1000000000000, .int .u64 10000000000000, .int .u64 100000000000000, .int .u64 1000000000000000, .int .u64 10000000000000000, .int .u64 100000000000000000, .int .u64 1000000000000000000, .int .u64 10000000000000000000] t frozen | o => o)) }
theorem laid_met (os : Os) : laidMet Tryd.prog Rows.wcspPlacesRow.laid ((laidWorld os).forCall (fun _ _ => 0) ⟨#[], #[.slice none 0 0, .slice none 0 0], []⟩).memory :=
  laidMet_of_run' 8 (by kernel_rfl) (by kernel_rfl)
theorem reads (os : Os) {H : Type} (enc : TypeId × Value → H) : ∃ places, DataW.whole enc Tryd.prog ((laidWorld os).forCall (fun _ _ => 0) ⟨#[], #[.slice none 0 0, .slice none 0 0], []⟩).memory Tryd.f5.params.toList Rows.wcspPlacesSpec.vars false (#[.slice none 0 0, .slice none 0 0] : Array Value).toList 8 = some ([.nil, .nil], [], places) :=
  ⟨[], by kernel_rfl⟩
set_option maxRecDepth 100000 in
theorem lifted (os : Os) (started : os.Started) (H : Type) (enc : TypeId × Value → H) (F : Stop.Interp) :
    ReturnsInHanded {} Tryd.checked os 5 .any ((OpenSpec.ofChange Rows.wcspPlacesSpec).preRow enc Tryd.prog Tryd.f5 Rows.wcspPlacesRow.domain false Rows.wcspPlacesRow.laid) (((OpenSpec.ofChange Rows.wcspPlacesSpec).at F).post enc Tryd.prog Tryd.f5 false true false false) := by
  obtain ⟨places, hx⟩ := reads os enc
  refine returnsInHanded_of_row (C := Tryd.checked) (s := OpenSpec.ofChange Rows.wcspPlacesSpec) own started (by kernel_rfl) Tryd.func5
    (witness_row_at (enc := enc) (C := Tryd.checked) false (laidWorld os) #[.slice none 0 0, .slice none 0 0] rfl (by kernel_rfl) (by kernel_rfl) (by kernel_rfl)
      (OpenSpec.preRow_of_cond 8 hx (by kernel_rfl) (fun k hk => by cases hk) (by kernel_rfl) (laid_met os))) ?_
  intro W base args ds gs before hval hW _ _ _ hL _ _
  exact contract H enc W base args ds gs before hval hW hL
theorem said : Rows.WcspPlacesSaid :=
  OpenClaim.holds_of_cond 5 Tryd.f5 rfl rfl rfl rfl rfl rfl rfl ⟨rfl, rfl, rfl, rfl, rfl⟩ rfl rfl rfl rfl rfl (by kernel_rfl) Tryd.func5 (by kernel_rfl)
    (of_decide_eq_true (by kernel_rfl)) (by unfold Func.isWrapper; first | (rw [if_pos (by decide +kernel)]; kernel_rfl) | (rw [if_neg (by decide +kernel)]; exact ⟨rfl, rfl⟩))
    (fun os started H enc _ F => by rw [OpenClaim.pre_eq_preRow]; exact lifted os started H enc F)
theorem plain (f : FuncId) (fn : Func) (hf : Tryd.pinned.checked.prog.funcNamed "pennyweight/pennyweightlaw07.WcspPlaces" = some f) (hfn : Tryd.pinned.checked.prog.funcs[f]? = some fn) :
    false = Tryd.pinned.checked.prog.looks [] ∧ ∀ (j : Nat) t, fn.params[j]? = some t → Tryd.pinned.checked.prog.wantsStandIn t = false := by
  obtain rfl : f = 5 := Option.some.inj ((show Tryd.prog.funcNamed "pennyweight/pennyweightlaw07.WcspPlaces" = some 5 by kernel_rfl).symm.trans hf) |>.symm
  obtain rfl : fn = Tryd.f5 := (Option.some.inj (Tryd.func5.symm.trans hfn)).symm
  refine ⟨by kernel_rfl, fun j t ht => ?_⟩
  rw [Tryd.params5] at ht
  have hm := Array.mem_of_getElem? ht
  simp only [Array.mem_def, List.mem_cons, List.not_mem_nil, or_false] at hm
  rcases hm with rfl | rfl <;> (show Tryd.prog.wantsStandIn _ = false; kernel_rfl)
theorem proved : Rows.WcspPlacesCardSaid :=
  Claim7.holds_tied_plain_at .later [] _ _ _ _ said (fun _ h => by cases h) (by kernel_rfl) (fun _ h => by cases h) wcspPlaces_row_tie rfl ⟨rfl, rfl⟩ (by kernel_rfl) rfl plain (by kernel_rfl)
end Go.Proofs.YtafdijfbgkcnnaaDoor.wcspPlaces
