/- For every input RatioWeights returns true; its arguments read as before. No condition. -/
import Derived.Test.YtnnlkjbnonkjmaaRows
import Derived.WalkKit
import Derived.ProofKit
import Derived.OpenShut
import Derived.ShutString
import Derived.ChangeOld
import Derived.Below
import Derived.Test.YtnnlkjbnonkjmaaOpen
import Derived.Test.YtnnlkjbnonkjmaaWtLaw
import Derived.Deep.LoopGhost
import Derived.Deep.DeepCutAuto
import Derived.Deep.CutBlock
import Derived.Deep.RegionWith
namespace Go.Proofs.Ytnnlkjbnonkjmaa.ratioWeights
open Go.Proofs.Ytnnlkjbnonkjmaa.flo Go.Proofs.Ytnnlkjbnonkjmaa.words
open Go.ChangeShapes Go.WideShapes Go.ChangeAt Go.RowKit
open Go.ChangeMaps (open_string shut_string)
set_option linter.unusedVariables false
theorem own : ownKnob Try.prog.godebug = none := by kernel_rfl
theorem laidOut : laidOutB Try.prog = true := by kernel_rfl
open Go Ieee
attribute [local go_sem] run_store_float
theorem float_wf {p : Nat} (h : (Lit.float .f64 p).wf = true) : p < 2 ^ 64 := by simpa [Lit.wf] using h
theorem wt_lt {B g : Nat} {w : World} {R : Option Nat} {fs : List Nat} (h : Wt w B g R fs) : g < w.heap.size ∧ ∀ r, R = some r → r < w.heap.size := by
  obtain ⟨_, A, c, h1, h2, h3⟩ := h
  exact ⟨h1.lt, fun r hr => (own_in h2 (h3.trans hr)).2⟩
theorem tw_base {B g : Nat} {R : Option Nat} {fs : List Nat} {w : World} (h : Wt w B g R fs) : ∀ i, i < B → ¬ Tw g R i := fun i hi e => by
  obtain ⟨hB, A, c, h1, h2, h3⟩ := h
  rcases e with e | e
  · omega
  · have := (own_in h2 (h3.trans e.symm)).1; omega
def slen (v : Value) : Int := match v with | .slice _ k _ => (k : Int) | _ => 0
theorem bnew' {B : Nat} {w w' : World} (h : Below B w w') {o : Obj} : B ≤ w'.heap.size → Below B w (w'.alloc o) := fun hB => h.alloc hB o
theorem infoI : (Try.prog.info? 3).map (fun i => (i.zero, i.size, i.bytes)) = some (some (.int .i64 0), 1, 8) := by kernel_rfl
def fillL (N j : Nat) : List Nat := List.replicate j 4607182418800017408 ++ List.replicate (N - j) 0
theorem fill_zero (N : Nat) : fillL N 0 = List.replicate N 0 := by unfold fillL; simp
theorem fill_all (N : Nat) : fillL N N = List.replicate N 4607182418800017408 := by unfold fillL; simp
theorem fill_len {N j : Nat} (h : j ≤ N) : (fillL N j).length = N := by unfold fillL; simp; omega
theorem fill_step {N j : Nat} (h : j < N) : (fillL N j).set j 4607182418800017408 = fillL N (j + 1) := by
  unfold fillL
  rw [List.set_append_right _ _ (by simp), List.length_replicate, Nat.sub_self, show N - j = (N - (j + 1)) + 1 by omega, List.replicate_succ, List.set_cons_zero, List.replicate_succ', List.append_assoc]
  rfl
theorem flts_rep (n : Nat) : (madeCells #[.float .f64 0] n).toList = flts (List.replicate n 0) := by
  rw [toList_madeCells_one]; unfold flts; rw [List.map_replicate]
theorem wt_below {w w' : World} {B g : Nat} {R : Option Nat} {fs : List Nat} (h : Wt w B g R fs) (hb : Below w.heap.size w w') : Wt w' B g R fs := by
  obtain ⟨hB, A, c, h1, h2, h3⟩ := h
  exact ⟨hB, A, c, h1.under hb, own_under h2 hb, h3⟩
theorem wt_tch {w w' : World} {B g : Nat} {R : Option Nat} {fs : List Nat} {S : Nat → Prop} (h : Wt w B g R fs) (ht : Tch w w' S) (hg : ¬ S g) (hR : ∀ r, R = some r → ¬ S r) : Wt w' B g R fs := by
  obtain ⟨hB, A, c, h1, h2, h3⟩ := h
  exact ⟨hB, A, c, ht.blk h1 hg, ht.own h2 fun q hq => hR q (h3.symm.trans hq), h3⟩
set_option maxRecDepth 100000 in
set_option maxHeartbeats 8000000 in
theorem core (A C : Option Addr) (n cap m cap2 u : Nat) (zs : List WA) (js : List Int) (w : World) (hl : zs.length = n) (hn : n ≤ 9223372036854775807) (hm : m ≤ 9223372036854775807) (hu : u < 256) (hnc : n ≤ cap) (hmc : m ≤ cap2) (hr : Reads w w.heap.size 3 A n (zs.flatMap waV)) (hQ : ∀ a ∈ zs, waQ a) (hrj : Reads w w.heap.size 1 C m (nums js)) :
    Calls Try.prog 7 #[.int .u8 u, .slice A n cap, .slice C m cap2] w fun e w' => e = .returned (.bool true) ∧ Below w.heap.size w w' := by
  obtain ⟨i0, hi0, hz0, hz1, hz2⟩ := info_parts infoF
  obtain ⟨N, hN⟩ : ∃ N, u % 12 = N := ⟨_, rfl⟩
  have hN12 : N < 12 := by omega
  have hNI : (u : Int) % 12 = (N : Int) := by omega
  have hmk := fun W => run_make_rowN (P := Try.prog) 22 24 i0 _ Try.underlying22 hi0 hz0 .i64 .i64 N N (Nat.le_refl _) (by rw [hz2]; omega) (by omega) W
  simp only [hz1, Nat.mul_one] at hmk
  have hcel : (Value.float .f64 0).cells = #[.float .f64 0] := by kernel_rfl
  rw [hcel] at hmk
  have HL := Lib.hid hl
  have HR := Lib.hid hr
  have HQ := Lib.hid hQ
  clear hN hl hr hQ
  go_enter Try.func7, Try.ntmps7
  go_wp2_with fail
  refine (awake_any w).mono ?_
  rintro e w1 ⟨rfl, hb1⟩
  go_wp2_with fail
  refine (new_any (N : Int) w1 (by omega)).mono ?_
  rintro e w2 ⟨⟨g, R0, rfl, hw2⟩, hb2⟩
  rw [Int.toNat_natCast] at hw2
  go_wp2_with fail
  have hB2 : Below w1.heap.size w1 (w2.alloc (.cells (madeCells #[.float .f64 0] N) 24)) := bnew hb2 _
  have hwt2 : Wt (w2.alloc (.cells (madeCells #[.float .f64 0] N) 24)) w1.heap.size g R0 (List.replicate N 4607182418800017408) := wt_below hw2 (bone _ _)
  have hX2 : (w2.alloc (.cells (madeCells #[.float .f64 0] N) 24)).ownsRow w1.heap.size 24 1 (.slice (some ⟨w2.heap.size, 0, none⟩) N N) N (flts (fillL N 0)) := by
    rw [fill_zero, ← flts_rep]
    exact World.ownsRow_lit w2 _ N hb2.size (by unfold maxLen; omega) (by simp [madeCells])
  have hap2 : R0 ≠ some w2.heap.size := fun e => by
    obtain ⟨_, A', c', _, ho, hR⟩ := hw2
    have := (own_in ho (q := w2.heap.size) (by rw [hR]; exact e)).2
    omega
  have hgl : g < w2.heap.size := by obtain ⟨_, A', c', hb, _⟩ := hw2; exact hb.lt
  have HB1 := Lib.hid hb1
  clear hmk hb2 hw2 hb1
  obtain ⟨q, hq⟩ : ∃ q, w2.heap.size = q := ⟨_, rfl⟩
  obtain ⟨w3, hw3⟩ : ∃ w3, w2.alloc (.cells (madeCells #[.float .f64 0] N) 24) = w3 := ⟨_, rfl⟩
  rw [hw3] at hB2 hwt2 hX2 ⊢
  rw [hq] at hX2 hap2 hgl ⊢
  clear hw3 hq
  go_loopw [10, 32] (fun _ iv wr => ∃ j : Nat, j ≤ N ∧ iv = .int .i64 j ∧ wr.ownsRow w1.heap.size 24 1 (.slice (some ⟨q, 0, none⟩) N N) N (flts (fillL N j)) ∧ Tch w3 wr (fun b => b = q)) (fun _ iv _ => N - (intOf iv).toNat)
  case atStart => exact ⟨0, by omega, rfl, hX2, Tch.refl _ _⟩
  case round =>
    obtain ⟨j, hj, rfl, hX, ht⟩ := hrel
    by_cases hlt : j < N
    · have hc0 : ∃ v, wr.cell? ⟨q, j, none⟩ = some v := ⟨_, (hX.cellAt j (by omega)).trans (List.getElem?_eq_getElem (by unfold flts; rw [List.length_map, fill_len (by omega)]; exact hlt))⟩
      obtain ⟨v, hc⟩ := hc0
      have hf := hX.frozenAt j
      have hst := (hX.stored j (.float .f64 4607182418800017408)).1
      rw [flts_set, fill_step hlt] at hst
      have HS := Lib.hid hst
      have j0 : (0 : Int) ≤ (j : Int) := Int.natCast_nonneg _
      have j1 : (j : Int) < (N : Int) := by omega
      clear hX hst
      go_wp2
      go_roundw
      case rel => exact ⟨j + 1, by omega, by go_num, HS.out, ht.put (p := ⟨q, j, none⟩) _ rfl⟩
      case measure => simp [intOf]; omega
    · obtain rfl : j = N := by omega
      have htw : Two w1.heap.size g (List.replicate j 4607182418800017408) (List.replicate j 4607182418800017408) (.slice (some ⟨q, 0, none⟩) j j) wr := by
        refine ⟨R0, wt_tch hwt2 ht (fun e => by omega) (fun r hr e => hap2 (by rw [hr, e])), ?_, fun b hb e => ?_, .refl _⟩
        · rw [List.length_replicate, ← fill_all]; exact hX
        · have : q = b := by simpa [Value.ownBlock] using hb
          exact hap2 (by rw [e, this])
      have hBr : Below w1.heap.size w1 wr := hB2.trans (ht.below (B := w1.heap.size) hB2.size fun i hi e => by
        have := (own_in hX2 (q := q) rfl).1
        omega)
      clear hX ht hwt2 hX2 hB2
      go_wp2_with fail
      obtain ⟨wo, rfl⟩ : ∃ wo : World, wo = wr := ⟨_, rfl⟩
      go_loopw [9, 41] (fun xv iv wr => ∃ (i : Nat) (fs xs : List Nat) (Ax : Option Addr) (cx : Nat), i ≤ n ∧ iv = .int .i64 i ∧ xv = .slice Ax xs.length cx ∧ xs.length ≤ 30 ∧ Two w1.heap.size g fs xs (.slice Ax xs.length cx) wr ∧ Below w1.heap.size w1 wr) (fun _ iv _ => n - (intOf iv).toNat)
      case atStart => exact ⟨0, _, List.replicate j 4607182418800017408, some ⟨q, 0, none⟩, j, by omega, rfl, by rw [List.length_replicate], by rw [List.length_replicate]; omega, by rw [List.length_replicate]; exact htw, hBr⟩
      case round =>
        clear htw hBr
        obtain ⟨i, fs, xs, Ax, cx, hi, rfl, rfl, hx30, htw, hB⟩ := hrel
        have hBw : Below w.heap.size w wr := bto HB1.out hB
        by_cases hlt : i < n
        · obtain ⟨ad, d, x, p, rfl, hz, c0, c1, c2⟩ := wa_at HR.out hBw HL.out hlt
          have c1' : wr.cell? { block := (ad.add (i * 3)).block, off := (ad.add (i * 3)).off + 1 } = some (.int .i64 x) := by rw [← c1, ← Go.Deep.add_add]; rfl
          have c2' : wr.cell? { block := (ad.add (i * 3)).block, off := (ad.add (i * 3)).off + 2 } = some (.float .f64 p) := by rw [← c2, ← Go.Deep.add_add]; rfl
          obtain ⟨dn, hdn, hd⟩ := wf_u8 (x := d) (HQ.out _ (List.mem_of_getElem? hz)).1
          obtain ⟨x0, x1⟩ := wf_i64 (HQ.out _ (List.mem_of_getElem? hz)).2.1
          subst hdn
          clear c1 c2 hz
          by_cases h40 : i < 40
          · have g8 : decide ((40 : Int) ≤ (i : Int)) = false := decide_eq_false (by omega)
            obtain ⟨r4, hr4, hr4l⟩ : ∃ r : Nat, (dn : Int) % 4 = (r : Int) ∧ r < 4 := ⟨dn % 4, by omega, by omega⟩
            have hbx := Blk.new wr 41 #[.int .u8 dn, .int .i64 x, .float .f64 p]
            have htb := two_below htw (bone wr (.cells #[.int .u8 dn, .int .i64 x, .float .f64 p] 41))
            have hBb := bnew hB (.cells #[.int .u8 dn, .int .i64 x, .float .f64 p] 41)
            obtain ⟨k0, k1, k2⟩ : (wr.alloc (.cells #[.int .u8 dn, .int .i64 x, .float .f64 p] 41)).cell? ⟨wr.heap.size, 0, none⟩ = some (.int .u8 dn) ∧ (wr.alloc (.cells #[.int .u8 dn, .int .i64 x, .float .f64 p] 41)).cell? ⟨wr.heap.size, 1, none⟩ = some (.int .i64 x) ∧ (wr.alloc (.cells #[.int .u8 dn, .int .i64 x, .float .f64 p] 41)).cell? ⟨wr.heap.size, 2, none⟩ = some (.float .f64 p) := ⟨hbx.cell 0, hbx.cell 1, hbx.cell 2⟩
            have hl0 : Two w1.heap.size g fs xs (.slice Ax xs.length cx) wr := htw
            have H0 := Lib.hid hl0
            have HTB := Lib.hid htb
            have HBB := Lib.hid hBb
            have HBX := Lib.hid hbx
            have hB0 := Lib.hid hB.size
            clear htw hl0 htb hBb hbx hB hBw
            obtain ⟨k, hk⟩ : ∃ k, xs.length = k := ⟨_, rfl⟩
            rw [hk] at hx30 ⊢
            have HK := Lib.hid hk
            clear hk
            by_cases hr2 : r4 = 2
            · subst hr2
              have hr4' : (dn : Int) % 4 = 2 := hr4
              clear hr4 hr4l
              obtain ⟨R, hwt0, hX0, hap, hsm⟩ := H0.out
              have hwt := wt_below hwt0 (bone wr (.cells #[.int .u8 dn, .int .i64 x, .float .f64 p] 41))
              have hX := own_under hX0 (bone wr (.cells #[.int .u8 dn, .int .i64 x, .float .f64 p] 41))
              have hfl : fs.length = k := by rw [hsm.1, HK.out]
              obtain ⟨hgw, hRw⟩ := wt_lt hwt0
              have hdec := decay_any _ _ _ _ _ p hwt (by omega)
              obtain ⟨bx, hbx⟩ : ∃ b, wr.heap.size = b := ⟨_, rfl⟩
              obtain ⟨wb, hwb⟩ : ∃ wb, wr.alloc (.cells #[.int .u8 dn, .int .i64 x, .float .f64 p] 41) = wb := ⟨_, rfl⟩
              have hbx0 := HBX.out
              have hBb := HBB.out
              rw [hwb] at hbx0 hBb hdec hX k0 k1 k2
              rw [hbx] at hbx0 k0 k1 k2
              rw [hbx] at hgw hRw
              rw [HK.out] at hX hap
              have hne : ∀ q, (Value.slice Ax k cx).ownBlock = some q → q ≠ g := fun q hq e => by
                obtain ⟨_, A', c', hb', _⟩ := hwt
                rw [hwb] at hb'
                exact own_blk_ne hX hb' (by decide) (by rw [hq, e])
              have hdec' := Lib.hid hdec
              have HWB := Lib.hid hwb
              have HBX2 := Lib.hid hbx
              have HSM := Lib.hid hsm
              have HFL := Lib.hid hfl
              clear hwt hwt0 hsm hfl hdec
              go_wp2_with fail
              refine hdec'.out.mono ?_
              rintro e w5 ⟨rfl, gs, hmg, hw5, ht5⟩
              have hnb : ¬ (Value.slice Ax k cx).ownBlock = some bx := fun e => by
                have := (own_in hX0 (by rw [HK.out]; exact e)).2
                omega
              have hX5 := ht5.own hX (fun q hq e => by
                rcases e with e | e
                · exact hne q hq e
                · exact hap q hq e.symm)
              have hbx5 := ht5.blk hbx0 (fun e => by
                rcases e with e | e
                · omega
                · have := hRw bx e.symm; omega)
              have hB5 : Below w1.heap.size w1 w5 := hBb.trans (ht5.below hBb.size (tw_base hw5))
              clear hdec' hwb hbx hX hbx0 hBb
              go_wp2_with fail
              obtain ⟨wz, rfl⟩ : ∃ wz : World, wz = wr := ⟨_, rfl⟩
              go_loopw [13, 97] (fun _ iv w' => ∃ (j : Nat) (ys : List Nat), j ≤ k ∧ iv = .int .i64 j ∧ MulTo xs ys p j ∧ w'.ownsRow w1.heap.size 24 1 (.slice Ax k cx) k (flts ys) ∧ Tch w5 w' (fun b => (Value.slice Ax k cx).ownBlock = some b)) (fun _ iv _ => k - (intOf iv).toNat)
              case atStart => exact ⟨0, xs, by omega, rfl, mulTo_zero _ _, hX5, Tch.refl _ _⟩
              case round =>
                obtain ⟨jj, ys, hjj, rfl, hmy, hXw, htx⟩ := hrel
                have hyl : ys.length = k := by rw [hmy.1, HK.out]
                by_cases hjk : jj < k
                · obtain ⟨r, rfl, hr1, hr2⟩ := own_some hXw (by omega)
                  obtain ⟨v, hv⟩ : ∃ v, ys.getD jj 0 = v := ⟨_, rfl⟩
                  have hcv : wr.cell? ⟨r, jj, none⟩ = some (.float .f64 v) := by
                    rw [hXw.cellAt jj (by omega)]
                    unfold flts
                    rw [List.getElem?_map, List.getElem?_eq_getElem (by omega), ← hv]
                    simp [List.getD, List.getElem?_eq_getElem (show jj < ys.length by omega)]
                  have hfv := hXw.frozenAt jj
                  have hkb := (htx.blk hbx5 (fun e => by
                    have := (own_in hX5 e).1
                    have := hB5.size
                    have h1 := (own_in hX5 e).2
                    exact hnb e)).cell 2
                  obtain ⟨rr, W, hrun, hW, hop⟩ := run_op Try.prog .mul (.inr (.inl rfl)) 24 v p wr.drew
                  rw [← hv] at hop
                  have HM := Lib.hid (mulTo_step hmy (by rw [HK.out]; exact hjk) hop)
                  have j0 : (0 : Int) ≤ (jj : Int) := Int.natCast_nonneg _
                  have j1 : (jj : Int) < (k : Int) := by omega
                  have hcW : W.cell? ⟨r, jj, none⟩ = some (.float .f64 v) := by rcases hW with rfl | rfl <;> exact hcv
                  have hfW : W.frozen? ⟨r, jj, none⟩ = false := by rcases hW with rfl | rfl <;> exact hfv
                  have hXW : W.ownsRow w1.heap.size 24 1 (.slice (some ⟨r, 0, none⟩) k cx) k (flts ys) := by rcases hW with rfl | rfl <;> exact hXw
                  have htW : Tch w5 W (fun b => (Value.slice (some ⟨r, 0, none⟩) k cx).ownBlock = some b) := by
                    rcases hW with rfl | rfl
                    · exact htx.drew
                    · exact htx.drew.drew
                  have hXS := (hXW.stored jj (.float .f64 rr)).1
                  rw [flts_set] at hXS
                  have HXS := Lib.hid hXS
                  have HTX := Lib.hid htW
                  clear hmy hXw htx hyl hop hv hW hXW htW hXS
                  go_wp2_with fail
                  go_region
                  go_wp2
                  go_roundw
                  case rel => exact ⟨jj + 1, ys.set jj rr, by omega, by go_num, HM.out, HXS.out, HTX.out.put (p := ⟨r, jj, none⟩) _ rfl⟩
                  case measure => simp [intOf]; omega
                · obtain rfl : jj = k := by omega
                  have htwo : Two w1.heap.size g gs ys (.slice Ax ys.length cx) wr := by
                    refine ⟨R, wt_tch hw5 htx (fun e => hne g e rfl) (fun r hr e => hap r e hr), ?_, ?_, mul_sames HSM.out (by rw [HFL.out] at hmg ⊢; exact hmg) (by rw [HK.out]; exact hmy)⟩
                    · rw [hyl]; exact hXw
                    · rw [hyl]; exact hap
                  have HTWO := Lib.hid htwo
                  have HBF : Hid (Below w1.heap.size w1 wr) := hB5.trans (htx.below hB5.size fun i hi e => by have := (own_in hX5 e).1; omega)
                  have HYL := Lib.hid hyl
                  clear hmy hXw htx hyl htwo hX5 hbx5 hw5 ht5 hB5 hmg hX0 hap hne
                  go_wp2_with fail
                  go_roundw
                  case rel => exact ⟨i + 1, gs, ys, Ax, cx, by omega, by go_num, by rw [HYL.out], by rw [HYL.out]; exact hx30, HTWO.out, HBF.out⟩
                  case measure => simp [intOf]; omega
            · by_cases hr3 : r4 = 3
              · obtain rfl : r4 = 3 := hr3
                have hr4' : (dn : Int) % 4 = 3 := hr4
                clear hr4 hr4l hr2
                obtain ⟨mm, hmm⟩ : ∃ mm, min x 30 = mm := ⟨_, rfl⟩
                have hmm2 : (if (30 : Int) < x then (30 : Int) else x) = mm := by split <;> omega
                have mm30 : mm ≤ 30 := by omega
                have mmx : mm ≤ x := by omega
                obtain ⟨R, hwt0, hX0, hap, hsm⟩ := H0.out
                have hwt := wt_below hwt0 (bone wr (.cells #[.int .u8 dn, .int .i64 x, .float .f64 p] 41))
                have hX := own_under hX0 (bone wr (.cells #[.int .u8 dn, .int .i64 x, .float .f64 p] 41))
                have hfl : fs.length = k := by rw [hsm.1, HK.out]
                obtain ⟨hgw, hRw⟩ := wt_lt hwt0
                have hcall := grow_any _ _ _ _ _ mm hwt (by rw [World.size_alloc]; have := hB0.out; omega) (by omega) (by omega)
                obtain ⟨bx, hbx⟩ : ∃ b, wr.heap.size = b := ⟨_, rfl⟩
                obtain ⟨wb, hwb⟩ : ∃ wb, wr.alloc (.cells #[.int .u8 dn, .int .i64 x, .float .f64 p] 41) = wb := ⟨_, rfl⟩
                have hbx0 := HBX.out
                have hBb := HBB.out
                rw [hwb] at hbx0 hBb hcall hX k0 k1 k2
                rw [hbx] at hbx0 k0 k1 k2
                rw [hbx] at hgw hRw
                rw [HK.out] at hX hap
                have hne : ∀ q, (Value.slice Ax k cx).ownBlock = some q → q ≠ g := fun q hq e => by
                  obtain ⟨_, A', c', hb', _⟩ := hwt
                  rw [hwb] at hb'
                  exact own_blk_ne hX hb' (by decide) (by rw [hq, e])
                have hcall' := Lib.hid hcall
                have hnb : ¬ (Value.slice Ax k cx).ownBlock = some bx := fun e => by
                  have := (own_in hX0 (by rw [HK.out]; exact e)).2
                  omega
                have HSM := Lib.hid hsm
                have HFL := Lib.hid hfl
                have hwtb := hwt
                rw [hwb] at hwtb
                have HMM := Lib.hid hmm
                clear hwt hwt0 hsm hfl hcall
                go_wp2_with fail
                refine hcall'.out.mono ?_
                rintro e w5 ⟨rfl, ⟨R5, hw5, hR5⟩, ht5⟩
                have hX5 := ht5.own hX (fun q hq e => by
                  rcases e with e | e
                  · exact hne q hq e
                  · exact hap q hq e.symm)
                have hap5 : ∀ q, (Value.slice Ax k cx).ownBlock = some q → R5 ≠ some q := fun q hq e => by
                  rcases hR5 with h | ⟨k', h, hk'⟩
                  · exact hap q hq (h ▸ e)
                  · rw [h] at e
                    injection e with e
                    have := (own_in hX hq).2
                    omega
                have hB5 : Below w1.heap.size w1 w5 := hBb.trans (ht5.below hBb.size (tw_base hwtb))
                rw [HFL.out] at hw5
                clear hcall' hwb hbx hX hbx0 hBb hwtb hmm
                go_wp2_with fail
                obtain ⟨wz, rfl⟩ : ∃ wz : World, wz = wr := ⟨_, rfl⟩
                go_loopw [9] (fun xv w' => ∃ (c : Nat) (Az : Option Addr) (cz : Nat), xv = .slice Az (k + c) cz ∧ (c : Int) ≤ max (mm - k) 0 ∧ w'.ownsRow w1.heap.size 24 1 (.slice Az (k + c) cz) (k + c) (flts (xs ++ List.replicate c 4607182418800017408)) ∧
                  Wt w' w1.heap.size g R5 (fs ++ List.replicate (mm.toNat - k) 4607182418800017408) ∧ (∀ q, (Value.slice Az (k + c) cz).ownBlock = some q → R5 ≠ some q) ∧ Below w1.heap.size w1 w') (fun xv _ => (mm - slen xv).toNat)
                case atStart => exact ⟨0, Ax, cx, rfl, by omega, by simpa using hX5, hw5, hap5, hB5⟩
                case round =>
                  clear hX5 hw5 hap5 hB5
                  obtain ⟨c, Az, cz, rfl, hc, hXw, hww, hapw, hBw⟩ := hrel
                  obtain ⟨k5, hk5⟩ : ∃ k5, k + c = k5 := ⟨_, rfl⟩
                  rw [hk5] at hXw hapw ⊢
                  by_cases hlt5 : (k5 : Int) < mm
                  · have ho1 := hXw.alloc (.cells #[.float .f64 4607182418800017408] 24)
                    have hr1 : Reads (wr.alloc (.cells #[.float .f64 4607182418800017408] 24)) (wr.alloc (.cells #[.float .f64 4607182418800017408] 24)).heap.size 1 (some ⟨wr.heap.size, 0, none⟩) 1 (flts [4607182418800017408]) := reads_block (t := 24) (heap_alloc_new _ _) rfl
                    have HK5 := Lib.hid hk5
                    have hbs := hBw.size
                    have HWW := Lib.hid hww
                    have HXW := Lib.hid hXw
                    have HAP := Lib.hid hapw
                    have HBW := Lib.hid hBw
                    clear hk5 hww hXw hapw hBw
                    go_wp2_with (first
                      | (at_builtin; refine wpList_append_any _ rfl (.tmp 121) (.tmp 122) _ rfl w1.heap.size 24 i0 _ 1 8 Try.underlying22 hi0 hz0 hz1 hz2 rfl (by omega) _ k5 _ rfl ho1 (wr.alloc (.cells #[.float .f64 4607182418800017408] 24)).heap.size (some ⟨wr.heap.size, 0, none⟩) 1 1 (flts [4607182418800017408]) rfl hr1 flts_one (by simp only [maxLen]; omega) (by omega) (by simp; omega) ?_; intro v1 w6 hown hg1 hat; obtain ⟨A2, c2, rfl⟩ := own_shape hown)
                      | fail)
                    go_roundw
                    case rel =>
                      have hg2 : (wr.alloc (.cells #[.float .f64 4607182418800017408] 24)).grownBy w6 (Value.slice Az k5 cz).ownBlock := hg1
                      have hk6 : k + (c + 1) = k5 + 1 := by have := HK5.out; omega
                      refine ⟨c + 1, A2, c2, by rw [hk6], by have := HK5.out; omega, ?_, ?_, ?_, ?_⟩
                      · rw [hk6]
                        rw [show flts (xs ++ List.replicate (c + 1) 4607182418800017408) = flts (xs ++ List.replicate c 4607182418800017408) ++ flts [4607182418800017408] by unfold flts; rw [← List.map_append, List.append_assoc]; congr 2; rw [List.replicate_succ']]
                        exact hown
                      · obtain ⟨hBg, Aw, cw, h1, h2, h3⟩ := HWW.out
                        refine ⟨hBg, Aw, cw, (h1.alloc _).grown hg2 fun e => own_blk_ne HXW.out h1 (by decide) e.symm, (h2.alloc _).kept hg2 ?_, h3⟩
                        cases hrw : (Value.slice Aw (fs ++ List.replicate (mm.toNat - k) 4607182418800017408).length cw).ownBlock with
                        | none => exact .inl rfl
                        | some q => exact .inr fun e => HAP.out q e.symm (h3.symm.trans hrw)
                      · rw [hk6]
                        intro q hq e
                        rcases hat with h | h
                        · exact HAP.out q (h.symm.trans hq) e
                        · have : q = wr.heap.size + 1 := by
                            have := h.symm.trans hq
                            injection this with this
                            rw [← this, World.size_alloc]
                          have := (wt_lt HWW.out).2 q e
                          omega
                      · exact (bnew' HBW.out hbs).grown hg2 (by simp; omega) fun k' hk' => (ho1.lt k' hk').1
                    case measure => simp [slen]; omega
                  · have hce : mm.toNat - k = c := by omega
                    have htwo : Two w1.heap.size g (fs ++ List.replicate c 4607182418800017408) (xs ++ List.replicate c 4607182418800017408) (.slice Az k5 cz) wr := by
                      rw [hce] at hww
                      refine ⟨R5, hww, ?_, hapw, HSM.out.app _ _⟩
                      rw [List.length_append, List.length_replicate, HK.out, hk5]; exact hXw
                    have hl5 : (xs ++ List.replicate c 4607182418800017408).length = k5 := by rw [List.length_append, List.length_replicate, HK.out, hk5]
                    have HTWO := Lib.hid htwo
                    have HL5 := Lib.hid hl5
                    have HBW := Lib.hid hBw
                    have k530 : k5 ≤ 30 := by omega
                    clear htwo hl5 hXw hww hapw hBw hk5 hX0 hap hne hnb hce
                    go_wp2_with fail
                    go_roundw
                    case rel => exact ⟨i + 1, _, xs ++ List.replicate c 4607182418800017408, Az, cz, by omega, by go_num, by rw [HL5.out], by rw [HL5.out]; exact k530, by rw [HL5.out]; exact HTWO.out, HBW.out⟩
                    case measure => simp [intOf]; omega
              · clear hr4l
                obtain ⟨R, hwt0, hX0, hap, hsm⟩ := H0.out
                have hwt := wt_below hwt0 (bone wr (.cells #[.int .u8 dn, .int .i64 x, .float .f64 p] 41))
                have hX := own_under hX0 (bone wr (.cells #[.int .u8 dn, .int .i64 x, .float .f64 p] 41))
                have hfl : fs.length = k := by rw [hsm.1, HK.out]
                obtain ⟨hgw, hRw⟩ := wt_lt hwt0
                have q2 : (((dn : Int) % 4) == 2) = false := by simp; omega
                have q3 : (((dn : Int) % 4) == 3) = false := by simp; omega
                have q2' : ((r4 : Int) == 2) = false := by simp; omega
                have q3' : ((r4 : Int) == 3) = false := by simp; omega
                obtain ⟨bx, hbx⟩ : ∃ b, wr.heap.size = b := ⟨_, rfl⟩
                obtain ⟨wb, hwb⟩ : ∃ wb, wr.alloc (.cells #[.int .u8 dn, .int .i64 x, .float .f64 p] 41) = wb := ⟨_, rfl⟩
                have hbx0 := HBX.out
                have hBb := HBB.out
                have hTb := HTB.out
                rw [hwb] at hbx0 hBb hX k0 k1 k2 hTb hwt
                rw [hbx] at hbx0 k0 k1 k2
                rw [hbx] at hgw hRw
                rw [HK.out] at hX hap hTb
                have hne : ∀ q, (Value.slice Ax k cx).ownBlock = some q → q ≠ g := fun q hq e => by
                  obtain ⟨_, A', c', hb', _⟩ := hwt
                  exact own_blk_ne hX hb' (by decide) (by rw [hq, e])
                have hnb : ¬ (Value.slice Ax k cx).ownBlock = some bx := fun e => by
                  have := (own_in hX0 (by rw [HK.out]; exact e)).2
                  omega
                have HSM := Lib.hid hsm
                have HFL := Lib.hid hfl
                have hnp := nan_key p
                change (FloatKind.f64.format.order p p != some .eq) = _ at hnp
                cases hkp : key p with
                | none =>
                  rw [hkp] at hnp
                  simp only [Option.isNone_none] at hnp
                  have hcall := Lib.hid (bump_nan _ _ _ _ _ x p hwt hkp)
                  have HTb := Lib.hid hTb
                  have HBb := Lib.hid hBb
                  clear hsm hfl hkp hTb hBb hwt0 hwt hX0 hX hap hne hnb hbx0
                  go_wp2_with fail
                  refine hcall.out.mono ?_
                  rintro e w5 ⟨rfl, rfl⟩
                  go_wp2_with fail
                  go_roundw
                  case rel => exact ⟨i + 1, fs, xs, Ax, cx, by omega, by go_num, by rw [HK.out], by rw [HK.out]; exact hx30, by rw [HK.out]; exact HTb.out, HBb.out⟩
                  case measure => simp [intOf]; omega
                | some kk =>
                  rw [hkp] at hnp
                  simp only [Option.isNone_some] at hnp
                  by_cases hjo : x < 0 ∨ (k : Int) ≤ x
                  · have hcall := Lib.hid (bump_out _ _ _ _ _ x p 0 kk hwt hkp (by rw [HFL.out]; exact hjo))
                    have HTb := Lib.hid hTb
                    have HBb := Lib.hid hBb
                    clear hsm hfl hkp hTb hBb hwt0 hwt hX0 hX hap hne hnb hbx0
                    by_cases hx0 : x < 0
                    · clear hjo
                      go_wp2_with fail
                      refine hcall.out.mono ?_
                      rintro e w5 ⟨rfl, rfl⟩
                      go_wp2_with fail
                      go_roundw
                      case rel => exact ⟨i + 1, fs, xs, Ax, cx, by omega, by go_num, by rw [HK.out], by rw [HK.out]; exact hx30, by rw [HK.out]; exact HTb.out, HBb.out⟩
                      case measure => simp [intOf]; omega
                    · have hxk : (k : Int) ≤ x := by omega
                      clear hjo
                      go_wp2_with fail
                      refine hcall.out.mono ?_
                      rintro e w5 ⟨rfl, rfl⟩
                      go_wp2_with fail
                      go_roundw
                      case rel => exact ⟨i + 1, fs, xs, Ax, cx, by omega, by go_num, by rw [HK.out], by rw [HK.out]; exact hx30, by rw [HK.out]; exact HTb.out, HBb.out⟩
                      case measure => simp [intOf]; omega
                  · obtain ⟨jj, rfl⟩ := Int.eq_ofNat_of_zero_le (show 0 ≤ x by omega)
                    have hjk : jj < k := by omega
                    have hcall := Lib.hid (bump_in _ _ _ _ _ jj p kk hwt hkp (by rw [HFL.out]; exact hjk))
                    have j0 : (0 : Int) ≤ (jj : Int) := Int.natCast_nonneg _
                    have j1 : (jj : Int) < (k : Int) := by omega
                    have hwtb := hwt
                    clear hsm hfl hkp hTb hwt0 hwt hjo
                    go_wp2_with fail
                    refine hcall.out.mono ?_
                    rintro e w5 ⟨rfl, r1, hop1, hw5, ht5⟩
                    have hX5 := ht5.own hX (fun q hq e => by
                      rcases e with e | e
                      · exact hne q hq e
                      · exact hap q hq e.symm)
                    have hbx5 := ht5.blk hbx0 (fun e => by
                      rcases e with e | e
                      · omega
                      · have := hRw bx e.symm; omega)
                    have hB5 : Below w1.heap.size w1 w5 := hBb.trans (ht5.below hBb.size (tw_base hwtb))
                    obtain ⟨r, rfl, hr1, hr2⟩ := own_some hX5 (by omega)
                    obtain ⟨v, hv⟩ : ∃ v, xs.getD jj 0 = v := ⟨_, rfl⟩
                    have hxl := HK.out
                    have hcv : w5.cell? ⟨r, jj, none⟩ = some (.float .f64 v) := by
                      rw [hX5.cellAt jj (by omega)]
                      unfold flts
                      rw [List.getElem?_map, List.getElem?_eq_getElem (by omega), ← hv]
                      simp [List.getD, List.getElem?_eq_getElem (show jj < xs.length by omega)]
                    have hfv := hX5.frozenAt jj
                    have hkb1 : w5.cell? ⟨bx, 1, none⟩ = some (.int .i64 (jj : Int)) := hbx5.cell 1
                    have hkb2 : w5.cell? ⟨bx, 2, none⟩ = some (.float .f64 p) := hbx5.cell 2
                    obtain ⟨rr, W, hrun, hW, hop⟩ := run_op Try.prog .add (.inl rfl) 24 v p w5.drew
                    have hcW : W.cell? ⟨r, jj, none⟩ = some (.float .f64 v) := by rcases hW with rfl | rfl <;> exact hcv
                    have hfW : W.frozen? ⟨r, jj, none⟩ = false := by rcases hW with rfl | rfl <;> exact hfv
                    have hXW : W.ownsRow w1.heap.size 24 1 (.slice (some ⟨r, 0, none⟩) k cx) k (flts xs) := by rcases hW with rfl | rfl <;> exact hX5
                    have htW : Tch w5 W (fun b => b = r) := by
                      rcases hW with rfl | rfl
                      · exact (Tch.refl _ _).drew
                      · exact (Tch.refl _ _).drew.drew
                    have hXS := (hXW.stored jj (.float .f64 rr)).1
                    rw [flts_set] at hXS
                    have htS := htW.put (p := ⟨r, jj, none⟩) (.float .f64 rr) rfl
                    have hsame : Same r1 rr := by
                      refine add_same (HSM.out.2 jj) (.refl p) hop1 ?_
                      rw [hv]; exact hop
                    have htwo : Two w1.heap.size g (fs.set jj r1) (xs.set jj rr) (.slice (some ⟨r, 0, none⟩) k cx) (W.setCell ⟨r, jj, none⟩ (.float .f64 rr)) := by
                      refine ⟨R, wt_tch hw5 htS (fun e => hne r rfl e.symm) (fun q hq e => hap r rfl (hq.trans (by rw [e]))), ?_, hap, HSM.out.set_ (by rw [HFL.out]; exact hjk) hsame⟩
                      rw [List.length_set, HK.out]; exact hXS
                    have HTWO := Lib.hid htwo
                    have HBF : Hid (Below w1.heap.size w1 (W.setCell ⟨r, jj, none⟩ (.float .f64 rr))) := hB5.trans (htS.below hB5.size fun i hi e => by omega)
                    have hll : (xs.set jj rr).length = k := by rw [List.length_set, HK.out]
                    have HLL := Lib.hid hll
                    clear hcall hop1 hw5 ht5 hX5 hbx5 hB5 hv hW hop hXW htW hXS htS hsame htwo hll hX0 hX hap hne hnb hbx0 hBb hwtb hxl
                    go_wp2_with fail
                    go_region
                    go_wp2
                    go_roundw
                    case rel => exact ⟨i + 1, fs.set jj r1, xs.set jj rr, some ⟨r, 0, none⟩, cx, by omega, by go_num, by rw [HLL.out], by rw [HLL.out]; exact hx30, by rw [HLL.out]; exact HTWO.out, HBF.out⟩
                    case measure => simp [intOf]; omega
          · have g8 : decide ((40 : Int) ≤ (i : Int)) = true := decide_eq_true (by omega)
            have hT0 := two_below htw (bone wr (.cells #[.int .u8 dn, .int .i64 x, .float .f64 p] 41))
            have hB0 := bnew hBw (.cells #[.int .u8 dn, .int .i64 x, .float .f64 p] 41)
            obtain ⟨wv, hwv⟩ : ∃ wv : World, wr.alloc (.cells #[.int .u8 dn, .int .i64 x, .float .f64 p] 41) = wv := ⟨_, rfl⟩
            obtain ⟨bx, hbx⟩ : ∃ b, wr.heap.size = b := ⟨_, rfl⟩
            rw [hwv] at hT0 hB0
            obtain ⟨k, hk⟩ : ∃ k, xs.length = k := ⟨_, rfl⟩
            rw [hk] at hx30 hT0 ⊢
            have HK := Lib.hid hk
            clear hk
            have hTv : Two w1.heap.size g fs xs (.slice Ax k cx) wv := hT0
            have hBwv : Below w.heap.size w wv := hB0
            clear htw hB hBw hT0 hB0 
            obtain ⟨mj, hmj, mj1, mj2, -⟩ := min_nat m 20
            have hmj' : (if (20 : Int) < (m : Int) then (20 : Int) else (m : Int)) = (mj : Int) := hmj
            have hmj2 : min (m : Int) 20 = (mj : Int) := by split at hmj' <;> omega
            have mjc : (mj : Int) ≤ (cap2 : Int) := by omega
            have mj0 : (0 : Int) ≤ (mj : Int) := Int.natCast_nonneg _
            have hrm := (((hrj.lift hBwv).take_ mj1).alloc (Nat.le_refl _) (.cells #[] 3))
            have hlit := World.ownsRow_lit (base := wv.heap.size) (e := 3) (size := 1) wv #[] 0 (Nat.le_refl _) (by unfold maxLen; omega) rfl
            have hone : ∀ u ∈ (nums js).take mj, u.oneCell' = true := fun u hu => nums_one u (List.mem_of_mem_take hu)
            obtain ⟨i1, hi1, hy0, hy1, hy2⟩ := info_parts infoI
            have HTV := Lib.hid hTv
            have HBV := Lib.hid hBwv
            clear hmj hTv hBwv
            go_wp2_with (first
              | (at_builtin; refine wpList_append_any _ rfl (.tmp 125) (.tmp 130) _ rfl wv.heap.size 3 i1 _ 1 8 Try.underlying37 hi1 hy0 hy1 hy2 rfl (by omega) _ 0 [] rfl hlit wv.heap.size C mj cap2 ((nums js).take mj) rfl hrm hone (by simp only [maxLen]; omega) (by omega) (by simp) ?_; intro v2 w6 hown hg2 hat; clear hat; rw [Nat.zero_add, List.nil_append] at hown; obtain ⟨A2, c2, rfl⟩ := own_shape hown)
              | fail)
            have hg3 : (wv.alloc (.cells #[] 3)).grownBy w6 (some wv.heap.size) := hg2
            have hb6 : Below wv.heap.size wv w6 := (bone wv (.cells #[] 3)).grown hg3 (by simp) (by simp)
            obtain ⟨ys, hys⟩ : ∃ ys, ys = js.take mj := ⟨_, rfl⟩
            rw [show (nums js).take mj = nums ys by rw [hys]; unfold nums; rw [List.map_take]] at hown
            have hT6 := two_below HTV.out hb6
            have hB6 := bto HBV.out hb6
            have hry := Reads.of_own hown
            have hyl := nums_len hry
            obtain ⟨R, hw6, hX6, hap6, hsm6⟩ := hT6
            rw [HK.out] at hX6
            have HSM := Lib.hid hsm6
            have HB6 := Lib.hid hB6
            have HYL := Lib.hid hyl
            clear hown hg2 hg3 hb6 hys hap6 hsm6 hB6 hmj' hmj2
            go_loopw [16, 18, 134] (fun sv _ iv w' => ∃ (jj s kk : Nat), jj ≤ mj ∧ iv = .int .i64 jj ∧ sv = .float .f64 s ∧ SumTo xs (ys.take jj) s ∧ w' = w6.drewN kk) (fun _ _ iv _ => mj - (intOf iv).toNat)
            case atStart => exact ⟨0, 0, 0, by omega, rfl, rfl, .nil, rfl⟩
            case round =>
              obtain ⟨jj, s, kk, hjj, rfl, rfl, hs, rfl⟩ := hrel
              by_cases hlt5 : jj < mj
              · obtain ⟨al, x, rfl, _, hx, hcx⟩ := hry.num hlt5
                obtain ⟨rr, W, hrun, hW, hop⟩ := run_op Try.prog .add (.inl rfl) 24 s (ofF xs x) (w6.drewN kk)
                have hs2 := SumTo.snoc x hs hop
                rw [show ys.take jj ++ [x] = ys.take (jj + 1) by rw [List.take_add_one, hx]; rfl] at hs2
                have hWk : ∃ k3, W = w6.drewN k3 := by
                  rcases hW with rfl | rfl
                  · exact ⟨kk, rfl⟩
                  · exact ⟨kk + 1, rfl⟩
                obtain ⟨k3, rfl⟩ := hWk
                have hck : (w6.drewN kk).cell? (al.add jj) = some (.int .i64 x) := hcx
                have HS := Lib.hid hs2
                clear hs hs2 hx hop hW hcx
                by_cases hx0 : 0 ≤ x
                · obtain ⟨xn, rfl⟩ := Int.eq_ofNat_of_zero_le hx0
                  by_cases hxk : xn < k
                  · obtain ⟨ax, y, rfl, _, hy, hcy⟩ := Reads.flt (Reads.of_own hX6) hxk
                    have hof : ofF xs (xn : Int) = y := by unfold ofF; rw [if_pos (by omega)]; simp [hy]
                    rw [hof] at hrun
                    have hcyk : (w6.drewN kk).cell? (ax.add xn) = some (.float .f64 y) := hcy
                    have z0 : (0 : Int) ≤ (xn : Int) := Int.natCast_nonneg _
                    have z1 : (xn : Int) < (k : Int) := by omega
                    clear hy hof hcy
                    go_wp2_with fail
                    go_roundw
                    case rel => exact ⟨jj + 1, rr, k3, by omega, by go_num, rfl, HS.out, rfl⟩
                    case measure => simp [intOf]; omega
                  · have hof : ofF xs (xn : Int) = 0 := by unfold ofF; rw [if_pos (by omega)]; simp [List.getElem?_eq_none (show xs.length ≤ xn by have := HK.out; omega)]
                    rw [hof] at hrun
                    have z1 : (k : Int) ≤ (xn : Int) := by omega
                    clear hof
                    go_wp2_with fail
                    go_roundw
                    case rel => exact ⟨jj + 1, rr, k3, by omega, by go_num, rfl, HS.out, rfl⟩
                    case measure => simp [intOf]; omega
                · have hof : ofF xs x = 0 := by unfold ofF; rw [if_neg hx0]
                  rw [hof] at hrun
                  clear hof
                  go_wp2_with fail
                  go_roundw
                  case rel => exact ⟨jj + 1, rr, k3, by omega, by go_num, rfl, HS.out, rfl⟩
                  case measure => simp [intOf]; omega
              · obtain rfl : jj = mj := by omega
                rw [List.take_of_length_le (by omega)] at hs
                have hwk : Wt (w6.drewN kk) w1.heap.size g R fs := hw6
                have hle := len_any _ _ _ _ _ hwk
                rw [HSM.out.1, HK.out] at hle
                have hsu := sum_any (w6.drewN kk) _ _ _ _ A2 jj c2 ys hwk (by have h1 := hw6.1; have h2 := (wt_lt hw6).1; show w1.heap.size ≤ w6.heap.size; omega) (by omega) hry
                have HS := Lib.hid hs
                have hkk : ((k : Int) != (k : Int)) = false := by simp
                clear hs hwk
                go_wp2_with fail
                refine hle.mono ?_
                rintro e w7 ⟨rfl, rfl⟩
                clear hle
                go_wp2_with fail
                refine hsu.mono ?_
                rintro e w7 ⟨s2, rfl, hs2, k2, rfl⟩
                have hsa := same_any s2 s (sum_len hs2 HSM.out HS.out)
                obtain ⟨W7, hW7⟩ : ∃ W7, (w6.drewN kk).drewN k2 = W7 := ⟨_, rfl⟩
                have hw7 : Wt W7 w1.heap.size g R fs := by rw [← hW7]; exact hw6
                have hX7 : W7.ownsRow w1.heap.size 24 1 (.slice Ax k cx) k (flts xs) := by rw [← hW7]; exact hX6
                have hB7 : Below w.heap.size w W7 := by rw [← hW7]; exact below_drewN (below_drewN HB6.out _) _
                rw [hW7]
                clear hsu hs2 hW7
                go_wp2_with fail
                refine (hsa W7).mono ?_
                rintro e w7 ⟨rfl, rfl⟩
                clear hsa
                go_wp2_with fail
                go_loop [19, 20] (fun iv _ => ∃ jj : Int, iv = .int .i64 jj ∧ -1 ≤ jj ∧ jj ≤ (k : Int) + 1) (fun iv _ => ((k : Int) + 1 - intOf iv).toNat)
                case atStart => exact ⟨-1, rfl, by omega, by omega⟩
                case round =>
                  obtain ⟨jj, rfl, hj1, hj2⟩ := hrel
                  have hof := of_any W7 _ _ _ _ jj hw7
                  obtain ⟨a, ha⟩ : ∃ a, ofF fs jj = a := ⟨_, rfl⟩
                  have hsm := of_sames HSM.out jj
                  rw [ha] at hof hsm
                  have HW7 := Lib.hid hw7
                  have HX7 := Lib.hid hX7
                  by_cases hjn : jj < 0
                  · obtain rfl : jj = -1 := by omega
                    have hofx : ofF xs (-1) = 0 := by unfold ofF; rw [if_neg (by omega)]
                    rw [hofx] at hsm
                    have hsa := same_any a 0 hsm W7
                    clear hofx hsm ha hw7 hX7
                    go_wp2_with (first
                      | (go_at_call 25; (with_reducible refine (hof).mono ?_); rintro e w' ⟨rfl, rfl⟩)
                      | (go_at_call 18; (with_reducible refine (hsa).mono ?_); rintro e w' ⟨rfl, rfl⟩))
                    go_round
                    case rel => exact ⟨0, rfl, by omega, by omega⟩
                    case measure => simp [intOf]; omega
                  · obtain ⟨xn, rfl⟩ := Int.eq_ofNat_of_zero_le (show 0 ≤ jj by omega)
                    have z0 : (0 : Int) ≤ (xn : Int) := Int.natCast_nonneg _
                    by_cases hxk : xn < k
                    · obtain ⟨ax, y, rfl, _, hy, hcy⟩ := Reads.flt (Reads.of_own hX7) hxk
                      have hofx : ofF xs (xn : Int) = y := by unfold ofF; rw [if_pos (by omega)]; simp [hy]
                      rw [hofx] at hsm
                      have hsa := same_any a y hsm W7
                      have z1 : (xn : Int) < (k : Int) := by omega
                      clear hofx hsm ha hw7 hX7 hy
                      go_wp2_with (first
                        | (go_at_call 25; (with_reducible refine (hof).mono ?_); rintro e w' ⟨rfl, rfl⟩)
                        | (go_at_call 18; (with_reducible refine (hsa).mono ?_); rintro e w' ⟨rfl, rfl⟩))
                      go_round
                      case rel => exact ⟨(xn : Int) + 1, rfl, by omega, by omega⟩
                      case measure => simp [intOf]; omega
                    · by_cases hxe : xn = k
                      · have hofx : ofF xs (xn : Int) = 0 := by unfold ofF; rw [if_pos (by omega)]; simp [List.getElem?_eq_none (show xs.length ≤ xn by have := HK.out; omega)]
                        rw [hofx] at hsm
                        have hsa := same_any a 0 hsm W7
                        have z1 : (k : Int) ≤ (xn : Int) := by omega
                        have z2 : (xn : Int) ≤ (k : Int) := by omega
                        clear hofx hsm ha hw7 hX7 hxe
                        go_wp2_with (first
                          | (go_at_call 25; (with_reducible refine (hof).mono ?_); rintro e w' ⟨rfl, rfl⟩)
                          | (go_at_call 18; (with_reducible refine (hsa).mono ?_); rintro e w' ⟨rfl, rfl⟩))
                        go_round
                        case rel => exact ⟨(xn : Int) + 1, rfl, by omega, by omega⟩
                        case measure => simp [intOf]; omega
                      · have z2 : (k : Int) < (xn : Int) := by omega
                        clear hsm ha hw7 hX7 hof
                        go_wp2_with fail
                        go_ret
                        exact ⟨rfl, hB7⟩
        · obtain ⟨k, hk⟩ : ∃ k, xs.length = k := ⟨_, rfl⟩
          rw [hk] at hx30 htw ⊢
          have HK := Lib.hid hk
          clear hk
          have hTv : Two w1.heap.size g fs xs (.slice Ax k cx) wr := htw
          have hBwv : Below w.heap.size w wr := hBw
          clear htw hB hBw
          obtain ⟨wv, hwv⟩ : ∃ wv : World, wv = wr := ⟨_, rfl⟩
          subst hwv
          obtain ⟨mj, hmj, mj1, mj2, -⟩ := min_nat m 20
          have hmj' : (if (20 : Int) < (m : Int) then (20 : Int) else (m : Int)) = (mj : Int) := hmj
          have hmj2 : min (m : Int) 20 = (mj : Int) := by split at hmj' <;> omega
          have mjc : (mj : Int) ≤ (cap2 : Int) := by omega
          have mj0 : (0 : Int) ≤ (mj : Int) := Int.natCast_nonneg _
          have hrm := (((hrj.lift hBwv).take_ mj1).alloc (Nat.le_refl _) (.cells #[] 3))
          have hlit := World.ownsRow_lit (base := wv.heap.size) (e := 3) (size := 1) wv #[] 0 (Nat.le_refl _) (by unfold maxLen; omega) rfl
          have hone : ∀ u ∈ (nums js).take mj, u.oneCell' = true := fun u hu => nums_one u (List.mem_of_mem_take hu)
          obtain ⟨i1, hi1, hy0, hy1, hy2⟩ := info_parts infoI
          have HTV := Lib.hid hTv
          have HBV := Lib.hid hBwv
          clear hmj hTv hBwv
          go_wp2_with (first
            | (at_builtin; refine wpList_append_any _ rfl (.tmp 125) (.tmp 130) _ rfl wv.heap.size 3 i1 _ 1 8 Try.underlying37 hi1 hy0 hy1 hy2 rfl (by omega) _ 0 [] rfl hlit wv.heap.size C mj cap2 ((nums js).take mj) rfl hrm hone (by simp only [maxLen]; omega) (by omega) (by simp) ?_; intro v2 w6 hown hg2 hat; clear hat; rw [Nat.zero_add, List.nil_append] at hown; obtain ⟨A2, c2, rfl⟩ := own_shape hown)
            | fail)
          have hg3 : (wv.alloc (.cells #[] 3)).grownBy w6 (some wv.heap.size) := hg2
          have hb6 : Below wv.heap.size wv w6 := (bone wv (.cells #[] 3)).grown hg3 (by simp) (by simp)
          obtain ⟨ys, hys⟩ : ∃ ys, ys = js.take mj := ⟨_, rfl⟩
          rw [show (nums js).take mj = nums ys by rw [hys]; unfold nums; rw [List.map_take]] at hown
          have hT6 := two_below HTV.out hb6
          have hB6 := bto HBV.out hb6
          have hry := Reads.of_own hown
          have hyl := nums_len hry
          obtain ⟨R, hw6, hX6, hap6, hsm6⟩ := hT6
          rw [HK.out] at hX6
          have HSM := Lib.hid hsm6
          have HB6 := Lib.hid hB6
          have HYL := Lib.hid hyl
          clear hown hg2 hg3 hb6 hys hap6 hsm6 hB6 hmj' hmj2
          go_loopw [16, 18, 134] (fun sv _ iv w' => ∃ (jj s kk : Nat), jj ≤ mj ∧ iv = .int .i64 jj ∧ sv = .float .f64 s ∧ SumTo xs (ys.take jj) s ∧ w' = w6.drewN kk) (fun _ _ iv _ => mj - (intOf iv).toNat)
          case atStart => exact ⟨0, 0, 0, by omega, rfl, rfl, .nil, rfl⟩
          case round =>
            obtain ⟨jj, s, kk, hjj, rfl, rfl, hs, rfl⟩ := hrel
            by_cases hlt5 : jj < mj
            · obtain ⟨al, x, rfl, _, hx, hcx⟩ := hry.num hlt5
              obtain ⟨rr, W, hrun, hW, hop⟩ := run_op Try.prog .add (.inl rfl) 24 s (ofF xs x) (w6.drewN kk)
              have hs2 := SumTo.snoc x hs hop
              rw [show ys.take jj ++ [x] = ys.take (jj + 1) by rw [List.take_add_one, hx]; rfl] at hs2
              have hWk : ∃ k3, W = w6.drewN k3 := by
                rcases hW with rfl | rfl
                · exact ⟨kk, rfl⟩
                · exact ⟨kk + 1, rfl⟩
              obtain ⟨k3, rfl⟩ := hWk
              have hck : (w6.drewN kk).cell? (al.add jj) = some (.int .i64 x) := hcx
              have HS := Lib.hid hs2
              clear hs hs2 hx hop hW hcx
              by_cases hx0 : 0 ≤ x
              · obtain ⟨xn, rfl⟩ := Int.eq_ofNat_of_zero_le hx0
                by_cases hxk : xn < k
                · obtain ⟨ax, y, rfl, _, hy, hcy⟩ := Reads.flt (Reads.of_own hX6) hxk
                  have hof : ofF xs (xn : Int) = y := by unfold ofF; rw [if_pos (by omega)]; simp [hy]
                  rw [hof] at hrun
                  have hcyk : (w6.drewN kk).cell? (ax.add xn) = some (.float .f64 y) := hcy
                  have z0 : (0 : Int) ≤ (xn : Int) := Int.natCast_nonneg _
                  have z1 : (xn : Int) < (k : Int) := by omega
                  clear hy hof hcy
                  go_wp2_with fail
                  go_roundw
                  case rel => exact ⟨jj + 1, rr, k3, by omega, by go_num, rfl, HS.out, rfl⟩
                  case measure => simp [intOf]; omega
                · have hof : ofF xs (xn : Int) = 0 := by unfold ofF; rw [if_pos (by omega)]; simp [List.getElem?_eq_none (show xs.length ≤ xn by have := HK.out; omega)]
                  rw [hof] at hrun
                  have z1 : (k : Int) ≤ (xn : Int) := by omega
                  clear hof
                  go_wp2_with fail
                  go_roundw
                  case rel => exact ⟨jj + 1, rr, k3, by omega, by go_num, rfl, HS.out, rfl⟩
                  case measure => simp [intOf]; omega
              · have hof : ofF xs x = 0 := by unfold ofF; rw [if_neg hx0]
                rw [hof] at hrun
                clear hof
                go_wp2_with fail
                go_roundw
                case rel => exact ⟨jj + 1, rr, k3, by omega, by go_num, rfl, HS.out, rfl⟩
                case measure => simp [intOf]; omega
            · obtain rfl : jj = mj := by omega
              rw [List.take_of_length_le (by omega)] at hs
              have hwk : Wt (w6.drewN kk) w1.heap.size g R fs := hw6
              have hle := len_any _ _ _ _ _ hwk
              rw [HSM.out.1, HK.out] at hle
              have hsu := sum_any (w6.drewN kk) _ _ _ _ A2 jj c2 ys hwk (by have h1 := hw6.1; have h2 := (wt_lt hw6).1; show w1.heap.size ≤ w6.heap.size; omega) (by omega) hry
              have HS := Lib.hid hs
              have hkk : ((k : Int) != (k : Int)) = false := by simp
              clear hs hwk
              go_wp2_with fail
              refine hle.mono ?_
              rintro e w7 ⟨rfl, rfl⟩
              clear hle
              go_wp2_with fail
              refine hsu.mono ?_
              rintro e w7 ⟨s2, rfl, hs2, k2, rfl⟩
              have hsa := same_any s2 s (sum_len hs2 HSM.out HS.out)
              obtain ⟨W7, hW7⟩ : ∃ W7, (w6.drewN kk).drewN k2 = W7 := ⟨_, rfl⟩
              have hw7 : Wt W7 w1.heap.size g R fs := by rw [← hW7]; exact hw6
              have hX7 : W7.ownsRow w1.heap.size 24 1 (.slice Ax k cx) k (flts xs) := by rw [← hW7]; exact hX6
              have hB7 : Below w.heap.size w W7 := by rw [← hW7]; exact below_drewN (below_drewN HB6.out _) _
              rw [hW7]
              clear hsu hs2 hW7
              go_wp2_with fail
              refine (hsa W7).mono ?_
              rintro e w7 ⟨rfl, rfl⟩
              clear hsa
              go_wp2_with fail
              go_loop [19, 20] (fun iv _ => ∃ jj : Int, iv = .int .i64 jj ∧ -1 ≤ jj ∧ jj ≤ (k : Int) + 1) (fun iv _ => ((k : Int) + 1 - intOf iv).toNat)
              case atStart => exact ⟨-1, rfl, by omega, by omega⟩
              case round =>
                obtain ⟨jj, rfl, hj1, hj2⟩ := hrel
                have hof := of_any W7 _ _ _ _ jj hw7
                obtain ⟨a, ha⟩ : ∃ a, ofF fs jj = a := ⟨_, rfl⟩
                have hsm := of_sames HSM.out jj
                rw [ha] at hof hsm
                have HW7 := Lib.hid hw7
                have HX7 := Lib.hid hX7
                by_cases hjn : jj < 0
                · obtain rfl : jj = -1 := by omega
                  have hofx : ofF xs (-1) = 0 := by unfold ofF; rw [if_neg (by omega)]
                  rw [hofx] at hsm
                  have hsa := same_any a 0 hsm W7
                  clear hofx hsm ha hw7 hX7
                  go_wp2_with (first
                    | (go_at_call 25; (with_reducible refine (hof).mono ?_); rintro e w' ⟨rfl, rfl⟩)
                    | (go_at_call 18; (with_reducible refine (hsa).mono ?_); rintro e w' ⟨rfl, rfl⟩))
                  go_round
                  case rel => exact ⟨0, rfl, by omega, by omega⟩
                  case measure => simp [intOf]; omega
                · obtain ⟨xn, rfl⟩ := Int.eq_ofNat_of_zero_le (show 0 ≤ jj by omega)
                  have z0 : (0 : Int) ≤ (xn : Int) := Int.natCast_nonneg _
                  by_cases hxk : xn < k
                  · obtain ⟨ax, y, rfl, _, hy, hcy⟩ := Reads.flt (Reads.of_own hX7) hxk
                    have hofx : ofF xs (xn : Int) = y := by unfold ofF; rw [if_pos (by omega)]; simp [hy]
                    rw [hofx] at hsm
                    have hsa := same_any a y hsm W7
                    have z1 : (xn : Int) < (k : Int) := by omega
                    clear hofx hsm ha hw7 hX7 hy
                    go_wp2_with (first
                      | (go_at_call 25; (with_reducible refine (hof).mono ?_); rintro e w' ⟨rfl, rfl⟩)
                      | (go_at_call 18; (with_reducible refine (hsa).mono ?_); rintro e w' ⟨rfl, rfl⟩))
                    go_round
                    case rel => exact ⟨(xn : Int) + 1, rfl, by omega, by omega⟩
                    case measure => simp [intOf]; omega
                  · by_cases hxe : xn = k
                    · have hofx : ofF xs (xn : Int) = 0 := by unfold ofF; rw [if_pos (by omega)]; simp [List.getElem?_eq_none (show xs.length ≤ xn by have := HK.out; omega)]
                      rw [hofx] at hsm
                      have hsa := same_any a 0 hsm W7
                      have z1 : (k : Int) ≤ (xn : Int) := by omega
                      have z2 : (xn : Int) ≤ (k : Int) := by omega
                      clear hofx hsm ha hw7 hX7 hxe
                      go_wp2_with (first
                        | (go_at_call 25; (with_reducible refine (hof).mono ?_); rintro e w' ⟨rfl, rfl⟩)
                        | (go_at_call 18; (with_reducible refine (hsa).mono ?_); rintro e w' ⟨rfl, rfl⟩))
                      go_round
                      case rel => exact ⟨(xn : Int) + 1, rfl, by omega, by omega⟩
                      case measure => simp [intOf]; omega
                    · have z2 : (k : Int) < (xn : Int) := by omega
                      clear hsm ha hw7 hX7 hof
                      go_wp2_with fail
                      go_ret
                      exact ⟨rfl, hB7⟩
theorem walk (a0 : Int) (a1 : Option Addr) (len1 cap1 : Nat) (z1 : List WA) (a2 : Option Addr) (len2 cap2 : Nat) (z2 : List Int) (w : World) (w0 : (Lit.int .u8 a0).wf = true) (w1 : z1.length = len1 ∧ Reads w w.heap.size 3 a1 len1 (z1.flatMap waV) ∧ (∀ x ∈ z1, waQ x) ∧ len1 ≤ cap1 ∧ len1 ≤ 9223372036854775807) (w2 : z2.length = len2 ∧ Reads w w.heap.size 1 a2 len2 (z2.map (Value.int .i64)) ∧ (∀ x ∈ z2, (Lit.int .i64 x).wf = true) ∧ len2 ≤ cap2 ∧ len2 ≤ 9223372036854775807) :
    Calls Try.prog 7 #[.int .u8 a0, .slice a1 len1 cap1, .slice a2 len2 cap2] w fun e w' => e = .returned (.bool true) ∧ Below w.heap.size w w' := by
  obtain ⟨hl, hr, hQ, hc, hn⟩ := w1
  obtain ⟨u, rfl, hu⟩ := wf_u8 w0
  obtain ⟨hl2, hr2, hQ2, hc2, hn2⟩ := w2
  exact core a1 a2 len1 cap1 len2 cap2 u z1 z2 w hl hn hn2 hu hc hc2 hr hQ hr2

set_option maxRecDepth 100000 in
theorem lifted (os : Os) (started : os.Started) (H : Type) (enc : TypeId × Value → H) :
    ReturnsInHanded {} Try.checked os 7 .any (Rows.ratioWeightsSpec.pre6 enc Try.prog Try.f7 Rows.ratioWeightsRow.domain false) (Rows.ratioWeightsSpec.post enc Try.prog Try.f7 false true false false) := by
  refine returnsInHanded_of_change (C := Try.checked) own started (by kernel_rfl) Try.func7
    (ChangeSpec.witness6 (enc := enc) (C := Try.checked) false ⟨#[], #[.int .u8 0, .slice none 0 0, .slice none 0 0], []⟩ 8 (by kernel_rfl) (by kernel_rfl) (by kernel_rfl) (by kernel_rfl)) ?_
  intro W base args ds gs before hval0 hW hcnd _
  have hval : ∀ (j : Nat) t v, Try.f7.params[j]? = some t → args[j]? = some v → Value.okWide Try.prog W .any base t v := hval0
  have hW' := hW
  obtain ⟨p, q, hA0, hV, rfl, hfz, hnd⟩ := hW
  have hA : DataW.TrodAll enc Try.prog W 0 (fun _ => true) true Try.f7.params.toList args.toList ds p := hA0
  rw [Try.params7] at hA hval
  obtain ⟨v0, vs0, d0, ds0, p0, q0, hargs, rfl, rfl, h0, r0⟩ := trodAll_cons hA
  obtain ⟨v1, vs1, d1, ds1, p1, q1, rfl, rfl, rfl, h1, r1⟩ := trodAll_cons r0
  obtain ⟨v2, vs2, d2, ds2, p2, q2, rfl, rfl, rfl, h2, r2⟩ := trodAll_cons r1
  obtain ⟨rfl, rfl, rfl⟩ := trodAll_nil r2
  obtain rfl : args = #[v0, v1, v2] := by cases args; simp_all
  obtain ⟨rfl, rfl⟩ := trodVars_none hV
  obtain ⟨a0, rfl, rfl, rfl, w0⟩ := open_int Try.underlying5 (hval 0 5 v0 rfl rfl) h0
  obtain ⟨a1, len1, cap1, rfl⟩ := okWide_slice Try.underlying36 (hval 1 36 v1 rfl rfl)
  have k1 := h1
  have lt1 : ∀ x ∈ p1, x.block < W.heap.size := by obtain ⟨m, hm⟩ := k1; exact DataW.trod_lt m _ _ _ hm
  obtain ⟨z1, w1⟩ := open_rows (s := 3) waV waQ (fun _ => rfl) (by decide) Try.underlying36 (by kernel_rfl) dec_wa h1
  obtain ⟨a2, len2, cap2, rfl⟩ := okWide_slice Try.underlying37 (hval 2 37 v2 rfl rfl)
  have k2 := h2
  have lt2 : ∀ x ∈ p2, x.block < W.heap.size := by obtain ⟨m, hm⟩ := k2; exact DataW.trod_lt m _ _ _ hm
  obtain ⟨z2, w2⟩ := open_ones (Value.int .i64) (fun x => (Lit.int .i64 x).wf = true) Try.underlying37 (by kernel_rfl) (dec_int Try.underlying3) h2
  clear hA0 hval0
  refine (walk a0 a1 len1 cap1 z1 a2 len2 cap2 z2 W w0 w1 w2).mono fun e W' ⟨he, bel⟩ => ?_
  subst he
  exact ⟨_, rfl, _, _, _, [], _, [], hW', trodAll_mk1 (shut_bool Try.underlying4 _), (trodAll_cons_mk (shut_int Try.underlying5 w0) (trodAll_cons_mk (Below.trod laidOut (by kernel_rfl) (of_decide_eq_true (by kernel_rfl)) k1 bel lt1) (trodAll_cons_mk (Below.trod laidOut (by kernel_rfl) (of_decide_eq_true (by kernel_rfl)) k2 bel lt2) trodAll_mk0))), rfl, bel.frame _, fun h => by cases h⟩
theorem over : Rows.ratioWeightsRow.holds Try.pinned (OpenSpec.ofChange Rows.ratioWeightsSpec) :=
  OpenClaim.holds_of_wide 7 Try.f7 rfl rfl rfl rfl rfl rfl rfl ⟨rfl, rfl, rfl, rfl, rfl⟩ rfl rfl rfl rfl rfl (by kernel_rfl) Try.func7 (by kernel_rfl)
    (of_decide_eq_true (by kernel_rfl)) (by unfold Func.isWrapper; first | (rw [if_pos (by decide +kernel)]; kernel_rfl) | (rw [if_neg (by decide +kernel)]; exact ⟨rfl, rfl⟩))
    (fun os started H enc _ => lifted os started H enc)
theorem proved : Rows.RatioWeightsSaid := over
end Go.Proofs.Ytnnlkjbnonkjmaa.ratioWeights
