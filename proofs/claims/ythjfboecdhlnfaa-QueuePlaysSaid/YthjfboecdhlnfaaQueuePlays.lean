/- For every input QueuePlays returns true; its arguments read as before. No condition. -/
import Derived.Test.YthjfboecdhlnfaaRows
import Derived.WalkKit
import Derived.ProofKit
import Derived.OpenShut
import Derived.ShutString
import Derived.ChangeOld
import Derived.Below
import Derived.Test.YthjfboecdhlnfaaOpen
import Derived.Test.YthjfboecdhlnfaaQuSt
import Derived.Deep.LoopGhost
import Derived.Deep.DeepCutAuto
import Derived.Deep.CutBlock
import Derived.Deep.RegionWith
namespace Go.Proofs.Ythjfboecdhlnfaa.queuePlays
open Go.Proofs.Ythjfboecdhlnfaa.que Go.Proofs.Ythjfboecdhlnfaa.words
open Go.ChangeShapes Go.WideShapes Go.ChangeAt Go.RowKit
open Go.ChangeMaps (open_string shut_string)
set_option linter.unusedVariables false
theorem own : ownKnob Try.prog.godebug = none := by kernel_rfl
theorem laidOut : laidOutB Try.prog = true := by kernel_rfl
theorem act_at {w : World} {n : Nat} {A : Option Addr} {zs : List ActT} (h : Reads w w.heap.size 3 A n (zs.flatMap actV)) {w' : World} (hb : Below w.heap.size w w') {i : Nat} (hl : zs.length = n) (hi : i < n) :
    ∃ ad d x p, A = some ad ∧ zs[i]? = some (d, x, p) ∧ w'.cell? (ad.add (i * 3)) = some (.int .u8 d) ∧ w'.cell? (ad.add (i * 3 + 1)) = some (.int .i64 x) ∧ w'.cell? (ad.add (i * 3 + 2)) = some (.int .i64 p) := by
  obtain ⟨ad, rfl, hlt, hat⟩ := h.2 (by omega)
  have hz : zs[i]? = some (zs[i]'(by omega)) := List.getElem?_eq_getElem _
  obtain ⟨⟨d, x, p⟩, hd⟩ : ∃ a, zs[i]'(by omega) = a := ⟨_, rfl⟩
  rw [hd] at hz
  have get := fun j (hj : j < 3) => flat_get actV 3 (fun _ => rfl) zs i j _ hz hj
  have up : ∀ q, w'.cell? (ad.add q) = w.cell? (ad.add q) := fun q => hb.cell (by rw [block_of_add]; exact hlt)
  refine ⟨ad, d, x, p, rfl, hz, ?_, ?_, ?_⟩
  · rw [up]; exact hat (i * 3) _ (get 0 (by omega))
  · rw [up]; exact hat (i * 3 + 1) _ (get 1 (by omega))
  · rw [up]; exact hat (i * 3 + 2) _ (get 2 (by omega))
theorem blk_three {w : World} {g : Nat} {t : TypeId} {a b c : Value} (h : Blk w g t #[a, b, c]) : w.cell? ⟨g, 0, none⟩ = some a ∧ w.cell? ⟨g, 1, none⟩ = some b ∧ w.cell? ⟨g, 2, none⟩ = some c := ⟨h.cell 0, h.cell 1, h.cell 2⟩
set_option maxRecDepth 100000 in
set_option maxHeartbeats 8000000 in
theorem core (A : Option Addr) (n cap u : Nat) (zs : List ActT) (w : World) (hl : zs.length = n) (hn : n ≤ 9223372036854775807) (hu : u < 256) (hnc : n ≤ cap) (hr : Reads w w.heap.size 3 A n (zs.flatMap actV)) (hQ : ∀ a ∈ zs, actQ a) :
    Calls Try.prog 7 #[.int .u8 u, .slice A n cap] w fun e w' => e = .returned (.bool true) ∧ Below w.heap.size w w' := by
  obtain ⟨N, hN⟩ : ∃ N, u % 20 = N := ⟨_, rfl⟩
  have hN20 : N < 20 := by omega
  have hNI : (u : Int) % 20 = (N : Int) := by omega
  have HL := Lib.hid hl
  clear hN hl
  go_enter Try.func7, Try.ntmps7
  go_wp2_with fail
  refine (awake_any w).mono ?_
  rintro e w1 ⟨rfl, hb1⟩
  go_wp2_with fail
  refine (ql_new N w1 (by omega)).mono ?_
  rintro e w2 ⟨⟨g, rfl, hq⟩, hb2⟩
  rw [Int.toNat_natCast] at hq
  have hst : St w g N [] [] none 0 w2 := ⟨hq.mono fun k hk => Nat.le_trans hb1.size hk, by simpa [flatR] using World.ownsRow_nil w2 w.heap.size 48 2, bto hb1 hb2⟩
  clear hq hb1 hb2
  go_wp2_with fail
  go_loopg [7, 26] n (fun gk lv iv wr => ∃ (i : Nat) (L : List It) (A' : Option Addr) (c : Nat), i ≤ n ∧ gk = n - i ∧ iv = .int .i64 i ∧ lv = .slice A' L.length c ∧ L.length ≤ i ∧ i ≤ 80 ∧ St w g N L L A' c wr)
  case atStart => exact ⟨0, [], none, 0, by omega, by omega, rfl, rfl, by simp, by omega, hst⟩
  case round =>
    clear hst
    obtain ⟨i, L, A', c, hi, rfl, rfl, rfl, hLi, hi80, hst⟩ := hrel
    by_cases hlt : i < n
    · obtain ⟨ad, d, x, p, rfl, hz, c0, c1, c2⟩ := act_at hr hst.2.2 HL.out hlt
      have c1' : wr.cell? { block := (ad.add (i * 3)).block, off := (ad.add (i * 3)).off + 1 } = some (.int .i64 x) := by rw [← c1, ← Go.Deep.add_add]; rfl
      have c2' : wr.cell? { block := (ad.add (i * 3)).block, off := (ad.add (i * 3)).off + 2 } = some (.int .i64 p) := by rw [← c2, ← Go.Deep.add_add]; rfl
      clear c1 c2
      obtain ⟨dn, hdn, hd⟩ := wf_u8 (x := d) (hQ _ (List.mem_of_getElem? hz)).1
      subst hdn
      obtain ⟨r, hr7⟩ : ∃ r, dn % 7 = r := ⟨_, rfl⟩
      have hrI : (dn : Int) % 7 = (r : Int) := by omega
      have hrl : r < 7 := by omega
      have HR := Lib.hid hrI
      clear hrI
      clear hr7 hd hz
      by_cases hb8 : i < 80
      · have g8 : decide ((80 : Int) ≤ (i : Int)) = false := decide_eq_false (by omega)
        have H8 := Lib.hid hb8
        clear hb8
        go_upto_block 2 with (fail)
        go_cut [7] (fun lv wx => ∃ (L' : List It) (A' : Option Addr) (c' : Nat), lv = .slice A' L'.length c' ∧ L'.length ≤ i + 1 ∧ St w g N L' L' A' c' wx)
        case first =>
          have hsa : St w g N L L A' c (wr.alloc (.cells #[.int .u8 dn, .int .i64 x, .int .i64 p] 45)) := hst.below (bone _ _)
          have hba : Blk (wr.alloc (.cells #[.int .u8 dn, .int .i64 x, .int .i64 p] 45)) wr.heap.size 45 #[.int .u8 dn, .int .i64 x, .int .i64 p] := heap_alloc_new _ _
          generalize wr.alloc (.cells #[.int .u8 dn, .int .i64 x, .int .i64 p] 45) = wa at hsa hba ⊢
          clear hst c0 c1' c2' HL hr hQ
          obtain ⟨k0, k1, k2⟩ := blk_three hba
          have hLb : L.length ≤ 80 := by omega
          have HI := Lib.hid hLi
          clear hLi hi80
          rcases (by omega : r = 3 ∨ r = 4 ∨ r = 5 ∨ r = 6 ∨ r < 3) with h | h | h | h | h
          · have e3 : ((dn : Int) % 7 == 3) = true := by rw [HR.out, h]; rfl
            have e4 : ((dn : Int) % 7 == 4) = false := by rw [HR.out, h]; rfl
            clear h
            have HB := Lib.hid hba
            clear hba
            by_cases hL0 : L = []
            · subst hL0
              have htn := st_top_none hsa
              clear hsa
              go_wp2_with fail
              refine htn.mono ?_
              rintro e w3 ⟨rfl, hs3, hk3⟩
              have hb3 := hk3 _ _ HB.out
              obtain ⟨p0, p1, p2⟩ := blk_three hb3
              have hpn := st_pop_none hs3
              have HB3 := Lib.hid hb3
              clear hs3 hk3 hb3
              go_wp2_with fail
              refine hpn.mono ?_
              rintro e w4 ⟨rfl, hs4, hk4⟩
              have hb4 := hk4 _ _ HB3.out
              obtain ⟨q0, q1, q2⟩ := blk_three hb4
              have hrt := st_ref_top hs4 (by simp)
              have HB4 := Lib.hid hb4
              clear hs4 hb4
              go_wp2_with fail
              refine hrt.mono ?_
              rintro e w5 ⟨b, rfl, hB, hs5, hk5⟩
              obtain rfl := st_best_none hB
              obtain ⟨o0, o1, o2⟩ := blk_three (hk5 _ _ HB4.out)
              go_wp2_with fail
              go_meet
              case rel => exact ⟨[], A', c, rfl, by simp, hs5⟩
            · obtain ⟨m, hm⟩ := most_ex L hL0
              clear hL0
              have htp := st_top hsa hm (by omega)
              clear hsa
              go_wp2_with fail
              refine htp.mono ?_
              rintro e w3 ⟨rfl, hs3, hk3⟩
              have hb3 := hk3 _ _ HB.out
              obtain ⟨p0, p1, p2⟩ := blk_three hb3
              have HS3 := Lib.hid hs3
              have hpp := st_pop hs3 hm (by omega)
              have HB3 := Lib.hid hb3
              clear hs3 hk3 hb3
              go_wp2_with fail
              refine hpp.mono ?_
              rintro e w4 ⟨rfl, hs4, hk4⟩
              have hb4 := hk4 _ _ HB3.out
              obtain ⟨q0, q1, q2⟩ := blk_three hb4
              have hrt := st_ref_top hs4 (by omega)
              have HB4 := Lib.hid hb4
              clear hs4 hb4
              go_wp2_with fail
              refine hrt.mono ?_
              rintro e w5 ⟨b, rfl, hB, hs5, hk5⟩
              obtain ⟨t, htl, rfl, hget⟩ := st_best HS3.out hm hB
              obtain ⟨g', rfl, d1, d2⟩ := st_row_at hs5 hget
              have hb5 := hk5 _ _ HB4.out
              obtain ⟨o0, o1, o2⟩ := blk_three hb5
              have f1 : (m.2 != m.2) = false := by simp
              have f2 : (m.1 != m.1) = false := by simp
              have f3 : decide ((0 : Int) ≤ (t : Int)) = true := decide_eq_true (by omega)
              have hrd := st_ref_drop hs5 (by omega) m.2
              have hfl := List.length_filter_le (fun a : It => decide (a.2 ≠ m.2)) L
              generalize L.filter (fun a : It => decide (a.2 ≠ m.2)) = L2 at hrd hfl
              clear hs5 hk5 hB hget hb5
              go_wp2_with fail
              refine hrd.mono ?_
              rintro e w6 ⟨A6, c6, rfl, hs6, hk6⟩
              go_wp2_with fail
              go_meet
              case rel => exact ⟨L2, A6, c6, rfl, by have := HI.out; omega, hs6⟩
          · have e3 : ((dn : Int) % 7 == 3) = false := by rw [HR.out, h]; rfl
            have e4 : ((dn : Int) % 7 == 4) = true := by rw [HR.out, h]; rfl
            clear h
            have HB := Lib.hid hba
            clear hba
            by_cases hL0 : L = []
            · subst hL0
              have htn := st_top_none hsa
              clear hsa
              go_wp2_with fail
              refine htn.mono ?_
              rintro e w3 ⟨rfl, hs3, hk3⟩
              have hb3 := hk3 _ _ HB.out
              obtain ⟨p0, p1, p2⟩ := blk_three hb3
              have hrt := st_ref_top hs3 (by simp)
              have HB4 := Lib.hid hb3
              clear hs3 hb3
              go_wp2_with fail
              refine hrt.mono ?_
              rintro e w5 ⟨b, rfl, hB, hs5, hk5⟩
              obtain rfl := st_best_none hB
              obtain ⟨o0, o1, o2⟩ := blk_three (hk5 _ _ HB4.out)
              go_wp2_with fail
              go_meet
              case rel => exact ⟨[], A', c, rfl, by simp, hs5⟩
            · obtain ⟨m, hm⟩ := most_ex L hL0
              clear hL0
              have htp := st_top hsa hm (by omega)
              clear hsa
              go_wp2_with fail
              refine htp.mono ?_
              rintro e w3 ⟨rfl, hs3, hk3⟩
              have hb3 := hk3 _ _ HB.out
              obtain ⟨p0, p1, p2⟩ := blk_three hb3
              have HS3 := Lib.hid hs3
              have hrt := st_ref_top hs3 (by omega)
              have HB4 := Lib.hid hb3
              clear hs3 hb3
              go_wp2_with fail
              refine hrt.mono ?_
              rintro e w5 ⟨b, rfl, hB, hs5, hk5⟩
              obtain ⟨t, htl, rfl, hget⟩ := st_best HS3.out hm hB
              obtain ⟨g', rfl, d1, d2⟩ := st_row_at hs5 hget
              have hb5 := hk5 _ _ HB4.out
              obtain ⟨o0, o1, o2⟩ := blk_three hb5
              have f1 : (m.2 != m.2) = false := by simp
              have f2 : (m.1 != m.1) = false := by simp
              have f3 : decide ((0 : Int) ≤ (t : Int)) = true := decide_eq_true (by omega)
              have HS5 := Lib.hid hs5
              clear hs5 hk5 hB hget hb5
              go_wp2_with fail
              go_meet
              case rel => exact ⟨L, some ⟨g', 0, none⟩, c, rfl, by have := HI.out; omega, HS5.out⟩
          · have e3 : ((dn : Int) % 7 == 3) = false := by rw [HR.out, h]; rfl
            have e4 : ((dn : Int) % 7 == 4) = false := by rw [HR.out, h]; rfl
            have e5 : ((dn : Int) % 7 == 5) = true := by rw [HR.out, h]; rfl
            clear h
            have hrd := st_ref_drop hsa (by omega) x
            rw [inQ_drop] at hrd
            have HS := Lib.hid hsa
            have HB := Lib.hid hba
            clear hsa hba
            go_wp2_with fail
            refine hrd.mono ?_
            rintro e w3 ⟨A2, c2, rfl, hs3, hk3⟩
            obtain ⟨q0, q1, q2⟩ := blk_three (hk3 _ _ HB.out)
            have hfl := List.length_filter_le (fun a : It => decide (a.2 ≠ x)) L
            have hqd := st_drop hs3 x (by omega) (by omega)
            generalize L.filter (fun a : It => decide (a.2 ≠ x)) = L2 at hqd hfl ⊢
            obtain ⟨b, hbe⟩ : ∃ b, inQ L x = b := ⟨_, rfl⟩
            rw [hbe] at hqd
            simp only [hbe]
            have eb : (b != b) = false := by simp
            clear hs3 hk3 hrd
            go_wp2_with fail
            refine hqd.mono ?_
            rintro e w4 ⟨rfl, hs4, hk4⟩
            go_wp2_with fail
            go_meet
            case rel => exact ⟨_, A2, c2, rfl, by have := HI.out; omega, hs4⟩
          · have e3 : ((dn : Int) % 7 == 3) = false := by rw [HR.out, h]; rfl
            have e4 : ((dn : Int) % 7 == 4) = false := by rw [HR.out, h]; rfl
            have e5 : ((dn : Int) % 7 == 5) = false := by rw [HR.out, h]; rfl
            have e6 : ((dn : Int) % 7 == 6) = true := by rw [HR.out, h]; rfl
            clear h
            cases e7 : (x.tmod 7 == 0) with
            | false =>
              have HS := Lib.hid hsa
              clear hsa
              go_wp2_with fail
              go_meet
              case rel => exact ⟨L, A', c, rfl, by have := HI.out; omega, HS.out⟩
            | true =>
              have hcl := st_clear hsa (by omega)
              clear hsa
              go_wp2_with fail
              refine hcl.mono ?_
              rintro e w3 ⟨rfl, hs3, hk3⟩
              go_wp2_with fail
              go_meet
              case rel => exact ⟨[], none, 0, rfl, by simp, st_none hs3⟩
          · have e3 : ((dn : Int) % 7 == 3) = false := by rw [HR.out]; exact beq_eq_false_iff_ne.2 (by omega)
            have e4 : ((dn : Int) % 7 == 4) = false := by rw [HR.out]; exact beq_eq_false_iff_ne.2 (by omega)
            have e5 : ((dn : Int) % 7 == 5) = false := by rw [HR.out]; exact beq_eq_false_iff_ne.2 (by omega)
            have e6 : ((dn : Int) % 7 == 6) = false := by rw [HR.out]; exact beq_eq_false_iff_ne.2 (by omega)
            clear h
            by_cases hx : 0 ≤ x ∧ x < (N : Int)
            · obtain ⟨xn, rfl⟩ := Int.eq_ofNat_of_zero_le hx.1
              have hpu := st_push hsa xn p (by omega) (by omega)
              have t0 : decide ((xn : Int) < 0) = false := decide_eq_false (by omega)
              have t1 : decide ((N : Int) ≤ (xn : Int)) = false := decide_eq_false (by omega)
              have HB := Lib.hid hba
              clear hba hsa
              go_wp2_with fail
              refine hpu.mono ?_
              rintro e w3 ⟨rfl, hs3, hk3⟩
              have hb3 := hk3 _ _ HB.out
              obtain ⟨p0, p1, p2⟩ := blk_three hb3
              have hrd := st_ref_drop hs3 (by omega) (xn : Int)
              have hfl := List.length_filter_le (fun a : It => decide (a.2 ≠ (xn : Int))) L
              generalize L.filter (fun a : It => decide (a.2 ≠ (xn : Int))) = L2 at hrd hfl
              have HB3 := Lib.hid hb3
              clear hs3 hk3 hb3
              go_wp2_with fail
              refine hrd.mono ?_
              rintro e w4 ⟨A4, c4, rfl, hs4, hk4⟩
              obtain ⟨q0, q1, q2⟩ := blk_three (hk4 _ _ HB3.out)
              have hs4a : St w g N ((p, (xn : Int)) :: L2) L2 A4 c4 (w4.alloc (.cells #[.int .i64 (xn : Int), .int .i64 p] 48)) := hs4.below (bone _ _)
              have hra := hs4a.2.1
              have hsz := hs4a.2.2.size
              have hr1 : Reads (w4.alloc (.cells #[.int .i64 (xn : Int), .int .i64 p] 48)) (w4.alloc (.cells #[.int .i64 (xn : Int), .int .i64 p] 48)).heap.size 2 (some ⟨w4.heap.size, 0, none⟩) 1 [.int .i64 (xn : Int), .int .i64 p] := reads_two (t := 48) (heap_alloc_new w4 (.cells #[.int .i64 (xn : Int), .int .i64 p] 48))
              have hone : ∀ u ∈ ([.int .i64 (xn : Int), .int .i64 p] : List Value), u.oneCell' = true := fun u hu => by simp at hu; rcases hu with rfl | rfl <;> rfl
              have HS4 := Lib.hid hs4a
              clear hs4 hs4a hk4
              obtain ⟨j0, hi0, hz0, hz1, hz2⟩ := info_parts infoR
              go_wp2_with (first
                | (at_builtin; refine wpList_append_any _ rfl (.tmp 60) (.tmp 66) _ rfl w.heap.size 48 j0 _ 2 16 Try.underlying43 hi0 hz0 hz1 hz2 rfl (by omega) _ L2.length _ rfl hra (w4.alloc (.cells #[.int .i64 (xn : Int), .int .i64 p] 48)).heap.size (some ⟨w4.heap.size, 0, none⟩) 1 1 [.int .i64 (xn : Int), .int .i64 p] rfl hr1 hone (by simp only [maxLen]; omega) (by omega) hsz ?_; intro v2 w5 hown hg1 hat; clear hat; obtain ⟨A5, c5, rfl⟩ := own_shape hown)
                | fail)
              have hg2 : (w4.alloc (.cells #[.int .i64 (xn : Int), .int .i64 p] 48)).grownBy w5 (Value.slice A4 L2.length c4).ownBlock := hg1
              have hfin := (HS4.out.grown hg2 (st_append_own (a := (p, (xn : Int))) hown rfl)).1.perm (List.perm_append_comm (l₁ := [(p, (xn : Int))]) (l₂ := L2))
              have hlen : (L2 ++ [(p, (xn : Int))]).length = L2.length + 1 := by simp
              go_meet
              case rel => exact ⟨L2 ++ [(p, (xn : Int))], A5, c5, by rw [hlen], by have := HI.out; omega, hfin⟩
            · have hpo := st_push_out hsa x p (by omega) (by omega)
              have HS := Lib.hid hsa
              clear hsa hba
              by_cases hx0 : x < 0
              · have t0 : decide (x < 0) = true := decide_eq_true hx0
                clear hx hx0
                go_wp2_with fail
                refine hpo.mono ?_
                rintro e w3 ⟨rfl, rfl⟩
                go_wp2_with fail
                go_roundg (n - (i + 1))
                case rel => exact ⟨i + 1, L, A', c, by omega, rfl, by go_num, rfl, by have := HI.out; omega, by have := H8.out; omega, HS.out⟩
                case measure => omega
              · have t0 : decide (x < 0) = false := decide_eq_false hx0
                have t1 : decide ((N : Int) ≤ x) = true := decide_eq_true (by omega)
                clear hx hx0
                go_wp2_with fail
                refine hpo.mono ?_
                rintro e w3 ⟨rfl, rfl⟩
                go_wp2_with fail
                go_roundg (n - (i + 1))
                case rel => exact ⟨i + 1, L, A', c, by omega, rfl, by go_num, rfl, by have := HI.out; omega, by have := H8.out; omega, HS.out⟩
                case measure => omega
        case rest =>
          clear c0 c1' c2' hst
          obtain ⟨L', A', c', rfl, hl', hst⟩ := hcut
          have hle := st_len hst
          have ll : ((L'.length : Int) != (L'.length : Int)) = false := by simp
          go_wp2_with fail
          refine hle.mono ?_
          rintro e w3 ⟨rfl, rfl⟩
          go_wp2_with fail
          go_loopg [16] (N + 2) (fun hk xv wr2 => ∃ (b : Nat) (x : Int), xv = .pointer (some ⟨b, 0, none⟩) ∧ -1 ≤ x ∧ x ≤ (N : Int) + 1 ∧ hk = ((N : Int) + 1 - x).toNat ∧ Blk wr2 b 3 #[.int .i64 x] ∧ St w g N L' L' A' c' wr2)
          case atStart => exact ⟨_, -1, rfl, by omega, by omega, by omega, heap_alloc_new _ _, hst.below (bone _ _)⟩
          case round =>
            clear hst hle
            obtain ⟨b, x, rfl, hx1, hx2, rfl, hbx, hst⟩ := hrel
            obtain ⟨k1, k2⟩ := hbx.one
            by_cases hxN : x ≤ (N : Int)
            · have gx : decide (x ≤ (N : Int)) = true := decide_eq_true hxN
              obtain ⟨bq, hbq⟩ : ∃ q, inQ L' x = q := ⟨_, rfl⟩
              have hha : Hid (∀ w', Below wr.heap.size wr w' → Calls Try.prog 16 #[.pointer (some ⟨g, 0, none⟩), .int .i64 x] w' fun e w'' => e = .returned (.bool bq) ∧ w' = w'') := fun w' hb => hbq ▸ st_has (hst.below hb) x (by omega)
              have hco : Hid (∀ w', Below wr.heap.size wr w' → Calls Try.prog 20 #[.slice A' L'.length c', .func (.func 21) #[] #[.pointer (some ⟨b, 0, none⟩)]] w' fun e w'' => e = .returned (.bool bq) ∧ Below w'.heap.size w' w'') := fun w' hb => hbq ▸ st_contains (hst.below hb) (by omega) (hbx.under hb).one.1 (hbx.under hb).lt
              have eb : (bq != bq) = false := by simp
              have HB := Lib.hid hbx
              have HS := Lib.hid hst
              clear hbq hbx hst
              go_wp2_with (first
                | (go_at_call 16; refine (hha.out _ ?_).mono ?_; (first | exact Below.refl _ _ | exact (Below.refl _ _).drew | exact below_drewN (Below.refl _ _) _); rintro e w4 ⟨rfl, rfl⟩)
                | (go_at_call 20; refine (hco.out _ ?_).mono ?_; (first | exact Below.refl _ _ | exact (Below.refl _ _).drew | exact below_drewN (Below.refl _ _) _); rintro e w5 ⟨rfl, hb5⟩; have hB5 : Below wr.heap.size wr w5 := hb5; obtain ⟨q1, q2⟩ := (HB.out.under hB5).one))
              go_roundg ((N : Int) + 1 - (x + 1)).toNat
              case rel => exact ⟨_, x + 1, rfl, by omega, by omega, rfl, heap_alloc_new _ _, (HS.out.below hB5).below (bone _ _)⟩
              case measure => omega
            · have gx : decide (x ≤ (N : Int)) = false := decide_eq_false hxN
              go_wp2_with fail
              go_roundg (n - (i + 1))
              case rel => exact ⟨i + 1, L', A', c', by omega, rfl, by go_num, rfl, hl', by have := H8.out; omega, hst⟩
              case measure => omega
      · have g8 : decide ((80 : Int) ≤ (i : Int)) = true := decide_eq_true (by omega)
        go_wp2_with fail
        go_ret
        exact ⟨rfl, (by first | exact bnew hst.2.2 _ | exact hst.2.2 | exact below_drewN (bnew hst.2.2 _) _)⟩
    · go_wp2_with fail
      go_ret
      exact ⟨rfl, hst.2.2⟩
theorem walk (a0 : Int) (a1 : Option Addr) (len1 cap1 : Nat) (z1 : List ActT) (w : World) (w0 : (Lit.int .u8 a0).wf = true) (w1 : z1.length = len1 ∧ Reads w w.heap.size 3 a1 len1 (z1.flatMap actV) ∧ (∀ x ∈ z1, actQ x) ∧ len1 ≤ cap1 ∧ len1 ≤ 9223372036854775807) :
    Calls Try.prog 7 #[.int .u8 a0, .slice a1 len1 cap1] w fun e w' => e = .returned (.bool true) ∧ Below w.heap.size w w' := by
  obtain ⟨hl, hr, hQ, hc, hn⟩ := w1
  obtain ⟨u, rfl, hu⟩ := wf_u8 w0
  exact core a1 len1 cap1 u z1 w hl hn hu hc hr hQ

set_option maxRecDepth 100000 in
theorem lifted (os : Os) (started : os.Started) (H : Type) (enc : TypeId × Value → H) :
    ReturnsInHanded {} Try.checked os 7 .any (Rows.queuePlaysSpec.pre6 enc Try.prog Try.f7 Rows.queuePlaysRow.domain false) (Rows.queuePlaysSpec.post enc Try.prog Try.f7 false true false false) := by
  refine returnsInHanded_of_change (C := Try.checked) own started (by kernel_rfl) Try.func7
    (ChangeSpec.witness6 (enc := enc) (C := Try.checked) false ⟨#[], #[.int .u8 0, .slice none 0 0], []⟩ 8 (by kernel_rfl) (by kernel_rfl) (by kernel_rfl) (by kernel_rfl)) ?_
  intro W base args ds gs before hval0 hW hcnd _
  have hval : ∀ (j : Nat) t v, Try.f7.params[j]? = some t → args[j]? = some v → Value.okWide Try.prog W .any base t v := hval0
  have hW' := hW
  obtain ⟨p, q, hA0, hV, rfl, hfz, hnd⟩ := hW
  have hA : DataW.TrodAll enc Try.prog W 0 (fun _ => true) true Try.f7.params.toList args.toList ds p := hA0
  rw [Try.params7] at hA hval
  obtain ⟨v0, vs0, d0, ds0, p0, q0, hargs, rfl, rfl, h0, r0⟩ := trodAll_cons hA
  obtain ⟨v1, vs1, d1, ds1, p1, q1, rfl, rfl, rfl, h1, r1⟩ := trodAll_cons r0
  obtain ⟨rfl, rfl, rfl⟩ := trodAll_nil r1
  obtain rfl : args = #[v0, v1] := by cases args; simp_all
  obtain ⟨rfl, rfl⟩ := trodVars_none hV
  obtain ⟨a0, rfl, rfl, rfl, w0⟩ := open_int Try.underlying5 (hval 0 5 v0 rfl rfl) h0
  obtain ⟨a1, len1, cap1, rfl⟩ := okWide_slice Try.underlying42 (hval 1 42 v1 rfl rfl)
  have k1 := h1
  have lt1 : ∀ x ∈ p1, x.block < W.heap.size := by obtain ⟨m, hm⟩ := k1; exact DataW.trod_lt m _ _ _ hm
  obtain ⟨z1, w1⟩ := open_rows (s := 3) actV actQ (fun _ => rfl) (by decide) Try.underlying42 (by kernel_rfl) dec_act h1
  clear hA0 hval0
  refine (walk a0 a1 len1 cap1 z1 W w0 w1).mono fun e W' ⟨he, bel⟩ => ?_
  subst he
  exact ⟨_, rfl, _, _, _, [], _, [], hW', trodAll_mk1 (shut_bool Try.underlying4 _), (trodAll_cons_mk (shut_int Try.underlying5 w0) (trodAll_cons_mk (Below.trod laidOut (by kernel_rfl) (of_decide_eq_true (by kernel_rfl)) k1 bel lt1) trodAll_mk0)), rfl, bel.frame _, fun h => by cases h⟩
theorem over : Rows.queuePlaysRow.holds Try.pinned (OpenSpec.ofChange Rows.queuePlaysSpec) :=
  OpenClaim.holds_of_wide 7 Try.f7 rfl rfl rfl rfl rfl rfl rfl ⟨rfl, rfl, rfl, rfl, rfl⟩ rfl rfl rfl rfl rfl (by kernel_rfl) Try.func7 (by kernel_rfl)
    (of_decide_eq_true (by kernel_rfl)) (by unfold Func.isWrapper; first | (rw [if_pos (by decide +kernel)]; kernel_rfl) | (rw [if_neg (by decide +kernel)]; exact ⟨rfl, rfl⟩))
    (fun os started H enc _ => lifted os started H enc)
theorem proved : Rows.QueuePlaysSaid := over
end Go.Proofs.Ythjfboecdhlnfaa.queuePlays
