/- TabJoin, CnJoin, CnOut. -/
import Derived.Test.YtjpkkkphhaajgaaGreatDoorQpP33
import Derived.Test.YtjpkkkphhaajgaaGreatDoorQpP12
import Derived.Test.YtjpkkkphhaajgaaGreatDoorQpDupP
import Derived.Test.YtjpkkkphhaajgaaGreatDoorQpConcatI
import Derived.Test.YtjpkkkphhaajgaaGreatDoorQpP13
import Derived.Test.YtjpkkkphhaajgaaGreatDoorQpP38
set_option linter.all false
/- Two tables over one scope, joined: Join. -/
namespace Go.Proofs.YtjpkkkphhaajgaaGreatDoor.wcp
open Go Go.RowKit Go.Shelf Go.ChangeShapes Go.WideShapes Go.ChangeAt Go.Maps Go.Proofs.YtjpkkkphhaajgaaGreatDoor.words Go.Proofs.YtjpkkkphhaajgaaGreatDoor.scn Go.Proofs.YtjpkkkphhaajgaaGreatDoor.told
open Go.Proofs.YtjpkkkphhaajgaaGreatDoor.shp (Szs prodI InT idxI tupI allI)
attribute [local go_sem] Oper.semAt_some
theorem partT_self {x sc : List Int} (hn : sc.Nodup) (hl : x.length = sc.length) : partT x sc sc = x := by
 unfold partT
 apply List.ext_getElem?
 intro i
 rw [List.getElem?_map]
 by_cases hi : i < sc.length
 ·have hs : sc[i]? = some (sc[i]'hi) := List.getElem?_eq_getElem hi
  rw [hs, Option.map_some, idx_at hn hs, List.getD, List.getElem?_eq_getElem (by omega), Option.getD_some]
 ·rw [List.getElem?_eq_none (by omega), List.getElem?_eq_none (by omega)]; rfl
set_option maxRecDepth 100000 in
set_option maxHeartbeats 16000000 in
theorem join_any {w : World} {ga gb : Nat} {Fa Ra Fb Rb : Nat → Prop} {zs : List Int} {k : Int} {fa fb : List Int → Int} (ha : TabV w ga Fa Ra zs k (tabF zs fa)) (hb : TabV w gb Fb Rb zs k (tabF zs fb)) (hz : Szs zs) (hp : prodI zs ≤ 4096) (hk : inB 0 k = true) (hfa : ∀ t, InS zs t → inB (fa t) k = true) (hfb : ∀ t, InS zs t → inB (fb t) k = true) (X Y : Option Addr) (m cx cy : Nat) (sc : List Int) (hx : Reads w w.heap.size 1 X m (nums sc)) (hy : Reads w w.heap.size 1 Y m (nums sc)) (hi : IsRise sc) (hl : sc.length = zs.length) :
 Calls Tryz.prog 39 #[.pointer (some ⟨ga, 0, none⟩), .slice X m cx, .pointer (some ⟨gb, 0, none⟩), .slice Y m cy] w fun e w' => ∃ g2 A c, e = .returned (.tuple #[.pointer (some ⟨g2, 0, none⟩), .slice A m c, .int .i64 0]) ∧ TabV w' g2 (fun q => w.heap.size ≤ q) (fun q => w.heap.size ≤ q) zs k (tabF zs fun t => min (fa t + fb t) k) ∧ Below w.heap.size w w' := by
 have hm := nums_len hx
 have hm6 : m ≤ 6 := by have := hz.1; omega
 have hnd : sc.Nodup := hi.2.imp fun h => by omega
 obtain ⟨w1, hw1⟩ : ∃ w1, (((w.alloc (.cells #[.pointer (some ⟨ga, 0, none⟩)] 53)).alloc (.cells #[.slice X m cx] 31)).alloc (.cells #[.pointer (some ⟨gb, 0, none⟩)] 53)).alloc (.cells #[.slice Y m cy] 31) = w1 := ⟨_, rfl⟩
 have hB1 : Below w.heap.size w w1 := by rw [← hw1]; exact bnew (bnew (bnew (bone w _) _) _) _
 have hb4 : Blk w1 w.heap.size 53 #[.pointer (some ⟨ga, 0, none⟩)] := by rw [← hw1]; exact (((Blk.new w _ _).alloc _).alloc _).alloc _
 have hb5 : Blk w1 (w.heap.size + 1) 31 #[.slice X m cx] := by
  rw [← hw1]
  have := Blk.new (w.alloc (.cells #[.pointer (some ⟨ga, 0, none⟩)] 53)) 31 #[.slice X m cx]
  rw [show (w.alloc (.cells #[.pointer (some ⟨ga, 0, none⟩)] 53)).heap.size = w.heap.size + 1 by simp] at this
  exact (this.alloc _).alloc _
 have hb6 : Blk w1 (w.heap.size + 2) 53 #[.pointer (some ⟨gb, 0, none⟩)] := by
  rw [← hw1]
  have := Blk.new ((w.alloc (.cells #[.pointer (some ⟨ga, 0, none⟩)] 53)).alloc (.cells #[.slice X m cx] 31)) 53 #[.pointer (some ⟨gb, 0, none⟩)]
  rw [show ((w.alloc (.cells #[.pointer (some ⟨ga, 0, none⟩)] 53)).alloc (.cells #[.slice X m cx] 31)).heap.size = w.heap.size + 2 by simp] at this
  exact this.alloc _
 have hb7 : Blk w1 (w.heap.size + 3) 31 #[.slice Y m cy] := by
  rw [← hw1]
  have := Blk.new (((w.alloc (.cells #[.pointer (some ⟨ga, 0, none⟩)] 53)).alloc (.cells #[.slice X m cx] 31)).alloc (.cells #[.pointer (some ⟨gb, 0, none⟩)] 53)) 31 #[.slice Y m cy]
  rw [show (((w.alloc (.cells #[.pointer (some ⟨ga, 0, none⟩)] 53)).alloc (.cells #[.slice X m cx] 31)).alloc (.cells #[.pointer (some ⟨gb, 0, none⟩)] 53)).heap.size = w.heap.size + 3 by simp] at this
  exact this
 have HX : Hid (∀ W, Below w1.heap.size w1 W → W.cell? ⟨w.heap.size, 0, none⟩ = some (.pointer (some ⟨ga, 0, none⟩)) ∧ W.cell? ⟨w.heap.size + 1, 0, none⟩ = some (.slice X m cx) ∧ W.cell? ⟨w.heap.size + 2, 0, none⟩ = some (.pointer (some ⟨gb, 0, none⟩)) ∧ W.cell? ⟨w.heap.size + 3, 0, none⟩ = some (.slice Y m cy) ∧
  TabV W ga Fa Ra zs k (tabF zs fa) ∧ TabV W gb Fb Rb zs k (tabF zs fb) ∧ Reads W W.heap.size 1 X m (nums sc) ∧ Reads W W.heap.size 1 Y m (nums sc)) := fun W hW =>
  ⟨(hb4.under hW).one.1, (hb5.under hW).one.1, (hb6.under hW).one.1, (hb7.under hW).one.1, ha.under (bto hB1 hW), hb.under (bto hB1 hW), (hx.below (bto hB1 hW)).more (bto hB1 hW).size, (hy.below (bto hB1 hW)).more (bto hB1 hW).size⟩
 obtain ⟨c4, c5, c6, c7, ta, tb, rx, ry⟩ := HX.out w1 (Below.refl _ _)
 have hr1 := rises_any ta X m cx sc rx hi hl (by omega)
 have HZ := Lib.hid hz
 have HP4 := Lib.hid hp
 have HK0 := Lib.hid hk
 have HFA := Lib.hid hfa
 have HFB := Lib.hid hfb
 have HI := Lib.hid hi
 have HND := Lib.hid hnd
 have HB1 := Lib.hid hB1
 have HM := Lib.hid hm
 have HBS : Hid (w1.heap.size = w.heap.size + 4) := by rw [Hid, ← hw1]; simp
 clear ha hb hz hp hk hfa hfb hi hnd hB1 hb4 hb5 hb6 hb7 hx hy ta tb rx ry hm
 refine (callsIn_wide (n := 4)).1 ?_
 refine callsIn_of_wp_marks Tryz.func39 rfl trivial ?_ rfl
 simp only [Tryz.ntmps39, List.size_toArray, List.length_cons, List.length_nil, Nat.reduceAdd, Nat.reduceSub, Array.replicate_succ, Array.replicate_zero, List.push_toArray, List.append_toArray, List.nil_append, List.cons_append]
 refine wpIn_wide.2 ?_
 refine Code.wp_mono NoPanic.imp ?_
 go_wp2_with fail
 try rw [hw1]
 refine hr1.mono ?_
 rintro e w2 ⟨rfl, hB2⟩
 clear hr1 c4 c5 c6 c7 hw1
 obtain ⟨c4, c5, c6, c7, ta, tb, rx, ry⟩ := HX.out w2 hB2
 have hr2 := rises_any tb Y m cy sc ry HI.out hl (by omega)
 have HB2 := Lib.hid hB2
 clear hB2 ta tb rx ry
 go_wp2_with fail
 refine hr2.mono ?_
 rintro e w3 ⟨rfl, hB3⟩
 clear hr2 c4 c5 c6 c7
 have HB3 := Lib.hid (bto HB2.out hB3)
 clear hB3
 obtain ⟨c4, c5, c6, c7, ta, tb, rx, ry⟩ := HX.out w3 HB3.out
 obtain ⟨w4, hw4⟩ : ∃ w4, w3.alloc (.cells #[.slice X m cx, .slice Y m cy] 31) = w4 := ⟨_, rfl⟩
 have hB4 : Below w3.heap.size w3 w4 := by rw [← hw4]; exact bone w3 _
 have hbl : Blk w4 w3.heap.size 31 #[.slice X m cx, .slice Y m cy] := by rw [← hw4]; exact Blk.new _ _ _
 obtain ⟨-, -, -, -, -, -, rx4, ry4⟩ := HX.out w4 (bto HB3.out hB4)
 have hco := concat2_any w3.heap.size m m cx cy X Y sc sc w4 (by omega) (by omega) hbl rx4 ry4
 have HB4 := Lib.hid (bto HB3.out hB4)
 clear hB4 hbl rx4 ry4 ta tb rx ry
 go_wp2_with fail
 try rw [hw4]
 refine hco.mono ?_
 rintro e w5 ⟨A5, k5, rfl, ho5, hB5⟩
 clear hco hw4 c4 c5 c6 c7
 have hva := values_any A5 (m + m) k5 w5
 obtain ⟨w6, hw6⟩ : ∃ w6, w5.alloc (.cells #[.slice A5 (m + m) k5] 31) = w6 := ⟨_, rfl⟩
 have hB6 : Below w5.heap.size w5 w6 := by rw [← hw6]; exact bone w5 _
 have hbv : Blk w6 w5.heap.size 31 #[.slice A5 (m + m) k5] := by rw [← hw6]; exact Blk.new _ _ _
 have hso := sortedV_any w5.heap.size (m + m) k5 A5 (sc ++ sc) w6 (by omega) hbv (Reads.of_own (own_under ho5 hB6))
 rw [hw6] at hva
 rw [riseI_rise, rise_dup HI.out.2] at hso
 have HB6 := Lib.hid (bto (bto HB4.out hB5) hB6)
 clear hw6 hB5 hB6 hbv ho5
 go_wp2_with fail
 refine hva.mono ?_
 rintro e w7 ⟨rfl, rfl⟩
 clear hva
 go_wp2_with fail
 refine hso.mono ?_
 rintro e w7 ⟨A7, k7, rfl, ho7, hB7⟩
 clear hso
 have hcp := compactI_any ho7 (by omega)
 rw [compact_dup HI.out.2, HM.out] at hcp
 have HB7 := Lib.hid (bto HB6.out hB7)
 have HO7 := Lib.hid ho7
 have HS67 := Lib.hid hB7.size
 clear ho7 hB7
 go_wp2_with fail
 refine hcp.mono ?_
 rintro e w8 ⟨rfl, ho8, hT8⟩
 clear hcp
 have hB8 : Below w1.heap.size w1 w8 := HB7.out.trans (hT8.below HB7.out.size fun i hi h => by have z1 := (own_in HO7.out h).1; have z2 := HB6.out.size; omega)
 obtain ⟨w9, hw9⟩ : ∃ w9, (w8.alloc (.cells #[.slice none 0 0] 31)).setCell ⟨w8.heap.size, 0, none⟩ (.slice A7 m k7) = w9 := ⟨_, rfl⟩
 have hB9 : Below w8.heap.size w8 w9 := by rw [← hw9]; exact (bone w8 _).setCell (p := ⟨w8.heap.size, 0, none⟩) (Nat.le_refl _) _
 have hbv : Blk w9 w8.heap.size 31 #[.slice A7 m k7] := by rw [← hw9]; exact (Blk.new _ _ _).set_ 0 _
 have HB9 := Lib.hid (bto hB8 hB9)
 obtain ⟨c4, c5, c6, c7, ta, tb, rx, ry⟩ := HX.out w9 HB9.out
 obtain ⟨cv, -⟩ := hbv.one
 have hov := own_under ho8 hB9
 have hsz := sizes_any ta tb A7 X Y m k7 cx cy sc (Reads.of_own hov) rx ry HND.out hl hm6
 have HOV := Lib.hid hov
 have HBV := Lib.hid hbv
 have HS8 := Lib.hid (And.intro (show w1.heap.size ≤ w6.heap.size from HB6.out.size) (And.intro HS67.out (And.intro hT8.size hB9.size)))
 clear hT8 hB8 ho8 hB9 hbv hov ta tb rx ry
 go_wp2_with fail
 try rw [hw9]
 clear hw9
 go_wp2_with fail
 refine hsz.mono ?_
 rintro e w10 ⟨gz, rfl, hoz, hB10⟩
 clear hsz c4 c5 c6 c7 cv
 have HOZ := Lib.hid hoz
 have HB10 := Lib.hid (bto HB9.out hB10)
 have HB910 := Lib.hid hB10
 clear hoz hB10
 obtain ⟨c4, c5, c6, c7, ta, tb, -, -⟩ := HX.out w10 HB10.out
 obtain ⟨-, SA, sa, CA, ca, hba, hsa, -, -, -⟩ := ta
 obtain ⟨-, SB, sb, CB, cb, hbb, hsb, -, -, -⟩ := tb
 obtain ⟨p0, p1, p2⟩ := Blk.three (t := 117) hba
 obtain ⟨q0, q1, q2⟩ := Blk.three (t := 117) hbb
 have hne : (k != k) = false := by simp
 clear hba hsa hbb hsb
 go_upto_region 9 with fail
 go_quiet (fail)
 obtain ⟨wd, hwd⟩ : ∃ wd, w10.drewN nq = wd := ⟨_, rfl⟩
 rw [hwd]
 have hBd : Below w10.heap.size w10 wd := by rw [← hwd]; exact below_drewN (Below.refl _ _) nq
 have HBD := Lib.hid (bto HB10.out hBd)
 have HOD := Lib.hid (own_under HOZ.out hBd)
 have HBDD := Lib.hid hBd
 clear hwd hBd p0 p1 p2 q0 q1 q2 c4 c5 c6 c7
 obtain ⟨c4, c5, c6, c7, ta, tb, -, -⟩ := HX.out wd HBD.out
 obtain ⟨-, SA, sa, CA, ca, hba, -, -, -, -⟩ := ta
 obtain ⟨p0, p1, p2⟩ := Blk.three (t := 117) hba
 have hnw := tabnew_any (some ⟨gz, 0, none⟩) m m zs k 0 wd (Reads.of_own HOD.out) HZ.out HP4.out HK0.out
 clear hba tb
 go_wp2_with fail
 refine hnw.mono ?_
 rintro e w11 ⟨g2, rfl, ht11, hb11⟩
 clear hnw c4 c5 c6 c7 p0 p1 p2
 obtain ⟨w12, hw12⟩ : ∃ w12, (w11.alloc (.cells #[.pointer none] 53)).setCell ⟨w11.heap.size, 0, none⟩ (.pointer (some ⟨g2, 0, none⟩)) = w12 := ⟨_, rfl⟩
 have hB12 : Below w11.heap.size w11 w12 := by rw [← hw12]; exact (bone w11 _).setCell (p := ⟨w11.heap.size, 0, none⟩) (Nat.le_refl _) _
 have hbx : Blk w12 w11.heap.size 53 #[.pointer (some ⟨g2, 0, none⟩)] := by rw [← hw12]; exact (Blk.new _ _ _).set_ 0 _
 have ht12 := ht11.under hB12
 obtain ⟨hg6, SB, sb, CB, cb, hbt, hso6, hsr6, hco6, hcr6⟩ := ht12
 obtain ⟨p0, p1, p2⟩ := Blk.three (t := 117) hbt
 obtain ⟨px, -⟩ := hbx.one
 have hall := shp.all_any SB zs.length sb w12
 have HB11 := Lib.hid hb11
 have HB12 := Lib.hid hB12
 have HBX := Lib.hid hbx
 have HBT := Lib.hid hbt
 have HS6 := Lib.hid hso6
 have HSR := Lib.hid hsr6
 have HC6 := Lib.hid hco6
 have HCR := Lib.hid hcr6
 have HG6 := Lib.hid hg6
 clear ht11 hb11 hB12 hbx hbt hso6 hsr6 hco6 hcr6 hg6
 go_wp2_with fail
 try rw [hw12]
 clear hw12
 go_wp2_with fail
 refine hall.mono ?_
 rintro e w13 ⟨rfl, hw13⟩
 clear hall
 have HW13 := Lib.hid hw13
 clear hw13
 go_wp2_with fail
 have hB13 : Below w12.heap.size w12 w13 := by rw [← HW13.out]; exact bone w12 _
 have hgx : Blk w13 w12.heap.size 115 #[.slice SB zs.length sb] := by rw [← HW13.out]; exact Blk.new _ _ _
 have hs13 := own_under HS6.out hB13
 have hc13 := own_under HC6.out hB13
 have hbt13 := HBT.out.under hB13
 have hbx13 := HBX.out.under hB13
 have hBd13 : Below wd.heap.size wd w13 := bto (bto HB11.out HB12.out) hB13
 have hB9_13 : Below w9.heap.size w9 w13 := bto (bto HB910.out HBDD.out) hBd13
 have hB1_13 : Below w1.heap.size w1 w13 := bto HB9.out hB9_13
 have hP := shp.szs_prod HZ.out
 obtain ⟨N, hN⟩ : ∃ N : Nat, prodI zs = N := ⟨(prodI zs).toNat, by omega⟩
 have hNl : (New zs 0).length = N := by unfold New; rw [List.length_replicate, hN]; omega
 rw [hNl] at hc13 hbt13
 have hqx : ∃ qb, CB = some ⟨qb, 0, none⟩ := by
  rcases hc13.2 with ⟨e0, e1⟩ | ⟨qb, cap, cur, e0, _⟩
  ·exfalso; simp_all <;> omega
  ·injection e0 with e0 e1; exact ⟨qb, e0⟩
 obtain ⟨qb, rfl⟩ := hqx
 have hCl : wd.heap.size ≤ qb := HCR.out qb rfl
 have hql : qb < w12.heap.size := (own_in HC6.out rfl).2
 have hzl : zs.length = m := by rw [← hl]; exact HM.out
 rw [hzl] at hgx hs13
 rw [hzl] at hbt13
 have hSl : ∀ q, (Value.slice SB m sb).ownBlock = some q → q ≠ qb := fun q hq e => by
  subst e
  obtain ⟨cs, hcs⟩ := own_is hs13 hq
  exact own_blk_ne hc13 (show Blk w13 _ 3 cs from hcs) (by decide) rfl
 obtain ⟨S, hS⟩ : ∃ S : Nat → Prop, ∀ i, S i ↔ (w13.heap.size ≤ i ∨ i = qb) := ⟨fun i => w13.heap.size ≤ i ∨ i = qb, fun i => Iff.rfl⟩
 have hFl : (tabF zs fun t => min (fa t + fb t) k).length = N := by have := tabF_len HZ.out fun t => min (fa t + fb t) k; omega
 have hs13w : w13.heap.size = w12.heap.size + 1 := by rw [← HW13.out]; simp
 have hmsb : m ≤ sb := own_cap hs13
 have HS := Lib.hid hS
 have HFL := Lib.hid hFl
 have HNE : Hid (qb ≠ w11.heap.size ∧ qb ≠ g2) := ⟨fun e => own_blk_ne hc13 hbx13 (by decide) (by rw [← e]; rfl), fun e => own_blk_ne hc13 hbt13 (by decide) (by rw [← e]; rfl)⟩
 have HRW : Hid (∀ q, (Value.slice SB m sb).ownBlock = some q → ¬ S q) := fun q hq h => by
  rcases (hS q).1 h with h | h
  ·have := (own_in hs13 hq).2; omega
  ·exact hSl q hq h
 have hcF : w13.ownsRow 0 2 1 (.slice (some ⟨qb, 0, none⟩) N cb) N (nums ((tabF zs fun t => min (fa t + fb t) k).take 0 ++ List.replicate (N - 0) 0)) := by
  have : New zs 0 = (tabF zs fun t => min (fa t + fb t) k).take 0 ++ List.replicate (N - 0) 0 := by rw [List.take_zero, List.nil_append, Nat.sub_zero]; unfold New; rw [hN]; rfl
  rwa [this] at hc13
 refine (wpIn_wide (n := 4)).1 ?_
 refine' range_told (by omega) (gf := 150) (lb := #[.pointer (some ⟨w12.heap.size, 0, none⟩)]) rfl (enters_of Tryz.func150 (by kernel_rfl) rfl)
  (shp.all_toldO (4 - 1) (by omega) w12.heap.size m sb N S SB zs HZ.out hN hzl hmsb (fun h => by rcases (hS _).1 h with h | h <;> omega) w13 hgx hs13 HRW.out)
  shp.tchK_t (shp.tchK_b fun i hi => (hS i).2 (.inl hi)) (Below.refl _ _) (fun _ => rfl)
  (fun pre W => Tch w13 W S ∧ W.ownsRow 0 2 1 (.slice (some ⟨qb, 0, none⟩) N cb) N (nums ((tabF zs fun t => min (fa t + fb t) k).take pre.length ++ List.replicate (N - pre.length) 0))) (fun _ _ _ => False) ?hI (fun _ _ _ _ _ hs _ _ => hs) (fun _ _ _ _ h => h.2.2.1)
  (fun pre x W => (Tch w13 W S ∧ W.ownsRow 0 2 1 (.slice (some ⟨qb, 0, none⟩) N cb) N (nums ((tabF zs fun t => min (fa t + fb t) k).take pre.length ++ List.replicate (N - pre.length) 0))) ∧ x.1 = pre.length ∧ (x.1 : Int) < N ∧ W.ownsRow w13.heap.size 3 1 (.slice (some ⟨x.2, 0, none⟩) m m) m (nums (tupI zs x.1))) ?hZ ?hIZ ⟨Tch.refl _ _, hcF⟩
  _ ?assign ?body ?done ?stop
 case hI =>
  rintro pre W W' row ⟨h1, h2⟩ hg hrow
  exact ⟨h1.trans (Tch.of_grown hg fun i _ e => (hS i).2 (.inl (hrow i e.symm).1)) fun _ _ h => h, own_kept h2 hg fun r e => (hrow r e).2⟩
 case hZ =>
  rintro pre x _ W W' row ⟨⟨h1, h2⟩, h3, h4, h5⟩ hg hrow
  exact ⟨⟨h1.trans (Tch.of_grown hg fun i _ e => (hS i).2 (.inl (hrow i e.symm).1)) fun _ _ h => h, own_kept h2 hg fun r e => (hrow r e).2⟩, h3, h4, own_kept h5 hg fun r e => (hrow r e).2⟩
 case hIZ =>
  rintro pre x W0 W1 ⟨h1, h2⟩ ⟨h3, h4, h5, h6⟩ hle
  rw [hN] at h4
  exact ⟨⟨h1.trans (Tch.of_below h5 S) fun _ _ h => h, own_under h2 h5⟩, h3, h4, own_base h6 hle⟩
 case assign =>
  intro l x W K hK
  dsimp only [shp.encT]
  gi_wp2
  exact hK
 case body =>
  rintro l pre ⟨i, q⟩ W hl' ⟨⟨hT, hCo⟩, hi, hiN, hox⟩ hlen
  dsimp only at hi hiN hox ⊢
  subst hi
  obtain ⟨kk, hkk⟩ : ∃ kk, pre.length = kk := ⟨_, rfl⟩
  rw [hkk] at hCo hiN hox hlen ⊢
  obtain ⟨x, hx⟩ : ∃ x, tupI zs (kk : Int) = x := ⟨_, rfl⟩
  have hxT := shp.tup_in HZ.out (kk : Int)
  have hxat := shp.all_at HZ.out kk (by rw [hN]; exact hiN)
  have hxl : x.length = m := by rw [← hx, shp.tup_len, hzl]
  rw [hx] at hox hxT hxat
  have hxI := int_ins hxT
  have hqw := (own_in hox rfl).1
  have hBW9 : Below w9.heap.size w9 W := hB9_13.trans (hT.below hB9_13.size fun i hi h => by
   have z1 := hB9_13.size; have z2 := (bto HB910.out HBDD.out).size
   rcases (hS i).1 h with h | h <;> omega)
  have hBW := bto HB9.out hBW9
  have hbxW := hT.blk hbx13 (fun h => by
   rcases (hS _).1 h with h | h
   ·have := hbx13.lt; omega
   ·exact own_blk_ne hc13 hbx13 (by decide) (by rw [h]; rfl))
  have hbtW := hT.blk hbt13 (fun h => by
   rcases (hS _).1 h with h | h
   ·have := hbt13.lt; omega
   ·exact own_blk_ne hc13 hbt13 (by decide) (by rw [h]; rfl))
  have HY : Hid (∀ W', Below W.heap.size W W' → (W'.cell? ⟨w.heap.size, 0, none⟩ = some (.pointer (some ⟨ga, 0, none⟩)) ∧ W'.cell? ⟨w.heap.size + 1, 0, none⟩ = some (.slice X m cx) ∧ W'.cell? ⟨w.heap.size + 2, 0, none⟩ = some (.pointer (some ⟨gb, 0, none⟩)) ∧ W'.cell? ⟨w.heap.size + 3, 0, none⟩ = some (.slice Y m cy) ∧ W'.cell? ⟨w8.heap.size, 0, none⟩ = some (.slice A7 m k7)) ∧
   (TabV W' ga Fa Ra zs k (tabF zs fa) ∧ TabV W' gb Fb Rb zs k (tabF zs fb) ∧ Reads W' W'.heap.size 1 X m (nums sc) ∧ Reads W' W'.heap.size 1 Y m (nums sc) ∧ Reads W' W'.heap.size 1 A7 m (nums sc)) ∧
   (W'.cell? ⟨w11.heap.size, 0, none⟩ = some (.pointer (some ⟨g2, 0, none⟩)) ∧ W'.cell? ⟨g2, 1, none⟩ = some (.int .i64 k) ∧ W'.cell? ⟨g2, 2, none⟩ = some (.slice (some ⟨qb, 0, none⟩) N cb)) ∧
   W'.ownsRow 0 2 1 (.slice (some ⟨qb, 0, none⟩) N cb) N (nums ((tabF zs fun t => min (fa t + fb t) k).take kk ++ List.replicate (N - kk) 0)) ∧ W'.ownsRow w13.heap.size 3 1 (.slice (some ⟨q, 0, none⟩) m m) m (nums x)) := fun W' hW' => by
   obtain ⟨e4, e5, e6, e7, ea, eb, er, ey⟩ := HX.out W' (bto hBW hW')
   obtain ⟨f0, f1, f2⟩ := Blk.three (t := 117) (hbtW.under hW')
   exact ⟨⟨e4, e5, e6, e7, ((HBV.out.under hBW9).under hW').one.1⟩, ⟨ea, eb, er, ey, Reads.of_own (own_under (own_under HOV.out hBW9) hW')⟩, ⟨(hbxW.under hW').one.1, f1, f2⟩, own_under hCo hW', own_under hox hW'⟩
  have HT := Lib.hid hT
  have HCO := Lib.hid hCo
  have HXT := Lib.hid hxT
  have HXA := Lib.hid hxat
  have HKK := Lib.hid hkk
  have HXI := Lib.hid hxI
  have HXL := Lib.hid hxl
  have HSCL : Hid (x.length = sc.length) := by rw [Hid, hxl, ← HM.out]
  clear hT hCo hox hxT hxat hx hkk hxl hxI hbxW hbtW hB9_13 hB1_13
  have hbd : Below W.heap.size W W.drew := (Below.refl _ _).drew
  obtain ⟨⟨e4, e5, e6, e7, ev⟩, ⟨ea, eb, er, ey, evr⟩, -, -, eX⟩ := HY.out _ hbd
  gi_upto_region 17 with fail
  refine wpIn_region_round (by kernel_rfl) (by kernel_rfl) (by rintro ⟨a, w', h⟩; exact h) ?_
  have hHeld : W.drew.cell? ⟨w.heap.size, 0, none⟩ = some (.pointer (some ⟨ga, 0, none⟩)) ∧ W.drew.cell? ⟨w.heap.size + 1, 0, none⟩ = some (.slice X m cx) ∧ W.drew.cell? ⟨w8.heap.size, 0, none⟩ = some (.slice A7 m k7) := ⟨e4, e5, ev⟩
  refine wpAny_of_held (S := (fun W' => W'.cell? ⟨w.heap.size, 0, none⟩ = some (.pointer (some ⟨ga, 0, none⟩)) ∧ W'.cell? ⟨w.heap.size + 1, 0, none⟩ = some (.slice X m cx) ∧ W'.cell? ⟨w8.heap.size, 0, none⟩ = some (.slice A7 m k7))) _ _ _ _ ?_
  refine wpAnyH_take (i := 0) (v := ?vc0) rfl (by kernel_rfl) (by kernel_rfl) (by kernel_rfl) (fun _ _ _ h => h) (Or.inl ⟨by kernel_rfl, ?hyc0⟩) hHeld ?restc0
  case hyc0 => (intro w hSw; (try dsimp only at hSw); go_simp; try with_reducible rfl)
  try simp only [Act.put, List.setIfInBounds_toArray, List.set_cons_zero, List.set_cons_succ]
  refine wpAnyH_take (i := 1) (v := ?vc1) rfl (by kernel_rfl) (by kernel_rfl) (by kernel_rfl) (fun _ _ _ h => h) (Or.inl ⟨by kernel_rfl, ?hyc1⟩) hHeld ?restc1
  case hyc1 => (intro w hSw; (try dsimp only at hSw); go_simp; try with_reducible rfl)
  try simp only [Act.put, List.setIfInBounds_toArray, List.set_cons_zero, List.set_cons_succ]
  refine wpAnyH_take (i := 2) (v := ?vc2) rfl (by kernel_rfl) (by kernel_rfl) (by kernel_rfl) (fun _ _ _ h => h) (Or.inl ⟨by kernel_rfl, ?hyc2⟩) hHeld ?restc2
  case hyc2 => (intro w hSw; (try dsimp only at hSw); go_simp; try with_reducible rfl)
  try simp only [Act.put, List.setIfInBounds_toArray, List.set_cons_zero, List.set_cons_succ]
  refine wpAnyH_take (i := 3) (v := ?vc3) rfl (by kernel_rfl) (by kernel_rfl) (by kernel_rfl) (fun _ _ _ h => h) (Or.inl ⟨by kernel_rfl, ?hyc3⟩) hHeld ?restc3
  case hyc3 => (intro w hSw; (try dsimp only at hSw); go_simp; try with_reducible rfl)
  try simp only [Act.put, List.setIfInBounds_toArray, List.set_cons_zero, List.set_cons_succ]
  have hpt := part_any (some ⟨q, 0, none⟩) A7 X m m m k7 m cx x sc sc W.drew (Reads.of_own eX) evr er HND.out (fun _ h => h) HSCL.out (by omega) (by omega)
  rw [partT_self HND.out HSCL.out] at hpt
  refine wpAnyH_ready (rs := [4]) (by kernel_rfl) (by simp) ?_
  refine AllReadyH.cons rfl (fun K hK => ?_) AllReadyH.nil
  go_simp
  refine hpt.mono ?_
  rintro e wa ⟨gp, rfl, hop, hba⟩
  dsimp only
  have HBA := Lib.hid (bto hbd hba)
  clear e4 e5 e6 e7 ev ea eb er ey evr eX hpt
  obtain ⟨⟨e4, e5, e6, e7, ev⟩, ⟨ea, -⟩, -⟩ := HY.out _ HBA.out
  refine hK.out _ _ ⟨e4, e5, ev⟩ (fun hHelda => ?_)
  have hget := tabget_any ea HZ.out (tabF_len HZ.out fa) (some ⟨gp, 0, none⟩) m m x (Reads.of_own hop) HXT.out
  rw [at_tabF HZ.out HXI.out] at hget
  clear hK K hHeld ea hop hba
  refine wpAnyH_ready (rs := [5]) (by kernel_rfl) (by simp) ?_
  refine AllReadyH.cons rfl (fun K hK => ?_) AllReadyH.nil
  go_simp
  refine hget.mono ?_
  rintro e wb ⟨rfl, hbb⟩
  dsimp only
  have HBB := Lib.hid (bto HBA.out hbb)
  clear e4 e5 e6 e7 ev hget
  obtain ⟨⟨e4, e5, e6, e7, ev⟩, -⟩ := HY.out _ HBB.out
  refine hK.out _ _ ⟨e4, e5, ev⟩ (fun hHeldb => ?_)
  clear hK K hHelda hbb e4 e5 e6 e7 ev
  refine wpAnyH_take (i := 6) (v := ?vc6) rfl (by kernel_rfl) (by kernel_rfl) (by kernel_rfl) (fun _ _ _ h => h) (Or.inl ⟨by kernel_rfl, ?hyc6⟩) hHeldb ?restc6
  case hyc6 => (intro w hSw; (try dsimp only at hSw); go_simp; try with_reducible rfl)
  try simp only [Act.put, List.setIfInBounds_toArray, List.set_cons_zero, List.set_cons_succ]
  refine wpAnyH_take (i := 7) (v := ?vc7) rfl (by kernel_rfl) (by kernel_rfl) (by kernel_rfl) (fun _ _ _ h => h) (Or.inl ⟨by kernel_rfl, ?hyc7⟩) hHeldb ?restc7
  case hyc7 => (intro w hSw; (try dsimp only at hSw); go_simp; try with_reducible rfl)
  try simp only [Act.put, List.setIfInBounds_toArray, List.set_cons_zero, List.set_cons_succ]
  refine wpAnyH_take (i := 8) (v := ?vc8) rfl (by kernel_rfl) (by kernel_rfl) (by kernel_rfl) (fun _ _ _ h => h) (Or.inl ⟨by kernel_rfl, ?hyc8⟩) hHeldb ?restc8
  case hyc8 => (intro w hSw; (try dsimp only at hSw); go_simp; try with_reducible rfl)
  try simp only [Act.put, List.setIfInBounds_toArray, List.set_cons_zero, List.set_cons_succ]
  refine wpAnyH_take (i := 9) (v := ?vc9) rfl (by kernel_rfl) (by kernel_rfl) (by kernel_rfl) (fun _ _ _ h => h) (Or.inl ⟨by kernel_rfl, ?hyc9⟩) hHeldb ?restc9
  case hyc9 => (intro w hSw; (try dsimp only at hSw); go_simp; try with_reducible rfl)
  try simp only [Act.put, List.setIfInBounds_toArray, List.set_cons_zero, List.set_cons_succ]
  refine wpAnyH_take (i := 10) (v := ?vc10) rfl (by kernel_rfl) (by kernel_rfl) (by kernel_rfl) (fun _ _ _ h => h) (Or.inl ⟨by kernel_rfl, ?hyc10⟩) hHeldb ?restc10
  case hyc10 => (intro w hSw; (try dsimp only at hSw); go_simp; try with_reducible rfl)
  try simp only [Act.put, List.setIfInBounds_toArray, List.set_cons_zero, List.set_cons_succ]
  refine wpAnyH_done (by kernel_rfl) ?_ _
  go_simp
  clear hHeldb
  have hbd2 := HBB.out.drew
  obtain ⟨⟨e4, e5, e6, e7, ev⟩, ⟨ea, eb, er, ey, evr⟩, -, -, eX⟩ := HY.out _ hbd2
  gi_upto_region 18 with fail
  refine wpIn_region_round (by kernel_rfl) (by kernel_rfl) (by rintro ⟨a, w', h⟩; exact h) ?_
  have hHeld : wb.drew.cell? ⟨w.heap.size + 2, 0, none⟩ = some (.pointer (some ⟨gb, 0, none⟩)) ∧ wb.drew.cell? ⟨w.heap.size + 3, 0, none⟩ = some (.slice Y m cy) ∧ wb.drew.cell? ⟨w8.heap.size, 0, none⟩ = some (.slice A7 m k7) := ⟨e6, e7, ev⟩
  refine wpAny_of_held (S := (fun W' => W'.cell? ⟨w.heap.size + 2, 0, none⟩ = some (.pointer (some ⟨gb, 0, none⟩)) ∧ W'.cell? ⟨w.heap.size + 3, 0, none⟩ = some (.slice Y m cy) ∧ W'.cell? ⟨w8.heap.size, 0, none⟩ = some (.slice A7 m k7))) _ _ _ _ ?_
  refine wpAnyH_take (i := 0) (v := ?vd0) rfl (by kernel_rfl) (by kernel_rfl) (by kernel_rfl) (fun _ _ _ h => h) (Or.inl ⟨by kernel_rfl, ?hyd0⟩) hHeld ?restd0
  case hyd0 => (intro w hSw; (try dsimp only at hSw); go_simp; try with_reducible rfl)
  try simp only [Act.put, List.setIfInBounds_toArray, List.set_cons_zero, List.set_cons_succ]
  refine wpAnyH_take (i := 1) (v := ?vd1) rfl (by kernel_rfl) (by kernel_rfl) (by kernel_rfl) (fun _ _ _ h => h) (Or.inl ⟨by kernel_rfl, ?hyd1⟩) hHeld ?restd1
  case hyd1 => (intro w hSw; (try dsimp only at hSw); go_simp; try with_reducible rfl)
  try simp only [Act.put, List.setIfInBounds_toArray, List.set_cons_zero, List.set_cons_succ]
  refine wpAnyH_take (i := 2) (v := ?vd2) rfl (by kernel_rfl) (by kernel_rfl) (by kernel_rfl) (fun _ _ _ h => h) (Or.inl ⟨by kernel_rfl, ?hyd2⟩) hHeld ?restd2
  case hyd2 => (intro w hSw; (try dsimp only at hSw); go_simp; try with_reducible rfl)
  try simp only [Act.put, List.setIfInBounds_toArray, List.set_cons_zero, List.set_cons_succ]
  refine wpAnyH_take (i := 3) (v := ?vd3) rfl (by kernel_rfl) (by kernel_rfl) (by kernel_rfl) (fun _ _ _ h => h) (Or.inl ⟨by kernel_rfl, ?hyd3⟩) hHeld ?restd3
  case hyd3 => (intro w hSw; (try dsimp only at hSw); go_simp; try with_reducible rfl)
  try simp only [Act.put, List.setIfInBounds_toArray, List.set_cons_zero, List.set_cons_succ]
  have hpt := part_any (some ⟨q, 0, none⟩) A7 Y m m m k7 m cy x sc sc wb.drew (Reads.of_own eX) evr ey HND.out (fun _ h => h) HSCL.out (by omega) (by omega)
  rw [partT_self HND.out HSCL.out] at hpt
  refine wpAnyH_ready (rs := [4]) (by kernel_rfl) (by simp) ?_
  refine AllReadyH.cons rfl (fun K hK => ?_) AllReadyH.nil
  go_simp
  refine hpt.mono ?_
  rintro e wc ⟨gp2, rfl, hop, hbc⟩
  dsimp only
  have HBC := Lib.hid (bto hbd2 hbc)
  clear e4 e5 e6 e7 ev ea eb er ey evr eX hpt
  obtain ⟨⟨e4, e5, e6, e7, ev⟩, ⟨-, eb, -⟩, -⟩ := HY.out _ HBC.out
  refine hK.out _ _ ⟨e6, e7, ev⟩ (fun hHeldc => ?_)
  have hget := tabget_any eb HZ.out (tabF_len HZ.out fb) (some ⟨gp2, 0, none⟩) m m x (Reads.of_own hop) HXT.out
  rw [at_tabF HZ.out HXI.out] at hget
  clear hK K hHeld eb hop hbc
  refine wpAnyH_ready (rs := [5]) (by kernel_rfl) (by simp) ?_
  refine AllReadyH.cons rfl (fun K hK => ?_) AllReadyH.nil
  go_simp
  refine hget.mono ?_
  rintro e we ⟨rfl, hbe⟩
  dsimp only
  have HBE := Lib.hid (bto HBC.out hbe)
  clear e4 e5 e6 e7 ev hget
  obtain ⟨⟨e4, e5, e6, e7, ev⟩, -⟩ := HY.out _ HBE.out
  refine hK.out _ _ ⟨e6, e7, ev⟩ (fun hHelde => ?_)
  clear hK K hHeldc hbe e4 e5 e6 e7 ev
  refine wpAnyH_take (i := 6) (v := ?vd6) rfl (by kernel_rfl) (by kernel_rfl) (by kernel_rfl) (fun _ _ _ h => h) (Or.inl ⟨by kernel_rfl, ?hyd6⟩) hHelde ?restd6
  case hyd6 => (intro w hSw; (try dsimp only at hSw); go_simp; try with_reducible rfl)
  try simp only [Act.put, List.setIfInBounds_toArray, List.set_cons_zero, List.set_cons_succ]
  refine wpAnyH_take (i := 7) (v := ?vd7) rfl (by kernel_rfl) (by kernel_rfl) (by kernel_rfl) (fun _ _ _ h => h) (Or.inl ⟨by kernel_rfl, ?hyd7⟩) hHelde ?restd7
  case hyd7 => (intro w hSw; (try dsimp only at hSw); go_simp; try with_reducible rfl)
  try simp only [Act.put, List.setIfInBounds_toArray, List.set_cons_zero, List.set_cons_succ]
  refine wpAnyH_take (i := 8) (v := ?vd8) rfl (by kernel_rfl) (by kernel_rfl) (by kernel_rfl) (fun _ _ _ h => h) (Or.inl ⟨by kernel_rfl, ?hyd8⟩) hHelde ?restd8
  case hyd8 => (intro w hSw; (try dsimp only at hSw); go_simp; try with_reducible rfl)
  try simp only [Act.put, List.setIfInBounds_toArray, List.set_cons_zero, List.set_cons_succ]
  refine wpAnyH_take (i := 9) (v := ?vd9) rfl (by kernel_rfl) (by kernel_rfl) (by kernel_rfl) (fun _ _ _ h => h) (Or.inl ⟨by kernel_rfl, ?hyd9⟩) hHelde ?restd9
  case hyd9 => (intro w hSw; (try dsimp only at hSw); go_simp; try with_reducible rfl)
  try simp only [Act.put, List.setIfInBounds_toArray, List.set_cons_zero, List.set_cons_succ]
  refine wpAnyH_take (i := 10) (v := ?vd10) rfl (by kernel_rfl) (by kernel_rfl) (by kernel_rfl) (fun _ _ _ h => h) (Or.inl ⟨by kernel_rfl, ?hyd10⟩) hHelde ?restd10
  case hyd10 => (intro w hSw; (try dsimp only at hSw); go_simp; try with_reducible rfl)
  try simp only [Act.put, List.setIfInBounds_toArray, List.set_cons_zero, List.set_cons_succ]
  refine wpAnyH_done (by kernel_rfl) ?_ _
  go_simp
  clear hHelde
  have hbd3 := HBE.out.drew
  obtain ⟨-, -, ⟨ex, ek, ec⟩, eC, -⟩ := HY.out _ hbd3
  have hadd := add_ok (fa x) (fb x) k we.drew (HFA.out x HXI.out) (HFB.out x HXI.out)
  gi_upto_region 19 with fail
  refine wpIn_region_round (by kernel_rfl) (by kernel_rfl) (by rintro ⟨a, w', h⟩; exact h) ?_
  obtain ⟨wh, hwh⟩ : ∃ wh, we.drew = wh := ⟨_, rfl⟩
  rw [hwh] at hbd3 ex ek ec eC hadd ⊢
  clear hwh
  have hHeld : wh.cell? ⟨w11.heap.size, 0, none⟩ = some (.pointer (some ⟨g2, 0, none⟩)) ∧ wh.cell? ⟨g2, 1, none⟩ = some (.int .i64 k) ∧ wh.cell? ⟨g2, 2, none⟩ = some (.slice (some ⟨qb, 0, none⟩) N cb) := ⟨ex, ek, ec⟩
  refine wpAny_of_held (S := (fun W' => W'.cell? ⟨w11.heap.size, 0, none⟩ = some (.pointer (some ⟨g2, 0, none⟩)) ∧ W'.cell? ⟨g2, 1, none⟩ = some (.int .i64 k) ∧ W'.cell? ⟨g2, 2, none⟩ = some (.slice (some ⟨qb, 0, none⟩) N cb))) _ _ _ _ ?_
  refine wpAnyH_take (i := 0) (v := ?ve0) rfl (by kernel_rfl) (by kernel_rfl) (by kernel_rfl) (fun _ _ _ h => h) (Or.inl ⟨by kernel_rfl, ?hye0⟩) hHeld ?reste0
  case hye0 => (intro w hSw; (try dsimp only at hSw); go_simp; try with_reducible rfl)
  try simp only [Act.put, List.setIfInBounds_toArray, List.set_cons_zero, List.set_cons_succ]
  refine wpAnyH_take (i := 1) (v := ?ve1) rfl (by kernel_rfl) (by kernel_rfl) (by kernel_rfl) (fun _ _ _ h => h) (Or.inl ⟨by kernel_rfl, ?hye1⟩) hHeld ?reste1
  case hye1 => (intro w hSw; (try dsimp only at hSw); go_simp; try with_reducible rfl)
  try simp only [Act.put, List.setIfInBounds_toArray, List.set_cons_zero, List.set_cons_succ]
  refine wpAnyH_take (i := 2) (v := ?ve2) rfl (by kernel_rfl) (by kernel_rfl) (by kernel_rfl) (fun _ _ _ h => h) (Or.inl ⟨by kernel_rfl, ?hye2⟩) hHeld ?reste2
  case hye2 => (intro w hSw; (try dsimp only at hSw); go_simp; try with_reducible rfl)
  try simp only [Act.put, List.setIfInBounds_toArray, List.set_cons_zero, List.set_cons_succ]
  refine wpAnyH_take (i := 3) (v := ?ve3) rfl (by kernel_rfl) (by kernel_rfl) (by kernel_rfl) (fun _ _ _ h => h) (Or.inl ⟨by kernel_rfl, ?hye3⟩) hHeld ?reste3
  case hye3 => (intro w hSw; (try dsimp only at hSw); go_simp; try with_reducible rfl)
  try simp only [Act.put, List.setIfInBounds_toArray, List.set_cons_zero, List.set_cons_succ]
  refine wpAnyH_take (i := 4) (v := ?ve4) rfl (by kernel_rfl) (by kernel_rfl) (by kernel_rfl) (fun _ _ _ h => h) (Or.inl ⟨by kernel_rfl, ?hye4⟩) hHeld ?reste4
  case hye4 => (intro w hSw; (try dsimp only at hSw); go_simp; try with_reducible rfl)
  try simp only [Act.put, List.setIfInBounds_toArray, List.set_cons_zero, List.set_cons_succ]
  refine wpAnyH_take (i := 5) (v := ?ve5) rfl (by kernel_rfl) (by kernel_rfl) (by kernel_rfl) (fun _ _ _ h => h) (Or.inl ⟨by kernel_rfl, ?hye5⟩) hHeld ?reste5
  case hye5 => (intro w hSw; (try dsimp only at hSw); go_simp; try with_reducible rfl)
  try simp only [Act.put, List.setIfInBounds_toArray, List.set_cons_zero, List.set_cons_succ]
  refine wpAnyH_take (i := 6) (v := ?ve6) rfl (by kernel_rfl) (by kernel_rfl) (by kernel_rfl) (fun _ _ _ h => h) (Or.inl ⟨by kernel_rfl, ?hye6⟩) hHeld ?reste6
  case hye6 => (intro w hSw; (try dsimp only at hSw); go_simp; try with_reducible rfl)
  try simp only [Act.put, List.setIfInBounds_toArray, List.set_cons_zero, List.set_cons_succ]
  refine wpAnyH_take (i := 7) (v := ?ve7) rfl (by kernel_rfl) (by kernel_rfl) (by kernel_rfl) (fun _ _ _ h => h) (Or.inl ⟨by kernel_rfl, ?hye7⟩) hHeld ?reste7
  case hye7 => (intro w hSw; (try dsimp only at hSw); go_simp; try with_reducible rfl)
  try simp only [Act.put, List.setIfInBounds_toArray, List.set_cons_zero, List.set_cons_succ]
  refine wpAnyH_take (i := 8) (v := ?ve8) rfl (by kernel_rfl) (by kernel_rfl) (by kernel_rfl) (fun _ _ _ h => h) (Or.inl ⟨by kernel_rfl, ?hye8⟩) hHeld ?reste8
  case hye8 => (intro w hSw; (try dsimp only at hSw); go_simp; try with_reducible rfl)
  try simp only [Act.put, List.setIfInBounds_toArray, List.set_cons_zero, List.set_cons_succ]
  refine wpAnyH_take (i := 9) (v := ?ve9) rfl (by kernel_rfl) (by kernel_rfl) (by kernel_rfl) (fun _ _ _ h => h) (Or.inl ⟨by kernel_rfl, ?hye9⟩) hHeld ?reste9
  case hye9 => (intro w hSw; (try dsimp only at hSw); go_simp; try with_reducible rfl)
  try simp only [Act.put, List.setIfInBounds_toArray, List.set_cons_zero, List.set_cons_succ]
  refine wpAnyH_take (i := 10) (v := ?ve10) rfl (by kernel_rfl) (by kernel_rfl) (by kernel_rfl) (fun _ _ _ h => h) (Or.inl ⟨by kernel_rfl, ?hye10⟩) hHeld ?reste10
  case hye10 => (intro w hSw; (try dsimp only at hSw); go_simp; try with_reducible rfl)
  try simp only [Act.put, List.setIfInBounds_toArray, List.set_cons_zero, List.set_cons_succ]
  refine wpAnyH_ready (rs := [11]) (by kernel_rfl) (by simp) ?_
  refine AllReadyH.cons rfl (fun K hK => ?_) AllReadyH.nil
  go_simp
  refine hadd.mono ?_
  rintro e wf ⟨rfl, rfl⟩
  dsimp only
  refine hK.out _ _ hHeld (fun hHeldf => ?_)
  clear hK K hadd
  have hf9 := eC.frozenAt kk
  obtain ⟨u, hu⟩ : ∃ u, (nums ((tabF zs fun t => min (fa t + fb t) k).take kk ++ List.replicate (N - kk) 0))[kk]? = some u := ⟨_, List.getElem?_eq_getElem (by have := HFL.out; simp [nums]; omega)⟩
  have hc9 := (eC.cellAt kk (by omega)).trans hu
  have i0 : (0 : Int) ≤ (kk : Int) := by omega
  refine wpAnyH_take (i := 12) (v := ?ve12) rfl (by kernel_rfl) (by kernel_rfl) (by kernel_rfl) (fun _ _ _ h => h) (Or.inl ⟨by kernel_rfl, ?hye12⟩) hHeldf ?reste12
  case hye12 => (intro w hSw; (try dsimp only at hSw); go_simp; try with_reducible rfl)
  try simp only [Act.put, List.setIfInBounds_toArray, List.set_cons_zero, List.set_cons_succ]
  refine wpAnyH_take (i := 13) (v := ?ve13) rfl (by kernel_rfl) (by kernel_rfl) (by kernel_rfl) (fun _ _ _ h => h) (Or.inl ⟨by kernel_rfl, ?hye13⟩) hHeldf ?reste13
  case hye13 => (intro w hSw; (try dsimp only at hSw); go_simp; try with_reducible rfl)
  try simp only [Act.put, List.setIfInBounds_toArray, List.set_cons_zero, List.set_cons_succ]
  refine wpAnyH_take (i := 14) (v := ?ve14) rfl (by kernel_rfl) (by kernel_rfl) (by kernel_rfl) (fun _ _ _ h => h) (Or.inl ⟨by kernel_rfl, ?hye14⟩) hHeldf ?reste14
  case hye14 => (intro w hSw; (try dsimp only at hSw); go_simp; try with_reducible rfl)
  try simp only [Act.put, List.setIfInBounds_toArray, List.set_cons_zero, List.set_cons_succ]
  refine wpAnyH_take (i := 15) (v := ?ve15) rfl (by kernel_rfl) (by kernel_rfl) (by kernel_rfl) (fun _ _ _ h => h) (Or.inl ⟨by kernel_rfl, ?hye15⟩) hHeldf ?reste15
  case hye15 => (intro w hSw; (try dsimp only at hSw); go_simp; try with_reducible rfl)
  try simp only [Act.put, List.setIfInBounds_toArray, List.set_cons_zero, List.set_cons_succ]
  refine wpAnyH_ready (rs := [16]) (by kernel_rfl) (by simp) ?_
  refine AllReadyH.cons rfl (fun K hK => ?_) AllReadyH.nil
  go_simp
  have HS12 := (eC.stored kk (.int .i64 (min (fa x + fb x) k))).1
  refine hK.out _ _ ⟨?_, ?_, ?_⟩ (fun _ => ?_)
  ·rw [World.cell?_setCell_far _ _ _ _ HNE.out.1]; exact hHeldf.1
  ·rw [World.cell?_setCell_far _ _ _ _ HNE.out.2]; exact hHeldf.2.1
  ·rw [World.cell?_setCell_far _ _ _ _ HNE.out.2]; exact hHeldf.2.2
  clear hK K
  refine wpAnyH_done (by kernel_rfl) ?_ _
  have T1 : Tch W (wh.setCell ⟨qb, kk, none⟩ (.int .i64 (min (fa x + fb x) k))) (fun i => i = qb) := (Tch.of_below hbd3 _).put (p := ⟨qb, kk, none⟩) _ rfl
  have T2 : Tch W (wh.setCell ⟨qb, kk, none⟩ (.int .i64 (min (fa x + fb x) k))) S := (Tch.of_below hbd3 _).put (p := ⟨qb, kk, none⟩) _ ((HS.out qb).2 (.inr rfl))
  refine ⟨from_cells _ T1 fun i h _ => ?_, T2, HT.out.trans T2 fun _ _ h => h, ?_⟩
  ·subst h
   obtain ⟨cs, hc⟩ := own_is HCO.out (q := i) rfl
   exact ⟨cs, _, hc⟩
  ·have hxk : (tabF zs fun t => min (fa t + fb t) k)[kk]? = some (min (fa x + fb x) k) := by unfold tabF; rw [List.getElem?_map, HXA.out]; rfl
   have hsp := set_part hxk
   rw [HFL.out] at hsp
   rw [hsp] at HS12
   rw [List.length_append, HKK.out]
   exact HS12
 case done =>
  rintro D ys W hD hlen ⟨hT, hCo⟩ hDK
  rw [hlen, List.take_of_length_le (by rw [HFL.out]; exact Nat.le_refl _), Nat.sub_self, List.replicate_zero, List.append_nil] at hCo
  have hbxW := hT.blk hbx13 (fun h => by
   rcases (HS.out _).1 h with h | h
   ·have := hbx13.lt; omega
   ·exact own_blk_ne hc13 hbx13 (by decide) (by rw [h]; rfl))
  have hbtW := hT.blk hbt13 (fun h => by
   rcases (HS.out _).1 h with h | h
   ·have := hbt13.lt; omega
   ·exact own_blk_ne hc13 hbt13 (by decide) (by rw [h]; rfl))
  have hsW := hT.own hs13 HRW.out
  obtain ⟨ex, -⟩ := hbxW.one
  have hBW9 : Below w9.heap.size w9 W := hB9_13.trans (hT.below hB9_13.size fun i hi h => by
   have z1 := hB9_13.size; have z2 := (bto HB910.out HBDD.out).size
   rcases (HS.out i).1 h with h | h <;> omega)
  have hvW := HBV.out.under hBW9
  obtain ⟨ev, -⟩ := hvW.one
  have hz0 : w.heap.size ≤ wd.heap.size := by have z1 := (bto HB1.out HBD.out).size; omega
  have HBW := Lib.hid (bto (bto HB1.out HB9.out) hBW9)
  have HCO := Lib.hid hCo
  have HBT7 := Lib.hid hbtW
  have HSW := Lib.hid hsW
  have HDK := Lib.hid hDK
  have HDL : Hid (w13.heap.size ≤ D) := hD
  have HZ0 : Hid (w.heap.size ≤ wd.heap.size ∧ w.heap.size ≤ w13.heap.size) := ⟨hz0, by have := hBd13.size; omega⟩
  have HQL := Lib.hid hCl
  clear hT hCo hbxW hbtW hsW hDK hvW hBW9 hB9_13 hB1_13
  go_upto_region 20 with fail
  go_quiet (fail)
  go_wp2_with fail
  obtain ⟨Wq, hWq⟩ : ∃ Wq, W.drewN nq = Wq := ⟨_, rfl⟩
  have hbq : Below W.heap.size W Wq := by rw [← hWq]; exact below_drewN (Below.refl _ _) nq
  have hDq : Wq.heap[D]? = some (.deferred (some [])) := by rw [← hWq]; exact HDK.out
  rw [hWq]
  clear hWq
  have HBQ := Lib.hid hbq
  have HDQ := Lib.hid hDq
  refine ⟨by simp, .inl ⟨_, _, rfl, run_takeDeferred HDQ.out, ?_⟩⟩
  have hfin : Tch Wq (Wq.putObj D (.deferred none)) (fun i => i = D) := Tch.of_grown (grownBy_putObj' Wq D _) fun i _ e => by injection e
  have hcl : ∀ {i : Nat} {t : TypeId} {cs : Array Value}, Blk Wq i t cs → i ≠ D := fun h e => by
   subst e; rw [show Wq.heap[_]? = _ from h] at hDq; cases hDq
  have hbt2 := HBT7.out.under hbq
  have hsw2 := own_under HSW.out hbq
  have hco2 := own_under HCO.out hbq
  have hbw2 := bto HBW.out hbq
  refine ⟨_, results_tmp3 rfl _ _ _, g2, A7, k7, rfl, ⟨by have := HG6.out; have := HZ0.out; omega, SB, sb, some ⟨qb, 0, none⟩, cb, ?_, ?_, ?_, ?_, ?_⟩, ?_⟩
  ·rw [hzl, HFL.out]; exact hfin.blk hbt2 (hcl hbt2)
  ·rw [hzl]; exact hfin.own hsw2 fun q hq e => by
    obtain ⟨cs, hcs⟩ := own_is hsw2 hq
    exact hcl hcs e
  ·intro q hq; have := HSR.out q hq; have := HZ0.out; omega
  ·rw [HFL.out]; exact hfin.own hco2 fun q hq e => by
    obtain ⟨cs, hcs⟩ := own_is hco2 hq
    exact hcl hcs e
  ·intro q hq; cases hq; have := HQL.out; have := HZ0.out; show w.heap.size ≤ qb; omega
  ·exact hbw2.trans (hfin.below hbw2.size fun i hi h => by have z2 := HDL.out; have z3 := HZ0.out; omega)
 case stop =>
  rintro D c pre W _ _ h _
  exact h.elim
end Go.Proofs.YtjpkkkphhaajgaaGreatDoor.wcp
/- plain.Canon: the canonical file. -/
namespace Go.Proofs.YtjpkkkphhaajgaaGreatDoor.wcp
open Go Go.RowKit Go.Shelf Go.ChangeShapes Go.WideShapes Go.ChangeAt Go.Maps Go.Proofs.YtjpkkkphhaajgaaGreatDoor.words Go.Proofs.YtjpkkkphhaajgaaGreatDoor.scn
open Go.Proofs.YtjpkkkphhaajgaaGreatDoor.shp (Szs prodI InT idxI tupI allI)
theorem infoFnC : (Tryz.prog.info? 88).map (fun i => (i.zero, i.size, i.bytes)) = some (some (.agg #[.slice none 0 0, .pointer none]), 2, 32) := by kernel_rfl
/-- between the rounds: the functions so far, joined -/
structure JoinW (w : World) (f : Fil) (j : Nat) (P : List GT) (L : Option Addr) (lc : Nat) (wr : World) : Prop where
 map : P.map (·.2) = joined f.sizes f.k (f.funs.take j)
 row : wr.ownsRow w.heap.size 88 2 (.slice L P.length lc) P.length (gcells P)
 fs : ∀ p ∈ P, GV wr w.heap.size f.k p
 below : Below w.heap.size w wr
theorem JoinW.good {w wr : World} {f : Fil} {j : Nat} {P : List GT} {L : Option Addr} {lc : Nat} (h : JoinW w f j P L lc wr) (hf : GoodFs f.sizes f.k f.funs) : ∀ p ∈ P, GoodC f.sizes f.k p.2 := fun p hp =>
 joined_good (fun x hx => hf x (List.mem_of_mem_take hx)) p.2 (by rw [← h.map]; exact List.mem_map_of_mem hp)
theorem JoinW.len {w wr : World} {f : Fil} {j : Nat} {P : List GT} {L : Option Addr} {lc : Nat} (h : JoinW w f j P L lc wr) : P.length ≤ f.funs.length := by
 have h1 := congrArg List.length h.map
 have h2 := joined_len f.sizes f.k (f.funs.take j)
 rw [List.length_map] at h1
 rw [List.length_take] at h2
 omega
theorem good_sc {zs : List Int} {K : Int} {g : CF} (h : GoodC zs K g) : g.scope.length = g.sizes.length ∧ g.scope.length ≤ 6 := by
 have : g.sizes.length = g.scope.length := by rw [h.sizes, szOf_len]
 have := h.szs.1
 omega
theorem good_C {zs : List Int} {K : Int} {g : CF} (h : GoodC zs K g) : g.C.length ≤ 4096 := by
 obtain ⟨f, e, -⟩ := h.tab
 have := tabF_len h.szs f
 have := h.prod
 rw [e]; omega
theorem good_rise {zs : List Int} {K : Int} {g : CF} (h : GoodC zs K g) (hz : zs.length ≤ 64) : IsRise g.scope := ⟨fun v hv => by have := h.vars v hv; omega, h.rise⟩
/-- one more function -/
theorem JoinW.push {w wr w1 w2 : World} {f : Fil} {j : Nat} {P : List GT} {L L' A : Option Addr} {lc lc' c g2 : Nat} {x : Raw} (h : JoinW w f j P L lc wr) (hx : f.funs[j]? = some x) (hb1 : Below wr.heap.size wr w1) (hb2 : Below w.heap.size w w2) (hg : w1.grownBy w2 (Value.slice L P.length lc).ownBlock)
 (hnew : ∀ q ∈ P, q.2.scope ≠ (turnF f.sizes f.k x).scope) (hgv : GV w1 w.heap.size f.k (.agg #[.slice A x.scope.length c, .pointer (some ⟨g2, 0, none⟩)], turnF f.sizes f.k x))
 (ho : w2.ownsRow w.heap.size 88 2 (.slice L' (P.length + 1) lc') (P.length + 1) (gcells P ++ [.slice A x.scope.length c, .pointer (some ⟨g2, 0, none⟩)])) :
 JoinW w f (j + 1) (P ++ [(.agg #[.slice A x.scope.length c, .pointer (some ⟨g2, 0, none⟩)], turnF f.sizes f.k x)]) L' lc' w2 := by
 have hl : (P ++ [((.agg #[.slice A x.scope.length c, .pointer (some ⟨g2, 0, none⟩)], turnF f.sizes f.k x) : GT)]).length = P.length + 1 := by simp
 have hT : Tch w1 w2 (fun q => some q = (Value.slice L P.length lc).ownBlock) := Tch.of_grown hg fun q _ e => e
 have hno : NoFn w1 (fun q => some q = (Value.slice L P.length lc).ownBlock) := fun q e => by
  obtain ⟨cs, hc⟩ := own_is (own_under h.row hb1) e.symm
  exact ⟨_, cs, hc, by decide, by decide, by decide⟩
 refine ⟨?_, by rw [hl, gc_snoc]; exact ho, fun p hp => ?_, hb2⟩
 ·rw [List.map_append, h.map, joined_take hx, addC_new]
  ·rfl
  ·intro q hq
   rw [← h.map] at hq
   obtain ⟨p, hp, rfl⟩ := List.mem_map.1 hq
   exact hnew p hp
 ·rcases List.mem_append.1 hp with hp | hp
  ·exact ((h.fs p hp).under hb1).off hT hno
  ·rw [List.mem_singleton.1 hp]; exact hgv.off hT hno
/-- joined with the one that stands there -/
theorem JoinW.join {w wr w1 : World} {f : Fil} {j i g3 : Nat} {P : List GT} {q lc : Nat} {x : Raw} {p : GT} {a b : Value} (h : JoinW w f j P (some ⟨q, 0, none⟩) lc wr) (hx : f.funs[j]? = some x) (hb1 : Below wr.heap.size wr w1) (hp : P[i]? = some p) (hab : p.1 = .agg #[a, b])
 (hs : p.2.scope = (turnF f.sizes f.k x).scope) (hfirst : ∀ (k : Nat) y, k < i → P[k]? = some y → y.2.scope ≠ (turnF f.sizes f.k x).scope) (hq : w.heap.size ≤ q)
 (ht : TabV w1 g3 (fun q => w.heap.size ≤ q) (fun q => w.heap.size ≤ q) p.2.sizes f.k (sumL f.k p.2.C (turnF f.sizes f.k x).C)) :
 JoinW w f (j + 1) (P.set i (.agg #[a, .pointer (some ⟨g3, 0, none⟩)], ⟨p.2.scope, p.2.sizes, sumL f.k p.2.C (turnF f.sizes f.k x).C⟩)) (some ⟨q, 0, none⟩) lc (w1.setCell ⟨q, i * 2 + 1, none⟩ (.pointer (some ⟨g3, 0, none⟩))) := by
 have h2 : ∀ p ∈ P, ∃ a b, p.1 = .agg #[a, b] := fun p hp => (h.fs p hp).two
 obtain ⟨pv, pf⟩ := p
 dsimp only at hab hs ht
 subst hab
 have hrow1 := own_under h.row hb1
 have hT : Tch w1 (w1.setCell ⟨q, i * 2 + 1, none⟩ (.pointer (some ⟨g3, 0, none⟩))) (fun k => k = q) := Tch.set_ (S := fun k => k = q) w1 (p := ⟨q, i * 2 + 1, none⟩) _ rfl
 have hno : NoFn w1 (fun k => k = q) := fun k e => by
  obtain ⟨cs, hc⟩ := own_is hrow1 (q := q) rfl
  subst e
  exact ⟨_, cs, hc, by decide, by decide, by decide⟩
 refine ⟨?_, ?_, fun y hy => ?_, (h.below.trans (hb1.mono h.below.size)).setCell (p := ⟨q, i * 2 + 1, none⟩) hq _⟩
 ·rw [List.map_set, h.map, joined_take hx, addC_at (i := i) (h := pf)]
  ·rw [← h.map, List.getElem?_map, hp]; rfl
  ·exact hs
  ·intro k y hk hy
   rw [← h.map, List.getElem?_map] at hy
   obtain ⟨z, hz, rfl⟩ := Option.map_eq_some_iff.1 hy
   exact hfirst k z hk hz
 ·rw [List.length_set]
  have := (hrow1.stored (i * 2 + 1) (.pointer (some ⟨g3, 0, none⟩))).1
  rwa [gc_set h2 (f' := ⟨pf.scope, pf.sizes, sumL f.k pf.C (turnF f.sizes f.k x).C⟩) hp] at this
 ·rcases List.mem_or_eq_of_mem_set hy with hy | rfl
  ·exact ((h.fs y hy).under hb1).off hT hno
  ·obtain ⟨A, c, g0, e0, r0, -⟩ := (h.fs _ (List.mem_of_getElem? hp)).under hb1
   injection e0 with e0
   obtain ⟨rfl, -⟩ : a = .slice A pf.scope.length c ∧ b = .pointer (some ⟨g0, 0, none⟩) := by simpa using e0
   refine ⟨A, c, g3, rfl, hT.own r0 fun k hk hs => ?_, ht.off hT hno⟩
   obtain ⟨cs, hcs⟩ := own_is r0 hk
   obtain ⟨cs2, hc2⟩ := own_is hrow1 (q := q) rfl
   rw [hs] at hcs
   exact Blk.ne_ hcs hc2 (by decide) rfl
end Go.Proofs.YtjpkkkphhaajgaaGreatDoor.wcp
/- The canonical file while it is put together. -/
namespace Go.Proofs.YtjpkkkphhaajgaaGreatDoor.wcp
open Go Go.RowKit Go.Shelf Go.ChangeShapes Go.WideShapes Go.ChangeAt Go.Maps Go.Proofs.YtjpkkkphhaajgaaGreatDoor.words Go.Proofs.YtjpkkkphhaajgaaGreatDoor.scn
structure OutW (w5 : World) (g2 : Nat) (f : Fil) (A4 : Option Addr) (c4 : Nat) (l : List CF) (j : Nat) (V2 : List FT) (F2 : Option Addr) (f2c : Nat) (wr : World) : Prop where
 map : V2.map (·.2.2.2) = (l.take j).map rawC
 blk : Blk wr g2 34 #[strV f.name, .int .i64 f.k, .slice A4 f.sizes.length c4, .slice F2 V2.length f2c]
 row : wr.ownsRow (g2 + 1) 37 2 (.slice F2 V2.length f2c) V2.length (fcells V2)
 fs : ∀ p ∈ V2, FunV wr (fun k => p.2.1 ≤ k ∧ k < p.2.2.1) p.1 p.2.2.2 f.k
 tch : Tch w5 wr (fun q => q = g2)
theorem OutW.push {w5 wr w8 w9 : World} {g2 : Nat} {f : Fil} {A4 : Option Addr} {c4 : Nat} {l : List CF} {j : Nat} {V2 : List FT} {F2 A10 : Option Addr} {f2c c10 lo tg : Nat} {v1 : Value} {y : CF} (h : OutW w5 g2 f A4 c4 l j V2 F2 f2c wr) (hy : l[j]? = some y) (hg5 : w5.heap.size = g2 + 1) (hb1 : Below wr.heap.size wr w8)
 (hfv : FunV w8 (fun k => lo ≤ k ∧ k < w8.heap.size) (.agg #[v1, .pointer (some ⟨tg, 0, none⟩)]) (rawC y) f.k) (hg : w8.grownBy w9 (Value.slice F2 V2.length f2c).ownBlock) (ho : w9.ownsRow (g2 + 1) 37 2 (.slice A10 (V2.length + 1) c10) (V2.length + 1) (fcells V2 ++ [v1, .pointer (some ⟨tg, 0, none⟩)])) :
 OutW w5 g2 f A4 c4 l (j + 1) (V2 ++ [((.agg #[v1, .pointer (some ⟨tg, 0, none⟩)], lo, w8.heap.size, rawC y) : FT)]) A10 c10 (w9.setCell ⟨g2, 3, none⟩ (.slice A10 (V2.length + 1) c10)) := by
 have hA := own_under h.row hb1
 have hGA := h.blk.under hb1
 have hgw9 := hGA.grown hg (fun e => by obtain ⟨cs, hb⟩ := own_is hA e.symm; exact Blk.ne_ hGA hb (by decide) rfl)
 have hl2 : (V2 ++ [((.agg #[v1, .pointer (some ⟨tg, 0, none⟩)], lo, w8.heap.size, rawC y) : FT)]).length = V2.length + 1 := by simp
 have Ta : Tch wr w8 (fun _ => False) := Tch.of_below hb1 _
 have Tb := Tch.of_grown hg (S := fun q => some q = (Value.slice F2 V2.length f2c).ownBlock) fun q _ hq => hq
 have Tc : Tch w9 (w9.setCell ⟨g2, 3, none⟩ (.slice A10 (V2.length + 1) c10)) (fun q => q = g2) := Tch.put (S := fun q => q = g2) (Tch.refl w9 _) (p := ⟨g2, 3, none⟩) _ rfl
 have hS1 : ∀ q, some q = (Value.slice F2 V2.length f2c).ownBlock → ∃ t cs, Blk w8 q t cs ∧ t ≠ 103 ∧ t ≠ 3 := fun q hq => by
  obtain ⟨cs, hb⟩ := own_is hA hq.symm
  exact ⟨_, cs, hb, by decide, by decide⟩
 have hS2 : ∀ q, q = g2 → ∃ t cs, Blk w9 q t cs ∧ t ≠ 103 ∧ t ≠ 3 := fun q hq => by subst hq; exact ⟨_, _, hgw9, by decide, by decide⟩
 have hfin : ∀ {F : Nat → Prop} {v : Value} {x : Raw}, FunV w8 F v x f.k → FunV (w9.setCell ⟨g2, 3, none⟩ (.slice A10 (V2.length + 1) c10)) F v x f.k := fun h => (h.off Tb hS1).off Tc hS2
 refine ⟨?_, ?_, ?_, fun p hp => ?_, ?_⟩
 ·rw [List.map_append, h.map, List.take_add_one, hy]
  simp
 ·rw [hl2]; exact hgw9.set_ 3 _
 ·rw [hl2, show fcells (V2 ++ [((.agg #[v1, .pointer (some ⟨tg, 0, none⟩)], lo, w8.heap.size, rawC y) : FT)]) = fcells V2 ++ [v1, .pointer (some ⟨tg, 0, none⟩)] by simp [fcells]]
  exact own_off ho Tc (off_below fun q hq => by omega)
 ·rcases List.mem_append.1 hp with hp | hp
  ·exact hfin ((h.fs p hp).off Ta fun q h => h.elim)
  ·rw [List.mem_singleton.1 hp]
   exact hfin hfv
 ·have z1 := h.tch.size
  exact ((h.tch.trans Ta fun _ _ h => h.elim).trans Tb fun q hq h => by have := (own_in hA h.symm).1; omega).trans Tc fun _ _ h => h
/-- a canonical function's value -/
theorem funv_made {w : World} {B tg : Nat} {A : Option Addr} {c : Nat} {y : CF} {k : Int} (hr : w.ownsRow B 3 1 (.slice A y.scope.length c) y.scope.length (nums y.scope)) (ht : TpV w tg (fun q => B ≤ q) (linesC y).length (tpOf (rawC y) k (linesC y))) :
 FunV w (fun q => B ≤ q ∧ q < w.heap.size) (.agg #[.slice A y.scope.length c, .pointer (some ⟨tg, 0, none⟩)]) (rawC y) k :=
 ⟨_, tg, rfl, ⟨⟨A, c, rfl⟩, own_base hr (Nat.zero_le _)⟩, fun q hq => own_in hr hq, ht.lim⟩
end Go.Proofs.YtjpkkkphhaajgaaGreatDoor.wcp
