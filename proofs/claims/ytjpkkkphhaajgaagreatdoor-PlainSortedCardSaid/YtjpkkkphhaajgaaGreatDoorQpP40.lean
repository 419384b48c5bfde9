/- CnLoop, Awk8. -/
import Derived.Test.YtjpkkkphhaajgaaGreatDoorQpP36
import Derived.Test.YtjpkkkphhaajgaaGreatDoorQpTpOf
import Derived.Test.YtjpkkkphhaajgaaGreatDoorQpP20
import Derived.Test.YtjpkkkphhaajgaaGreatDoorQpP22
import Derived.Test.YtjpkkkphhaajgaaGreatDoorQpP02
set_option linter.all false
/- plain.Canon: the canonical file. -/
namespace Go.Proofs.YtjpkkkphhaajgaaGreatDoor.wcp
open Go Go.RowKit Go.Shelf Go.ChangeShapes Go.WideShapes Go.ChangeAt Go.Maps Go.Proofs.YtjpkkkphhaajgaaGreatDoor.words Go.Proofs.YtjpkkkphhaajgaaGreatDoor.scn
open Go.Proofs.YtjpkkkphhaajgaaGreatDoor.shp (Szs prodI InT idxI tupI allI)
def CanonR (w : World) (f : Fil) (e : Ending) (w' : World) : Prop :=
 ∃ g2 SA sc FA fc V, e = .returned (.tuple #[.pointer (some ⟨g2, 0, none⟩), .int .i64 0]) ∧ w.heap.size ≤ g2 ∧ FilW w' g2 (canonF f) SA sc FA fc V ∧ Below w.heap.size w w'
set_option maxRecDepth 100000 in
set_option maxHeartbeats 16000000 in
theorem canon_any {w : World} {g : Nat} {f : Fil} {SA : Option Addr} {sc : Nat} {FA : Option Addr} {fc : Nat} {V : List FT} (h : FilW w g f SA sc FA fc V) (hok : OkFile f) (hlin : linesOf f.funs ≤ 16384) :
 Calls Tryz.prog 10 #[.pointer (some ⟨g, 0, none⟩)] w fun e w' => CanonR w f e w' := by
 have hrt := fright_any h hok hlin
 obtain ⟨iF, f0, f1, f2, f3⟩ := info_parts infoFnC
 obtain ⟨iW, e0, e1, e2, e3⟩ := info_parts infoFn
 have hVl : V.length = f.funs.length := by have := congrArg List.length h.1; simpa using this
 have hV2 : V.length ≤ 256 := by have := hok.n; omega
 have hgood : GoodFs f.sizes f.k f.funs := hok.fs
 have h2 : ∀ p ∈ V, ∃ a b, p.1 = .agg #[a, b] := fun p hp => by
  obtain ⟨v1, tg, e, _⟩ := h.2.2.2.2 p hp
  exact ⟨_, _, e⟩
 have hk0 : inB 0 f.k = true := by unfold inB; rw [decide_eq_true_eq]; have := hok.k1; have := hok.k2; omega
 obtain ⟨n, hn⟩ : ∃ n, V.length = n := ⟨_, rfl⟩
 have HH := Lib.hid h
 have HOK := Lib.hid hok
 have HGOOD := Lib.hid hgood
 have H2 := Lib.hid h2
 have HK0 := Lib.hid hk0
 have HN := Lib.hid hn
 have HVL := Lib.hid hVl
 have hLIN := Lib.hid hlin
 rw [hn] at hV2
 clear h hok hgood h2 hk0 hn hVl hlin
 go_enter Tryz.func10, Tryz.ntmps10
 go_wp2_with fail
 refine hrt.mono ?_
 rintro e w1 ⟨rfl, hb1⟩
 clear hrt
 have HB1 := Lib.hid hb1
 obtain ⟨-, hgb, -⟩ := HH.out.below hb1
 obtain ⟨q0, q1, q2, q3, -⟩ := Blk.four (t := 34) hgb
 rw [HN.out] at q3
 clear hgb hb1
 go_wp2_with fail
 go_loopw [5, 7, 8, 9, 10, 25] (fun lv _ _ _ _ jv wr => ∃ (j : Nat) (P : List GT) (L : Option Addr) (lc : Nat), jv = .int .i64 j ∧ j ≤ n ∧ lv = .slice L P.length lc ∧ JoinW w f j P L lc wr) (fun _ _ _ _ _ jv _ => n - (intOf jv).toNat)
 case atStart => exact ⟨0, [], none, 0, rfl, Nat.zero_le _, rfl, ⟨rfl, World.ownsRow_nil _ _ _ _, (fun p hp => by cases hp), HB1.out⟩⟩
 case round =>
  clear q0 q1 q2 q3
  obtain ⟨j, P, L, lc, rfl, hj, rfl, hJ⟩ := hrel
  by_cases hlt : j < n
  ·have hw := HH.out.below hJ.below
   obtain ⟨hV, hgb, hs, hrow, hfv⟩ := hw
   obtain ⟨p, hp⟩ : ∃ p, V[j]? = some p := ⟨_, List.getElem?_eq_getElem (by rw [HN.out]; exact hlt)⟩
   have hpm := List.mem_of_getElem? hp
   have hfp := hfv p hpm
   have hpx : p.2.2.2 ∈ f.funs := by rw [← hV]; exact List.mem_map_of_mem hpm
   have hxj : f.funs[j]? = some p.2.2.2 := by rw [← hV, List.getElem?_map, hp]; rfl
   obtain ⟨o1, o2, o3⟩ := HGOOD.out _ hpx
   obtain ⟨a, b, hab⟩ := H2.out p hpm
   obtain ⟨pv, lo, hi, x⟩ := p
   dsimp only at hab hfp hpx hxj o1 o2 o3
   subst hab
   obtain ⟨c0, c1⟩ := fc_at H2.out hp
   rw [HN.out] at hrow
   obtain ⟨fq, rfl, _, _⟩ := own_some hrow (by omega)
   have d0 := (hrow.cellAt (j * 2) (by omega)).trans c0
   have d1 := (hrow.cellAt (j * 2 + 1) (by omega)).trans c1
   obtain ⟨w2, hw2⟩ : ∃ w2, wr.alloc (.cells #[a, b] 37) = w2 := ⟨_, rfl⟩
   have hB2 : Below wr.heap.size wr w2 := by rw [← hw2]; exact bone wr _
   have hbx : Blk w2 wr.heap.size 37 #[a, b] := by rw [← hw2]; exact Blk.new _ _ _
   have tg := turn_good o1 o2 o3
   have hz6 : Szs x.sizes := ⟨o1.1, o1.2.1⟩
   have hpr : prodI x.sizes ≤ 4096 := by have := great_prod hz6.2; rw [o3] at this; have := of_decide_eq_false this.symm; omega
   have htu := turned_any (hfp.off (S := fun _ => False) (Tch.of_below hB2 _) fun _ h => h.elim) f.sizes (ok_val o1) o2.2.1 (fit_sz o2) hpr tg.prod o1.2.2.2.2.2.2.1 HK0.out (fun t _ => get_inB o1 t)
   have i0 : (0 : Int) ≤ (j : Int) := Int.natCast_nonneg _
   have i1 : (j : Int) < (n : Int) := by omega
   obtain ⟨x0, x1⟩ := hbx.two
   obtain ⟨m, hm⟩ : ∃ m, x.scope.length = m := ⟨_, rfl⟩
   have hm6 : m ≤ 6 := by rw [← hm]; exact o1.2.2.2.2.2.2.2
   rw [hm] at htu
   have hfp0 := hfp
   obtain ⟨v1, tgq, e1, ⟨⟨C1, k1, e2⟩, _⟩, _⟩ := hfp0
   injection e1 with e1
   obtain ⟨rfl, rfl⟩ : a = v1 ∧ b = .pointer (some ⟨tgq, 0, none⟩) := by simpa using e1
   subst e2
   rw [hm] at htu d0 x0
   try rw [hm] at hw2
   have HJ := Lib.hid hJ
   have HXJ := Lib.hid hxj
   have HB2 := Lib.hid hB2
   have HTG := Lib.hid tg
   have HM := Lib.hid hm
   clear hV hgb hs hrow hfv hp hpm hpx hfp c0 c1 hJ hxj hB2 hbx tg o1 o2 o3 hz6 hpr hm e1
   try rw [HM.out]
   go_wp2_with fail
   try rw [hw2]
   clear hw2
   go_wp2_with fail
   refine htu.mono ?_
   rintro e w3 ⟨A, c, g3, rfl, ho3, ht3, hB3⟩
   clear htu d0 d1 x0 x1
   obtain ⟨w4, hw4⟩ : ∃ w4, (w3.alloc (.cells #[.slice none 0 0] 31)).setCell ⟨w3.heap.size, 0, none⟩ (.slice A m c) = w4 := ⟨_, rfl⟩
   have hB4 : Below w3.heap.size w3 w4 := by rw [← hw4]; exact (bone w3 _).setCell (p := ⟨w3.heap.size, 0, none⟩) (Nat.le_refl _) _
   have hbs : Blk w4 w3.heap.size 31 #[.slice A m c] := by rw [← hw4]; exact (Blk.new _ _ _).set_ 0 _
   have hBr4 : Below wr.heap.size wr w4 := bto (bto HB2.out hB3) hB4
   have ho4 := own_under ho3 hB4
   have ht4 := ht3.under hB4
   have hix := indexC_any (own_under HJ.out.row hBr4) (fun p hp => ⟨(HJ.out.fs p hp).under hBr4, by have := (good_sc (HJ.out.good HGOOD.out p hp)).2; omega⟩) (by have := HJ.out.len; have := HVL.out; have := HN.out; omega) w3.heap.size m c A (rise x.scope) hbs (Reads.of_own ho4) (by omega)
   obtain ⟨s0, s0f⟩ := hbs.one
   have HBR4 := Lib.hid hBr4
   have HBS := Lib.hid hbs
   have HO4 := Lib.hid ho4
   have HT4 := Lib.hid ht4
   have HS2 := Lib.hid (show w.heap.size ≤ w2.heap.size from (bto HJ.out.below HB2.out).size)
   clear hB3 hB4 hbs hBr4 ho3 ht3 ho4 ht4
   go_wp2_with fail
   try rw [hw4]
   clear hw4
   go_wp2_with fail
   refine hix.mono ?_
   rintro e w5 ⟨hF, hB5⟩
   clear hix s0 s0f
   obtain ⟨s0, s0f⟩ := (HBS.out.under hB5).one
   have HB5 := Lib.hid (bto HBR4.out hB5)
   have HB45 := Lib.hid hB5
   clear hB5
   have hP256 : P.length ≤ 256 := by have := HJ.out.len; have := HVL.out; have := HN.out; omega
   rcases hF with ⟨rfl, hnew⟩ | ⟨i, p, rfl, hp, hps, hfirst⟩
   ·have HNEW := Lib.hid hnew
    obtain ⟨w6, hw6⟩ : ∃ w6, w5.alloc (.cells #[.slice A m c, .pointer (some ⟨g3, 0, none⟩)] 88) = w6 := ⟨_, rfl⟩
    have hB6 : Below w5.heap.size w5 w6 := by rw [← hw6]; exact bone w5 _
    have hr6 : Reads w6 w6.heap.size 2 (some ⟨w5.heap.size, 0, none⟩) 1 [.slice A m c, .pointer (some ⟨g3, 0, none⟩)] := reads_two (by rw [← hw6]; exact heap_alloc_new _ _)
    have HB6 := Lib.hid (bto HB5.out hB6)
    have HB56 := Lib.hid hB6
    have ho6 := own_under HJ.out.row HB6.out
    have hs6 : w.heap.size ≤ w6.heap.size := (bto HJ.out.below HB6.out).size
    have hone : ∀ u ∈ [Value.slice A m c, .pointer (some ⟨g3, 0, none⟩)], u.oneCell' = true := by simp [Value.oneCell']
    clear hnew hB6
    go_wp2_with (first
     | (at_builtin; go_loud (refine wpList_append_any _ rfl (.tmp 39) (.tmp 43) _ rfl w.heap.size 88 iF _ 2 32 Tryz.underlying83 f0 f1 f2 f3 rfl (by omega) (.slice L P.length lc) P.length _ rfl ho6 w6.heap.size (some ⟨w5.heap.size, 0, none⟩) 1 1 [.slice A m c, .pointer (some ⟨g3, 0, none⟩)] rfl hr6 hone (by simp only [maxLen]; omega) (by omega) hs6 ?_; intro v7 w7 hown7 hg7 hat7; clear hat7; obtain ⟨A7, c7, rfl⟩ := own_shape hown7; have HO7 := Lib.hid hown7; have HG7 := Lib.hid hg7; clear hown7 hg7 ho6 hr6 hone))
     | fail)
    go_roundw
    case measure => simp [intOf]; omega
    case rel =>
     have hm := HM.out
     subst hm
     have hgv : GV w6 w.heap.size f.k (.agg #[.slice A x.scope.length c, .pointer (some ⟨g3, 0, none⟩)], turnF f.sizes f.k x) := by
      refine ⟨A, c, g3, ?_, ?_, ?_⟩
      ·show _ = Value.agg #[.slice A (rise x.scope).length c, _]; rw [rise_len]
      ·show World.ownsRow _ _ _ _ (.slice A (rise x.scope).length c) (rise x.scope).length _; rw [rise_len]; exact own_base (own_under (own_under HO4.out HB45.out) HB56.out) HS2.out
      ·exact ((HT4.out.under HB45.out).under HB56.out).mono (fun q h => Nat.le_trans HS2.out h) fun q h => Nat.le_trans HS2.out h
     have hb7 : Below w.heap.size w w7 := (bto HJ.out.below HB6.out).grown HG7.out hs6 fun k hk => (own_in HJ.out.row hk).1
     exact ⟨j + 1, _, A7, c7, by go_num, hlt, by simp, HJ.out.push HXJ.out HB6.out hb7 HG7.out HNEW.out hgv HO7.out⟩
   ·obtain ⟨q, rfl, hq0, hql⟩ := own_some HJ.out.row (by have := (List.getElem?_eq_some_iff.1 hp).1; omega)
    have h2P : ∀ p ∈ P, ∃ a b, p.1 = .agg #[a, b] := fun p hp => (HJ.out.fs p hp).two
    have hpm := List.mem_of_getElem? hp
    have hgp := HJ.out.good HGOOD.out p hpm
    obtain ⟨Ap, cp, gp, ep, rp, tp⟩ := (HJ.out.fs p hpm).under (bto HBR4.out HB45.out)
    obtain ⟨pv, pf⟩ := p
    dsimp only at ep rp tp hps hgp
    subst ep
    obtain ⟨c0, c1⟩ := gc_at h2P hp
    have hil := (List.getElem?_eq_some_iff.1 hp).1
    have hrow5 := own_under HJ.out.row HB5.out
    have d1 := (hrow5.cellAt (i * 2 + 1) (by omega)).trans c1
    have df := hrow5.frozenAt (i * 2 + 1)
    obtain ⟨fa, ea, hfa⟩ := hgp.tab
    obtain ⟨fb, eb, hfb⟩ := HTG.out.tab
    have hss : szOf f.sizes (rise x.scope) = pf.sizes := by rw [hgp.sizes, hps]
    have eb' : (turnF f.sizes f.k x).C = tabF pf.sizes fb := by rw [eb]; show tabF (szOf f.sizes (rise x.scope)) fb = _; rw [hss]
    have hpl : pf.scope.length = m := by rw [hps, rise_len]; exact HM.out
    have hjn := fun W (hW : Below w5.heap.size w5 W) => join_any (ha := by have := tp.under hW; rwa [ea] at this) (hb := by have := (HT4.out.under HB45.out).under hW; rwa [hss, eb'] at this) hgp.szs hgp.prod HK0.out hfa (fun t ht => hfb t (by show InS (szOf f.sizes (rise x.scope)) t; rw [hss]; exact ht)) A A m c c (rise x.scope) (Reads.of_own (own_under (own_under HO4.out HB45.out) hW)) (Reads.of_own (own_under (own_under HO4.out HB45.out) hW)) (by rw [← hps]; exact good_rise hgp HOK.out.s2) (by rw [← hps]; exact (good_sc hgp).1)
    have HJN := Lib.hid hjn
    have HP := Lib.hid hp
    have HPS := Lib.hid hps
    have HFI := Lib.hid hfirst
    have HEA := Lib.hid (And.intro ea eb')
    have i0' : (0 : Int) ≤ (i : Int) := Int.natCast_nonneg _
    have i1' : (i : Int) < (P.length : Int) := by omega
    have hnn : ¬ ((i : Int) < 0) := by omega
    have hnd : decide ((i : Int) < 0) = false := decide_eq_false hnn
    have HQW : Hid (q ≠ w3.heap.size) := by have z := hql; have z2 := HBS.out.lt; have z3 := HB2.out.size; intro e; subst e; exact Blk.ne_ (HBS.out.under HB45.out) (show Blk w5 _ 88 _ from (own_is hrow5 (q := w3.heap.size) rfl).choose_spec) (by decide) rfl
    have HS25 : Hid (w.heap.size ≤ w5.heap.size) := by have := (bto HJ.out.below HB5.out).size; exact this
    have HROW5 := Lib.hid hrow5
    have HQ0 := Lib.hid hq0
    clear hp hps hfirst hpm hgp rp tp c0 c1 h2P hrow5 ea hfa eb hfb eb' hjn hq0
    go_upto_region 12 with fail
    have hbd5 : Below w5.heap.size w5 w5.drew := (Below.refl _ _).drew
    have hjn := HJN.out _ hbd5
    have s0d : w5.drew.cell? ⟨w3.heap.size, 0, none⟩ = some (.slice A m c) := s0
    have d1d : w5.drew.cell? ⟨q, i * 2 + 1, none⟩ = some (.pointer (some ⟨gp, 0, none⟩)) := d1
    refine wp_region_held_drew (S := (fun W => W.cell? ⟨w3.heap.size, 0, none⟩ = some (.slice A m c))) (by kernel_rfl) s0d (fun hHeld => ?_)
    refine wpAnyH_take (i := 0) (v := ?va0) rfl (by kernel_rfl) (by kernel_rfl) (by kernel_rfl) (fun _ _ _ h => h) (Or.inl ⟨by kernel_rfl, ?hya0⟩) hHeld ?resta0
    case hya0 => (intro w hSw; (try dsimp only at hSw); go_simp; try with_reducible rfl)
    try simp only [Act.put, List.setIfInBounds_toArray, List.set_cons_zero, List.set_cons_succ]
    refine wpAnyH_take (i := 1) (v := ?va1) rfl (by kernel_rfl) (by kernel_rfl) (by kernel_rfl) (fun _ _ _ h => h) (Or.inl ⟨by kernel_rfl, ?hya1⟩) hHeld ?resta1
    case hya1 => (intro w hSw; (try dsimp only at hSw); go_simp; try with_reducible rfl)
    try simp only [Act.put, List.setIfInBounds_toArray, List.set_cons_zero, List.set_cons_succ]
    refine wpAnyH_take (i := 2) (v := ?va2) rfl (by kernel_rfl) (by kernel_rfl) (by kernel_rfl) (fun _ _ _ h => h) (Or.inl ⟨by kernel_rfl, ?hya2⟩) hHeld ?resta2
    case hya2 => (intro w hSw; (try dsimp only at hSw); go_simp; try with_reducible rfl)
    try simp only [Act.put, List.setIfInBounds_toArray, List.set_cons_zero, List.set_cons_succ]
    refine wpAnyH_take (i := 3) (v := ?va3) rfl (by kernel_rfl) (by kernel_rfl) (by kernel_rfl) (fun _ _ _ h => h) (Or.inl ⟨by kernel_rfl, ?hya3⟩) hHeld ?resta3
    case hya3 => (intro w hSw; (try dsimp only at hSw); go_simp; try with_reducible rfl)
    try simp only [Act.put, List.setIfInBounds_toArray, List.set_cons_zero, List.set_cons_succ]
    refine wpAnyH_take (i := 4) (v := ?va4) rfl (by kernel_rfl) (by kernel_rfl) (by kernel_rfl) (fun _ _ _ h => h) (Or.inl ⟨by kernel_rfl, ?hya4⟩) hHeld ?resta4
    case hya4 => (intro w hSw; (try dsimp only at hSw); go_simp; try with_reducible rfl)
    try simp only [Act.put, List.setIfInBounds_toArray, List.set_cons_zero, List.set_cons_succ]
    refine wpAnyH_take (i := 5) (v := ?va5) rfl (by kernel_rfl) (by kernel_rfl) (by kernel_rfl) (fun _ _ _ h => h) (Or.inl ⟨by kernel_rfl, ?hya5⟩) hHeld ?resta5
    case hya5 => (intro w hSw; (try dsimp only at hSw); go_simp; try with_reducible rfl)
    try simp only [Act.put, List.setIfInBounds_toArray, List.set_cons_zero, List.set_cons_succ]
    refine wpAnyH_take (i := 7) (v := ?va7) rfl (by kernel_rfl) (by kernel_rfl) (by kernel_rfl) (fun _ _ _ h => h) (Or.inl ⟨by kernel_rfl, ?hya7⟩) hHeld ?resta7
    case hya7 => (intro w hSw; (try dsimp only at hSw); go_simp; try with_reducible rfl)
    try simp only [Act.put, List.setIfInBounds_toArray, List.set_cons_zero, List.set_cons_succ]
    refine wpAnyH_take (i := 8) (v := ?va8) rfl (by kernel_rfl) (by kernel_rfl) (by kernel_rfl) (fun _ _ _ h => h) (Or.inl ⟨by kernel_rfl, ?hya8⟩) hHeld ?resta8
    case hya8 => (intro w hSw; (try dsimp only at hSw); go_simp; try with_reducible rfl)
    try simp only [Act.put, List.setIfInBounds_toArray, List.set_cons_zero, List.set_cons_succ]
    refine wpAnyH_take (i := 9) (v := ?va9) rfl (by kernel_rfl) (by kernel_rfl) (by kernel_rfl) (fun _ _ _ h => h) (Or.inl ⟨by kernel_rfl, ?hya9⟩) hHeld ?resta9
    case hya9 => (intro w hSw; (try dsimp only at hSw); go_simp; try with_reducible rfl)
    try simp only [Act.put, List.setIfInBounds_toArray, List.set_cons_zero, List.set_cons_succ]
    refine wpAnyH_ready (rs := [6]) (by kernel_rfl) (by simp) ?_
    refine AllReadyH.cons rfl (fun K hK => ?_) AllReadyH.nil
    go_simp
    refine hK.out _ _ hHeld (fun hHeld6 => ?_)
    clear hK K hHeld
    refine wpAnyH_ready (rs := [10]) (by kernel_rfl) (by simp) ?_
    refine AllReadyH.cons rfl (fun K hK => ?_) AllReadyH.nil
    go_simp
    refine hjn.mono ?_
    rintro e w8 ⟨g8, A8, c8, rfl, ht8, hb8⟩
    dsimp only
    have HB8 := Lib.hid (bto hbd5 hb8)
    have HT8 := Lib.hid ht8
    have s8 := ((HBS.out.under HB45.out).under HB8.out).one.1
    have hrow8 := own_under HROW5.out HB8.out
    have d8 : w8.cell? ⟨q, i * 2 + 1, none⟩ = some (.pointer (some ⟨gp, 0, none⟩)) := (HB8.out.cell (p := ⟨q, i * 2 + 1, none⟩) (own_in HROW5.out rfl).2).trans d1
    have f8 := hrow8.frozenAt (i * 2 + 1)
    refine hK.out _ _ s8 (fun hHeld8 => ?_)
    clear hK K hHeld6 hjn ht8 hb8
    refine wpAnyH_take (i := 11) (v := ?va11) rfl (by kernel_rfl) (by kernel_rfl) (by kernel_rfl) (fun _ _ _ h => h) (Or.inl ⟨by kernel_rfl, ?hya11⟩) hHeld8 ?resta11
    case hya11 => (intro w hSw; (try dsimp only at hSw); go_simp; try with_reducible rfl)
    try simp only [Act.put, List.setIfInBounds_toArray, List.set_cons_zero, List.set_cons_succ]
    refine wpAnyH_take (i := 12) (v := ?va12) rfl (by kernel_rfl) (by kernel_rfl) (by kernel_rfl) (fun _ _ _ h => h) (Or.inl ⟨by kernel_rfl, ?hya12⟩) hHeld8 ?resta12
    case hya12 => (intro w hSw; (try dsimp only at hSw); go_simp; try with_reducible rfl)
    try simp only [Act.put, List.setIfInBounds_toArray, List.set_cons_zero, List.set_cons_succ]
    refine wpAnyH_take (i := 13) (v := ?va13) rfl (by kernel_rfl) (by kernel_rfl) (by kernel_rfl) (fun _ _ _ h => h) (Or.inl ⟨by kernel_rfl, ?hya13⟩) hHeld8 ?resta13
    case hya13 => (intro w hSw; (try dsimp only at hSw); go_simp; try with_reducible rfl)
    try simp only [Act.put, List.setIfInBounds_toArray, List.set_cons_zero, List.set_cons_succ]
    refine wpAnyH_take (i := 14) (v := ?va14) rfl (by kernel_rfl) (by kernel_rfl) (by kernel_rfl) (fun _ _ _ h => h) (Or.inl ⟨by kernel_rfl, ?hya14⟩) hHeld8 ?resta14
    case hya14 => (intro w hSw; (try dsimp only at hSw); go_simp; try with_reducible rfl)
    try simp only [Act.put, List.setIfInBounds_toArray, List.set_cons_zero, List.set_cons_succ]
    refine wpAnyH_take (i := 15) (v := ?va15) rfl (by kernel_rfl) (by kernel_rfl) (by kernel_rfl) (fun _ _ _ h => h) (Or.inl ⟨by kernel_rfl, ?hya15⟩) hHeld8 ?resta15
    case hya15 => (intro w hSw; (try dsimp only at hSw); go_simp; try with_reducible rfl)
    try simp only [Act.put, List.setIfInBounds_toArray, List.set_cons_zero, List.set_cons_succ]
    refine wpAnyH_take (i := 16) (v := ?va16) rfl (by kernel_rfl) (by kernel_rfl) (by kernel_rfl) (fun _ _ _ h => h) (Or.inl ⟨by kernel_rfl, ?hya16⟩) hHeld8 ?resta16
    case hya16 => (intro w hSw; (try dsimp only at hSw); go_simp; try with_reducible rfl)
    try simp only [Act.put, List.setIfInBounds_toArray, List.set_cons_zero, List.set_cons_succ]
    refine wpAnyH_ready (rs := [17]) (by kernel_rfl) (by simp) ?_
    refine AllReadyH.cons rfl (fun K hK => ?_) AllReadyH.nil
    go_simp
    refine hK.out _ _ ?_ (fun hHeld9 => ?_)
    ·rw [World.cell?_setCell_far _ _ _ _ HQW.out]; exact s8
    clear hK K
    refine wpAnyH_done (by kernel_rfl) ?_ _
    go_simp
    go_wp2_with fail
    go_roundw
    case measure => simp [intOf]; omega
    case rel =>
     have ht8' := HT8.out
     rw [← sum_tab, ← HEA.out.1, ← HEA.out.2] at ht8'
     have h5 := HB5.out.trans (HB8.out.mono HB5.out.size)
     exact ⟨j + 1, _, some ⟨q, 0, none⟩, lc, by go_num, hlt, by rw [List.length_set], HJ.out.join HXJ.out h5 HP.out rfl HPS.out HFI.out HQ0.out (ht8'.mono (fun k h => Nat.le_trans HS25.out h) fun k h => Nat.le_trans HS25.out h)⟩
  ·obtain rfl : n = j := by omega
   have htk : f.funs.take n = f.funs := List.take_of_length_le (by have := HVL.out; have := HN.out; omega)
   have hP256 : P.length ≤ 256 := by have := hJ.len; have := HVL.out; have := HN.out; omega
   have hmap := hJ.map
   rw [htk] at hmap
   have hgd := hJ.good HGOOD.out
   have hdl := deleteN_any hJ.row (fun p hp => ⟨hJ.fs p hp, good_C (hgd p hp)⟩) hP256
   have HJ := Lib.hid hJ
   have HMAP := Lib.hid hmap
   have HGD := Lib.hid hgd
   clear hJ hmap hgd htk
   go_wp2_with fail
   refine hdl.mono ?_
   rintro e w2 ⟨rfl, ho2, hT2⟩
   clear hdl
   have hkp : ∀ p ∈ keepN P, p ∈ P ∧ isNothing p.2 = false := fun p hp => by
    have := List.mem_filter.1 hp
    exact ⟨this.1, by simpa using this.2⟩
   have hkl : (keepN P).length ≤ 256 := Nat.le_trans (List.length_filter_le _ _) hP256
   have hno2 : NoFn wr (OnlyOwn (.slice L P.length lc)) := fun q e => by
    obtain ⟨cs, hc⟩ := own_is HJ.out.row e
    exact ⟨_, cs, hc, by decide, by decide, by decide⟩
   have hb2 : Below w.heap.size w w2 := HJ.out.below.trans (hT2.below HJ.out.below.size fun q hq e => by have := (own_in HJ.out.row e).1; omega)
   have hfs2 : ∀ p ∈ keepN P, GV w2 w.heap.size f.k p := fun p hp => (HJ.out.fs p (hkp p hp).1).off hT2 hno2
   have hkm : (keepN P).map (·.2) = (joined f.sizes f.k f.funs).filter fun g => !isNothing g := by
    rw [← HMAP.out]
    unfold keepN
    rw [List.filter_map]; rfl
   have hon : OnceC ((keepN P).map (·.2)) := by rw [hkm]; exact (joined_once _ _ _).filter _
   have hso := sortC_any ho2 (fun p hp => ⟨hfs2 p hp, by have := (good_sc (HGD.out p (hkp p hp).1)).2; omega⟩) hkl hon
   have HO2 := Lib.hid ho2
   have HB2 := Lib.hid hb2
   have HFS2 := Lib.hid hfs2
   have HKM := Lib.hid hkm
   have HKP := Lib.hid hkp
   clear ho2 hT2 hno2 hb2 hfs2 hkm hon hkp
   go_wp2_with fail
   refine hso.mono ?_
   rintro e w3 ⟨rfl, Q, hQl, hQs, hQm, ho3, hT3⟩
   clear hso
   have hno3 : NoFn w2 (OnlyOwn (.slice L (keepN P).length lc)) := fun q e => by
    obtain ⟨cs, hc⟩ := own_is HO2.out e
    exact ⟨_, cs, hc, by decide, by decide, by decide⟩
   have hfs3 : ∀ p ∈ Q, GV w3 w.heap.size f.k p ∧ GoodC f.sizes f.k p.2 := fun p hp => ⟨(HFS2.out p (hQs p hp)).off hT3 hno3, HGD.out p (HKP.out p (hQs p hp)).1⟩
   have hb3 : Below w.heap.size w w3 := HB2.out.trans (hT3.below HB2.out.size fun q hq e => by have := (own_in HO2.out e).1; omega)
   have hQm' : Q.map (·.2) = canonL f.sizes f.k f.funs := by rw [hQm, HKM.out]; rfl
   obtain ⟨nq, hnq⟩ : ∃ nq, (keepN P).length = nq := ⟨_, rfl⟩
   rw [hnq] at ho3 hQl hkl ⊢
   have HO3 := Lib.hid ho3
   have HFS3 := Lib.hid hfs3
   have HB3 := Lib.hid hb3
   have HQM := Lib.hid hQm'
   have HQL := Lib.hid hQl
   clear ho3 hT3 hno3 hfs3 hb3 hQm' hQm hQs hQl hnq
   have hfw := HH.out.below (HB3.out.drew)
   obtain ⟨q0, q1, q2, q3, -⟩ := Blk.four (t := 34) hfw.2.1
   have hcl := clone_any SA f.sizes.length sc f.sizes w3.drew (by have := HOK.out.s2; omega) (Reads.of_own hfw.2.2.1)
   obtain ⟨w3d, hw3d⟩ : ∃ w3d, w3.drew = w3d := ⟨_, rfl⟩
   have hb33 : Below w3.heap.size w3 w3d := by rw [← hw3d]; exact (Below.refl _ _).drew
   have hd := HB3.out.drew
   clear hfw
   rw [hw3d] at q0 q1 q2 q3 hcl hd
   have HD := Lib.hid hd
   have HB33 := Lib.hid hb33
   clear hd hb33
   go_upto_region 17 with fail
   refine wp_region_held_drew (S := (fun W => W.cell? ⟨g, 0, none⟩ = some (strV f.name) ∧ W.cell? ⟨g, 1, none⟩ = some (.int .i64 f.k) ∧ W.cell? ⟨g, 2, none⟩ = some (.slice SA f.sizes.length sc))) (by kernel_rfl) (by rw [hw3d]; exact ⟨q0, q1, q2⟩) (fun hHeld => ?_)
   rw [hw3d] at hHeld ⊢
   clear hw3d
   refine wpAnyH_take (i := 0) (v := ?vb0) rfl (by kernel_rfl) (by kernel_rfl) (by kernel_rfl) (fun _ _ _ h => h) (Or.inl ⟨by kernel_rfl, ?hyb0⟩) hHeld ?restb0
   case hyb0 => (intro w hSw; (try dsimp only at hSw); go_simp; try with_reducible rfl)
   try simp only [Act.put, List.setIfInBounds_toArray, List.set_cons_zero, List.set_cons_succ]
   refine wpAnyH_take (i := 1) (v := ?vb1) rfl (by kernel_rfl) (by kernel_rfl) (by kernel_rfl) (fun _ _ _ h => h) (Or.inl ⟨by kernel_rfl, ?hyb1⟩) hHeld ?restb1
   case hyb1 => (intro w hSw; (try dsimp only at hSw); go_simp; try with_reducible rfl)
   try simp only [Act.put, List.setIfInBounds_toArray, List.set_cons_zero, List.set_cons_succ]
   refine wpAnyH_take (i := 2) (v := ?vb2) rfl (by kernel_rfl) (by kernel_rfl) (by kernel_rfl) (fun _ _ _ h => h) (Or.inl ⟨by kernel_rfl, ?hyb2⟩) hHeld ?restb2
   case hyb2 => (intro w hSw; (try dsimp only at hSw); go_simp; try with_reducible rfl)
   try simp only [Act.put, List.setIfInBounds_toArray, List.set_cons_zero, List.set_cons_succ]
   refine wpAnyH_take (i := 3) (v := ?vb3) rfl (by kernel_rfl) (by kernel_rfl) (by kernel_rfl) (fun _ _ _ h => h) (Or.inl ⟨by kernel_rfl, ?hyb3⟩) hHeld ?restb3
   case hyb3 => (intro w hSw; (try dsimp only at hSw); go_simp; try with_reducible rfl)
   try simp only [Act.put, List.setIfInBounds_toArray, List.set_cons_zero, List.set_cons_succ]
   refine wpAnyH_take (i := 4) (v := ?vb4) rfl (by kernel_rfl) (by kernel_rfl) (by kernel_rfl) (fun _ _ _ h => h) (Or.inl ⟨by kernel_rfl, ?hyb4⟩) hHeld ?restb4
   case hyb4 => (intro w hSw; (try dsimp only at hSw); go_simp; try with_reducible rfl)
   try simp only [Act.put, List.setIfInBounds_toArray, List.set_cons_zero, List.set_cons_succ]
   refine wpAnyH_take (i := 5) (v := ?vb5) rfl (by kernel_rfl) (by kernel_rfl) (by kernel_rfl) (fun _ _ _ h => h) (Or.inl ⟨by kernel_rfl, ?hyb5⟩) hHeld ?restb5
   case hyb5 => (intro w hSw; (try dsimp only at hSw); go_simp; try with_reducible rfl)
   try simp only [Act.put, List.setIfInBounds_toArray, List.set_cons_zero, List.set_cons_succ]
   refine wpAnyH_take (i := 6) (v := ?vb6) rfl (by kernel_rfl) (by kernel_rfl) (by kernel_rfl) (fun _ _ _ h => h) (Or.inl ⟨by kernel_rfl, ?hyb6⟩) hHeld ?restb6
   case hyb6 => (intro w hSw; (try dsimp only at hSw); go_simp; try with_reducible rfl)
   try simp only [Act.put, List.setIfInBounds_toArray, List.set_cons_zero, List.set_cons_succ]
   refine wpAnyH_take (i := 7) (v := ?vb7) rfl (by kernel_rfl) (by kernel_rfl) (by kernel_rfl) (fun _ _ _ h => h) (Or.inl ⟨by kernel_rfl, ?hyb7⟩) hHeld ?restb7
   case hyb7 => (intro w hSw; (try dsimp only at hSw); go_simp; try with_reducible rfl)
   try simp only [Act.put, List.setIfInBounds_toArray, List.set_cons_zero, List.set_cons_succ]
   refine wpAnyH_take (i := 8) (v := ?vb8) rfl (by kernel_rfl) (by kernel_rfl) (by kernel_rfl) (fun _ _ _ h => h) (Or.inl ⟨by kernel_rfl, ?hyb8⟩) hHeld ?restb8
   case hyb8 => (intro w hSw; (try dsimp only at hSw); go_simp; try with_reducible rfl)
   try simp only [Act.put, List.setIfInBounds_toArray, List.set_cons_zero, List.set_cons_succ]
   refine wpAnyH_take (i := 9) (v := ?vb9) rfl (by kernel_rfl) (by kernel_rfl) (by kernel_rfl) (fun _ _ _ h => h) (Or.inl ⟨by kernel_rfl, ?hyb9⟩) hHeld ?restb9
   case hyb9 => (intro w hSw; (try dsimp only at hSw); go_simp; try with_reducible rfl)
   try simp only [Act.put, List.setIfInBounds_toArray, List.set_cons_zero, List.set_cons_succ]
   refine wpAnyH_take (i := 10) (v := ?vb10) rfl (by kernel_rfl) (by kernel_rfl) (by kernel_rfl) (fun _ _ _ h => h) (Or.inl ⟨by kernel_rfl, ?hyb10⟩) hHeld ?restb10
   case hyb10 => (intro w hSw; (try dsimp only at hSw); go_simp; try with_reducible rfl)
   try simp only [Act.put, List.setIfInBounds_toArray, List.set_cons_zero, List.set_cons_succ]
   refine wpAnyH_take (i := 11) (v := ?vb11) rfl (by kernel_rfl) (by kernel_rfl) (by kernel_rfl) (fun _ _ _ h => h) (Or.inl ⟨by kernel_rfl, ?hyb11⟩) hHeld ?restb11
   case hyb11 => (intro w hSw; (try dsimp only at hSw); go_simp; try with_reducible rfl)
   try simp only [Act.put, List.setIfInBounds_toArray, List.set_cons_zero, List.set_cons_succ]
   refine wpAnyH_ready (rs := [12]) (by kernel_rfl) (by simp) ?_
   refine AllReadyH.cons rfl (fun K hK => ?_) AllReadyH.nil
   go_simp
   refine hcl.mono ?_
   rintro e w4 ⟨A4, c4, rfl, ho4, hb4⟩
   dsimp only
   have HB34 := Lib.hid (bto HB33.out hb4)
   have HD4 := Lib.hid (bto HD.out hb4)
   obtain ⟨q0, q1, q2, q3, -⟩ := Blk.four (t := 34) (HH.out.below HD4.out).2.1
   refine hK.out _ _ ⟨q0, q1, q2⟩ (fun hHeld4 => ?_)
   clear hK K hHeld hcl hb4
   refine wpAnyH_take (i := 13) (v := ?vb13) rfl (by kernel_rfl) (by kernel_rfl) (by kernel_rfl) (fun _ _ _ h => h) (Or.inl ⟨by kernel_rfl, ?hyb13⟩) hHeld4 ?restb13
   case hyb13 => (intro w hSw; (try dsimp only at hSw); go_simp; try with_reducible rfl)
   try simp only [Act.put, List.setIfInBounds_toArray, List.set_cons_zero, List.set_cons_succ]
   refine wpAnyH_ready (rs := [14]) (by kernel_rfl) (by simp) ?_
   refine AllReadyH.cons rfl (fun K hK => ?_) AllReadyH.nil
   go_simp
   obtain ⟨w5, hw5⟩ : ∃ w5, w4.alloc (.cells #[strV f.name, .int .i64 f.k, .slice A4 f.sizes.length c4, .slice none 0 0] 34) = w5 := ⟨_, rfl⟩
   have hB5 : Below w4.heap.size w4 w5 := by rw [← hw5]; exact bone w4 _
   have hbg : Blk w5 w4.heap.size 34 #[strV f.name, .int .i64 f.k, .slice A4 f.sizes.length c4, .slice none 0 0] := by rw [← hw5]; exact Blk.new _ _ _
   have hg5 : w5.heap.size = w4.heap.size + 1 := by rw [← hw5]; simp
   rw [hw5]
   obtain ⟨g2, hg2⟩ : ∃ g2, w4.heap.size = g2 := ⟨_, rfl⟩
   have hB5' := hB5
   rw [hg2] at hbg hg5 ⊢
   have HD5 := Lib.hid (bto HD4.out hB5)
   have HB35 := Lib.hid (bto HB34.out hB5)
   obtain ⟨q0, q1, q2, q3, -⟩ := Blk.four (t := 34) (HH.out.below HD5.out).2.1
   refine hK.out _ _ ⟨q0, q1, q2⟩ (fun hHeld5 => ?_)
   have HO4N : Hid (∀ q, (Value.slice A4 f.sizes.length c4).ownBlock = some q → q < g2) := fun q hq => by have := (own_in ho4 hq).2; omega
   have HO4 := Lib.hid (own_under ho4 hB5)
   have HBG := Lib.hid hbg
   have HG5 := Lib.hid hg5
   have HGZ : Hid (w3.heap.size ≤ g2 ∧ w.heap.size ≤ g2) := ⟨by rw [← hg2]; exact HB34.out.size, by rw [← hg2]; exact HD4.out.size⟩
   clear hK K hHeld4 hB5 hB5' hbg hg5 hw5 hg2 ho4
   refine wpAnyH_take (i := 15) (v := ?vb15) rfl (by kernel_rfl) (by kernel_rfl) (by kernel_rfl) (fun _ _ _ h => h) (Or.inl ⟨by kernel_rfl, ?hyb15⟩) hHeld5 ?restb15
   case hyb15 => (intro w hSw; (try dsimp only at hSw); go_simp; try with_reducible rfl)
   try simp only [Act.put, List.setIfInBounds_toArray, List.set_cons_zero, List.set_cons_succ]
   refine wpAnyH_done (by kernel_rfl) ?_ _
   go_simp
   clear hHeld5 q0 q1 q2 q3
   go_wp2_with fail
   go_loopw [14, 85] (fun _ jv wr => ∃ (j : Nat) (V2 : List FT) (F2 : Option Addr) (f2c : Nat), jv = .int .i64 j ∧ j ≤ nq ∧ V2.length = j ∧ OutW w5 g2 f A4 c4 (canonL f.sizes f.k f.funs) j V2 F2 f2c wr) (fun _ jv _ => nq - (intOf jv).toNat)
   case atStart => exact ⟨0, [], none, 0, rfl, Nat.zero_le _, rfl, ⟨rfl, HBG.out, World.ownsRow_nil _ _ _ _, (fun p hp => by cases hp), Tch.refl _ _⟩⟩
   case round =>
    obtain ⟨j, V2, F2, f2c, rfl, hj, hV2j, hO⟩ := hrel
    have hno5 : NoFn w5 (fun q => q = g2) := fun q e => by subst e; exact ⟨_, _, HBG.out, by decide, by decide, by decide⟩
    by_cases hlt : j < nq
    ·obtain ⟨p, hp⟩ : ∃ p, Q[j]? = some p := ⟨_, List.getElem?_eq_getElem (by rw [HQL.out]; exact hlt)⟩
     have hpm := List.mem_of_getElem? hp
     have hcj : (canonL f.sizes f.k f.funs)[j]? = some p.2 := by rw [← HQM.out, List.getElem?_map, hp]; rfl
     obtain ⟨hgv3, hgc⟩ := HFS3.out p hpm
     have hgv := (hgv3.under HB35.out).off hO.tch hno5
     have h2Q : ∀ p ∈ Q, ∃ a b, p.1 = .agg #[a, b] := fun p hp => (HFS3.out p hp).1.two
     have hrow := hO.tch.own (own_under HO3.out HB35.out) fun q hq e => by have z := (own_in HO3.out hq).2; have := HGZ.out; omega
     obtain ⟨lq, rfl, -, -⟩ := own_some hrow (by omega)
     obtain ⟨Ay, cy, gy, ey, ry, ty⟩ := hgv
     obtain ⟨pv, y⟩ := p
     dsimp only at ey ry ty hcj hgc
     subst ey
     obtain ⟨c0, c1⟩ := gc_at h2Q hp
     have d0 := (hrow.cellAt (j * 2) (by omega)).trans c0
     have d1 := (hrow.cellAt (j * 2 + 1) (by omega)).trans c1
     obtain ⟨w6, hw6⟩ : ∃ w6, wr.alloc (.cells #[.slice Ay y.scope.length cy, .pointer (some ⟨gy, 0, none⟩)] 88) = w6 := ⟨_, rfl⟩
     have hB6 : Below wr.heap.size wr w6 := by rw [← hw6]; exact bone wr _
     have hbx : Blk w6 wr.heap.size 88 #[.slice Ay y.scope.length cy, .pointer (some ⟨gy, 0, none⟩)] := by rw [← hw6]; exact Blk.new _ _ _
     have i0 : (0 : Int) ≤ (j : Int) := Int.natCast_nonneg _
     have i1 : (j : Int) < (nq : Int) := by omega
     have hgl : g2 < wr.heap.size := hO.blk.lt
     have HO := Lib.hid hO
     have HCJ := Lib.hid hcj
     have HGC := Lib.hid hgc
     have HRY := Lib.hid ry
     have HTY := Lib.hid ty
     have HB6 := Lib.hid hB6
     have HBX := Lib.hid hbx
     have HV2J := Lib.hid hV2j
     have HGL := Lib.hid hgl
     clear hp hpm hgv3 hgc h2Q hrow c0 c1 hcj hO ry ty hB6 hbx hno5 hgl hV2j
     have hw6b := HB6.out
     obtain ⟨w6d, hw6d⟩ : ∃ w6d, w6.drew = w6d := ⟨_, rfl⟩
     have hb6d : Below wr.heap.size wr w6d := by rw [← hw6d]; exact hw6b.drew
     have hbxd : Blk w6d wr.heap.size 88 #[.slice Ay y.scope.length cy, .pointer (some ⟨gy, 0, none⟩)] := by rw [← hw6d]; exact HBX.out
     have hSd : w6d.cell? ⟨wr.heap.size, 0, none⟩ = some (.slice Ay y.scope.length cy) ∧ w6d.cell? ⟨wr.heap.size, 1, none⟩ = some (.pointer (some ⟨gy, 0, none⟩)) := hbxd.two
     have HB6D := Lib.hid hb6d
     have HBXD := Lib.hid hbxd
     have HNG : Hid (g2 ≠ wr.heap.size) := by have := HGL.out; intro e; omega
     clear hb6d hbxd hw6b
     go_upto_region 21 with fail
     try rw [hw6]
     clear hw6
     go_upto_region 21 with fail
     refine wp_region_held_drew (S := (fun W => W.cell? ⟨wr.heap.size, 0, none⟩ = some (.slice Ay y.scope.length cy) ∧ W.cell? ⟨wr.heap.size, 1, none⟩ = some (.pointer (some ⟨gy, 0, none⟩)))) (by kernel_rfl) (by rw [hw6d]; exact hSd) (fun hHeld => ?_)
     rw [hw6d] at hHeld ⊢
     clear hw6d
     refine wpAnyH_take (i := 0) (oi := { dst := some 89, op := Op.move (Operand.tmp 12), type := 24, pos := "plain.go:98", after := #[], guard := none }) (v := ?vs0) rfl (by kernel_rfl) (by kernel_rfl) (by kernel_rfl) (fun _ _ _ h => h) (Or.inl ⟨by kernel_rfl, ?hys0⟩) hHeld ?rests0
     case hys0 => (intro w hSw; (try dsimp only at hSw); go_simp; try with_reducible rfl)
     try simp only [Act.put, List.setIfInBounds_toArray, List.set_cons_zero, List.set_cons_succ]
     refine wpAnyH_take (i := 1) (oi := { dst := some 90, op := Op.move (Operand.tmp 12), type := 24, pos := "plain.go:98", after := #[], guard := none }) (v := ?vs1) rfl (by kernel_rfl) (by kernel_rfl) (by kernel_rfl) (fun _ _ _ h => h) (Or.inl ⟨by kernel_rfl, ?hys1⟩) hHeld ?rests1
     case hys1 => (intro w hSw; (try dsimp only at hSw); go_simp; try with_reducible rfl)
     try simp only [Act.put, List.setIfInBounds_toArray, List.set_cons_zero, List.set_cons_succ]
     refine wpAnyH_take (i := 2) (oi := { dst := some 91, op := Op.nilCheck (Operand.tmp 90), type := 0, pos := "plain.go:98", after := #[{ on := 1, ground := Ground.data }], guard := none }) (v := ?vs2) rfl (by kernel_rfl) (by kernel_rfl) (by kernel_rfl) (fun _ _ _ h => h) (Or.inl ⟨by kernel_rfl, ?hys2⟩) hHeld ?rests2
     case hys2 => (intro w hSw; (try dsimp only at hSw); go_simp; try with_reducible rfl)
     try simp only [Act.put, List.setIfInBounds_toArray, List.set_cons_zero, List.set_cons_succ]
     refine wpAnyH_take (i := 3) (oi := { dst := some 92, op := Op.fieldAddr 34 (Operand.tmp 91) 3, type := 0, pos := "plain.go:98", after := #[{ on := 2, ground := Ground.data }], guard := none }) (v := ?vs3) rfl (by kernel_rfl) (by kernel_rfl) (by kernel_rfl) (fun _ _ _ h => h) (Or.inl ⟨by kernel_rfl, ?hys3⟩) hHeld ?rests3
     case hys3 => (intro w hSw; (try dsimp only at hSw); go_simp; try with_reducible rfl)
     try simp only [Act.put, List.setIfInBounds_toArray, List.set_cons_zero, List.set_cons_succ]
     refine wpAnyH_take (i := 5) (oi := { dst := some 94, op := Op.fieldAddr 88 (Operand.tmp 14) 0, type := 0, pos := "plain.go:98", after := #[], guard := none }) (v := ?vs5) rfl (by kernel_rfl) (by kernel_rfl) (by kernel_rfl) (fun _ _ _ h => h) (Or.inl ⟨by kernel_rfl, ?hys5⟩) hHeld ?rests5
     case hys5 => (intro w hSw; (try dsimp only at hSw); go_simp; try with_reducible rfl)
     try simp only [Act.put, List.setIfInBounds_toArray, List.set_cons_zero, List.set_cons_succ]
     refine wpAnyH_take (i := 6) (oi := { dst := some 95, op := Op.load 31 (Operand.tmp 94), type := 31, pos := "plain.go:98", after := #[{ on := 5, ground := Ground.data }], guard := none }) (v := ?vs6) rfl (by kernel_rfl) (by kernel_rfl) (by kernel_rfl) (fun _ _ _ h => h) (Or.inl ⟨by kernel_rfl, ?hys6⟩) hHeld ?rests6
     case hys6 => (intro w hSw; (try dsimp only at hSw); go_simp; try with_reducible rfl)
     try simp only [Act.put, List.setIfInBounds_toArray, List.set_cons_zero, List.set_cons_succ]
     refine wpAnyH_take (i := 7) (oi := { dst := some 96, op := Op.fieldAddr 88 (Operand.tmp 14) 1, type := 0, pos := "plain.go:98", after := #[], guard := none }) (v := ?vs7) rfl (by kernel_rfl) (by kernel_rfl) (by kernel_rfl) (fun _ _ _ h => h) (Or.inl ⟨by kernel_rfl, ?hys7⟩) hHeld ?rests7
     case hys7 => (intro w hSw; (try dsimp only at hSw); go_simp; try with_reducible rfl)
     try simp only [Act.put, List.setIfInBounds_toArray, List.set_cons_zero, List.set_cons_succ]
     refine wpAnyH_take (i := 8) (oi := { dst := some 97, op := Op.load 53 (Operand.tmp 96), type := 53, pos := "plain.go:98", after := #[{ on := 7, ground := Ground.data }], guard := none }) (v := ?vs8) rfl (by kernel_rfl) (by kernel_rfl) (by kernel_rfl) (fun _ _ _ h => h) (Or.inl ⟨by kernel_rfl, ?hys8⟩) hHeld ?rests8
     case hys8 => (intro w hSw; (try dsimp only at hSw); go_simp; try with_reducible rfl)
     try simp only [Act.put, List.setIfInBounds_toArray, List.set_cons_zero, List.set_cons_succ]
     try simp only [Act.put, List.setIfInBounds_toArray, List.set_cons_zero, List.set_cons_succ]
     refine wpAnyH_ready (rs := [4, 9]) (by kernel_rfl) (by simp) ?_
     refine AllReadyH.cons rfl (fun Kc hKc => ?_) (AllReadyH.cons rfl (fun Kc hKc => ?_) AllReadyH.nil)
     ·skip
      obtain ⟨nq1, nq2, nq3, nq4, -⟩ := Blk.four (t := 34) (HO.out.blk.under HB6D.out)
      go_simp
      refine hKc.out _ _ hHeld (fun hHq5 => ?_)
      clear hKc Kc nq1 nq2 nq3 nq4
      try simp only [Act.put, List.setIfInBounds_toArray, List.set_cons_zero, List.set_cons_succ]
      refine wpAnyH_ready (rs := [9]) (by kernel_rfl) (by simp) ?_
      refine AllReadyH.cons rfl (fun Kc hKc => ?_) AllReadyH.nil
      go_simp
      refine (tof_any HGC.out (HTY.out.under HB6D.out)).mono ?_
      rintro e wq6 ⟨tgq7, rfl, htwq6, hbwq6⟩
      dsimp only
      have HBwq6 := Lib.hid (bto HB6D.out hbwq6)
      have HTwq6 := Lib.hid (htwq6.mono (F' := fun q => w.heap.size ≤ q) fun q h => by have z1 := HGZ.out.2; have z2 := HGL.out; have z3 := (HB6D.out).size; have z4 : w6d.heap.size ≤ q := h; omega)
      have HLwq6 := Lib.hid hbwq6
      refine hKc.out _ _ (HBXD.out.under HLwq6.out).two (fun hHq8 => ?_)
      clear hKc Kc htwq6 hbwq6
      refine wpAnyH_take (i := 10) (oi := { dst := some 99, op := Op.build 37 #[(0, Operand.tmp 95), (1, Operand.tmp 98)], type := 37, pos := "plain.go:98", after := #[{ on := 6, ground := Ground.data }, { on := 9, ground := Ground.data }], guard := none }) (v := ?vtq910) rfl (by kernel_rfl) (by kernel_rfl) (by kernel_rfl) (fun _ _ _ h => h) (Or.inl ⟨by kernel_rfl, ?hytq910⟩) hHq8 ?resttq910
      case hytq910 => (intro w hSw; (try dsimp only at hSw); go_simp; try with_reducible rfl)
      try simp only [Act.put, List.setIfInBounds_toArray, List.set_cons_zero, List.set_cons_succ]
      try simp only [Act.put, List.setIfInBounds_toArray, List.set_cons_zero, List.set_cons_succ]
      refine wpAnyH_ready (rs := [11]) (by kernel_rfl) (by simp) ?_
      refine AllReadyH.cons rfl (fun Kc hKc => ?_) AllReadyH.nil
      go_simp
      obtain ⟨wq10, hwq10⟩ : ∃ x, wq6.alloc (.cells #[.slice Ay y.scope.length cy, .pointer (some ⟨tgq7, 0, none⟩)] 37) = x := ⟨_, rfl⟩
      have hbwq10 : Below wq6.heap.size wq6 wq10 := by rw [← hwq10]; exact bone _ _
      have hrwq10 : Reads wq10 wq10.heap.size 2 (some ⟨wq6.heap.size, 0, none⟩) 1 [.slice Ay y.scope.length cy, .pointer (some ⟨tgq7, 0, none⟩)] := reads_two (by rw [← hwq10]; exact heap_alloc_new _ _)
      rw [hwq10]
      have HBwq10 := Lib.hid (bto HBwq6.out hbwq10)
      have HTwq10 := Lib.hid (HTwq6.out.under hbwq10)
      have HRwq10 := Lib.hid hrwq10
      have HLwq10 := Lib.hid hbwq10
      refine hKc.out _ _ ((HBXD.out.under HLwq6.out).under HLwq10.out).two (fun hHq11 => ?_)
      clear hKc Kc hbwq10 hrwq10 hwq10
      try simp only [Act.put, List.setIfInBounds_toArray, List.set_cons_zero, List.set_cons_succ]
      refine wpAnyH_ready (rs := [12]) (by kernel_rfl) (by simp) ?_
      refine AllReadyH.cons rfl (fun Kc hKc => ?_) AllReadyH.nil
      have hawq12 := own_under HO.out.row HBwq10.out
      have hzwq12 : g2 + 1 ≤ wq10.heap.size := by have z1 := (HBwq10.out).size; have z2 := HGL.out; omega
      have honewq12 : ∀ u ∈ [Value.slice Ay y.scope.length cy, .pointer (some ⟨tgq7, 0, none⟩)], u.oneCell' = true := by simp [Value.oneCell']
      have hvlwq12 : V2.length ≤ 256 := by have := HV2J.out; omega
      refine step_append_any _ rfl (.tmp 93) (.tmp 100) 32 rfl (g2 + 1) 37 iW _ 2 32 Tryz.underlying32 e0 e1 e2 e3 rfl (by omega) (.slice F2 V2.length f2c) V2.length _ rfl hawq12 wq10.heap.size (some ⟨wq6.heap.size, 0, none⟩) 1 1 [.slice Ay y.scope.length cy, .pointer (some ⟨tgq7, 0, none⟩)] rfl HRwq10.out honewq12 (by simp only [maxLen]; omega) (by omega) hzwq12 ?_
      intro vq13 wq12 howq12 hgwq12 hatwq12
      clear hatwq12
      obtain ⟨Aq14, cq15, rfl⟩ := own_shape howq12
      have hgwwq12 := (HO.out.blk.under HBwq10.out).grown hgwq12 (fun e => by obtain ⟨cs, hb⟩ := own_is hawq12 e.symm; exact Blk.ne_ (HO.out.blk.under HBwq10.out) hb (by decide) rfl)
      have hbwwq12 := ((HBXD.out.under HLwq6.out).under HLwq10.out).grown hgwq12 (fun e => by obtain ⟨cs, hb⟩ := own_is hawq12 e.symm; exact Blk.ne_ ((HBXD.out.under HLwq6.out).under HLwq10.out) hb (by decide) rfl)
      have HGGwq12 := Lib.hid hgwq12
      have HOOwq12 := Lib.hid howq12
      obtain ⟨xwq12, ywq12⟩ := hbwwq12.two
      have mwq12 := (Blk.four (t := 34) hgwwq12).2.2.2.1
      have fwq12 := hgwwq12.frozen 3
      refine hKc.out _ _ ⟨xwq12, ywq12⟩ (fun hHq16 => ?_)
      clear hKc Kc hawq12 hzwq12 honewq12 hgwq12 howq12 hgwwq12 hbwwq12
      refine wpAnyH_take (i := 13) (oi := { dst := some 102, op := Op.nilCheck (Operand.tmp 89), type := 0, pos := "plain.go:98", after := #[{ on := 0, ground := Ground.data }, { on := 0, ground := Ground.phase }, { on := 1, ground := Ground.phase }, { on := 2, ground := Ground.phase }, { on := 3, ground := Ground.phase }, { on := 4, ground := Ground.phase }, { on := 5, ground := Ground.phase }, { on := 6, ground := Ground.phase }, { on := 7, ground := Ground.phase }, { on := 8, ground := Ground.phase }, { on := 9, ground := Ground.phase }, { on := 10, ground := Ground.phase }, { on := 11, ground := Ground.phase }, { on := 12, ground := Ground.phase }], guard := none }) (v := ?vtq1813) rfl (by kernel_rfl) (by kernel_rfl) (by kernel_rfl) (fun _ _ _ h => h) (Or.inl ⟨by kernel_rfl, ?hytq1813⟩) hHq16 ?resttq1813
      case hytq1813 => (intro w hSw; (try dsimp only at hSw); go_simp; try with_reducible rfl)
      try simp only [Act.put, List.setIfInBounds_toArray, List.set_cons_zero, List.set_cons_succ]
      refine wpAnyH_take (i := 14) (oi := { dst := some 103, op := Op.fieldAddr 34 (Operand.tmp 102) 3, type := 0, pos := "plain.go:98", after := #[{ on := 13, ground := Ground.data }, { on := 0, ground := Ground.phase }, { on := 1, ground := Ground.phase }, { on := 2, ground := Ground.phase }, { on := 3, ground := Ground.phase }, { on := 4, ground := Ground.phase }, { on := 5, ground := Ground.phase }, { on := 6, ground := Ground.phase }, { on := 7, ground := Ground.phase }, { on := 8, ground := Ground.phase }, { on := 9, ground := Ground.phase }, { on := 10, ground := Ground.phase }, { on := 11, ground := Ground.phase }, { on := 12, ground := Ground.phase }], guard := none }) (v := ?vtq1814) rfl (by kernel_rfl) (by kernel_rfl) (by kernel_rfl) (fun _ _ _ h => h) (Or.inl ⟨by kernel_rfl, ?hytq1814⟩) hHq16 ?resttq1814
      case hytq1814 => (intro w hSw; (try dsimp only at hSw); go_simp; try with_reducible rfl)
      try simp only [Act.put, List.setIfInBounds_toArray, List.set_cons_zero, List.set_cons_succ]
      try simp only [Act.put, List.setIfInBounds_toArray, List.set_cons_zero, List.set_cons_succ]
      refine wpAnyH_ready (rs := [15]) (by kernel_rfl) (by simp) ?_
      refine AllReadyH.cons rfl (fun Kc hKc => ?_) AllReadyH.nil
      go_simp
      refine hKc.out _ _ ⟨?_, ?_⟩ (fun hHq17 => ?_)
      ·rw [World.cell?_setCell_far _ _ _ _ HNG.out]; exact xwq12
      ·rw [World.cell?_setCell_far _ _ _ _ HNG.out]; exact ywq12
      clear hKc Kc
      refine wpAnyH_done (by kernel_rfl) ?_ _
      go_simp
      try go_wp2_with fail
      go_roundw
      case measure => simp [intOf]; omega
      case rel => exact ⟨j + 1, _, Aq14, cq15, by go_num, by omega, by rw [List.length_append, HV2J.out]; rfl, HO.out.push HCJ.out HG5.out HBwq10.out (funv_made (own_under HRY.out HBwq10.out) HTwq10.out) HGGwq12.out HOOwq12.out⟩
     ·skip
      go_simp
      refine (tof_any HGC.out (HTY.out.under HB6D.out)).mono ?_
      rintro e wq19 ⟨tgq20, rfl, htwq19, hbwq19⟩
      dsimp only
      have HBwq19 := Lib.hid (bto HB6D.out hbwq19)
      have HTwq19 := Lib.hid (htwq19.mono (F' := fun q => w.heap.size ≤ q) fun q h => by have z1 := HGZ.out.2; have z2 := HGL.out; have z3 := (HB6D.out).size; have z4 : w6d.heap.size ≤ q := h; omega)
      have HLwq19 := Lib.hid hbwq19
      refine hKc.out _ _ (HBXD.out.under HLwq19.out).two (fun hHq21 => ?_)
      clear hKc Kc htwq19 hbwq19
      refine wpAnyH_take (i := 10) (oi := { dst := some 99, op := Op.build 37 #[(0, Operand.tmp 95), (1, Operand.tmp 98)], type := 37, pos := "plain.go:98", after := #[{ on := 6, ground := Ground.data }, { on := 9, ground := Ground.data }], guard := none }) (v := ?vtq2210) rfl (by kernel_rfl) (by kernel_rfl) (by kernel_rfl) (fun _ _ _ h => h) (Or.inl ⟨by kernel_rfl, ?hytq2210⟩) hHq21 ?resttq2210
      case hytq2210 => (intro w hSw; (try dsimp only at hSw); go_simp; try with_reducible rfl)
      try simp only [Act.put, List.setIfInBounds_toArray, List.set_cons_zero, List.set_cons_succ]
      try simp only [Act.put, List.setIfInBounds_toArray, List.set_cons_zero, List.set_cons_succ]
      refine wpAnyH_ready (rs := [4, 11]) (by kernel_rfl) (by simp) ?_
      refine AllReadyH.cons rfl (fun Kc hKc => ?_) (AllReadyH.cons rfl (fun Kc hKc => ?_) AllReadyH.nil)
      ·skip
       obtain ⟨nq23, nq24, nq25, nq26, -⟩ := Blk.four (t := 34) (HO.out.blk.under HBwq19.out)
       go_simp
       refine hKc.out _ _ hHq21 (fun hHq27 => ?_)
       clear hKc Kc nq23 nq24 nq25 nq26
       try simp only [Act.put, List.setIfInBounds_toArray, List.set_cons_zero, List.set_cons_succ]
       refine wpAnyH_ready (rs := [11]) (by kernel_rfl) (by simp) ?_
       refine AllReadyH.cons rfl (fun Kc hKc => ?_) AllReadyH.nil
       go_simp
       obtain ⟨wq28, hwq28⟩ : ∃ x, wq19.alloc (.cells #[.slice Ay y.scope.length cy, .pointer (some ⟨tgq20, 0, none⟩)] 37) = x := ⟨_, rfl⟩
       have hbwq28 : Below wq19.heap.size wq19 wq28 := by rw [← hwq28]; exact bone _ _
       have hrwq28 : Reads wq28 wq28.heap.size 2 (some ⟨wq19.heap.size, 0, none⟩) 1 [.slice Ay y.scope.length cy, .pointer (some ⟨tgq20, 0, none⟩)] := reads_two (by rw [← hwq28]; exact heap_alloc_new _ _)
       rw [hwq28]
       have HBwq28 := Lib.hid (bto HBwq19.out hbwq28)
       have HTwq28 := Lib.hid (HTwq19.out.under hbwq28)
       have HRwq28 := Lib.hid hrwq28
       have HLwq28 := Lib.hid hbwq28
       refine hKc.out _ _ ((HBXD.out.under HLwq19.out).under HLwq28.out).two (fun hHq29 => ?_)
       clear hKc Kc hbwq28 hrwq28 hwq28
       try simp only [Act.put, List.setIfInBounds_toArray, List.set_cons_zero, List.set_cons_succ]
       refine wpAnyH_ready (rs := [12]) (by kernel_rfl) (by simp) ?_
       refine AllReadyH.cons rfl (fun Kc hKc => ?_) AllReadyH.nil
       have hawq30 := own_under HO.out.row HBwq28.out
       have hzwq30 : g2 + 1 ≤ wq28.heap.size := by have z1 := (HBwq28.out).size; have z2 := HGL.out; omega
       have honewq30 : ∀ u ∈ [Value.slice Ay y.scope.length cy, .pointer (some ⟨tgq20, 0, none⟩)], u.oneCell' = true := by simp [Value.oneCell']
       have hvlwq30 : V2.length ≤ 256 := by have := HV2J.out; omega
       refine step_append_any _ rfl (.tmp 93) (.tmp 100) 32 rfl (g2 + 1) 37 iW _ 2 32 Tryz.underlying32 e0 e1 e2 e3 rfl (by omega) (.slice F2 V2.length f2c) V2.length _ rfl hawq30 wq28.heap.size (some ⟨wq19.heap.size, 0, none⟩) 1 1 [.slice Ay y.scope.length cy, .pointer (some ⟨tgq20, 0, none⟩)] rfl HRwq28.out honewq30 (by simp only [maxLen]; omega) (by omega) hzwq30 ?_
       intro vq31 wq30 howq30 hgwq30 hatwq30
       clear hatwq30
       obtain ⟨Aq32, cq33, rfl⟩ := own_shape howq30
       have hgwwq30 := (HO.out.blk.under HBwq28.out).grown hgwq30 (fun e => by obtain ⟨cs, hb⟩ := own_is hawq30 e.symm; exact Blk.ne_ (HO.out.blk.under HBwq28.out) hb (by decide) rfl)
       have hbwwq30 := ((HBXD.out.under HLwq19.out).under HLwq28.out).grown hgwq30 (fun e => by obtain ⟨cs, hb⟩ := own_is hawq30 e.symm; exact Blk.ne_ ((HBXD.out.under HLwq19.out).under HLwq28.out) hb (by decide) rfl)
       have HGGwq30 := Lib.hid hgwq30
       have HOOwq30 := Lib.hid howq30
       obtain ⟨xwq30, ywq30⟩ := hbwwq30.two
       have mwq30 := (Blk.four (t := 34) hgwwq30).2.2.2.1
       have fwq30 := hgwwq30.frozen 3
       refine hKc.out _ _ ⟨xwq30, ywq30⟩ (fun hHq34 => ?_)
       clear hKc Kc hawq30 hzwq30 honewq30 hgwq30 howq30 hgwwq30 hbwwq30
       refine wpAnyH_take (i := 13) (oi := { dst := some 102, op := Op.nilCheck (Operand.tmp 89), type := 0, pos := "plain.go:98", after := #[{ on := 0, ground := Ground.data }, { on := 0, ground := Ground.phase }, { on := 1, ground := Ground.phase }, { on := 2, ground := Ground.phase }, { on := 3, ground := Ground.phase }, { on := 4, ground := Ground.phase }, { on := 5, ground := Ground.phase }, { on := 6, ground := Ground.phase }, { on := 7, ground := Ground.phase }, { on := 8, ground := Ground.phase }, { on := 9, ground := Ground.phase }, { on := 10, ground := Ground.phase }, { on := 11, ground := Ground.phase }, { on := 12, ground := Ground.phase }], guard := none }) (v := ?vtq3613) rfl (by kernel_rfl) (by kernel_rfl) (by kernel_rfl) (fun _ _ _ h => h) (Or.inl ⟨by kernel_rfl, ?hytq3613⟩) hHq34 ?resttq3613
       case hytq3613 => (intro w hSw; (try dsimp only at hSw); go_simp; try with_reducible rfl)
       try simp only [Act.put, List.setIfInBounds_toArray, List.set_cons_zero, List.set_cons_succ]
       refine wpAnyH_take (i := 14) (oi := { dst := some 103, op := Op.fieldAddr 34 (Operand.tmp 102) 3, type := 0, pos := "plain.go:98", after := #[{ on := 13, ground := Ground.data }, { on := 0, ground := Ground.phase }, { on := 1, ground := Ground.phase }, { on := 2, ground := Ground.phase }, { on := 3, ground := Ground.phase }, { on := 4, ground := Ground.phase }, { on := 5, ground := Ground.phase }, { on := 6, ground := Ground.phase }, { on := 7, ground := Ground.phase }, { on := 8, ground := Ground.phase }, { on := 9, ground := Ground.phase }, { on := 10, ground := Ground.phase }, { on := 11, ground := Ground.phase }, { on := 12, ground := Ground.phase }], guard := none }) (v := ?vtq3614) rfl (by kernel_rfl) (by kernel_rfl) (by kernel_rfl) (fun _ _ _ h => h) (Or.inl ⟨by kernel_rfl, ?hytq3614⟩) hHq34 ?resttq3614
       case hytq3614 => (intro w hSw; (try dsimp only at hSw); go_simp; try with_reducible rfl)
       try simp only [Act.put, List.setIfInBounds_toArray, List.set_cons_zero, List.set_cons_succ]
       try simp only [Act.put, List.setIfInBounds_toArray, List.set_cons_zero, List.set_cons_succ]
       refine wpAnyH_ready (rs := [15]) (by kernel_rfl) (by simp) ?_
       refine AllReadyH.cons rfl (fun Kc hKc => ?_) AllReadyH.nil
       go_simp
       refine hKc.out _ _ ⟨?_, ?_⟩ (fun hHq35 => ?_)
       ·rw [World.cell?_setCell_far _ _ _ _ HNG.out]; exact xwq30
       ·rw [World.cell?_setCell_far _ _ _ _ HNG.out]; exact ywq30
       clear hKc Kc
       refine wpAnyH_done (by kernel_rfl) ?_ _
       go_simp
       try go_wp2_with fail
       go_roundw
       case measure => simp [intOf]; omega
       case rel => exact ⟨j + 1, _, Aq32, cq33, by go_num, by omega, by rw [List.length_append, HV2J.out]; rfl, HO.out.push HCJ.out HG5.out HBwq28.out (funv_made (own_under HRY.out HBwq28.out) HTwq28.out) HGGwq30.out HOOwq30.out⟩
      ·skip
       go_simp
       obtain ⟨wq37, hwq37⟩ : ∃ x, wq19.alloc (.cells #[.slice Ay y.scope.length cy, .pointer (some ⟨tgq20, 0, none⟩)] 37) = x := ⟨_, rfl⟩
       have hbwq37 : Below wq19.heap.size wq19 wq37 := by rw [← hwq37]; exact bone _ _
       have hrwq37 : Reads wq37 wq37.heap.size 2 (some ⟨wq19.heap.size, 0, none⟩) 1 [.slice Ay y.scope.length cy, .pointer (some ⟨tgq20, 0, none⟩)] := reads_two (by rw [← hwq37]; exact heap_alloc_new _ _)
       rw [hwq37]
       have HBwq37 := Lib.hid (bto HBwq19.out hbwq37)
       have HTwq37 := Lib.hid (HTwq19.out.under hbwq37)
       have HRwq37 := Lib.hid hrwq37
       have HLwq37 := Lib.hid hbwq37
       refine hKc.out _ _ ((HBXD.out.under HLwq19.out).under HLwq37.out).two (fun hHq38 => ?_)
       clear hKc Kc hbwq37 hrwq37 hwq37
       try simp only [Act.put, List.setIfInBounds_toArray, List.set_cons_zero, List.set_cons_succ]
       refine wpAnyH_ready (rs := [4]) (by kernel_rfl) (by simp) ?_
       refine AllReadyH.cons rfl (fun Kc hKc => ?_) AllReadyH.nil
       obtain ⟨nq39, nq40, nq41, nq42, -⟩ := Blk.four (t := 34) (HO.out.blk.under HBwq37.out)
       go_simp
       refine hKc.out _ _ hHq38 (fun hHq43 => ?_)
       clear hKc Kc nq39 nq40 nq41 nq42
       try simp only [Act.put, List.setIfInBounds_toArray, List.set_cons_zero, List.set_cons_succ]
       refine wpAnyH_ready (rs := [12]) (by kernel_rfl) (by simp) ?_
       refine AllReadyH.cons rfl (fun Kc hKc => ?_) AllReadyH.nil
       have hawq44 := own_under HO.out.row HBwq37.out
       have hzwq44 : g2 + 1 ≤ wq37.heap.size := by have z1 := (HBwq37.out).size; have z2 := HGL.out; omega
       have honewq44 : ∀ u ∈ [Value.slice Ay y.scope.length cy, .pointer (some ⟨tgq20, 0, none⟩)], u.oneCell' = true := by simp [Value.oneCell']
       have hvlwq44 : V2.length ≤ 256 := by have := HV2J.out; omega
       refine step_append_any _ rfl (.tmp 93) (.tmp 100) 32 rfl (g2 + 1) 37 iW _ 2 32 Tryz.underlying32 e0 e1 e2 e3 rfl (by omega) (.slice F2 V2.length f2c) V2.length _ rfl hawq44 wq37.heap.size (some ⟨wq19.heap.size, 0, none⟩) 1 1 [.slice Ay y.scope.length cy, .pointer (some ⟨tgq20, 0, none⟩)] rfl HRwq37.out honewq44 (by simp only [maxLen]; omega) (by omega) hzwq44 ?_
       intro vq45 wq44 howq44 hgwq44 hatwq44
       clear hatwq44
       obtain ⟨Aq46, cq47, rfl⟩ := own_shape howq44
       have hgwwq44 := (HO.out.blk.under HBwq37.out).grown hgwq44 (fun e => by obtain ⟨cs, hb⟩ := own_is hawq44 e.symm; exact Blk.ne_ (HO.out.blk.under HBwq37.out) hb (by decide) rfl)
       have hbwwq44 := ((HBXD.out.under HLwq19.out).under HLwq37.out).grown hgwq44 (fun e => by obtain ⟨cs, hb⟩ := own_is hawq44 e.symm; exact Blk.ne_ ((HBXD.out.under HLwq19.out).under HLwq37.out) hb (by decide) rfl)
       have HGGwq44 := Lib.hid hgwq44
       have HOOwq44 := Lib.hid howq44
       obtain ⟨xwq44, ywq44⟩ := hbwwq44.two
       have mwq44 := (Blk.four (t := 34) hgwwq44).2.2.2.1
       have fwq44 := hgwwq44.frozen 3
       refine hKc.out _ _ ⟨xwq44, ywq44⟩ (fun hHq48 => ?_)
       clear hKc Kc hawq44 hzwq44 honewq44 hgwq44 howq44 hgwwq44 hbwwq44
       refine wpAnyH_take (i := 13) (oi := { dst := some 102, op := Op.nilCheck (Operand.tmp 89), type := 0, pos := "plain.go:98", after := #[{ on := 0, ground := Ground.data }, { on := 0, ground := Ground.phase }, { on := 1, ground := Ground.phase }, { on := 2, ground := Ground.phase }, { on := 3, ground := Ground.phase }, { on := 4, ground := Ground.phase }, { on := 5, ground := Ground.phase }, { on := 6, ground := Ground.phase }, { on := 7, ground := Ground.phase }, { on := 8, ground := Ground.phase }, { on := 9, ground := Ground.phase }, { on := 10, ground := Ground.phase }, { on := 11, ground := Ground.phase }, { on := 12, ground := Ground.phase }], guard := none }) (v := ?vtq5013) rfl (by kernel_rfl) (by kernel_rfl) (by kernel_rfl) (fun _ _ _ h => h) (Or.inl ⟨by kernel_rfl, ?hytq5013⟩) hHq48 ?resttq5013
       case hytq5013 => (intro w hSw; (try dsimp only at hSw); go_simp; try with_reducible rfl)
       try simp only [Act.put, List.setIfInBounds_toArray, List.set_cons_zero, List.set_cons_succ]
       refine wpAnyH_take (i := 14) (oi := { dst := some 103, op := Op.fieldAddr 34 (Operand.tmp 102) 3, type := 0, pos := "plain.go:98", after := #[{ on := 13, ground := Ground.data }, { on := 0, ground := Ground.phase }, { on := 1, ground := Ground.phase }, { on := 2, ground := Ground.phase }, { on := 3, ground := Ground.phase }, { on := 4, ground := Ground.phase }, { on := 5, ground := Ground.phase }, { on := 6, ground := Ground.phase }, { on := 7, ground := Ground.phase }, { on := 8, ground := Ground.phase }, { on := 9, ground := Ground.phase }, { on := 10, ground := Ground.phase }, { on := 11, ground := Ground.phase }, { on := 12, ground := Ground.phase }], guard := none }) (v := ?vtq5014) rfl (by kernel_rfl) (by kernel_rfl) (by kernel_rfl) (fun _ _ _ h => h) (Or.inl ⟨by kernel_rfl, ?hytq5014⟩) hHq48 ?resttq5014
       case hytq5014 => (intro w hSw; (try dsimp only at hSw); go_simp; try with_reducible rfl)
       try simp only [Act.put, List.setIfInBounds_toArray, List.set_cons_zero, List.set_cons_succ]
       try simp only [Act.put, List.setIfInBounds_toArray, List.set_cons_zero, List.set_cons_succ]
       refine wpAnyH_ready (rs := [15]) (by kernel_rfl) (by simp) ?_
       refine AllReadyH.cons rfl (fun Kc hKc => ?_) AllReadyH.nil
       go_simp
       refine hKc.out _ _ ⟨?_, ?_⟩ (fun hHq49 => ?_)
       ·rw [World.cell?_setCell_far _ _ _ _ HNG.out]; exact xwq44
       ·rw [World.cell?_setCell_far _ _ _ _ HNG.out]; exact ywq44
       clear hKc Kc
       refine wpAnyH_done (by kernel_rfl) ?_ _
       go_simp
       try go_wp2_with fail
       go_roundw
       case measure => simp [intOf]; omega
       case rel => exact ⟨j + 1, _, Aq46, cq47, by go_num, by omega, by rw [List.length_append, HV2J.out]; rfl, HO.out.push HCJ.out HG5.out HBwq37.out (funv_made (own_under HRY.out HBwq37.out) HTwq37.out) HGGwq44.out HOOwq44.out⟩
    ·obtain rfl : j = nq := by omega
     have hfun : V2.map (·.2.2.2) = (canonF f).funs := by
      have hl : (canonL f.sizes f.k f.funs).length = j := by rw [← HQM.out, List.length_map]; exact HQL.out
      rw [hO.map, List.take_of_length_le (by rw [hl]; exact Nat.le_refl _)]; rfl
     have hsz := hO.tch.own HO4.out fun q hq e => by have z := (own_in HO4.out hq); have z2 := HO4N.out q hq; omega
     have hbw : Below w.heap.size w wr := HD5.out.trans (hO.tch.below HD5.out.size fun q hq e => by have := HGZ.out.2; omega)
     have HO := Lib.hid hO
     have HFUN := Lib.hid hfun
     have HSZ := Lib.hid hsz
     have HBW := Lib.hid hbw
     clear hO hfun hsz hbw hno5
     go_wp2_with fail
     go_ret2
     exact ⟨g2, A4, c4, F2, f2c, V2, rfl, HGZ.out.2, ⟨HFUN.out, HO.out.blk, own_base HSZ.out (Nat.zero_le _), own_base HO.out.row (Nat.zero_le _), HO.out.fs⟩, HBW.out⟩
end Go.Proofs.YtjpkkkphhaajgaaGreatDoor.wcp
/- The document's example, made canonical; a text read by both. -/
namespace Go.Proofs.YtjpkkkphhaajgaaGreatDoor.wcp
open Go Go.RowKit Go.ChangeShapes Go.WideShapes Go.ChangeAt Go.Maps Go.Proofs.YtjpkkkphhaajgaaGreatDoor.words Go.Proofs.YtjpkkkphhaajgaaGreatDoor.scn
def aT : List UInt8 := [116, 32, 50, 32, 50, 32, 50, 32, 57, 32, 50, 32, 50, 32, 50, 32, 49, 32, 48, 32, 49, 32, 48, 32, 50, 32, 48, 32, 49, 32, 48, 32, 48]
def aL : List Wd := [([116], 0), ([50], 2), ([50], 4), ([50], 6), ([57], 8), ([50], 10), ([50], 12), ([50], 14), ([49], 16), ([48], 18), ([49], 20), ([48], 22), ([50], 24), ([48], 26), ([49], 28), ([48], 30), ([48], 32)]
theorem aT_told : scn.Told aT aL (-1) := by
 have b1 := bld_nil.word (v := [116]) (by decide) (by decide) (b := 32) (by decide)
 have b2 := b1.word (v := [50]) (by decide) (by decide) (b := 32) (by decide)
 have b3 := b2.word (v := [50]) (by decide) (by decide) (b := 32) (by decide)
 have b4 := b3.word (v := [50]) (by decide) (by decide) (b := 32) (by decide)
 have b5 := b4.word (v := [57]) (by decide) (by decide) (b := 32) (by decide)
 have b6 := b5.word (v := [50]) (by decide) (by decide) (b := 32) (by decide)
 have b7 := b6.word (v := [50]) (by decide) (by decide) (b := 32) (by decide)
 have b8 := b7.word (v := [50]) (by decide) (by decide) (b := 32) (by decide)
 have b9 := b8.word (v := [49]) (by decide) (by decide) (b := 32) (by decide)
 have b10 := b9.word (v := [48]) (by decide) (by decide) (b := 32) (by decide)
 have b11 := b10.word (v := [49]) (by decide) (by decide) (b := 32) (by decide)
 have b12 := b11.word (v := [48]) (by decide) (by decide) (b := 32) (by decide)
 have b13 := b12.word (v := [50]) (by decide) (by decide) (b := 32) (by decide)
 have b14 := b13.word (v := [48]) (by decide) (by decide) (b := 32) (by decide)
 have b15 := b14.word (v := [49]) (by decide) (by decide) (b := 32) (by decide)
 have b16 := b15.word (v := [48]) (by decide) (by decide) (b := 32) (by decide)
 have b17 := b16.mid (v := [48]) (by decide) (by decide)
 exact b17.told
def aR1 : Raw := ⟨[1, 0], [2, 2], 1, []⟩
def aR2 : Raw := ⟨[0, 1], [2, 2], 0, []⟩
def aF : Fil := ⟨[116], 9, [2, 2], [aR1, aR2]⟩
theorem aT_read : pread (enOf aT (-1)) (eeOf (-1)) aL = .file aF := by kernel_rfl
theorem aF_ok : OkFile aF where
 name := ⟨by decide, fun q hq => by
  have : q = 0 := by simp [aF] at hq; exact hq
  subst this; decide⟩
 nlen := by decide
 k1 := by decide
 k2 := by decide
 s0 := by decide
 s1 := fun v hv => by simp [aF] at hv; omega
 s2 := by decide
 n := by decide
 fs := fun x hx => by
  have hx' : x = aR1 ∨ x = aR2 := by simpa [aF] using hx
  rcases hx' with rfl | rfl
  ·refine ⟨⟨by decide, fun k hk => by simp [aR1] at hk; omega, by decide, by decide, by decide, fun l hl => by simp [aR1] at hl, by decide, by decide⟩, ⟨fun v hv => ?_, by decide, by decide⟩, by decide⟩
   simp [aR1] at hv
   have : (aF.sizes.length : Int) = 2 := rfl
   omega
  ·refine ⟨⟨by decide, fun k hk => by simp [aR2] at hk; omega, by decide, by decide, by decide, fun l hl => by simp [aR2] at hl, by decide, by decide⟩, ⟨fun v hv => ?_, by decide, by decide⟩, by decide⟩
   simp [aR2] at hv
   have : (aF.sizes.length : Int) = 2 := rfl
   omega
theorem rise01 : rise [0, 1] = [0, 1] := rise_id (by simp)
theorem rise10 : rise [1, 0] = [0, 1] := rising_uniq (rise_lt (by decide)) (by simp) ((rise_perm _).trans (List.Perm.swap 0 1 []))
theorem aTurn1 : turnF [2, 2] 9 aR1 = ⟨[0, 1], [2, 2], [1, 1, 1, 1]⟩ := by
 unfold turnF
 rw [show aR1.scope = [1, 0] from rfl, rise10]
 kernel_rfl
theorem aTurn2 : turnF [2, 2] 9 aR2 = ⟨[0, 1], [2, 2], [0, 0, 0, 0]⟩ := by
 unfold turnF
 rw [show aR2.scope = [0, 1] from rfl, rise01]
 kernel_rfl
theorem aCanon : canonL [2, 2] 9 [aR1, aR2] = [⟨[0, 1], [2, 2], [1, 1, 1, 1]⟩] := by
 have hj : joined [2, 2] 9 [aR1, aR2] = [⟨[0, 1], [2, 2], [1, 1, 1, 1]⟩] := by
  unfold joined
  rw [List.foldl_cons, List.foldl_cons, List.foldl_nil, aTurn1, aTurn2]
  kernel_rfl
 unfold canonL
 rw [hj]
 have hf : ([⟨[0, 1], [2, 2], [1, 1, 1, 1]⟩] : List CF).filter (fun g => !isNothing g) = [⟨[0, 1], [2, 2], [1, 1, 1, 1]⟩] := by kernel_rfl
 rw [hf, List.mergeSort_singleton]
set_option maxRecDepth 100000 in
set_option maxHeartbeats 4000000 in
theorem awake8_any (w : World) (ht : Tab w) : Calls Tryz.prog 8 #[] w fun e w' => e = .returned (.bool true) ∧ Below w.heap.size w w' := by
 have kc := fun (w : World) (C : Array Value) (n c : Nat) => Lib.run_convert_bytes_const (P := Tryz.prog) w 22 5 C n c Tryz.underlying22 Tryz.underlying5
 have hl : Reads (w.alloc (.cells (bv aT).toArray 5 (33, 34))) (w.alloc (.cells (bv aT).toArray 5 (33, 34))).heap.size 1 (some ⟨w.heap.size, 0, none⟩) 33 (bv aT) := by
  refine ⟨rfl, fun _ => ⟨_, rfl, by simp, fun j u hu => ?_⟩⟩
  have e : (Addr.add ⟨w.heap.size, 0, none⟩ j) = ⟨w.heap.size, j, none⟩ := by unfold Addr.add; split <;> simp_all
  rw [e, World.cell?_alloc_mark]
  simpa using hu
 have hbl := bone w (.cells (bv aT).toArray 5 (33, 34))
 have hrd := read_any (some ⟨w.heap.size, 0, none⟩) 33 33 aT (-1) aL _ rfl hl (by omega) aT_told (ht.below hbl)
 have HBL := Lib.hid hbl
 clear hl hbl ht
 go_enter Tryz.func8, Tryz.ntmps8
 go_wp2_with fail
 refine hrd.mono ?_
 rintro e w1 ⟨hb1, hm⟩
 rw [aT_read] at hm
 obtain ⟨g, rfl, hf⟩ := hm
 obtain ⟨hg, SA, sc, FA, fc, V, hfw⟩ := hf.filw
 have HB1 := Lib.hid (bto HBL.out hb1)
 have hcn := canon_any hfw aF_ok (by decide)
 clear hrd hb1 hf hfw kc
 go_wp2_with fail
 refine hcn.mono ?_
 rintro e w2 ⟨g2, SA2, sc2, FA2, fc2, V2, rfl, hg2, hfw2, hb2⟩
 clear hcn
 have hV2 : V2.map (·.2.2.2) = [rawC ⟨[0, 1], [2, 2], [1, 1, 1, 1]⟩] := by rw [hfw2.1]; show (canonL [2, 2] 9 [aR1, aR2]).map rawC = _; rw [aCanon]; rfl
 have hl1 : V2.length = 1 := by have := congrArg List.length hV2; simpa using this
 obtain ⟨p, hp⟩ := List.length_eq_one_iff.1 hl1
 subst hp
 obtain ⟨-, hblk, -, hrow, hfs⟩ := hfw2
 obtain ⟨q0, q1, q2, q3, -⟩ := Blk.four (t := 34) hblk
 obtain ⟨v1, tg, ev, ⟨⟨A1, c1, e1⟩, hr1⟩, -⟩ := hfs p (by simp)
 obtain ⟨pv, lo, hi, pf⟩ := p
 dsimp only at ev e1 hr1 hV2
 simp only [List.map_cons, List.map_nil, List.cons.injEq, and_true] at hV2
 subst hV2
 subst e1
 subst ev
 obtain ⟨fq, rfl, -, -⟩ := own_some hrow (by simp)
 have d0 := (hrow.cellAt 0 (by simp)).trans (show (fcells _)[0]? = some _ from rfl)
 rw [show (rawC ⟨[0, 1], [2, 2], [1, 1, 1, 1]⟩).scope.length = 2 from rfl, show (rawC ⟨[0, 1], [2, 2], [1, 1, 1, 1]⟩).scope = [0, 1] from rfl] at hr1
 rw [show (rawC ⟨[0, 1], [2, 2], [1, 1, 1, 1]⟩).scope.length = 2 from rfl] at d0
 obtain ⟨w3, hw3⟩ : ∃ w3, w2.alloc (.cells #[.int .i64 0, .int .i64 1] 3) = w3 := ⟨_, rfl⟩
 have hb3 : Below w2.heap.size w2 w3 := by rw [← hw3]; exact bone w2 _
 have hr3 : Reads w3 w3.heap.size 1 (some ⟨w2.heap.size, 0, none⟩) 2 (nums [0, 1]) := by rw [← hw3]; exact reads_block (t := 3) (heap_alloc_new _ _) rfl
 have heq := equalI_any A1 (some ⟨w2.heap.size, 0, none⟩) 2 2 c1 2 [0, 1] [0, 1] w3 (by omega) (by omega) (Reads.of_own (own_under hr1 hb3)) hr3
 rw [show eqB [0, 1] [0, 1] = true by decide] at heq
 have HB3 := Lib.hid (bto (bto HB1.out hb2) hb3)
 clear hblk hrow hfs hr1 hb2 hb3 hr3
 go_wp2_with fail
 try rw [hw3]
 clear hw3
 go_wp2_with fail
 refine heq.mono ?_
 rintro e w4 ⟨rfl, hb4⟩
 clear heq
 go_wp2_with fail
 go_ret
 exact ⟨rfl, bto HB3.out hb4⟩
end Go.Proofs.YtjpkkkphhaajgaaGreatDoor.wcp
