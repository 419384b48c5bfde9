/- SortedCore. -/
import Derived.Test.YtjpkkkphhaajgaaGreatDoorQpP40
import Derived.Test.YtjpkkkphhaajgaaGreatDoorQpP22
import Derived.Test.YtjpkkkphhaajgaaGreatDoorQpIsSortedI
import Derived.Test.YtjpkkkphhaajgaaGreatDoorQpP13
import Derived.Test.YtjpkkkphhaajgaaGreatDoorQpP15
set_option linter.all false
/- PlainSorted, walked. -/
namespace Go.Proofs.YtjpkkkphhaajgaaGreatDoor.wcp
open Go Go.RowKit Go.Shelf Go.ChangeShapes Go.WideShapes Go.ChangeAt Go.Maps Go.Proofs.YtjpkkkphhaajgaaGreatDoor.words Go.Proofs.YtjpkkkphhaajgaaGreatDoor.scn
/-- a canonical function that says only noughts is nothing -/
theorem canon_some {zs : List Int} {K : Int} {g : CF} (h : GoodC zs K g) (hs : isNothing g = false) (h0 : linesC g = []) : mostL g.C ≠ 0 := by
 intro hm
 have hall : ∀ c ∈ g.C, c = 0 := fun c hc => by
  by_cases e : c = mostL g.C
  ·rw [e]; exact hm
  ·exfalso
   obtain ⟨i, hi⟩ := List.getElem?_of_mem hc
   obtain ⟨f, e1, -⟩ := h.tab
   have hl : i < (shp.allI g.sizes).length := by
    have := (List.getElem?_eq_some_iff.1 hi).1
    rw [e1] at this; unfold tabF at this; rwa [List.length_map] at this
   have hz : ((shp.allI g.sizes).zip g.C)[i]? = some ((shp.allI g.sizes)[i]'hl, c) := List.getElem?_zip_eq_some.2 ⟨List.getElem?_eq_getElem hl, hi⟩
   have : ((shp.allI g.sizes)[i]'hl, c) ∈ linesC g := lines_mem.2 ⟨List.mem_of_getElem? hz, e⟩
   rw [h0] at this
   cases this
 have : isNothing g = true := by
  unfold isNothing
  rw [List.all_eq_true]
  intro c hc
  rw [hall c hc]; decide
 rw [this] at hs; cases hs
theorem canon_other {zs : List Int} {K : Int} {g : CF} (h : GoodC zs K g) (hs : isNothing g = false) (h0 : linesC g = []) : (tpOf (rawC g) K (linesC g)).other ≠ 0 := by
 have hm := canon_some h hs h0
 have hi := most_in h
 unfold inB at hi
 rw [decide_eq_true_eq] at hi
 rw [(tpOf_same _ _ _).2.2]
 show min (mostL g.C) K ≠ 0
 omega
theorem fold_far : ∀ (ps : List (List Int × Int)) (T : TpH) (t : List Int), t ∉ ps.map (·.1) → (ps.foldl putP T).f t = T.f t := by
 intro ps
 induction ps with
 | nil => intro T t _; rfl
 | cons p ps ih =>
   intro T t ht
   have h1 : t ≠ p.1 := fun e => ht (by simp [e])
   rw [List.foldl_cons, ih _ _ fun h => ht (by simp at h ⊢; exact .inr h)]
   unfold putP putF
   by_cases hc : p.2 = T.other
   ·rw [if_pos hc]; show (if t = p.1 then none else T.f t) = _; rw [if_neg h1]
   ·rw [if_neg hc]; show (if t = p.1 then some p.2 else T.f t) = _; rw [if_neg h1]
theorem told_canon {zs : List Int} {K : Int} {g : CF} (h : GoodC zs K g) (hne : linesC g ≠ []) : ∃ t, Tpl_ (tpOf (rawC g) K (linesC g)).sizes.length t ∧ ((tpOf (rawC g) K (linesC g)).f t).isSome = true := by
 have e : tpOf (rawC g) K (linesC g) = (linesC g).foldl putP ⟨g.sizes, K, mostL g.C, fun _ => none⟩ := by
  rw [← of_tp h, fold_put _ _ (mostL g.C) rfl (by rw [zip_all h]; exact all_nodup h.szs) (fun _ _ => rfl)]; rfl
 obtain ⟨p, ps, hp⟩ := List.exists_cons_of_ne_nil hne
 have hmem : p ∈ linesC g := by rw [hp]; simp
 have hnd : ((linesC g).map (·.1)).Nodup := by
  have h1 : ((shp.allI g.sizes).zip g.C).map (·.1) = shp.allI g.sizes := zip_all h
  have h2 : ((linesC g).map (·.1)).Sublist (shp.allI g.sizes) := by
   rw [← h1]; unfold linesC; exact (List.filter_sublist).map _
  exact (all_nodup h.szs).sublist h2
 have hz := lines_mem.1 hmem
 have hin : InS g.sizes p.1 := (mem_all fun z hz => (h.szs.2 z hz).1).1 (List.of_mem_zip hz.1).1
 refine ⟨p.1, ?_, ?_⟩
 ·rw [(tpOf_same _ _ _).1]
  exact hin.tpl h.szs.1 h.szs.2
 ·rw [e, hp, List.foldl_cons, fold_far]
  ·unfold putP putF
   rw [if_neg hz.2]
   show (if p.1 = p.1 then some p.2 else _).isSome = true
   rw [if_pos rfl]; rfl
  ·rw [hp] at hnd
   exact (List.nodup_cons.1 (by simpa using hnd : (p.1 :: ps.map (·.1)).Nodup)).1
set_option maxRecDepth 100000 in
set_option maxHeartbeats 16000000 in
theorem sorted_core (A : Option Addr) (n cap : Nat) (xs : List UInt8) (w : World) (hn : n ≤ 9223372036854775807) (hnc : n ≤ cap) (hr : Reads w w.heap.size 1 A n (bv xs)) (ht : Tab w) :
 Calls Tryz.prog 3 #[.slice A n cap] w fun e w' => e = .returned (.bool true) ∧ Below w.heap.size w w' := by
 have haw := awake8_any w ht
 have HT := Lib.hid ht
 have HR := Lib.hid hr
 clear ht hr
 go_enter Tryz.func3, Tryz.ntmps3
 go_wp2_with fail
 refine haw.mono ?_
 rintro e w1 ⟨rfl, hb1⟩
 have hrd := read8_any A n cap xs w1 hn hnc ((HR.out.below hb1).more hb1.size) (HT.out.below hb1)
 have HB1 := Lib.hid hb1
 clear haw hb1
 go_wp2_with fail
 refine hrd.mono ?_
 rintro e w2 ⟨hb2, hm⟩
 have HB2 := Lib.hid (bto HB1.out hb2)
 clear hrd hb2
 rcases hm with rfl | ⟨gf, gx, f, SA, sc, FA, fc, V, rfl, hok, hli, hfw, hgf⟩
 ·go_wp2_with fail
  go_ret
  exact ⟨rfl, HB2.out⟩
 ·have hcn := canon_any hfw hok hli
  have HOK := Lib.hid hok
  clear hok hli hfw hgf
  go_wp2_with fail
  refine hcn.mono ?_
  rintro e w3 ⟨g2, SA2, sc2, FA2, fc2, V2, rfl, hg2, hfw, hb3⟩
  clear hcn
  have hcp := canonL_p (zs := f.sizes) (K := f.k) (fs := f.funs) HOK.out.fs
  have hVm : V2.map (·.2.2.2) = (canonL f.sizes f.k f.funs).map rawC := hfw.1
  have hV256 : V2.length ≤ 256 := by
   have h1 := congrArg List.length hVm
   rw [List.length_map, List.length_map] at h1
   have := canonL_len f.sizes f.k f.funs
   have := HOK.out.n
   omega
  have HF := Lib.hid hfw
  have HCP := Lib.hid hcp
  have HVM := Lib.hid hVm
  have HB3 := Lib.hid (bto HB2.out hb3)
  obtain ⟨q0, q1, q2, q3, -⟩ := Blk.four (t := 34) hfw.2.1
  obtain ⟨nv, hnv⟩ : ∃ nv, V2.length = nv := ⟨_, rfl⟩
  have HNV := Lib.hid hnv
  rw [hnv] at q3 hV256
  clear hfw hcp hVm hb3 hnv hg2
  go_wp2_with fail
  go_loopw [7, 8, 9, 33] (fun _ _ _ jv wr => ∃ j : Nat, jv = .int .i64 j ∧ j ≤ nv ∧ Below w3.heap.size w3 wr) (fun _ _ _ jv _ => nv - (intOf jv).toNat)
  case atStart => exact ⟨0, rfl, Nat.zero_le _, Below.refl _ _⟩
  case round =>
   clear q0 q1 q2 q3
   obtain ⟨j, rfl, hj, hB⟩ := hrel
   by_cases hlt : j < nv
   ·have hfw := HF.out.below hB
    obtain ⟨p, hp⟩ : ∃ p, V2[j]? = some p := ⟨_, List.getElem?_eq_getElem (by rw [HNV.out]; exact hlt)⟩
    have hpm := List.mem_of_getElem? hp
    have h2 : ∀ p ∈ V2, ∃ a b, p.1 = .agg #[a, b] := fun p hp => by
     obtain ⟨v1, tg, e, _⟩ := hfw.2.2.2.2 p hp
     exact ⟨_, _, e⟩
    have hyr : ((canonL f.sizes f.k f.funs).map rawC)[j]? = some p.2.2.2 := by rw [← HVM.out, List.getElem?_map, hp]; rfl
    rw [List.getElem?_map] at hyr
    obtain ⟨y, hy, hyp⟩ := Option.map_eq_some_iff.1 hyr
    have hym := List.mem_of_getElem? hy
    have hgy := HCP.out.good y hym
    have hsy := HCP.out.some y hym
    obtain ⟨v1, tg, ev, ⟨⟨A1, c1, e1⟩, hr1⟩, -, htp⟩ := hfw.2.2.2.2 p hpm
    obtain ⟨pv, lo, hi, pf⟩ := p
    dsimp only at ev e1 hr1 hyp htp
    subst hyp
    subst e1
    subst ev
    have hrow := hfw.2.2.2.1
    rw [HNV.out] at hrow
    obtain ⟨fq, hfq, -, -⟩ := own_some hrow (by omega)
    subst hfq
    obtain ⟨c0, c1'⟩ := fc_at h2 hp
    have d0 := (hrow.cellAt (j * 2) (by omega)).trans c0
    have d1 := (hrow.cellAt (j * 2 + 1) (by omega)).trans c1'
    have q3 := (Blk.four (t := 34) hfw.2.1).2.2.2.1
    rw [HNV.out] at q3
    rw [show (rawC y).scope = y.scope from rfl] at hr1 d0
    obtain ⟨ny, hny⟩ : ∃ ny, y.scope.length = ny := ⟨_, rfl⟩
    have hny6 : ny ≤ 6 := by rw [← hny]; exact (good_sc hgy).2
    rw [hny] at hr1 d0
    rw [show (rawC y).lines = linesC y from rfl, show (canonF f).k = f.k from rfl] at htp
    obtain ⟨w4, hw4⟩ : ∃ w4, wr.alloc (.cells #[.slice A1 ny c1, .pointer (some ⟨tg, 0, none⟩)] 37) = w4 := ⟨_, rfl⟩
    have hB4 : Below wr.heap.size wr w4 := by rw [← hw4]; exact bone wr _
    have hbx : Blk w4 wr.heap.size 37 #[.slice A1 ny c1, .pointer (some ⟨tg, 0, none⟩)] := by rw [← hw4]; exact Blk.new _ _ _
    have i0 : (0 : Int) ≤ (j : Int) := Int.natCast_nonneg _
    have i1 : (j : Int) < (nv : Int) := by omega
    have HFW := Lib.hid hfw
    have HP := Lib.hid hp
    have HY := Lib.hid hy
    have HGY := Lib.hid hgy
    have HSY := Lib.hid hsy
    have HR1 := Lib.hid hr1
    have HTP := Lib.hid htp
    have HB4 := Lib.hid hB4
    have HBX := Lib.hid hbx
    have HNY := Lib.hid hny
    have HBR := Lib.hid hB
    have H2 := Lib.hid h2
    clear hfw hp hpm h2 hyr hy hym hgy hsy hr1 htp hrow c0 c1' hB4 hbx hny hB
    go_upto_region 12 with fail
    try rw [hw4]
    clear hw4
    go_upto_region 12 with fail
    have hne : ((ny : Int) != (ny : Int)) = false := by simp
    have hb4d : Below wr.heap.size wr w4.drew := HB4.out.drew
    obtain ⟨w4d, hw4d⟩ : ∃ w4d, w4.drew = w4d := ⟨_, rfl⟩
    rw [hw4d] at hb4d
    have HB4D := Lib.hid hb4d
    have HX4 : Hid (Blk w4d wr.heap.size 37 #[.slice A1 ny c1, .pointer (some ⟨tg, 0, none⟩)]) := by rw [Hid, ← hw4d]; exact HBX.out
    clear hb4d
    go_cut [64] from 38 to 64 (fun v wq => v = .bool false ∧ (Below wr.heap.size wr wq ∧ Blk wq wr.heap.size 37 #[.slice A1 ny c1, .pointer (some ⟨tg, 0, none⟩)]))
    case first =>
     refine wp_region_held_drew (S := (fun W => W.cell? ⟨wr.heap.size, 0, none⟩ = some (.slice A1 ny c1) ∧ W.cell? ⟨wr.heap.size, 1, none⟩ = some (.pointer (some ⟨tg, 0, none⟩)))) (by kernel_rfl) (by rw [hw4d]; exact HX4.out.two) (fun hHeld => ?_)
     rw [hw4d] at hHeld ⊢
     clear hw4d
     refine wpAnyH_take (i := 0) (oi := { dst := some 38, op := Op.fieldAddr 37 (Operand.tmp 8) 0, type := 0, pos := "law.go:195", after := #[], guard := none }) (v := ?va0) rfl (by kernel_rfl) (by kernel_rfl) (by kernel_rfl) (fun _ _ _ h => h) (Or.inl ⟨by kernel_rfl, ?hya0⟩) hHeld ?resta0
     case hya0 => (intro w hSw; (try dsimp only at hSw); go_simp; try with_reducible rfl)
     try simp only [Act.put, List.setIfInBounds_toArray, List.set_cons_zero, List.set_cons_succ]
     refine wpAnyH_take (i := 1) (oi := { dst := some 39, op := Op.load 31 (Operand.tmp 38), type := 31, pos := "law.go:195", after := #[{ on := 0, ground := Ground.data }], guard := none }) (v := ?va1) rfl (by kernel_rfl) (by kernel_rfl) (by kernel_rfl) (fun _ _ _ h => h) (Or.inl ⟨by kernel_rfl, ?hya1⟩) hHeld ?resta1
     case hya1 => (intro w hSw; (try dsimp only at hSw); go_simp; try with_reducible rfl)
     try simp only [Act.put, List.setIfInBounds_toArray, List.set_cons_zero, List.set_cons_succ]
     refine wpAnyH_ready (rs := [2]) (by kernel_rfl) (by simp) ?_
     refine AllReadyH.cons rfl (fun Kc hKc => ?_) AllReadyH.nil
     go_simp
     refine (issortedI_any A1 ny c1 y.scope w4d (by omega) (Reads.of_own (own_under HR1.out HB4D.out)) (HGY.out.rise.imp fun h => Int.le_of_lt h)).mono ?_
     rintro e wa ⟨rfl, hba⟩
     dsimp only
     have HBA := Lib.hid (bto HB4D.out hba)
     have HXA := Lib.hid (HX4.out.under hba)
     refine hKc.out _ _ HXA.out.two (fun hHa => ?_)
     clear hKc Kc hba
     refine wpAnyH_take (i := 3) (oi := { dst := some 41, op := Op.unOp UnOp.not 4 (Operand.tmp 40), type := 4, pos := "law.go:195", after := #[{ on := 2, ground := Ground.data }], guard := none }) (v := ?vb3) rfl (by kernel_rfl) (by kernel_rfl) (by kernel_rfl) (fun _ _ _ h => h) (Or.inl ⟨by kernel_rfl, ?hyb3⟩) hHa ?restb3
     case hyb3 => (intro w hSw; (try dsimp only at hSw); go_simp; try with_reducible rfl)
     try simp only [Act.put, List.setIfInBounds_toArray, List.set_cons_zero, List.set_cons_succ]
     refine wpAnyH_take (i := 4) (oi := { dst := some 42, op := Op.move (Operand.tmp 41), type := 4, pos := "law.go:195", after := #[{ on := 3, ground := Ground.data }, { on := 2, ground := Ground.chain }], guard := none }) (v := ?vb4) rfl (by kernel_rfl) (by kernel_rfl) (by kernel_rfl) (fun _ _ _ h => h) (Or.inl ⟨by kernel_rfl, ?hyb4⟩) hHa ?restb4
     case hyb4 => (intro w hSw; (try dsimp only at hSw); go_simp; try with_reducible rfl)
     try simp only [Act.put, List.setIfInBounds_toArray, List.set_cons_zero, List.set_cons_succ]
     refine wpAnyH_take (i := 5) (oi := { dst := some 43, op := Op.fieldAddr 37 (Operand.tmp 8) 0, type := 0, pos := "law.go:195", after := #[{ on := 4, ground := Ground.guard }], guard := some (4, false) }) (v := ?vb5) rfl (by kernel_rfl) (by kernel_rfl) (by kernel_rfl) (fun _ _ _ h => h) (Or.inl ⟨by kernel_rfl, ?hyb5⟩) hHa ?restb5
     case hyb5 => (intro w hSw; (try dsimp only at hSw); go_simp; try with_reducible rfl)
     try simp only [Act.put, List.setIfInBounds_toArray, List.set_cons_zero, List.set_cons_succ]
     refine wpAnyH_take (i := 6) (oi := { dst := some 44, op := Op.load 31 (Operand.tmp 43), type := 31, pos := "law.go:195", after := #[{ on := 5, ground := Ground.data }, { on := 4, ground := Ground.guard }], guard := some (4, false) }) (v := ?vb6) rfl (by kernel_rfl) (by kernel_rfl) (by kernel_rfl) (fun _ _ _ h => h) (Or.inl ⟨by kernel_rfl, ?hyb6⟩) hHa ?restb6
     case hyb6 => (intro w hSw; (try dsimp only at hSw); go_simp; try with_reducible rfl)
     try simp only [Act.put, List.setIfInBounds_toArray, List.set_cons_zero, List.set_cons_succ]
     refine wpAnyH_take (i := 10) (oi := { dst := some 48, op := Op.fieldAddr 37 (Operand.tmp 8) 0, type := 0, pos := "law.go:195", after := #[{ on := 4, ground := Ground.guard }], guard := some (4, false) }) (v := ?vb10) rfl (by kernel_rfl) (by kernel_rfl) (by kernel_rfl) (fun _ _ _ h => h) (Or.inl ⟨by kernel_rfl, ?hyb10⟩) hHa ?restb10
     case hyb10 => (intro w hSw; (try dsimp only at hSw); go_simp; try with_reducible rfl)
     try simp only [Act.put, List.setIfInBounds_toArray, List.set_cons_zero, List.set_cons_succ]
     refine wpAnyH_take (i := 11) (oi := { dst := some 49, op := Op.load 31 (Operand.tmp 48), type := 31, pos := "law.go:195", after := #[{ on := 10, ground := Ground.data }, { on := 4, ground := Ground.guard }], guard := some (4, false) }) (v := ?vb11) rfl (by kernel_rfl) (by kernel_rfl) (by kernel_rfl) (fun _ _ _ h => h) (Or.inl ⟨by kernel_rfl, ?hyb11⟩) hHa ?restb11
     case hyb11 => (intro w hSw; (try dsimp only at hSw); go_simp; try with_reducible rfl)
     try simp only [Act.put, List.setIfInBounds_toArray, List.set_cons_zero, List.set_cons_succ]
     refine wpAnyH_take (i := 12) (oi := { dst := some 50, op := Op.call { callee := Callee.builtin Builtin.len, args := #[Operand.tmp 49], argTypes := #[31] }, type := 3, pos := "law.go:195", after := #[{ on := 11, ground := Ground.data }, { on := 4, ground := Ground.guard }], guard := some (4, false) }) (v := ?vb12) rfl (by kernel_rfl) (by kernel_rfl) (by kernel_rfl) (fun _ _ _ h => h) (Or.inl ⟨by kernel_rfl, ?hyb12⟩) hHa ?restb12
     case hyb12 => (intro w hSw; (try dsimp only at hSw); go_simp; try with_reducible rfl)
     try simp only [Act.put, List.setIfInBounds_toArray, List.set_cons_zero, List.set_cons_succ]
     refine wpAnyH_ready (rs := [7]) (by kernel_rfl) (by simp) ?_
     refine AllReadyH.cons rfl (fun Kc hKc => ?_) AllReadyH.nil
     go_simp
     refine (clone_any A1 ny c1 y.scope wa (by omega) (Reads.of_own (own_under HR1.out HBA.out))).mono ?_
     rintro e wb ⟨Ac, cc, rfl, hoc, hbb⟩
     rw [HNY.out] at hoc ⊢
     dsimp only
     have HBB := Lib.hid (bto HBA.out hbb)
     have HXB := Lib.hid (HXA.out.under hbb)
     have HOC := Lib.hid hoc
     refine hKc.out _ _ HXB.out.two (fun hHb => ?_)
     clear hKc Kc hbb hoc
     refine wpAnyH_ready (rs := [8]) (by kernel_rfl) (by simp) ?_
     refine AllReadyH.cons rfl (fun Kc hKc => ?_) AllReadyH.nil
     go_simp
     have hcpt := compactI_any HOC.out (by omega)
     rw [compact_rise HGY.out.rise, HNY.out] at hcpt
     refine hcpt.mono ?_
     rintro e wc ⟨rfl, -, hTc⟩
     dsimp only
     have HBC : Hid (Below wr.heap.size wr wc) := HBB.out.trans (hTc.below HBB.out.size fun i hi h => by have z1 := (own_in HOC.out h).1; have z2 := HBA.out.size; omega)
     have HXC : Hid (Blk wc wr.heap.size 37 #[.slice A1 ny c1, .pointer (some ⟨tg, 0, none⟩)]) := hTc.blk HXB.out fun h => own_blk_ne HOC.out HXB.out (by decide) h
     refine hKc.out _ _ HXC.out.two (fun hHc => ?_)
     clear hKc Kc hTc hcpt
     refine wpAnyH_take (i := 9) (oi := { dst := some 47, op := Op.call { callee := Callee.builtin Builtin.len, args := #[Operand.tmp 46], argTypes := #[31] }, type := 3, pos := "law.go:195", after := #[{ on := 8, ground := Ground.data }, { on := 4, ground := Ground.guard }], guard := some (4, false) }) (v := ?vc9) rfl (by kernel_rfl) (by kernel_rfl) (by kernel_rfl) (fun _ _ _ h => h) (Or.inl ⟨by kernel_rfl, ?hyc9⟩) hHc ?restc9
     case hyc9 => (intro w hSw; (try dsimp only at hSw); go_simp; try with_reducible rfl)
     try simp only [Act.put, List.setIfInBounds_toArray, List.set_cons_zero, List.set_cons_succ]
     refine wpAnyH_take (i := 13) (oi := { dst := some 51, op := Op.binOp BinOp.neq 3 (Operand.tmp 47) (Operand.tmp 50) 3, type := 4, pos := "law.go:195", after := #[{ on := 9, ground := Ground.data }, { on := 12, ground := Ground.data }, { on := 4, ground := Ground.guard }], guard := some (4, false) }) (v := ?vc13) rfl (by kernel_rfl) (by kernel_rfl) (by kernel_rfl) (fun _ _ _ h => h) (Or.inl ⟨by kernel_rfl, ?hyc13⟩) hHc ?restc13
     case hyc13 => (intro w hSw; (try dsimp only at hSw); go_simp; try with_reducible rfl)
     try simp only [Act.put, List.setIfInBounds_toArray, List.set_cons_zero, List.set_cons_succ]
     refine wpAnyH_take (i := 14) (oi := { dst := some 52, op := Op.pick (Operand.tmp 42) (Operand.const (Value.bool true)) (Operand.tmp 51), type := 4, pos := "law.go:195", after := #[{ on := 4, ground := Ground.data }, { on := 13, ground := Ground.data }], guard := none }) (v := ?vc14) rfl (by kernel_rfl) (by kernel_rfl) (by kernel_rfl) (fun _ _ _ h => h) (Or.inl ⟨by kernel_rfl, ?hyc14⟩) hHc ?restc14
     case hyc14 => (intro w hSw; (try dsimp only at hSw); go_simp; try with_reducible rfl)
     try simp only [Act.put, List.setIfInBounds_toArray, List.set_cons_zero, List.set_cons_succ]
     refine wpAnyH_take (i := 15) (oi := { dst := some 53, op := Op.move (Operand.tmp 52), type := 4, pos := "law.go:195", after := #[{ on := 14, ground := Ground.data }, { on := 8, ground := Ground.chain }], guard := none }) (v := ?vc15) rfl (by kernel_rfl) (by kernel_rfl) (by kernel_rfl) (fun _ _ _ h => h) (Or.inl ⟨by kernel_rfl, ?hyc15⟩) hHc ?restc15
     case hyc15 => (intro w hSw; (try dsimp only at hSw); go_simp; try with_reducible rfl)
     try simp only [Act.put, List.setIfInBounds_toArray, List.set_cons_zero, List.set_cons_succ]
     refine wpAnyH_take (i := 16) (oi := { dst := some 54, op := Op.fieldAddr 37 (Operand.tmp 8) 1, type := 0, pos := "law.go:195", after := #[{ on := 15, ground := Ground.guard }], guard := some (15, false) }) (v := ?vc16) rfl (by kernel_rfl) (by kernel_rfl) (by kernel_rfl) (fun _ _ _ h => h) (Or.inl ⟨by kernel_rfl, ?hyc16⟩) hHc ?restc16
     case hyc16 => (intro w hSw; (try dsimp only at hSw); go_simp; try with_reducible rfl)
     try simp only [Act.put, List.setIfInBounds_toArray, List.set_cons_zero, List.set_cons_succ]
     refine wpAnyH_take (i := 17) (oi := { dst := some 55, op := Op.load 35 (Operand.tmp 54), type := 35, pos := "law.go:195", after := #[{ on := 16, ground := Ground.data }, { on := 15, ground := Ground.guard }], guard := some (15, false) }) (v := ?vc17) rfl (by kernel_rfl) (by kernel_rfl) (by kernel_rfl) (fun _ _ _ h => h) (Or.inl ⟨by kernel_rfl, ?hyc17⟩) hHc ?restc17
     case hyc17 => (intro w hSw; (try dsimp only at hSw); go_simp; try with_reducible rfl)
     try simp only [Act.put, List.setIfInBounds_toArray, List.set_cons_zero, List.set_cons_succ]
     refine wpAnyH_ready (rs := [18]) (by kernel_rfl) (by simp) ?_
     refine AllReadyH.cons rfl (fun Kc hKc => ?_) AllReadyH.nil
     go_simp
     refine (tlenL_any (HTP.out.off (S := fun _ => False) (Tch.of_below HBC.out _) fun _ h => h.elim)).mono ?_
     rintro e wd ⟨⟨L, hLn, hLm, -, rfl⟩, rfl⟩
     dsimp only
     refine hKc.out _ _ HXC.out.two (fun hHd => ?_)
     clear hKc Kc
     obtain ⟨ml, hml⟩ : ∃ ml, L.length = ml := ⟨_, rfl⟩
     rw [hml]
     by_cases hm0 : ml = 0
     ·have e0 : ((ml : Int) == 0) = true := by simp [hm0]
      have hl0 : linesC y = [] := by
       by_cases hne : linesC y = []
       ·exact hne
       ·obtain ⟨t, h1, h2⟩ := told_canon HGY.out hne
        have := List.length_pos_of_mem ((hLm t).2 ⟨h1, h2⟩)
        omega
      have hoz := canon_other HGY.out HSY.out hl0
      obtain ⟨oo, hoo⟩ : ∃ oo, (tpOf (rawC y) f.k (linesC y)).other = oo := ⟨_, rfl⟩
      have hoth := tother_any (HTP.out.off (S := fun _ => False) (Tch.of_below HBC.out _) fun _ h => h.elim)
      rw [hoo] at hoz hoth
      have e1 : (oo == 0) = false := by simp [hoz]
      clear hm0 hml hLm hLn hl0 hoo hoz
      refine wpAnyH_take (i := 19) (oi := { dst := some 57, op := Op.binOp BinOp.eql 3 (Operand.tmp 56) (Operand.const (Value.int IntKind.i64 0)) 3, type := 4, pos := "law.go:195", after := #[{ on := 18, ground := Ground.data }, { on := 15, ground := Ground.guard }], guard := some (15, false) }) (v := ?vd19) rfl (by kernel_rfl) (by kernel_rfl) (by kernel_rfl) (fun _ _ _ h => h) (Or.inl ⟨by kernel_rfl, ?hyd19⟩) hHd ?restd19
      case hyd19 => (intro w hSw; (try dsimp only at hSw); go_simp; try with_reducible rfl)
      try simp only [Act.put, List.setIfInBounds_toArray, List.set_cons_zero, List.set_cons_succ]
      refine wpAnyH_take (i := 20) (oi := { dst := some 58, op := Op.move (Operand.tmp 57), type := 4, pos := "law.go:195", after := #[{ on := 19, ground := Ground.data }, { on := 18, ground := Ground.chain }, { on := 15, ground := Ground.guard }], guard := some (15, false) }) (v := ?vd20) rfl (by kernel_rfl) (by kernel_rfl) (by kernel_rfl) (fun _ _ _ h => h) (Or.inl ⟨by kernel_rfl, ?hyd20⟩) hHd ?restd20
      case hyd20 => (intro w hSw; (try dsimp only at hSw); go_simp; try with_reducible rfl)
      try simp only [Act.put, List.setIfInBounds_toArray, List.set_cons_zero, List.set_cons_succ]
      refine wpAnyH_take (i := 21) (oi := { dst := some 59, op := Op.fieldAddr 37 (Operand.tmp 8) 1, type := 0, pos := "law.go:195", after := #[{ on := 20, ground := Ground.guard }], guard := some (20, true) }) (v := ?vd21) rfl (by kernel_rfl) (by kernel_rfl) (by kernel_rfl) (fun _ _ _ h => h) (Or.inl ⟨by kernel_rfl, ?hyd21⟩) hHd ?restd21
      case hyd21 => (intro w hSw; (try dsimp only at hSw); go_simp; try with_reducible rfl)
      try simp only [Act.put, List.setIfInBounds_toArray, List.set_cons_zero, List.set_cons_succ]
      refine wpAnyH_take (i := 22) (oi := { dst := some 60, op := Op.load 35 (Operand.tmp 59), type := 35, pos := "law.go:195", after := #[{ on := 21, ground := Ground.data }, { on := 20, ground := Ground.guard }], guard := some (20, true) }) (v := ?vd22) rfl (by kernel_rfl) (by kernel_rfl) (by kernel_rfl) (fun _ _ _ h => h) (Or.inl ⟨by kernel_rfl, ?hyd22⟩) hHd ?restd22
      case hyd22 => (intro w hSw; (try dsimp only at hSw); go_simp; try with_reducible rfl)
      try simp only [Act.put, List.setIfInBounds_toArray, List.set_cons_zero, List.set_cons_succ]
      refine wpAnyH_ready (rs := [23]) (by kernel_rfl) (by simp) ?_
      refine AllReadyH.cons rfl (fun Kc hKc => ?_) AllReadyH.nil
      go_simp
      refine hoth.mono ?_
      rintro e we ⟨rfl, rfl⟩
      dsimp only
      refine hKc.out _ _ HXC.out.two (fun hHe => ?_)
      clear hKc Kc hoth
      refine wpAnyH_take (i := 24) (oi := { dst := some 62, op := Op.binOp BinOp.eql 2 (Operand.tmp 61) (Operand.const (Value.int IntKind.i64 0)) 2, type := 4, pos := "law.go:195", after := #[{ on := 23, ground := Ground.data }, { on := 20, ground := Ground.guard }], guard := some (20, true) }) (v := ?ve24) rfl (by kernel_rfl) (by kernel_rfl) (by kernel_rfl) (fun _ _ _ h => h) (Or.inl ⟨by kernel_rfl, ?hye24⟩) hHe ?reste24
      case hye24 => (intro w hSw; (try dsimp only at hSw); go_simp; try with_reducible rfl)
      try simp only [Act.put, List.setIfInBounds_toArray, List.set_cons_zero, List.set_cons_succ]
      refine wpAnyH_take (i := 25) (oi := { dst := some 63, op := Op.pick (Operand.tmp 58) (Operand.tmp 62) (Operand.const (Value.bool false)), type := 4, pos := "law.go:195", after := #[{ on := 20, ground := Ground.data }, { on := 24, ground := Ground.data }, { on := 15, ground := Ground.guard }], guard := some (15, false) }) (v := ?ve25) rfl (by kernel_rfl) (by kernel_rfl) (by kernel_rfl) (fun _ _ _ h => h) (Or.inl ⟨by kernel_rfl, ?hye25⟩) hHe ?reste25
      case hye25 => (intro w hSw; (try dsimp only at hSw); go_simp; try with_reducible rfl)
      try simp only [Act.put, List.setIfInBounds_toArray, List.set_cons_zero, List.set_cons_succ]
      refine wpAnyH_take (i := 26) (oi := { dst := some 64, op := Op.pick (Operand.tmp 53) (Operand.const (Value.bool true)) (Operand.tmp 63), type := 4, pos := "law.go:195", after := #[{ on := 15, ground := Ground.data }, { on := 25, ground := Ground.data }], guard := none }) (v := ?ve26) rfl (by kernel_rfl) (by kernel_rfl) (by kernel_rfl) (fun _ _ _ h => h) (Or.inl ⟨by kernel_rfl, ?hye26⟩) hHe ?reste26
      case hye26 => (intro w hSw; (try dsimp only at hSw); go_simp; try with_reducible rfl)
      try simp only [Act.put, List.setIfInBounds_toArray, List.set_cons_zero, List.set_cons_succ]
      refine wpAnyH_done (by kernel_rfl) ?_ _
      go_simp
      try go_wp2_with fail
      go_meet
      case rel => exact ⟨rfl, HBC.out, HXC.out⟩
     ·have e0 : ((ml : Int) == 0) = false := by simp [hm0]
      clear hm0 hml hLm hLn
      refine wpAnyH_take (i := 19) (oi := { dst := some 57, op := Op.binOp BinOp.eql 3 (Operand.tmp 56) (Operand.const (Value.int IntKind.i64 0)) 3, type := 4, pos := "law.go:195", after := #[{ on := 18, ground := Ground.data }, { on := 15, ground := Ground.guard }], guard := some (15, false) }) (v := ?vf19) rfl (by kernel_rfl) (by kernel_rfl) (by kernel_rfl) (fun _ _ _ h => h) (Or.inl ⟨by kernel_rfl, ?hyf19⟩) hHd ?restf19
      case hyf19 => (intro w hSw; (try dsimp only at hSw); go_simp; try with_reducible rfl)
      try simp only [Act.put, List.setIfInBounds_toArray, List.set_cons_zero, List.set_cons_succ]
      refine wpAnyH_take (i := 20) (oi := { dst := some 58, op := Op.move (Operand.tmp 57), type := 4, pos := "law.go:195", after := #[{ on := 19, ground := Ground.data }, { on := 18, ground := Ground.chain }, { on := 15, ground := Ground.guard }], guard := some (15, false) }) (v := ?vf20) rfl (by kernel_rfl) (by kernel_rfl) (by kernel_rfl) (fun _ _ _ h => h) (Or.inl ⟨by kernel_rfl, ?hyf20⟩) hHd ?restf20
      case hyf20 => (intro w hSw; (try dsimp only at hSw); go_simp; try with_reducible rfl)
      try simp only [Act.put, List.setIfInBounds_toArray, List.set_cons_zero, List.set_cons_succ]
      refine wpAnyH_take (i := 21) (oi := { dst := some 59, op := Op.fieldAddr 37 (Operand.tmp 8) 1, type := 0, pos := "law.go:195", after := #[{ on := 20, ground := Ground.guard }], guard := some (20, true) }) (v := undef) rfl (by kernel_rfl) (by kernel_rfl) (by kernel_rfl) (fun _ _ _ h => h) (Or.inr ⟨by kernel_rfl, rfl⟩) hHd ?restf21
      try simp only [Act.put, List.setIfInBounds_toArray, List.set_cons_zero, List.set_cons_succ]
      refine wpAnyH_take (i := 22) (oi := { dst := some 60, op := Op.load 35 (Operand.tmp 59), type := 35, pos := "law.go:195", after := #[{ on := 21, ground := Ground.data }, { on := 20, ground := Ground.guard }], guard := some (20, true) }) (v := undef) rfl (by kernel_rfl) (by kernel_rfl) (by kernel_rfl) (fun _ _ _ h => h) (Or.inr ⟨by kernel_rfl, rfl⟩) hHd ?restf22
      try simp only [Act.put, List.setIfInBounds_toArray, List.set_cons_zero, List.set_cons_succ]
      refine wpAnyH_ready (rs := [23]) (by kernel_rfl) (by simp) ?_
      refine AllReadyH.cons rfl (fun Kc hKc => ?_) AllReadyH.nil
      go_simp
      refine hKc.out _ _ HXC.out.two (fun hHe => ?_)
      clear hKc Kc
      refine wpAnyH_take (i := 24) (oi := { dst := some 62, op := Op.binOp BinOp.eql 2 (Operand.tmp 61) (Operand.const (Value.int IntKind.i64 0)) 2, type := 4, pos := "law.go:195", after := #[{ on := 23, ground := Ground.data }, { on := 20, ground := Ground.guard }], guard := some (20, true) }) (v := undef) rfl (by kernel_rfl) (by kernel_rfl) (by kernel_rfl) (fun _ _ _ h => h) (Or.inr ⟨by kernel_rfl, rfl⟩) hHe ?restf24
      try simp only [Act.put, List.setIfInBounds_toArray, List.set_cons_zero, List.set_cons_succ]
      refine wpAnyH_take (i := 25) (oi := { dst := some 63, op := Op.pick (Operand.tmp 58) (Operand.tmp 62) (Operand.const (Value.bool false)), type := 4, pos := "law.go:195", after := #[{ on := 20, ground := Ground.data }, { on := 24, ground := Ground.data }, { on := 15, ground := Ground.guard }], guard := some (15, false) }) (v := ?vf25) rfl (by kernel_rfl) (by kernel_rfl) (by kernel_rfl) (fun _ _ _ h => h) (Or.inl ⟨by kernel_rfl, ?hyf25⟩) hHe ?restf25
      case hyf25 => (intro w hSw; (try dsimp only at hSw); go_simp; try with_reducible rfl)
      try simp only [Act.put, List.setIfInBounds_toArray, List.set_cons_zero, List.set_cons_succ]
      refine wpAnyH_take (i := 26) (oi := { dst := some 64, op := Op.pick (Operand.tmp 53) (Operand.const (Value.bool true)) (Operand.tmp 63), type := 4, pos := "law.go:195", after := #[{ on := 15, ground := Ground.data }, { on := 25, ground := Ground.data }], guard := none }) (v := ?vf26) rfl (by kernel_rfl) (by kernel_rfl) (by kernel_rfl) (fun _ _ _ h => h) (Or.inl ⟨by kernel_rfl, ?hyf26⟩) hHe ?restf26
      case hyf26 => (intro w hSw; (try dsimp only at hSw); go_simp; try with_reducible rfl)
      try simp only [Act.put, List.setIfInBounds_toArray, List.set_cons_zero, List.set_cons_succ]
      refine wpAnyH_done (by kernel_rfl) ?_ _
      go_simp
      try go_wp2_with fail
      go_meet
      case rel => exact ⟨rfl, HBC.out, HXC.out⟩
    case rest =>
     obtain ⟨rfl, hbq, hbxq⟩ := hcut
     have HBQ := Lib.hid hbq
     have HBXQ := Lib.hid hbxq
     obtain ⟨x0, x1⟩ := hbxq.two
     clear hbq hbxq hne d0 d1 q3
     have hwq := HFW.out.below HBQ.out
     have q3 := (Blk.four (t := 34) hwq.2.1).2.2.2.1
     rw [HNV.out] at q3
     by_cases hj0 : j = 0
     ·have hg : decide ((0 : Int) < (j : Int)) = false := decide_eq_false (by omega)
      have hg2 : ¬ 0 < j := by omega
      clear hwq q3
      go_wp2_with fail
      go_roundw
      case measure => simp [intOf]; omega
      case rel => exact ⟨j + 1, by go_num, hlt, HBR.out.trans (HBQ.out.mono HBR.out.size)⟩
     ·obtain ⟨i, hij⟩ : ∃ i, i = j - 1 := ⟨_, rfl⟩
      obtain ⟨p', hp'⟩ : ∃ p, V2[i]? = some p := ⟨_, List.getElem?_eq_getElem (by rw [HNV.out]; omega)⟩
      have hzr : ((canonL f.sizes f.k f.funs).map rawC)[i]? = some p'.2.2.2 := by rw [← HVM.out, List.getElem?_map, hp']; rfl
      rw [List.getElem?_map] at hzr
      obtain ⟨z, hz, hzp⟩ := Option.map_eq_some_iff.1 hzr
      obtain ⟨v1', tg', ev', ⟨⟨A1', c1'', e1'⟩, hr1'⟩, -, -⟩ := hwq.2.2.2.2 p' (List.mem_of_getElem? hp')
      obtain ⟨pv', lo', hi', pf'⟩ := p'
      dsimp only at ev' e1' hr1' hzp
      subst hzp
      subst e1'
      subst ev'
      have hrow := hwq.2.2.2.1
      rw [HNV.out] at hrow
      obtain ⟨c0, c1'⟩ := fc_at H2.out hp'
      have d0 := (hrow.cellAt (i * 2) (by omega)).trans c0
      rw [show (rawC z).scope = z.scope from rfl] at hr1' d0
      obtain ⟨nz, hnz⟩ : ∃ nz, z.scope.length = nz := ⟨_, rfl⟩
      have hnz6 : nz ≤ 6 := by rw [← hnz]; exact (good_sc (HCP.out.good z (List.mem_of_getElem? hz))).2
      rw [hnz] at hr1' d0
      have hcmp : cmpC z y < 0 := by
       obtain ⟨h1, e1⟩ := List.getElem?_eq_some_iff.1 hz
       obtain ⟨h2, e2⟩ := List.getElem?_eq_some_iff.1 HY.out
       have := List.pairwise_iff_getElem.1 HCP.out.ord i j h1 h2 (by omega)
       rw [e1, e2] at this
       exact this
      have hge : ¬ ny < nz := by
       intro h
       unfold cmpC at hcmp
       rw [if_neg (by rw [hnz, HNY.out]; omega), if_pos (by rw [hnz, HNY.out]; exact h)] at hcmp
       omega
      have hcl : nz = ny → cmpL z.scope y.scope < 0 := fun h => by
       unfold cmpC at hcmp
       rwa [if_neg (by rw [hnz, HNY.out]; omega), if_neg (by rw [hnz, HNY.out]; omega)] at hcmp
      have hcm := compareI_any A1' A1 nz ny c1'' c1 z.scope y.scope wc (by omega) (by omega) (Reads.of_own hr1') (Reads.of_own (own_under HR1.out HBQ.out))
      have hg : decide ((0 : Int) < (j : Int)) = true := decide_eq_true (by omega)
      have hg2 : 0 < j := by omega
      have hwr : IntKind.i64.wrap ((j : Int) - 1) = (j : Int) - 1 := IntWalk.i64_in _ (by omega)
      have i2 : (0 : Int) ≤ (j : Int) - 1 := by omega
      have i3 : (j : Int) - 1 < (nv : Int) := by omega
      have i4 : (1 : Int) ≤ (j : Int) := by omega
      have i5 : 1 ≤ j := by omega
      have g1 : decide ((ny : Int) < (nz : Int)) = false := decide_eq_false (by omega)
      have g1' : ¬ (ny : Int) < (nz : Int) := by omega
      have HHC := Lib.hid hcl
      subst hij
      clear hwq hp' hzr hz hr1' hrow c0 c1' hcmp hcl hge hj0
      by_cases hnn : nz = ny
      ·have g2 : ((nz : Int) == (ny : Int)) = true := by simp [hnn]
       have hcl := HHC.out hnn
       obtain ⟨q, hq⟩ : ∃ q, cmpL z.scope y.scope = q := ⟨_, rfl⟩
       rw [hq] at hcm hcl
       have g3 : decide ((0 : Int) ≤ q) = false := decide_eq_false (by omega)
       subst hnn
       go_wp2_with fail
       refine hcm.mono ?_
       rintro e wd ⟨rfl, rfl⟩
       clear hcm
       go_wp2_with fail
       go_roundw
       case measure => simp [intOf]; omega
       case rel => exact ⟨j + 1, by go_num, hlt, HBR.out.trans (HBQ.out.mono HBR.out.size)⟩
      ·have g2 : ((nz : Int) == (ny : Int)) = false := by simp; omega
       have g2' : ¬ (nz : Int) = (ny : Int) := by omega
       clear hcm
       go_wp2_with fail
       go_roundw
       case measure => simp [intOf]; omega
       case rel => exact ⟨j + 1, by go_num, hlt, HBR.out.trans (HBQ.out.mono HBR.out.size)⟩
   ·have HBR := Lib.hid hB
    clear hB
    go_wp2_with fail
    go_ret
    exact ⟨rfl, bto HB3.out HBR.out⟩
end Go.Proofs.YtjpkkkphhaajgaaGreatDoor.wcp
