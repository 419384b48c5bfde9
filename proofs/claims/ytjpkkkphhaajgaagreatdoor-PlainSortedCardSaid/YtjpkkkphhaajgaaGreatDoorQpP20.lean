/- Fits, TpPut2, ScMid, QRdr, QWord, QNum, QRows. -/
import Derived.Test.YtjpkkkphhaajgaaGreatDoorQpRdRead
import Derived.Test.YtjpkkkphhaajgaaGreatDoorQpP03
import Derived.Deep.RegionHeld3
import Derived.Test.YtjpkkkphhaajgaaGreatDoorQpP10
import Derived.Test.YtjpkkkphhaajgaaGreatDoorQpP07
import Derived.Test.YtjpkkkphhaajgaaGreatDoorQpP08
import Derived.Test.YtjpkkkphhaajgaaGreatDoorQpP04
import Derived.Test.YtjpkkkphhaajgaaGreatDoorQpP09
set_option linter.all false
/- May a function be this file's? -/
namespace Go.Proofs.YtjpkkkphhaajgaaGreatDoor.wcp
open Go Go.RowKit Go.ChangeShapes Go.WideShapes Go.ChangeAt Go.Maps Go.Proofs.YtjpkkkphhaajgaaGreatDoor.words Go.Proofs.YtjpkkkphhaajgaaGreatDoor.scn
/-- a function that fits a file's sizes -/
def FitF (sizes : List Int) (f : Raw) : Prop := (∀ v ∈ f.scope, 0 ≤ v ∧ v < sizes.length) ∧ f.scope.Nodup ∧ f.sizes = f.scope.map (fun v => sizes.getD v.toNat 0)
theorem nodup_at {l : List Int} (h : l.Nodup) : ∀ {i j : Nat} {v : Int}, l[i]? = some v → l[j]? = some v → i = j := by
 intro i j v hi hj
 obtain ⟨hil, hie⟩ := List.getElem?_eq_some_iff.1 hi
 obtain ⟨hjl, hje⟩ := List.getElem?_eq_some_iff.1 hj
 exact (List.getElem_inj h).1 (hie.trans hje.symm)
set_option maxRecDepth 100000 in
set_option maxHeartbeats 8000000 in
theorem fits_any {w : World} {g : Nat} {nm fv : Value} {K : Int} {SA : Option Addr} {sc : Nat} {sizes : List Int} {F : Nat → Prop} {v : Value} {f : Raw} (hg : Blk w g 34 #[nm, .int .i64 K, .slice SA sizes.length sc, fv]) (hs : w.ownsRow 0 3 1 (.slice SA sizes.length sc) sizes.length (nums sizes)) (hsl : sizes.length ≤ 1000000)
 (hv : FunV w F v f K) (hok : okF f K) (hf : FitF sizes f) :
 Calls Tryz.prog 143 #[.pointer (some ⟨g, 0, none⟩), v] w fun e w' => e = .returned (.bool true) ∧ Below w.heap.size w w' := by
 obtain ⟨v1, tg, rfl, ⟨⟨A1, c1, rfl⟩, h1⟩, -, hT⟩ := hv
 obtain ⟨ts1, ts2, ts3⟩ := tpOf_same f K f.lines
 have h6 := hok.1
 have hb := bone w (.cells #[.slice A1 f.scope.length c1, .pointer (some ⟨tg, 0, none⟩)] 37)
 have hx : Blk (w.alloc (.cells #[.slice A1 f.scope.length c1, .pointer (some ⟨tg, 0, none⟩)] 37)) w.heap.size 37 #[.slice A1 f.scope.length c1, .pointer (some ⟨tg, 0, none⟩)] := Blk.new _ _ _
 have hTb : ∀ W, Below w.heap.size w W → TpV W tg F f.lines.length (tpOf f K f.lines) := fun W hW => hT.keep (Tch.of_below hW (fun _ => False)) fun _ _ h => h
 have hfl : f.scope.length = f.sizes.length := by rw [hf.2.2]; simp
 have HF := Lib.hid hf
 have HG := Lib.hid hg
 have HH1 := Lib.hid h1
 have HS := Lib.hid hs
 obtain ⟨wa, hwa⟩ : ∃ wa, w.alloc (.cells #[.slice A1 f.scope.length c1, .pointer (some ⟨tg, 0, none⟩)] 37) = wa := ⟨_, rfl⟩
 obtain ⟨xb, hxb⟩ : ∃ xb, w.heap.size = xb := ⟨_, rfl⟩
 rw [hwa, hxb] at hx
 rw [hwa] at hb
 have hk := tk_any (hTb wa.drew ((show Below w.heap.size w wa.drew from ⟨hb.os, hb.tape, hb.output, hb.size, hb.block⟩)))
 have har : ∀ W, Below w.heap.size w W → Calls Tryz.prog 174 #[.pointer (some ⟨tg, 0, none⟩)] W fun e w' => e = .returned (.int .i64 f.scope.length) ∧ Below W.heap.size W w' := fun W hW => by
  have := tarity_any (hTb W hW) (by rw [ts1]; exact h6)
  rw [ts1, ← hfl] at this
  exact this
 rw [ts2] at hk
 have HAR := Lib.hid har
 have HB := Lib.hid hb
 have HX := Lib.hid hx
 have HXB := Lib.hid hxb
 have HTB := Lib.hid hTb
 have hga := Blk.under hg hb
 obtain ⟨q0, q1, q2, q3, -⟩ := Blk.four (t := 34) hga
 obtain ⟨x0, x1⟩ := hx.two
 have HFL := Lib.hid hfl
 have HOK := Lib.hid hok
 clear hg hs h1 hT hf hb hx hTb hga hok har hfl h6 ts1 ts2 ts3
 go_enter Tryz.func143, Tryz.ntmps143
 go_upto_region 1 with fail
 clear hwa hxb
 go_cut [28] (fun b wq => b = .bool false ∧ Below wa.heap.size wa wq)
 case first =>
  have y0 : wa.drew.cell? ⟨xb, 0, none⟩ = some (.slice A1 f.scope.length c1) := x0
  have y1 : wa.drew.cell? ⟨xb, 1, none⟩ = some (.pointer (some ⟨tg, 0, none⟩)) := x1
  have y2 : wa.drew.cell? ⟨g, 1, none⟩ = some (.int .i64 K) := q1
  have hl1 : xb < wa.heap.size ∧ g < wa.heap.size := ⟨Blk.lt HX.out, by have := Blk.lt HG.out; have := HB.out.size; omega⟩
  go_region_held3 (fun W => W.cell? ⟨xb, 0, none⟩ = some (.slice A1 f.scope.length c1) ∧ W.cell? ⟨xb, 1, none⟩ = some (.pointer (some ⟨tg, 0, none⟩)) ∧ W.cell? ⟨g, 1, none⟩ = some (.int .i64 K)) (first | exact ⟨y0, y1, y2⟩ | exact HS2 | exact HS3) (first
   | (go_at_call 64; refine hk.mono ?_; rintro e w2 ⟨rfl, hw2⟩; have HS2 : w2.cell? ⟨xb, 0, none⟩ = some (.slice A1 f.scope.length c1) ∧ w2.cell? ⟨xb, 1, none⟩ = some (.pointer (some ⟨tg, 0, none⟩)) ∧ w2.cell? ⟨g, 1, none⟩ = some (.int .i64 K) := (by rw [← hw2]; exact ⟨y0, y1, y2⟩); have hbw2 : Below wa.heap.size wa w2 := (by rw [← hw2]; exact ⟨rfl, rfl, rfl, Nat.le_refl _, fun _ _ => rfl⟩); have har := HAR.out w2 (bto HB.out hbw2); have HB2 := Lib.hid hbw2; clear hw2 hbw2)
   | (go_at_call 174; refine har.mono ?_; rintro e w3 ⟨rfl, hb3⟩; have HS3 : w3.cell? ⟨xb, 0, none⟩ = some (.slice A1 f.scope.length c1) ∧ w3.cell? ⟨xb, 1, none⟩ = some (.pointer (some ⟨tg, 0, none⟩)) ∧ w3.cell? ⟨g, 1, none⟩ = some (.int .i64 K) := ⟨((bcell hb3).1 xb 0 (World.block_lt_of_cell? _ _ HS2.1)).trans HS2.1, ((bcell hb3).1 xb 1 (World.block_lt_of_cell? _ _ HS2.2.1)).trans HS2.2.1, ((bcell hb3).1 g 1 (World.block_lt_of_cell? _ _ HS2.2.2)).trans HS2.2.2⟩; have HB3 := Lib.hid hb3; clear hb3))
  all_goals
   go_wp2_with fail
   go_meet
   case rel => exact ⟨rfl, HB2.out.trans (HB3.out.mono HB2.out.size)⟩
 case rest =>
  obtain ⟨rfl, hcut⟩ := hcut
  have HBC := Lib.hid hcut
  have hxc := HX.out.under hcut
  obtain ⟨z0, z1⟩ := hxc.two
  clear hcut q0 q1 q2 q3 x0 x1 hk
  go_wp2_with fail
  go_loopw [5, 6, 32] (fun _ _ jv wr => ∃ j : Nat, jv = .int .i64 j ∧ j ≤ f.scope.length ∧ Below wa.heap.size wa wr) (fun _ _ jv _ => f.scope.length - (intOf jv).toNat)
  case atStart => exact ⟨0, rfl, Nat.zero_le _, HBC.out⟩
  case round =>
   obtain ⟨j, rfl, hj, hbw⟩ := hrel
   by_cases hlt : j < f.scope.length
   ·have hB1 : Below w.heap.size w wr := HB.out.trans (hbw.mono HB.out.size)
    obtain ⟨ad, v, rfl, _, hv, hc⟩ := (Reads.of_own (own_under HH1.out hB1)).num hlt
    have hmem := List.mem_of_getElem? hv
    obtain ⟨hv0, hv1⟩ := HF.out.1 v hmem
    obtain ⟨m, rfl⟩ : ∃ m : Nat, v = (m : Int) := ⟨v.toNat, by omega⟩
    have hml : m < sizes.length := by omega
    obtain ⟨ad2, k, rfl, hb2l, hk, hc2⟩ := (Reads.of_own (own_under HS.out hB1)).num hml
    have hsk : f.sizes[j]? = some k := by rw [HF.out.2.2, List.getElem?_map, hv]; simp [List.getD_eq_getElem?_getD, hk]
    have hga := Blk.under HG.out hB1
    obtain ⟨q0, q1, q2, q3, -⟩ := Blk.four (t := 34) hga
    obtain ⟨x0, x1⟩ := (HX.out.under hbw).two
    have hrd : ∀ W, Below wr.heap.size wr W → Reads W W.heap.size 1 (some ad) f.scope.length (nums f.scope) := fun W hW => Reads.of_own (own_under (own_under HH1.out hB1) hW)
    have hj0 : (0 : Int) ≤ (j : Int) := Int.natCast_nonneg _
    have hjs : (j : Int) < (f.sizes.length : Int) := by have := HFL.out; omega
    have hj1 : (j : Int) < (f.scope.length : Int) := by omega
    have hm0 : (0 : Int) ≤ (m : Int) := Int.natCast_nonneg _
    have hm1 : (m : Int) < (sizes.length : Int) := by omega
    have hidx : ∀ W, Below wr.heap.size wr W → Calls Tryz.prog 101 #[.slice (some ad) f.scope.length c1, .int .i64 m] W fun e w' => e = .returned (.int .i64 j) ∧ Below W.heap.size W w' := fun W hW => by
     refine (indexI_any (some ad) f.scope.length c1 f.scope m W (by have := HOK.out.2.2.2.2.2.2.2; omega) (hrd W hW)).mono ?_
     rintro e w' ⟨⟨r, rfl, hr⟩, hb'⟩
     refine ⟨?_, hb'⟩
     rcases hr with ⟨q, rfl, hq, hnq⟩ | ⟨_, hno⟩
     ·have : q = j := nodup_at HF.out.2.1 hq hv
      rw [this]
     ·exact absurd hmem hno
    have hszc : ∀ W, Below wr.heap.size wr W → Calls Tryz.prog 63 #[.pointer (some ⟨tg, 0, none⟩)] W fun e w' => Copied W f.sizes e w' := fun W hW => by
     have := tsizes_any (HTB.out W (hB1.trans (hW.mono hB1.size))) (by rw [(tpOf_same f K f.lines).1]; exact HOK.out.1)
     rw [(tpOf_same f K f.lines).1] at this
     exact this
    have HIDX := Lib.hid hidx
    have HSZC := Lib.hid hszc
    have HSK := Lib.hid hsk
    have HBW := Lib.hid hbw
    have hxl : xb < wr.heap.size ∧ g < wr.heap.size ∧ ad2.block < wr.heap.size := ⟨Blk.lt ((HX.out.under hbw)), Blk.lt hga, by omega⟩
    clear hv hk hsk hmem hga hrd hidx hszc hB1 hbw q0 q1 q3 z0 z1
    have hd1 : decide ((m : Int) < 0) = false := decide_eq_false (by omega)
    have hd2 : decide ((sizes.length : Int) ≤ (m : Int)) = false := decide_eq_false (by omega)
    have hd3 : ((j : Int) != (j : Int)) = false := by simp
    have hd4 : decide (sizes.length ≤ m) = false := decide_eq_false (by omega)
    go_upto_region 6 with fail
    go_cut [32, 71] from 32 to 72 (fun iv bv wq => iv = .int .i64 j ∧ bv = .bool false ∧ Below wr.heap.size wr wq)
    case first =>
     have y0 : wr.drew.cell? ⟨xb, 0, none⟩ = some (.slice (some ad) f.scope.length c1) := x0
     have y1 : wr.drew.cell? ⟨xb, 1, none⟩ = some (.pointer (some ⟨tg, 0, none⟩)) := x1
     have y2 : wr.drew.cell? ⟨g, 2, none⟩ = some (.slice (some ad2) sizes.length sc) := q2
     have y3 : wr.drew.cell? (ad2.add m) = some (.int .i64 k) := hc2
     have hxi := HIDX.out wr.drew (Below.refl _ _).drew
     refine wp_region_held_drew (S := (fun W => W.cell? ⟨xb, 0, none⟩ = some (.slice (some ad) f.scope.length c1) ∧ W.cell? ⟨xb, 1, none⟩ = some (.pointer (some ⟨tg, 0, none⟩)) ∧ W.cell? ⟨g, 2, none⟩ = some (.slice (some ad2) sizes.length sc) ∧ W.cell? (ad2.add m) = some (.int .i64 k))) (by kernel_rfl) ⟨y0, y1, y2, y3⟩ (fun hHeld => ?_)
     refine wpAnyH_take (i := 0) (oi := { dst := some 37, op := Op.move (Operand.tmp 6), type := 3, pos := "file.go:53", after := #[], guard := none }) (v := ?v0) rfl (by kernel_rfl) (by kernel_rfl) (by kernel_rfl) (fun _ _ _ h => h) (Or.inl ⟨by rfl, ?hy0⟩) (by assumption) ?rest0
     case hy0 => (intro w hSw; (try dsimp only at hSw); go_simp; try with_reducible rfl)
     try simp only [Act.put, List.setIfInBounds_toArray, List.set_cons_zero, List.set_cons_succ]
     refine wpAnyH_take (i := 1) (oi := { dst := some 38, op := Op.binOp BinOp.lss 3 (Operand.tmp 37) (Operand.const (Value.int IntKind.i64 0)) 3, type := 4, pos := "file.go:53", after := #[{ on := 0, ground := Ground.data }], guard := none }) (v := ?v1) rfl (by kernel_rfl) (by kernel_rfl) (by kernel_rfl) (fun _ _ _ h => h) (Or.inl ⟨by rfl, ?hy1⟩) (by assumption) ?rest1
     case hy1 => (intro w hSw; (try dsimp only at hSw); go_simp; try with_reducible rfl)
     try simp only [Act.put, List.setIfInBounds_toArray, List.set_cons_zero, List.set_cons_succ]
     refine wpAnyH_take (i := 2) (oi := { dst := some 39, op := Op.move (Operand.tmp 38), type := 4, pos := "file.go:53", after := #[{ on := 1, ground := Ground.data }], guard := none }) (v := ?v2) rfl (by kernel_rfl) (by kernel_rfl) (by kernel_rfl) (fun _ _ _ h => h) (Or.inl ⟨by rfl, ?hy2⟩) (by assumption) ?rest2
     case hy2 => (intro w hSw; (try dsimp only at hSw); go_simp; try with_reducible rfl)
     try simp only [Act.put, List.setIfInBounds_toArray, List.set_cons_zero, List.set_cons_succ]
     refine wpAnyH_take (i := 3) (oi := { dst := some 40, op := Op.move (Operand.tmp 6), type := 3, pos := "file.go:53", after := #[{ on := 2, ground := Ground.guard }], guard := some (2, false) }) (v := ?v3) rfl (by kernel_rfl) (by kernel_rfl) (by kernel_rfl) (fun _ _ _ h => h) (Or.inl ⟨by rfl, ?hy3⟩) (by assumption) ?rest3
     case hy3 => (intro w hSw; (try dsimp only at hSw); go_simp; try with_reducible rfl)
     try simp only [Act.put, List.setIfInBounds_toArray, List.set_cons_zero, List.set_cons_succ]
     refine wpAnyH_take (i := 4) (oi := { dst := some 41, op := Op.move (Operand.tmp 0), type := 24, pos := "file.go:53", after := #[{ on := 2, ground := Ground.guard }], guard := some (2, false) }) (v := ?v4) rfl (by kernel_rfl) (by kernel_rfl) (by kernel_rfl) (fun _ _ _ h => h) (Or.inl ⟨by rfl, ?hy4⟩) (by assumption) ?rest4
     case hy4 => (intro w hSw; (try dsimp only at hSw); go_simp; try with_reducible rfl)
     try simp only [Act.put, List.setIfInBounds_toArray, List.set_cons_zero, List.set_cons_succ]
     refine wpAnyH_take (i := 5) (oi := { dst := some 42, op := Op.nilCheck (Operand.tmp 41), type := 0, pos := "file.go:53", after := #[{ on := 4, ground := Ground.data }, { on := 2, ground := Ground.guard }], guard := some (2, false) }) (v := ?v5) rfl (by kernel_rfl) (by kernel_rfl) (by kernel_rfl) (fun _ _ _ h => h) (Or.inl ⟨by rfl, ?hy5⟩) (by assumption) ?rest5
     case hy5 => (intro w hSw; (try dsimp only at hSw); go_simp; try with_reducible rfl)
     try simp only [Act.put, List.setIfInBounds_toArray, List.set_cons_zero, List.set_cons_succ]
     refine wpAnyH_take (i := 6) (oi := { dst := some 43, op := Op.fieldAddr 34 (Operand.tmp 42) 2, type := 0, pos := "file.go:53", after := #[{ on := 5, ground := Ground.data }, { on := 2, ground := Ground.guard }], guard := some (2, false) }) (v := ?v6) rfl (by kernel_rfl) (by kernel_rfl) (by kernel_rfl) (fun _ _ _ h => h) (Or.inl ⟨by rfl, ?hy6⟩) (by assumption) ?rest6
     case hy6 => (intro w hSw; (try dsimp only at hSw); go_simp; try with_reducible rfl)
     try simp only [Act.put, List.setIfInBounds_toArray, List.set_cons_zero, List.set_cons_succ]
     refine wpAnyH_take (i := 7) (oi := { dst := some 44, op := Op.load 31 (Operand.tmp 43), type := 31, pos := "file.go:53", after := #[{ on := 6, ground := Ground.data }, { on := 2, ground := Ground.guard }], guard := some (2, false) }) (v := ?v7) rfl (by kernel_rfl) (by kernel_rfl) (by kernel_rfl) (fun _ _ _ h => h) (Or.inl ⟨by rfl, ?hy7⟩) (by assumption) ?rest7
     case hy7 => (intro w hSw; (try dsimp only at hSw); go_simp; try with_reducible rfl)
     try simp only [Act.put, List.setIfInBounds_toArray, List.set_cons_zero, List.set_cons_succ]
     refine wpAnyH_take (i := 8) (oi := { dst := some 45, op := Op.call { callee := Callee.builtin Builtin.len, args := #[Operand.tmp 44], argTypes := #[31] }, type := 3, pos := "file.go:53", after := #[{ on := 7, ground := Ground.data }, { on := 2, ground := Ground.guard }], guard := some (2, false) }) (v := ?v8) rfl (by kernel_rfl) (by kernel_rfl) (by kernel_rfl) (fun _ _ _ h => h) (Or.inl ⟨by rfl, ?hy8⟩) (by assumption) ?rest8
     case hy8 => (intro w hSw; (try dsimp only at hSw); go_simp; try with_reducible rfl)
     try simp only [Act.put, List.setIfInBounds_toArray, List.set_cons_zero, List.set_cons_succ]
     refine wpAnyH_take (i := 9) (oi := { dst := some 46, op := Op.binOp BinOp.geq 3 (Operand.tmp 40) (Operand.tmp 45) 3, type := 4, pos := "file.go:53", after := #[{ on := 3, ground := Ground.data }, { on := 8, ground := Ground.data }, { on := 2, ground := Ground.guard }], guard := some (2, false) }) (v := ?v9) rfl (by kernel_rfl) (by kernel_rfl) (by kernel_rfl) (fun _ _ _ h => h) (Or.inl ⟨by rfl, ?hy9⟩) (by assumption) ?rest9
     case hy9 => (intro w hSw; (try dsimp only at hSw); go_simp; try with_reducible rfl)
     try simp only [Act.put, List.setIfInBounds_toArray, List.set_cons_zero, List.set_cons_succ]
     refine wpAnyH_take (i := 10) (oi := { dst := some 47, op := Op.pick (Operand.tmp 39) (Operand.const (Value.bool true)) (Operand.tmp 46), type := 4, pos := "file.go:53", after := #[{ on := 2, ground := Ground.data }, { on := 9, ground := Ground.data }], guard := none }) (v := ?v10) rfl (by kernel_rfl) (by kernel_rfl) (by kernel_rfl) (fun _ _ _ h => h) (Or.inl ⟨by rfl, ?hy10⟩) (by assumption) ?rest10
     case hy10 => (intro w hSw; (try dsimp only at hSw); go_simp; try with_reducible rfl)
     try simp only [Act.put, List.setIfInBounds_toArray, List.set_cons_zero, List.set_cons_succ]
     refine wpAnyH_take (i := 11) (oi := { dst := some 48, op := Op.move (Operand.tmp 47), type := 4, pos := "file.go:53", after := #[{ on := 10, ground := Ground.data }, { on := 2, ground := Ground.chain }], guard := none }) (v := ?v11) rfl (by kernel_rfl) (by kernel_rfl) (by kernel_rfl) (fun _ _ _ h => h) (Or.inl ⟨by rfl, ?hy11⟩) (by assumption) ?rest11
     case hy11 => (intro w hSw; (try dsimp only at hSw); go_simp; try with_reducible rfl)
     try simp only [Act.put, List.setIfInBounds_toArray, List.set_cons_zero, List.set_cons_succ]
     refine wpAnyH_take (i := 12) (oi := { dst := some 49, op := Op.fieldAddr 37 (Operand.tmp 3) 0, type := 0, pos := "file.go:53", after := #[{ on := 11, ground := Ground.guard }], guard := some (11, false) }) (v := ?v12) rfl (by kernel_rfl) (by kernel_rfl) (by kernel_rfl) (fun _ _ _ h => h) (Or.inl ⟨by rfl, ?hy12⟩) (by assumption) ?rest12
     case hy12 => (intro w hSw; (try dsimp only at hSw); go_simp; try with_reducible rfl)
     try simp only [Act.put, List.setIfInBounds_toArray, List.set_cons_zero, List.set_cons_succ]
     refine wpAnyH_take (i := 13) (oi := { dst := some 50, op := Op.load 31 (Operand.tmp 49), type := 31, pos := "file.go:53", after := #[{ on := 12, ground := Ground.data }, { on := 11, ground := Ground.guard }], guard := some (11, false) }) (v := ?v13) rfl (by kernel_rfl) (by kernel_rfl) (by kernel_rfl) (fun _ _ _ h => h) (Or.inl ⟨by rfl, ?hy13⟩) (by assumption) ?rest13
     case hy13 => (intro w hSw; (try dsimp only at hSw); go_simp; try with_reducible rfl)
     try simp only [Act.put, List.setIfInBounds_toArray, List.set_cons_zero, List.set_cons_succ]
     refine wpAnyH_take (i := 14) (oi := { dst := some 51, op := Op.move (Operand.tmp 6), type := 3, pos := "file.go:53", after := #[{ on := 11, ground := Ground.guard }], guard := some (11, false) }) (v := ?v14) rfl (by kernel_rfl) (by kernel_rfl) (by kernel_rfl) (fun _ _ _ h => h) (Or.inl ⟨by rfl, ?hy14⟩) (by assumption) ?rest14
     case hy14 => (intro w hSw; (try dsimp only at hSw); go_simp; try with_reducible rfl)
     try simp only [Act.put, List.setIfInBounds_toArray, List.set_cons_zero, List.set_cons_succ]
     refine wpAnyH_take (i := 16) (oi := { dst := some 53, op := Op.move (Operand.tmp 5), type := 3, pos := "file.go:53", after := #[{ on := 11, ground := Ground.guard }], guard := some (11, false) }) (v := ?v16) rfl (by kernel_rfl) (by kernel_rfl) (by kernel_rfl) (fun _ _ _ h => h) (Or.inl ⟨by rfl, ?hy16⟩) (by assumption) ?rest16
     case hy16 => (intro w hSw; (try dsimp only at hSw); go_simp; try with_reducible rfl)
     try simp only [Act.put, List.setIfInBounds_toArray, List.set_cons_zero, List.set_cons_succ]
     refine wpAnyH_ready (rs := [15]) (by kernel_rfl) (by simp) ?_
     refine AllReadyH.cons (o := { dst := some 52, op := Op.call { callee := Callee.value (Operand.func 101), args := #[Operand.tmp 50, Operand.tmp 51], argTypes := #[31, 3] }, type := 3, pos := "file.go:53", after := #[{ on := 13, ground := Ground.data }, { on := 14, ground := Ground.data }, { on := 11, ground := Ground.chain }, { on := 11, ground := Ground.guard }], guard := some (11, false) }) rfl (fun K hK => ?_) AllReadyH.nil
     go_simp
     (refine hxi.mono ?_; rintro e w2 ⟨rfl, hb2⟩; have HS2 : w2.cell? ⟨xb, 0, none⟩ = some (.slice (some ad) f.scope.length c1) ∧ w2.cell? ⟨xb, 1, none⟩ = some (.pointer (some ⟨tg, 0, none⟩)) ∧ w2.cell? ⟨g, 2, none⟩ = some (.slice (some ad2) sizes.length sc) ∧ w2.cell? (ad2.add m) = some (.int .i64 k) := ⟨((bcell hb2).1 xb 0 hxl.1).trans y0, ((bcell hb2).1 xb 1 hxl.1).trans y1, ((bcell hb2).1 g 2 hxl.2.1).trans y2, (hb2.cell (p := ad2.add m) (by rw [block_of_add]; exact hxl.2.2)).trans y3⟩; have hb2' : Below wr.heap.size wr w2 := ⟨hb2.os, hb2.tape, hb2.output, hb2.size, hb2.block⟩; have hsc2 := HSZC.out w2 hb2'; have HB2 := Lib.hid hb2'; clear hb2 hb2')
     try go_wp2_with fail
     refine hK.out _ _ ?_ (fun hHeld => ?_)
     ·exact HS2
     clear hK K
     try simp only [Act.put, List.setIfInBounds_toArray, List.set_cons_zero, List.set_cons_succ]
     refine wpAnyH_take (i := 17) (oi := { dst := some 54, op := Op.binOp BinOp.neq 3 (Operand.tmp 52) (Operand.tmp 53) 3, type := 4, pos := "file.go:53", after := #[{ on := 15, ground := Ground.data }, { on := 16, ground := Ground.data }, { on := 11, ground := Ground.guard }], guard := some (11, false) }) (v := ?v17) rfl (by kernel_rfl) (by kernel_rfl) (by kernel_rfl) (fun _ _ _ h => h) (Or.inl ⟨by rfl, ?hy17⟩) (by assumption) ?rest17
     case hy17 => (intro w hSw; (try dsimp only at hSw); go_simp; try with_reducible rfl)
     try simp only [Act.put, List.setIfInBounds_toArray, List.set_cons_zero, List.set_cons_succ]
     refine wpAnyH_take (i := 18) (oi := { dst := some 55, op := Op.pick (Operand.tmp 48) (Operand.const (Value.bool true)) (Operand.tmp 54), type := 4, pos := "file.go:53", after := #[{ on := 11, ground := Ground.data }, { on := 17, ground := Ground.data }], guard := none }) (v := ?v18) rfl (by kernel_rfl) (by kernel_rfl) (by kernel_rfl) (fun _ _ _ h => h) (Or.inl ⟨by rfl, ?hy18⟩) (by assumption) ?rest18
     case hy18 => (intro w hSw; (try dsimp only at hSw); go_simp; try with_reducible rfl)
     try simp only [Act.put, List.setIfInBounds_toArray, List.set_cons_zero, List.set_cons_succ]
     refine wpAnyH_take (i := 19) (oi := { dst := some 56, op := Op.move (Operand.tmp 55), type := 4, pos := "file.go:53", after := #[{ on := 18, ground := Ground.data }, { on := 15, ground := Ground.chain }], guard := none }) (v := ?v19) rfl (by kernel_rfl) (by kernel_rfl) (by kernel_rfl) (fun _ _ _ h => h) (Or.inl ⟨by rfl, ?hy19⟩) (by assumption) ?rest19
     case hy19 => (intro w hSw; (try dsimp only at hSw); go_simp; try with_reducible rfl)
     try simp only [Act.put, List.setIfInBounds_toArray, List.set_cons_zero, List.set_cons_succ]
     refine wpAnyH_take (i := 20) (oi := { dst := some 57, op := Op.fieldAddr 37 (Operand.tmp 3) 1, type := 0, pos := "file.go:53", after := #[{ on := 19, ground := Ground.guard }], guard := some (19, false) }) (v := ?v20) rfl (by kernel_rfl) (by kernel_rfl) (by kernel_rfl) (fun _ _ _ h => h) (Or.inl ⟨by rfl, ?hy20⟩) (by assumption) ?rest20
     case hy20 => (intro w hSw; (try dsimp only at hSw); go_simp; try with_reducible rfl)
     try simp only [Act.put, List.setIfInBounds_toArray, List.set_cons_zero, List.set_cons_succ]
     refine wpAnyH_take (i := 21) (oi := { dst := some 58, op := Op.load 35 (Operand.tmp 57), type := 35, pos := "file.go:53", after := #[{ on := 20, ground := Ground.data }, { on := 19, ground := Ground.guard }], guard := some (19, false) }) (v := ?v21) rfl (by kernel_rfl) (by kernel_rfl) (by kernel_rfl) (fun _ _ _ h => h) (Or.inl ⟨by rfl, ?hy21⟩) (by assumption) ?rest21
     case hy21 => (intro w hSw; (try dsimp only at hSw); go_simp; try with_reducible rfl)
     try simp only [Act.put, List.setIfInBounds_toArray, List.set_cons_zero, List.set_cons_succ]
     refine wpAnyH_take (i := 26) (oi := { dst := some 63, op := Op.move (Operand.tmp 0), type := 24, pos := "file.go:53", after := #[{ on := 19, ground := Ground.guard }], guard := some (19, false) }) (v := ?v26) rfl (by kernel_rfl) (by kernel_rfl) (by kernel_rfl) (fun _ _ _ h => h) (Or.inl ⟨by rfl, ?hy26⟩) (by assumption) ?rest26
     case hy26 => (intro w hSw; (try dsimp only at hSw); go_simp; try with_reducible rfl)
     try simp only [Act.put, List.setIfInBounds_toArray, List.set_cons_zero, List.set_cons_succ]
     refine wpAnyH_take (i := 27) (oi := { dst := some 64, op := Op.nilCheck (Operand.tmp 63), type := 0, pos := "file.go:53", after := #[{ on := 26, ground := Ground.data }, { on := 19, ground := Ground.guard }], guard := some (19, false) }) (v := ?v27) rfl (by kernel_rfl) (by kernel_rfl) (by kernel_rfl) (fun _ _ _ h => h) (Or.inl ⟨by rfl, ?hy27⟩) (by assumption) ?rest27
     case hy27 => (intro w hSw; (try dsimp only at hSw); go_simp; try with_reducible rfl)
     try simp only [Act.put, List.setIfInBounds_toArray, List.set_cons_zero, List.set_cons_succ]
     refine wpAnyH_take (i := 28) (oi := { dst := some 65, op := Op.fieldAddr 34 (Operand.tmp 64) 2, type := 0, pos := "file.go:53", after := #[{ on := 27, ground := Ground.data }, { on := 19, ground := Ground.guard }], guard := some (19, false) }) (v := ?v28) rfl (by kernel_rfl) (by kernel_rfl) (by kernel_rfl) (fun _ _ _ h => h) (Or.inl ⟨by rfl, ?hy28⟩) (by assumption) ?rest28
     case hy28 => (intro w hSw; (try dsimp only at hSw); go_simp; try with_reducible rfl)
     try simp only [Act.put, List.setIfInBounds_toArray, List.set_cons_zero, List.set_cons_succ]
     refine wpAnyH_take (i := 29) (oi := { dst := some 66, op := Op.load 31 (Operand.tmp 65), type := 31, pos := "file.go:53", after := #[{ on := 28, ground := Ground.data }, { on := 19, ground := Ground.guard }], guard := some (19, false) }) (v := ?v29) rfl (by kernel_rfl) (by kernel_rfl) (by kernel_rfl) (fun _ _ _ h => h) (Or.inl ⟨by rfl, ?hy29⟩) (by assumption) ?rest29
     case hy29 => (intro w hSw; (try dsimp only at hSw); go_simp; try with_reducible rfl)
     try simp only [Act.put, List.setIfInBounds_toArray, List.set_cons_zero, List.set_cons_succ]
     refine wpAnyH_take (i := 30) (oi := { dst := some 67, op := Op.move (Operand.tmp 6), type := 3, pos := "file.go:53", after := #[{ on := 19, ground := Ground.guard }], guard := some (19, false) }) (v := ?v30) rfl (by kernel_rfl) (by kernel_rfl) (by kernel_rfl) (fun _ _ _ h => h) (Or.inl ⟨by rfl, ?hy30⟩) (by assumption) ?rest30
     case hy30 => (intro w hSw; (try dsimp only at hSw); go_simp; try with_reducible rfl)
     try simp only [Act.put, List.setIfInBounds_toArray, List.set_cons_zero, List.set_cons_succ]
     refine wpAnyH_take (i := 31) (oi := { dst := some 68, op := Op.indexAddr 31 (Operand.tmp 66) (Operand.tmp 67), type := 0, pos := "file.go:53", after := #[{ on := 29, ground := Ground.data }, { on := 30, ground := Ground.data }, { on := 19, ground := Ground.guard }], guard := some (19, false) }) (v := ?v31) rfl (by kernel_rfl) (by kernel_rfl) (by kernel_rfl) (fun _ _ _ h => h) (Or.inl ⟨by rfl, ?hy31⟩) (by assumption) ?rest31
     case hy31 => (intro w hSw; (try dsimp only at hSw); go_simp; try with_reducible rfl)
     try simp only [Act.put, List.setIfInBounds_toArray, List.set_cons_zero, List.set_cons_succ]
     refine wpAnyH_take (i := 32) (oi := { dst := some 69, op := Op.load 3 (Operand.tmp 68), type := 3, pos := "file.go:53", after := #[{ on := 31, ground := Ground.data }, { on := 19, ground := Ground.guard }], guard := some (19, false) }) (v := ?v32) rfl (by kernel_rfl) (by kernel_rfl) (by kernel_rfl) (fun _ _ _ h => h) (Or.inl ⟨by rfl, ?hy32⟩) (by assumption) ?rest32
     case hy32 => (intro w hSw; (try dsimp only at hSw); go_simp; try with_reducible rfl)
     try simp only [Act.put, List.setIfInBounds_toArray, List.set_cons_zero, List.set_cons_succ]
     refine wpAnyH_take (i := 23) (oi := { dst := some 60, op := Op.move (Operand.tmp 5), type := 3, pos := "file.go:53", after := #[{ on := 19, ground := Ground.guard }], guard := some (19, false) }) (v := ?v23) rfl (by kernel_rfl) (by kernel_rfl) (by kernel_rfl) (fun _ _ _ h => h) (Or.inl ⟨by rfl, ?hy23⟩) (by assumption) ?rest23
     case hy23 => (intro w hSw; (try dsimp only at hSw); go_simp; try with_reducible rfl)
     try simp only [Act.put, List.setIfInBounds_toArray, List.set_cons_zero, List.set_cons_succ]
     refine wpAnyH_ready (rs := [22]) (by kernel_rfl) (by simp) ?_
     refine AllReadyH.cons (o := { dst := some 59, op := Op.call { callee := Callee.value (Operand.func 63), args := #[Operand.tmp 58], argTypes := #[35] }, type := 31, pos := "file.go:53", after := #[{ on := 21, ground := Ground.data }, { on := 19, ground := Ground.chain }, { on := 19, ground := Ground.guard }], guard := some (19, false) }) rfl (fun K hK => ?_) AllReadyH.nil
     go_simp
     (refine hsc2.mono ?_; rintro e w3 ⟨A3, c3, rfl, ho3, hb3⟩; have HS3 : w3.cell? ⟨xb, 0, none⟩ = some (.slice (some ad) f.scope.length c1) ∧ w3.cell? ⟨xb, 1, none⟩ = some (.pointer (some ⟨tg, 0, none⟩)) ∧ w3.cell? ⟨g, 2, none⟩ = some (.slice (some ad2) sizes.length sc) ∧ w3.cell? (ad2.add m) = some (.int .i64 k) := ⟨((bcell hb3).1 xb 0 (World.block_lt_of_cell? _ _ HS2.1)).trans HS2.1, ((bcell hb3).1 xb 1 (World.block_lt_of_cell? _ _ HS2.2.1)).trans HS2.2.1, ((bcell hb3).1 g 2 (World.block_lt_of_cell? _ _ HS2.2.2.1)).trans HS2.2.2.1, (hb3.cell (p := ad2.add m) (World.block_lt_of_cell? _ _ HS2.2.2.2)).trans HS2.2.2.2⟩; obtain ⟨ad3, k3, hA3, _, hk3, hc3⟩ := (Reads.of_own ho3).num (k := j) (by omega); obtain rfl : k3 = k := Option.some.inj (hk3.symm.trans HSK.out); subst hA3; have HB3 := Lib.hid hb3; clear ho3 hb3 hk3)
     try go_wp2_with fail
     refine hK.out _ _ ?_ (fun hHeld => ?_)
     ·exact HS3
     clear hK K
     try simp only [Act.put, List.setIfInBounds_toArray, List.set_cons_zero, List.set_cons_succ]
     refine wpAnyH_take (i := 24) (oi := { dst := some 61, op := Op.indexAddr 31 (Operand.tmp 59) (Operand.tmp 60), type := 0, pos := "file.go:53", after := #[{ on := 22, ground := Ground.data }, { on := 23, ground := Ground.data }, { on := 19, ground := Ground.guard }], guard := some (19, false) }) (v := ?v24) rfl (by kernel_rfl) (by kernel_rfl) (by kernel_rfl) (fun _ _ _ h => h) (Or.inl ⟨by rfl, ?hy24⟩) (by assumption) ?rest24
     case hy24 => (intro w hSw; (try dsimp only at hSw); go_simp; try with_reducible rfl)
     try simp only [Act.put, List.setIfInBounds_toArray, List.set_cons_zero, List.set_cons_succ]
     refine wpAnyH_ready (rs := [25]) (by kernel_rfl) (by simp) ?_
     refine AllReadyH.cons (o := { dst := some 62, op := Op.load 3 (Operand.tmp 61), type := 3, pos := "file.go:53", after := #[{ on := 24, ground := Ground.data }, { on := 19, ground := Ground.guard }], guard := some (19, false) }) rfl (fun K hK => ?_) AllReadyH.nil
     go_simp
     refine hK.out _ _ ?_ (fun hHeld => ?_)
     ·exact HS3
     clear hK K
     try simp only [Act.put, List.setIfInBounds_toArray, List.set_cons_zero, List.set_cons_succ]
     refine wpAnyH_take (i := 33) (oi := { dst := some 70, op := Op.binOp BinOp.neq 3 (Operand.tmp 62) (Operand.tmp 69) 3, type := 4, pos := "file.go:53", after := #[{ on := 25, ground := Ground.data }, { on := 32, ground := Ground.data }, { on := 19, ground := Ground.guard }], guard := some (19, false) }) (v := ?v33) rfl (by kernel_rfl) (by kernel_rfl) (by kernel_rfl) (fun _ _ _ h => h) (Or.inl ⟨by rfl, ?hy33⟩) (by assumption) ?rest33
     case hy33 => (intro w hSw; (try dsimp only at hSw); go_simp; try with_reducible rfl)
     try simp only [Act.put, List.setIfInBounds_toArray, List.set_cons_zero, List.set_cons_succ]
     refine wpAnyH_take (i := 34) (oi := { dst := some 71, op := Op.pick (Operand.tmp 56) (Operand.const (Value.bool true)) (Operand.tmp 70), type := 4, pos := "file.go:53", after := #[{ on := 19, ground := Ground.data }, { on := 33, ground := Ground.data }], guard := none }) (v := ?v34) rfl (by kernel_rfl) (by kernel_rfl) (by kernel_rfl) (fun _ _ _ h => h) (Or.inl ⟨by rfl, ?hy34⟩) (by assumption) ?rest34
     case hy34 => (intro w hSw; (try dsimp only at hSw); go_simp; try with_reducible rfl)
     try simp only [Act.put, List.setIfInBounds_toArray, List.set_cons_zero, List.set_cons_succ]
     refine wpAnyH_done (by kernel_rfl) ?_ _
     all_goals
      go_wp2_with fail
      go_meet
      case rel => exact ⟨rfl, rfl, HB2.out.trans (HB3.out.mono HB2.out.size)⟩
    case rest =>
     obtain ⟨rfl, rfl, hbc⟩ := hcut
     have hsc6 : f.scope.length ≤ 6 := HOK.out.2.2.2.2.2.2.2
     have HBC2 := Lib.hid hbc
     clear hbc x0 x1 q2 hc hc2
     go_wp2_with fail
     go_roundw
     case measure => simp [intOf]; omega
     case rel => exact ⟨j + 1, by go_num, by omega, HBW.out.trans (HBC2.out.mono HBW.out.size)⟩
   ·obtain rfl : j = f.scope.length := by omega
    have HBW := Lib.hid (HB.out.trans (hbw.mono HB.out.size))
    clear hbw z0 z1
    go_wp2_with fail
    go_ret
    exact ⟨rfl, HBW.out⟩
set_option maxRecDepth 100000 in
theorem unfit_any {w : World} {g : Nat} {nm fv : Value} {K : Int} {SA : Option Addr} {sc : Nat} {sizes : List Int} {F : Nat → Prop} {v : Value} {f : Raw} (hg : Blk w g 34 #[nm, .int .i64 K, .slice SA sizes.length sc, fv]) (hs : w.ownsRow 0 3 1 (.slice SA sizes.length sc) sizes.length (nums sizes)) (hsl : sizes.length ≤ 1000000)
 (hv : FunV w F v f K) (hok : okF f K) (hf : FitF sizes f) :
 Calls Tryz.prog 97 #[.pointer (some ⟨g, 0, none⟩), v] w fun e w' => e = .returned (.bool false) ∧ Below w.heap.size w w' := by
 have hv0 := hv
 obtain ⟨v1, tg, rfl, ⟨⟨A1, c1, rfl⟩, -⟩, -, -⟩ := hv0
 have hb := bone w (.cells #[.slice A1 f.scope.length c1, .pointer (some ⟨tg, 0, none⟩)] 37)
 have hft := fits_any (Blk.under hg hb) (own_under hs hb) hsl (hv.off (S := fun _ => False) (Tch.of_below hb _) fun k h => h.elim) hok hf
 have HB := Lib.hid hb
 clear hv hg hs hb hok hf
 go_enter Tryz.func97, Tryz.ntmps97
 go_wp2_with fail
 refine hft.mono ?_
 rintro e w2 ⟨rfl, hb2⟩
 clear hft
 have HB2 := Lib.hid (bto HB.out hb2)
 clear hb2
 go_wp2_with fail
 go_ret
 exact ⟨rfl, HB2.out⟩
end Go.Proofs.YtjpkkkphhaajgaaGreatDoor.wcp
/- Tuples.Put, and how many are told then. -/
namespace Go.Proofs.YtjpkkkphhaajgaaGreatDoor.wcp
open Go Go.RowKit Go.ChangeShapes Go.WideShapes Go.ChangeAt Go.Maps Go.Proofs.YtjpkkkphhaajgaaGreatDoor.words Go.Proofs.YtjpkkkphhaajgaaGreatDoor.scn
set_option maxRecDepth 100000 in
set_option maxHeartbeats 8000000 in
theorem tput2_any {w : World} {g n : Nat} {F : Nat → Prop} {T : TpH} (hT : TpV w g F n T) (hok : okT T) (A : Option Addr) (m cap : Nat) (t : List Int) (c : Int) (hr : Reads w w.heap.size 1 A m (nums t)) (hin : InS T.sizes t) (hc : inB c T.k = true) (hn : n ≤ 1000000) :
 Calls Tryz.prog 65 #[.pointer (some ⟨g, 0, none⟩), .slice A m cap, .int .i64 c] w fun e w' => e = .returned (.int .i64 0) ∧ TpV w' g F (if c = T.other then n else n + 1) (putF T t c) ∧ Tch w w' (fun k => F k ∧ ∀ t cs, ¬ Blk w k t cs) := by
 obtain ⟨h6, hs, ho⟩ := hok
 have hk := tkey_any hT h6 hs A m cap t hr hin
 have hT0 := Lib.hid hT
 obtain ⟨hFg, SA, sc, mb, D, hb, hown, hf, hm, hmb, hd⟩ := hT
 have ht := hin.tpl h6 hs
 obtain ⟨a0, a1, a2, a3, a4, a5, hpd⟩ := six ht.pad.1
 rw [hpd] at hk
 have hkey : keyOf Tryz.prog 166 (.agg #[.int .i8 a0, .int .i8 a1, .int .i8 a2, .int .i8 a3, .int .i8 a4, .int .i8 a5]) = some (keyL (pad t)) := by
  have := keyOf6 ht.pad.1 ht.pad.2
  rw [hpd] at this ⊢
  exact this
 have hi := in_any c T.k
 rw [hc] at hi
 have hcw : (Lit.int .i64 c).wf = true := by
  unfold inB at hc
  rw [decide_eq_true_eq] at hc
  exact WalkArith.wf_i64 (by omega)
 have HB := Lib.hid hb
 have HOWN := Lib.hid hown
 have HF := Lib.hid hf
 have HM := Lib.hid hm
 have HMB := Lib.hid hmb
 have HD := Lib.hid hd
 have HT := Lib.hid ht
 have HFG := Lib.hid hFg
 clear hFg hb hown hf hm hmb hd ht hpd hr hin hc h6 hs ho
 go_enter Tryz.func65, Tryz.ntmps65
 go_wp2_with fail
 refine hk.mono ?_
 rintro e w1 ⟨rfl, hb1⟩
 clear hk
 rw [show keyV [a0, a1, a2, a3, a4, a5] = .agg #[.int .i8 a0, .int .i8 a1, .int .i8 a2, .int .i8 a3, .int .i8 a4, .int .i8 a5] from rfl]
 have hB2 := bto hb1 (bone w1 (.cells #[.int .i8 a0, .int .i8 a1, .int .i8 a2, .int .i8 a3, .int .i8 a4, .int .i8 a5] 166))
 have hx2 : Blk (w1.alloc (.cells #[.int .i8 a0, .int .i8 a1, .int .i8 a2, .int .i8 a3, .int .i8 a4, .int .i8 a5] 166)) w1.heap.size 166 #[.int .i8 a0, .int .i8 a1, .int .i8 a2, .int .i8 a3, .int .i8 a4, .int .i8 a5] := Blk.new _ _ _
 have hb2 := Blk.under HB.out hB2
 obtain ⟨q0, q1, q2, q3, -⟩ := Blk.four (t := 103) hb2
 obtain ⟨x0, x1, x2, x3, x4, x5, -⟩ := Blk.six (t := 166) hx2
 have hi2 := hi (w1.alloc (.cells #[.int .i8 a0, .int .i8 a1, .int .i8 a2, .int .i8 a3, .int .i8 a4, .int .i8 a5] 166))
 obtain ⟨w2, hw2⟩ : ∃ w2, w1.alloc (.cells #[.int .i8 a0, .int .i8 a1, .int .i8 a2, .int .i8 a3, .int .i8 a4, .int .i8 a5] 166) = w2 := ⟨_, rfl⟩
 rw [hw2] at q0 q1 q2 q3 x0 x1 x2 x3 x4 x5 hi2 hB2 hb2
 have HB2 := Lib.hid hB2
 have hm2 : w2.ownsMap Tryz.prog 166 (plainElem Tryz.prog 2) mb n D := map_tch HM.out (Tch.of_below hB2 (fun _ => False)) id
 have HM2 := Lib.hid hm2
 clear hB2 hb2 hx2 hi hm2 hb1
 have hdone : ∀ (w3 : World) (N : Nat) (D' : DataW Unit) (f' : List Int → Option Int), w3.ownsMap Tryz.prog 166 (plainElem Tryz.prog 2) mb N D' → w2.drew.grownBy w3 (some mb) → TD D' T.sizes.length f' → TpV w3 g F N { T with f := f' } ∧ Tch w w3 (fun k => F k ∧ ∀ t cs, ¬ Blk w k t cs) := fun w3 N D' f' h1 h2 h3 => by
  have t2 : Tch w2 w3 (fun k => k = mb) := ((Tch.refl w2 (fun k => k = mb)).drew).trans (Tch.of_grown h2 (S := fun k => k = mb) fun q _ hq => Option.some.inj hq) fun _ _ h => h
  have t1 : Tch w w3 (fun k => k = mb) := (Tch.of_below HB2.out (fun k => k = mb)).trans t2 fun _ _ h => h
  have hne : ∀ cs t, ¬ Blk w mb t cs := fun cs t hb => by
   obtain ⟨es, clock, hh, _⟩ := HM.out
   unfold Blk at hb; rw [hb] at hh; cases hh
  refine ⟨⟨HFG.out, SA, sc, mb, D', t1.blk HB.out (fun e => hne _ _ (by rw [← e]; exact HB.out)), own_off HOWN.out t1 (fun k hk => .inr fun cs hb => hne cs _ (by rw [← hk]; exact hb)), HF.out, h1, HMB.out, h3⟩, t1.mono fun k _ e => by rw [e]; exact ⟨HMB.out, fun t cs => hne cs t⟩⟩
 have HDONE := Lib.hid hdone
 clear hdone
 go_wp2_with fail
 refine hi2.mono ?_
 rintro e w3 ⟨rfl, rfl⟩
 clear hi2
 by_cases hco : c = T.other
 ·have HCO := Lib.hid hco
  go_upto_region 8 with fail
  clear hco hw2
  go_still_tail 5, (by kernel_rfl)
  change wpList _ _ _ _ _ w2.drew
  obtain ⟨wd, hwd⟩ : ∃ wd, w2.drew = wd := ⟨_, rfl⟩
  have HD2 := HDONE.out
  have hmd := HM2.out.drew
  rw [hwd] at HD2 hmd ⊢
  have HD3 := Lib.hid HD2
  clear HD2 hwd
  go_wp2_with (first
   | (at_delete; refine wpList_delete_own _ rfl _ _ 101 166 rfl _ keyed6 Tryz.underlying101 _ mb n D rfl hmd _ (keyL (pad t)) rfl hkey ?_; intro w4 hown4 hturn4; have HO4 := Lib.hid hown4; have HT4 := Lib.hid hturn4; clear hown4 hturn4)
   | fail)
  go_ret
  obtain ⟨h1, h2⟩ := HD3.out w4 n _ (fun u => if u = t then none else T.f u) HO4.out HT4.out.grown (td_del HD.out HT.out)
  exact ⟨rfl, by have e := HCO.out; unfold putF; simp only [e, if_true]; exact h1, h2⟩
 ·have HCO := Lib.hid hco
  go_upto_region 2 with fail
  clear hw2 hco
  go_still_tail 6, (by kernel_rfl)
  change wpList _ _ _ _ _ w2.drew
  obtain ⟨wd, hwd⟩ : ∃ wd, w2.drew = wd := ⟨_, rfl⟩
  have HD2 := HDONE.out
  have hmd := HM2.out.drew
  rw [hwd] at HD2 hmd ⊢
  have HD3 := Lib.hid HD2
  clear HD2 hwd
  go_wp2_with (first
   | (at_mapUpdate; refine wpList_mapUpdate_own _ rfl _ _ _ 101 rfl 166 2 keyed6 Tryz.underlying101 _ mb n D rfl hmd (by simp only [maxLen]; omega) _ _ (keyL (pad t)) rfl rfl hkey _ [] (plainElem_int Tryz.underlying2 hcw) ?_; intro w4 hown4 hgrow4; have HO4 := Lib.hid hown4; have HG4 := Lib.hid hgrow4; clear hown4 hgrow4)
   | fail)
  go_ret
  obtain ⟨h1, h2⟩ := HD3.out w4 (n + 1) _ (fun u => if u = t then some c else T.f u) HO4.out HG4.out (td_put HD.out HM2.out.isMap HT.out)
  exact ⟨rfl, by have e := HCO.out; unfold putF; simp only [e, if_false]; exact h1, h2⟩
end Go.Proofs.YtjpkkkphhaajgaaGreatDoor.wcp
/- Words put together, one blank between: the text ends in its last word. Plain. -/
namespace Go.Proofs.YtjpkkkphhaajgaaGreatDoor.scn
open Go Go.RowKit Go.Proofs.YtjpkkkphhaajgaaGreatDoor.words
/-- whatever follows, so far these are the words, the last under way -/
def Mid (bs : List UInt8) (l : List Wd) : Prop := ∀ ext, Far (bs ++ ext) bs.length l true
theorem Mid.told {bs : List UInt8} {l : List Wd} (h : Mid bs l) : Told bs l (-1) := by
 have := h []
 rw [List.append_nil] at this
 exact this.ends
theorem Mid.blank {bs : List UInt8} {l : List Wd} (h : Mid bs l) {b : UInt8} (hb : isB b.toNat = true) : Bld (bs ++ [b]) l := by
 intro ext
 have h1 := h ([b] ++ ext)
 have := h1.between (by simp) (by
  unfold at_
  have := getD_mid bs [b] ext (k := 0) (by simp)
  rw [Nat.add_zero] at this
  rw [this]; exact hb)
 rw [List.append_assoc, List.length_append]
 exact this
theorem Bld.mid {bs : List UInt8} {l : List Wd} (h : Bld bs l) {v : List UInt8} (hv : v ≠ []) (hall : v.all (fun b => isIn b.toNat) = true) : Mid (bs ++ v) (l ++ [(v, bs.length)]) := by
 intro ext
 obtain ⟨c, cs, rfl⟩ : ∃ c cs, v = c :: cs := by cases v with
  | nil => exact absurd rfl hv
  | cons c cs => exact ⟨c, cs, rfl⟩
 have hat : ∀ k, k < (c :: cs).length → isIn (at_ (bs ++ ((c :: cs) ++ ext)) (bs.length + k)) = true := fun k hk => by
  unfold at_
  rw [getD_mid _ _ _ hk]
  rw [List.all_eq_true] at hall
  refine hall _ ?_
  rw [List.getD_eq_getElem?_getD, List.getElem?_eq_getElem hk]
  exact List.getElem_mem hk
 have h0 := h ((c :: cs) ++ ext)
 have key : ∀ k, k < (c :: cs).length → Far (bs ++ ((c :: cs) ++ ext)) (bs.length + k + 1) (l ++ [((c :: cs).take (k + 1), bs.length)]) true := by
  intro k
  induction k with
  | zero =>
    intro hk
    have h1 := h0.begins (by simp) (hat 0 hk)
    rw [show (bs ++ ((c :: cs) ++ ext)).getD bs.length 0 = c by
     have := getD_mid bs (c :: cs) ext (k := 0) hk
     rw [Nat.add_zero] at this
     rw [this]; rfl] at h1
    exact h1
  | succ k ih =>
    intro hk
    obtain ⟨l0, w, s, he, _, h2⟩ := (ih (by omega)).goes (by simp at hk ⊢; omega) (hat (k + 1) hk)
    obtain ⟨rfl, h3⟩ := List.append_inj' he rfl
    injection h3 with h3
    injection h3 with h4 h5
    subst h4; subst h5
    have h6 := getD_mid bs (c :: cs) ext (k := k + 1) hk
    rw [show bs.length + k + 1 = bs.length + (k + 1) by omega, h6] at h2
    have h7 : (c :: cs).take (k + 1) ++ [(c :: cs).getD (k + 1) 0] = (c :: cs).take (k + 1 + 1) := by
     rw [List.take_add_one (i := k + 1), List.getD_eq_getElem?_getD, List.getElem?_eq_getElem hk]
     rfl
    rw [h7] at h2
    exact h2
 have h1 := key cs.length (by simp)
 rw [show (c :: cs).take (cs.length + 1) = c :: cs from List.take_of_length_le (by simp)] at h1
 have e1 : bs ++ (c :: cs) ++ ext = bs ++ ((c :: cs) ++ ext) := by simp
 have e2 : (bs ++ (c :: cs)).length = bs.length + cs.length + 1 := by simp; omega
 rw [e1, e2]
 exact h1
/-- one word more -/
theorem Mid.snoc {bs : List UInt8} {l : List Wd} (h : Mid bs l) {v : List UInt8} (hv : v ≠ []) (hall : v.all (fun b => isIn b.toNat) = true) : Mid (bs ++ 32 :: v) (l ++ [(v, bs.length + 1)]) := by
 have := (h.blank (b := 32) (by decide)).mid hv hall
 rw [List.append_assoc, List.length_append] at this
 exact this
/-! a number's digits are a word -/
end Go.Proofs.YtjpkkkphhaajgaaGreatDoor.scn
/- The document's reader: its block; wrong, large. -/
namespace Go.Proofs.YtjpkkkphhaajgaaGreatDoor.wcp
open Go Go.RowKit Go.ChangeShapes Go.WideShapes Go.ChangeAt Go.Proofs.YtjpkkkphhaajgaaGreatDoor.words Go.Proofs.YtjpkkkphhaajgaaGreatDoor.scn
/-- the document's reader's block -/
def QB (w : World) (gr : Nat) (lv : Value) (en ee bad badAt big bigAt told : Int) (sv : Value) : Prop :=
 Blk w gr 173 #[lv, .int .i64 en, .int .i64 ee, .int .i64 bad, .int .i64 badAt, .int .i64 big, .int .i64 bigAt, .int .i64 told, sv]
variable {w : World} {gr : Nat} {lv sv : Value} {en ee bad badAt big bigAt told : Int}
theorem QB.cells (h : QB w gr lv en ee bad badAt big bigAt told sv) : w.cell? ⟨gr, 0, none⟩ = some lv ∧ w.cell? ⟨gr, 1, none⟩ = some (.int .i64 en) ∧ w.cell? ⟨gr, 2, none⟩ = some (.int .i64 ee) ∧ w.cell? ⟨gr, 3, none⟩ = some (.int .i64 bad) ∧
 w.cell? ⟨gr, 4, none⟩ = some (.int .i64 badAt) ∧ w.cell? ⟨gr, 5, none⟩ = some (.int .i64 big) ∧ w.cell? ⟨gr, 6, none⟩ = some (.int .i64 bigAt) ∧ w.cell? ⟨gr, 7, none⟩ = some (.int .i64 told) ∧ w.cell? ⟨gr, 8, none⟩ = some sv ∧ ∀ i, w.frozen? ⟨gr, i, none⟩ = false :=
 ⟨(Blk.cell h 0).trans rfl, (Blk.cell h 1).trans rfl, (Blk.cell h 2).trans rfl, (Blk.cell h 3).trans rfl, (Blk.cell h 4).trans rfl, (Blk.cell h 5).trans rfl, (Blk.cell h 6).trans rfl, (Blk.cell h 7).trans rfl, (Blk.cell h 8).trans rfl, fun i => Blk.frozen h i⟩
theorem qwrong_any (h : QB w gr lv en ee bad badAt big bigAt told sv) (er x : Int) : Calls Tryz.prog 91 #[.pointer (some ⟨gr, 0, none⟩), .int .i64 er, .int .i64 x] w fun e w' =>
 (∃ v, e = .returned v) ∧ ((bad = 0 ∧ QB w' gr lv en ee er x big bigAt told sv) ∨ (bad ≠ 0 ∧ QB w' gr lv en ee bad badAt big bigAt told sv)) ∧ Tch w w' fun k => k = gr := by
 obtain ⟨c0, c1, c2, c3, c4, c5, c6, c7, c8, cf⟩ := h.cells
 have f3 := cf 3
 have f4 := cf 4
 by_cases hb : bad = 0
 ·subst hb
  have h2 := (h.set_ 3 (.int .i64 er)).set_ 4 (.int .i64 x)
  have H2 : Hid (QB _ gr lv en ee er x big bigAt told sv) := h2
  clear h2
  go_enter Tryz.func91, Tryz.ntmps91
  go_wp2
  go_end0
  exact ⟨⟨_, rfl⟩, .inl ⟨by simp, H2.out⟩, tch2 _ _ _ _ _ _⟩
 ·have hbf : (bad == 0) = false := by simp [hb]
  have HB := Lib.hid hb
  clear hb
  go_enter Tryz.func91, Tryz.ntmps91
  go_wp2
  go_end0
  exact ⟨⟨_, rfl⟩, .inr ⟨HB.out, h⟩, Tch.refl _ _⟩
theorem qlarge_any (h : QB w gr lv en ee bad badAt big bigAt told sv) (is : Bool) (x : Int) : Calls Tryz.prog 88 #[.pointer (some ⟨gr, 0, none⟩), .bool is, .int .i64 x] w fun e w' =>
 (∃ v, e = .returned v) ∧ ((is = true ∧ big = 0 ∧ bad = 0 ∧ QB w' gr lv en ee bad badAt 5 x told sv) ∨ (¬ (is = true ∧ big = 0 ∧ bad = 0) ∧ QB w' gr lv en ee bad badAt big bigAt told sv)) ∧ Tch w w' fun k => k = gr := by
 obtain ⟨c0, c1, c2, c3, c4, c5, c6, c7, c8, cf⟩ := h.cells
 have f5 := cf 5
 have f6 := cf 6
 cases is with
 | false =>
   go_enter Tryz.func88, Tryz.ntmps88
   go_wp2
   go_end0
   exact ⟨⟨_, rfl⟩, .inr ⟨by simp, h⟩, Tch.refl _ _⟩
 | true =>
   by_cases hg : big = 0
   ·subst hg
    by_cases hb : bad = 0
    ·subst hb
     have H2 : Hid (QB _ gr lv en ee 0 badAt 5 x told sv) := (h.set_ 5 (.int .i64 5)).set_ 6 (.int .i64 x)
     go_enter Tryz.func88, Tryz.ntmps88
     go_wp2
     go_end0
     exact ⟨⟨_, rfl⟩, .inl ⟨by simp, by simp, by simp, H2.out⟩, tch2 _ _ _ _ _ _⟩
    ·have hbf : (bad == 0) = false := by simp [hb]
     have HB := Lib.hid hb
     clear hb
     go_enter Tryz.func88, Tryz.ntmps88
     go_wp2
     go_end0
     exact ⟨⟨_, rfl⟩, .inr ⟨fun h => HB.out h.2.2, h⟩, Tch.refl _ _⟩
   ·have hgf : (big == 0) = false := by simp [hg]
    have HG := Lib.hid hg
    clear hg
    go_enter Tryz.func88, Tryz.ntmps88
    go_wp2
    go_end0
    exact ⟨⟨_, rfl⟩, .inr ⟨fun h => HG.out h.2.1, h⟩, Tch.refl _ _⟩
end Go.Proofs.YtjpkkkphhaajgaaGreatDoor.wcp
/- The document's reader: word. -/
namespace Go.Proofs.YtjpkkkphhaajgaaGreatDoor.wcp
open Go Go.RowKit Go.ChangeShapes Go.WideShapes Go.ChangeAt Go.Proofs.YtjpkkkphhaajgaaGreatDoor.words Go.Proofs.YtjpkkkphhaajgaaGreatDoor.scn
/-- the words that are left, in the row of all -/
def WRow (w : World) (lv : Value) (l : List Wd) : Prop :=
 (l.length ≤ 1000000 ∧ ∀ x ∈ l, x.1.length ≤ 1000000) ∧ ((l = [] ∧ ∃ A c, lv = .slice A 0 c) ∨ ∃ (full : List Wd) (p q c : Nat), l = full.drop p ∧ p < full.length ∧ lv = .slice (some ⟨q, p * 2, none⟩) (full.length - p) (c - p) ∧ w.ownsRow 0 175 2 (.slice (some ⟨q, 0, none⟩) full.length c) full.length (full.flatMap wv))
theorem WRow.tch {w w' : World} {S : Nat → Prop} {lv : Value} {l : List Wd} (h : WRow w lv l) (ht : Tch w w' S) (hs : ∀ k, S k → ∀ cs, ¬ Blk w k 175 cs) : WRow w' lv l := by
 obtain ⟨hbd, h⟩ := h
 refine ⟨hbd, ?_⟩
 rcases h with h | ⟨full, p, q, c, h1, h2, h3, h4⟩
 ·exact .inl h
 ·exact .inr ⟨full, p, q, c, h1, h2, h3, own_off h4 ht fun k hk => .inr (hs k hk)⟩
/-- the reader goes on -/
def Qok (w : World) (gr : Nat) (en ee : Int) (s : Ps) (sv : Value) : Prop :=
 ∃ (lv : Value) (badAt big bigAt : Int), QB w gr lv en ee 0 badAt big bigAt s.told sv ∧ WRow w lv s.l ∧ ((s.big = none ∧ big = 0) ∨ ∃ x, s.big = some x ∧ big = 5 ∧ bigAt = x)
/-- it stopped: e at x -/
def Qbad (w : World) (gr : Nat) (en ee e x : Int) (sv : Value) : Prop := ∃ (lv : Value) (big bigAt told : Int), QB w gr lv en ee e x big bigAt told sv ∧ e ≠ 0
variable {w : World} {gr : Nat} {en ee : Int} {s : Ps} {sv : Value}
theorem Qok.tch {w' : World} {S : Nat → Prop} (h : Qok w gr en ee s sv) (ht : Tch w w' S) (h1 : ¬ S gr) (hs : ∀ k, S k → ∀ cs, ¬ Blk w k 175 cs) : Qok w' gr en ee s sv := by
 obtain ⟨lv, badAt, big, bigAt, hr, hw, hg⟩ := h
 exact ⟨lv, badAt, big, bigAt, ht.blk hr h1, hw.tch ht hs, hg⟩
theorem Qbad.tch {w' : World} {S : Nat → Prop} {e x : Int} (h : Qbad w gr en ee e x sv) (ht : Tch w w' S) (h1 : ¬ S gr) : Qbad w' gr en ee e x sv := by
 obtain ⟨lv, big, bigAt, told, hr, he⟩ := h
 exact ⟨lv, big, bigAt, told, ht.blk hr h1, he⟩
theorem Qok.below {w' : World} (h : Qok w gr en ee s sv) (hb : Below w.heap.size w w') : Qok w' gr en ee s sv := h.tch (Tch.of_below hb (fun _ => False)) id fun _ h => h.elim
theorem Qbad.below {w' : World} {e x : Int} (h : Qbad w gr en ee e x sv) (hb : Below w.heap.size w w') : Qbad w' gr en ee e x sv := h.tch (Tch.of_below hb (fun _ => False)) id
abbrev wdv (v : List UInt8) (x : Int) : Value := .agg #[strV v, .int .i64 x]
def QWordR (w : World) (gr : Nat) (en ee : Int) (s : Ps) (sv : Value) (e : Ending) (w' : World) : Prop :=
 ∃ (v : List UInt8) (x : Int), e = .returned (wdv v x) ∧ Tch w w' (fun k => k = gr) ∧
  match pword en ee s with
  | .ok wd s' => v = wd.1 ∧ x = wd.2 ∧ Qok w' gr en ee s' sv
  | .bad er at_ => v = [] ∧ Qbad w' gr en ee er at_ sv
theorem szset (w : World) (a : Addr) (v : Value) : (w.setCell a v).heap.size = w.heap.size := by simp [World.setCell]
theorem wrow_at {B q p : Nat} {full : List Wd} {wd : Wd} (h : Reads w B 2 (some ⟨q, 0, none⟩) full.length (full.flatMap wv)) (hw : full[p]? = some wd) :
 w.cell? ⟨q, p * 2, none⟩ = some (strV wd.1) ∧ w.cell? ⟨q, p * 2 + 1, none⟩ = some (.int .i64 wd.2) := by
 have hp : p < full.length := (List.getElem?_eq_some_iff.1 hw).1
 obtain ⟨ad, e, _, hc⟩ := h.2 (by omega)
 injection e with e
 subst e
 have h0 : (full.flatMap wv)[p * 2]? = some (strV wd.1) ∧ (full.flatMap wv)[p * 2 + 1]? = some (.int .i64 wd.2) := by
  clear h hc
  induction full generalizing p with
  | nil => simp at hw
  | cons x l ih =>
    cases p with
    | zero => simp at hw; subst hw; exact ⟨rfl, rfl⟩
    | succ p =>
      have := ih (by simpa using hw) (by simp at hp; omega)
      rw [show (p + 1) * 2 = p * 2 + 1 + 1 by omega]
      exact this
 have e1 := hc _ _ h0.1
 have e2 := hc _ _ h0.2
 rw [show (⟨q, 0, none⟩ : Addr).add (p * 2) = ⟨q, p * 2, none⟩ by simp [Addr.add]; omega] at e1
 rw [show (⟨q, 0, none⟩ : Addr).add (p * 2 + 1) = ⟨q, p * 2 + 1, none⟩ by simp [Addr.add]] at e2
 exact ⟨e1, e2⟩
theorem qword_done {V lv : Value} {bad badAt big bigAt told : Int} {r : List Wd} (h : QB w gr lv en ee bad badAt big bigAt told sv) (hv : WRow w V r) (o1 o2 : Obj) {wf : World} (hw : ((w.setCell ⟨gr, 0, none⟩ V).alloc o1).alloc o2 = wf) :
 Tch w wf (fun k => k = gr) ∧ QB wf gr V en ee bad badAt big bigAt told sv ∧ WRow wf V r := by
 subst hw
 have T1 : Tch w (w.setCell ⟨gr, 0, none⟩ V) (fun k => k = gr) := (Tch.refl w (fun k => k = gr)).put (p := ⟨gr, 0, none⟩) V rfl
 have T2 := Tch.of_below (bone (w.setCell ⟨gr, 0, none⟩ V) o1) (fun k => k = gr)
 have T3 := Tch.of_below (bone ((w.setCell ⟨gr, 0, none⟩ V).alloc o1) o2) (fun k => k = gr)
 have T := (T1.trans T2 fun _ _ h => h).trans T3 fun _ _ h => h
 exact ⟨T, Blk.under (Blk.under (h.set_ 0 V) (bone _ _)) (bone _ _), hv.tch T fun k hk cs hb => by subst hk; exact Blk.ne_ h hb (by decide) rfl⟩
theorem wrow_next {full : List Wd} {p q c : Nat} (hp : p < full.length) (ho : w.ownsRow 0 175 2 (.slice (some ⟨q, 0, none⟩) full.length c) full.length (full.flatMap wv)) (A : Option Addr) (hA : p + 1 < full.length → A = some ⟨q, p * 2 + 2, none⟩) (c' : Nat) (hc : p + 1 < full.length → c' = c - p - 1) (hbd : (full.drop p).length ≤ 1000000 ∧ ∀ x ∈ full.drop p, x.1.length ≤ 1000000) :
 WRow w (.slice A (full.length - p - 1) c') (full.drop (p + 1)) := by
 refine ⟨⟨by have := hbd.1; simp at this ⊢; omega, fun x hx => hbd.2 x (by rw [List.drop_eq_getElem_cons hp]; exact List.mem_cons_of_mem _ hx)⟩, ?_⟩
 by_cases h : p + 1 < full.length
 ·rw [hA h, hc h]
  exact .inr ⟨full, p + 1, q, c, rfl, h, by rw [show (p + 1) * 2 = p * 2 + 2 by omega, show full.length - p - 1 = full.length - (p + 1) by omega, show c - p - 1 = c - (p + 1) by omega], ho⟩
 ·rw [show full.length - p - 1 = 0 by omega]
  exact .inl ⟨List.drop_eq_nil_iff.2 (by omega), A, c', rfl⟩
theorem qword_bad {er at_ : Int} (h : Qbad w gr en ee er at_ sv) : Calls Tryz.prog 87 #[.pointer (some ⟨gr, 0, none⟩)] w fun e w' => e = .returned (wdv [] 0) ∧ Below w.heap.size w w' := by
 obtain ⟨lv, big, bigAt, told, hr, he⟩ := h
 have hb1 := bone w (.cells #[.string ⟨#[]⟩, .int .i64 0] 175)
 obtain ⟨c0, c1, c2, c3, c4, c5, c6, c7, c8, cf⟩ := QB.cells (Blk.under hr hb1)
 have hneb : (er != 0) = true := by simp [he]
 have HB1 := Lib.hid hb1
 clear hr he cf hb1
 go_enter Tryz.func87, Tryz.ntmps87
 go_wp2_with fail
 have hz : Blk (w.alloc (.cells #[.string ⟨#[]⟩, .int .i64 0] 175)) w.heap.size 175 #[.string ⟨#[]⟩, .int .i64 0] := Blk.new _ _ _
 have k0 := (Blk.cell hz 0).trans rfl
 have k1 := (Blk.cell hz 1).trans rfl
 exact bodyPost_ret (v := wdv [] 0) (by simp [results, Tryz.results87, go_sem, k0, k1, wdv]) rfl ⟨rfl, HB1.out⟩
set_option maxHeartbeats 4000000 in
theorem qword_any (h : Qok w gr en ee s sv) (hee : ee ≠ 0) : Calls Tryz.prog 87 #[.pointer (some ⟨gr, 0, none⟩)] w fun e w' => QWordR w gr en ee s sv e w' := by
 obtain ⟨lv, badAt, big, bigAt, hr, ⟨hbd, hw⟩, hg⟩ := h
 have HBD := Lib.hid hbd
 clear hbd
 have hb1 := bone w (.cells #[.string ⟨#[]⟩, .int .i64 0] 175)
 have hr1 : QB (w.alloc (.cells #[.string ⟨#[]⟩, .int .i64 0] 175)) gr lv en ee 0 badAt big bigAt s.told sv := Blk.under hr hb1
 have hz : Blk (w.alloc (.cells #[.string ⟨#[]⟩, .int .i64 0] 175)) w.heap.size 175 #[.string ⟨#[]⟩, .int .i64 0] := Blk.new _ _ _
 have hgl := Blk.lt hr
 obtain ⟨c0, c1, c2, c3, c4, c5, c6, c7, c8, cf⟩ := hr1.cells
 have HZ := Lib.hid hz
 have HR1 := Lib.hid hr1
 have HB1 := Lib.hid hb1
 have HG := Lib.hid hg
 have HR := Lib.hid hr
 rcases hw with ⟨hl, A, c, rfl⟩ | ⟨full, p, q, c, hl, hp, rfl, ho⟩
 ·have hwr := qwrong_any (w := (w.alloc (.cells #[.string ⟨#[]⟩, .int .i64 0] 175)).drew) hr1 ee en
  have HL := Lib.hid hl
  clear hr hr1 hz hb1 hg hl cf
  go_enter Tryz.func87, Tryz.ntmps87
  go_upto_region 4 with fail
  go_region_held3 (fun V => V.cell? ⟨gr, 1, none⟩ = some (.int .i64 en) ∧ V.cell? ⟨gr, 2, none⟩ = some (.int .i64 ee)) (first | exact ⟨c1, c2⟩ | exact HS1) (first
   | (go_at_call 91; refine hwr.mono ?_; rintro e w1 ⟨⟨u, rfl⟩, hc, ht⟩; have HS1 : w1.cell? ⟨gr, 1, none⟩ = some (.int .i64 en) ∧ w1.cell? ⟨gr, 2, none⟩ = some (.int .i64 ee) := (by rcases hc with ⟨_, hc⟩ | ⟨h0, _⟩ <;> first | exact absurd rfl h0 | exact ⟨(Blk.cell hc 1).trans rfl, (Blk.cell hc 2).trans rfl⟩); have HC := Lib.hid hc; have HT1 := Lib.hid ht; have hz1 := ht.blk HZ.out (by omega); have z0 := (Blk.cell hz1 0).trans rfl; have z1 := (Blk.cell hz1 1).trans rfl; have zf0 := Blk.frozen hz1 0; have zf1 := Blk.frozen hz1 1; have HZ1 := Lib.hid hz1; clear hwr hc ht hz1))
  all_goals go_wp2_with fail
  obtain ⟨wf, hwf⟩ : ∃ wf, (w1.setCell ⟨w.heap.size, 0, none⟩ (.string ⟨#[]⟩)).setCell ⟨w.heap.size, 1, none⟩ (.int .i64 0) = wf := ⟨_, rfl⟩
  have TF : Tch w1 wf (fun k => k = w.heap.size) := by rw [← hwf]; exact ((Tch.refl w1 (fun k => k = w.heap.size)).put (p := ⟨w.heap.size, 0, none⟩) _ rfl).put (p := ⟨w.heap.size, 1, none⟩) _ rfl
  have BF : Blk wf w.heap.size 175 #[.string ⟨#[]⟩, .int .i64 0] := by rw [← hwf]; exact (HZ1.out.set_ 0 _).set_ 1 _
  rw [hwf]
  have k0 := (Blk.cell BF 0).trans rfl
  have k1 := (Blk.cell BF 1).trans rfl
  refine bodyPost_ret (v := wdv [] 0) (by simp [results, Tryz.results87, go_sem, k0, k1, wdv]) rfl ⟨[], 0, rfl, ((Tch.of_below (below_drewN HB1.out 1) (fun k => k = gr)).trans HT1.out fun _ _ h => h).trans TF fun k hk h => by omega, ?_⟩
  have e1 : pword en ee s = .bad ee en := by unfold pword; rw [HL.out]
  rw [e1]
  refine ⟨rfl, ?_⟩
  rcases HC.out with ⟨_, hc⟩ | ⟨h0, _⟩
  ·exact ⟨_, _, _, _, TF.blk hc (by omega), hee⟩
  ·exact absurd rfl h0
 ·have hfl : (full.flatMap wv).length = full.length * 2 := ho.1
  have hre := Reads.of_own (own_under ho hb1)
  have HL := Lib.hid hl
  have HO := Lib.hid ho
  have HP := Lib.hid hp
  have hlenI : (((full.length - p : Nat) : Int) == 0) = false := by simp; omega
  have hz0 := Blk.frozen hz 0
  have hz1 := Blk.frozen hz 1
  obtain ⟨wd, hwd⟩ : ∃ wd, full[p]? = some wd := ⟨full[p], List.getElem?_eq_getElem hp⟩
  obtain ⟨d0, d1⟩ := wrow_at hre hwd
  have E1 : Hid (pword en ee s = .ok wd { s with l := full.drop (p + 1) }) := by
   have hl0 : s.l = wd :: full.drop (p + 1) := by
    rw [hl, List.drop_eq_getElem_cons hp]
    rw [List.getElem?_eq_getElem hp] at hwd
    injection hwd with hwd
    rw [hwd]
   unfold Hid pword
   rw [hl0]
  have f0 := cf 0
  clear hr hr1 hz hb1 hg hl cf ho hfl hre hwd
  go_enter Tryz.func87, Tryz.ntmps87
  have hcap := own_cap HO.out
  have hc1 : 1 ≤ full.length - p := by omega
  have hc2 : full.length - p ≤ c - p := by omega
  go_upto_region 7 with fail
  go_wp2_with fail
  ·obtain ⟨wf, hwf⟩ : ∃ wf, ((w.setCell ⟨gr, 0, none⟩ (.slice (some ⟨q, p * 2, none⟩) (full.length - p - 1) 0)).alloc (.cells #[strV wd.1, .int .i64 wd.2] 175)).alloc (.cells #[strV wd.1, .int .i64 wd.2] 175) = wf := ⟨_, rfl⟩
   obtain ⟨T, hq, hv⟩ := qword_done HR.out (wrow_next HP.out HO.out (some ⟨q, p * 2, none⟩) (fun h => by omega) 0 (fun h => by omega) (by rw [← HL.out]; exact HBD.out)) _ _ hwf
   have kb : Blk wf w.heap.size 175 #[strV wd.1, .int .i64 wd.2] := by
    rw [← hwf]
    have := Blk.new (w.setCell ⟨gr, 0, none⟩ (.slice (some ⟨q, p * 2, none⟩) (full.length - p - 1) 0)) 175 #[strV wd.1, .int .i64 wd.2]
    rw [szset] at this
    exact Blk.under this (bone _ _)
   have k0 := (Blk.cell kb 0).trans rfl
   have k1 := (Blk.cell kb 1).trans rfl
   rw [show strV wd.1 = .string ⟨wd.1.toArray⟩ from rfl] at hwf
   rw [hwf]
   refine bodyPost_ret (v := wdv wd.1 wd.2) (by simp [results, Tryz.results87, go_sem, k0, k1, wdv]) rfl ⟨wd.1, wd.2, rfl, T, ?_⟩
   rw [E1.out]
   exact ⟨rfl, rfl, _, _, _, _, hq, hv, HG.out⟩
  ·obtain ⟨wf, hwf⟩ : ∃ wf, ((w.setCell ⟨gr, 0, none⟩ (.slice (some ⟨q, p * 2 + 2, none⟩) (full.length - p - 1) (c - p - 1))).alloc (.cells #[strV wd.1, .int .i64 wd.2] 175)).alloc (.cells #[strV wd.1, .int .i64 wd.2] 175) = wf := ⟨_, rfl⟩
   obtain ⟨T, hq, hv⟩ := qword_done HR.out (wrow_next HP.out HO.out (some ⟨q, p * 2 + 2, none⟩) (fun h => rfl) _ (fun h => rfl) (by rw [← HL.out]; exact HBD.out)) _ _ hwf
   have kb : Blk wf w.heap.size 175 #[strV wd.1, .int .i64 wd.2] := by
    rw [← hwf]
    have := Blk.new (w.setCell ⟨gr, 0, none⟩ (.slice (some ⟨q, p * 2 + 2, none⟩) (full.length - p - 1) (c - p - 1))) 175 #[strV wd.1, .int .i64 wd.2]
    rw [szset] at this
    exact Blk.under this (bone _ _)
   have k0 := (Blk.cell kb 0).trans rfl
   have k1 := (Blk.cell kb 1).trans rfl
   rw [show strV wd.1 = .string ⟨wd.1.toArray⟩ from rfl] at hwf
   rw [hwf]
   refine bodyPost_ret (v := wdv wd.1 wd.2) (by simp [results, Tryz.results87, go_sem, k0, k1, wdv]) rfl ⟨wd.1, wd.2, rfl, T, ?_⟩
   rw [E1.out]
   exact ⟨rfl, rfl, _, _, _, _, hq, hv, HG.out⟩
/-- the reader, by what was read -/
def QS {α : Type} (w : World) (gr : Nat) (en ee : Int) (sv : Value) (r : Res α) : Prop :=
 match r with
 | .ok _ s => Qok w gr en ee s sv
 | .bad e x => Qbad w gr en ee e x sv
variable {α : Type} {r : Res α}
theorem QS.tch {w' : World} {S : Nat → Prop} (h : QS w gr en ee sv r) (ht : Tch w w' S) (h1 : ¬ S gr) (hs : ∀ k, S k → ∀ cs, ¬ Blk w k 175 cs) : QS w' gr en ee sv r := by
 cases r with
 | ok a s => exact Qok.tch h ht h1 hs
 | bad e x => exact Qbad.tch h ht h1
theorem QS.below {w' : World} (h : QS w gr en ee sv r) (hb : Below w.heap.size w w') : QS w' gr en ee sv r := by
 cases r with
 | ok a s => exact Qok.below h hb
 | bad e x => exact Qbad.below h hb
theorem QS.blk (h : QS w gr en ee sv r) : ∃ lv bad badAt big bigAt told, QB w gr lv en ee bad badAt big bigAt told sv ∧ decide (bad = 0) = r.good ∧ (∀ a s, r = .ok a s → s.told = told) := by
 cases r with
 | ok a s =>
   obtain ⟨lv, badAt, big, bigAt, hr, _⟩ := h
   exact ⟨_, _, _, _, _, _, hr, decide_eq_true rfl, fun a' s' h => by injection h with _ h; rw [h]⟩
 | bad e x =>
   obtain ⟨lv, big, bigAt, told, hr, he⟩ := h
   exact ⟨_, _, _, _, _, _, hr, decide_eq_false he, fun a' s' h => by cases h⟩
theorem QS.lt (h : QS w gr en ee sv r) : gr < w.heap.size := by
 obtain ⟨_, _, _, _, _, _, hr, _⟩ := h.blk
 exact Blk.lt hr
theorem QS.same {β : Type} {r' : Res β} (h : QS w gr en ee sv r) (h1 : ∀ a s, r = .ok a s → ∃ b, r' = .ok b s) (h2 : ∀ e x, r = .bad e x → r' = .bad e x) : QS w gr en ee sv r' := by
 cases r with
 | ok a s => obtain ⟨b, hb⟩ := h1 a s rfl; rw [hb]; exact h
 | bad e x => rw [h2 e x rfl]; exact h
theorem Qok.left (h : Qok w gr en ee s sv) : s.l.length ≤ 1000000 ∧ ∀ x ∈ s.l, x.1.length ≤ 1000000 := by
 obtain ⟨_, _, _, _, _, h, _⟩ := h
 exact h.1
theorem qword_un (h : QS w gr en ee sv r) (hee : ee ≠ 0) : Calls Tryz.prog 87 #[.pointer (some ⟨gr, 0, none⟩)] w fun e w' =>
 ∃ (v : List UInt8) (x : Int), e = .returned (wdv v x) ∧ v.length ≤ 1000000 ∧ Tch w w' (fun k => k = gr) ∧ QS w' gr en ee sv (r.bind fun _ s => pword en ee s) ∧ ∀ wd s', (r.bind fun _ s => pword en ee s) = .ok wd s' → v = wd.1 ∧ x = wd.2 := by
 cases r with
 | ok a s =>
   have hl := Qok.left h
   refine (qword_any h hee).mono ?_
   rintro e w' ⟨v, x, rfl, ht, hm⟩
   rw [Res.bind_ok]
   cases hp : pword en ee s with
   | ok wd s' =>
     rw [hp] at hm
     dsimp only at hm
     refine ⟨v, x, rfl, ?_, ht, hm.2.2, fun wd' s'' he => by injection he with he _; rw [← he]; exact ⟨hm.1, hm.2.1⟩⟩
     obtain ⟨l, b, t, sh⟩ := s
     cases l with
     | nil => have hp : (Res.bad ee en : Res Wd) = .ok wd s' := hp; cases hp
     | cons y l =>
       have hp : (Res.ok y ⟨l, b, t, sh⟩ : Res Wd) = .ok wd s' := hp
       injection hp with hp _
       rw [hm.1, ← hp]
       exact hl.2 y (List.mem_cons_self ..)
   | bad er at_ =>
     rw [hp] at hm
     dsimp only at hm
     exact ⟨v, x, rfl, by rw [hm.1]; simp, ht, hm.2, fun wd' s'' he => by cases he⟩
 | bad er at_ =>
   refine (qword_bad h).mono ?_
   rintro e w' ⟨rfl, hb⟩
   exact ⟨[], 0, rfl, by simp, Tch.of_below hb _, QS.below (r := (.bad er at_ : Res Wd)) h hb, fun wd' s'' he => by cases he⟩
theorem qwrong_un {a : α} {s : Ps} (h : Qok w gr en ee s sv) (er x : Int) (he : er ≠ 0) : Calls Tryz.prog 91 #[.pointer (some ⟨gr, 0, none⟩), .int .i64 er, .int .i64 x] w fun e w' =>
 (∃ v, e = .returned v) ∧ Qbad w' gr en ee er x sv ∧ Tch w w' fun k => k = gr := by
 obtain ⟨lv, badAt, big, bigAt, hr, _⟩ := h
 refine (qwrong_any hr er x).mono ?_
 rintro e w' ⟨hv, hc, ht⟩
 refine ⟨hv, ?_, ht⟩
 rcases hc with ⟨_, hc⟩ | ⟨h0, _⟩
 ·exact ⟨_, _, _, _, hc, he⟩
 ·exact absurd rfl h0
theorem qlarge_un (h : QS w gr en ee sv r) (is : Bool) (x : Int) : Calls Tryz.prog 88 #[.pointer (some ⟨gr, 0, none⟩), .bool is, .int .i64 x] w fun e w' =>
 (∃ v, e = .returned v) ∧ QS w' gr en ee sv (r.bind fun a s => .ok a (plarge is x s)) ∧ Tch w w' fun k => k = gr := by
 cases r with
 | ok a s =>
   obtain ⟨lv, badAt, big, bigAt, hr, hw, hg⟩ := h
   refine (qlarge_any hr is x).mono ?_
   rintro e w' ⟨hv, hc, ht⟩
   refine ⟨hv, ?_, ht⟩
   have hw' := hw.tch ht fun k hk cs hb => by
    subst hk
    exact Blk.ne_ hr hb (by decide) rfl
   rw [Res.bind_ok]
   show Qok w' gr en ee (plarge is x s) sv
   obtain ⟨l1, l2, l3⟩ := plarge_l is x s
   rcases hc with ⟨h1, h2, h3, hc⟩ | ⟨h1, hc⟩
   ·refine ⟨lv, badAt, 5, x, by rw [l3]; exact hc, by rw [l1]; exact hw', ?_⟩
    have hb : s.big = none := by
     rcases hg with ⟨hb, _⟩ | ⟨y, _, h5, _⟩
     ·exact hb
     ·omega
    unfold plarge
    rw [if_pos ⟨h1, hb⟩]
    exact .inr ⟨x, rfl, rfl, rfl⟩
   ·refine ⟨lv, badAt, big, bigAt, by rw [l3]; exact hc, by rw [l1]; exact hw', ?_⟩
    have hb : ¬ (is = true ∧ s.big = none) := fun ⟨hi, hb⟩ => by
     rcases hg with ⟨_, h0⟩ | ⟨y, h5, _⟩
     ·exact h1 ⟨hi, h0, rfl⟩
     ·rw [hb] at h5; cases h5
    unfold plarge
    rw [if_neg hb]
    exact hg
 | bad er at_ =>
   obtain ⟨lv, big, bigAt, told, hr, he⟩ := h
   refine (qlarge_any hr is x).mono ?_
   rintro e w' ⟨hv, hc, ht⟩
   refine ⟨hv, ?_, ht⟩
   rcases hc with ⟨h1, h2, h3, hc⟩ | ⟨h1, hc⟩
   ·exact absurd h3 he
   ·exact ⟨_, _, _, _, hc, he⟩
end Go.Proofs.YtjpkkkphhaajgaaGreatDoor.wcp
/- The document's reader: a number. -/
namespace Go.Proofs.YtjpkkkphhaajgaaGreatDoor.wcp
open Go Go.RowKit Go.ChangeShapes Go.WideShapes Go.ChangeAt Go.Proofs.YtjpkkkphhaajgaaGreatDoor.words Go.Proofs.YtjpkkkphhaajgaaGreatDoor.scn
variable {w : World} {gr : Nat} {en ee : Int} {s : Ps} {sv : Value} {α : Type} {r : Res α}
def QNumU (w : World) (gr : Nat) (en ee : Int) (lo hi : Int) (r : Res α) (sv : Value) (e : Ending) (w' : World) : Prop :=
 ∃ (n x : Int), e = .returned (.tuple #[.int .i64 n, .int .i64 x]) ∧ Tch w w' (fun k => k = gr) ∧
  QS w' gr en ee sv (r.bind fun _ s => pnum en ee lo hi s) ∧
  (∀ v s', (r.bind fun _ s => pnum en ee lo hi s) = .ok v s' → n = v.1 ∧ x = v.2) ∧
  ((r.bind fun _ s => pnum en ee lo hi s).good = false → n = 0)
def pnumW (lo hi : Int) (w : Wd) (s : Ps) : Res (Int × Int) :=
 if (readW w.1).2 ≠ 0 ∨ (readW w.1).1 < lo ∨ (readW w.1).1 > hi then .bad 4 w.2 else .ok ((readW w.1).1, (w.2 : Int)) s
theorem pnum_word {α : Type} (en ee lo hi : Int) (r : Res α) : (r.bind fun _ s => pnum en ee lo hi s) = (r.bind fun _ s => pword en ee s).bind fun w s => pnumW lo hi w s := by
 cases r <;> rfl
set_option maxHeartbeats 4000000 in
theorem qnum_un (h : QS w gr en ee sv r) (hee : ee ≠ 0) (lo hi : Int) :
 Calls Tryz.prog 89 #[.pointer (some ⟨gr, 0, none⟩), .int .i64 lo, .int .i64 hi] w fun e w' => QNumU w gr en ee lo hi r sv e w' := by
 have hw := qword_un h hee
 have hgl := h.lt
 clear h
 unfold QNumU
 go_enter Tryz.func89, Tryz.ntmps89
 go_wp2_with fail
 refine hw.mono ?_
 rintro e w1 ⟨v, x, rfl, hvl, ht1, hs1, hv1⟩
 have hrd := read_ref v (w1.alloc (.cells #[.string ⟨v.toArray⟩, .int .i64 x] 175)) hvl
 have HT := Lib.hid (ht1.trans (Tch.of_below (bone w1 (.cells #[.string ⟨v.toArray⟩, .int .i64 x] 175)) (fun k => k = gr)) fun _ _ h => h)
 have HS1 := Lib.hid (hs1.below (bone w1 (.cells #[.string ⟨v.toArray⟩, .int .i64 x] 175)))
 have hgl1 : gr < w1.heap.size := by have := ht1.size; omega
 have HPN := Lib.hid (pnum_word en ee lo hi r)
 obtain ⟨r1, hr1⟩ : ∃ r1, (r.bind fun _ s => pword en ee s) = r1 := ⟨_, rfl⟩
 rw [hr1] at HS1 HPN hv1
 clear hw ht1 hs1 hr1
 cases r1 with
 | bad er at_ =>
   obtain ⟨lv, big, bigAt, told, hr, he⟩ := HS1.out
   obtain ⟨c0, c1, c2, c3, c4, c5, c6, c7, c8, cf⟩ := hr.cells
   have hef : (er == 0) = false := by simp [he]
   have het : (er != 0) = true := by simp [he]
   clear hr cf hv1 he
   go_wp2_with (first | (go_at_call 139; refine hrd.mono ?_; rintro e w2 ⟨rfl, rfl⟩; clear hrd) | fail)
   go_ret2
   refine ⟨0, 0, rfl, HT.out, ?_⟩
   rw [HPN.out, Res.bind_bad]
   exact ⟨HS1.out, ⟨fun v' s'' he => (by cases he), fun _ => rfl⟩⟩
 | ok wd s' =>
   obtain ⟨hv, hx⟩ := hv1 wd s' rfl
   have HRK1 := Lib.hid (show Qok _ gr en ee s' sv from HS1.out)
   obtain ⟨lv, badAt, big, bigAt, hr, _⟩ := HRK1.out
   obtain ⟨c0, c1, c2, c3, c4, c5, c6, c7, c8, cf⟩ := hr.cells
   obtain ⟨N, hN⟩ : ∃ N, (readW v).1 = N := ⟨_, rfl⟩
   obtain ⟨E, hE⟩ : ∃ E, (readW v).2 = E := ⟨_, rfl⟩
   rw [hN, hE] at hrd
   have HX := Lib.hid hx
   have HN : Hid ((readW wd.1).1 = N ∧ (readW wd.1).2 = E) := by rw [hv] at hN hE; exact ⟨hN, hE⟩
   rw [Res.bind_ok] at HPN
   clear hr cf hv1 hN hE hv hx
   by_cases hE : E = 0
   ·subst hE
    by_cases h1 : N < lo
    ·have d1 : decide (N < lo) = true := decide_eq_true h1
     have HC : Hid ((readW wd.1).2 ≠ 0 ∨ (readW wd.1).1 < lo ∨ (readW wd.1).1 > hi) := .inr (.inl (by rw [HN.out.1]; exact h1))
     clear h1
     have hwr := qwrong_un (a := ()) HRK1.out 4 x (by decide)
     go_wp2_with (first | (go_at_call 139; refine hrd.mono ?_; rintro e w2 ⟨rfl, rfl⟩; clear hrd) | fail)
     refine hwr.mono ?_
     rintro e w5 ⟨⟨u, rfl⟩, hc, ht5⟩
     clear hwr
     have HC5 := Lib.hid hc
     have HT5 := Lib.hid ht5
     obtain ⟨lv5, big5, bigAt5, told5, hr5, he5⟩ := hc
     have d3 := QB.cells hr5 |>.2.2.2.1
     clear hr5 ht5
     go_wp2_with fail
     go_ret2
     refine ⟨0, 0, rfl, HT.out.trans HT5.out fun _ _ h => h, ?_⟩
     rw [HPN.out]
     unfold pnumW
     rw [if_pos HC.out, ← HX.out]
     exact ⟨HC5.out, ⟨fun v' s'' he => (by cases he), fun _ => rfl⟩⟩
    ·have d1 : decide (N < lo) = false := decide_eq_false h1
     by_cases h2 : hi < N
     ·have d2 : decide (hi < N) = true := decide_eq_true h2
      have HC : Hid ((readW wd.1).2 ≠ 0 ∨ (readW wd.1).1 < lo ∨ (readW wd.1).1 > hi) := .inr (.inr (by rw [HN.out.1]; exact h2))
      clear h1 h2
      have hwr := qwrong_un (a := ()) HRK1.out 4 x (by decide)
      go_wp2_with (first | (go_at_call 139; refine hrd.mono ?_; rintro e w2 ⟨rfl, rfl⟩; clear hrd) | fail)
      refine hwr.mono ?_
      rintro e w5 ⟨⟨u, rfl⟩, hc, ht5⟩
      clear hwr
      have HC5 := Lib.hid hc
      have HT5 := Lib.hid ht5
      obtain ⟨lv5, big5, bigAt5, told5, hr5, he5⟩ := hc
      have d3 := QB.cells hr5 |>.2.2.2.1
      clear hr5 ht5
      go_wp2_with fail
      go_ret2
      refine ⟨0, 0, rfl, HT.out.trans HT5.out fun _ _ h => h, ?_⟩
      rw [HPN.out]
      unfold pnumW
      rw [if_pos HC.out, ← HX.out]
      exact ⟨HC5.out, ⟨fun v' s'' he => (by cases he), fun _ => rfl⟩⟩
     ·have d2 : decide (hi < N) = false := decide_eq_false h2
      have HC : Hid (¬ ((readW wd.1).2 ≠ 0 ∨ (readW wd.1).1 < lo ∨ (readW wd.1).1 > hi)) := by rw [Hid, HN.out.1, HN.out.2]; omega
      clear h1 h2
      have z1 := (Blk.cell (Blk.new w1 175 #[.string ⟨v.toArray⟩, .int .i64 x]) 1).trans rfl
      go_upto_region 7 with (first | (go_at_call 139; refine hrd.mono ?_; rintro e w2 ⟨rfl, rfl⟩; clear hrd) | fail)
      go_region
      go_wp2_with fail
      go_ret2
      refine ⟨N, x, rfl, HT.out.drew, ?_⟩
      rw [HPN.out]
      unfold pnumW
      rw [if_neg HC.out]
      exact ⟨HRK1.out, ⟨fun v' s'' he => (by injection he with he _; rw [← he]; exact ⟨HN.out.1.symm, HX.out⟩), fun he => (by cases he)⟩⟩
   ·have hEb : (E != 0) = true := by simp [hE]
    have HC : Hid ((readW wd.1).2 ≠ 0 ∨ (readW wd.1).1 < lo ∨ (readW wd.1).1 > hi) := .inl (by rw [HN.out.2]; exact hE)
    clear hE
    have hwr := qwrong_un (a := ()) HRK1.out 4 x (by decide)
    go_wp2_with (first | (go_at_call 139; refine hrd.mono ?_; rintro e w2 ⟨rfl, rfl⟩; clear hrd) | fail)
    refine hwr.mono ?_
    rintro e w5 ⟨⟨u, rfl⟩, hc, ht5⟩
    clear hwr
    have HC5 := Lib.hid hc
    have HT5 := Lib.hid ht5
    obtain ⟨lv5, big5, bigAt5, told5, hr5, he5⟩ := hc
    have d3 := QB.cells hr5 |>.2.2.2.1
    clear hr5 ht5
    go_wp2_with fail
    go_ret2
    refine ⟨0, 0, rfl, HT.out.trans HT5.out fun _ _ h => h, ?_⟩
    rw [HPN.out]
    unfold pnumW
    rw [if_pos HC.out, ← HX.out]
    exact ⟨HC5.out, ⟨fun v' s'' he => (by cases he), fun _ => rfl⟩⟩
end Go.Proofs.YtjpkkkphhaajgaaGreatDoor.wcp
/- What the document's reader hands on: rows of lines, of functions; its scope and function, plainly. -/
namespace Go.Proofs.YtjpkkkphhaajgaaGreatDoor.wcp
open Go Go.RowKit Go.ChangeShapes Go.WideShapes Go.ChangeAt Go.Maps Go.Proofs.YtjpkkkphhaajgaaGreatDoor.words Go.Proofs.YtjpkkkphhaajgaaGreatDoor.scn
def QLRow (w : World) (base : Nat) (v : Value) (L : List LT) : Prop := (∃ A c, v = .slice A L.length c) ∧ w.ownsRow base 137 2 v L.length (lcells L) ∧ ∀ p ∈ L, Row64 w base p.1 p.2.1
def QLines (w : World) (base : Nat) (v : Value) (ls : List (List Int × Int)) : Prop := ∃ L : List LT, L.map (·.2) = ls ∧ QLRow w base v L
/-- four words of a function, and what it stands for -/
abbrev QT := (Value × Value × Int × Value) × Raw
def qcells (L : List QT) : List Value := L.flatMap fun p => [p.1.1, p.1.2.1, .int .i64 p.1.2.2.1, p.1.2.2.2]
/-- a function's four words -/
def QFn (w : World) (v1 v2 : Value) (o : Int) (v4 : Value) (f : Raw) : Prop := o = f.other ∧ Row64 w 0 v1 f.scope ∧ Row64 w 0 v2 f.sizes ∧ QLines w 0 v4 f.lines
def QFns (w : World) (sv : Value) (fs : List Raw) : Prop :=
 ∃ L : List QT, L.map (·.2) = fs ∧ (∃ A c, sv = .slice A L.length c) ∧ w.ownsRow 0 70 4 sv L.length (qcells L) ∧ ∀ p ∈ L, QFn w p.1.1 p.1.2.1 p.1.2.2.1 p.1.2.2.2 p.2
/-- what is shared: sizes and lines of each -/
def QSh (w : World) (sv : Value) (sh : List (List Int × List (List Int × Int))) : Prop := ∃ fs : List Raw, (fs.map fun f => (f.sizes, f.lines)) = sh ∧ QFns w sv fs
variable {w w' : World} {S : Nat → Prop} {base : Nat} {v : Value}
theorem QLRow.tch {L : List LT} (h : QLRow w base v L) (ht : Tch w w' S) (h1 : Off w base S 2) (h2 : Off w base S 137) : QLRow w' base v L :=
 ⟨h.1, own_off h.2.1 ht h2, fun p hp => (h.2.2 p hp).tch ht h1⟩
theorem QLines.tch {ls : List (List Int × Int)} (h : QLines w base v ls) (ht : Tch w w' S) (h1 : Off w base S 2) (h2 : Off w base S 137) : QLines w' base v ls := by
 obtain ⟨L, hL, hr⟩ := h; exact ⟨L, hL, hr.tch ht h1 h2⟩
theorem QLRow.down {b' : Nat} {L : List LT} (h : QLRow w base v L) (hb : b' ≤ base) : QLRow w b' v L := ⟨h.1, own_base h.2.1 hb, fun p hp => (h.2.2 p hp).down hb⟩
theorem QLRow.nil (w : World) (base : Nat) : QLRow w base (.slice none 0 0) [] := ⟨⟨none, 0, rfl⟩, World.ownsRow_nil _ _ _ _, fun p hp => by cases hp⟩
theorem QLines.nil (w : World) (base : Nat) : QLines w base (.slice none 0 0) [] := ⟨[], rfl, QLRow.nil w base⟩
theorem QLines.down {b' : Nat} {ls : List (List Int × Int)} (h : QLines w base v ls) (hb : b' ≤ base) : QLines w b' v ls := by
 obtain ⟨L, hL, hr⟩ := h; exact ⟨L, hL, hr.down hb⟩
theorem QFn.tch {v1 v2 v4 : Value} {o : Int} {f : Raw} (h : QFn w v1 v2 o v4 f) (ht : Tch w w' S) (h1 : Off w 0 S 2) (h2 : Off w 0 S 137) : QFn w' v1 v2 o v4 f :=
 ⟨h.1, h.2.1.tch ht h1, h.2.2.1.tch ht h1, h.2.2.2.tch ht h1 h2⟩
theorem QFns.tch {fs : List Raw} (h : QFns w v fs) (ht : Tch w w' S) (h1 : Off w 0 S 2) (h2 : Off w 0 S 137) (h3 : Off w 0 S 70) : QFns w' v fs := by
 obtain ⟨L, hL, hs, ho, hp⟩ := h
 exact ⟨L, hL, hs, own_off ho ht h3, fun p hm => (hp p hm).tch ht h1 h2⟩
theorem QSh.tch {sh : List (List Int × List (List Int × Int))} (h : QSh w v sh) (ht : Tch w w' S) (h1 : Off w 0 S 2) (h2 : Off w 0 S 137) (h3 : Off w 0 S 70) : QSh w' v sh := by
 obtain ⟨fs, hL, hr⟩ := h; exact ⟨fs, hL, hr.tch ht h1 h2 h3⟩
theorem qc_at {L : List QT} {i : Nat} {p : QT} (h : L[i]? = some p) : (qcells L)[i * 4]? = some p.1.1 ∧ (qcells L)[i * 4 + 1]? = some p.1.2.1 ∧ (qcells L)[i * 4 + 2]? = some (.int .i64 p.1.2.2.1) ∧ (qcells L)[i * 4 + 3]? = some p.1.2.2.2 := by
 induction L generalizing i with
 | nil => simp at h
 | cons q L ih =>
   cases i with
   | zero => simp at h; subst h; exact ⟨rfl, rfl, rfl, rfl⟩
   | succ i =>
     have := ih (i := i) (by simpa using h)
     rw [show (i + 1) * 4 = i * 4 + 1 + 1 + 1 + 1 by omega]
     exact this
theorem qc_snoc (L : List QT) (p : QT) : qcells (L ++ [p]) = qcells L ++ [p.1.1, p.1.2.1, .int .i64 p.1.2.2.1, p.1.2.2.2] := by simp [qcells]
theorem infoQF : (Tryz.prog.info? 70).map (fun i => (i.zero, i.size, i.bytes)) = some (some (.agg #[.slice none 0 0, .slice none 0 0, .int .i64 0, .slice none 0 0]), 4, 80) := by kernel_rfl
theorem infoQL : (Tryz.prog.info? 137).map (fun i => (i.zero, i.size, i.bytes)) = some (some (.agg #[.slice none 0 0, .int .i64 0]), 2, 32) := by kernel_rfl
/-- the reader's block holds no rows -/
theorem QS.off {gr : Nat} {en ee : Int} {sv : Value} {α : Type} {r : Res α} (h : QS w gr en ee sv r) {t : TypeId} (h1 : 173 ≠ t) : Off w base (fun k => k = gr) t := by
 obtain ⟨_, _, _, _, _, _, hr, _⟩ := h.blk
 rintro k rfl
 exact .inr fun cs hb => Blk.ne_ hr hb h1 rfl
/-! scope and function, round by round -/
section
variable {en ee : Int}
def pscope1 (en ee n : Int) (out : List Int) (s : Ps) : Res (List Int) := (pnum en ee 0 (n - 1) s).bind fun v s => if v.1 ∈ out then .bad 4 v.2 else .ok (out ++ [v.1]) s
theorem pscope_snoc (n : Int) : ∀ (k : Nat) (out : List Int) (s : Ps), pscope en ee n (k + 1) out s = (pscope en ee n k out s).bind fun out s => pscope1 en ee n out s
 | 0, out, s => by
   show (pnum en ee 0 (n - 1) s).bind (fun v s => if v.1 ∈ out then .bad 4 v.2 else pscope en ee n 0 (out ++ [v.1]) s) = pscope1 en ee n out s
   rfl
 | k + 1, out, s => by
   show (pnum en ee 0 (n - 1) s).bind (fun v s => if v.1 ∈ out then .bad 4 v.2 else pscope en ee n (k + 1) (out ++ [v.1]) s) = _
   rw [show pscope en ee n (k + 1) out s = (pnum en ee 0 (n - 1) s).bind (fun v s => if v.1 ∈ out then .bad 4 v.2 else pscope en ee n k (out ++ [v.1]) s) from rfl, Res.bind_assoc]
   congr 1
   funext v s
   by_cases h : v.1 ∈ out
   ·rw [if_pos h, if_pos h]; rfl
   ·rw [if_neg h, if_neg h]; exact pscope_snoc n k _ _
theorem pscope_bad {n e x : Int} {i : Nat} {s : Ps} (h : pscope en ee n i [] s = .bad e x) : ∀ k, i ≤ k → pscope en ee n k [] s = .bad e x := by
 intro k hk
 induction k with
 | zero => obtain rfl : i = 0 := by omega
           exact h
 | succ k ih =>
   by_cases e1 : i = k + 1
   ·rw [← e1]; exact h
   ·rw [pscope_snoc, ih (by omega)]; rfl
end
end Go.Proofs.YtjpkkkphhaajgaaGreatDoor.wcp
