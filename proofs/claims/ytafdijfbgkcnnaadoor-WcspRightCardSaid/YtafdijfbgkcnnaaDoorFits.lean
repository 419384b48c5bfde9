/- May a function be this file's? -/
import Derived.Test.YtafdijfbgkcnnaaDoorRdRead
import Derived.Test.YtafdijfbgkcnnaaDoorIdxI
import Derived.Deep.RegionHeld3
namespace Go.Proofs.YtafdijfbgkcnnaaDoor.wcp
open Go Go.RowKit Go.ChangeShapes Go.WideShapes Go.ChangeAt Go.Maps Go.Proofs.YtafdijfbgkcnnaaDoor.words Go.Proofs.YtafdijfbgkcnnaaDoor.scn
set_option linter.unusedVariables false
/-- a function that fits a file's sizes -/
def FitF (sizes : List Int) (f : Raw) : Prop := (∀ v ∈ f.scope, 0 ≤ v ∧ v < sizes.length) ∧ f.scope.Nodup ∧ f.sizes = f.scope.map (fun v => sizes.getD v.toNat 0)
theorem nodup_at {l : List Int} (h : l.Nodup) : ∀ {i j : Nat} {v : Int}, l[i]? = some v → l[j]? = some v → i = j := by
  intro i j v hi hj
  obtain ⟨hil, hie⟩ := List.getElem?_eq_some_iff.1 hi
  obtain ⟨hjl, hje⟩ := List.getElem?_eq_some_iff.1 hj
  exact (List.getElem_inj h).1 (hie.trans hje.symm)
set_option maxRecDepth 100000 in
set_option maxHeartbeats 8000000 in
theorem fits_any {w : World} {g : Nat} {nm fv : Value} {K : Int} {SA : Option Addr} {sc : Nat} {sizes : List Int} {F : Nat → Prop} {v : Value} {f : Raw} (hg : Blk w g 51 #[nm, .int .i64 K, .slice SA sizes.length sc, fv]) (hs : w.ownsRow 0 3 1 (.slice SA sizes.length sc) sizes.length (nums sizes)) (hsl : sizes.length ≤ 1000000)
    (hv : FunV w F v f K) (hok : okF f K) (hf : FitF sizes f) :
    Calls Tryd.prog 80 #[.pointer (some ⟨g, 0, none⟩), v] w fun e w' => e = .returned (.bool true) ∧ Below w.heap.size w w' := by
  obtain ⟨v1, tg, rfl, ⟨⟨A1, c1, rfl⟩, h1⟩, -, hT⟩ := hv
  obtain ⟨ts1, ts2, ts3⟩ := tpOf_same f K f.lines
  have h6 := hok.1
  have hb := bone w (.cells #[.slice A1 f.scope.length c1, .pointer (some ⟨tg, 0, none⟩)] 55)
  have hx : Blk (w.alloc (.cells #[.slice A1 f.scope.length c1, .pointer (some ⟨tg, 0, none⟩)] 55)) w.heap.size 55 #[.slice A1 f.scope.length c1, .pointer (some ⟨tg, 0, none⟩)] := Blk.new _ _ _
  have hTb : ∀ W, Below w.heap.size w W → TpV W tg F f.lines.length (tpOf f K f.lines) := fun W hW => hT.keep (Tch.of_below hW (fun _ => False)) fun _ _ h => h
  have hfl : f.scope.length = f.sizes.length := by rw [hf.2.2]; simp
  have HF := Lib.hid hf
  have HG := Lib.hid hg
  have HH1 := Lib.hid h1
  have HS := Lib.hid hs
  obtain ⟨wa, hwa⟩ : ∃ wa, w.alloc (.cells #[.slice A1 f.scope.length c1, .pointer (some ⟨tg, 0, none⟩)] 55) = wa := ⟨_, rfl⟩
  obtain ⟨xb, hxb⟩ : ∃ xb, w.heap.size = xb := ⟨_, rfl⟩
  rw [hwa, hxb] at hx
  rw [hwa] at hb
  have hk := tk_any (hTb wa.drew ((show Below w.heap.size w wa.drew from ⟨hb.os, hb.tape, hb.output, hb.size, hb.block⟩)))
  have har : ∀ W, Below w.heap.size w W → Calls Tryd.prog 88 #[.pointer (some ⟨tg, 0, none⟩)] W fun e w' => e = .returned (.int .i64 f.scope.length) ∧ Below W.heap.size W w' := fun W hW => by
    have := tarity_any (hTb W hW) (by rw [ts1]; exact h6)
    rw [ts1, ← hfl] at this
    exact this
  rw [ts2] at hk
  have HAR := Lib.hid har
  have HB := Lib.hid hb
  have HX := Lib.hid hx
  have HXB := Lib.hid hxb
  have HTB := Lib.hid hTb
  have hga := Blk.under hg hb
  obtain ⟨q0, q1, q2, q3, -⟩ := Blk.four (t := 51) hga
  obtain ⟨x0, x1⟩ := hx.two
  have HFL := Lib.hid hfl
  have HOK := Lib.hid hok
  clear hg hs h1 hT hf hb hx hTb hga hok har hfl h6 ts1 ts2 ts3
  go_enter Tryd.func80, Tryd.ntmps80
  go_upto_region 1 with fail
  clear hwa hxb
  go_cut [28] (fun b wq => b = .bool false ∧ Below wa.heap.size wa wq)
  case first =>
    have y0 : wa.drew.cell? ⟨xb, 0, none⟩ = some (.slice A1 f.scope.length c1) := x0
    have y1 : wa.drew.cell? ⟨xb, 1, none⟩ = some (.pointer (some ⟨tg, 0, none⟩)) := x1
    have y2 : wa.drew.cell? ⟨g, 1, none⟩ = some (.int .i64 K) := q1
    have hl1 : xb < wa.heap.size ∧ g < wa.heap.size := ⟨Blk.lt HX.out, by have := Blk.lt HG.out; have := HB.out.size; omega⟩
    go_region_held3 (fun W => W.cell? ⟨xb, 0, none⟩ = some (.slice A1 f.scope.length c1) ∧ W.cell? ⟨xb, 1, none⟩ = some (.pointer (some ⟨tg, 0, none⟩)) ∧ W.cell? ⟨g, 1, none⟩ = some (.int .i64 K)) (first | exact ⟨y0, y1, y2⟩ | exact HS2 | exact HS3) (first
      | (go_at_call 63; refine hk.mono ?_; rintro e w2 ⟨rfl, hw2⟩; have HS2 : w2.cell? ⟨xb, 0, none⟩ = some (.slice A1 f.scope.length c1) ∧ w2.cell? ⟨xb, 1, none⟩ = some (.pointer (some ⟨tg, 0, none⟩)) ∧ w2.cell? ⟨g, 1, none⟩ = some (.int .i64 K) := (by rw [← hw2]; exact ⟨y0, y1, y2⟩); have hbw2 : Below wa.heap.size wa w2 := (by rw [← hw2]; exact ⟨rfl, rfl, rfl, Nat.le_refl _, fun _ _ => rfl⟩); have har := HAR.out w2 (bto HB.out hbw2); have HB2 := Lib.hid hbw2; clear hw2 hbw2)
      | (go_at_call 88; refine har.mono ?_; rintro e w3 ⟨rfl, hb3⟩; have HS3 : w3.cell? ⟨xb, 0, none⟩ = some (.slice A1 f.scope.length c1) ∧ w3.cell? ⟨xb, 1, none⟩ = some (.pointer (some ⟨tg, 0, none⟩)) ∧ w3.cell? ⟨g, 1, none⟩ = some (.int .i64 K) := ⟨((bcell hb3).1 xb 0 (World.block_lt_of_cell? _ _ HS2.1)).trans HS2.1, ((bcell hb3).1 xb 1 (World.block_lt_of_cell? _ _ HS2.2.1)).trans HS2.2.1, ((bcell hb3).1 g 1 (World.block_lt_of_cell? _ _ HS2.2.2)).trans HS2.2.2⟩; have HB3 := Lib.hid hb3; clear hb3))
    all_goals
      go_wp2_with fail
      go_meet
      case rel => exact ⟨rfl, HB2.out.trans (HB3.out.mono HB2.out.size)⟩
  case rest =>
    obtain ⟨rfl, hcut⟩ := hcut
    have HBC := Lib.hid hcut
    have hxc := HX.out.under hcut
    obtain ⟨z0, z1⟩ := hxc.two
    clear hcut q0 q1 q2 q3 x0 x1 hk
    go_wp2_with fail
    go_loopw [5, 6, 32] (fun _ _ jv wr => ∃ j : Nat, jv = .int .i64 j ∧ j ≤ f.scope.length ∧ Below wa.heap.size wa wr) (fun _ _ jv _ => f.scope.length - (intOf jv).toNat)
    case atStart => exact ⟨0, rfl, Nat.zero_le _, HBC.out⟩
    case round =>
      obtain ⟨j, rfl, hj, hbw⟩ := hrel
      by_cases hlt : j < f.scope.length
      · have hB1 : Below w.heap.size w wr := HB.out.trans (hbw.mono HB.out.size)
        obtain ⟨ad, v, rfl, _, hv, hc⟩ := (Reads.of_own (own_under HH1.out hB1)).num hlt
        have hmem := List.mem_of_getElem? hv
        obtain ⟨hv0, hv1⟩ := HF.out.1 v hmem
        obtain ⟨m, rfl⟩ : ∃ m : Nat, v = (m : Int) := ⟨v.toNat, by omega⟩
        have hml : m < sizes.length := by omega
        obtain ⟨ad2, k, rfl, hb2l, hk, hc2⟩ := (Reads.of_own (own_under HS.out hB1)).num hml
        have hsk : f.sizes[j]? = some k := by rw [HF.out.2.2, List.getElem?_map, hv]; simp [List.getD_eq_getElem?_getD, hk]
        have hga := Blk.under HG.out hB1
        obtain ⟨q0, q1, q2, q3, -⟩ := Blk.four (t := 51) hga
        obtain ⟨x0, x1⟩ := (HX.out.under hbw).two
        have hrd : ∀ W, Below wr.heap.size wr W → Reads W W.heap.size 1 (some ad) f.scope.length (nums f.scope) := fun W hW => Reads.of_own (own_under (own_under HH1.out hB1) hW)
        have hj0 : (0 : Int) ≤ (j : Int) := Int.natCast_nonneg _
        have hjs : (j : Int) < (f.sizes.length : Int) := by have := HFL.out; omega
        have hj1 : (j : Int) < (f.scope.length : Int) := by omega
        have hm0 : (0 : Int) ≤ (m : Int) := Int.natCast_nonneg _
        have hm1 : (m : Int) < (sizes.length : Int) := by omega
        have hidx : ∀ W, Below wr.heap.size wr W → Calls Tryd.prog 22 #[.slice (some ad) f.scope.length c1, .int .i64 m] W fun e w' => e = .returned (.int .i64 j) ∧ Below W.heap.size W w' := fun W hW => by
          refine (indexI_any (some ad) f.scope.length c1 f.scope m W (by have := HOK.out.2.2.2.2.2.2.2; omega) (hrd W hW)).mono ?_
          rintro e w' ⟨⟨r, rfl, hr⟩, hb'⟩
          refine ⟨?_, hb'⟩
          rcases hr with ⟨q, rfl, hq, hnq⟩ | ⟨_, hno⟩
          · have : q = j := nodup_at HF.out.2.1 hq hv
            rw [this]
          · exact absurd hmem hno
        have hszc : ∀ W, Below wr.heap.size wr W → Calls Tryd.prog 61 #[.pointer (some ⟨tg, 0, none⟩)] W fun e w' => Copied W f.sizes e w' := fun W hW => by
          have := tsizes_any (HTB.out W (hB1.trans (hW.mono hB1.size))) (by rw [(tpOf_same f K f.lines).1]; exact HOK.out.1)
          rw [(tpOf_same f K f.lines).1] at this
          exact this
        have HIDX := Lib.hid hidx
        have HSZC := Lib.hid hszc
        have HSK := Lib.hid hsk
        have HBW := Lib.hid hbw
        have hxl : xb < wr.heap.size ∧ g < wr.heap.size ∧ ad2.block < wr.heap.size := ⟨Blk.lt ((HX.out.under hbw)), Blk.lt hga, by omega⟩
        clear hv hk hsk hmem hga hrd hidx hszc hB1 hbw q0 q1 q3 z0 z1
        have hd1 : decide ((m : Int) < 0) = false := decide_eq_false (by omega)
        have hd2 : decide ((sizes.length : Int) ≤ (m : Int)) = false := decide_eq_false (by omega)
        have hd3 : ((j : Int) != (j : Int)) = false := by simp
        have hd4 : decide (sizes.length ≤ m) = false := decide_eq_false (by omega)
        go_upto_region 6 with fail
        go_cut [32, 71] from 32 to 72 (fun iv bv wq => iv = .int .i64 j ∧ bv = .bool false ∧ Below wr.heap.size wr wq)
        case first =>
          have y0 : wr.drew.cell? ⟨xb, 0, none⟩ = some (.slice (some ad) f.scope.length c1) := x0
          have y1 : wr.drew.cell? ⟨xb, 1, none⟩ = some (.pointer (some ⟨tg, 0, none⟩)) := x1
          have y2 : wr.drew.cell? ⟨g, 2, none⟩ = some (.slice (some ad2) sizes.length sc) := q2
          have y3 : wr.drew.cell? (ad2.add m) = some (.int .i64 k) := hc2
          have hxi := HIDX.out wr.drew (Below.refl _ _).drew
          refine wp_region_held_drew (S := (fun W => W.cell? ⟨xb, 0, none⟩ = some (.slice (some ad) f.scope.length c1) ∧ W.cell? ⟨xb, 1, none⟩ = some (.pointer (some ⟨tg, 0, none⟩)) ∧ W.cell? ⟨g, 2, none⟩ = some (.slice (some ad2) sizes.length sc) ∧ W.cell? (ad2.add m) = some (.int .i64 k))) (by kernel_rfl) ⟨y0, y1, y2, y3⟩ (fun hHeld => ?_)
          refine wpAnyH_take (i := 0) (oi := { dst := some 37, op := Op.move (Operand.tmp 6), type := 3, pos := "file.go:53", after := #[], guard := none }) (v := ?v0) rfl (by kernel_rfl) (by kernel_rfl) (by kernel_rfl) (fun _ _ _ h => h) (Or.inl ⟨by rfl, ?hy0⟩) (by assumption) ?rest0
          case hy0 => (intro w hSw; (try dsimp only at hSw); go_simp; try with_reducible rfl)
          try simp only [Act.put, List.setIfInBounds_toArray, List.set_cons_zero, List.set_cons_succ]
          refine wpAnyH_take (i := 1) (oi := { dst := some 38, op := Op.binOp BinOp.lss 3 (Operand.tmp 37) (Operand.const (Value.int IntKind.i64 0)) 3, type := 4, pos := "file.go:53", after := #[{ on := 0, ground := Ground.data }], guard := none }) (v := ?v1) rfl (by kernel_rfl) (by kernel_rfl) (by kernel_rfl) (fun _ _ _ h => h) (Or.inl ⟨by rfl, ?hy1⟩) (by assumption) ?rest1
          case hy1 => (intro w hSw; (try dsimp only at hSw); go_simp; try with_reducible rfl)
          try simp only [Act.put, List.setIfInBounds_toArray, List.set_cons_zero, List.set_cons_succ]
          refine wpAnyH_take (i := 2) (oi := { dst := some 39, op := Op.move (Operand.tmp 38), type := 4, pos := "file.go:53", after := #[{ on := 1, ground := Ground.data }], guard := none }) (v := ?v2) rfl (by kernel_rfl) (by kernel_rfl) (by kernel_rfl) (fun _ _ _ h => h) (Or.inl ⟨by rfl, ?hy2⟩) (by assumption) ?rest2
          case hy2 => (intro w hSw; (try dsimp only at hSw); go_simp; try with_reducible rfl)
          try simp only [Act.put, List.setIfInBounds_toArray, List.set_cons_zero, List.set_cons_succ]
          refine wpAnyH_take (i := 3) (oi := { dst := some 40, op := Op.move (Operand.tmp 6), type := 3, pos := "file.go:53", after := #[{ on := 2, ground := Ground.guard }], guard := some (2, false) }) (v := ?v3) rfl (by kernel_rfl) (by kernel_rfl) (by kernel_rfl) (fun _ _ _ h => h) (Or.inl ⟨by rfl, ?hy3⟩) (by assumption) ?rest3
          case hy3 => (intro w hSw; (try dsimp only at hSw); go_simp; try with_reducible rfl)
          try simp only [Act.put, List.setIfInBounds_toArray, List.set_cons_zero, List.set_cons_succ]
          refine wpAnyH_take (i := 4) (oi := { dst := some 41, op := Op.move (Operand.tmp 0), type := 26, pos := "file.go:53", after := #[{ on := 2, ground := Ground.guard }], guard := some (2, false) }) (v := ?v4) rfl (by kernel_rfl) (by kernel_rfl) (by kernel_rfl) (fun _ _ _ h => h) (Or.inl ⟨by rfl, ?hy4⟩) (by assumption) ?rest4
          case hy4 => (intro w hSw; (try dsimp only at hSw); go_simp; try with_reducible rfl)
          try simp only [Act.put, List.setIfInBounds_toArray, List.set_cons_zero, List.set_cons_succ]
          refine wpAnyH_take (i := 5) (oi := { dst := some 42, op := Op.nilCheck (Operand.tmp 41), type := 0, pos := "file.go:53", after := #[{ on := 4, ground := Ground.data }, { on := 2, ground := Ground.guard }], guard := some (2, false) }) (v := ?v5) rfl (by kernel_rfl) (by kernel_rfl) (by kernel_rfl) (fun _ _ _ h => h) (Or.inl ⟨by rfl, ?hy5⟩) (by assumption) ?rest5
          case hy5 => (intro w hSw; (try dsimp only at hSw); go_simp; try with_reducible rfl)
          try simp only [Act.put, List.setIfInBounds_toArray, List.set_cons_zero, List.set_cons_succ]
          refine wpAnyH_take (i := 6) (oi := { dst := some 43, op := Op.fieldAddr 51 (Operand.tmp 42) 2, type := 0, pos := "file.go:53", after := #[{ on := 5, ground := Ground.data }, { on := 2, ground := Ground.guard }], guard := some (2, false) }) (v := ?v6) rfl (by kernel_rfl) (by kernel_rfl) (by kernel_rfl) (fun _ _ _ h => h) (Or.inl ⟨by rfl, ?hy6⟩) (by assumption) ?rest6
          case hy6 => (intro w hSw; (try dsimp only at hSw); go_simp; try with_reducible rfl)
          try simp only [Act.put, List.setIfInBounds_toArray, List.set_cons_zero, List.set_cons_succ]
          refine wpAnyH_take (i := 7) (oi := { dst := some 44, op := Op.load 23 (Operand.tmp 43), type := 23, pos := "file.go:53", after := #[{ on := 6, ground := Ground.data }, { on := 2, ground := Ground.guard }], guard := some (2, false) }) (v := ?v7) rfl (by kernel_rfl) (by kernel_rfl) (by kernel_rfl) (fun _ _ _ h => h) (Or.inl ⟨by rfl, ?hy7⟩) (by assumption) ?rest7
          case hy7 => (intro w hSw; (try dsimp only at hSw); go_simp; try with_reducible rfl)
          try simp only [Act.put, List.setIfInBounds_toArray, List.set_cons_zero, List.set_cons_succ]
          refine wpAnyH_take (i := 8) (oi := { dst := some 45, op := Op.call { callee := Callee.builtin Builtin.len, args := #[Operand.tmp 44], argTypes := #[23] }, type := 3, pos := "file.go:53", after := #[{ on := 7, ground := Ground.data }, { on := 2, ground := Ground.guard }], guard := some (2, false) }) (v := ?v8) rfl (by kernel_rfl) (by kernel_rfl) (by kernel_rfl) (fun _ _ _ h => h) (Or.inl ⟨by rfl, ?hy8⟩) (by assumption) ?rest8
          case hy8 => (intro w hSw; (try dsimp only at hSw); go_simp; try with_reducible rfl)
          try simp only [Act.put, List.setIfInBounds_toArray, List.set_cons_zero, List.set_cons_succ]
          refine wpAnyH_take (i := 9) (oi := { dst := some 46, op := Op.binOp BinOp.geq 3 (Operand.tmp 40) (Operand.tmp 45) 3, type := 4, pos := "file.go:53", after := #[{ on := 3, ground := Ground.data }, { on := 8, ground := Ground.data }, { on := 2, ground := Ground.guard }], guard := some (2, false) }) (v := ?v9) rfl (by kernel_rfl) (by kernel_rfl) (by kernel_rfl) (fun _ _ _ h => h) (Or.inl ⟨by rfl, ?hy9⟩) (by assumption) ?rest9
          case hy9 => (intro w hSw; (try dsimp only at hSw); go_simp; try with_reducible rfl)
          try simp only [Act.put, List.setIfInBounds_toArray, List.set_cons_zero, List.set_cons_succ]
          refine wpAnyH_take (i := 10) (oi := { dst := some 47, op := Op.pick (Operand.tmp 39) (Operand.const (Value.bool true)) (Operand.tmp 46), type := 4, pos := "file.go:53", after := #[{ on := 2, ground := Ground.data }, { on := 9, ground := Ground.data }], guard := none }) (v := ?v10) rfl (by kernel_rfl) (by kernel_rfl) (by kernel_rfl) (fun _ _ _ h => h) (Or.inl ⟨by rfl, ?hy10⟩) (by assumption) ?rest10
          case hy10 => (intro w hSw; (try dsimp only at hSw); go_simp; try with_reducible rfl)
          try simp only [Act.put, List.setIfInBounds_toArray, List.set_cons_zero, List.set_cons_succ]
          refine wpAnyH_take (i := 11) (oi := { dst := some 48, op := Op.move (Operand.tmp 47), type := 4, pos := "file.go:53", after := #[{ on := 10, ground := Ground.data }, { on := 2, ground := Ground.chain }], guard := none }) (v := ?v11) rfl (by kernel_rfl) (by kernel_rfl) (by kernel_rfl) (fun _ _ _ h => h) (Or.inl ⟨by rfl, ?hy11⟩) (by assumption) ?rest11
          case hy11 => (intro w hSw; (try dsimp only at hSw); go_simp; try with_reducible rfl)
          try simp only [Act.put, List.setIfInBounds_toArray, List.set_cons_zero, List.set_cons_succ]
          refine wpAnyH_take (i := 12) (oi := { dst := some 49, op := Op.fieldAddr 55 (Operand.tmp 3) 0, type := 0, pos := "file.go:53", after := #[{ on := 11, ground := Ground.guard }], guard := some (11, false) }) (v := ?v12) rfl (by kernel_rfl) (by kernel_rfl) (by kernel_rfl) (fun _ _ _ h => h) (Or.inl ⟨by rfl, ?hy12⟩) (by assumption) ?rest12
          case hy12 => (intro w hSw; (try dsimp only at hSw); go_simp; try with_reducible rfl)
          try simp only [Act.put, List.setIfInBounds_toArray, List.set_cons_zero, List.set_cons_succ]
          refine wpAnyH_take (i := 13) (oi := { dst := some 50, op := Op.load 23 (Operand.tmp 49), type := 23, pos := "file.go:53", after := #[{ on := 12, ground := Ground.data }, { on := 11, ground := Ground.guard }], guard := some (11, false) }) (v := ?v13) rfl (by kernel_rfl) (by kernel_rfl) (by kernel_rfl) (fun _ _ _ h => h) (Or.inl ⟨by rfl, ?hy13⟩) (by assumption) ?rest13
          case hy13 => (intro w hSw; (try dsimp only at hSw); go_simp; try with_reducible rfl)
          try simp only [Act.put, List.setIfInBounds_toArray, List.set_cons_zero, List.set_cons_succ]
          refine wpAnyH_take (i := 14) (oi := { dst := some 51, op := Op.move (Operand.tmp 6), type := 3, pos := "file.go:53", after := #[{ on := 11, ground := Ground.guard }], guard := some (11, false) }) (v := ?v14) rfl (by kernel_rfl) (by kernel_rfl) (by kernel_rfl) (fun _ _ _ h => h) (Or.inl ⟨by rfl, ?hy14⟩) (by assumption) ?rest14
          case hy14 => (intro w hSw; (try dsimp only at hSw); go_simp; try with_reducible rfl)
          try simp only [Act.put, List.setIfInBounds_toArray, List.set_cons_zero, List.set_cons_succ]
          refine wpAnyH_take (i := 16) (oi := { dst := some 53, op := Op.move (Operand.tmp 5), type := 3, pos := "file.go:53", after := #[{ on := 11, ground := Ground.guard }], guard := some (11, false) }) (v := ?v16) rfl (by kernel_rfl) (by kernel_rfl) (by kernel_rfl) (fun _ _ _ h => h) (Or.inl ⟨by rfl, ?hy16⟩) (by assumption) ?rest16
          case hy16 => (intro w hSw; (try dsimp only at hSw); go_simp; try with_reducible rfl)
          try simp only [Act.put, List.setIfInBounds_toArray, List.set_cons_zero, List.set_cons_succ]
          refine wpAnyH_ready (rs := [15]) (by kernel_rfl) (by simp) ?_
          refine AllReadyH.cons (o := { dst := some 52, op := Op.call { callee := Callee.value (Operand.func 22), args := #[Operand.tmp 50, Operand.tmp 51], argTypes := #[23, 3] }, type := 3, pos := "file.go:53", after := #[{ on := 13, ground := Ground.data }, { on := 14, ground := Ground.data }, { on := 11, ground := Ground.chain }, { on := 11, ground := Ground.guard }], guard := some (11, false) }) rfl (fun K hK => ?_) AllReadyH.nil
          go_simp
          (refine hxi.mono ?_; rintro e w2 ⟨rfl, hb2⟩; have HS2 : w2.cell? ⟨xb, 0, none⟩ = some (.slice (some ad) f.scope.length c1) ∧ w2.cell? ⟨xb, 1, none⟩ = some (.pointer (some ⟨tg, 0, none⟩)) ∧ w2.cell? ⟨g, 2, none⟩ = some (.slice (some ad2) sizes.length sc) ∧ w2.cell? (ad2.add m) = some (.int .i64 k) := ⟨((bcell hb2).1 xb 0 hxl.1).trans y0, ((bcell hb2).1 xb 1 hxl.1).trans y1, ((bcell hb2).1 g 2 hxl.2.1).trans y2, (hb2.cell (p := ad2.add m) (by rw [block_of_add]; exact hxl.2.2)).trans y3⟩; have hb2' : Below wr.heap.size wr w2 := ⟨hb2.os, hb2.tape, hb2.output, hb2.size, hb2.block⟩; have hsc2 := HSZC.out w2 hb2'; have HB2 := Lib.hid hb2'; clear hb2 hb2')
          try go_wp2_with fail
          refine hK.out _ _ ?_ (fun hHeld => ?_)
          · exact HS2
          clear hK K
          try simp only [Act.put, List.setIfInBounds_toArray, List.set_cons_zero, List.set_cons_succ]
          refine wpAnyH_take (i := 17) (oi := { dst := some 54, op := Op.binOp BinOp.neq 3 (Operand.tmp 52) (Operand.tmp 53) 3, type := 4, pos := "file.go:53", after := #[{ on := 15, ground := Ground.data }, { on := 16, ground := Ground.data }, { on := 11, ground := Ground.guard }], guard := some (11, false) }) (v := ?v17) rfl (by kernel_rfl) (by kernel_rfl) (by kernel_rfl) (fun _ _ _ h => h) (Or.inl ⟨by rfl, ?hy17⟩) (by assumption) ?rest17
          case hy17 => (intro w hSw; (try dsimp only at hSw); go_simp; try with_reducible rfl)
          try simp only [Act.put, List.setIfInBounds_toArray, List.set_cons_zero, List.set_cons_succ]
          refine wpAnyH_take (i := 18) (oi := { dst := some 55, op := Op.pick (Operand.tmp 48) (Operand.const (Value.bool true)) (Operand.tmp 54), type := 4, pos := "file.go:53", after := #[{ on := 11, ground := Ground.data }, { on := 17, ground := Ground.data }], guard := none }) (v := ?v18) rfl (by kernel_rfl) (by kernel_rfl) (by kernel_rfl) (fun _ _ _ h => h) (Or.inl ⟨by rfl, ?hy18⟩) (by assumption) ?rest18
          case hy18 => (intro w hSw; (try dsimp only at hSw); go_simp; try with_reducible rfl)
          try simp only [Act.put, List.setIfInBounds_toArray, List.set_cons_zero, List.set_cons_succ]
          refine wpAnyH_take (i := 19) (oi := { dst := some 56, op := Op.move (Operand.tmp 55), type := 4, pos := "file.go:53", after := #[{ on := 18, ground := Ground.data }, { on := 15, ground := Ground.chain }], guard := none }) (v := ?v19) rfl (by kernel_rfl) (by kernel_rfl) (by kernel_rfl) (fun _ _ _ h => h) (Or.inl ⟨by rfl, ?hy19⟩) (by assumption) ?rest19
          case hy19 => (intro w hSw; (try dsimp only at hSw); go_simp; try with_reducible rfl)
          try simp only [Act.put, List.setIfInBounds_toArray, List.set_cons_zero, List.set_cons_succ]
          refine wpAnyH_take (i := 20) (oi := { dst := some 57, op := Op.fieldAddr 55 (Operand.tmp 3) 1, type := 0, pos := "file.go:53", after := #[{ on := 19, ground := Ground.guard }], guard := some (19, false) }) (v := ?v20) rfl (by kernel_rfl) (by kernel_rfl) (by kernel_rfl) (fun _ _ _ h => h) (Or.inl ⟨by rfl, ?hy20⟩) (by assumption) ?rest20
          case hy20 => (intro w hSw; (try dsimp only at hSw); go_simp; try with_reducible rfl)
          try simp only [Act.put, List.setIfInBounds_toArray, List.set_cons_zero, List.set_cons_succ]
          refine wpAnyH_take (i := 21) (oi := { dst := some 58, op := Op.load 53 (Operand.tmp 57), type := 53, pos := "file.go:53", after := #[{ on := 20, ground := Ground.data }, { on := 19, ground := Ground.guard }], guard := some (19, false) }) (v := ?v21) rfl (by kernel_rfl) (by kernel_rfl) (by kernel_rfl) (fun _ _ _ h => h) (Or.inl ⟨by rfl, ?hy21⟩) (by assumption) ?rest21
          case hy21 => (intro w hSw; (try dsimp only at hSw); go_simp; try with_reducible rfl)
          try simp only [Act.put, List.setIfInBounds_toArray, List.set_cons_zero, List.set_cons_succ]
          refine wpAnyH_take (i := 26) (oi := { dst := some 63, op := Op.move (Operand.tmp 0), type := 26, pos := "file.go:53", after := #[{ on := 19, ground := Ground.guard }], guard := some (19, false) }) (v := ?v26) rfl (by kernel_rfl) (by kernel_rfl) (by kernel_rfl) (fun _ _ _ h => h) (Or.inl ⟨by rfl, ?hy26⟩) (by assumption) ?rest26
          case hy26 => (intro w hSw; (try dsimp only at hSw); go_simp; try with_reducible rfl)
          try simp only [Act.put, List.setIfInBounds_toArray, List.set_cons_zero, List.set_cons_succ]
          refine wpAnyH_take (i := 27) (oi := { dst := some 64, op := Op.nilCheck (Operand.tmp 63), type := 0, pos := "file.go:53", after := #[{ on := 26, ground := Ground.data }, { on := 19, ground := Ground.guard }], guard := some (19, false) }) (v := ?v27) rfl (by kernel_rfl) (by kernel_rfl) (by kernel_rfl) (fun _ _ _ h => h) (Or.inl ⟨by rfl, ?hy27⟩) (by assumption) ?rest27
          case hy27 => (intro w hSw; (try dsimp only at hSw); go_simp; try with_reducible rfl)
          try simp only [Act.put, List.setIfInBounds_toArray, List.set_cons_zero, List.set_cons_succ]
          refine wpAnyH_take (i := 28) (oi := { dst := some 65, op := Op.fieldAddr 51 (Operand.tmp 64) 2, type := 0, pos := "file.go:53", after := #[{ on := 27, ground := Ground.data }, { on := 19, ground := Ground.guard }], guard := some (19, false) }) (v := ?v28) rfl (by kernel_rfl) (by kernel_rfl) (by kernel_rfl) (fun _ _ _ h => h) (Or.inl ⟨by rfl, ?hy28⟩) (by assumption) ?rest28
          case hy28 => (intro w hSw; (try dsimp only at hSw); go_simp; try with_reducible rfl)
          try simp only [Act.put, List.setIfInBounds_toArray, List.set_cons_zero, List.set_cons_succ]
          refine wpAnyH_take (i := 29) (oi := { dst := some 66, op := Op.load 23 (Operand.tmp 65), type := 23, pos := "file.go:53", after := #[{ on := 28, ground := Ground.data }, { on := 19, ground := Ground.guard }], guard := some (19, false) }) (v := ?v29) rfl (by kernel_rfl) (by kernel_rfl) (by kernel_rfl) (fun _ _ _ h => h) (Or.inl ⟨by rfl, ?hy29⟩) (by assumption) ?rest29
          case hy29 => (intro w hSw; (try dsimp only at hSw); go_simp; try with_reducible rfl)
          try simp only [Act.put, List.setIfInBounds_toArray, List.set_cons_zero, List.set_cons_succ]
          refine wpAnyH_take (i := 30) (oi := { dst := some 67, op := Op.move (Operand.tmp 6), type := 3, pos := "file.go:53", after := #[{ on := 19, ground := Ground.guard }], guard := some (19, false) }) (v := ?v30) rfl (by kernel_rfl) (by kernel_rfl) (by kernel_rfl) (fun _ _ _ h => h) (Or.inl ⟨by rfl, ?hy30⟩) (by assumption) ?rest30
          case hy30 => (intro w hSw; (try dsimp only at hSw); go_simp; try with_reducible rfl)
          try simp only [Act.put, List.setIfInBounds_toArray, List.set_cons_zero, List.set_cons_succ]
          refine wpAnyH_take (i := 31) (oi := { dst := some 68, op := Op.indexAddr 23 (Operand.tmp 66) (Operand.tmp 67), type := 0, pos := "file.go:53", after := #[{ on := 29, ground := Ground.data }, { on := 30, ground := Ground.data }, { on := 19, ground := Ground.guard }], guard := some (19, false) }) (v := ?v31) rfl (by kernel_rfl) (by kernel_rfl) (by kernel_rfl) (fun _ _ _ h => h) (Or.inl ⟨by rfl, ?hy31⟩) (by assumption) ?rest31
          case hy31 => (intro w hSw; (try dsimp only at hSw); go_simp; try with_reducible rfl)
          try simp only [Act.put, List.setIfInBounds_toArray, List.set_cons_zero, List.set_cons_succ]
          refine wpAnyH_take (i := 32) (oi := { dst := some 69, op := Op.load 3 (Operand.tmp 68), type := 3, pos := "file.go:53", after := #[{ on := 31, ground := Ground.data }, { on := 19, ground := Ground.guard }], guard := some (19, false) }) (v := ?v32) rfl (by kernel_rfl) (by kernel_rfl) (by kernel_rfl) (fun _ _ _ h => h) (Or.inl ⟨by rfl, ?hy32⟩) (by assumption) ?rest32
          case hy32 => (intro w hSw; (try dsimp only at hSw); go_simp; try with_reducible rfl)
          try simp only [Act.put, List.setIfInBounds_toArray, List.set_cons_zero, List.set_cons_succ]
          refine wpAnyH_take (i := 23) (oi := { dst := some 60, op := Op.move (Operand.tmp 5), type := 3, pos := "file.go:53", after := #[{ on := 19, ground := Ground.guard }], guard := some (19, false) }) (v := ?v23) rfl (by kernel_rfl) (by kernel_rfl) (by kernel_rfl) (fun _ _ _ h => h) (Or.inl ⟨by rfl, ?hy23⟩) (by assumption) ?rest23
          case hy23 => (intro w hSw; (try dsimp only at hSw); go_simp; try with_reducible rfl)
          try simp only [Act.put, List.setIfInBounds_toArray, List.set_cons_zero, List.set_cons_succ]
          refine wpAnyH_ready (rs := [22]) (by kernel_rfl) (by simp) ?_
          refine AllReadyH.cons (o := { dst := some 59, op := Op.call { callee := Callee.value (Operand.func 61), args := #[Operand.tmp 58], argTypes := #[53] }, type := 23, pos := "file.go:53", after := #[{ on := 21, ground := Ground.data }, { on := 19, ground := Ground.chain }, { on := 19, ground := Ground.guard }], guard := some (19, false) }) rfl (fun K hK => ?_) AllReadyH.nil
          go_simp
          (refine hsc2.mono ?_; rintro e w3 ⟨A3, c3, rfl, ho3, hb3⟩; have HS3 : w3.cell? ⟨xb, 0, none⟩ = some (.slice (some ad) f.scope.length c1) ∧ w3.cell? ⟨xb, 1, none⟩ = some (.pointer (some ⟨tg, 0, none⟩)) ∧ w3.cell? ⟨g, 2, none⟩ = some (.slice (some ad2) sizes.length sc) ∧ w3.cell? (ad2.add m) = some (.int .i64 k) := ⟨((bcell hb3).1 xb 0 (World.block_lt_of_cell? _ _ HS2.1)).trans HS2.1, ((bcell hb3).1 xb 1 (World.block_lt_of_cell? _ _ HS2.2.1)).trans HS2.2.1, ((bcell hb3).1 g 2 (World.block_lt_of_cell? _ _ HS2.2.2.1)).trans HS2.2.2.1, (hb3.cell (p := ad2.add m) (World.block_lt_of_cell? _ _ HS2.2.2.2)).trans HS2.2.2.2⟩; obtain ⟨ad3, k3, hA3, _, hk3, hc3⟩ := (Reads.of_own ho3).num (k := j) (by omega); obtain rfl : k3 = k := Option.some.inj (hk3.symm.trans HSK.out); subst hA3; have HB3 := Lib.hid hb3; clear ho3 hb3 hk3)
          try go_wp2_with fail
          refine hK.out _ _ ?_ (fun hHeld => ?_)
          · exact HS3
          clear hK K
          try simp only [Act.put, List.setIfInBounds_toArray, List.set_cons_zero, List.set_cons_succ]
          refine wpAnyH_take (i := 24) (oi := { dst := some 61, op := Op.indexAddr 23 (Operand.tmp 59) (Operand.tmp 60), type := 0, pos := "file.go:53", after := #[{ on := 22, ground := Ground.data }, { on := 23, ground := Ground.data }, { on := 19, ground := Ground.guard }], guard := some (19, false) }) (v := ?v24) rfl (by kernel_rfl) (by kernel_rfl) (by kernel_rfl) (fun _ _ _ h => h) (Or.inl ⟨by rfl, ?hy24⟩) (by assumption) ?rest24
          case hy24 => (intro w hSw; (try dsimp only at hSw); go_simp; try with_reducible rfl)
          try simp only [Act.put, List.setIfInBounds_toArray, List.set_cons_zero, List.set_cons_succ]
          refine wpAnyH_ready (rs := [25]) (by kernel_rfl) (by simp) ?_
          refine AllReadyH.cons (o := { dst := some 62, op := Op.load 3 (Operand.tmp 61), type := 3, pos := "file.go:53", after := #[{ on := 24, ground := Ground.data }, { on := 19, ground := Ground.guard }], guard := some (19, false) }) rfl (fun K hK => ?_) AllReadyH.nil
          go_simp
          refine hK.out _ _ ?_ (fun hHeld => ?_)
          · exact HS3
          clear hK K
          try simp only [Act.put, List.setIfInBounds_toArray, List.set_cons_zero, List.set_cons_succ]
          refine wpAnyH_take (i := 33) (oi := { dst := some 70, op := Op.binOp BinOp.neq 3 (Operand.tmp 62) (Operand.tmp 69) 3, type := 4, pos := "file.go:53", after := #[{ on := 25, ground := Ground.data }, { on := 32, ground := Ground.data }, { on := 19, ground := Ground.guard }], guard := some (19, false) }) (v := ?v33) rfl (by kernel_rfl) (by kernel_rfl) (by kernel_rfl) (fun _ _ _ h => h) (Or.inl ⟨by rfl, ?hy33⟩) (by assumption) ?rest33
          case hy33 => (intro w hSw; (try dsimp only at hSw); go_simp; try with_reducible rfl)
          try simp only [Act.put, List.setIfInBounds_toArray, List.set_cons_zero, List.set_cons_succ]
          refine wpAnyH_take (i := 34) (oi := { dst := some 71, op := Op.pick (Operand.tmp 56) (Operand.const (Value.bool true)) (Operand.tmp 70), type := 4, pos := "file.go:53", after := #[{ on := 19, ground := Ground.data }, { on := 33, ground := Ground.data }], guard := none }) (v := ?v34) rfl (by kernel_rfl) (by kernel_rfl) (by kernel_rfl) (fun _ _ _ h => h) (Or.inl ⟨by rfl, ?hy34⟩) (by assumption) ?rest34
          case hy34 => (intro w hSw; (try dsimp only at hSw); go_simp; try with_reducible rfl)
          try simp only [Act.put, List.setIfInBounds_toArray, List.set_cons_zero, List.set_cons_succ]
          refine wpAnyH_done (by kernel_rfl) ?_ _
          all_goals
            go_wp2_with fail
            go_meet
            case rel => exact ⟨rfl, rfl, HB2.out.trans (HB3.out.mono HB2.out.size)⟩
        case rest =>
          obtain ⟨rfl, rfl, hbc⟩ := hcut
          have hsc6 : f.scope.length ≤ 6 := HOK.out.2.2.2.2.2.2.2
          have HBC2 := Lib.hid hbc
          clear hbc x0 x1 q2 hc hc2
          go_wp2_with fail
          go_roundw
          case measure => simp [intOf]; omega
          case rel => exact ⟨j + 1, by go_num, by omega, HBW.out.trans (HBC2.out.mono HBW.out.size)⟩
      · obtain rfl : j = f.scope.length := by omega
        have HBW := Lib.hid (HB.out.trans (hbw.mono HB.out.size))
        clear hbw z0 z1
        go_wp2_with fail
        go_ret
        exact ⟨rfl, HBW.out⟩
set_option maxRecDepth 100000 in
theorem unfit_any {w : World} {g : Nat} {nm fv : Value} {K : Int} {SA : Option Addr} {sc : Nat} {sizes : List Int} {F : Nat → Prop} {v : Value} {f : Raw} (hg : Blk w g 51 #[nm, .int .i64 K, .slice SA sizes.length sc, fv]) (hs : w.ownsRow 0 3 1 (.slice SA sizes.length sc) sizes.length (nums sizes)) (hsl : sizes.length ≤ 1000000)
    (hv : FunV w F v f K) (hok : okF f K) (hf : FitF sizes f) :
    Calls Tryd.prog 60 #[.pointer (some ⟨g, 0, none⟩), v] w fun e w' => e = .returned (.bool false) ∧ Below w.heap.size w w' := by
  have hv0 := hv
  obtain ⟨v1, tg, rfl, ⟨⟨A1, c1, rfl⟩, -⟩, -, -⟩ := hv0
  have hb := bone w (.cells #[.slice A1 f.scope.length c1, .pointer (some ⟨tg, 0, none⟩)] 55)
  have hft := fits_any (Blk.under hg hb) (own_under hs hb) hsl (hv.off (S := fun _ => False) (Tch.of_below hb _) fun k h => h.elim) hok hf
  have HB := Lib.hid hb
  clear hv hg hs hb hok hf
  go_enter Tryd.func60, Tryd.ntmps60
  go_wp2_with fail
  refine hft.mono ?_
  rintro e w2 ⟨rfl, hb2⟩
  clear hft
  have HB2 := Lib.hid (bto HB.out hb2)
  clear hb2
  go_wp2_with fail
  go_ret
  exact ⟨rfl, HB2.out⟩
end Go.Proofs.YtafdijfbgkcnnaaDoor.wcp
