/- Functions that may not be a file's: with no tuples, or of another arity. -/
import Derived.Test.YtafdijfbgkcnnaaDoorRight
import Derived.Test.YtafdijfbgkcnnaaDoorTpGet
namespace Go.Proofs.YtafdijfbgkcnnaaDoor.wcp
open Go Go.RowKit Go.ChangeShapes Go.WideShapes Go.ChangeAt Go.Maps Go.Proofs.YtafdijfbgkcnnaaDoor.words Go.Proofs.YtafdijfbgkcnnaaDoor.scn
set_option linter.unusedVariables false
theorem fits_nil {w : World} {g : Nat} {CA : Option Addr} {n cc : Nat} :
    Calls Tryd.prog 80 #[.pointer (some ⟨g, 0, none⟩), .agg #[.slice CA n cc, .pointer none]] w fun e w' => e = .returned (.bool false) ∧ Below w.heap.size w w' := by
  have hb := bone w (.cells #[.slice CA n cc, .pointer none] 55)
  have hx : Blk (w.alloc (.cells #[.slice CA n cc, .pointer none] 55)) w.heap.size 55 #[.slice CA n cc, .pointer none] := Blk.new _ _ _
  obtain ⟨x0, x1⟩ := hx.two
  obtain ⟨wa, hwa⟩ : ∃ wa, w.alloc (.cells #[.slice CA n cc, .pointer none] 55) = wa := ⟨_, rfl⟩
  rw [hwa] at hb x0 x1
  have HB := Lib.hid hb
  clear hx hb
  go_enter Tryd.func80, Tryd.ntmps80
  go_upto_region 1 with fail
  go_quiet (fail)
  go_wp2_with fail
  go_ret
  exact ⟨rfl, below_drewN HB.out _⟩
set_option maxRecDepth 100000 in
set_option maxHeartbeats 8000000 in
theorem fits_arity {w : World} {g tg m : Nat} {nm fv sv : Value} {K : Int} {CA : Option Addr} {n cc : Nat} {F : Nat → Prop} {T : TpH} (hg : Blk w g 51 #[nm, .int .i64 K, sv, fv]) (hT : TpV w tg F m T) (h6 : T.sizes.length ≤ 6) (hk : T.k = K) (hn : T.sizes.length ≠ n) :
    Calls Tryd.prog 80 #[.pointer (some ⟨g, 0, none⟩), .agg #[.slice CA n cc, .pointer (some ⟨tg, 0, none⟩)]] w fun e w' => e = .returned (.bool false) ∧ Below w.heap.size w w' := by
  have hb := bone w (.cells #[.slice CA n cc, .pointer (some ⟨tg, 0, none⟩)] 55)
  have hx : Blk (w.alloc (.cells #[.slice CA n cc, .pointer (some ⟨tg, 0, none⟩)] 55)) w.heap.size 55 #[.slice CA n cc, .pointer (some ⟨tg, 0, none⟩)] := Blk.new _ _ _
  have hTb : ∀ W, Below w.heap.size w W → TpV W tg F m T := fun W hW => hT.keep (Tch.of_below hW (fun _ => False)) fun _ _ h => h
  have HG := Lib.hid hg
  obtain ⟨wa, hwa⟩ : ∃ wa, w.alloc (.cells #[.slice CA n cc, .pointer (some ⟨tg, 0, none⟩)] 55) = wa := ⟨_, rfl⟩
  obtain ⟨xb, hxb⟩ : ∃ xb, w.heap.size = xb := ⟨_, rfl⟩
  rw [hwa, hxb] at hx
  rw [hwa] at hb
  have hkk := tk_any (hTb wa.drew ((show Below w.heap.size w wa.drew from ⟨hb.os, hb.tape, hb.output, hb.size, hb.block⟩)))
  have HAR := Lib.hid (fun W hW => tarity_any (hTb W hW) h6)
  rw [hk] at hkk
  have HB := Lib.hid hb
  have HX := Lib.hid hx
  have hga := Blk.under hg hb
  obtain ⟨q0, q1, q2, q3, -⟩ := Blk.four (t := 51) hga
  obtain ⟨x0, x1⟩ := hx.two
  have hnb : ((T.sizes.length : Int) != (n : Int)) = true := by simp; omega
  clear hg hT hb hx hTb hga h6 hk hn
  go_enter Tryd.func80, Tryd.ntmps80
  go_upto_region 1 with fail
  clear hwa hxb
  have y0 : wa.drew.cell? ⟨xb, 0, none⟩ = some (.slice CA n cc) := x0
  have y1 : wa.drew.cell? ⟨xb, 1, none⟩ = some (.pointer (some ⟨tg, 0, none⟩)) := x1
  have y2 : wa.drew.cell? ⟨g, 1, none⟩ = some (.int .i64 K) := q1
  have hl1 : xb < wa.heap.size ∧ g < wa.heap.size := ⟨Blk.lt HX.out, by have := Blk.lt HG.out; have := HB.out.size; omega⟩
  go_region_held3 (fun W => W.cell? ⟨xb, 0, none⟩ = some (.slice CA n cc) ∧ W.cell? ⟨xb, 1, none⟩ = some (.pointer (some ⟨tg, 0, none⟩)) ∧ W.cell? ⟨g, 1, none⟩ = some (.int .i64 K)) (first | exact ⟨y0, y1, y2⟩ | exact HS2 | exact HS3) (first
    | (go_at_call 63; refine hkk.mono ?_; rintro e w2 ⟨rfl, hw2⟩; have HS2 : w2.cell? ⟨xb, 0, none⟩ = some (.slice CA n cc) ∧ w2.cell? ⟨xb, 1, none⟩ = some (.pointer (some ⟨tg, 0, none⟩)) ∧ w2.cell? ⟨g, 1, none⟩ = some (.int .i64 K) := (by rw [← hw2]; exact ⟨y0, y1, y2⟩); have hbw2 : Below wa.heap.size wa w2 := (by rw [← hw2]; exact ⟨rfl, rfl, rfl, Nat.le_refl _, fun _ _ => rfl⟩); have har := HAR.out w2 (bto HB.out hbw2); have HB2 := Lib.hid hbw2; clear hw2 hbw2)
    | (go_at_call 88; refine har.mono ?_; rintro e w3 ⟨rfl, hb3⟩; have HS3 : w3.cell? ⟨xb, 0, none⟩ = some (.slice CA n cc) ∧ w3.cell? ⟨xb, 1, none⟩ = some (.pointer (some ⟨tg, 0, none⟩)) ∧ w3.cell? ⟨g, 1, none⟩ = some (.int .i64 K) := ⟨((bcell hb3).1 xb 0 (World.block_lt_of_cell? _ _ HS2.1)).trans HS2.1, ((bcell hb3).1 xb 1 (World.block_lt_of_cell? _ _ HS2.2.1)).trans HS2.2.1, ((bcell hb3).1 g 1 (World.block_lt_of_cell? _ _ HS2.2.2)).trans HS2.2.2⟩; have HB3 := Lib.hid hb3; clear hb3))
  all_goals
    go_wp2_with fail
    go_ret
    exact ⟨rfl, bto HB.out (bto HB2.out HB3.out)⟩
/-- it mayn't be this file's -/
theorem unfit_no {w : World} {g : Nat} {CA : Option Addr} {n cc : Nat} {tp : Option Addr} (h : ∀ W, Below w.heap.size w W → Calls Tryd.prog 80 #[.pointer (some ⟨g, 0, none⟩), .agg #[.slice CA n cc, .pointer tp]] W fun e w' => e = .returned (.bool false) ∧ Below W.heap.size W w') :
    Calls Tryd.prog 60 #[.pointer (some ⟨g, 0, none⟩), .agg #[.slice CA n cc, .pointer tp]] w fun e w' => e = .returned (.bool true) ∧ Below w.heap.size w w' := by
  have hb := bone w (.cells #[.slice CA n cc, .pointer tp] 55)
  have hft := h _ hb
  have HB := Lib.hid hb
  clear h hb
  go_enter Tryd.func60, Tryd.ntmps60
  go_wp2_with fail
  refine hft.mono ?_
  rintro e w2 ⟨rfl, hb2⟩
  clear hft
  have HB2 := Lib.hid (bto HB.out hb2)
  clear hb2
  go_wp2_with fail
  go_ret
  exact ⟨rfl, HB2.out⟩
end Go.Proofs.YtafdijfbgkcnnaaDoor.wcp
