/- PkL: RightG, LinesE, TpNew, CopyG, NilF, RightL, one behind the other. -/
import Derived.Test.YtafdijfbgkcnnaaDoorFitsNo
import Derived.Test.YtafdijfbgkcnnaaDoorWordNo
import Derived.Test.YtafdijfbgkcnnaaDoorTpGet
import Derived.RangeFuncBox
import Derived.RangeFuncBound
import Derived.RangeFuncLeaves
import Derived.Shelf.Abstract
import Derived.WalkKit
import Derived.OwnWalkIn
import Derived.TacticsInMore
import Derived.LoopNIn
import Derived.LoopIn
import Derived.Maps.AppendAt
import Derived.Sort.MapsRangeIn
import Derived.Test.YtafdijfbgkcnnaaDoorTpCon
import Derived.Deep.RegionLaw
/- Whether a file of one function is right, whatever it is. -/
namespace Go.Proofs.YtafdijfbgkcnnaaDoor.wcp
open Go Go.RowKit Go.ChangeShapes Go.WideShapes Go.ChangeAt Go.Maps Go.Proofs.YtafdijfbgkcnnaaDoor.words Go.Proofs.YtafdijfbgkcnnaaDoor.scn
set_option linter.unusedVariables false
theorem index_one {w : World} {g fb fc n cc : Nat} {CA : Option Addr} {tp : Option Addr} (U : Bool) (hf : w.ownsRow 0 55 2 (.slice (some ⟨fb, 0, none⟩) 1 fc) 1 [.slice CA n cc, .pointer tp])
    (hun : Calls Tryd.prog 60 #[.pointer (some ⟨g, 0, none⟩), .agg #[.slice CA n cc, .pointer tp]] w fun e w' => e = .returned (.bool U) ∧ Below w.heap.size w w') :
    Calls Tryd.prog 79 #[.slice (some ⟨fb, 0, none⟩) 1 fc, .func (.func 60) #[.pointer (some ⟨g, 0, none⟩)] #[]] w fun e w' => e = .returned (.int .i64 (if U then 0 else -1)) ∧ Below w.heap.size w w' := by
  have d0 : w.cell? ⟨fb, 0, none⟩ = some (.slice CA n cc) := (hf.cellAt 0 (by omega)).trans rfl
  have d1 : w.cell? ⟨fb, 1, none⟩ = some (.pointer tp) := (hf.cellAt 1 (by omega)).trans rfl
  clear hf
  go_enter Tryd.func79, Tryd.ntmps79
  go_wp2_with fail
  go_loopw [5, 8] (fun _ jv wr => (jv = .int .i64 0 ∧ w = wr) ∨ (jv = .int .i64 1 ∧ U = false ∧ Below w.heap.size w wr)) (fun _ jv _ => 1 - (intOf jv).toNat)
  case atStart => exact .inl ⟨rfl, rfl⟩
  case round =>
    rcases hrel with ⟨rfl, rfl⟩ | ⟨rfl, rfl, hb⟩
    · go_wp2_with fail
      refine hun.mono ?_
      rintro e w2 ⟨rfl, hb2⟩
      have HB2 := Lib.hid hb2
      clear hun hb2 d0 d1
      cases U with
      | true =>
        go_wp2_with fail
        go_ret
        exact ⟨rfl, HB2.out⟩
      | false =>
        go_wp2_with fail
        go_roundw
        case measure => simp [intOf]
        case rel => exact .inr ⟨by first | rfl | trivial, by first | rfl | trivial, HB2.out⟩
    · have HB := Lib.hid hb
      clear hb hun d0 d1
      go_wp2_with fail
      go_ret
      exact ⟨rfl, HB.out⟩
theorem contains_one {w : World} {g fb fc n cc : Nat} {CA : Option Addr} {tp : Option Addr} (U : Bool) (hf : w.ownsRow 0 55 2 (.slice (some ⟨fb, 0, none⟩) 1 fc) 1 [.slice CA n cc, .pointer tp])
    (hun : Calls Tryd.prog 60 #[.pointer (some ⟨g, 0, none⟩), .agg #[.slice CA n cc, .pointer tp]] w fun e w' => e = .returned (.bool U) ∧ Below w.heap.size w w') :
    Calls Tryd.prog 59 #[.slice (some ⟨fb, 0, none⟩) 1 fc, .func (.func 60) #[.pointer (some ⟨g, 0, none⟩)] #[]] w fun e w' => e = .returned (.bool U) ∧ Below w.heap.size w w' := by
  have hi := index_one U hf hun
  clear hf hun
  cases U with
  | true =>
    go_enter Tryd.func59, Tryd.ntmps59
    go_wp2_with fail
    refine hi.mono ?_
    rintro e w2 ⟨rfl, hb⟩
    clear hi
    go_wp2_with fail
    go_ret
    exact ⟨rfl, hb⟩
  | false =>
    go_enter Tryd.func59, Tryd.ntmps59
    go_wp2_with fail
    refine hi.mono ?_
    rintro e w2 ⟨rfl, hb⟩
    clear hi
    go_wp2_with fail
    go_ret
    exact ⟨rfl, hb⟩
/-- a file of one function -/
structure OneF (w : World) (g : Nat) (name : List UInt8) (k : Int) (SA : Option Addr) (sc : Nat) (sizes : List Int) (fb fc : Nat) (CA : Option Addr) (n cc : Nat) (tp : Option Addr) : Prop where
  b : Blk w g 51 #[strV name, .int .i64 k, .slice SA sizes.length sc, .slice (some ⟨fb, 0, none⟩) 1 fc]
  s : w.ownsRow 0 3 1 (.slice SA sizes.length sc) sizes.length (nums sizes)
  f : w.ownsRow 0 55 2 (.slice (some ⟨fb, 0, none⟩) 1 fc) 1 [.slice CA n cc, .pointer tp]
variable {w : World} {g : Nat} {name : List UInt8} {k : Int} {SA : Option Addr} {sc : Nat} {sizes : List Int} {fb fc : Nat} {CA : Option Addr} {n cc : Nat} {tp : Option Addr}
theorem OneF.below {w' : World} (h : OneF w g name k SA sc sizes fb fc CA n cc tp) (hb : Below w.heap.size w w') : OneF w' g name k SA sc sizes fb fc CA n cc tp := ⟨h.b.under hb, own_under h.s hb, own_under h.f hb⟩
set_option maxRecDepth 100000 in
set_option maxHeartbeats 8000000 in
/-- it isn't right -/
theorem right_arg (h : OneF w g name k SA sc sizes fb fc CA n cc tp) (NB U : Bool) (hsl : sizes.length ≤ 1000000)
    (hname : ∀ W, Calls Tryd.prog 57 #[strV name] W fun e w' => e = .returned (.bool NB) ∧ Below W.heap.size W w')
    (hun : ∀ W, Below w.heap.size w W → Calls Tryd.prog 60 #[.pointer (some ⟨g, 0, none⟩), .agg #[.slice CA n cc, .pointer tp]] W fun e w' => e = .returned (.bool U) ∧ Below W.heap.size W w')
    (hx : NB = false ∨ sizes = [] ∨ anyBad sizes = true ∨ rightB k = false ∨ U = true) :
    Calls Tryd.prog 26 #[.pointer (some ⟨g, 0, none⟩)] w fun e w' => e = .returned (.int .i64 1) ∧ Below w.heap.size w w' := by
  have hbad := contains_fn_r SA sizes.length sc sizes
  have hrt := right_any k
  have hcf := fun (W : World) (hW : Below w.heap.size w W) => contains_one U (h.below hW).f (hun W hW)
  obtain ⟨q0, q1, q2, q3, -⟩ := Blk.four (t := 51) h.b
  have HH := Lib.hid h
  have HCF := Lib.hid hcf
  have HRT := Lib.hid hrt
  have HX := Lib.hid hx
  clear h hun hcf hrt hx
  go_enter Tryd.func26, Tryd.ntmps26
  go_wp2_with fail
  refine (hname w).mono ?_
  rintro e w1 ⟨rfl, hb1⟩
  have hw1 := HH.out.below hb1
  obtain ⟨q0, q1, q2, q3, -⟩ := Blk.four (t := 51) hw1.b
  have hbd := hbad w1 (by unfold maxLen; omega) (Reads.of_own hw1.s)
  have HBX := Lib.hid hb1
  clear hw1 hb1 hname hbad
  cases NB with
  | false =>
    go_wp2_with fail
    go_ret
    exact ⟨rfl, HBX.out⟩
  | true =>
    by_cases hs0 : (sizes.length : Int) = 0
    · have hs00 : ((sizes.length : Int) == 0) = true := by simp [hs0]
      clear hs0
      go_wp2_with fail
      go_ret
      exact ⟨rfl, HBX.out⟩
    · have hs00 : ((sizes.length : Int) == 0) = false := by simpa using hs0
      have hsn : ¬ sizes = [] := fun e => hs0 (by rw [e]; rfl)
      have HSN := Lib.hid hsn
      clear hs0 hsn
      obtain ⟨AB, hAB⟩ : ∃ AB, anyBad sizes = AB := ⟨_, rfl⟩
      rw [hAB] at hbd
      go_wp2_with fail
      refine hbd.mono ?_
      rintro e w2 ⟨rfl, rfl⟩
      have HAB := Lib.hid hAB
      clear hbd hAB
      cases AB with
      | true =>
        go_wp2_with fail
        go_ret
        exact ⟨rfl, HBX.out⟩
      | false =>
        obtain ⟨RB, hRB⟩ : ∃ RB, rightB k = RB := ⟨_, rfl⟩
        have hrt := HRT.out w1
        rw [hRB] at hrt
        have HRB := Lib.hid hRB
        clear hRB
        go_wp2_with fail
        refine hrt.mono ?_
        rintro e w2 ⟨rfl, rfl⟩
        clear hrt
        cases RB with
        | false =>
          go_wp2_with fail
          go_ret
          exact ⟨rfl, HBX.out⟩
        | true =>
          obtain rfl : U = true := by
            rcases HX.out with h | h | h | h | h
            · cases h
            · exact absurd h HSN.out
            · rw [HAB.out] at h; cases h
            · rw [HRB.out] at h; cases h
            · exact h
          have hcf := HCF.out w1 HBX.out
          go_wp2_with fail
          refine hcf.mono ?_
          rintro e w2 ⟨rfl, hb2⟩
          have HBX := Lib.hid (bto HBX.out hb2)
          clear hcf hb2 q0 q1 q2 q3
          go_wp2_with fail
          go_ret
          exact ⟨rfl, HBX.out⟩
set_option maxRecDepth 100000 in
set_option maxHeartbeats 8000000 in
/-- it is, but for its greatness -/
theorem right_size {tg : Nat} {F : Nat → Prop} {T : TpH} (h : OneF w g name k SA sc sizes fb fc CA n cc (some ⟨tg, 0, none⟩)) (hT : TpV w tg F 0 T) (h6 : T.sizes.length ≤ 6) (hs1 : ∀ z ∈ T.sizes, 1 ≤ z ∧ z ≤ 32) (hsl : sizes.length ≤ 1000000) (hnl : name.length ≤ 1000000)
    (hname : ∀ W, Calls Tryd.prog 57 #[strV name] W fun e w' => e = .returned (.bool true) ∧ Below W.heap.size W w')
    (hun : ∀ W, Below w.heap.size w W → Calls Tryd.prog 60 #[.pointer (some ⟨g, 0, none⟩), .agg #[.slice CA n cc, .pointer (some ⟨tg, 0, none⟩)]] W fun e w' => e = .returned (.bool false) ∧ Below W.heap.size W w')
    (hs0 : sizes ≠ []) (hab : anyBad sizes = false) (hrb : rightB k = true) (R : Int) (hR : R = if (64 < name.length ∨ 64 < sizes.length ∨ great T.sizes = true) then 5 else 0) :
    Calls Tryd.prog 26 #[.pointer (some ⟨g, 0, none⟩)] w fun e w' => e = .returned (.int .i64 R) ∧ Below w.heap.size w w' := by
  obtain ⟨i6, h60, h61, h62, h63⟩ := info_parts info64
  have hbad := contains_fn_r SA sizes.length sc sizes
  have hrt := right_any k
  have hcf := fun (W : World) (hW : Below w.heap.size w W) => contains_one false (h.below hW).f (hun W hW)
  obtain ⟨q0, q1, q2, q3, -⟩ := Blk.four (t := 51) h.b
  have hs00 : ((sizes.length : Int) == 0) = false := by simp; exact hs0
  have HRR := Lib.hid hR
  have HH := Lib.hid h
  have HCF := Lib.hid hcf
  have HRT := Lib.hid hrt
  have HTT := Lib.hid hT
  have HS1 := Lib.hid hs1
  have HAB := Lib.hid hab
  have HRB := Lib.hid hrb
  clear h hun hcf hrt hT hs1 hs0 hab hrb hR
  go_enter Tryd.func26, Tryd.ntmps26
  go_wp2_with fail
  refine (hname w).mono ?_
  rintro e w1 ⟨rfl, hb1⟩
  have hw1 := HH.out.below hb1
  obtain ⟨q0, q1, q2, q3, -⟩ := Blk.four (t := 51) hw1.b
  have hbd := hbad w1 (by unfold maxLen; omega) (Reads.of_own hw1.s)
  rw [HAB.out] at hbd
  have hrt := HRT.out w1
  rw [HRB.out] at hrt
  have hcf := HCF.out w1 hb1
  have HB1 := Lib.hid hb1
  clear hw1 hb1 hname hbad
  go_wp2_with fail
  refine hbd.mono ?_
  rintro e w2 ⟨rfl, rfl⟩
  clear hbd
  go_wp2_with fail
  refine hrt.mono ?_
  rintro e w2 ⟨rfl, rfl⟩
  clear hrt
  go_wp2_with fail
  refine hcf.mono ?_
  rintro e w2 ⟨rfl, hb2⟩
  clear hcf
  have hb2' := bto HB1.out hb2
  have hw2 := HH.out.below hb2'
  obtain ⟨q0, q1, q2, q3, -⟩ := Blk.four (t := 51) hw2.b
  have HW2 := Lib.hid hw2
  have HB2 := Lib.hid hb2'
  have HT2 := Lib.hid (HTT.out.keep (Tch.of_below hb2' (fun _ => False)) fun _ _ h => h)
  clear hw2 hb2 hb2'
  by_cases hn64 : (64 : Int) < (name.length : Int)
  · have hnI : decide ((64 : Int) < (name.length : Int)) = true := decide_eq_true hn64
    have HR : Hid (R = 5) := HRR.out.trans (if_pos (.inl (by omega)))
    clear hn64
    go_wp2_with fail
    clear q0 q1 q2 q3
    go_loopw [4, 5, 7, 8, 10, 79, 92] (fun lv bv _ _ _ jv _ wr => lv = .int .i64 0 ∧ bv = .bool true ∧ ((jv = .int .i64 0 ∧ w2 = wr) ∨ (jv = .int .i64 1 ∧ Hid (Below w.heap.size w wr)))) (fun _ _ _ _ _ jv _ _ => 1 - (intOf jv).toNat)
    case atStart => exact ⟨rfl, rfl, .inl ⟨rfl, rfl⟩⟩
    case round =>
      obtain ⟨rfl, rfl, ⟨rfl, rfl⟩ | ⟨rfl, hb⟩⟩ := hrel
      · have hw := HW2.out
        obtain ⟨hgb, hs, hrow⟩ := hw
        have d0 : w2.cell? ⟨fb, 0, none⟩ = some (.slice CA n cc) := (hrow.cellAt 0 (by omega)).trans rfl
        have d1 : w2.cell? ⟨fb, 1, none⟩ = some (.pointer (some ⟨tg, 0, none⟩)) := (hrow.cellAt 1 (by omega)).trans rfl
        have hb1 := bone w2 (.cells #[.slice CA n cc, .pointer (some ⟨tg, 0, none⟩)] 55)
        have hx : Blk (w2.alloc (.cells #[.slice CA n cc, .pointer (some ⟨tg, 0, none⟩)] 55)) w2.heap.size 55 #[.slice CA n cc, .pointer (some ⟨tg, 0, none⟩)] := Blk.new _ _ _
        obtain ⟨x0, x1⟩ := hx.two
        have hT1 := HT2.out.keep (Tch.of_below hb1 (fun _ => False)) fun _ _ h => h
        have hln := tlen_any hT1
        have hsz := tsizes_any hT1 h6
        have HBO := Lib.hid hb1
        clear hgb hs hrow hb1 hx hT1
        go_wp2_with fail
        refine hln.mono ?_
        rintro e w3 ⟨⟨m, rfl, hm⟩, rfl⟩
        obtain rfl : m = 0 := by omega
        clear hln hm
        go_wp2_with fail
        refine hsz.mono ?_
        rintro e w4 ⟨A4, c4, rfl, ho4, hb4⟩
        have HB4 := Lib.hid (bto HB2.out (bto HBO.out hb4))
        have HO4 := Lib.hid ho4
        clear hsz ho4 hb4 d0 d1 x0 x1
        go_wp2_with fail
        go_loopw [8, 10, 92] (fun ov _ iv wy => ∃ (i : Nat) (A5 : Option Addr) (c5 : Nat), iv = .int .i64 i ∧ i ≤ T.sizes.length ∧ ov = .slice A5 i c5 ∧ Hid (wy.ownsRow w4.heap.size 2 1 (.slice A5 i c5) i (nums (T.sizes.take i))) ∧ Hid (Below w4.heap.size w4 wy)) (fun _ _ iv _ => T.sizes.length - (intOf iv).toNat)
        case atStart => exact ⟨0, none, 0, rfl, Nat.zero_le _, rfl, World.ownsRow_nil _ _ _ _, Below.refl _ _⟩
        case round =>
          obtain ⟨i, A5, c5, rfl, hi2, rfl, ho5, hb5⟩ := hrel
          by_cases hlti : i < T.sizes.length
          · obtain ⟨ad, y, rfl, _, hy, hc⟩ := ((Reads.of_own HO4.out).below hb5.out).num hlti
            have hA1 := ho5.out.alloc (.cells #[.int .i64 y] 2)
            have hr1 : Reads (wr.alloc (.cells #[.int .i64 y] 2)) (wr.alloc (.cells #[.int .i64 y] 2)).heap.size 1 (some ⟨wr.heap.size, 0, none⟩) 1 (nums [y]) := reads_block (t := 2) (heap_alloc_new _ _) rfl
            have hszz : w4.heap.size ≤ (wr.alloc (.cells #[.int .i64 y] 2)).heap.size := by have := hb5.out.size; simp; omega
            have OZ := Lib.hid hA1
            have HY := Lib.hid hy
            have iI : decide ((i : Int) < (T.sizes.length : Int)) = true := decide_eq_true (by omega)
            clear hy
            go_wp2_with (first
              | (at_builtin; refine wpList_append_any _ rfl (.tmp 96) (.tmp 98) _ rfl w4.heap.size 2 i6 _ 1 8 Tryd.underlying34 h60 h61 h62 h63 rfl (by omega) (.slice A5 i c5) i _ rfl hA1 (wr.alloc (.cells #[.int .i64 y] 2)).heap.size (some ⟨wr.heap.size, 0, none⟩) 1 1 (nums [y]) rfl hr1 nums_one (by simp only [maxLen]; omega) (by omega) hszz ?_; intro v6 w6 hown6 hg6 hat6; clear hat6; obtain ⟨A6, c6, rfl⟩ := own_shape hown6; have HO6 := Lib.hid hown6; have HG6 : Hid ((wr.alloc (.cells #[.int .i64 y] 2)).grownBy w6 (Value.slice A5 i c5).ownBlock) := hg6; clear hown6 hg6 hA1 hr1)
              | fail)
            go_roundw
            case measure => simp [intOf]; omega
            case rel =>
              refine ⟨i + 1, A6, c6, by go_num, by omega, rfl, ?_, ?_⟩
              · rw [List.take_add_one, HY.out, show nums (T.sizes.take i ++ (some y).toList) = nums (T.sizes.take i) ++ nums [y] by simp [nums]]; exact HO6.out
              · exact ((hb5.out.trans ((bone wr (.cells #[.int .i64 y] 2)).mono hb5.out.size))).trans ((Tch.of_grown HG6.out (S := fun q => some q = (Value.slice A5 i c5).ownBlock) fun q _ hq => hq).below (by have := hb5.out.size; simp; omega) fun q hq h => by have := (own_in OZ.out h.symm).1; omega)
          · obtain rfl : i = T.sizes.length := by omega
            have iI : decide ((T.sizes.length : Int) < (T.sizes.length : Int)) = false := decide_eq_false (by omega)
            have HBZ := Lib.hid (bto HB4.out hb5.out)
            go_wp2_with fail
            go_roundw
            case measure => simp [intOf]
            case rel => exact ⟨rfl, rfl, .inr ⟨by first | rfl | trivial, HBZ⟩⟩
      · go_wp2_with fail
        go_ret
        exact ⟨congrArg (fun x => Ending.returned (.int .i64 x)) HR.out.symm, hb.out⟩
  · have hnI : decide ((64 : Int) < (name.length : Int)) = false := decide_eq_false hn64
    by_cases hs64 : (64 : Int) < (sizes.length : Int)
    · have hsI : decide ((64 : Int) < (sizes.length : Int)) = true := decide_eq_true hs64
      have HR : Hid (R = 5) := HRR.out.trans (if_pos (.inr (.inl (by omega))))
      clear hn64 hs64
      go_wp2_with fail
      clear q0 q1 q2 q3
      go_loopw [4, 5, 7, 8, 10, 79, 92] (fun lv bv _ _ _ jv _ wr => lv = .int .i64 0 ∧ bv = .bool true ∧ ((jv = .int .i64 0 ∧ w2 = wr) ∨ (jv = .int .i64 1 ∧ Hid (Below w.heap.size w wr)))) (fun _ _ _ _ _ jv _ _ => 1 - (intOf jv).toNat)
      case atStart => exact ⟨rfl, rfl, .inl ⟨rfl, rfl⟩⟩
      case round =>
        obtain ⟨rfl, rfl, ⟨rfl, rfl⟩ | ⟨rfl, hb⟩⟩ := hrel
        · have hw := HW2.out
          obtain ⟨hgb, hs, hrow⟩ := hw
          have d0 : w2.cell? ⟨fb, 0, none⟩ = some (.slice CA n cc) := (hrow.cellAt 0 (by omega)).trans rfl
          have d1 : w2.cell? ⟨fb, 1, none⟩ = some (.pointer (some ⟨tg, 0, none⟩)) := (hrow.cellAt 1 (by omega)).trans rfl
          have hb1 := bone w2 (.cells #[.slice CA n cc, .pointer (some ⟨tg, 0, none⟩)] 55)
          have hx : Blk (w2.alloc (.cells #[.slice CA n cc, .pointer (some ⟨tg, 0, none⟩)] 55)) w2.heap.size 55 #[.slice CA n cc, .pointer (some ⟨tg, 0, none⟩)] := Blk.new _ _ _
          obtain ⟨x0, x1⟩ := hx.two
          have hT1 := HT2.out.keep (Tch.of_below hb1 (fun _ => False)) fun _ _ h => h
          have hln := tlen_any hT1
          have hsz := tsizes_any hT1 h6
          have HBO := Lib.hid hb1
          clear hgb hs hrow hb1 hx hT1
          go_wp2_with fail
          refine hln.mono ?_
          rintro e w3 ⟨⟨m, rfl, hm⟩, rfl⟩
          obtain rfl : m = 0 := by omega
          clear hln hm
          go_wp2_with fail
          refine hsz.mono ?_
          rintro e w4 ⟨A4, c4, rfl, ho4, hb4⟩
          have HB4 := Lib.hid (bto HB2.out (bto HBO.out hb4))
          have HO4 := Lib.hid ho4
          clear hsz ho4 hb4 d0 d1 x0 x1
          go_wp2_with fail
          go_loopw [8, 10, 92] (fun ov _ iv wy => ∃ (i : Nat) (A5 : Option Addr) (c5 : Nat), iv = .int .i64 i ∧ i ≤ T.sizes.length ∧ ov = .slice A5 i c5 ∧ Hid (wy.ownsRow w4.heap.size 2 1 (.slice A5 i c5) i (nums (T.sizes.take i))) ∧ Hid (Below w4.heap.size w4 wy)) (fun _ _ iv _ => T.sizes.length - (intOf iv).toNat)
          case atStart => exact ⟨0, none, 0, rfl, Nat.zero_le _, rfl, World.ownsRow_nil _ _ _ _, Below.refl _ _⟩
          case round =>
            obtain ⟨i, A5, c5, rfl, hi2, rfl, ho5, hb5⟩ := hrel
            by_cases hlti : i < T.sizes.length
            · obtain ⟨ad, y, rfl, _, hy, hc⟩ := ((Reads.of_own HO4.out).below hb5.out).num hlti
              have hA1 := ho5.out.alloc (.cells #[.int .i64 y] 2)
              have hr1 : Reads (wr.alloc (.cells #[.int .i64 y] 2)) (wr.alloc (.cells #[.int .i64 y] 2)).heap.size 1 (some ⟨wr.heap.size, 0, none⟩) 1 (nums [y]) := reads_block (t := 2) (heap_alloc_new _ _) rfl
              have hszz : w4.heap.size ≤ (wr.alloc (.cells #[.int .i64 y] 2)).heap.size := by have := hb5.out.size; simp; omega
              have OZ := Lib.hid hA1
              have HY := Lib.hid hy
              have iI : decide ((i : Int) < (T.sizes.length : Int)) = true := decide_eq_true (by omega)
              clear hy
              go_wp2_with (first
                | (at_builtin; refine wpList_append_any _ rfl (.tmp 96) (.tmp 98) _ rfl w4.heap.size 2 i6 _ 1 8 Tryd.underlying34 h60 h61 h62 h63 rfl (by omega) (.slice A5 i c5) i _ rfl hA1 (wr.alloc (.cells #[.int .i64 y] 2)).heap.size (some ⟨wr.heap.size, 0, none⟩) 1 1 (nums [y]) rfl hr1 nums_one (by simp only [maxLen]; omega) (by omega) hszz ?_; intro v6 w6 hown6 hg6 hat6; clear hat6; obtain ⟨A6, c6, rfl⟩ := own_shape hown6; have HO6 := Lib.hid hown6; have HG6 : Hid ((wr.alloc (.cells #[.int .i64 y] 2)).grownBy w6 (Value.slice A5 i c5).ownBlock) := hg6; clear hown6 hg6 hA1 hr1)
                | fail)
              go_roundw
              case measure => simp [intOf]; omega
              case rel =>
                refine ⟨i + 1, A6, c6, by go_num, by omega, rfl, ?_, ?_⟩
                · rw [List.take_add_one, HY.out, show nums (T.sizes.take i ++ (some y).toList) = nums (T.sizes.take i) ++ nums [y] by simp [nums]]; exact HO6.out
                · exact ((hb5.out.trans ((bone wr (.cells #[.int .i64 y] 2)).mono hb5.out.size))).trans ((Tch.of_grown HG6.out (S := fun q => some q = (Value.slice A5 i c5).ownBlock) fun q _ hq => hq).below (by have := hb5.out.size; simp; omega) fun q hq h => by have := (own_in OZ.out h.symm).1; omega)
            · obtain rfl : i = T.sizes.length := by omega
              have iI : decide ((T.sizes.length : Int) < (T.sizes.length : Int)) = false := decide_eq_false (by omega)
              have HBZ := Lib.hid (bto HB4.out hb5.out)
              go_wp2_with fail
              go_roundw
              case measure => simp [intOf]
              case rel => exact ⟨rfl, rfl, .inr ⟨by first | rfl | trivial, HBZ⟩⟩
        · go_wp2_with fail
          go_ret
          exact ⟨congrArg (fun x => Ending.returned (.int .i64 x)) HR.out.symm, hb.out⟩
    · have hsI : decide ((64 : Int) < (sizes.length : Int)) = false := decide_eq_false hs64
      have HR : Hid (R = if great T.sizes = true then 5 else 0) := by
        unfold Hid
        rw [HRR.out]
        by_cases hg : great T.sizes = true
        · rw [if_pos hg, if_pos (.inr (.inr hg))]
        · rw [if_neg hg, if_neg (fun h => by rcases h with h | h | h; exact absurd h (by omega); exact absurd h (by omega); exact hg h)]
      clear hn64 hs64
      go_wp2_with fail
      clear q0 q1 q2 q3
      go_loopw [4, 5, 7, 8, 10, 79, 92] (fun lv bv _ _ _ jv _ wr => lv = .int .i64 0 ∧ ((jv = .int .i64 0 ∧ bv = .bool false ∧ w2 = wr) ∨ (jv = .int .i64 1 ∧ bv = .bool (great T.sizes) ∧ Hid (Below w.heap.size w wr)))) (fun _ _ _ _ _ jv _ _ => 1 - (intOf jv).toNat)
      case atStart => exact ⟨rfl, .inl ⟨rfl, rfl, rfl⟩⟩
      case round =>
        obtain ⟨rfl, ⟨rfl, rfl, rfl⟩ | ⟨rfl, rfl, hb⟩⟩ := hrel
        · have hw := HW2.out
          obtain ⟨hgb, hs, hrow⟩ := hw
          have d0 : w2.cell? ⟨fb, 0, none⟩ = some (.slice CA n cc) := (hrow.cellAt 0 (by omega)).trans rfl
          have d1 : w2.cell? ⟨fb, 1, none⟩ = some (.pointer (some ⟨tg, 0, none⟩)) := (hrow.cellAt 1 (by omega)).trans rfl
          have hb1 := bone w2 (.cells #[.slice CA n cc, .pointer (some ⟨tg, 0, none⟩)] 55)
          have hx : Blk (w2.alloc (.cells #[.slice CA n cc, .pointer (some ⟨tg, 0, none⟩)] 55)) w2.heap.size 55 #[.slice CA n cc, .pointer (some ⟨tg, 0, none⟩)] := Blk.new _ _ _
          obtain ⟨x0, x1⟩ := hx.two
          have hT1 := HT2.out.keep (Tch.of_below hb1 (fun _ => False)) fun _ _ h => h
          have hln := tlen_any hT1
          have hsz := tsizes_any hT1 h6
          have HBO := Lib.hid hb1
          clear hgb hs hrow hb1 hx hT1
          go_wp2_with fail
          refine hln.mono ?_
          rintro e w3 ⟨⟨m, rfl, hm⟩, rfl⟩
          obtain rfl : m = 0 := by omega
          clear hln hm
          go_wp2_with fail
          refine hsz.mono ?_
          rintro e w4 ⟨A4, c4, rfl, ho4, hb4⟩
          have HB4 := Lib.hid (bto HB2.out (bto HBO.out hb4))
          have HO4 := Lib.hid ho4
          clear hsz ho4 hb4 d0 d1 x0 x1
          go_wp2_with fail
          go_loopw [8, 10, 92] (fun ov _ iv wy => ∃ (i : Nat) (A5 : Option Addr) (c5 : Nat), iv = .int .i64 i ∧ i ≤ T.sizes.length ∧ ov = .slice A5 i c5 ∧ Hid (wy.ownsRow w4.heap.size 2 1 (.slice A5 i c5) i (nums (T.sizes.take i))) ∧ Hid (Below w4.heap.size w4 wy)) (fun _ _ iv _ => T.sizes.length - (intOf iv).toNat)
          case atStart => exact ⟨0, none, 0, rfl, Nat.zero_le _, rfl, World.ownsRow_nil _ _ _ _, Below.refl _ _⟩
          case round =>
            obtain ⟨i, A5, c5, rfl, hi2, rfl, ho5, hb5⟩ := hrel
            by_cases hlti : i < T.sizes.length
            · obtain ⟨ad, y, rfl, _, hy, hc⟩ := ((Reads.of_own HO4.out).below hb5.out).num hlti
              have hA1 := ho5.out.alloc (.cells #[.int .i64 y] 2)
              have hr1 : Reads (wr.alloc (.cells #[.int .i64 y] 2)) (wr.alloc (.cells #[.int .i64 y] 2)).heap.size 1 (some ⟨wr.heap.size, 0, none⟩) 1 (nums [y]) := reads_block (t := 2) (heap_alloc_new _ _) rfl
              have hszz : w4.heap.size ≤ (wr.alloc (.cells #[.int .i64 y] 2)).heap.size := by have := hb5.out.size; simp; omega
              have OZ := Lib.hid hA1
              have HY := Lib.hid hy
              have iI : decide ((i : Int) < (T.sizes.length : Int)) = true := decide_eq_true (by omega)
              clear hy
              go_wp2_with (first
                | (at_builtin; refine wpList_append_any _ rfl (.tmp 96) (.tmp 98) _ rfl w4.heap.size 2 i6 _ 1 8 Tryd.underlying34 h60 h61 h62 h63 rfl (by omega) (.slice A5 i c5) i _ rfl hA1 (wr.alloc (.cells #[.int .i64 y] 2)).heap.size (some ⟨wr.heap.size, 0, none⟩) 1 1 (nums [y]) rfl hr1 nums_one (by simp only [maxLen]; omega) (by omega) hszz ?_; intro v6 w6 hown6 hg6 hat6; clear hat6; obtain ⟨A6, c6, rfl⟩ := own_shape hown6; have HO6 := Lib.hid hown6; have HG6 : Hid ((wr.alloc (.cells #[.int .i64 y] 2)).grownBy w6 (Value.slice A5 i c5).ownBlock) := hg6; clear hown6 hg6 hA1 hr1)
                | fail)
              go_roundw
              case measure => simp [intOf]; omega
              case rel =>
                refine ⟨i + 1, A6, c6, by go_num, by omega, rfl, ?_, ?_⟩
                · rw [List.take_add_one, HY.out, show nums (T.sizes.take i ++ (some y).toList) = nums (T.sizes.take i) ++ nums [y] by simp [nums]]; exact HO6.out
                · exact ((hb5.out.trans ((bone wr (.cells #[.int .i64 y] 2)).mono hb5.out.size))).trans ((Tch.of_grown HG6.out (S := fun q => some q = (Value.slice A5 i c5).ownBlock) fun q _ hq => hq).below (by have := hb5.out.size; simp; omega) fun q hq h => by have := (own_in OZ.out h.symm).1; omega)
            · obtain rfl : i = T.sizes.length := by omega
              have iI : decide ((T.sizes.length : Int) < (T.sizes.length : Int)) = false := decide_eq_false (by omega)
              have HBZ := Lib.hid (bto HB4.out hb5.out)
              have ho5' := ho5.out
              rw [List.take_of_length_le (Nat.le_refl _)] at ho5'
              have hgt := great_any A5 T.sizes.length c5 T.sizes wr (by omega) (Reads.of_own ho5') (fun z hz => (HS1.out z hz).1)
              clear ho5'
              go_wp2_with fail
              refine hgt.mono ?_
              rintro e w5 ⟨rfl, rfl⟩
              clear hgt
              go_wp2_with fail
              go_roundw
              case measure => simp [intOf]
              case rel => exact ⟨rfl, .inr ⟨by first | rfl | trivial, rfl, HBZ⟩⟩
        · obtain ⟨G, hG⟩ : ∃ G, great T.sizes = G := ⟨_, rfl⟩
          have HR : Hid (R = if G = true then 5 else 0) := by unfold Hid; rw [← hG]; exact HR.out
          rw [hG]
          clear hG
          cases G with
          | true =>
            go_wp2_with fail
            go_ret
            exact ⟨congrArg (fun x => Ending.returned (.int .i64 x)) HR.out.symm, hb.out⟩
          | false =>
            go_wp2_with fail
            go_ret
            exact ⟨congrArg (fun x => Ending.returned (.int .i64 x)) HR.out.symm, hb.out⟩
end Go.Proofs.YtafdijfbgkcnnaaDoor.wcp
/- Lines of tuples that all cost the same: none. -/
namespace Go.Proofs.YtafdijfbgkcnnaaDoor.wcp
open Go Go.RowKit Go.Shelf Go.ChangeShapes Go.WideShapes Go.ChangeAt Go.Maps Go.Sort Go.Proofs.YtafdijfbgkcnnaaDoor.words
set_option linter.unusedVariables false
attribute [local go_sem] Oper.semAt_some
set_option maxRecDepth 100000 in
set_option maxHeartbeats 2000000 in
theorem keys_stops (n : Nat) (hn : 1 ≤ n) (bx mb nn n₀ : Nat) (D : DataW Unit) (w : World) (hn₀ : n₀ ≤ w.heap.size) (hb : Blk w bx 112 #[.map (some mb)]) (hown : w.ownsMap Tryd.prog 119 (plainElem Tryd.prog 2) mb nn D) (hD : ∀ kl, Maps.has D kl = false) :
    SeqStopsK Fence.wide n Tryd.prog 92 #[.pointer (some ⟨bx, 0, none⟩)] (fun x : Empty => #[Value.int .i64 0]) (Below n₀) (fun ys => True) (fun _ => False) 0 w := fun l J Jx W hW hJ _ hY h0 => by
  have hb' := hb.under hW
  have b0 := (Blk.cell hb' 0).trans rfl
  have hown' := map_tch hown (Tch.of_below hW (fun _ => False)) id
  have hstep : Hid (∀ ys W1 W2, J ys W1 → Below W1.heap.size W1 W2 → J ys W2) := fun ys W1 W2 h hbl => hJ ys W1 W2 none h (only_of_below hbl none) (fun r e => by cases e)
  have HD := Lib.hid hD
  refine callsIn_of_wp Tryd.func92 rfl trivial ?_ rfl
  simp only [Tryd.ntmps92, List.size_toArray, List.length_cons, List.length_nil, Nat.reduceAdd, Nat.reduceSub, Array.replicate_succ, Array.replicate_zero, List.push_toArray, List.append_toArray, List.nil_append, List.cons_append]
  gi_wp2_with (first
    | (gi_at_range; refine wpListIn_range_own _ rfl _ 112 rfl 119 2 keyed6 Tryd.underlying112 _ mb nn _ rfl hown' ?_; intro w0 hrg0 hg0 hs0)
    | gi_in)
  have hb0 : Below W.heap.size W w0 := (Tch.of_grown hg0 (S := fun _ => False) fun q _ hq => by cases hq).below (Nat.le_refl _) fun _ _ h => h
  have hJ0 := hstep.out _ _ _ h0 hb0
  clear hg0 hs0 hb0
  gi_loopw [3] (fun _ wr => wr = w0) (fun _ _ => 0)
  case atStart => rfl
  case round =>
    obtain rfl := hrel
    gi_wp2_with (first
      | (gi_at_next; refine wpListIn_next_ranges _ rfl _ rfl 119 keyed6 (plainElem Tryd.prog 2) (fun v : Value => v) (fun v : Value => v) (fun key kl hk => ⟨key, rfl⟩) (fun v y hv => ⟨v, rfl⟩) mb W.heap.size nn _ _ _ rfl hrg0 ?_ ?_)
      | gi_in)
    · intro hc0
      gi_wp2
      go_end0
      exact ⟨⟨_, rfl⟩, .inl ⟨[], trivial, hJ0⟩⟩
theorem keysf_any (mb : Nat) (w : World) : Calls Tryd.prog 84 #[.map (some mb)] w fun e w' => e = .returned (.func (.func 92) #[] #[.pointer (some ⟨w.heap.size, 0, none⟩)]) ∧ w.alloc (.cells #[.map (some mb)] 112) = w' := by
  go_enter Tryd.func84, Tryd.ntmps84
  go_wp2
  go_ret
  exact ⟨rfl, rfl⟩
set_option maxRecDepth 100000 in
set_option maxHeartbeats 2000000 in
theorem appendseq_e (bx mb nn : Nat) (D : DataW Unit) (w : World) (hb : Blk w bx 112 #[.map (some mb)]) (hown : w.ownsMap Tryd.prog 119 (plainElem Tryd.prog 2) mb nn D) (hD : ∀ kl, Maps.has D kl = false) :
    Calls Tryd.prog 96 #[.slice none 0 0, .func (.func 92) #[] #[.pointer (some ⟨bx, 0, none⟩)]] w fun e w' => e = .returned (.slice none 0 0) ∧ Below w.heap.size w w' := by
  refine (callsIn_wide (n := 4)).1 ?_
  refine callsIn_of_wp_marks Tryd.func96 rfl trivial ?_ rfl
  simp only [Tryd.ntmps96, List.size_toArray, List.length_cons, List.length_nil, Nat.reduceAdd, Nat.reduceSub, Array.replicate_succ, Array.replicate_zero, List.push_toArray, List.append_toArray, List.nil_append, List.cons_append]
  gi_wp2
  have hB0 : Below w.heap.size w (w.alloc (.cells #[.slice none 0 0] 162)) := bone _ _
  have hbx : Blk (w.alloc (.cells #[.slice none 0 0] 162)) w.heap.size 162 #[.slice none 0 0] := Blk.new _ _ _
  have hb1 := hb.under hB0
  have hown1 := map_tch hown (Tch.of_below hB0 (fun _ => False)) id
  obtain ⟨w1, hw1⟩ : ∃ w1, w.alloc (.cells #[.slice none 0 0] 162) = w1 := ⟨_, rfl⟩
  rw [hw1] at hB0 hbx hb1 hown1 ⊢
  refine wpIn_rangeFunc_ownG rfl (by omega) (gf := 92) (lb := #[.pointer (some ⟨bx, 0, none⟩)]) rfl trivial (enters_of Tryd.func92 (by kernel_rfl) rfl)
    (keys_stops (4 - 1) (by omega) bx mb nn w1.heap.size D w1 (Nat.le_refl _) hb1 hown1 hD) belowK_t (belowK_b (Nat.le_refl _)) (Below.refl _ _) (fun x => x.elim)
    (fun (_ : List Empty) W => Below w1.heap.size w1 W) (fun _ _ _ => False) (ownFrom_below (Nat.le_refl _) (Nat.le_refl _)) (fun _ _ _ _ _ hs _ _ => hs) (Below.refl _ _)
    (fun x : Empty => x.elim) (fun l x => x.elim) (fun l pre x => x.elim) ?done (fun D c pre W _ h _ => h.elim)
  case done =>
    rintro D ys W hD _ hI hK
    have hc := (Blk.cell (hbx.under hI) 0).trans rfl
    gi_wp2
    refine ⟨by simp, .inl ⟨_, _, rfl, run_takeDeferred hK, ?_⟩⟩
    exact ⟨_, results_tmp rfl _ _ _, rfl, (bto hB0 hI).trans (belowK_b (w := w) (Nat.le_refl _) W D _ _ (by have := hB0.size; omega) hK rfl rfl)⟩
theorem collect_e (bx mb nn : Nat) (D : DataW Unit) (w : World) (hb : Blk w bx 112 #[.map (some mb)]) (hown : w.ownsMap Tryd.prog 119 (plainElem Tryd.prog 2) mb nn D) (hD : ∀ kl, Maps.has D kl = false) :
    Calls Tryd.prog 90 #[.func (.func 92) #[] #[.pointer (some ⟨bx, 0, none⟩)]] w fun e w' => e = .returned (.slice none 0 0) ∧ Below w.heap.size w w' := by
  have hap := appendseq_e bx mb nn D w hb hown hD
  clear hb hown hD
  go_enter Tryd.func90, Tryd.ntmps90
  go_wp2_with fail
  refine hap.mono ?_
  rintro e w2 ⟨rfl, hbl⟩
  go_wp2_with fail
  go_ret
  exact ⟨rfl, hbl⟩
theorem insertion_e (f : Value) (w : World) : Calls Tryd.prog 100 #[.slice none 0 0, .int .i64 0, .int .i64 0, f] w fun e w' => (∃ v, e = .returned v) ∧ w = w' := by
  go_enter Tryd.func100, Tryd.ntmps100
  go_wp2
  go_loopw [8] (fun iv wr => iv = .int .i64 1 ∧ w = wr) (fun _ _ => 0)
  case atStart => exact ⟨rfl, rfl⟩
  case round =>
    obtain ⟨rfl, rfl⟩ := hrel
    go_wp2
    go_end0
    exact ⟨⟨_, rfl⟩, rfl⟩
theorem pdq_e (f l : Value) (w : World) : Calls Tryd.prog 97 #[.slice none 0 0, .int .i64 0, .int .i64 0, l, f] w fun e w' => (∃ v, e = .returned v) ∧ w = w' := by
  have hi := insertion_e f w
  go_enter Tryd.func97, Tryd.ntmps97
  go_wp2_with fail
  go_loopw [1, 2] (fun a b wr => a = .int .i64 0 ∧ b = .int .i64 0 ∧ w = wr) (fun _ _ _ => 0)
  case atStart => exact ⟨rfl, rfl, rfl⟩
  case round =>
    obtain ⟨rfl, rfl, rfl⟩ := hrel
    go_wp2_with fail
    refine hi.mono ?_
    rintro e w2 ⟨⟨v, rfl⟩, rfl⟩
    go_wp2_with fail
    exact bodyPost_ret (results_none rfl _ _ _) rfl ⟨⟨_, rfl⟩, rfl⟩
theorem len64_e (w : World) : Calls Tryd.prog 109 #[.int .u64 0] w fun e w' => e = .returned (.int .i64 0) ∧ w = w' := by
  go_enter Tryd.func109, Tryd.ntmps109
  go_wp2
  go_ret
  exact ⟨congrArg Ending.returned (congrArg (Value.int IntKind.i64) (by kernel_rfl)), rfl⟩
theorem len_e (w : World) : Calls Tryd.prog 98 #[.int .u64 0] w fun e w' => e = .returned (.int .i64 0) ∧ w = w' := by
  have h := len64_e w
  go_enter Tryd.func98, Tryd.ntmps98
  go_wp2_with fail
  refine h.mono ?_
  rintro e w1 ⟨rfl, rfl⟩
  go_wp2_with fail
  go_ret
  exact ⟨rfl, rfl⟩
theorem sort_e (f : Value) (w : World) : Calls Tryd.prog 91 #[.slice none 0 0, f] w fun e w' => (∃ v, e = .returned v) ∧ w = w' := by
  have h := len_e w
  have hp := fun l => pdq_e f l w
  go_enter Tryd.func91, Tryd.ntmps91
  go_wp2_with fail
  refine h.mono ?_
  rintro e w1 ⟨rfl, rfl⟩
  go_wp2_with fail
  refine (hp _).mono ?_
  rintro e w1 ⟨⟨v, rfl⟩, rfl⟩
  go_wp2_with fail
  go_end0
  exact ⟨⟨_, rfl⟩, rfl⟩
theorem sorted_e (f : Value) (bx mb nn : Nat) (D : DataW Unit) (w : World) (hb : Blk w bx 112 #[.map (some mb)]) (hown : w.ownsMap Tryd.prog 119 (plainElem Tryd.prog 2) mb nn D) (hD : ∀ kl, Maps.has D kl = false) :
    Calls Tryd.prog 83 #[.func (.func 92) #[] #[.pointer (some ⟨bx, 0, none⟩)], f] w fun e w' => e = .returned (.slice none 0 0) ∧ Below w.heap.size w w' := by
  have hc := collect_e bx mb nn D w hb hown hD
  have hs := sort_e f
  clear hb hown hD
  go_enter Tryd.func83, Tryd.ntmps83
  go_wp2_with fail
  refine hc.mono ?_
  rintro e w1 ⟨rfl, hb1⟩
  go_wp2_with fail
  refine (hs _).mono ?_
  rintro e w2 ⟨⟨v, rfl⟩, rfl⟩
  go_wp2_with fail
  go_ret
  exact ⟨rfl, hb1⟩
/-- tuples that all cost the same have no lines -/
theorem tlines_none {w : World} {g n : Nat} {F : Nat → Prop} {T : TpH} (hT : TpV w g F n T) (hf : ∀ t, T.f t = none) : Calls Tryd.prog 65 #[.pointer (some ⟨g, 0, none⟩)] w fun e w' => e = .returned (.slice none 0 0) ∧ Below w.heap.size w w' := by
  obtain ⟨hFg, SA, sc, mb, D, hb, hown, hF, hm, hmb, hd⟩ := hT
  obtain ⟨q0, q1, q2, q3, -⟩ := Blk.four (t := 114) hb
  have hD : ∀ kl, Maps.has D kl = false := fun kl => by
    cases hk : Maps.has D kl with
    | false => rfl
    | true =>
      obtain ⟨t, ht, rfl⟩ := hd.2 kl hk
      rw [(hd.1 t ht).1, hf t] at hk
      cases hk
  have hk := keysf_any mb w
  have hb1 := bone w (.cells #[.map (some mb)] 112)
  have hbx : Blk (w.alloc (.cells #[.map (some mb)] 112)) w.heap.size 112 #[.map (some mb)] := Blk.new _ _ _
  have hs := fun f => sorted_e f w.heap.size mb n D (w.alloc (.cells #[.map (some mb)] 112)) hbx (map_tch hm (Tch.of_below hb1 (fun _ => False)) id) hD
  have HB1 := Lib.hid hb1
  clear hFg hb hown hF hm hmb hd hD hb1 hbx
  go_enter Tryd.func65, Tryd.ntmps65
  go_wp2_with fail
  refine hk.mono ?_
  rintro e w1 ⟨rfl, rfl⟩
  go_wp2_with fail
  refine (hs _).mono ?_
  rintro e w2 ⟨rfl, hb2⟩
  have HB2 := Lib.hid (bto HB1.out hb2)
  clear hk hs hb2
  go_wp2_with fail
  go_loopw [3, 20] (fun ov iv wr => ov = .slice none 0 0 ∧ iv = .int .i64 0 ∧ w2 = wr) (fun _ _ _ => 0)
  case atStart => exact ⟨rfl, rfl, rfl⟩
  case round =>
    obtain ⟨rfl, rfl, rfl⟩ := hrel
    go_wp2_with fail
    go_ret
    exact ⟨rfl, HB2.out⟩
end Go.Proofs.YtafdijfbgkcnnaaDoor.wcp
/- What no tuples are made of. -/
namespace Go.Proofs.YtafdijfbgkcnnaaDoor.wcp
open Go Go.RowKit Go.ChangeShapes Go.WideShapes Go.ChangeAt Go.Maps Go.Proofs.YtafdijfbgkcnnaaDoor.words
set_option linter.unusedVariables false
theorem tnew_bad (A : Option Addr) (n cap : Nat) (xs : List Int) (k other : Int) (w : World) (hn : n ≤ 6) (hr : Reads w w.heap.size 1 A n (nums xs)) (h1 : anyBad xs = true) :
    Calls Tryd.prog 25 #[.slice A n cap, .int .i64 k, .int .i64 other] w fun e w' => e = .returned (.tuple #[.pointer none, .int .i64 1]) ∧ w = w' := by
  have hl := nums_len hr
  have hc := contains_fn A n cap xs w (by unfold maxLen; omega) hr
  rw [h1] at hc
  subst hl
  go_enter Tryd.func25, Tryd.ntmps25
  go_wp2_with fail
  refine hc.mono ?_
  rintro e w1 ⟨rfl, rfl⟩
  clear hc
  go_wp2_with fail
  go_ret2
  exact ⟨rfl, rfl⟩
theorem tnew_out (A : Option Addr) (n cap : Nat) (xs : List Int) (k other : Int) (w : World) (hn : n ≤ 6) (hr : Reads w w.heap.size 1 A n (nums xs)) (h1 : anyBad xs = false) (h2 : inB other k = false) :
    Calls Tryd.prog 25 #[.slice A n cap, .int .i64 k, .int .i64 other] w fun e w' => e = .returned (.tuple #[.pointer none, .int .i64 3]) ∧ w = w' := by
  have hl := nums_len hr
  have hc := contains_fn A n cap xs w (by unfold maxLen; omega) hr
  rw [h1] at hc
  have hi := in_any other k w
  rw [h2] at hi
  subst hl
  go_enter Tryd.func25, Tryd.ntmps25
  go_wp2_with fail
  refine hc.mono ?_
  rintro e w1 ⟨rfl, rfl⟩
  clear hc
  go_wp2_with fail
  refine hi.mono ?_
  rintro e w1 ⟨rfl, rfl⟩
  clear hi
  go_wp2_with fail
  go_ret2
  exact ⟨rfl, rfl⟩
end Go.Proofs.YtafdijfbgkcnnaaDoor.wcp
/- A copy of a file of one function. -/
namespace Go.Proofs.YtafdijfbgkcnnaaDoor.wcp
open Go Go.RowKit Go.ChangeShapes Go.WideShapes Go.ChangeAt Go.Maps Go.Proofs.YtafdijfbgkcnnaaDoor.words Go.Proofs.YtafdijfbgkcnnaaDoor.scn
set_option linter.unusedVariables false
variable {w : World} {g : Nat} {name : List UInt8} {k : Int} {SA : Option Addr} {sc : Nat} {sizes : List Int} {fb fc : Nat} {CA : Option Addr} {n cc : Nat} {tp : Option Addr}
/-- what a copy is -/
def CopyR (w : World) (name : List UInt8) (k : Int) (sizes : List Int) (n : Nat) (T : Option TpH) (g2 : Nat) (w' : World) : Prop :=
  Below w.heap.size w w' ∧ w.heap.size ≤ g2 ∧ ∃ (ZA : Option Addr) (zc fb2 fc2 : Nat) (CA2 : Option Addr) (cc2 : Nat) (tp2 : Option Addr),
    Blk w' g2 51 #[strV name, .int .i64 k, .slice ZA sizes.length zc, .slice (some ⟨fb2, 0, none⟩) 1 fc2] ∧ w'.ownsRow w.heap.size 3 1 (.slice ZA sizes.length zc) sizes.length (nums sizes) ∧
    w'.ownsRow w.heap.size 55 2 (.slice (some ⟨fb2, 0, none⟩) 1 fc2) 1 [.slice CA2 n cc2, .pointer tp2] ∧
    ((T = none ∧ tp2 = none) ∨ ∃ tg2 T' b, T = some T' ∧ tp2 = some ⟨tg2, 0, none⟩ ∧ w.heap.size ≤ b ∧ (∀ q, (Value.slice ZA sizes.length zc).ownBlock = some q → q < b) ∧ TpV w' tg2 (fun q => b ≤ q) 0 T')
set_option maxRecDepth 100000 in
set_option maxHeartbeats 8000000 in
theorem copy_some {tg : Nat} {F : Nat → Prop} {T : TpH} {scope : List Int} (h : OneF w g name k SA sc sizes fb fc CA n cc (some ⟨tg, 0, none⟩)) (hc : w.ownsRow 0 3 1 (.slice CA n cc) n (nums scope)) (hT : TpV w tg F 0 T) (hf : ∀ t, T.f t = none) (h6 : T.sizes.length ≤ 6) (hs1 : ∀ z ∈ T.sizes, 1 ≤ z ∧ z ≤ 32) (hin : inB T.other T.k = true) (hn : n ≤ 1000000) (hsl : sizes.length ≤ 1000000) :
    Calls Tryd.prog 27 #[.pointer (some ⟨g, 0, none⟩)] w fun e w' => ∃ g2, e = .returned (.pointer (some ⟨g2, 0, none⟩)) ∧ CopyR w name k sizes n (some T) g2 w' := by
  obtain ⟨iF, hF0, hF1, hF2, hF3⟩ := info_parts infoFn
  have hTf : T = ⟨T.sizes, T.k, T.other, fun _ => none⟩ := by
    obtain ⟨a, b, c, d⟩ := T
    have : d = fun _ => none := funext hf
    rw [this]
  obtain ⟨q0, q1, q2, q3, -⟩ := Blk.four (t := 51) h.b
  have hcl := clone_any SA sizes.length sc sizes w.drew (by omega) (show Reads w.drew w.drew.heap.size 1 SA sizes.length (nums sizes) from Reads.of_own h.s)
  have hgl := h.b.lt
  have HH := Lib.hid h
  have HC := Lib.hid hc
  have HT := Lib.hid hT
  have HTF := Lib.hid hTf
  have HF := Lib.hid hf
  have HS1 := Lib.hid hs1
  have HIN := Lib.hid hin
  clear h hc hT hTf hf hs1 hin
  have p0 : w.drew.cell? ⟨g, 0, none⟩ = some (strV name) := q0
  have p1 : w.drew.cell? ⟨g, 1, none⟩ = some (.int .i64 k) := q1
  have p2 : w.drew.cell? ⟨g, 2, none⟩ = some (.slice SA sizes.length sc) := q2
  go_enter Tryd.func27, Tryd.ntmps27
  go_upto_region 3 with fail
  go_region_held3 (fun W => W.cell? ⟨g, 0, none⟩ = some (strV name) ∧ W.cell? ⟨g, 1, none⟩ = some (.int .i64 k) ∧ W.cell? ⟨g, 2, none⟩ = some (.slice SA sizes.length sc)) (first | exact ⟨p0, p1, p2⟩ | exact HS2 | exact ⟨(World.cell?_alloc_lt w2 _ _ hgl2).trans HS2.1, (World.cell?_alloc_lt w2 _ _ hgl2).trans HS2.2.1, (World.cell?_alloc_lt w2 _ _ hgl2).trans HS2.2.2⟩) (first
    | (go_at_call 13; refine hcl.mono ?_; rintro e w2 ⟨ZA, zc, rfl, hoz, hb2⟩; have HS2 : w2.cell? ⟨g, 0, none⟩ = some (strV name) ∧ w2.cell? ⟨g, 1, none⟩ = some (.int .i64 k) ∧ w2.cell? ⟨g, 2, none⟩ = some (.slice SA sizes.length sc) := ⟨((bcell hb2).1 g 0 hgl).trans p0, ((bcell hb2).1 g 1 hgl).trans p1, ((bcell hb2).1 g 2 hgl).trans p2⟩; have hgl2 : g < w2.heap.size := Nat.lt_of_lt_of_le hgl hb2.size; have HB2 : Hid (Below w.heap.size w w2) := ⟨hb2.os, hb2.tape, hb2.output, hb2.size, hb2.block⟩; have HOZ : Hid (w2.ownsRow w.heap.size 3 1 (.slice ZA sizes.length zc) sizes.length (nums sizes)) := hoz; clear hcl hb2 hoz))
  all_goals
    have hb3 := bone w2 (.cells #[strV name, .int .i64 k, .slice ZA sizes.length zc, .slice none 0 0] 51)
    have hg2 : Blk (w2.alloc (.cells #[strV name, .int .i64 k, .slice ZA sizes.length zc, .slice none 0 0] 51)) w2.heap.size 51 #[strV name, .int .i64 k, .slice ZA sizes.length zc, .slice none 0 0] := Blk.new _ _ _
    obtain ⟨w3, hw3⟩ : ∃ w3, w2.alloc (.cells #[strV name, .int .i64 k, .slice ZA sizes.length zc, .slice none 0 0] 51) = w3 := ⟨_, rfl⟩
    have hw3' : w2.alloc (.cells #[.string ⟨name.toArray⟩, .int .i64 k, .slice ZA sizes.length zc, .slice none 0 0] 51) = w3 := hw3
    obtain ⟨g2, hgg⟩ : ∃ g2, w2.heap.size = g2 := ⟨_, rfl⟩
    rw [hw3] at hb3 hg2
    rw [hgg] at hg2
    have hb3' := bto HB2.out hb3
    have hO := HH.out.below hb3'
    obtain ⟨r0, r1, r2, r3, -⟩ := Blk.four (t := 51) hO.b
    rw [hw3, hgg]
    have HB3 := Lib.hid hb3'
    have HG2 := Lib.hid hg2
    have HOZ3 := Lib.hid (own_under HOZ.out hb3)
    have HO := Lib.hid hO
    have hg2l : w.heap.size ≤ g2 := by have := HB2.out.size; omega
    clear hb3 hb3' hg2 hO hw3 hw3' hgg hgl2 HS2
    go_wp2_with fail
    clear r0 r1 r2 r3
    go_loopw [31] (fun jv wr => (jv = .int .i64 0 ∧ w3 = wr) ∨ (jv = .int .i64 1 ∧ Hid (CopyR w name k sizes n (some T) g2 wr))) (fun jv _ => 1 - (intOf jv).toNat)
    case atStart => exact .inl ⟨rfl, rfl⟩
    case round =>
      rcases hrel with ⟨rfl, rfl⟩ | ⟨rfl, hdone⟩
      · have d0 : w3.cell? ⟨fb, 0, none⟩ = some (.slice CA n cc) := (HO.out.f.cellAt 0 (by omega)).trans rfl
        have d1 : w3.cell? ⟨fb, 1, none⟩ = some (.pointer (some ⟨tg, 0, none⟩)) := (HO.out.f.cellAt 1 (by omega)).trans rfl
        have hb4 := bone w3 (.cells #[.slice CA n cc, .pointer (some ⟨tg, 0, none⟩)] 55)
        have hx : Blk (w3.alloc (.cells #[.slice CA n cc, .pointer (some ⟨tg, 0, none⟩)] 55)) w3.heap.size 55 #[.slice CA n cc, .pointer (some ⟨tg, 0, none⟩)] := Blk.new _ _ _
        obtain ⟨w4, hw4⟩ : ∃ w4, w3.alloc (.cells #[.slice CA n cc, .pointer (some ⟨tg, 0, none⟩)] 55) = w4 := ⟨_, rfl⟩
        obtain ⟨xb, hxb⟩ : ∃ xb, w3.heap.size = xb := ⟨_, rfl⟩
        rw [hw4] at hb4 hx
        rw [hxb] at hx
        obtain ⟨x0, x1⟩ := hx.two
        have hB04 := bto HB3.out hb4
        have hTb : ∀ W, Below w.heap.size w W → TpV W tg F 0 T := fun W hW => HT.out.keep (Tch.of_below hW (fun _ => False)) fun _ _ h => h
        have hsz := tsizes_any (hTb w4.drew ⟨hB04.os, hB04.tape, hB04.output, hB04.size, hB04.block⟩) h6
        have HTB := Lib.hid hTb
        have HB04 := Lib.hid hB04
        have HB34 := Lib.hid hb4
        have HX := Lib.hid hx
        have hxl := hx.lt
        have y1 : w4.drew.cell? ⟨xb, 1, none⟩ = some (.pointer (some ⟨tg, 0, none⟩)) := x1
        clear hb4 hx hB04 hTb
        go_upto_region 9 with fail
        clear hw4 hxb d0 d1
        go_region_held3 (fun W => W.cell? ⟨xb, 1, none⟩ = some (.pointer (some ⟨tg, 0, none⟩))) (first | exact y1 | exact HS5 | exact HS7) (first
          | (go_at_call 61; refine hsz.mono ?_; rintro e w5 ⟨A5, c5, rfl, ho5, hb5⟩; have hb5' : Below w4.heap.size w4 w5 := ⟨hb5.os, hb5.tape, hb5.output, hb5.size, hb5.block⟩; have HS5 : w5.cell? ⟨xb, 1, none⟩ = some (.pointer (some ⟨tg, 0, none⟩)) := ((bcell hb5').1 xb 1 hxl).trans x1; have hkk := tk_any (HTB.out w5 (bto HB04.out hb5')); have hoo := tother_any (HTB.out w5 (bto HB04.out hb5')); have hnw := tnew_any A5 T.sizes.length c5 T.sizes T.k T.other w5 h6 (Reads.of_own ho5) HS1.out HIN.out; have HB5 := Lib.hid hb5'; clear hsz ho5 hb5 hb5')
          | (go_at_call 63; refine hkk.mono ?_; rintro e w6 ⟨rfl, rfl⟩; clear hkk)
          | (go_at_call 64; refine hoo.mono ?_; rintro e w6 ⟨rfl, rfl⟩; clear hoo)
          | (go_at_call 25; refine hnw.mono ?_; rintro e w7 ⟨g6, rfl, hT6, hb7⟩; have HS7 : w7.cell? ⟨xb, 1, none⟩ = some (.pointer (some ⟨tg, 0, none⟩)) := ((bcell hb7).1 xb 1 (Nat.lt_of_lt_of_le hxl HB5.out.size)).trans HS5; have HT6 := Lib.hid hT6; have HB7 := Lib.hid hb7; clear hnw hT6 hb7))
        all_goals
          have hb47 : Below w4.heap.size w4 w7 := bto HB5.out HB7.out
          have hl := tlines_none (HTB.out w7 (bto HB04.out hb47)) HF.out
          have HB47 := Lib.hid hb47
          clear hb47 x0 x1 y1 HS5
          go_wp2_with fail
          refine hl.mono ?_
          rintro e w8 ⟨rfl, hb8⟩
          have HB78 := Lib.hid hb8
          have HB48 := Lib.hid (bto HB47.out hb8)
          clear hl hb8 HS7
          go_wp2_with fail
          go_loopw [55] (fun iv wr => iv = .int .i64 0 ∧ w8 = wr) (fun _ _ => 0)
          case atStart => exact ⟨rfl, rfl⟩
          case round =>
            obtain ⟨rfl, rfl⟩ := hrel
            have hB38 := bto HB34.out HB48.out
            have hB08 := bto HB3.out hB38
            obtain ⟨x0, x1⟩ := (HX.out.under HB48.out).two
            obtain ⟨r0, r1, r2, r3, -⟩ := Blk.four (t := 51) (HG2.out.under hB38)
            have hcs := own_under HC.out hB08
            have hcl2 := clone_any CA n cc scope w8.drew (by omega) (show Reads w8.drew w8.drew.heap.size 1 CA n (nums scope) from Reads.of_own hcs)
            clear hcs
            have hlen := nums_own_len HC.out
            subst hlen
            have HB38 := Lib.hid hB38
            have HB08 := Lib.hid hB08
            have hxl8 := (HX.out.under HB48.out).lt
            clear hB38 hB08
            go_upto_region 15 with fail
            go_region_law (first
              | (refine step_append_any _ rfl (.tmp 70) (.tmp 76) 49 rfl w.heap.size 55 iF _ 2 32 Tryd.underlying49 hF0 hF1 hF2 hF3 rfl (by omega) (.slice none 0 0) 0 _ rfl hA9 (w9.alloc (.cells #[.slice A9 scope.length c9, .pointer (some ⟨g6, 0, none⟩)] 55)).heap.size (some ⟨w9.heap.size, 0, none⟩) 1 1 [.slice A9 scope.length c9, .pointer (some ⟨g6, 0, none⟩)] rfl hr9 HONE.out (by simp only [maxLen]; omega) (by omega) (by have := HB09.out.size; simp; omega) ?_; intro v10 w10 hown10 hg10 hat10; obtain ⟨A10, c10, rfl⟩ := own_shape hown10; have hB10 : Below w.heap.size w w10 := (bto HB09.out (bone w9 (.cells #[.slice A9 scope.length c9, .pointer (some ⟨g6, 0, none⟩)] 55))).trans ((Tch.of_grown hg10 (S := fun _ => False) fun q _ hq => by cases hq).below (by have := HB09.out.size; simp; omega) fun _ _ h => h); have hB310 : Below w3.heap.size w3 w10 := (bto HB39.out (bone w9 (.cells #[.slice A9 scope.length c9, .pointer (some ⟨g6, 0, none⟩)] 55))).trans ((Tch.of_grown hg10 (S := fun _ => False) fun q _ hq => by cases hq).below (by have := HB39.out.size; simp; omega) fun _ _ h => h); have hB710 : Below w7.heap.size w7 w10 := (bto HB79.out (bone w9 (.cells #[.slice A9 scope.length c9, .pointer (some ⟨g6, 0, none⟩)] 55))).trans ((Tch.of_grown hg10 (S := fun _ => False) fun q _ hq => by cases hq).below (by have := HB79.out.size; simp; omega) fun _ _ h => h); have hg2x := HG2.out.under hB310; have d3 := (Blk.four (t := 51) hg2x).2.2.2.1; have d3f := hg2x.frozen 3; have HO10 := Lib.hid hown10; have HB10 := Lib.hid hB10; have HB310 := Lib.hid hB310; have HB710 := Lib.hid hB710; clear hown10 hg10 hat10 hB10 hB310 hB710 hg2x)
              | (go_simp; go_at_call 13; refine hcl2.mono ?_; rintro e w9 ⟨A9, c9, rfl, ho9, hb9⟩; have hb9' : Below w8.heap.size w8 w9 := ⟨hb9.os, hb9.tape, hb9.output, hb9.size, hb9.block⟩; have HB09 := Lib.hid (bto HB08.out hb9'); have HB39 := Lib.hid (bto HB38.out hb9'); have HB79 := Lib.hid (bto HB78.out hb9'); have hg29 := HG2.out.under (bto HB38.out hb9'); obtain ⟨z0, z1, z2, z3, -⟩ := Blk.four (t := 51) hg29; obtain ⟨Z0, Z1, Z2, Z3, -⟩ := Blk.four (t := 51) (hg29.alloc (.cells #[.slice A9 scope.length c9, .pointer (some ⟨g6, 0, none⟩)] 55)); have hx9 := (HX.out.under HB48.out).under hb9'; obtain ⟨X0, X1⟩ := hx9.two; have hA9 : (w9.alloc (.cells #[.slice A9 scope.length c9, .pointer (some ⟨g6, 0, none⟩)] 55)).ownsRow w.heap.size 55 2 (.slice none 0 0) 0 [] := World.ownsRow_nil _ _ _ _; have hr9 : Reads (w9.alloc (.cells #[.slice A9 scope.length c9, .pointer (some ⟨g6, 0, none⟩)] 55)) (w9.alloc (.cells #[.slice A9 scope.length c9, .pointer (some ⟨g6, 0, none⟩)] 55)).heap.size 2 (some ⟨w9.heap.size, 0, none⟩) 1 [.slice A9 scope.length c9, .pointer (some ⟨g6, 0, none⟩)] := reads_two (t := 55) (heap_alloc_new _ _); have HONE : Hid (∀ u ∈ [Value.slice A9 scope.length c9, .pointer (some ⟨g6, 0, none⟩)], u.oneCell' = true) := (fun u hu => by (simp only [List.mem_cons, List.not_mem_nil, or_false] at hu; rcases hu with rfl | rfl <;> rfl)); clear hcl2 ho9 hb9 hb9' hg29 hx9))
            all_goals
              go_wp2_with fail
              go_roundw
              case measure => simp [intOf]
              case rel =>
                refine .inr ⟨by first | rfl | trivial, ?_⟩
                have ho10 : w10.ownsRow w.heap.size 55 2 (.slice A10 1 c10) 1 [.slice A9 scope.length c9, .pointer (some ⟨g6, 0, none⟩)] := HO10.out
                obtain ⟨q10, rfl, -, -⟩ := own_some ho10 (by omega)
                have hg10 := HG2.out.under HB310.out
                have T1 : Tch w10 (w10.setCell ⟨g2, 3, none⟩ (.slice (some ⟨q10, 0, none⟩) 1 c10)) (fun q => q = g2) := Tch.put (S := fun q => q = g2) (Tch.refl w10 _) (p := ⟨g2, 3, none⟩) _ rfl
                have hoff : ∀ (B : Nat) (ty : TypeId), 51 ≠ ty → Off w10 B (fun q => q = g2) ty := fun B ty hne q hq => .inr fun cs hb => Blk.ne_ hg10 hb hne hq.symm
                have hl2 : g2 < w3.heap.size := HG2.out.lt
                have hl3 : w3.heap.size ≤ w5.heap.size := Nat.le_trans HB34.out.size HB5.out.size
                have hl4 : w.heap.size ≤ w5.heap.size := (bto HB04.out HB5.out).size
                refine ⟨HB10.out.trans (T1.below HB10.out.size fun i hi e => by omega), hg2l, ZA, zc, q10, c10, A9, c9, some ⟨g6, 0, none⟩, hg10.set_ 3 _, own_off (own_under HOZ3.out HB310.out) T1 (hoff _ _ (by decide)), own_off ho10 T1 (hoff _ _ (by decide)), .inr ⟨g6, T, w3.heap.size, rfl, rfl, HB3.out.size, fun q hq => (own_in HOZ3.out hq).2, ?_⟩⟩
                rw [HTF.out]
                exact ((HT6.out.keep (Tch.of_below HB710.out (fun _ => False)) fun _ _ h => h).keep T1 fun q hq e => by subst e; omega).mono fun q hq => by omega
      · go_wp2_with fail
        go_ret
        exact ⟨g2, rfl, hdone.out⟩
set_option maxRecDepth 100000 in
set_option maxHeartbeats 8000000 in
theorem copy_none {scope : List Int} (h : OneF w g name k SA sc sizes fb fc CA n cc none) (hc : w.ownsRow 0 3 1 (.slice CA n cc) n (nums scope)) (hn : n ≤ 1000000) (hsl : sizes.length ≤ 1000000) :
    Calls Tryd.prog 27 #[.pointer (some ⟨g, 0, none⟩)] w fun e w' => ∃ g2, e = .returned (.pointer (some ⟨g2, 0, none⟩)) ∧ CopyR w name k sizes n none g2 w' := by
  obtain ⟨iF, hF0, hF1, hF2, hF3⟩ := info_parts infoFn
  obtain ⟨q0, q1, q2, q3, -⟩ := Blk.four (t := 51) h.b
  have hcl := clone_any SA sizes.length sc sizes w.drew (by omega) (show Reads w.drew w.drew.heap.size 1 SA sizes.length (nums sizes) from Reads.of_own h.s)
  have hgl := h.b.lt
  have HH := Lib.hid h
  have HC := Lib.hid hc
  clear h hc
  have p0 : w.drew.cell? ⟨g, 0, none⟩ = some (strV name) := q0
  have p1 : w.drew.cell? ⟨g, 1, none⟩ = some (.int .i64 k) := q1
  have p2 : w.drew.cell? ⟨g, 2, none⟩ = some (.slice SA sizes.length sc) := q2
  go_enter Tryd.func27, Tryd.ntmps27
  go_upto_region 3 with fail
  go_region_held3 (fun W => W.cell? ⟨g, 0, none⟩ = some (strV name) ∧ W.cell? ⟨g, 1, none⟩ = some (.int .i64 k) ∧ W.cell? ⟨g, 2, none⟩ = some (.slice SA sizes.length sc)) (first | exact ⟨p0, p1, p2⟩ | exact HS2 | exact ⟨(World.cell?_alloc_lt w2 _ _ hgl2).trans HS2.1, (World.cell?_alloc_lt w2 _ _ hgl2).trans HS2.2.1, (World.cell?_alloc_lt w2 _ _ hgl2).trans HS2.2.2⟩) (first
    | (go_at_call 13; refine hcl.mono ?_; rintro e w2 ⟨ZA, zc, rfl, hoz, hb2⟩; have HS2 : w2.cell? ⟨g, 0, none⟩ = some (strV name) ∧ w2.cell? ⟨g, 1, none⟩ = some (.int .i64 k) ∧ w2.cell? ⟨g, 2, none⟩ = some (.slice SA sizes.length sc) := ⟨((bcell hb2).1 g 0 hgl).trans p0, ((bcell hb2).1 g 1 hgl).trans p1, ((bcell hb2).1 g 2 hgl).trans p2⟩; have hgl2 : g < w2.heap.size := Nat.lt_of_lt_of_le hgl hb2.size; have HB2 : Hid (Below w.heap.size w w2) := ⟨hb2.os, hb2.tape, hb2.output, hb2.size, hb2.block⟩; have HOZ : Hid (w2.ownsRow w.heap.size 3 1 (.slice ZA sizes.length zc) sizes.length (nums sizes)) := hoz; clear hcl hb2 hoz))
  all_goals
    have hb3 := bone w2 (.cells #[strV name, .int .i64 k, .slice ZA sizes.length zc, .slice none 0 0] 51)
    have hg2 : Blk (w2.alloc (.cells #[strV name, .int .i64 k, .slice ZA sizes.length zc, .slice none 0 0] 51)) w2.heap.size 51 #[strV name, .int .i64 k, .slice ZA sizes.length zc, .slice none 0 0] := Blk.new _ _ _
    obtain ⟨w3, hw3⟩ : ∃ w3, w2.alloc (.cells #[strV name, .int .i64 k, .slice ZA sizes.length zc, .slice none 0 0] 51) = w3 := ⟨_, rfl⟩
    have hw3' : w2.alloc (.cells #[.string ⟨name.toArray⟩, .int .i64 k, .slice ZA sizes.length zc, .slice none 0 0] 51) = w3 := hw3
    obtain ⟨g2, hgg⟩ : ∃ g2, w2.heap.size = g2 := ⟨_, rfl⟩
    rw [hw3] at hb3 hg2
    rw [hgg] at hg2
    have hb3' := bto HB2.out hb3
    have hO := HH.out.below hb3'
    obtain ⟨r0, r1, r2, r3, -⟩ := Blk.four (t := 51) hO.b
    rw [hw3, hgg]
    have HB3 := Lib.hid hb3'
    have HG2 := Lib.hid hg2
    have HOZ3 := Lib.hid (own_under HOZ.out hb3)
    have HO := Lib.hid hO
    have hg2l : w.heap.size ≤ g2 := by have := HB2.out.size; omega
    clear hb3 hb3' hg2 hO hw3 hw3' hgg hgl2 HS2
    go_wp2_with fail
    clear r0 r1 r2 r3
    go_loopw [31] (fun jv wr => (jv = .int .i64 0 ∧ w3 = wr) ∨ (jv = .int .i64 1 ∧ Hid (CopyR w name k sizes n none g2 wr))) (fun jv _ => 1 - (intOf jv).toNat)
    case atStart => exact .inl ⟨rfl, rfl⟩
    case round =>
      rcases hrel with ⟨rfl, rfl⟩ | ⟨rfl, hdone⟩
      · have d0 : w3.cell? ⟨fb, 0, none⟩ = some (.slice CA n cc) := (HO.out.f.cellAt 0 (by omega)).trans rfl
        have d1 : w3.cell? ⟨fb, 1, none⟩ = some (.pointer none) := (HO.out.f.cellAt 1 (by omega)).trans rfl
        have hb4 := bone w3 (.cells #[.slice CA n cc, .pointer none] 55)
        have hx : Blk (w3.alloc (.cells #[.slice CA n cc, .pointer none] 55)) w3.heap.size 55 #[.slice CA n cc, .pointer none] := Blk.new _ _ _
        obtain ⟨w4, hw4⟩ : ∃ w4, w3.alloc (.cells #[.slice CA n cc, .pointer none] 55) = w4 := ⟨_, rfl⟩
        obtain ⟨xb, hxb⟩ : ∃ xb, w3.heap.size = xb := ⟨_, rfl⟩
        have hset : (w3.alloc (.cells #[.slice CA n cc, .pointer none] 55)).setCell ⟨w3.heap.size, 1, none⟩ (.pointer none) = w3.alloc (.cells #[.slice CA n cc, .pointer none] 55) := (World.setCell_alloc_at _ _ _ _ _ rfl).trans rfl
        rw [hw4] at hb4 hx hset
        rw [hxb] at hset
        rw [hxb] at hx
        obtain ⟨x0, x1⟩ := hx.two
        have hfr : w4.frozen? ⟨xb, 1, none⟩ = false := hx.frozen 1
        have hB04 := bto HB3.out hb4
        have HB04 := Lib.hid hB04
        have HB34 := Lib.hid hb4
        have HX := Lib.hid hx
        have hxl := hx.lt
        clear hb4 hx hB04
        have hB38 := HB34.out
        have hB08 := bto HB3.out hB38
        obtain ⟨r0, r1, r2, r3, -⟩ := Blk.four (t := 51) (HG2.out.under hB38)
        have hcs := own_under HC.out hB08
        have hcl2 := clone_any CA n cc scope w4.drew (by omega) (show Reads w4.drew w4.drew.heap.size 1 CA n (nums scope) from Reads.of_own hcs)
        clear hcs
        have hlen := nums_own_len HC.out
        subst hlen
        have HB38 := Lib.hid hB38
        have HB08 := Lib.hid hB08
        clear hB38 hB08
        go_upto_region 15 with fail
        clear hw4 hxb d0 d1 hfr hset
        go_region_law (first
          | (refine step_append_any _ rfl (.tmp 70) (.tmp 76) 49 rfl w.heap.size 55 iF _ 2 32 Tryd.underlying49 hF0 hF1 hF2 hF3 rfl (by omega) (.slice none 0 0) 0 _ rfl hA9 (w9.alloc (.cells #[.slice A9 scope.length c9, .pointer none] 55)).heap.size (some ⟨w9.heap.size, 0, none⟩) 1 1 [.slice A9 scope.length c9, .pointer none] rfl hr9 HONE.out (by simp only [maxLen]; omega) (by omega) (by have := HB09.out.size; simp; omega) ?_; intro v10 w10 hown10 hg10 hat10; obtain ⟨A10, c10, rfl⟩ := own_shape hown10; have hB10 : Below w.heap.size w w10 := (bto HB09.out (bone w9 (.cells #[.slice A9 scope.length c9, .pointer none] 55))).trans ((Tch.of_grown hg10 (S := fun _ => False) fun q _ hq => by cases hq).below (by have := HB09.out.size; simp; omega) fun _ _ h => h); have hB310 : Below w3.heap.size w3 w10 := (bto HB39.out (bone w9 (.cells #[.slice A9 scope.length c9, .pointer none] 55))).trans ((Tch.of_grown hg10 (S := fun _ => False) fun q _ hq => by cases hq).below (by have := HB39.out.size; simp; omega) fun _ _ h => h); have hg2x := HG2.out.under hB310; have d3 := (Blk.four (t := 51) hg2x).2.2.2.1; have d3f := hg2x.frozen 3; have HO10 := Lib.hid hown10; have HB10 := Lib.hid hB10; have HB310 := Lib.hid hB310; clear hown10 hg10 hat10 hB10 hB310 hg2x)
          | (go_simp; go_at_call 13; refine hcl2.mono ?_; rintro e w9 ⟨A9, c9, rfl, ho9, hb9⟩; have hb9' : Below w4.heap.size w4 w9 := ⟨hb9.os, hb9.tape, hb9.output, hb9.size, hb9.block⟩; have HB09 := Lib.hid (bto HB08.out hb9'); have HB39 := Lib.hid (bto HB38.out hb9'); have hg29 := HG2.out.under (bto HB38.out hb9'); obtain ⟨z0, z1, z2, z3, -⟩ := Blk.four (t := 51) hg29; obtain ⟨Z0, Z1, Z2, Z3, -⟩ := Blk.four (t := 51) (hg29.alloc (.cells #[.slice A9 scope.length c9, .pointer none] 55)); have hx9 := HX.out.under hb9'; obtain ⟨X0, X1⟩ := hx9.two; have hA9 : (w9.alloc (.cells #[.slice A9 scope.length c9, .pointer none] 55)).ownsRow w.heap.size 55 2 (.slice none 0 0) 0 [] := World.ownsRow_nil _ _ _ _; have hr9 : Reads (w9.alloc (.cells #[.slice A9 scope.length c9, .pointer none] 55)) (w9.alloc (.cells #[.slice A9 scope.length c9, .pointer none] 55)).heap.size 2 (some ⟨w9.heap.size, 0, none⟩) 1 [.slice A9 scope.length c9, .pointer none] := reads_two (t := 55) (heap_alloc_new _ _); have HONE : Hid (∀ u ∈ [Value.slice A9 scope.length c9, .pointer none], u.oneCell' = true) := (fun u hu => by (simp only [List.mem_cons, List.not_mem_nil, or_false] at hu; rcases hu with rfl | rfl <;> rfl)); clear hcl2 ho9 hb9 hb9' hg29 hx9))
        all_goals
          go_wp2_with fail
          go_roundw
          case measure => simp [intOf]
          case rel =>
            refine .inr ⟨by first | rfl | trivial, ?_⟩
            have ho10 : w10.ownsRow w.heap.size 55 2 (.slice A10 1 c10) 1 [.slice A9 scope.length c9, .pointer none] := HO10.out
            obtain ⟨q10, rfl, -, -⟩ := own_some ho10 (by omega)
            have hg10 := HG2.out.under HB310.out
            have T1 : Tch w10 (w10.setCell ⟨g2, 3, none⟩ (.slice (some ⟨q10, 0, none⟩) 1 c10)) (fun q => q = g2) := Tch.put (S := fun q => q = g2) (Tch.refl w10 _) (p := ⟨g2, 3, none⟩) _ rfl
            have hoff : ∀ (B : Nat) (ty : TypeId), 51 ≠ ty → Off w10 B (fun q => q = g2) ty := fun B ty hne q hq => .inr fun cs hb => Blk.ne_ hg10 hb hne hq.symm
            exact ⟨HB10.out.trans (T1.below HB10.out.size fun i hi e => by omega), hg2l, ZA, zc, q10, c10, A9, c9, none, hg10.set_ 3 _, own_off (own_under HOZ3.out HB310.out) T1 (hoff _ _ (by decide)), own_off ho10 T1 (hoff _ _ (by decide)), .inl ⟨rfl, rfl⟩⟩
      · go_wp2_with fail
        go_ret
        exact ⟨g2, rfl, hdone.out⟩
end Go.Proofs.YtafdijfbgkcnnaaDoor.wcp
/- A nil file. -/
namespace Go.Proofs.YtafdijfbgkcnnaaDoor.wcp
open Go Go.RowKit Go.ChangeShapes Go.WideShapes Go.ChangeAt Go.Maps Go.Proofs.YtafdijfbgkcnnaaDoor.words Go.Proofs.YtafdijfbgkcnnaaDoor.scn
set_option linter.unusedVariables false
theorem val_nil (w : World) : Calls Tryd.prog 14 #[.pointer none, .slice none 0 0] w fun e w' => e = .returned (.tuple #[.int .i64 0, .int .i64 2]) ∧ w = w' := by
  go_enter Tryd.func14, Tryd.ntmps14
  go_wp2_with fail
  go_ret2
  exact ⟨rfl, rfl⟩
theorem right_nil (w : World) : Calls Tryd.prog 26 #[.pointer none] w fun e w' => e = .returned (.int .i64 2) ∧ w = w' := by
  go_enter Tryd.func26, Tryd.ntmps26
  go_wp2_with fail
  go_ret
  exact ⟨rfl, rfl⟩
theorem copy_nil (w : World) : Calls Tryd.prog 27 #[.pointer none] w fun e w' => e = .returned (.pointer none) ∧ w = w' := by
  go_enter Tryd.func27, Tryd.ntmps27
  go_wp2_with fail
  go_ret
  exact ⟨rfl, rfl⟩
end Go.Proofs.YtafdijfbgkcnnaaDoor.wcp
/- What Right and Copy answer for the file of WcspRight, whatever it is. -/
namespace Go.Proofs.YtafdijfbgkcnnaaDoor.wcp
open Go Go.RowKit Go.ChangeShapes Go.WideShapes Go.ChangeAt Go.Maps Go.Proofs.YtafdijfbgkcnnaaDoor.words Go.Proofs.YtafdijfbgkcnnaaDoor.scn
set_option linter.unusedVariables false
def OkB (nm : List UInt8) (k : Int) (zs : List Int) : Prop := IsWord nm ∧ zs ≠ [] ∧ (1 ≤ k ∧ k ≤ 2147483648) ∧ ∀ z ∈ zs, 1 ≤ z ∧ z ≤ 32
def Fit3 (zs sc : List Int) : Prop := (∀ v ∈ sc, 0 ≤ v ∧ v < zs.length) ∧ sc.Nodup
def ownOf (zs sc : List Int) : List Int := sc.map fun v => zs.getD v.toNat 0
def countO (l : List Int) : Int := l.foldl (fun c s => c * max (min s 33) 0) 1
theorem capped_count : ∀ (l : List Int) (a : Int), 1 ≤ a → (∀ s ∈ l, 1 ≤ s ∧ s ≤ 32) → capped l (min a 4097) = min (l.foldl (fun c s => c * max (min s 33) 0) a) 4097 := by
  intro l
  induction l with
  | nil => intro a _ _; rfl
  | cons s l ih =>
    intro a ha h
    obtain ⟨h1, h2⟩ := h s (by simp)
    have e1 : max (min s 33) 0 = s := by omega
    have e2 : min s 4097 = s := by omega
    have hm : a ≤ a * s := by have := Int.mul_le_mul_of_nonneg_left h1 (show 0 ≤ a by omega); omega
    have hc : min (min a 4097 * min s 4097) 4097 = min (a * s) 4097 := by
      rw [e2]
      by_cases h4 : a ≤ 4097
      · rw [show min a 4097 = a by omega]
      · rw [show min a 4097 = 4097 by omega]; omega
    have := ih (a * s) (by omega) fun x hx => h x (by simp [hx])
    unfold capped at this ⊢
    rw [List.foldl_cons, List.foldl_cons, hc, e1]
    exact this
theorem count_great {l : List Int} (h : ∀ s ∈ l, 1 ≤ s ∧ s ≤ 32) : great l = decide (4096 < countO l) := by
  have := capped_count l 1 (by omega) h
  rw [great_is, show capped l 1 = min (countO l) 4097 from this]
  by_cases hc : 4096 < countO l
  · rw [decide_eq_true hc]; exact decide_eq_true (by omega)
  · rw [decide_eq_false hc]; exact decide_eq_false (by omega)
/-- the tuples of the law's function, or none -/
def TT (W : World) (k : Int) (zs sc : List Int) (tp : Option Addr) (T : Option TpH) : Prop :=
  (tp = none ∧ T = none) ∨ ∃ tg T', tp = some ⟨tg, 0, none⟩ ∧ T = some T' ∧ TpV W tg (fun _ => True) 0 T' ∧ (∀ t, T'.f t = none) ∧ T'.sizes.length ≤ 5 ∧ (∀ z ∈ T'.sizes, 1 ≤ z ∧ z ≤ 32) ∧ inB T'.other T'.k = true ∧ T'.k = k ∧
    ((Fit3 zs sc ∧ T'.sizes = ownOf zs sc) ∨ (¬ Fit3 zs sc ∧ T'.sizes.length ≠ sc.length))
theorem TT.below {W W' : World} {k : Int} {zs sc : List Int} {tp : Option Addr} {T : Option TpH} (h : TT W k zs sc tp T) (hb : Below W.heap.size W W') : TT W' k zs sc tp T := by
  rcases h with h | ⟨tg, T', h1, h2, h3, h4⟩
  · exact .inl h
  · exact .inr ⟨tg, T', h1, h2, h3.keep (Tch.of_below hb (fun _ => False)) fun _ _ h => h, h4⟩
theorem anyBad_no {xs : List Int} : anyBad xs = false ↔ ∀ z ∈ xs, 1 ≤ z ∧ z ≤ 32 := by
  unfold anyBad badS
  rw [List.any_eq_false]
  constructor
  · intro h z hz; have := h z hz; simp at this; omega
  · intro h z hz; have := h z hz; simp; omega
theorem copy_law {w : World} {g : Nat} {name : List UInt8} {k : Int} {SA : Option Addr} {sc : Nat} {sizes scope : List Int} {fb fc : Nat} {CA : Option Addr} {cc : Nat} {tp : Option Addr} {T : Option TpH}
    (h : OneF w g name k SA sc sizes fb fc CA scope.length cc tp) (hc : w.ownsRow 0 3 1 (.slice CA scope.length cc) scope.length (nums scope)) (hT : TT w k sizes scope tp T) (hn : scope.length ≤ 1000000) (hsl : sizes.length ≤ 1000000) :
    Calls Tryd.prog 27 #[.pointer (some ⟨g, 0, none⟩)] w fun e w' => ∃ g2, e = .returned (.pointer (some ⟨g2, 0, none⟩)) ∧ CopyR w name k sizes scope.length T g2 w' := by
  rcases hT with ⟨rfl, rfl⟩ | ⟨tg, T', rfl, rfl, h3, h4, h5, h6, h7, -⟩
  · exact copy_none h hc hn hsl
  · exact copy_some h hc h3 h4 (by omega) h6 h7 hn hsl
theorem right_law {w : World} {g : Nat} {name : List UInt8} {k : Int} {SA : Option Addr} {sc : Nat} {sizes scope : List Int} {fb fc : Nat} {CA : Option Addr} {cc : Nat} {tp : Option Addr} {T : Option TpH}
    (h : OneF w g name k SA sc sizes fb fc CA scope.length cc tp) (hc : w.ownsRow 0 3 1 (.slice CA scope.length cc) scope.length (nums scope)) (hT : TT w k sizes scope tp T) (hn : scope.length ≤ 6) (hsl : sizes.length ≤ 1000000) (hnl : name.length ≤ 1000000)
    (R : Int) (hR1 : OkB name k sizes ∧ Fit3 sizes scope ∧ T ≠ none → R = if (64 < name.length ∨ 64 < sizes.length ∨ 4096 < countO (ownOf sizes scope)) then 5 else 0) (hR2 : ¬ (OkB name k sizes ∧ Fit3 sizes scope ∧ T ≠ none) → R = 1) :
    Calls Tryd.prog 26 #[.pointer (some ⟨g, 0, none⟩)] w fun e w' => e = .returned (.int .i64 R) ∧ Below w.heap.size w w' := by
  have hword : ∃ NB, (NB = true ↔ IsWord name) ∧ ∀ W, Calls Tryd.prog 57 #[strV name] W fun e w' => e = .returned (.bool NB) ∧ Below W.heap.size W w' := by
    by_cases hw : IsWord name
    · exact ⟨true, by simp [hw], fun W => isword_any name hw hnl W⟩
    · exact ⟨false, by simp [hw], fun W => isword_no name hw hnl W⟩
  obtain ⟨NB, hNB, hname⟩ := hword
  have hrb : rightB k = true ↔ 1 ≤ k ∧ k ≤ 2147483648 := by unfold rightB; simp
  have hunf : ∃ U, (U = false ↔ Fit3 sizes scope ∧ T ≠ none) ∧ ∀ W, Below w.heap.size w W → Calls Tryd.prog 60 #[.pointer (some ⟨g, 0, none⟩), .agg #[.slice CA scope.length cc, .pointer tp]] W fun e w' => e = .returned (.bool U) ∧ Below W.heap.size W w' := by
    have hT0 := hT
    rcases hT with ⟨rfl, rfl⟩ | ⟨tg, T', rfl, rfl, h3, h4, h5, h6, h7, h8, h9⟩
    · exact ⟨true, by simp, fun W hW => unfit_no fun W' hW' => fits_nil⟩
    · have hk : ∀ W, Below w.heap.size w W → TpV W tg (fun _ => True) 0 T' := fun W hW => h3.keep (Tch.of_below hW (fun _ => False)) fun _ _ h => h
      rcases h9 with ⟨hf, hs⟩ | ⟨hf, hs⟩
      · refine ⟨false, by simp [hf], fun W hW => ?_⟩
        have ho := h.below hW
        have hin : 0 ≤ T'.other ∧ T'.other ≤ k ∧ 1 ≤ k ∧ k ≤ 2147483648 := by
          unfold inB at h7; rw [h8] at h7; have := of_decide_eq_true h7; omega
        have hTe : T' = tpOf ⟨scope, T'.sizes, T'.other, []⟩ k [] := by
          obtain ⟨a, b, c, d⟩ := T'
          have hd : d = fun _ => none := funext h4
          have hm : min c k = c := by have := hin.2.1; dsimp only at this; omega
          show _ = tp0 _ _
          unfold tp0
          dsimp only at h8 ⊢
          rw [hd, hm, h8]
        refine unfit_any (F := fun _ => True) (f := ⟨scope, T'.sizes, T'.other, []⟩) ho.b ho.s hsl ⟨.slice CA scope.length cc, tg, rfl, ⟨⟨CA, cc, rfl⟩, own_under hc hW⟩, fun _ _ => trivial, ?_⟩ ⟨by show T'.sizes.length ≤ 6; omega, h6, hin.2.2.1, hin.2.2.2, hin.1, by simp, by simp, hn⟩ ⟨hf.1, hf.2, hs⟩
        exact hTe ▸ hk W hW
      · exact ⟨true, by simp [hf], fun W hW => unfit_no fun W' hW' => fits_arity (h.below (hW.trans (hW'.mono hW.size))).b (hk W' (hW.trans (hW'.mono hW.size))) (by omega) h8 hs⟩
  obtain ⟨U, hU, hun⟩ := hunf
  by_cases hall : OkB name k sizes ∧ Fit3 sizes scope ∧ T ≠ none
  · obtain ⟨⟨hw, hz, hkk, hzz⟩, hf, hTn⟩ := hall
    obtain rfl : U = false := hU.2 ⟨hf, hTn⟩
    obtain rfl : NB = true := hNB.2 hw
    rcases hT with ⟨rfl, rfl⟩ | ⟨tg, T', rfl, rfl, h3, h4, h5, h6, h7, h8, h9⟩
    · exact absurd rfl hTn
    · have hs : T'.sizes = ownOf sizes scope := by
        rcases h9 with h | h
        · exact h.2
        · exact absurd hf h.1
      refine right_size h h3 (by omega) h6 hsl hnl hname hun hz (anyBad_no.2 hzz) (hrb.2 hkk) R ?_
      rw [hR1 ⟨⟨hw, hz, hkk, hzz⟩, hf, hTn⟩, hs, count_great (by rw [← hs]; exact h6)]
      simp only [decide_eq_true_eq]
  · obtain rfl := hR2 hall
    refine right_arg h NB U hsl hname hun ?_
    cases NB with
    | false => exact .inl rfl
    | true =>
      by_cases hz : sizes = []
      · exact .inr (.inl hz)
      · by_cases ha : anyBad sizes = true
        · exact .inr (.inr (.inl ha))
        · by_cases hr : rightB k = true
          · cases U with
            | true => exact .inr (.inr (.inr (.inr rfl)))
            | false =>
              exact absurd ⟨⟨hNB.1 rfl, hz, hrb.1 hr, anyBad_no.1 (by simpa using ha)⟩, hU.1 rfl⟩ hall
          · exact .inr (.inr (.inr (.inl (by simpa using hr))))
end Go.Proofs.YtafdijfbgkcnnaaDoor.wcp
