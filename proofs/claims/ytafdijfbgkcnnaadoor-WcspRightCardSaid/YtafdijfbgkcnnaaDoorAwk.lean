/- The document's example. -/
import Derived.Test.YtafdijfbgkcnnaaDoorVal
import Derived.Test.YtafdijfbgkcnnaaDoorScJoin
import Derived.Lib.SlBytesConst
namespace Go.Proofs.YtafdijfbgkcnnaaDoor.wcp
open Go Go.RowKit Go.ChangeShapes Go.WideShapes Go.ChangeAt Go.Maps Go.Proofs.YtafdijfbgkcnnaaDoor.words Go.Proofs.YtafdijfbgkcnnaaDoor.scn
set_option linter.unusedVariables false
theorem FileV.filw {w : World} {B g : Nat} {f : Fil} (h : FileV w B g f) : B ≤ g ∧ ∃ SA sc FA fc V, FilW w g f SA sc FA fc V := by
  obtain ⟨hg, SA, sc, FA, fc, V, h1, h2, h3, h4, h5, h6⟩ := h
  exact ⟨hg, SA, sc, FA, fc, V, h1, h2, own_base h3 (Nat.zero_le _), own_base h4 (Nat.zero_le _), fun p hp => (h5 p hp).1⟩
def exT : List UInt8 := [116, 32, 50, 32, 50, 32, 49, 32, 57, 32, 50, 32, 50, 10, 50, 32, 48, 32, 49, 32, 48, 32, 49, 10, 49, 32, 49, 32, 53, 10]
def exL : List Wd := [([116], 0), ([50], 2), ([50], 4), ([49], 6), ([57], 8), ([50], 10), ([50], 12), ([50], 14), ([48], 16), ([49], 18), ([48], 20), ([49], 22), ([49], 24), ([49], 26), ([53], 28)]
theorem exT_told : scn.Told exT exL (-1) := by
  have b1 := bld_nil.word (v := [116]) (by decide) (by decide) (b := 32) (by decide)
  have b2 := b1.word (v := [50]) (by decide) (by decide) (b := 32) (by decide)
  have b3 := b2.word (v := [50]) (by decide) (by decide) (b := 32) (by decide)
  have b4 := b3.word (v := [49]) (by decide) (by decide) (b := 32) (by decide)
  have b5 := b4.word (v := [57]) (by decide) (by decide) (b := 32) (by decide)
  have b6 := b5.word (v := [50]) (by decide) (by decide) (b := 32) (by decide)
  have b7 := b6.word (v := [50]) (by decide) (by decide) (b := 10) (by decide)
  have b8 := b7.word (v := [50]) (by decide) (by decide) (b := 32) (by decide)
  have b9 := b8.word (v := [48]) (by decide) (by decide) (b := 32) (by decide)
  have b10 := b9.word (v := [49]) (by decide) (by decide) (b := 32) (by decide)
  have b11 := b10.word (v := [48]) (by decide) (by decide) (b := 32) (by decide)
  have b12 := b11.word (v := [49]) (by decide) (by decide) (b := 10) (by decide)
  have b13 := b12.word (v := [49]) (by decide) (by decide) (b := 32) (by decide)
  have b14 := b13.word (v := [49]) (by decide) (by decide) (b := 32) (by decide)
  have b15 := b14.word (v := [53]) (by decide) (by decide) (b := 10) (by decide)
  exact b15.told
def exR : Raw := ⟨[0, 1], [2, 2], 0, [([1, 1], 5)]⟩
def exF : Fil := ⟨[116], 9, [2, 2], [exR]⟩
theorem exT_read : pread (enOf exT (-1)) (eeOf (-1)) exL = .file exF := by kernel_rfl
theorem exF_ins (a b : Int) (ha : 0 ≤ a ∧ a < 2) (hb : 0 ≤ b ∧ b < 2) : InS [2, 2] [a, b] := by
  refine ⟨rfl, fun i v k hv hk => ?_⟩
  match i, hv, hk with
  | 0, hv, hk => simp at hv hk; omega
  | 1, hv, hk => simp at hv hk; omega
  | i + 2, hv, hk => simp at hv
theorem exF_ok : OkFile exF where
  name := ⟨by decide, fun q hq => by
    have : q = 0 := by simp [exF] at hq; exact hq
    subst this; decide⟩
  nlen := by decide
  k1 := by decide
  k2 := by decide
  s0 := by decide
  s1 := fun v hv => by simp [exF] at hv; omega
  s2 := by decide
  n := by decide
  fs := fun x hx => by
    have : x = exR := by simpa [exF] using hx
    subst this
    refine ⟨⟨by decide, fun k hk => by simp [exR] at hk; omega, by decide, by decide, by decide, fun l hl => ?_, by decide, by decide⟩, ⟨fun v hv => ?_, by decide, by decide⟩, by decide⟩
    · have : l = ([1, 1], 5) := by simpa [exR] using hl
      subst this
      exact ⟨exF_ins 1 1 (by omega) (by omega), by decide⟩
    · simp [exR] at hv
      have : (exF.sizes.length : Int) = 2 := rfl
      omega
theorem exV1 : valTo exF [1, 1] exF.funs = 5 := by kernel_rfl
theorem exV2 : valTo exF [0, 1] exF.funs = 0 := by kernel_rfl
set_option maxRecDepth 100000 in
set_option maxHeartbeats 4000000 in
theorem wawake_any (w : World) (ht : Tab w) : Calls Tryd.prog 9 #[] w fun e w' => e = .returned (.bool true) ∧ Below w.heap.size w w' := by
  have kc := fun (w : World) (C : Array Value) (n c : Nat) => Lib.run_convert_bytes_const (P := Tryd.prog) w 22 5 C n c Tryd.underlying22 Tryd.underlying5
  have hl : Reads (w.alloc (.cells (bv exT).toArray 5 (30, 31))) (w.alloc (.cells (bv exT).toArray 5 (30, 31))).heap.size 1 (some ⟨w.heap.size, 0, none⟩) 30 (bv exT) := by
    refine ⟨rfl, fun _ => ⟨_, rfl, by simp, fun j u hu => ?_⟩⟩
    have e : (Addr.add ⟨w.heap.size, 0, none⟩ j) = ⟨w.heap.size, j, none⟩ := by unfold Addr.add; split <;> simp_all
    rw [e, World.cell?_alloc_mark]
    simpa using hu
  have hbl := bone w (.cells (bv exT).toArray 5 (30, 31))
  have hrd := read_any (some ⟨w.heap.size, 0, none⟩) 30 30 exT (-1) exL _ rfl hl (by omega) exT_told (ht.below hbl)
  have HBL := Lib.hid hbl
  clear hl hbl ht
  go_enter Tryd.func9, Tryd.ntmps9
  go_wp2_with fail
  refine hrd.mono ?_
  rintro e w1 ⟨hb1, hm⟩
  rw [exT_read] at hm
  obtain ⟨g, rfl, hf⟩ := hm
  obtain ⟨hg, SA, sc, FA, fc, V, hfw⟩ := hf.filw
  have HB1 := Lib.hid (bto HBL.out hb1)
  have HFW := Lib.hid hfw
  clear hrd hb1 hf hfw kc
  go_wp2_with fail
  have hb2 := bone w1 (.cells #[.int .i64 1, .int .i64 1] 3)
  have hr2 : Reads (w1.alloc (.cells #[.int .i64 1, .int .i64 1] 3)) (w1.alloc (.cells #[.int .i64 1, .int .i64 1] 3)).heap.size 1 (some ⟨w1.heap.size, 0, none⟩) 2 (nums [1, 1]) := reads_block (t := 3) (heap_alloc_new _ _) rfl
  have hv1 := val_any (HFW.out.below hb2) exF_ok (by decide) (some ⟨w1.heap.size, 0, none⟩) 2 2 [1, 1] hr2 (exF_ins 1 1 (by omega) (by omega))
  rw [exV1] at hv1
  have HB2 := Lib.hid hb2
  clear hb2 hr2
  refine hv1.mono ?_
  rintro e w2 ⟨rfl, hb3⟩
  have HB3 := Lib.hid (bto HB2.out hb3)
  have HFW2 := Lib.hid (HFW.out.below (bto HB2.out hb3))
  clear hv1 hb3
  go_wp2_with fail
  have hb4 := bone w2 (.cells #[.int .i64 0, .int .i64 1] 3)
  have hr4 : Reads (w2.alloc (.cells #[.int .i64 0, .int .i64 1] 3)) (w2.alloc (.cells #[.int .i64 0, .int .i64 1] 3)).heap.size 1 (some ⟨w2.heap.size, 0, none⟩) 2 (nums [0, 1]) := reads_block (t := 3) (heap_alloc_new _ _) rfl
  have hv2 := val_any (HFW2.out.below hb4) exF_ok (by decide) (some ⟨w2.heap.size, 0, none⟩) 2 2 [0, 1] hr4 (exF_ins 0 1 (by omega) (by omega))
  rw [exV2] at hv2
  have HB4 := Lib.hid hb4
  clear hb4 hr4
  refine hv2.mono ?_
  rintro e w3 ⟨rfl, hb5⟩
  have HB5 := Lib.hid (bto HB4.out hb5)
  clear hv2 hb5
  go_wp2_with fail
  go_ret
  exact ⟨rfl, bto HB1.out (bto HB3.out HB5.out)⟩
end Go.Proofs.YtafdijfbgkcnnaaDoor.wcp
