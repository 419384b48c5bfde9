/- A string as bytes of its own. -/
import Derived.Test.YtafdijfbgkcnnaaDoorScCount
import Derived.Lib.ConvBytes
namespace Go.Proofs.YtafdijfbgkcnnaaDoor.scn
open Go Go.RowKit Go.ChangeShapes Go.WideShapes Go.ChangeAt Go.Proofs.YtafdijfbgkcnnaaDoor.words
set_option linter.unusedVariables false
abbrev bw (w : World) (l : List UInt8) : World := Lib.bytesWorld w 5 ⟨l.toArray⟩
theorem conv_str (l : List UInt8) (w : World) : (convert 9 22 (.string ⟨l.toArray⟩)).run Tryd.prog w = .ok (.slice (some ⟨w.heap.size, 0, none⟩) l.length (grownCap w l.length 0 5)) (bw w l) := by
  have h := Lib.run_convert_string_bytes (P := Tryd.prog) w 9 22 5 ⟨l.toArray⟩ (u := .string) Tryd.underlying9 Tryd.underlying22 Tryd.underlying5
  have e : (⟨l.toArray⟩ : ByteArray).size = l.length := by simp [ByteArray.size]
  rw [e] at h
  exact h
theorem bw_size (w : World) (l : List UInt8) : (bw w l).heap.size = w.heap.size + 1 := by
  simp [bw, Lib.bytesWorld, World.freeze, World.alloc, World.drew, -World.alloc_eq, -World.drew_eq]
theorem bw_below (w : World) (l : List UInt8) : Below w.heap.size w (bw w l) :=
  ⟨rfl, rfl, rfl, by rw [bw_size]; omega, fun i hi => Lib.bytesWorld_at_old w 5 _ i hi⟩
theorem bw_reads (w : World) (l : List UInt8) : Reads (bw w l) (bw w l).heap.size 1 (some ⟨w.heap.size, 0, none⟩) l.length (bv l) := by
  refine ⟨by simp [bv], fun _ => ⟨_, rfl, by rw [bw_size]; simp, fun j u hu => ?_⟩⟩
  have e : (Addr.add ⟨w.heap.size, 0, none⟩ j) = ⟨w.heap.size, j, none⟩ := by unfold Addr.add; split <;> simp_all
  have hj : j < l.length := by
    have := (List.getElem?_eq_some_iff.1 hu).1
    simpa [bv] using this
  rw [e, Lib.bytesWorld_cell w 5 ⟨l.toArray⟩ j (by simp [ByteArray.size]; exact hj)]
  unfold bv at hu
  rw [List.getElem?_map, List.getElem?_eq_getElem hj] at hu
  rw [← Option.some.inj hu]
  simp [List.getD_eq_getElem?_getD, hj]
end Go.Proofs.YtafdijfbgkcnnaaDoor.scn
