/- An argument that is a slice of slices of bytes, opened to its cells. -/
import Derived.Test.YtgojncgdmcpkiaaOpen
import Derived.Test.YtgojncgdmcpkiaaChecked
namespace Go.Proofs.Ytgojncgdmcpkiaa.words
open Go Go.RowKit Go.ChangeShapes Go.WideShapes Go.Deep
set_option linter.unusedVariables false
abbrev RowT := Option Addr × Nat × Nat × List Int
def rowV (x : RowT) : List Value := [.slice x.1 x.2.1 x.2.2.1]
def rowQ (W : World) (x : RowT) : Prop := x.2.2.2.length = x.2.1 ∧ Reads W W.heap.size 1 x.1 x.2.1 (x.2.2.2.map (Value.int .u8)) ∧ (∀ y ∈ x.2.2.2, (Lit.int .u8 y).wf = true) ∧ x.2.1 ≤ x.2.2.1 ∧ x.2.1 ≤ 9223372036854775807
theorem dec_row {H : Type} {enc : TypeId × Value → H} {W : World} {spare : Nat → Bool} {held : Bool} (n : Nat) (cs : List Value) (y : DataW H × List MemPlace) (h : DataW.trod enc Try.prog W 0 spare held n 24 cs = some y) : ∃ x : RowT, cs = rowV x ∧ rowQ W x := by
  have hs : ∃ a len cap, cs = [.slice a len cap] := by
    rcases open_slice Try.underlying24 h with ⟨h1, _⟩ | ⟨ad, l, c, m, k, D, Pl, h1, _⟩
    · exact ⟨_, _, _, h1⟩
    · exact ⟨_, _, _, h1⟩
  obtain ⟨a, len, cap, rfl⟩ := hs
  obtain ⟨zs, h1, h2, h3, h4, h5⟩ := open_ones (Value.int .u8) (fun x => (Lit.int .u8 x).wf = true) Try.underlying24 (by kernel_rfl) (dec_int Try.underlying5) ⟨n, by simpa [Value.cells] using h⟩
  exact ⟨(a, len, cap, zs), rfl, h1, h2, h3, h4, h5⟩
theorem row_at {w : World} {n : Nat} {A : Option Addr} {zs : List RowT} (h : Reads w w.heap.size 1 A n (zs.flatMap rowV)) (hQ : ∀ x ∈ zs, rowQ w x) {w' : World} (hb : Below w.heap.size w w') {i : Nat} (hl : zs.length = n) (hi : i < n) :
    ∃ (ad : Addr) (a : Option Addr) (len cap : Nat) (xs : List Int), A = some ad ∧ w'.cell? (ad.add i) = some (.slice a len cap) ∧ (∀ w2, Below w.heap.size w w2 → Reads w2 w.heap.size 1 a len (xs.map (Value.int .u8))) ∧ (∀ y ∈ xs, (Lit.int .u8 y).wf = true) ∧ xs.length = len ∧ len ≤ cap ∧ len ≤ 9223372036854775807 := by
  obtain ⟨ad, rfl, hlt, hat⟩ := h.2 (by omega)
  have hz : zs[i]? = some (zs[i]'(by omega)) := List.getElem?_eq_getElem _
  obtain ⟨⟨a, len, cap, xs⟩, hd⟩ : ∃ a, zs[i]'(by omega) = a := ⟨_, rfl⟩
  rw [hd] at hz
  have get := flat_get rowV 1 (fun _ => rfl) zs i 0 _ hz (by omega)
  rw [Nat.mul_one, Nat.add_zero] at get
  have up : w'.cell? (ad.add i) = w.cell? (ad.add i) := hb.cell (by rw [block_of_add]; exact hlt)
  obtain ⟨q1, q2, q3, q4, q5⟩ := hQ _ (List.mem_of_getElem? hz)
  exact ⟨ad, a, len, cap, xs, rfl, by rw [up]; exact hat i _ get, fun w2 h2 => q2.below h2, q3, q1, q4, q5⟩
/-- one byte of a row -/
theorem u8_at {w : World} {B n : Nat} {A : Option Addr} {xs : List Int} (h : Reads w B 1 A n (xs.map (Value.int .u8))) (hw : ∀ y ∈ xs, (Lit.int .u8 y).wf = true) {i : Nat} (hi : i < n) :
    ∃ (ad : Addr) (y : Nat), A = some ad ∧ xs[i]? = some (y : Int) ∧ w.cell? (ad.add i) = some (.int .u8 (y : Nat)) ∧ (y : Nat) < 256 := by
  obtain ⟨ad, u, rfl, _, hu, hc⟩ := h.at_ hi
  rw [List.getElem?_map] at hu
  cases hq : xs[i]? with
  | none => rw [hq] at hu; simp at hu
  | some a =>
    rw [hq] at hu; simp at hu
    obtain ⟨y, rfl, hy⟩ := wf_u8 (hw a (List.mem_of_getElem? hq))
    exact ⟨ad, y, rfl, rfl, by rw [hc, ← hu], hy⟩
end Go.Proofs.Ytgojncgdmcpkiaa.words
