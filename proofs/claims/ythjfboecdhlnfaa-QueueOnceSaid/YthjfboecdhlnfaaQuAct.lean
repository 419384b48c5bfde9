/- The script's calls: a slice of structs of three fields, opened to its cells; a queue's contracts by any order of what waits. -/
import Derived.Test.YthjfboecdhlnfaaQuTop
import Derived.Test.YthjfboecdhlnfaaQuTwo
import Derived.Test.YthjfboecdhlnfaaOpen
import Derived.Deep.Strs
namespace Go.Proofs.Ythjfboecdhlnfaa.que
open Go Go.RowKit Go.ChangeShapes Go.WideShapes Go.ChangeAt Go.Proofs.Ythjfboecdhlnfaa.words Go.Deep
set_option linter.unusedVariables false
abbrev ActT := Int × Int × Int
def actV (a : ActT) : List Value := [.int .u8 a.1, .int .i64 a.2.1, .int .i64 a.2.2]
def actQ (a : ActT) : Prop := (Lit.int .u8 a.1).wf = true ∧ (Lit.int .i64 a.2.1).wf = true ∧ (Lit.int .i64 a.2.2).wf = true
theorem dec_act {H : Type} {enc : TypeId × Value → H} {W : World} {spare : Nat → Bool} {held : Bool} (n : Nat) (cs : List Value) (y : DataW H × List MemPlace) (h : DataW.trod enc Try.prog W 0 spare held n 45 cs = some y) : ∃ x : ActT, cs = actV x ∧ actQ x := by
  obtain ⟨y0, y1, y2, m, _, hl, h0, h1, h2⟩ := trod_struct3 Try.underlying45 h
  have hc : Try.prog.cellsOf 45 = 3 := by kernel_rfl
  have c5 : Try.prog.cellsOf 5 = 1 := by kernel_rfl
  have c3 : Try.prog.cellsOf 3 = 1 := by kernel_rfl
  have c2 : Try.prog.cellsOf 2 = 1 := by kernel_rfl
  rw [hc] at hl
  obtain ⟨x0, e0, q0⟩ := dec_int Try.underlying5 _ _ _ h0
  obtain ⟨x1, e1, q1⟩ := dec_int Try.underlying3 _ _ _ h1
  obtain ⟨x2, e2, q2⟩ := dec_int Try.underlying2 _ _ _ h2
  match cs, hl with
  | [a, b, c], _ =>
    dsimp only at e0 e1 e2
    rw [c5] at e0
    rw [c3] at e1
    rw [c2] at e2
    simp at e0 e1 e2
    subst e0; subst e1; subst e2
    exact ⟨(x0, x1, x2), rfl, q0, q1, q2⟩
theorem QL.perm {w : World} {g : Nat} {F : Nat → Prop} {N : Nat} {L L' : List It} (h : QL w g F N L) (hp : L.Perm L') : QL w g F N L' := by
  obtain ⟨H, a, b, c, d⟩ := h; exact ⟨H, a, b.trans hp, c, d⟩
/-- what the document's list says is the most urgent -/
theorem Best.most {L : List It} {b : Int} (h : Best L L.length b) : (L = [] ∧ b = -1) ∨ ∃ t : Nat, ∃ m, t < L.length ∧ b = t ∧ L[t]? = some m ∧ Most L m := by
  rcases h with ⟨h0, rfl⟩ | ⟨t, m, ht, rfl, hm, hall⟩
  · exact .inl ⟨List.eq_nil_of_length_eq_zero h0, rfl⟩
  · refine .inr ⟨t, m, ht, rfl, hm, List.mem_of_getElem? hm, fun a ha => hall a ?_⟩
    rw [List.take_length]; exact ha
end Go.Proofs.Ythjfboecdhlnfaa.que
