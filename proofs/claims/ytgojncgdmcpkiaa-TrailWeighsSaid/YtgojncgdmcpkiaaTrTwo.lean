/- Two trails beside one another. -/
import Derived.Test.YtgojncgdmcpkiaaTrTf
namespace Go.Proofs.Ytgojncgdmcpkiaa.trl
open Go Go.RowKit Go.ChangeShapes Go.WideShapes Go.ChangeAt Go.Proofs.Ytgojncgdmcpkiaa.words
set_option linter.unusedVariables false
/-- two trails, new since w0, neither in the other's blocks -/
def Two (w0 : World) (g1 g2 : Nat) (C1 C2 : List Int) (s1 s2 : List (List Int)) (e1 e2 : Nat) (w : World) : Prop :=
  ∃ F1 F2, TF g1 F1 C1 s1 e1 w ∧ TF g2 F2 C2 s2 e2 w ∧ (∀ k, F1 k → w0.heap.size ≤ k ∧ k < w.heap.size ∧ ¬ F2 k) ∧ (∀ k, F2 k → w0.heap.size ≤ k ∧ k < w.heap.size) ∧ Below w0.heap.size w0 w
variable {w0 w : World} {g1 g2 : Nat} {C1 C2 : List Int} {s1 s2 : List (List Int)} {e1 e2 : Nat}
theorem Two.bel (h : Two w0 g1 g2 C1 C2 s1 s2 e1 e2 w) : Below w0.heap.size w0 w := by obtain ⟨_, _, _, _, _, _, h⟩ := h; exact h
theorem Two.below {w' : World} (h : Two w0 g1 g2 C1 C2 s1 s2 e1 e2 w) (hb : Below w.heap.size w w') : Two w0 g1 g2 C1 C2 s1 s2 e1 e2 w' := by
  obtain ⟨F1, F2, h1, h2, h3, h4, h5⟩ := h
  exact ⟨F1, F2, h1.below hb, h2.below hb, fun k hk => ⟨(h3 k hk).1, Nat.lt_of_lt_of_le (h3 k hk).2.1 hb.size, (h3 k hk).2.2⟩, fun k hk => ⟨(h4 k hk).1, Nat.lt_of_lt_of_le (h4 k hk).2 hb.size⟩, bto h5 hb⟩
theorem Two.one {C1' : List Int} {s1' : List (List Int)} {e1' f : Nat} {args : Array Value} {R : Ending → Prop} (h : Two w0 g1 g2 C1 C2 s1 s2 e1 e2 w)
    (hc : ∀ F, TF g1 F C1 s1 e1 w → Calls Try.prog f args w fun e w' => R e ∧ TO w g1 F C1' s1' e1' w') : Calls Try.prog f args w fun e w' => R e ∧ Two w0 g1 g2 C1' C2 s1' s2 e1' e2 w' := by
  obtain ⟨F1, F2, h1, h2, h3, h4, h5⟩ := h
  refine (hc F1 h1).mono ?_
  rintro e w' ⟨hR, G, k1, k2, k3⟩
  refine ⟨hR, G, F2, k1, h2.keep k2 fun k hk hx => (h3 k hx).2.2 hk, fun k hk => ⟨?_, (k3 k hk).2, fun hx => ?_⟩, fun k hk => ⟨(h4 k hk).1, Nat.lt_of_lt_of_le (h4 k hk).2 k2.size⟩, h5.trans (k2.below h5.size fun i hi hx => by have := (h3 i hx).1; omega)⟩
  · rcases (k3 k hk).1 with h | h
    · exact (h3 k h).1
    · exact Nat.le_trans h5.size h
  · rcases (k3 k hk).1 with h | h
    · exact (h3 k h).2.2 hx
    · have := (h4 k hx).2; omega
theorem Two.two {C2' : List Int} {s2' : List (List Int)} {e2' f : Nat} {args : Array Value} {R : Ending → Prop} (h : Two w0 g1 g2 C1 C2 s1 s2 e1 e2 w)
    (hc : ∀ F, TF g2 F C2 s2 e2 w → Calls Try.prog f args w fun e w' => R e ∧ TO w g2 F C2' s2' e2' w') : Calls Try.prog f args w fun e w' => R e ∧ Two w0 g1 g2 C1 C2' s1 s2' e1 e2' w' := by
  obtain ⟨F1, F2, h1, h2, h3, h4, h5⟩ := h
  refine (hc F2 h2).mono ?_
  rintro e w' ⟨hR, G, k1, k2, k3⟩
  refine ⟨hR, F1, G, h1.keep k2 fun k hk hx => (h3 k hk).2.2 hx, k1, fun k hk => ⟨(h3 k hk).1, Nat.lt_of_lt_of_le (h3 k hk).2.1 k2.size, fun hx => ?_⟩, fun k hk => ⟨?_, (k3 k hk).2⟩, h5.trans (k2.below h5.size fun i hi hx => by have := (h4 i hx).1; omega)⟩
  · rcases (k3 k hx).1 with h | h
    · exact (h3 k hk).2.2 h
    · have := (h3 k hk).2.1; omega
  · rcases (k3 k hk).1 with h | h
    · exact (h4 k h).1
    · exact Nat.le_trans h5.size h
theorem Two.fst {α : Prop} (h : Two w0 g1 g2 C1 C2 s1 s2 e1 e2 w) (k : ∀ F, TF g1 F C1 s1 e1 w → α) : α := by obtain ⟨_, _, h1, _⟩ := h; exact k _ h1
theorem Two.snd {α : Prop} (h : Two w0 g1 g2 C1 C2 s1 s2 e1 e2 w) (k : ∀ F, TF g2 F C2 s2 e2 w → α) : α := by obtain ⟨_, _, _, h1, _⟩ := h; exact k _ h1
theorem two_new {w3 : World} {F1 F2 : Nat → Prop} (h1 : TF g1 F1 C1 s1 e1 w3) (hF1 : ∀ k, F1 k → w0.heap.size ≤ k ∧ k < w3.heap.size) (hb1 : Below w0.heap.size w0 w3) (h2 : TF g2 F2 C2 s2 e2 w) (hF2 : ∀ k, F2 k → w3.heap.size ≤ k ∧ k < w.heap.size) (hb2 : Below w3.heap.size w3 w) : Two w0 g1 g2 C1 C2 s1 s2 e1 e2 w :=
  ⟨F1, F2, h1.below hb2, h2, fun k hk => ⟨(hF1 k hk).1, Nat.lt_of_lt_of_le (hF1 k hk).2 hb2.size, fun hx => by have := (hF1 k hk).2; have := (hF2 k hx).1; omega⟩, fun k hk => ⟨Nat.le_trans hb1.size (hF2 k hk).1, (hF2 k hk).2⟩, bto hb1 hb2⟩
/-- one list parted at what was seen at mark k, the others behind it -/
theorem seen_at {X : List (List Int)} {k : Nat} (h1 : 1 ≤ k) (h2 : k ≤ X.length) : ∃ stop s Y, X = stop ++ s :: Y ∧ Y.length + 1 = k := by
  have hlt : X.length - k < X.length := by omega
  refine ⟨X.take (X.length - k), X[X.length - k]'hlt, X.drop (X.length - k + 1), ?_, by rw [List.length_drop]; omega⟩
  rw [← List.drop_eq_getElem_cons hlt, List.take_append_drop]
end Go.Proofs.Ytgojncgdmcpkiaa.trl
