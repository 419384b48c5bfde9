/- The law's acts on weights: the acts opened; weights beside a row of floats that is the same. -/
import Derived.Test.YtnnlkjbnonkjmaaWtOps
import Derived.Test.YtnnlkjbnonkjmaaOpen
import Derived.Deep.Strs
import Derived.Laws.MakeOwn
namespace Go.Proofs.Ytnnlkjbnonkjmaa.flo
open Go Go.RowKit Go.ChangeShapes Go.WideShapes Go.ChangeAt Go.Proofs.Ytnnlkjbnonkjmaa.words Go.Deep
set_option linter.unusedVariables false
abbrev WA := Int × Int × Nat
def waV (a : WA) : List Value := [.int .u8 a.1, .int .i64 a.2.1, .float .f64 a.2.2]
def waQ (a : WA) : Prop := (Lit.int .u8 a.1).wf = true ∧ (Lit.int .i64 a.2.1).wf = true ∧ (Lit.float .f64 a.2.2).wf = true
theorem dec_wa {H : Type} {enc : TypeId × Value → H} {W : World} {spare : Nat → Bool} {held : Bool} (n : Nat) (cs : List Value) (y : DataW H × List MemPlace) (h : DataW.trod enc Try.prog W 0 spare held n 41 cs = some y) : ∃ x : WA, cs = waV x ∧ waQ x := by
  obtain ⟨y0, y1, y2, m, _, hl, h0, h1, h2⟩ := trod_struct3 Try.underlying41 h
  have hc : Try.prog.cellsOf 41 = 3 := by kernel_rfl
  have c5 : Try.prog.cellsOf 5 = 1 := by kernel_rfl
  have c3 : Try.prog.cellsOf 3 = 1 := by kernel_rfl
  have c2 : Try.prog.cellsOf 24 = 1 := by kernel_rfl
  rw [hc] at hl
  obtain ⟨x0, e0, q0⟩ := dec_int Try.underlying5 _ _ _ h0
  obtain ⟨x1, e1, q1⟩ := dec_int Try.underlying3 _ _ _ h1
  obtain ⟨x2, e2, q2⟩ := dec_float Try.underlying24 _ _ _ h2
  match cs, hl with
  | [a, b, c], _ =>
    dsimp only at e0 e1 e2
    rw [c5] at e0
    rw [c3] at e1
    rw [c2] at e2
    simp at e0 e1 e2
    subst e0; subst e1; subst e2
    exact ⟨(x0, x1, x2), rfl, q0, q1, q2⟩
theorem wa_at {w : World} {n : Nat} {A : Option Addr} {zs : List WA} (h : Reads w w.heap.size 3 A n (zs.flatMap waV)) {w' : World} (hb : Below w.heap.size w w') {i : Nat} (hl : zs.length = n) (hi : i < n) :
    ∃ ad d x p, A = some ad ∧ zs[i]? = some (d, x, p) ∧ w'.cell? (ad.add (i * 3)) = some (.int .u8 d) ∧ w'.cell? (ad.add (i * 3 + 1)) = some (.int .i64 x) ∧ w'.cell? (ad.add (i * 3 + 2)) = some (.float .f64 p) := by
  obtain ⟨ad, rfl, hlt, hat⟩ := h.2 (by omega)
  have hz : zs[i]? = some (zs[i]'(by omega)) := List.getElem?_eq_getElem _
  obtain ⟨⟨d, x, p⟩, hd⟩ : ∃ a, zs[i]'(by omega) = a := ⟨_, rfl⟩
  rw [hd] at hz
  have get := fun j (hj : j < 3) => flat_get waV 3 (fun _ => rfl) zs i j _ hz hj
  have up : ∀ q, w'.cell? (ad.add q) = w.cell? (ad.add q) := fun q => hb.cell (by rw [block_of_add]; exact hlt)
  refine ⟨ad, d, x, p, rfl, hz, ?_, ?_, ?_⟩
  · rw [up]; exact hat (i * 3) _ (get 0 (by omega))
  · rw [up]; exact hat (i * 3 + 1) _ (get 1 (by omega))
  · rw [up]; exact hat (i * 3 + 2) _ (get 2 (by omega))
/-- both alike, place by place -/
def Sames (fs xs : List Nat) : Prop := fs.length = xs.length ∧ ∀ i, Same (fs.getD i 0) (xs.getD i 0)
theorem Sames.refl (fs : List Nat) : Sames fs fs := ⟨rfl, fun _ => .refl _⟩
theorem getD_set (fs : List Nat) (i j r : Nat) (h : i < fs.length) : (fs.set i r).getD j 0 = if i = j then r else fs.getD j 0 := by
  by_cases e : i = j
  · subst e; simp [List.getD, List.getElem?_set, h]
  · simp [List.getD, List.getElem?_set, e]
theorem Sames.set_ {fs xs : List Nat} (h : Sames fs xs) {i r s : Nat} (hi : i < fs.length) (hrs : Same r s) : Sames (fs.set i r) (xs.set i s) := by
  refine ⟨by simp [h.1], fun j => ?_⟩
  rw [getD_set _ _ _ _ hi, getD_set _ _ _ _ (by rw [← h.1]; exact hi)]
  split
  · exact hrs
  · exact h.2 j
theorem Sames.app {fs xs : List Nat} (h : Sames fs xs) (k v : Nat) : Sames (fs ++ List.replicate k v) (xs ++ List.replicate k v) := by
  refine ⟨by simp [h.1], fun j => ?_⟩
  by_cases hj : j < fs.length
  · rw [show (fs ++ List.replicate k v).getD j 0 = fs.getD j 0 by simp [List.getD, List.getElem?_append_left hj], show (xs ++ List.replicate k v).getD j 0 = xs.getD j 0 by simp [List.getD, List.getElem?_append_left (h.1 ▸ hj : j < xs.length)]]
    exact h.2 j
  · rw [show (fs ++ List.replicate k v).getD j 0 = (xs ++ List.replicate k v).getD j 0 by
      simp [List.getD, List.getElem?_append_right (show fs.length ≤ j by omega), List.getElem?_append_right (show xs.length ≤ j by have := h.1; omega), h.1]]
    exact .refl _
theorem mul_sames {fs xs gs ys : List Nat} {b : Nat} (h : Sames fs xs) (h1 : MulTo fs gs b fs.length) (h2 : MulTo xs ys b xs.length) : Sames gs ys := by
  refine ⟨by rw [h1.1, h2.1, h.1], fun j => ?_⟩
  by_cases hj : j < fs.length
  · exact mul_same (h.2 j) (h1.2.1 j hj) (h2.2.1 j (h.1 ▸ hj))
  · rw [h1.2.2 j (by omega), h2.2.2 j (by have := h.1; omega)]
    exact h.2 j
theorem of_sames {fs xs : List Nat} (h : Sames fs xs) (j : Int) : Same (ofF fs j) (ofF xs j) := by
  unfold ofF
  split
  · exact h.2 _
  · exact .refl _
theorem sum_len {fs : List Nat} {l : List Int} {s : Nat} (h : SumTo fs l s) : ∀ {xs : List Nat} {t : Nat}, Sames fs xs → SumTo xs l t → Same s t := by
  induction h with
  | nil =>
    intro xs t hs h'
    generalize hl : ([] : List Int) = l at h'
    cases h' with
    | nil => exact .refl _
    | snoc j h hr => simp at hl
  | snoc j h hr ih =>
    intro xs t hs h'
    generalize hl : _ ++ [j] = l at h'
    cases h' with
    | nil => simp at hl
    | snoc j' h' hr' =>
      obtain ⟨rfl, hj⟩ := List.append_inj' hl rfl
      injection hj with hj _
      subst hj
      exact add_same (ih hs h') (of_sames hs _) hr hr'
/-- weights, and a row of floats beside them that is the same -/
def Two (B g : Nat) (fs xs : List Nat) (X : Value) (w : World) : Prop := ∃ R, Wt w B g R fs ∧ w.ownsRow B 24 1 X xs.length (flts xs) ∧ (∀ q, X.ownBlock = some q → R ≠ some q) ∧ Sames fs xs
theorem two_below {B g : Nat} {fs xs : List Nat} {X : Value} {w w' : World} (h : Two B g fs xs X w) (hb : Below w.heap.size w w') : Two B g fs xs X w' := by
  obtain ⟨R, ⟨hB, A, c, h1, h2, h3⟩, h4, h5, h6⟩ := h
  exact ⟨R, ⟨hB, A, c, h1.under hb, own_under h2 hb, h3⟩, own_under h4 hb, h5, h6⟩
end Go.Proofs.Ytnnlkjbnonkjmaa.flo
