/- A trail beside a list of what its cells were: slices of numbers in a slice. -/
import Derived.Test.YtgojncgdmcpkiaaTrTf
namespace Go.Proofs.Ytgojncgdmcpkiaa.trl
open Go Go.RowKit Go.ChangeShapes Go.WideShapes Go.ChangeAt Go.Proofs.Ytgojncgdmcpkiaa.words
set_option linter.unusedVariables false
theorem infoS : (Try.prog.info? 22).map (fun i => (i.zero, i.size, i.bytes)) = some (some (.slice none 0 0), 1, 24) := by kernel_rfl
/-- one row: where it lies, its capacity, its numbers -/
abbrev RR := Option Addr × Nat × List Int
def rrV (x : RR) : Value := .slice x.1 x.2.2.length x.2.1
/-- the rows stand, none in F -/
def Seen (w0 : World) (R : List RR) (A : Option Addr) (c : Nat) (F : Nat → Prop) (w : World) : Prop :=
  w.ownsRow w0.heap.size 22 1 (.slice A R.length c) R.length (R.map rrV) ∧ (∀ b, (Value.slice A R.length c).ownBlock = some b → ¬ F b) ∧
  ∀ x ∈ R, w.ownsRow w0.heap.size 2 1 (rrV x) x.2.2.length (nums x.2.2) ∧ ∀ b, (rrV x).ownBlock = some b → ¬ F b
def Nst (w0 : World) (g : Nat) (C : List Int) (ss : List (List Int)) (ev : Nat) (R : List RR) (A : Option Addr) (c : Nat) (w : World) : Prop :=
  ∃ F, TF g F C ss ev w ∧ (∀ k, F k → w0.heap.size ≤ k ∧ k < w.heap.size) ∧ Below w0.heap.size w0 w ∧ Seen w0 R A c F w
variable {w0 w : World} {g : Nat} {C : List Int} {ss : List (List Int)} {ev : Nat} {R : List RR} {A : Option Addr} {c : Nat}
theorem Nst.bel (h : Nst w0 g C ss ev R A c w) : Below w0.heap.size w0 w := by obtain ⟨_, _, _, h, _⟩ := h; exact h
theorem Nst.below {w' : World} (h : Nst w0 g C ss ev R A c w) (hb : Below w.heap.size w w') : Nst w0 g C ss ev R A c w' := by
  obtain ⟨F, h1, h2, h3, h4, h5, h6⟩ := h
  exact ⟨F, h1.below hb, fun k hk => ⟨(h2 k hk).1, Nat.lt_of_lt_of_le (h2 k hk).2 hb.size⟩, bto h3 hb, own_under h4 hb, h5, fun x hx => ⟨own_under (h6 x hx).1 hb, (h6 x hx).2⟩⟩
theorem Nst.call {C' : List Int} {ss' : List (List Int)} {ev' f : Nat} {args : Array Value} {P : Ending → Prop} (h : Nst w0 g C ss ev R A c w)
    (hc : ∀ F, TF g F C ss ev w → Calls Try.prog f args w fun e w' => P e ∧ TO w g F C' ss' ev' w') : Calls Try.prog f args w fun e w' => P e ∧ Nst w0 g C' ss' ev' R A c w' := by
  obtain ⟨F, h1, h2, h3, h4, h5, h6⟩ := h
  refine (hc F h1).mono ?_
  rintro e w' ⟨hR, G, k1, k2, k3⟩
  have off : ∀ b, b < w.heap.size → ¬ F b → ¬ G b := fun b hb hn hx => by
    rcases (k3 b hx).1 with h | h
    · exact hn h
    · omega
  refine ⟨hR, G, k1, fun k hk => ⟨?_, (k3 k hk).2⟩, h3.trans (k2.below h3.size fun i hi hx => by have := (h2 i hx).1; omega), k2.own h4 (fun q hq => h5 q hq), fun b hb => off b (own_in h4 hb).2 (h5 b hb), fun x hx => ⟨k2.own (h6 x hx).1 (fun q hq => (h6 x hx).2 q hq), fun b hb => off b (own_in (h6 x hx).1 hb).2 ((h6 x hx).2 b hb)⟩⟩
  rcases (k3 k hk).1 with h | h
  · exact (h2 k h).1
  · exact Nat.le_trans h3.size h
theorem Nst.ask {α : Prop} (h : Nst w0 g C ss ev R A c w) (k : ∀ F, TF g F C ss ev w → α) : α := by obtain ⟨_, h1, _⟩ := h; exact k _ h1
theorem Nst.row (h : Nst w0 g C ss ev R A c w) : w.ownsRow w0.heap.size 22 1 (.slice A R.length c) R.length (R.map rrV) := by obtain ⟨_, _, _, _, h, _⟩ := h; exact h
/-- row k, told -/
theorem Nst.at_ (h : Nst w0 g C ss ev R A c w) {k : Nat} {x : RR} (hx : R[k]? = some x) : ∃ ad, A = some ad ∧ w.cell? (ad.add k) = some (rrV x) ∧ w.ownsRow w0.heap.size 2 1 (rrV x) x.2.2.length (nums x.2.2) := by
  obtain ⟨F, h1, h2, h3, h4, h5, h6⟩ := h
  obtain ⟨ad, rfl, _, hat⟩ := (Reads.of_own h4).2 (Nat.lt_of_le_of_lt (Nat.zero_le _) (get_lt hx))
  exact ⟨ad, rfl, hat k _ (by rw [List.getElem?_map, hx]; rfl), (h6 x (List.mem_of_getElem? hx)).1⟩
theorem nst_new {F : Nat → Prop} (h1 : TF g F C ss ev w) (h2 : ∀ k, F k → w0.heap.size ≤ k ∧ k < w.heap.size) (h3 : Below w0.heap.size w0 w) : Nst w0 g C ss ev [] none 0 w :=
  ⟨F, h1, h2, h3, World.ownsRow_nil _ _ _ _, (fun b hb => by cases hb), fun x hx => by cases hx⟩
/-- one row more: w is behind the row's making, w' behind its box, w6 behind the append -/
theorem Nst.push {w5 wa w6 : World} {x : RR} {v : Value} (h : Nst w0 g C ss ev R A c w) (h5 : w5.ownsRow w.heap.size 2 1 (rrV x) x.2.2.length (nums x.2.2)) (hb5 : Below w.heap.size w w5) (hba : Below w5.heap.size w5 wa)
    (hown : w6.ownsRow w0.heap.size 22 1 v (R.length + 1) (R.map rrV ++ [rrV x])) (hg : wa.grownBy w6 (Value.slice A R.length c).ownBlock) (hat : v.ownBlock = (Value.slice A R.length c).ownBlock ∨ v.ownBlock = some wa.heap.size) :
    ∃ A' c', v = .slice A' (R ++ [x]).length c' ∧ Nst w0 g C ss ev (R ++ [x]) A' c' w6 := by
  have hna := (h.below hb5).below hba
  obtain ⟨F, h1, h2, h3, h4, h6, h7⟩ := h
  obtain ⟨_, _, _, h3a, h4a, _, _⟩ := hna
  obtain ⟨A', c', rfl⟩ := own_shape hown
  have hbb := bto hb5 hba
  have ha4 := own_under h4 hbb
  have hb6 : Below w0.heap.size wa w6 := (Below.refl _ _).grown hg (bto h3 hbb).size (fun q hq => (own_in ha4 hq).1)
  have kp : ∀ {y : RR} {B : Nat}, wa.ownsRow B 2 1 (rrV y) y.2.2.length (nums y.2.2) → w6.ownsRow B 2 1 (rrV y) y.2.2.length (nums y.2.2) := fun {y B} hy => by
    refine hy.kept hg ?_
    by_cases h0 : (rrV y).ownBlock = none
    · exact .inl h0
    · refine .inr fun e => ?_
      cases hq : (rrV y).ownBlock with
      | none => exact h0 hq
      | some q => exact own_own_ne hy ha4 (by decide) hq (by rw [← e, hq])
  have base_ : ∀ {y : RR} {B B' : Nat} {w : World}, w.ownsRow B 2 1 (rrV y) y.2.2.length (nums y.2.2) → B' ≤ B → w.ownsRow B' 2 1 (rrV y) y.2.2.length (nums y.2.2) := fun {y B B' w} hy hB => by
    obtain ⟨hl, h⟩ := hy
    refine ⟨hl, ?_⟩
    rcases h with h | ⟨q, cap, cur, k1, k2, k3⟩
    · exact .inl h
    · exact .inr ⟨q, cap, cur, k1, Nat.le_trans hB k2, k3⟩
  refine ⟨A', c', by rw [List.length_append]; rfl, F, ?_, fun k hk => ⟨(h2 k hk).1, ?_⟩, (bto h3 hbb).trans hb6, ?_, ?_, fun y hy => ?_⟩
  · exact (h1.below hbb).keep (Tch.of_grown hg (S := fun k => some k = (Value.slice A R.length c).ownBlock) fun i _ e => e) fun k hk e => h6 k e.symm hk
  · have := (h2 k hk).2; have := hbb.size; have := hg.size; omega
  · rw [List.length_append, List.map_append]; exact hown
  · intro b hb hF
    have hb' : (Value.slice A' (R.length + 1) c').ownBlock = some b := by rw [← hb, List.length_append]; cases A' <;> rfl
    rcases hat with e | e
    · exact h6 b (e.symm.trans hb') hF
    · rw [hb'] at e; have := Option.some.inj e; have := (h2 b hF).2; have := hbb.size; omega
  · rcases List.mem_append.1 hy with hy | hy
    · exact ⟨kp (own_under (h7 y hy).1 hbb), (h7 y hy).2⟩
    · obtain rfl : y = x := by simpa using hy
      exact ⟨base_ (kp (own_under h5 hba)) h3.size, fun b hb hF => by have := (own_in h5 hb).1; have := (h2 b hF).2; omega⟩
end Go.Proofs.Ytgojncgdmcpkiaa.trl
