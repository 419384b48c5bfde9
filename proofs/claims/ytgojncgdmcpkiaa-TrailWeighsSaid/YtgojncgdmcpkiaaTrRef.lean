/- The document's trail in memory: its cells, and what they were at each mark. -/
import Derived.Test.YtgojncgdmcpkiaaTrSeen
import Derived.Test.YtgojncgdmcpkiaaI64Clone
import Derived.Deep.RegionHeld3
import Derived.Deep.DeepCutAuto
import Derived.ProofKit
import Derived.OpenShut
namespace Go.Proofs.Ytgojncgdmcpkiaa.trl
open Go Go.RowKit Go.ChangeShapes Go.WideShapes Go.ChangeAt Go.Proofs.Ytgojncgdmcpkiaa.words
set_option linter.unusedVariables false
/-- the document's trail at gx, all of it in H: its cells C, the rows R seen -/
def RX (gx : Nat) (H : Nat → Prop) (C : List Int) (R : List RR) (w : World) : Prop :=
  H gx ∧ ∃ AC cC A c, Blk w gx 40 #[.slice AC C.length cC, .slice A R.length c] ∧
    w.ownsRow 0 2 1 (.slice AC C.length cC) C.length (nums C) ∧ (∀ k, (Value.slice AC C.length cC).ownBlock = some k → H k) ∧
    w.ownsRow 0 22 1 (.slice A R.length c) R.length (R.map rrV) ∧ (∀ k, (Value.slice A R.length c).ownBlock = some k → H k) ∧
    ∀ x ∈ R, w.ownsRow 0 2 1 (rrV x) x.2.2.length (nums x.2.2) ∧ ∀ k, (rrV x).ownBlock = some k → H k ∧ (Value.slice AC C.length cC).ownBlock ≠ some k
def RXO (w : World) (gx : Nat) (H : Nat → Prop) (C : List Int) (R : List RR) (w' : World) : Prop :=
  ∃ G, RX gx G C R w' ∧ Tch w w' H ∧ ∀ k, G k → (H k ∨ w.heap.size ≤ k) ∧ k < w'.heap.size
variable {w : World} {gx : Nat} {H : Nat → Prop} {C : List Int} {R : List RR}
theorem RX.keep {w' : World} {S : Nat → Prop} (h : RX gx H C R w) (ht : Tch w w' S) (hs : ∀ k, H k → ¬ S k) : RX gx H C R w' := by
  obtain ⟨hg, AC, cC, A, c, hb, h1, f1, h2, f2, h3⟩ := h
  exact ⟨hg, AC, cC, A, c, ht.blk hb (hs _ hg), ht.own h1 fun k hk => hs _ (f1 k hk), f1, ht.own h2 fun k hk => hs _ (f2 k hk), f2, fun x hx => ⟨ht.own (h3 x hx).1 fun k hk => hs _ ((h3 x hx).2 k hk).1, (h3 x hx).2⟩⟩
theorem RX.below {w' : World} (h : RX gx H C R w) (hb : Below w.heap.size w w') : RX gx H C R w' := h.keep (Tch.of_below hb (fun _ => False)) fun _ _ => id
/-- what is needed to put a new one together: none of these lies at gx, for their kinds differ -/
theorem rx_of {w' : World} {G : Nat → Prop} {C' : List Int} {R' : List RR} {AC : Option Addr} {cC : Nat} {A : Option Addr} {c : Nat} (hg : G gx) (hb : Blk w' gx 40 #[.slice AC C'.length cC, .slice A R'.length c])
    (h1 : w'.ownsRow 0 2 1 (.slice AC C'.length cC) C'.length (nums C')) (f1 : ∀ k, (Value.slice AC C'.length cC).ownBlock = some k → G k)
    (h2 : w'.ownsRow 0 22 1 (.slice A R'.length c) R'.length (R'.map rrV)) (f2 : ∀ k, (Value.slice A R'.length c).ownBlock = some k → G k)
    (h3 : ∀ x ∈ R', w'.ownsRow 0 2 1 (rrV x) x.2.2.length (nums x.2.2) ∧ ∀ k, (rrV x).ownBlock = some k → G k ∧ (Value.slice AC C'.length cC).ownBlock ≠ some k) : RX gx (fun k => G k ∧ k < w'.heap.size) C' R' w' :=
  ⟨⟨hg, hb.lt⟩, AC, cC, A, c, hb, h1, fun k hk => ⟨f1 k hk, (own_in h1 hk).2⟩, h2, fun k hk => ⟨f2 k hk, (own_in h2 hk).2⟩, fun x hx => ⟨(h3 x hx).1, fun k hk => ⟨⟨((h3 x hx).2 k hk).1, (own_in (h3 x hx).1 hk).2⟩, ((h3 x hx).2 k hk).2⟩⟩⟩
/-- the two heads at gx, in any world that kept them -/
theorem RX.heads (h : RX gx H C R w) : ∃ AC cC A c, (∀ w', Below w.heap.size w w' → w'.cell? ⟨gx, 0, none⟩ = some (.slice AC C.length cC) ∧ w'.cell? ⟨gx, 1, none⟩ = some (.slice A R.length c)) ∧ w.ownsRow 0 2 1 (.slice AC C.length cC) C.length (nums C) ∧ w.ownsRow 0 22 1 (.slice A R.length c) R.length (R.map rrV) := by
  obtain ⟨hg, AC, cC, A, c, hb, h1, f1, h2, f2, h3⟩ := h
  exact ⟨AC, cC, A, c, fun w' hw => (hb.under hw).two, h1, h2⟩
/-- a mark more -/
theorem RX.marked {w2 w4 : World} (h : RX gx H C R w) {AC A An : Option Addr} {cC c cn : Nat} {v4 : Value} (hb0 : Blk w gx 40 #[.slice AC C.length cC, .slice A R.length c]) (hbl : Below w.heap.size w w2)
    (hn : w2.ownsRow w.heap.size 2 1 (.slice An C.length cn) C.length (nums C)) (h4 : w4.ownsRow 0 22 1 v4 (R.length + 1) (R.map rrV ++ [.slice An C.length cn]))
    (hg : (w2.alloc (.cells #[.slice An C.length cn] 22)).grownBy w4 (Value.slice A R.length c).ownBlock) (hat : v4.ownBlock = (Value.slice A R.length c).ownBlock ∨ v4.ownBlock = some (w2.alloc (.cells #[.slice An C.length cn] 22)).heap.size) :
    RXO w gx H C (R ++ [(An, cn, C)]) (w4.setCell ⟨gx, 1, none⟩ v4) := by
  obtain ⟨hg0, AC', cC', A', c', hb, h1, f1, h2, f2, h3⟩ := h
  have e0 : (Value.slice AC' C.length cC') = .slice AC C.length cC := by have := (hb.cell 0).symm.trans (hb0.cell 0); injection this
  have e1 : (Value.slice A' R.length c') = .slice A R.length c := by have := (hb.cell 1).symm.trans (hb0.cell 1); injection this
  injection e0 with e0 _ e0'
  injection e1 with e1 _ e1'
  subst e0; subst e0'; subst e1; subst e1'
  obtain ⟨A4, c4, rfl⟩ := own_shape h4
  have hba : Below w.heap.size w (w2.alloc (.cells #[.slice An C.length cn] 22)) := bnew hbl _
  have ht4 : Tch w w4 (fun k => some k = (Value.slice A' R.length c').ownBlock) := (Tch.of_below hba _).trans (Tch.of_grown hg fun i _ e => e) fun _ _ h => h
  have nA : ∀ k, (Value.slice A' R.length c').ownBlock = some k → k ≠ gx := fun k hk e => own_blk_ne h2 hb (by decide) (by rw [hk, e])
  have hb4 := ht4.blk hb fun e => nA gx e.symm rfl
  have hset : Tch w4 (w4.setCell ⟨gx, 1, none⟩ (.slice A4 (R.length + 1) c4)) (fun k => k = gx) := Tch.set_ w4 _ rfl
  have k1 := ht4.own h1 fun k hk e => own_own_ne h1 h2 (by decide) hk e.symm
  have k3 : ∀ x ∈ R, w4.ownsRow 0 2 1 (rrV x) x.2.2.length (nums x.2.2) := fun x hx => ht4.own (h3 x hx).1 fun k hk e => own_own_ne (h3 x hx).1 h2 (by decide) hk e.symm
  have kn : w4.ownsRow w.heap.size 2 1 (.slice An C.length cn) C.length (nums C) := (Tch.of_grown hg (S := fun k => some k = (Value.slice A' R.length c').ownBlock) fun i _ e => e).own (own_under hn (bone _ _)) fun k hk e => by
    have := (own_in hn hk).1; have := (own_in h2 e.symm).2; omega
  have hlen : (R ++ [((An, cn, C) : RR)]).length = R.length + 1 := by simp
  have hall : Tch w (w4.setCell ⟨gx, 1, none⟩ (.slice A4 (R.length + 1) c4)) H := (ht4.mono fun i _ e => f2 i e.symm).trans (hset.mono fun i _ e => by rw [e]; exact hg0) fun _ _ h => h
  have hsz : w.heap.size ≤ w4.heap.size := ht4.size
  refine ⟨_, rx_of (G := fun k => H k ∨ w.heap.size ≤ k) (AC := AC') (cC := cC') (A := A4) (c := c4) (.inl hg0) ?_ (hset.own k1 fun k hk e => own_blk_ne k1 hb4 (by decide) (by rw [hk, e])) (fun k hk => .inl (f1 k hk)) ?_ ?_ ?_, hall, fun k hk => hk⟩
  · have := hb4.set_ 1 (.slice A4 (R.length + 1) c4)
    rw [hlen]; exact this
  · rw [hlen, List.map_append]
    exact hset.own h4 fun k hk e => own_blk_ne h4 hb4 (by decide) (by rw [hk, e])
  · intro k hk
    have hk' : (Value.slice A4 (R.length + 1) c4).ownBlock = some k := by rw [← hk, hlen]
    rcases hat with e | e
    · exact .inl (f2 k (e.symm.trans hk'))
    · rw [hk'] at e; have := Option.some.inj e; exact .inr (by have := hba.size; omega)
  · intro x hx
    rcases List.mem_append.1 hx with hx | hx
    · exact ⟨hset.own (k3 x hx) fun k hk e => own_blk_ne (k3 x hx) hb4 (by decide) (by rw [hk, e]), fun k hk => ⟨.inl ((h3 x hx).2 k hk).1, ((h3 x hx).2 k hk).2⟩⟩
    · obtain rfl : x = (An, cn, C) := by simpa using hx
      refine ⟨own_base (hset.own kn fun k hk e => by have := (own_in kn hk).1; have := hb.lt; omega) (Nat.zero_le _), fun k hk => ⟨.inr (own_in kn hk).1, fun e => ?_⟩⟩
      have := (own_in kn hk).1; have := (own_in h1 e).2; omega
/-- parts of a document's trail whose heads are these -/
theorem RX.parts (h : RX gx H C R w) {AC A : Option Addr} {cC c : Nat} (hb0 : Blk w gx 40 #[.slice AC C.length cC, .slice A R.length c]) :
    H gx ∧ w.ownsRow 0 2 1 (.slice AC C.length cC) C.length (nums C) ∧ (∀ k, (Value.slice AC C.length cC).ownBlock = some k → H k) ∧
    w.ownsRow 0 22 1 (.slice A R.length c) R.length (R.map rrV) ∧ (∀ k, (Value.slice A R.length c).ownBlock = some k → H k) ∧
    ∀ x ∈ R, w.ownsRow 0 2 1 (rrV x) x.2.2.length (nums x.2.2) ∧ ∀ k, (rrV x).ownBlock = some k → H k ∧ (Value.slice AC C.length cC).ownBlock ≠ some k := by
  obtain ⟨hg0, AC', cC', A', c', hb, h1, f1, h2, f2, h3⟩ := h
  have e0 : (Value.slice AC' C.length cC') = .slice AC C.length cC := by have := (hb.cell 0).symm.trans (hb0.cell 0); injection this
  have e1 : (Value.slice A' R.length c') = .slice A R.length c := by have := (hb.cell 1).symm.trans (hb0.cell 1); injection this
  injection e0 with e0 _ e0'
  injection e1 with e1 _ e1'
  subst e0; subst e0'; subst e1; subst e1'
  exact ⟨hg0, h1, f1, h2, f2, h3⟩
theorem RX.blk (h : RX gx H C R w) : ∃ AC cC A c, Blk w gx 40 #[.slice AC C.length cC, .slice A R.length c] := by
  obtain ⟨_, AC, cC, A, c, hb, _⟩ := h
  exact ⟨AC, cC, A, c, hb⟩
/-- as it was at a mark -/
theorem RX.undone {w2 : World} (h : RX gx H C R w) {An : Option Addr} {cn k : Nat} {D : List Int} {AC A : Option Addr} {cC c : Nat} (hb : Blk w gx 40 #[.slice AC C.length cC, .slice A R.length c]) (hbl : Below w.heap.size w w2)
    (hn : w2.ownsRow w.heap.size 2 1 (.slice An D.length cn) D.length (nums D)) (hk : k ≤ R.length) :
    RXO w gx H D (R.take k) ((w2.setCell ⟨gx, 0, none⟩ (.slice An D.length cn)).setCell ⟨gx, 1, none⟩ (.slice A k c)) := by
  obtain ⟨hg0, h1, f1, h2, f2, h3⟩ := h.parts hb
  have ht : Tch w ((w2.setCell ⟨gx, 0, none⟩ (.slice An D.length cn)).setCell ⟨gx, 1, none⟩ (.slice A k c)) (fun k => k = gx) := ((Tch.of_below hbl (fun k => k = gx)).put (p := ⟨gx, 0, none⟩) _ rfl).put (p := ⟨gx, 1, none⟩) _ rfl
  have ht2 : Tch w2 ((w2.setCell ⟨gx, 0, none⟩ (.slice An D.length cn)).setCell ⟨gx, 1, none⟩ (.slice A k c)) (fun k => k = gx) := ((Tch.refl w2 (fun k => k = gx)).put (p := ⟨gx, 0, none⟩) _ rfl).put (p := ⟨gx, 1, none⟩) _ rfl
  have hlen : (R.take k).length = k := by rw [List.length_take]; omega
  have hh2 := own_trunc h2 hk
  rw [Nat.mul_one, ← List.map_take] at hh2
  refine ⟨_, rx_of (G := fun k => H k ∨ w.heap.size ≤ k) (AC := An) (cC := cn) (A := A) (c := c) (.inl hg0) ?_ (own_base (ht2.own hn fun k hk e => by have := (own_in hn hk).1; have := hb.lt; omega) (Nat.zero_le _)) (fun k hk => .inr (own_in hn hk).1) ?_ ?_ ?_, ht.mono fun i _ e => by rw [e]; exact hg0, fun k hk => hk⟩
  · have := ((hb.under hbl).set_ 0 (.slice An D.length cn)).set_ 1 (.slice A k c)
    rw [hlen]; exact this
  · rw [hlen]
    exact ht.own hh2 fun q hq e => own_blk_ne hh2 hb (by decide) (by rw [hq, e])
  · intro q hq
    exact .inl (f2 q (by rw [← hq]; cases A <;> rfl))
  · intro x hx
    have hx' := List.mem_of_mem_take hx
    refine ⟨ht.own (h3 x hx').1 fun q hq e => own_blk_ne (h3 x hx').1 hb (by decide) (by rw [hq, e]), fun q hq => ⟨.inl ((h3 x hx').2 q hq).1, fun e => ?_⟩⟩
    have := (own_in (h3 x hx').1 hq).2; have := (own_in hn e).1; omega
/-- marks forgotten -/
theorem RX.forgot (h : RX gx H C R w) {k : Nat} {AC A : Option Addr} {cC c : Nat} (hb : Blk w gx 40 #[.slice AC C.length cC, .slice A R.length c]) (hk : k ≤ R.length) :
    RXO w gx H C (R.take k) (w.setCell ⟨gx, 1, none⟩ (.slice A k c)) := by
  obtain ⟨hg0, h1, f1, h2, f2, h3⟩ := h.parts hb
  have ht : Tch w (w.setCell ⟨gx, 1, none⟩ (.slice A k c)) (fun k => k = gx) := Tch.set_ w (S := fun k => k = gx) (p := ⟨gx, 1, none⟩) _ rfl
  have hlen : (R.take k).length = k := by rw [List.length_take]; omega
  have hh2 := own_trunc h2 hk
  rw [Nat.mul_one, ← List.map_take] at hh2
  refine ⟨_, rx_of (G := fun k => H k ∨ w.heap.size ≤ k) (AC := AC) (cC := cC) (A := A) (c := c) (.inl hg0) ?_ (ht.own h1 fun q hq e => own_blk_ne h1 hb (by decide) (by rw [hq, e])) (fun k hk => .inl (f1 k hk)) ?_ ?_ ?_, ht.mono fun i _ e => by rw [e]; exact hg0, fun k hk => hk⟩
  · have := hb.set_ 1 (.slice A k c)
    rw [hlen]; exact this
  · rw [hlen]
    exact ht.own hh2 fun q hq e => own_blk_ne hh2 hb (by decide) (by rw [hq, e])
  · intro q hq
    exact .inl (f2 q (by rw [← hq]; cases A <;> rfl))
  · intro x hx
    have hx' := List.mem_of_mem_take hx
    exact ⟨ht.own (h3 x hx').1 fun q hq e => own_blk_ne (h3 x hx').1 hb (by decide) (by rw [hq, e]), fun q hq => ⟨.inl ((h3 x hx').2 q hq).1, ((h3 x hx').2 q hq).2⟩⟩
/-- a cell told -/
theorem RX.told (h : RX gx H C R w) {i : Nat} (hi : i < C.length) {AC A : Option Addr} {cC c : Nat} (hb : Blk w gx 40 #[.slice AC C.length cC, .slice A R.length c]) :
    ∃ r, AC = some ⟨r, 0, none⟩ ∧ w.frozen? ⟨r, i, none⟩ = false ∧ (∃ u, w.cell? ⟨r, i, none⟩ = some u) ∧ ∀ v : Int, RXO w gx H (C.set i v) R (w.setCell ⟨r, i, none⟩ (.int .i64 v)) := by
  obtain ⟨hg0, h1, f1, h2, f2, h3⟩ := h.parts hb
  obtain ⟨r, rfl, _, hr⟩ := own_some h1 (by omega)
  refine ⟨r, rfl, ?_, ?_, fun v => ?_⟩
  · exact h1.frozenAt i
  · exact ⟨_, (h1.cellAt i (by omega)).trans (List.getElem?_eq_getElem (by unfold nums; simpa using hi))⟩
  have ht : Tch w (w.setCell ⟨r, i, none⟩ (.int .i64 v)) (fun k => k = r) := Tch.set_ w (S := fun k => k = r) (p := ⟨r, i, none⟩) _ rfl
  have hlen : (C.set i v).length = C.length := List.length_set
  have hs := (h1.stored i (.int .i64 v)).1
  rw [show (nums C).set i (.int .i64 v) = nums (C.set i v) by unfold nums; rw [List.map_set]] at hs
  have hHr : H r := f1 r rfl
  have hrg : r ≠ gx := fun e => own_blk_ne h1 hb (by decide) (by rw [← e]; rfl)
  refine ⟨_, rx_of (G := fun k => H k ∨ w.heap.size ≤ k) (AC := some ⟨r, 0, none⟩) (cC := cC) (A := A) (c := c) (.inl hg0) ?_ ?_ ?_ (ht.own h2 fun q hq e => own_own_ne h1 h2 (by decide) (k := r) rfl (by rw [hq, e])) (fun q hq => .inl (f2 q hq)) ?_, ht.mono fun i _ e => by rw [e]; exact hHr, fun k hk => hk⟩
  · rw [hlen]; exact ht.blk hb (fun e => hrg e.symm)
  · rw [hlen]; exact hs
  · intro q hq
    rw [hlen] at hq
    exact .inl (f1 q hq)
  · intro x hx
    refine ⟨ht.own (h3 x hx).1 fun q hq e => ((h3 x hx).2 q hq).2 (by rw [e]; rfl), fun q hq => ⟨.inl ((h3 x hx).2 q hq).1, ?_⟩⟩
    rw [hlen]; exact ((h3 x hx).2 q hq).2
/-- a cell more -/
theorem RX.more {w2 w4 : World} (h : RX gx H C R w) {AC A : Option Addr} {cC c : Nat} {v4 : Value} {D : List Int} (hb : Blk w gx 40 #[.slice AC C.length cC, .slice A R.length c]) (hbl : Below w.heap.size w w2)
    (h4 : w4.ownsRow 0 2 1 v4 D.length (nums D)) (hg : w2.grownBy w4 (Value.slice AC C.length cC).ownBlock) (hat : v4.ownBlock = (Value.slice AC C.length cC).ownBlock ∨ v4.ownBlock = some w2.heap.size) :
    RXO w gx H D R (w4.setCell ⟨gx, 0, none⟩ v4) := by
  obtain ⟨hg0, h1, f1, h2, f2, h3⟩ := h.parts hb
  obtain ⟨A4, c4, rfl⟩ := own_shape h4
  have ht4 : Tch w w4 (fun k => some k = (Value.slice AC C.length cC).ownBlock) := (Tch.of_below hbl _).trans (Tch.of_grown hg fun i _ e => e) fun _ _ h => h
  have nA : ∀ k, (Value.slice AC C.length cC).ownBlock = some k → k ≠ gx := fun k hk e => own_blk_ne h1 hb (by decide) (by rw [hk, e])
  have hb4 := ht4.blk hb fun e => nA gx e.symm rfl
  have hset : Tch w4 (w4.setCell ⟨gx, 0, none⟩ (.slice A4 D.length c4)) (fun k => k = gx) := Tch.set_ w4 _ rfl
  have k2 := ht4.own h2 fun k hk e => own_own_ne h1 h2 (by decide) (k := k) e.symm hk
  have k3 : ∀ x ∈ R, w4.ownsRow 0 2 1 (rrV x) x.2.2.length (nums x.2.2) := fun x hx => ht4.own (h3 x hx).1 fun k hk e => ((h3 x hx).2 k hk).2 e.symm
  have hall : Tch w (w4.setCell ⟨gx, 0, none⟩ (.slice A4 D.length c4)) H := (ht4.mono fun i _ e => f1 i e.symm).trans (hset.mono fun i _ e => by rw [e]; exact hg0) fun _ _ h => h
  refine ⟨_, rx_of (G := fun k => H k ∨ w.heap.size ≤ k) (AC := A4) (cC := c4) (A := A) (c := c) (.inl hg0) (hb4.set_ 0 (.slice A4 D.length c4)) (hset.own h4 fun k hk e => own_blk_ne h4 hb4 (by decide) (by rw [hk, e])) ?_ (hset.own k2 fun k hk e => own_blk_ne k2 hb4 (by decide) (by rw [hk, e])) (fun k hk => .inl (f2 k hk)) ?_, hall, fun k hk => hk⟩
  · intro k hk
    rcases hat with e | e
    · exact .inl (f1 k (e.symm.trans hk))
    · rw [hk] at e; have := Option.some.inj e; exact .inr (by have := hbl.size; omega)
  · intro x hx
    refine ⟨hset.own (k3 x hx) fun k hk e => own_blk_ne (k3 x hx) hb4 (by decide) (by rw [hk, e]), fun k hk => ⟨.inl ((h3 x hx).2 k hk).1, fun e2 => ?_⟩⟩
    rcases hat with e | e
    · exact ((h3 x hx).2 k hk).2 (e.symm.trans e2)
    · rw [e2] at e; have := Option.some.inj e; have := (own_in (h3 x hx).1 hk).2; have := hbl.size; omega
theorem infoRR : (Try.prog.info? 22).map (fun i => (i.zero, i.size, i.bytes)) = some (some (.slice none 0 0), 1, 24) := by kernel_rfl
set_option maxHeartbeats 4000000 in
theorem ref_mark (h : RX gx H C R w) (hC : C.length ≤ 1000) (hR : R.length ≤ 1000) :
    Calls Try.prog 28 #[.pointer (some ⟨gx, 0, none⟩)] w fun e w' => e = .returned (.int .i64 R.length) ∧ ∃ A c, RXO w gx H C (R ++ [(A, c, C)]) w' := by
  obtain ⟨i0, hi0, hz0, hz1, hz2⟩ := info_parts infoL
  obtain ⟨j0, hj0, hy0, hy1, hy2⟩ := info_parts infoRR
  obtain ⟨AC, cC, A, c, hb⟩ := h.blk
  obtain ⟨hg0, h1, f1, h2, f2, h3⟩ := h.parts hb
  have HH : Hid (RX gx H C R w ∧ Blk w gx 40 #[.slice AC C.length cC, .slice A R.length c]) := ⟨h, hb⟩
  have hlit := World.ownsRow_lit (base := w.heap.size) (e := 2) (size := 1) w #[] 0 (Nat.le_refl _) (by unfold maxLen; omega) rfl
  have hr1 : Reads (w.alloc (.cells #[] 2)) w.heap.size 1 AC C.length (nums C) := (Reads.of_own h1).alloc (Nat.le_refl _) _
  have HB : Hid (∀ w', Below w.heap.size w w' → w'.cell? ⟨gx, 0, none⟩ = some (.slice AC C.length cC) ∧ w'.cell? ⟨gx, 1, none⟩ = some (.slice A R.length c) ∧ w'.frozen? ⟨gx, 1, none⟩ = false) := fun w' hw => ⟨(hb.under hw).cell 0, (hb.under hw).cell 1, (hb.under hw).frozen 1⟩
  have HG : Hid (∀ w2 w4, Below w.heap.size w w2 → w2.grownBy w4 (Value.slice A R.length c).ownBlock → (w4.cell? ⟨gx, 0, none⟩ = some (.slice AC C.length cC) ∧ w4.cell? ⟨gx, 1, none⟩ = some (.slice A R.length c)) ∧ w4.frozen? ⟨gx, 1, none⟩ = false) := fun w2 w4 hw hg => by
    have := (hb.under hw).grown hg fun e => own_blk_ne h2 hb (by decide) e.symm
    exact ⟨⟨this.cell 0, this.cell 1⟩, this.frozen 1⟩
  have H2 : Hid (∀ w2, Below w.heap.size w w2 → w2.ownsRow 0 22 1 (.slice A R.length c) R.length (R.map rrV)) := fun w2 hw => own_under h2 hw
  obtain ⟨n, hn⟩ : ∃ n, C.length = n := ⟨_, rfl⟩
  obtain ⟨r, hr⟩ : ∃ r, R.length = r := ⟨_, rfl⟩
  obtain ⟨x0, x1, x2⟩ := HB.out w (Below.refl _ _)
  rw [hn] at hr1 x0 hC
  rw [hr] at x1 hR
  rw [Hid, hn, hr] at HB
  rw [Hid, hn, hr] at HG
  rw [Hid, hr] at H2
  rw [hr]
  have HN := Lib.hid hn
  have HR := Lib.hid hr
  clear hb hg0 h1 f1 h2 f2 h3 h hn hr
  have hcw : Below w.heap.size w w := Below.refl _ _
  go_enter Try.func28, Try.ntmps28
  go_wp2_with fail
  go_cut [] (fun wx => ∃ A c, RXO w gx H C (R ++ [(A, c, C)]) wx)
  case first =>
    have y0 := (HB _ (bone w (.cells #[] 2)).drew).1
    have y1 := (HB _ (bone w (.cells #[] 2)).drew).2.1
    have HI := Lib.hid (And.intro hi0 (And.intro hz0 (And.intro hz1 hz2)))
    have HJ := Lib.hid (And.intro hj0 (And.intro hy0 (And.intro hy1 hy2)))
    have HL := Lib.hid hlit
    have HR1 := Lib.hid hr1
    have hm1 : Hid (0 + n ≤ maxLen) := by show 0 + n ≤ maxLen; simp only [maxLen]; omega
    have hm2 : Hid ((0 + n) * 8 ≤ 140737488355328) := by show (0 + n) * 8 ≤ 140737488355328; omega
    have hm3 : Hid (r + 1 ≤ maxLen) := by show r + 1 ≤ maxLen; simp only [maxLen]; omega
    have hm4 : Hid ((r + 1) * 24 ≤ 140737488355328) := by show (r + 1) * 24 ≤ 140737488355328; omega
    have HB' := Lib.hid HB
    have HG' := Lib.hid HG
    have H2' := Lib.hid H2
    clear hi0 hz0 hz1 hz2 hj0 hy0 hy1 hy2 hlit hr1 hcw HB HG H2 hC hR
    go_region_law (first
      | (refine step_append_any _ rfl (.tmp 8) (.tmp 12) 22 rfl w.heap.size 2 i0 (.int .i64 0) 1 8 Try.underlying22 HI.out.1 HI.out.2.1 HI.out.2.2.1 HI.out.2.2.2 rfl (by omega) (.slice (some ⟨w.heap.size, 0, none⟩) 0 0) 0 [] rfl HL.out w.heap.size AC n cC (nums C) rfl HR1.out nums_one hm1.out hm2.out (by simp) ?_; intro v4 w4 hown4 hg4 hat; clear hat; rw [Nat.zero_add, List.nil_append] at hown4; obtain ⟨A4, c4, rfl⟩ := own_shape hown4; have hg5 : (w.alloc (.cells #[] 2)).drew.grownBy w4 (some w.heap.size) := hg4; have hb4 : Below w.heap.size w w4 := (bone w (.cells #[] 2)).drew.grown hg5 (by simp) (by simp); have z0 := (HB'.out w4 hb4).1; have z1 := (HB'.out w4 hb4).2.1; have zz0 := (HB'.out _ (bnew hb4 (.cells #[.slice A4 n c4] 22))).1; have zz1 := (HB'.out _ (bnew hb4 (.cells #[.slice A4 n c4] 22))).2.1)
      | (refine step_append_any _ rfl (.tmp 7) (.tmp 14) 38 rfl 0 22 j0 (.slice none 0 0) 1 24 Try.underlying38 HJ.out.1 HJ.out.2.1 HJ.out.2.2.1 HJ.out.2.2.2 rfl (by omega) (.slice A r c) r (R.map rrV) rfl (H2'.out _ (bnew hb4 (.cells #[.slice A4 n c4] 22))) (w4.alloc (.cells #[.slice A4 n c4] 22)).heap.size (some ⟨w4.heap.size, 0, none⟩) 1 1 [.slice A4 n c4] rfl (reads_block (t := 22) (heap_alloc_new _ _) rfl) (fun u hu => by simp at hu; subst hu; rfl) hm3.out hm4.out (Nat.zero_le _) ?_; intro v6 w6 hown6 hg6 hat6; obtain ⟨A6, c6, rfl⟩ := own_shape hown6; have hx6 := (HG'.out _ w6 (bnew hb4 _) hg6).1.2; have hf6 := (HG'.out _ w6 (bnew hb4 _) hg6).2))
    all_goals
      have hfin := HH.out.1.marked HH.out.2 (w2 := w4) (w4 := w6) (An := A4) (cn := c4) (v4 := .slice A6 (r + 1) c6) hb4 (by rw [HN.out]; exact hown4) (by rw [HR.out, HN.out]; exact hown6) (by rw [HR.out, HN.out]; exact hg6) (by rw [HR.out, HN.out]; exact hat6)
      have HF := Lib.hid hfin
      clear hfin hown4 hown6 hg6 hat6
      go_wp2_with fail
      go_meet
      case rel => exact ⟨A4, c4, HF.out⟩
  case rest =>
    clear hi0 hz0 hz1 hz2 hj0 hy0 hy1 hy2 hlit hr1 hcw HB HG H2 x0 x1 x2
    obtain ⟨A4, c4, hL⟩ := hcut
    obtain ⟨H', hx, hL2⟩ := id hL
    obtain ⟨B1, d1, B2, d2, hh, _, _⟩ := hx.heads
    have q2 := (hh wc (Below.refl _ _)).2
    obtain ⟨n4, hn4⟩ : ∃ n4, r + 1 = n4 := ⟨_, rfl⟩
    rw [show (R ++ [((A4, c4, C) : RR)]).length = n4 by simp [HR.out]; exact hn4] at q2
    have W1 : (n4 : Int) - 1 = (r : Int) := by omega
    have HL := Lib.hid hL
    clear hL hx hL2 hh hn4
    go_wp2_with fail
    go_ret
    exact ⟨rfl, A4, c4, HL.out⟩
set_option maxHeartbeats 4000000 in
theorem ref_undo (h : RX gx H C R w) {k : Nat} {x : RR} (hx : R[k]? = some x) (hC : x.2.2.length ≤ 1000) (hR : R.length ≤ 1000) :
    Calls Try.prog 29 #[.pointer (some ⟨gx, 0, none⟩), .int .i64 k] w fun e w' => e = .returned (.bool true) ∧ RXO w gx H x.2.2 (R.take k) w' := by
  obtain ⟨i0, hi0, hz0, hz1, hz2⟩ := info_parts infoL
  obtain ⟨AC, cC, A, c, hb⟩ := h.blk
  obtain ⟨hg0, h1, f1, h2, f2, h3⟩ := h.parts hb
  have hk := get_lt hx
  have HH : Hid (RX gx H C R w ∧ Blk w gx 40 #[.slice AC C.length cC, .slice A R.length c] ∧ k ≤ R.length) := ⟨h, hb, Nat.le_of_lt hk⟩
  have hlit := World.ownsRow_lit (base := w.heap.size) (e := 2) (size := 1) w #[] 0 (Nat.le_refl _) (by unfold maxLen; omega) rfl
  obtain ⟨⟨Ax, cx, D⟩, rfl⟩ : ∃ y, y = x := ⟨x, rfl⟩
  dsimp only at hC ⊢
  have ox := (h3 _ (List.mem_of_getElem? hx)).1
  have hr1 : Reads (w.alloc (.cells #[] 2)) w.heap.size 1 Ax D.length (nums D) := (Reads.of_own ox).alloc (Nat.le_refl _) _
  have HB : Hid (∀ w', Below w.heap.size w w' → w'.cell? ⟨gx, 0, none⟩ = some (.slice AC C.length cC) ∧ w'.cell? ⟨gx, 1, none⟩ = some (.slice A R.length c) ∧ w'.frozen? ⟨gx, 0, none⟩ = false ∧ ∀ v, (w'.setCell ⟨gx, 0, none⟩ v).cell? ⟨gx, 1, none⟩ = some (.slice A R.length c) ∧ (w'.setCell ⟨gx, 0, none⟩ v).frozen? ⟨gx, 1, none⟩ = false) := fun w' hw => ⟨(hb.under hw).cell 0, (hb.under hw).cell 1, (hb.under hw).frozen 0, fun v => ⟨((hb.under hw).set_ 0 v).cell 1, ((hb.under hw).set_ 0 v).frozen 1⟩⟩
  obtain ⟨ad, rfl, hadl, hat⟩ := (Reads.of_own h2).2 (Nat.lt_of_le_of_lt (Nat.zero_le _) hk)
  have hrow := hat k (rrV (Ax, cx, D)) (by rw [List.getElem?_map, hx]; rfl)
  have hcap := own_cap h2
  have hrow' : (w.alloc (.cells #[] 2)).cell? (ad.add k) = some (.slice Ax D.length cx) := by
    rw [(bone w (.cells #[] 2)).cell (by rw [block_of_add]; exact hadl)]; exact hrow
  obtain ⟨n, hn⟩ : ∃ n, D.length = n := ⟨_, rfl⟩
  obtain ⟨q, hq⟩ : ∃ q, C.length = q := ⟨_, rfl⟩
  obtain ⟨r, hr⟩ : ∃ r, R.length = r := ⟨_, rfl⟩
  have HN := Lib.hid hn
  have HR := Lib.hid hr
  have HQ := Lib.hid hq
  rw [Hid, hr, hq] at HB
  rw [hr] at hk hR hcap
  rw [hn] at hr1 hC hrow'
  have x1 := (HB w (Below.refl _ _)).2.1
  have y1 := (HB _ (bone w (.cells #[] 2))).2.1
  have HBB := Lib.hid HB
  have kI : (0 : Int) ≤ (k : Int) := Int.natCast_nonneg _
  have kr : (k : Int) < (r : Int) := by omega
  have krB : decide (r ≤ k) = false := decide_eq_false (by omega)
  have kc : (k : Int) ≤ (c : Int) := by omega
  clear hb hg0 h1 f1 h2 f2 h3 h hn hr hq ox hat hx hrow HB
  go_enter Try.func29, Try.ntmps29
  go_wp2_with (first
    | (at_builtin; refine wpList_append_any _ rfl (.tmp 17) (.tmp 24) _ rfl w.heap.size 2 i0 _ 1 8 Try.underlying22 hi0 hz0 hz1 hz2 rfl (by omega) _ 0 [] rfl hlit w.heap.size Ax n cx (nums D) rfl hr1 nums_one (by simp only [maxLen]; omega) (by omega) (by simp) ?_; intro v4 w4 hown4 hg4 hat; clear hat; rw [Nat.zero_add, List.nil_append] at hown4; obtain ⟨A4, c4, rfl⟩ := own_shape hown4; have hg5 : (w.alloc (.cells #[] 2)).grownBy w4 (some w.heap.size) := hg4; have hb4 : Below w.heap.size w w4 := (bone w (.cells #[] 2)).grown hg5 (by simp) (by simp); obtain ⟨z0, z1, z2, z3⟩ := HBB.out w4 hb4; obtain ⟨z4, z5⟩ := z3 (.slice A4 n c4); have HO := Lib.hid hown4; clear hown4 hg4 z3 hlit hr1)
    | fail)
  go_ret
  refine ⟨rfl, ?_⟩
  have := HH.out.1.undone HH.out.2.1 (w2 := w4) (An := A4) (cn := c4) (k := k) (D := D) hb4 (by rw [HN.out]; exact HO.out) HH.out.2.2
  rw [HN.out] at this
  exact this
theorem ref_undo_out (h : RX gx H C R w) {k : Int} (hk : ¬ (0 ≤ k ∧ k < R.length)) :
    Calls Try.prog 29 #[.pointer (some ⟨gx, 0, none⟩), .int .i64 k] w fun e w' => e = .returned (.bool false) ∧ w = w' := by
  obtain ⟨AC, cC, A, c, hh, _, _⟩ := h.heads
  obtain ⟨_, x1⟩ := hh w (Below.refl _ _)
  clear hh h
  go_enter Try.func29, Try.ntmps29
  by_cases h0 : k < 0
  · go_wp2_with fail
    go_ret
    exact ⟨rfl, rfl⟩
  · have h1 : (R.length : Int) ≤ k := by omega
    go_wp2_with fail
    go_ret
    exact ⟨rfl, rfl⟩
theorem ref_forget (h : RX gx H C R w) {k : Nat} (hk : k < R.length) :
    Calls Try.prog 30 #[.pointer (some ⟨gx, 0, none⟩), .int .i64 k] w fun e w' => e = .returned (.bool true) ∧ RXO w gx H C (R.take k) w' := by
  obtain ⟨AC, cC, A, c, hb⟩ := h.blk
  have HF := Lib.hid (h.forgot hb (Nat.le_of_lt hk))
  obtain ⟨_, _, _, h2, _⟩ := h.parts hb
  have hcap := own_cap h2
  have x2 := hb.frozen 1
  have x1 : w.cell? ⟨gx, 1, none⟩ = some (.slice A R.length c) := hb.cell 1
  obtain ⟨r, hr⟩ : ∃ r, R.length = r := ⟨_, rfl⟩
  rw [hr] at x1 hk hcap
  have kI : (0 : Int) ≤ (k : Int) := Int.natCast_nonneg _
  have kr : (k : Int) < (r : Int) := by omega
  have krB : decide (r ≤ k) = false := decide_eq_false (by omega)
  have kc : (k : Int) ≤ (c : Int) := by omega
  clear h hb h2 hr
  go_enter Try.func30, Try.ntmps30
  go_wp2_with fail
  go_ret
  exact ⟨rfl, HF.out⟩
theorem ref_forget_out (h : RX gx H C R w) {k : Int} (hk : ¬ (0 ≤ k ∧ k < R.length)) :
    Calls Try.prog 30 #[.pointer (some ⟨gx, 0, none⟩), .int .i64 k] w fun e w' => e = .returned (.bool false) ∧ w = w' := by
  obtain ⟨AC, cC, A, c, hh, _, _⟩ := h.heads
  obtain ⟨_, x1⟩ := hh w (Below.refl _ _)
  clear hh h
  go_enter Try.func30, Try.ntmps30
  by_cases h0 : k < 0
  · go_wp2_with fail
    go_ret
    exact ⟨rfl, rfl⟩
  · have h1 : (R.length : Int) ≤ k := by omega
    go_wp2_with fail
    go_ret
    exact ⟨rfl, rfl⟩
end Go.Proofs.Ytgojncgdmcpkiaa.trl
