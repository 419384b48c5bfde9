/- A queue beside a map of the same numbers; pairs of bytes that came in. -/
import Derived.Test.YthjfboecdhlnfaaQuAct
import Derived.Maps.OwnSet
import Derived.Laws.IdiomArrays
namespace Go.Proofs.Ythjfboecdhlnfaa.que
open Go Go.RowKit Go.ChangeShapes Go.WideShapes Go.ChangeAt Go.Maps Go.Proofs.Ythjfboecdhlnfaa.words
set_option linter.unusedVariables false
section
variable {H : Type} {enc : TypeId × Value → H} {P : Program} {w : World} {base : Nat} {spare : Nat → Bool} {held : Bool}
theorem trod_array2 {t e : TypeId} {fuel : Nat} {c0 c1 : Value} {x : DataW H × List MemPlace} (ht : P.underlying t = some (.array 2 e)) (hce : P.cellsOf e = 1)
    (h : DataW.trod enc P w base spare held fuel t [c0, c1] = some x) :
    ∃ y0 y1 n, DataW.trod enc P w base spare held n e [c0] = some y0 ∧ DataW.trod enc P w base spare held n e [c1] = some y1 := by
  cases fuel with
  | zero => simp [DataW.trod] at h
  | succ n =>
    unfold DataW.trod at h
    rw [ht] at h
    have r2 : List.range 2 = [0, 1] := rfl
    simp [r2, hce] at h
    obtain ⟨_, h⟩ := h
    cases h0 : DataW.trod enc P w base spare held n e [c0] with
    | none => simp [h0] at h
    | some y0 =>
      cases h1 : DataW.trod enc P w base spare held n e [c1] with
      | none => simp [h0, h1] at h
      | some y1 => exact ⟨y0, y1, n, h0, h1⟩
theorem trod_array_len {t e : TypeId} {m fuel : Nat} {cs : List Value} {x : DataW H × List MemPlace} (ht : P.underlying t = some (.array m e)) 
    (h : DataW.trod enc P w base spare held fuel t cs = some x) : cs.length = P.cellsOf t := by
  cases fuel with
  | zero => simp [DataW.trod] at h
  | succ n =>
    unfold DataW.trod at h
    rw [ht] at h
    by_cases hl : cs.length = P.cellsOf t
    · exact hl
    · simp [hl] at h
end
abbrev PairT := Int × Int
def pairV (a : PairT) : List Value := [.int .u8 a.1, .int .u8 a.2]
def pairQ (a : PairT) : Prop := (Lit.int .u8 a.1).wf = true ∧ (Lit.int .u8 a.2).wf = true
theorem dec_pair {H : Type} {enc : TypeId × Value → H} {W : World} {spare : Nat → Bool} {held : Bool} (n : Nat) (cs : List Value) (y : DataW H × List MemPlace) (h : DataW.trod enc Try.prog W 0 spare held n 28 cs = some y) : ∃ x : PairT, cs = pairV x ∧ pairQ x := by
  have hc : Try.prog.cellsOf 28 = 2 := by kernel_rfl
  have c5 : Try.prog.cellsOf 5 = 1 := by kernel_rfl
  have hl := trod_array_len Try.underlying28 h
  rw [hc] at hl
  match cs, hl, h with
  | [a, b], _, h =>
    obtain ⟨y0, y1, m, h0, h1⟩ := trod_array2 Try.underlying28 c5 h
    obtain ⟨x0, e0, q0⟩ := dec_int Try.underlying5 _ _ _ h0
    obtain ⟨x1, e1, q1⟩ := dec_int Try.underlying5 _ _ _ h1
    simp at e0 e1
    subst e0; subst e1
    exact ⟨(x0, x1), rfl, q0, q1⟩
/-- without x there are as many less one, if x was there -/
theorem cut_len {N : Nat} {x : Int} {L : List It} (hv : Val N L) : (L.filter fun a => decide (a.2 ≠ x)).length + (if inQ L x = true then 1 else 0) = L.length := by
  have hn := hv.nd
  clear hv
  induction L with
  | nil => rfl
  | cons b L ih =>
    rw [List.map_cons, List.nodup_cons] at hn
    have ih := ih hn.2
    by_cases hb : b.2 = x
    · have e : L.filter (fun a => decide (a.2 ≠ x)) = L := List.filter_eq_self.2 fun a ha => by
        have : a.2 ≠ x := fun e => hn.1 (List.mem_map.2 ⟨a, ha, e.trans hb.symm⟩)
        simpa using this
      rw [List.filter_cons_of_neg (by simp [hb]), e, if_pos ((inQ_iff _ _).2 ⟨b, by simp, hb⟩)]; rfl
    · have e : inQ (b :: L) x = inQ L x := by
        rw [Bool.eq_iff_iff, inQ_iff, inQ_iff]
        constructor
        · rintro ⟨a, ha, he⟩
          rcases List.mem_cons.1 ha with rfl | ha
          · exact absurd he hb
          · exact ⟨a, ha, he⟩
        · rintro ⟨a, ha, he⟩; exact ⟨a, List.mem_cons_of_mem _ ha, he⟩
      rw [List.filter_cons_of_pos (by simp [hb]), e, List.length_cons, List.length_cons]; omega
theorem inQ_cut (L : List It) (x y : Int) : inQ (L.filter fun a => decide (a.2 ≠ x)) y = (inQ L y && decide (y ≠ x)) := by
  rw [Bool.eq_iff_iff, inQ_iff, Bool.and_eq_true, inQ_iff, decide_eq_true_eq]
  constructor
  · rintro ⟨a, ha, rfl⟩
    have := List.mem_filter.1 ha
    exact ⟨⟨a, this.1, rfl⟩, by simpa using this.2⟩
  · rintro ⟨⟨a, ha, rfl⟩, h⟩
    exact ⟨a, List.mem_filter.2 ⟨ha, by simpa using h⟩, rfl⟩
/-- the map says what the list says -/
def Same (D : DataW Unit) (L : List It) : Prop :=
  (∀ x : Int, Maps.has D (.int .i64 x) = inQ L x) ∧ (∀ a ∈ L, ∀ z, D.atKey (.int .i64 a.2) z = .lit (.int .i64 a.1)) ∧ Maps.size D = L.length
theorem same_empty : Same (.map []) [] := ⟨fun x => rfl, fun a ha => (by cases ha), rfl⟩
theorem lit_ne {x y : Int} (h : y ≠ x) : Lit.int .i64 y ≠ Lit.int .i64 x := fun e => h (by injection e)
theorem same_del {D : DataW Unit} {L : List It} {N : Nat} (h : Same D L) (hv : Val N L) (ht : Tidy D) (x : Int) : Same (D.del (.int .i64 x)) (L.filter fun a => decide (a.2 ≠ x)) := by
  refine ⟨fun y => ?_, fun a ha z => ?_, ?_⟩
  · rw [inQ_cut]
    by_cases e : y = x
    · subst e; rw [has_del_same]; simp
    · rw [has_del_other (lit_ne e), h.1]; simp [e]
  · have hm := List.mem_filter.1 ha
    rw [atKey_del_other (lit_ne (by simpa using hm.2))]
    exact h.2.1 a hm.1 z
  · have e1 := size_del (k := .int .i64 x) ht
    have e2 := cut_len (x := x) hv
    rw [h.1] at e1
    rw [h.2.2] at e1
    split at e1 <;> split at e2 <;> first | omega | (exfalso; simp_all)
theorem same_put {D : DataW Unit} {L : List It} {N : Nat} (h : Same D L) (hv : Val N L) (ht : Tidy D) (x p : Int) : Same (D.put (.int .i64 x) (.lit (.int .i64 p))) ((p, x) :: L.filter fun a => decide (a.2 ≠ x)) := by
  have hk : WideAt.IsKeyLit (.int .i64 x) := trivial
  refine ⟨fun y => ?_, fun a ha z => ?_, ?_⟩
  · have e0 : inQ ((p, x) :: L.filter fun a => decide (a.2 ≠ x)) y = (decide (x = y) || inQ (L.filter fun a => decide (a.2 ≠ x)) y) := rfl
    rw [e0, inQ_cut]
    by_cases e : y = x
    · subst e; rw [has_put_same ht.isMap hk]; simp
    · have e' : ¬ x = y := fun h => e h.symm
      rw [has_put_other (lit_ne e), h.1]; simp [e, e']
  · rcases List.mem_cons.1 ha with rfl | ha
    · exact atKey_put_same ht.isMap hk _ _
    · have hm := List.mem_filter.1 ha
      rw [atKey_put_other (lit_ne (by simpa using hm.2))]
      exact h.2.1 a hm.1 z
  · have e2 := cut_len (x := x) hv
    rw [size_put ht, h.1, h.2.2, List.length_cons]
    split <;> split at e2 <;> first | omega | (exfalso; simp_all)
theorem blk_map {w : World} {b : Nat} {es : Array MapEntry} {clock : Nat} {t : TypeId} {cs : Array Value} (h : w.heap[b]? = some (.map es clock)) (h' : Blk w b t cs) : False := by
  unfold Blk at h'; rw [h] at h'; cases h'
theorem own_map {w : World} {b base : Nat} {es : Array MapEntry} {clock : Nat} {e : TypeId} {s n : Nat} {v : Value} {xs : List Value} (h : w.heap[b]? = some (.map es clock)) (h' : w.ownsRow base e s v n xs) : v.ownBlock ≠ some b := by
  intro hk
  rcases h'.2 with ⟨rfl, _⟩ | ⟨g, cap, cur, rfl, _, hh, _⟩
  · cases hk
  · have : g = b := by simpa [Value.ownBlock] using hk
    subst this; exact blk_map h hh
theorem QL.offmap {w : World} {g b : Nat} {F : Nat → Prop} {N : Nat} {L : List It} {es : Array MapEntry} {clock : Nat} (h : QL w g F N L) (hb : w.heap[b]? = some (.map es clock)) :
    QL w g (fun k => F k ∧ k ≠ b ∧ ∀ cs, ¬ Blk w k 28 cs) N L := by
  obtain ⟨H, ⟨hg, A1, c1, A2, c2, hq, h1, f1, h2, f2⟩, p, c, d⟩ := h
  have typ : ∀ {t t' : TypeId} {k : Nat} {cs cs' : Array Value}, Blk w k t cs → Blk w k t' cs' → t = t' := fun h h' => by
    unfold Blk at h h'; rw [h] at h'; injection h' with h'; injection h'
  refine ⟨H, ⟨⟨hg, fun e => ?_, fun cs hc => absurd (typ hc hq) (by decide)⟩, A1, c1, A2, c2, hq, h1, fun k hk => ⟨f1 k hk, fun e => ?_, fun cs hc => own_blk_ne h1 hc (by decide) hk⟩, h2, fun k hk => ⟨f2 k hk, fun e => ?_, fun cs hc => own_blk_ne h2 hc (by decide) hk⟩⟩, p, c, d⟩
  · subst e; exact blk_map hb hq
  · subst e; exact own_map hb h1 hk
  · subst e; exact own_map hb h2 hk
abbrev Mp (w : World) (b k : Nat) (D : DataW Unit) : Prop := w.ownsMap Try.prog 3 (plainElem Try.prog 2) b k D
theorem mp_tch {w w' : World} {b k : Nat} {D : DataW Unit} {F : Nat → Prop} (h : Mp w b k D) (ht : Tch w w' F) (hn : ¬ F b) : Mp w' b k D := by
  have hlt := h.lt
  obtain ⟨es, clock, hb, r⟩ := h
  exact ⟨es, clock, (ht.block b hlt hn).trans hb, r⟩
/-- the queue g and the map b, all new since w0 -/
def On (w0 : World) (g b k : Nat) (L : List It) (D : DataW Unit) (w : World) : Prop := QB w g w0.heap.size 16 L ∧ Mp w b k D ∧ w0.heap.size ≤ b ∧ Below w0.heap.size w0 w
def KeepP (w w' : World) : Prop := ∀ b cs, Blk w b 28 cs → Blk w' b 28 cs
variable {w0 w : World} {g b k : Nat} {L : List It} {D : DataW Unit}
theorem On.step (h : On w0 g b k L D w) : ∃ F, QL w g F 16 L ∧ ∀ w' L', QL w' g (fun i => F i ∨ w.heap.size ≤ i) 16 L' → Tch w w' F → On w0 g b k L' D w' ∧ KeepP w w' := by
  obtain ⟨hq, hm, hb, hB⟩ := h
  obtain ⟨es, clock, he, _⟩ := id hm
  refine ⟨_, hq.offmap he, fun w' L' hq' ht => ⟨⟨hq'.mono fun i hi => ?_, mp_tch hm ht fun h => h.2.1 rfl, hb, ?_⟩, fun i cs hc => ht.blk hc fun h => h.2.2 cs hc⟩⟩
  · rcases hi with hi | hi
    · exact hi.1
    · exact Nat.le_trans hB.size hi
  · exact hB.trans (ht.below hB.size fun i hi h => by have := h.1; omega)
theorem On.below {w' : World} (h : On w0 g b k L D w) (hb : Below w.heap.size w w') : On w0 g b k L D w' :=
  ⟨h.1.below hb, mp_tch h.2.1 (Tch.of_below hb (fun _ => False)) id, h.2.2.1, bto h.2.2.2 hb⟩
theorem On.mono {k' : Nat} (h : On w0 g b k L D w) (hk : k ≤ k') : On w0 g b k' L D w := ⟨h.1, h.2.1.mono hk, h.2.2⟩
theorem On.turn {w' : World} {k' : Nat} {D' : DataW Unit} (h : On w0 g b k L D w) (hm : Mp w' b k' D') (ht : w.grownBy w' (some b)) : On w0 g b k' L D' w' ∧ KeepP w w' := by
  have ht' : Tch w w' (fun i => i = b) := Tch.of_grown ht fun i _ e => by injection e
  obtain ⟨hq, hm0, hb, hB⟩ := h
  obtain ⟨es, clock, he, _⟩ := id hm0
  refine ⟨⟨((hq.offmap he).keep ht' fun i hi e => hi.2.1 e).mono fun i hi => hi.1, hm, hb, ?_⟩, fun i cs hc => ht'.blk hc fun e => ?_⟩
  · exact hB.trans (ht'.below hB.size fun i hi e => by omega)
  · subst e; exact blk_map he hc
theorem On.tidy (h : On w0 g b k L D w) : Tidy D := h.2.1.tidy (int_keyed Try.underlying3)
theorem on_len (h : On w0 g b k L D w) : Calls Try.prog 12 #[.pointer (some ⟨g, 0, none⟩)] w fun e w' => e = .returned (.int .i64 L.length) ∧ w = w' := ql_len h.1
theorem on_push (h : On w0 g b k L D w) (x : Nat) (p : Int) (hx : x < 16) (hlen : L.length < 999999) :
    Calls Try.prog 10 #[.pointer (some ⟨g, 0, none⟩), .int .i64 x, .int .i64 p] w fun e w' => e = .returned (.int .i64 0) ∧ On w0 g b k ((p, (x : Int)) :: L.filter fun a => decide (a.2 ≠ (x : Int))) D w' ∧ KeepP w w' := by
  obtain ⟨F, hq, hs⟩ := h.step
  exact (ql_push hq x p hx hlen).mono fun e w' ⟨h1, h2, h3⟩ => ⟨h1, hs w' _ h2 h3⟩
theorem on_pop (h : On w0 g b k L D w) {m : It} (hm : Most L m) (hlen : L.length < 1000000) :
    Calls Try.prog 13 #[.pointer (some ⟨g, 0, none⟩)] w fun e w' => e = .returned (.tuple #[.int .i64 m.2, .int .i64 m.1, .bool true]) ∧ On w0 g b k (L.filter fun a => decide (a.2 ≠ m.2)) D w' ∧ KeepP w w' := by
  obtain ⟨F, hq, hs⟩ := h.step
  exact (ql_pop hq hm hlen).mono fun e w' ⟨h1, h2, h3⟩ => ⟨h1, hs w' _ (h2.mono fun k hk => .inl hk) h3⟩
theorem on_drop (h : On w0 g b k L D w) (x : Int) (hlen : L.length < 1000000) :
    Calls Try.prog 11 #[.pointer (some ⟨g, 0, none⟩), .int .i64 x] w fun e w' => e = .returned (.bool (inQ L x)) ∧ On w0 g b k (L.filter fun a => decide (a.2 ≠ x)) D w' ∧ KeepP w w' := by
  cases hx : inQ L x with
  | true =>
    obtain ⟨F, hq, hs⟩ := h.step
    exact (ql_drop hq x hx hlen).mono fun e w' ⟨h1, h2, h3⟩ => ⟨h1, hs w' _ (h2.mono fun k hk => .inl hk) h3⟩
  | false =>
    have e : L.filter (fun a => decide (a.2 ≠ x)) = L := List.filter_eq_self.2 fun a ha => by
      simp only [decide_eq_true_eq]
      intro he
      have := (inQ_iff L x).2 ⟨a, ha, he⟩
      rw [hx] at this; cases this
    rw [e]
    exact (ql_drop_none h.1 x (by omega) hx).mono fun e w' ⟨h1, h2⟩ => ⟨h1, h2 ▸ h, h2 ▸ fun _ _ h => h⟩
theorem on_most : ∀ (L : List It), L ≠ [] → ∃ m, Most L m
  | [], h => absurd rfl h
  | [a], _ => ⟨a, by simp, fun b hb => by simp at hb; subst hb; exact lt_irrefl _⟩
  | a :: b :: L, _ => by
    obtain ⟨m, h1, h2⟩ := on_most (b :: L) (by simp)
    by_cases hl : lt a m
    · refine ⟨a, by simp, fun c hc => ?_⟩
      rcases List.mem_cons.1 hc with rfl | hc
      · exact lt_irrefl _
      · exact le_trans (lt_asymm hl) (h2 c hc)
    · refine ⟨m, List.mem_cons_of_mem _ h1, fun c hc => ?_⟩
      rcases List.mem_cons.1 hc with rfl | hc
      · exact hl
      · exact h2 c hc
theorem lawK : Keyed Try.prog 3 := int_keyed Try.underlying3
theorem zeroE (w : World) : (zeroValue 2).run Try.prog w = .ok (.int .i64 0) w := by kernel_rfl
theorem look_member (w : World) {ops : Array Oper} {rest : List Oper} {o : Oper} {a : Act} {Q : Exit → Act → World → Prop} (hg : o.guard = none) (m x : Operand) (hop : o.op = Op.lookup 27 m x true)
    {b n : Nat} {D : DataW Unit} {L : List It} (hm : a.eval m = .map (some b)) (hown : Mp w b n D) (hs : Same D L) (it : It) (hmem : it ∈ L) (hw : (Lit.int .i64 it.2).wf = true) (hx : a.eval x = .int .i64 it.2)
    (hK : wpList Try.prog ops Q rest (a.put o.dst (.tuple #[.int .i64 it.1, .bool true])) w) : wpList Try.prog ops Q (o :: rest) a w := by
  refine wpList_lookup_own_ok_int w hg m x _ hop _ _ .i64 lawK Try.underlying27 Try.underlying2 (zeroE w) b n D hm hown _ _ hx (keyOf_int_mk Try.underlying3 hw) fun c hat hwc => ?_
  have h1 := hs.2.1 it hmem (.lit (.int .i64 0))
  rw [hat] at h1
  have h2 : c = it.1 := by injection h1 with h1; injection h1
  have h3 : Maps.has D (.int .i64 it.2) = true := by rw [hs.1]; exact (inQ_iff _ _).2 ⟨it, hmem, rfl⟩
  rw [h2, h3]; exact hK
theorem look_any (w : World) {ops : Array Oper} {rest : List Oper} {o : Oper} {a : Act} {Q : Exit → Act → World → Prop} (hg : o.guard = none) (m x : Operand) (hop : o.op = Op.lookup 27 m x true)
    {b n : Nat} {D : DataW Unit} {L : List It} (hm : a.eval m = .map (some b)) (hown : Mp w b n D) (hs : Same D L) (y : Int) (bq : Bool) (hbq : inQ L y = bq) (hw : (Lit.int .i64 y).wf = true) (hx : a.eval x = .int .i64 y)
    (hK : ∀ c : Int, wpList Try.prog ops Q rest (a.put o.dst (.tuple #[.int .i64 c, .bool bq])) w) : wpList Try.prog ops Q (o :: rest) a w := by
  refine wpList_lookup_own_ok_int w hg m x _ hop _ _ .i64 lawK Try.underlying27 Try.underlying2 (zeroE w) b n D hm hown _ _ hx (keyOf_int_mk Try.underlying3 hw) fun c hat hwc => ?_
  rw [hs.1, hbq]; exact hK c
theorem look_len (w : World) {ops : Array Oper} {rest : List Oper} {o : Oper} {a : Act} {Q : Exit → Act → World → Prop} (hg : o.guard = none) (m : Operand) (hop : o.op = Op.call { callee := Callee.builtin Builtin.len, args := #[m], argTypes := #[27] })
    {b n nl : Nat} {D : DataW Unit} (hm : a.eval m = .map (some b)) (hown : Mp w b n D) (hs : Maps.size D = nl)
    (hK : wpList Try.prog ops Q rest (a.put o.dst (.int .i64 (nl : Int))) w) : wpList Try.prog ops Q (o :: rest) a w := by
  refine wpList_len_own w hg m _ hop _ _ Try.underlying27 _ b n D hm hown ?_
  rw [hs]; exact hK
theorem blk_two {w : World} {g : Nat} {t : TypeId} {a b : Value} (h : Blk w g t #[a, b]) : w.cell? ⟨g, 0, none⟩ = some a ∧ w.cell? ⟨g, 1, none⟩ = some b := ⟨h.cell 0, h.cell 1⟩
end Go.Proofs.Ythjfboecdhlnfaa.que
