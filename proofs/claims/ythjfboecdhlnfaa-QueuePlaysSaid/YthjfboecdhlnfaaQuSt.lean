/- The queue beside the document's row: what each call of the script leaves. -/
import Derived.Test.YthjfboecdhlnfaaQuAct
import Derived.Test.YthjfboecdhlnfaaQuClear
namespace Go.Proofs.Ythjfboecdhlnfaa.que
open Go Go.RowKit Go.ChangeShapes Go.WideShapes Go.ChangeAt Go.Proofs.Ythjfboecdhlnfaa.words
set_option linter.unusedVariables false
theorem blk_typ {w : World} {g : Nat} {t t' : TypeId} {cs cs' : Array Value} (h : Blk w g t cs) (h' : Blk w g t' cs') : t = t' := by
  unfold Blk at h h'; rw [h] at h'; injection h' with h'; injection h'
theorem own_own_ne {w : World} {b b' s s' n n' : Nat} {e e' : TypeId} {v v' : Value} {xs ys : List Value} (h : w.ownsRow b e s v n xs) (h' : w.ownsRow b' e' s' v' n' ys) (hne : e ≠ e') {k : Nat} (hk : v.ownBlock = some k) : v'.ownBlock ≠ some k := by
  rcases h.2 with ⟨rfl, _⟩ | ⟨g, cap, cur, rfl, _, hh, _⟩
  · simp [Value.ownBlock] at hk
  · have : g = k := by simpa [Value.ownBlock] using hk
    subst this
    exact own_blk_ne h' hh fun e => hne e.symm
theorem QL.apart {w : World} {g B n : Nat} {F : Nat → Prop} {N : Nat} {L : List It} {v : Value} {xs : List Value} (h : QL w g F N L) (ho : w.ownsRow B 48 2 v n xs) :
    QL w g (fun k => F k ∧ v.ownBlock ≠ some k ∧ ∀ cs, ¬ Blk w k 45 cs) N L := by
  obtain ⟨H, ⟨hg, A1, c1, A2, c2, hb, h1, f1, h2, f2⟩, b, c, d⟩ := h
  refine ⟨H, ⟨⟨hg, own_blk_ne ho hb (by decide), fun cs hc => absurd (blk_typ hc hb) (by decide)⟩, A1, c1, A2, c2, hb, h1, fun k hk => ⟨f1 k hk, own_own_ne h1 ho (by decide) hk, fun cs hc => own_blk_ne h1 hc (by decide) hk⟩, h2, fun k hk => ⟨f2 k hk, own_own_ne h2 ho (by decide) hk, fun cs hc => own_blk_ne h2 hc (by decide) hk⟩⟩, b, c, d⟩
/-- the queue holds Lq, the document's row Lr; all of it is newer than w0 -/
def St (w0 : World) (g N : Nat) (Lq Lr : List It) (A : Option Addr) (c : Nat) (w : World) : Prop :=
  QB w g w0.heap.size N Lq ∧ w.ownsRow w0.heap.size 48 2 (.slice A Lr.length c) Lr.length (flatR Lr) ∧ Below w0.heap.size w0 w
/-- the boxes of a call stand -/
def Keep (w w' : World) : Prop := ∀ b cs, Blk w b 45 cs → Blk w' b 45 cs
theorem Keep.of_below {w w' : World} (h : Below w.heap.size w w') : Keep w w' := fun b cs hb => hb.under h
variable {w0 : World} {g N c : Nat} {Lq Lr : List It} {A : Option Addr} {w : World}
theorem St.below {w' : World} (h : St w0 g N Lq Lr A c w) (hb : Below w.heap.size w w') : St w0 g N Lq Lr A c w' :=
  ⟨h.1.below hb, own_under h.2.1 hb, bto h.2.2 hb⟩
theorem St.perm {Lq' : List It} (h : St w0 g N Lq Lr A c w) (hp : Lq.Perm Lq') : St w0 g N Lq' Lr A c w := ⟨h.1.perm hp, h.2.1, h.2.2⟩
theorem St.step (h : St w0 g N Lq Lr A c w) : ∃ F, QL w g F N Lq ∧ ∀ w' Lq', QL w' g (fun k => F k ∨ w.heap.size ≤ k) N Lq' → Tch w w' F → St w0 g N Lq' Lr A c w' ∧ Keep w w' := by
  obtain ⟨hq, ho, hB⟩ := h
  refine ⟨_, hq.apart ho, fun w' Lq' hq' ht => ⟨⟨hq'.mono fun k hk => ?_, ht.own ho fun k hk h => h.2.1 hk, ?_⟩, fun b cs hb => ht.blk hb fun h => h.2.2 cs hb⟩⟩
  · rcases hk with hk | hk
    · exact hk.1
    · exact Nat.le_trans hB.size hk
  · exact hB.trans (ht.below hB.size fun i hi h => by have := h.1; omega)
theorem st_len (h : St w0 g N Lq Lr A c w) : Calls Try.prog 12 #[.pointer (some ⟨g, 0, none⟩)] w fun e w' => e = .returned (.int .i64 Lq.length) ∧ w = w' := ql_len h.1
theorem st_has (h : St w0 g N Lq Lr A c w) (x : Int) (hN : N ≤ 1000000) : Calls Try.prog 16 #[.pointer (some ⟨g, 0, none⟩), .int .i64 x] w fun e w' => e = .returned (.bool (inQ Lq x)) ∧ w = w' := ql_has h.1 x hN
theorem st_contains (h : St w0 g N Lq Lr A c w) (hn : Lr.length ≤ 1000) {b : Nat} {x : Int} (hx : w.cell? ⟨b, 0, none⟩ = some (.int .i64 x)) (hb : b < w.heap.size) :
    Calls Try.prog 20 #[.slice A Lr.length c, .func (.func 21) #[] #[.pointer (some ⟨b, 0, none⟩)]] w fun e w' => e = .returned (.bool (inQ Lr x)) ∧ Below w.heap.size w w' :=
  contains_it w _ _ c b A Lr x h.2.1 hn hx hb
theorem st_push (h : St w0 g N Lq Lr A c w) (x : Nat) (p : Int) (hx : x < N) (hlen : Lq.length < 999999) :
    Calls Try.prog 10 #[.pointer (some ⟨g, 0, none⟩), .int .i64 x, .int .i64 p] w fun e w' => e = .returned (.int .i64 0) ∧ St w0 g N ((p, (x : Int)) :: Lq.filter fun a => decide (a.2 ≠ (x : Int))) Lr A c w' ∧ Keep w w' := by
  obtain ⟨F, hq, hs⟩ := h.step
  exact (ql_push hq x p hx hlen).mono fun e w' ⟨h1, h2, h3⟩ => ⟨h1, hs w' _ h2 h3⟩
theorem st_push_out (h : St w0 g N Lq Lr A c w) (x p : Int) (hN : N ≤ 1000000) (hx : x < 0 ∨ (N : Int) ≤ x) :
    Calls Try.prog 10 #[.pointer (some ⟨g, 0, none⟩), .int .i64 x, .int .i64 p] w fun e w' => e = .returned (.int .i64 3) ∧ w = w' := by
  obtain ⟨H, a, b, c, d⟩ := h.1
  exact push_out w g N x p _ H a hN hx
/-- the queue's first is the list's best -/
theorem st_best (h : St w0 g N Lq Lr A c w) {m : It} (hm : Most Lq m) {b : Int} (hb : Best Lq Lq.length b) : ∃ t : Nat, t < Lq.length ∧ b = t ∧ Lq[t]? = some m := by
  rcases hb.most with ⟨rfl, _⟩ | ⟨t, m', ht, rfl, hget, hm'⟩
  · cases hm.1
  · exact ⟨t, ht, rfl, by rw [hget, Most.uniq h.1.val hm' hm]⟩
theorem st_best_none {b : Int} (hb : Best ([] : List It) 0 b) : b = -1 := by
  rcases hb.most with ⟨_, rfl⟩ | ⟨t, m, ht, _⟩
  · rfl
  · exact absurd ht (by simp)
theorem most_ex : ∀ (L : List It), L ≠ [] → ∃ m, Most L m
  | [], h => absurd rfl h
  | [a], _ => ⟨a, by simp, fun b hb => by simp at hb; subst hb; exact lt_irrefl _⟩
  | a :: b :: L, _ => by
    obtain ⟨m, h1, h2⟩ := most_ex (b :: L) (by simp)
    by_cases hl : lt a m
    · refine ⟨a, by simp, fun c hc => ?_⟩
      rcases List.mem_cons.1 hc with rfl | hc
      · exact lt_irrefl _
      · exact le_trans (lt_asymm hl) (h2 c hc)
    · refine ⟨m, List.mem_cons_of_mem _ h1, fun c hc => ?_⟩
      rcases List.mem_cons.1 hc with rfl | hc
      · exact hl
      · exact h2 c hc
theorem st_row_at (h : St w0 g N Lq Lr A c w) {t : Nat} {m : It} (ht : Lr[t]? = some m) : ∃ g', A = some ⟨g', 0, none⟩ ∧ w.cell? ⟨g', t * 2, none⟩ = some (.int .i64 m.2) ∧ w.cell? ⟨g', t * 2 + 1, none⟩ = some (.int .i64 m.1) := by
  have hlt : t < Lr.length := (List.getElem?_eq_some_iff.1 ht).1
  obtain ⟨g', rfl, _, _⟩ := own_some h.2.1 (by omega)
  exact ⟨g', rfl, (h.2.1.cellAt (t * 2) (by omega)).trans (flatR_at ht).1, (h.2.1.cellAt (t * 2 + 1) (by omega)).trans (flatR_at ht).2⟩
theorem st_append_own {L : List It} {A' : Option Addr} {c' k : Nat} {a : It} {w' : World} (h : w'.ownsRow w0.heap.size 48 2 (.slice A' k c') k (flatR L ++ [.int .i64 a.2, .int .i64 a.1])) (hk : k = L.length + 1) :
    w'.ownsRow w0.heap.size 48 2 (.slice A' (L ++ [a]).length c') (L ++ [a]).length (flatR (L ++ [a])) := by
  subst hk
  rw [flatR_snoc, List.length_append, List.length_singleton]; exact h
theorem st_pop (h : St w0 g N Lq Lr A c w) {m : It} (hm : Most Lq m) (hlen : Lq.length < 1000000) :
    Calls Try.prog 13 #[.pointer (some ⟨g, 0, none⟩)] w fun e w' => e = .returned (.tuple #[.int .i64 m.2, .int .i64 m.1, .bool true]) ∧ St w0 g N (Lq.filter fun a => decide (a.2 ≠ m.2)) Lr A c w' ∧ Keep w w' := by
  obtain ⟨F, hq, hs⟩ := h.step
  exact (ql_pop hq hm hlen).mono fun e w' ⟨h1, h2, h3⟩ => ⟨h1, hs w' _ (h2.mono fun k hk => .inl hk) h3⟩
theorem st_pop_none (h : St w0 g N [] Lr A c w) :
    Calls Try.prog 13 #[.pointer (some ⟨g, 0, none⟩)] w fun e w' => e = .returned (.tuple #[.int .i64 0, .int .i64 0, .bool false]) ∧ St w0 g N [] Lr A c w' ∧ Keep w w' :=
  (ql_pop_none h.1).mono fun e w' ⟨h1, h2⟩ => ⟨h1, h.below h2, Keep.of_below h2⟩
theorem st_top (h : St w0 g N Lq Lr A c w) {m : It} (hm : Most Lq m) (hlen : Lq.length < 1000000) :
    Calls Try.prog 15 #[.pointer (some ⟨g, 0, none⟩)] w fun e w' => e = .returned (.tuple #[.int .i64 m.2, .int .i64 m.1, .bool true]) ∧ St w0 g N Lq Lr A c w' ∧ Keep w w' :=
  (ql_top h.1 hm (by omega)).mono fun e w' ⟨h1, h2⟩ => ⟨h1, h.below h2, Keep.of_below h2⟩
theorem st_top_none (h : St w0 g N [] Lr A c w) :
    Calls Try.prog 15 #[.pointer (some ⟨g, 0, none⟩)] w fun e w' => e = .returned (.tuple #[.int .i64 0, .int .i64 0, .bool false]) ∧ St w0 g N [] Lr A c w' ∧ Keep w w' :=
  (ql_top_none h.1).mono fun e w' ⟨h1, h2⟩ => ⟨h1, h.below h2, Keep.of_below h2⟩
theorem st_drop (h : St w0 g N Lq Lr A c w) (x : Int) (hN : N ≤ 1000000) (hlen : Lq.length < 1000000) :
    Calls Try.prog 11 #[.pointer (some ⟨g, 0, none⟩), .int .i64 x] w fun e w' => e = .returned (.bool (inQ Lq x)) ∧ St w0 g N (Lq.filter fun a => decide (a.2 ≠ x)) Lr A c w' ∧ Keep w w' := by
  cases hx : inQ Lq x with
  | true =>
    obtain ⟨F, hq, hs⟩ := h.step
    exact (ql_drop hq x hx hlen).mono fun e w' ⟨h1, h2, h3⟩ => ⟨h1, hs w' _ (h2.mono fun k hk => .inl hk) h3⟩
  | false =>
    have e : Lq.filter (fun a => decide (a.2 ≠ x)) = Lq := List.filter_eq_self.2 fun a ha => by
      simp only [decide_eq_true_eq]
      intro he
      have := (inQ_iff Lq x).2 ⟨a, ha, he⟩
      rw [hx] at this; cases this
    rw [e]
    exact (ql_drop_none h.1 x hN hx).mono fun e w' ⟨h1, h2⟩ => ⟨h1, h2 ▸ h, h2 ▸ fun _ _ h => h⟩
theorem st_clear (h : St w0 g N Lq Lr A c w) (hlen : Lq.length ≤ 1000) :
    Calls Try.prog 14 #[.pointer (some ⟨g, 0, none⟩)] w fun e w' => e = .returned (.tuple #[]) ∧ St w0 g N [] Lr A c w' ∧ Keep w w' := by
  obtain ⟨F, hq, hs⟩ := h.step
  exact (ql_clear w g N F Lq hq hlen).mono fun e w' ⟨h1, h2, h3⟩ => ⟨h1, hs w' _ (h2.mono fun k hk => .inl hk) h3⟩
theorem st_none (h : St w0 g N Lq Lr A c w) : St w0 g N Lq [] none 0 w := ⟨h.1, by simpa [flatR] using World.ownsRow_nil w w0.heap.size 48 2, h.2.2⟩
theorem st_ref_top (h : St w0 g N Lq Lr A c w) (hn : Lr.length ≤ 1000) :
    Calls Try.prog 18 #[.slice A Lr.length c] w fun e w' => ∃ b : Int, e = .returned (.int .i64 b) ∧ Best Lr Lr.length b ∧ St w0 g N Lq Lr A c w' ∧ Keep w w' :=
  (ref_top w _ _ c A Lr h.2.1 hn).mono fun e w' ⟨b, h1, h2, h3⟩ => ⟨b, h1, h2, h.below h3, Keep.of_below h3⟩
theorem st_ref_drop (h : St w0 g N Lq Lr A c w) (hn : Lr.length ≤ 1000) (x : Int) :
    Calls Try.prog 19 #[.slice A Lr.length c, .int .i64 x] w fun e w' => ∃ A' c', e = .returned (.tuple #[.slice A' (Lr.filter fun a => decide (a.2 ≠ x)).length c', .bool (decide ((Lr.filter fun a => decide (a.2 ≠ x)).length < Lr.length))]) ∧ St w0 g N Lq (Lr.filter fun a => decide (a.2 ≠ x)) A' c' w' ∧ Keep w w' :=
  (ref_drop w _ _ c A Lr x h.2.1 hn).mono fun e w' ⟨⟨A', c', h1, h2⟩, h3⟩ => ⟨A', c', h1, ⟨h.1.below h3, own_base h2 h.2.2.size, bto h.2.2 h3⟩, Keep.of_below h3⟩
theorem St.grown {w' : World} {Lr' : List It} {A' : Option Addr} {c' : Nat} (h : St w0 g N Lq Lr A c w) (hg : w.grownBy w' (Value.slice A Lr.length c).ownBlock) (hown : w'.ownsRow w0.heap.size 48 2 (.slice A' Lr'.length c') Lr'.length (flatR Lr')) :
    St w0 g N Lq Lr' A' c' w' ∧ Keep w w' := by
  have ht : Tch w w' (fun k => (Value.slice A Lr.length c).ownBlock = some k) := Tch.of_grown hg fun i _ e => e.symm
  obtain ⟨hq, ho, hB⟩ := h
  refine ⟨⟨((hq.apart ho).keep ht fun k hk h => hk.2.1 h).mono fun k hk => hk.1, hown, ?_⟩, fun b cs hb => ht.blk hb (own_blk_ne ho hb (by decide))⟩
  exact hB.trans (ht.below hB.size fun i hi h => by have := (own_in ho h).1; omega)
theorem inQ_drop {L : List It} (x : Int) : decide ((L.filter fun a => decide (a.2 ≠ x)).length < L.length) = inQ L x := by
  rw [Bool.eq_iff_iff, inQ_iff, decide_eq_true_eq, List.length_filter_lt_length_iff_exists]
  constructor
  · rintro ⟨a, ha, he⟩; exact ⟨a, ha, by simpa using he⟩
  · rintro ⟨a, ha, he⟩; exact ⟨a, ha, by simpa using he⟩
end Go.Proofs.Ythjfboecdhlnfaa.que
