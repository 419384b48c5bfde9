/- A trail's cells, what they were, marks: plain. -/
import Derived.Test.YtgojncgdmcpkiaaNums
namespace Go.Proofs.Ytgojncgdmcpkiaa.trl
open Go Go.Proofs.Ytgojncgdmcpkiaa.words
set_option linter.unusedVariables false
/-- value, stamp -/
abbrev Cl := Int × Nat
/-- at, what it was -/
abbrev Ol := Nat × Cl
/-- how many olds, how many cells, stamp -/
abbrev Mk := Nat × Nat × Nat
def backs (cs : List Cl) (os : List Ol) : List Cl := os.foldr (fun o c => c.set o.1 o.2) cs
theorem backs_app (cs : List Cl) (a b : List Ol) : backs cs (a ++ b) = backs (backs cs b) a := by unfold backs; rw [List.foldr_append]
theorem backs_len (cs : List Cl) (os : List Ol) : (backs cs os).length = cs.length := by
  induction os with
  | nil => rfl
  | cons o os ih => show ((backs cs os).set o.1 o.2).length = _; rw [List.length_set, ih]
theorem backs_cons (cs : List Cl) (o : Ol) (os : List Ol) : backs cs (o :: os) = (backs cs os).set o.1 o.2 := rfl
theorem backs_out {cs : List Cl} {os : List Ol} {i : Nat} (h : ∀ o ∈ os, o.1 ≠ i) : (backs cs os)[i]? = cs[i]? := by
  induction os with
  | nil => rfl
  | cons o os ih =>
    rw [backs_cons, List.getElem?_set_ne (h o (by simp)), ih fun o' ho => h o' (by simp [ho])]
theorem backs_at {cs : List Cl} {os : List Ol} (hn : (os.map (·.1)).Nodup) {o : Ol} (ho : o ∈ os) (hl : o.1 < cs.length) : (backs cs os)[o.1]? = some o.2 := by
  induction os with
  | nil => cases ho
  | cons p os ih =>
    rw [List.map_cons, List.nodup_cons] at hn
    rw [backs_cons]
    rcases List.mem_cons.1 ho with rfl | ho
    · rw [List.getElem?_set_self (by rw [backs_len]; exact hl)]
    · rw [List.getElem?_set_ne (fun e => hn.1 (by rw [e]; exact List.mem_map_of_mem ho)), ih hn.2 ho]
/-- behind a mark: what the cells were, what was kept -/
structure Seg (st : Nat) (cs0 cs : List Cl) (seg : List Ol) : Prop where
  len : cs0.length ≤ cs.length
  nd : (seg.map (·.1)).Nodup
  here : ∀ o ∈ seg, cs0[o.1]? = some o.2 ∧ ∃ c, cs[o.1]? = some c ∧ st ≤ c.2
  out : ∀ i, i < cs0.length → (∀ o ∈ seg, o.1 ≠ i) → cs[i]? = cs0[i]?
  low : ∀ c ∈ cs0, c.2 < st
theorem get_lt {α : Type} {l : List α} {i : Nat} {a : α} (h : l[i]? = some a) : i < l.length := (List.getElem?_eq_some_iff.1 h).1
theorem Seg.lt {st : Nat} {cs0 cs : List Cl} {seg : List Ol} (h : Seg st cs0 cs seg) {o : Ol} (ho : o ∈ seg) : o.1 < cs0.length := get_lt (h.here o ho).1
theorem Seg.back {st : Nat} {cs0 cs : List Cl} {seg : List Ol} (h : Seg st cs0 cs seg) : (backs cs seg).take cs0.length = cs0 := by
  apply List.ext_getElem?
  intro i
  rcases Nat.lt_or_ge i cs0.length with hi | hi
  · rw [List.getElem?_take_of_lt hi]
    by_cases hx : ∃ o ∈ seg, o.1 = i
    · obtain ⟨o, ho, rfl⟩ := hx
      rw [backs_at h.nd ho (Nat.lt_of_lt_of_le (h.lt ho) h.len), (h.here o ho).1]
    · rw [backs_out fun o ho e => hx ⟨o, ho, e⟩]
      exact h.out i hi fun o ho e => hx ⟨o, ho, e⟩
  · rw [List.getElem?_eq_none (by rw [List.length_take]; omega), List.getElem?_eq_none hi]
/-- marks, the last first; cells; what was kept; what each mark saw -/
def Good : List Mk → List Cl → List Ol → List (List Int) → Prop
  | [], _, os, ss => os = [] ∧ ss = []
  | m :: ms, cs, os, ss => ∃ cs0 os0 seg ss0, os = os0 ++ seg ∧ ss = cs0.map (·.1) :: ss0 ∧ m.1 = os0.length ∧ m.2.1 = cs0.length ∧ Seg m.2.2 cs0 cs seg ∧ (∀ x ∈ ms, x.2.2 < m.2.2) ∧ Good ms cs0 os0 ss0
theorem Good.len {ms : List Mk} {cs : List Cl} {os : List Ol} {ss : List (List Int)} (h : Good ms cs os ss) : ss.length = ms.length := by
  induction ms generalizing cs os ss with
  | nil => rw [h.2]; rfl
  | cons m ms ih =>
    obtain ⟨cs0, os0, seg, ss0, rfl, rfl, _, _, _, _, h⟩ := h
    rw [List.length_cons, List.length_cons, ih h]
theorem Good.at_ {ms : List Mk} {cs : List Cl} {os : List Ol} {ss : List (List Int)} (h : Good ms cs os ss) : ∀ o ∈ os, o.1 < cs.length := by
  induction ms generalizing cs os ss with
  | nil => rw [h.1]; intro o ho; cases ho
  | cons m ms ih =>
    obtain ⟨cs0, os0, seg, ss0, rfl, rfl, _, _, hs, _, h⟩ := h
    intro o ho
    rcases List.mem_append.1 ho with ho | ho
    · exact Nat.lt_of_lt_of_le (ih h o ho) hs.len
    · exact Nat.lt_of_lt_of_le (hs.lt ho) hs.len
theorem Good.le {ms : List Mk} {cs : List Cl} {os : List Ol} {ss : List (List Int)} (h : Good ms cs os ss) : ∀ m ∈ ms, m.2.1 ≤ cs.length ∧ m.1 ≤ os.length := by
  induction ms generalizing cs os ss with
  | nil => intro m hm; cases hm
  | cons m ms ih =>
    obtain ⟨cs0, os0, seg, ss0, rfl, rfl, h1, h2, hs, _, h⟩ := h
    intro x hx
    rw [List.length_append]
    rcases List.mem_cons.1 hx with rfl | hx
    · exact ⟨by rw [h2]; exact hs.len, by omega⟩
    · have := ih h x hx
      have := hs.len
      omega
theorem Good.grow {ms : List Mk} {cs : List Cl} {os : List Ol} {ss : List (List Int)} (h : Good ms cs os ss) (zs : List Cl) : Good ms (cs ++ zs) os ss := by
  cases ms with
  | nil => exact h
  | cons m ms =>
    obtain ⟨cs0, os0, seg, ss0, rfl, rfl, h1, h2, hs, h3, h⟩ := h
    refine ⟨cs0, os0, seg, ss0, rfl, rfl, h1, h2, ⟨by rw [List.length_append]; have := hs.len; omega, hs.nd, fun o ho => ⟨(hs.here o ho).1, ?_⟩, fun i hi ho => ?_, hs.low⟩, h3, h⟩
    · obtain ⟨c, hc, hl⟩ := (hs.here o ho).2
      exact ⟨c, by rw [List.getElem?_append_left (get_lt hc)]; exact hc, hl⟩
    · rw [List.getElem?_append_left (Nat.lt_of_lt_of_le hi hs.len)]; exact hs.out i hi ho
theorem Good.mark {ms : List Mk} {cs : List Cl} {os : List Ol} {ss : List (List Int)} (h : Good ms cs os ss) (st : Nat) (h1 : ∀ c ∈ cs, c.2 < st) (h2 : ∀ x ∈ ms, x.2.2 < st) :
    Good ((os.length, cs.length, st) :: ms) cs os (cs.map (·.1) :: ss) :=
  ⟨cs, os, [], ss, by simp, rfl, rfl, rfl, ⟨Nat.le_refl _, by simp, fun o ho => (by cases ho), fun i _ _ => rfl, h1⟩, h2, h⟩
/-- a cell is set that is kept already, or need not be -/
theorem Good.set_old {ms : List Mk} {cs : List Cl} {os : List Ol} {ss : List (List Int)} (h : Good ms cs os ss) {i : Nat} {c : Cl} (hc : cs[i]? = some c) (v : Int)
    (hk : ∀ m ms', ms = m :: ms' → m.2.2 ≤ c.2 ∨ m.2.1 ≤ i) : Good ms (cs.set i (v, c.2)) os ss := by
  cases ms with
  | nil => exact h
  | cons m ms =>
    obtain ⟨cs0, os0, seg, ss0, rfl, rfl, h1, h2, hs, h3, h⟩ := h
    refine ⟨cs0, os0, seg, ss0, rfl, rfl, h1, h2, ⟨by rw [List.length_set]; exact hs.len, hs.nd, fun o ho => ⟨(hs.here o ho).1, ?_⟩, fun j hj ho => ?_, hs.low⟩, h3, h⟩
    · obtain ⟨c', hc', hl⟩ := (hs.here o ho).2
      by_cases e : i = o.1
      · subst e
        rw [hc] at hc'; cases hc'
        exact ⟨_, List.getElem?_set_self (get_lt hc), hl⟩
      · exact ⟨c', by rw [List.getElem?_set_ne e]; exact hc', hl⟩
    · by_cases e : i = j
      · subst e
        exfalso
        have h0 := hs.out i hj ho
        rw [hc] at h0
        have := hs.low c (List.mem_of_getElem? h0.symm)
        rcases hk m ms rfl with h | h <;> omega
      · rw [List.getElem?_set_ne e]; exact hs.out j hj ho
/-- .. that is to be kept first -/
theorem Good.set_new {m : Mk} {ms : List Mk} {cs : List Cl} {os : List Ol} {ss : List (List Int)} (h : Good (m :: ms) cs os ss) {i : Nat} {c : Cl} (hc : cs[i]? = some c) (v : Int)
    (h1' : c.2 < m.2.2) (h2' : i < m.2.1) : Good (m :: ms) (cs.set i (v, m.2.2)) (os ++ [(i, c)]) ss := by
  obtain ⟨cs0, os0, seg, ss0, rfl, rfl, h1, h2, hs, h3, h⟩ := h
  have hout : ∀ o ∈ seg, o.1 ≠ i := fun o ho e => by
    obtain ⟨c', hc', hl⟩ := (hs.here o ho).2
    rw [e, hc] at hc'; cases hc'; omega
  refine ⟨cs0, os0, seg ++ [(i, c)], ss0, by simp, rfl, h1, h2, ⟨by rw [List.length_set]; exact hs.len, ?_, fun o ho => ?_, fun j hj ho => ?_, hs.low⟩, h3, h⟩
  · rw [List.map_append, List.nodup_append]
    refine ⟨hs.nd, by simp, fun a ha b hb => ?_⟩
    obtain ⟨o, ho, rfl⟩ := List.mem_map.1 ha
    simp at hb; subst hb
    exact hout o ho
  · rcases List.mem_append.1 ho with ho | ho
    · obtain ⟨c', hc', hl⟩ := (hs.here o ho).2
      exact ⟨(hs.here o ho).1, c', by rw [List.getElem?_set_ne (fun e => hout o ho e.symm)]; exact hc', hl⟩
    · simp at ho; subst ho
      exact ⟨(hs.out i (by omega) hout).symm.trans hc, _, List.getElem?_set_self (get_lt hc), Nat.le_refl _⟩
  · have e : i ≠ j := fun e => ho (i, c) (by simp) e
    rw [List.getElem?_set_ne e]
    exact hs.out j hj fun o h => ho o (by simp [h])
theorem backs_front {A B rest : List Cl} (hA : A = B ++ rest) {os : List Ol} (ho : ∀ o ∈ os, o.1 < B.length) : backs A os = backs B os ++ rest := by
  induction os with
  | nil => exact hA
  | cons o os ih =>
    rw [backs_cons, backs_cons, ih fun o' h => ho o' (by simp [h]), List.set_append_left _ _ (by rw [backs_len]; exact ho o (by simp))]
theorem Good.undo {top : List Mk} {m : Mk} {ms : List Mk} {cs : List Cl} {os : List Ol} {ss : List (List Int)} (h : Good (top ++ m :: ms) cs os ss) :
    ∃ s ss0, ss.drop top.length = s :: ss0 ∧ ((backs cs (os.drop m.1)).take m.2.1).map (·.1) = s ∧ Good ms ((backs cs (os.drop m.1)).take m.2.1) (os.take m.1) ss0 ∧ (∀ c ∈ (backs cs (os.drop m.1)).take m.2.1, c.2 < m.2.2) := by
  induction top generalizing cs os ss with
  | nil =>
    obtain ⟨cs0, os0, seg, ss0, rfl, rfl, h1, h2, hs, h3, h⟩ := h
    rw [h1, h2, List.drop_left, List.take_left, hs.back]
    exact ⟨_, ss0, rfl, rfl, h, hs.low⟩
  | cons m' top ih =>
    obtain ⟨cs0, os0, seg, ss0, rfl, rfl, h1, h2, hs, h3, h⟩ := h
    have hle := h.le m (by simp)
    have hfr : backs cs seg = cs0 ++ (backs cs seg).drop cs0.length := by
      conv => lhs; rw [← List.take_append_drop cs0.length (backs cs seg)]
      rw [hs.back]
    have hat := h.at_
    have e : ((backs cs ((os0 ++ seg).drop m.1)).take m.2.1) = (backs cs0 (os0.drop m.1)).take m.2.1 := by
      rw [List.drop_append_of_le_length hle.2, backs_app, backs_front hfr fun o ho => hat o (List.mem_of_mem_drop ho), List.take_append_of_le_length (by rw [backs_len]; exact hle.1)]
    rw [e, List.take_append_of_le_length hle.2]
    exact ih h
theorem Good.bump {top : List Mk} {m : Mk} {ms : List Mk} {cs : List Cl} {os : List Ol} {ss : List (List Int)} (h : Good (top ++ m :: ms) cs os ss) :
    ∀ o ∈ os.drop m.1, ∃ c, cs[o.1]? = some c ∧ ∀ x ∈ ms, x.2.2 < c.2 := by
  induction top generalizing cs os ss with
  | nil =>
    obtain ⟨cs0, os0, seg, ss0, rfl, rfl, h1, h2, hs, h3, h⟩ := h
    rw [h1, List.drop_left]
    intro o ho
    obtain ⟨c, hc, hl⟩ := (hs.here o ho).2
    exact ⟨c, hc, fun x hx => by have := h3 x hx; omega⟩
  | cons m' top ih =>
    obtain ⟨cs0, os0, seg, ss0, rfl, rfl, h1, h2, hs, h3, h⟩ := h
    have hle := h.le m (by simp)
    have key : ∀ o ∈ seg, ∃ c, cs[o.1]? = some c ∧ ∀ x ∈ ms, x.2.2 < c.2 := fun o ho => by
      obtain ⟨c, hc, hl⟩ := (hs.here o ho).2
      exact ⟨c, hc, fun x hx => by have := h3 x (by simp [hx]); omega⟩
    intro o ho
    rw [List.drop_append_of_le_length hle.2] at ho
    rcases List.mem_append.1 ho with ho | ho
    · by_cases hx : ∃ o' ∈ seg, o'.1 = o.1
      · obtain ⟨o', ho', e⟩ := hx
        rw [← e]; exact key o' ho'
      · obtain ⟨c, hc, hl⟩ := ih h o ho
        exact ⟨c, by rw [hs.out o.1 (get_lt hc) fun o' ho' e => hx ⟨o', ho', e⟩]; exact hc, hl⟩
    · exact key o ho
/-- what was kept first behind the mark that is left -/
def kept (m : Mk) (o : Ol) : Bool := decide (o.2.2 < m.2.2) && decide (o.1 < m.2.1)
theorem kept_iff {m : Mk} {o : Ol} : kept m o = true ↔ o.2.2 < m.2.2 ∧ o.1 < m.2.1 := by unfold kept; simp
theorem Good.merge {m1 m2 : Mk} {ms : List Mk} {cs : List Cl} {os : List Ol} {ss : List (List Int)} (h : Good (m2 :: m1 :: ms) cs os ss) :
    Good (m1 :: ms) cs (os.take m2.1 ++ (os.drop m2.1).filter (kept m1)) (ss.drop 1) := by
  obtain ⟨cs2, os2, seg2, ss2, rfl, rfl, a1, a2, hs2, a3, h⟩ := h
  obtain ⟨cs1, os1, seg1, ss1, rfl, rfl, b1, b2, hs1, b3, h⟩ := h
  have hlt := a3 m1 (by simp)
  rw [a1, List.drop_left, List.take_left]
  have up : ∀ o ∈ seg1, ∃ c, cs[o.1]? = some c ∧ m1.2.2 ≤ c.2 := fun o ho => by
    obtain ⟨c, hc, hl⟩ := (hs1.here o ho).2
    by_cases hx : ∃ o' ∈ seg2, o'.1 = o.1
    · obtain ⟨o', ho', e⟩ := hx
      obtain ⟨c', hc', hl'⟩ := (hs2.here o' ho').2
      exact ⟨c', by rw [← e]; exact hc', by omega⟩
    · exact ⟨c, by rw [hs2.out o.1 (get_lt hc) fun o' ho' e => hx ⟨o', ho', e⟩]; exact hc, hl⟩
  have new : ∀ o ∈ seg2, kept m1 o = true → ∀ o' ∈ seg1, o'.1 ≠ o.1 := fun o ho hk o' ho' e => by
    obtain ⟨k1, k2⟩ := kept_iff.1 hk
    obtain ⟨c, hc, hl⟩ := (hs1.here o' ho').2
    have := (hs2.here o ho).1
    rw [e, this] at hc; cases hc; omega
  refine ⟨cs1, os1, seg1 ++ seg2.filter (kept m1), ss1, by simp, rfl, b1, b2, ⟨Nat.le_trans hs1.len hs2.len, ?_, fun o ho => ?_, fun i hi ho => ?_, hs1.low⟩, b3, h⟩
  · rw [List.map_append, List.nodup_append]
    refine ⟨hs1.nd, (List.filter_sublist.map _).nodup hs2.nd, fun a ha b hb e => ?_⟩
    obtain ⟨o, ho, rfl⟩ := List.mem_map.1 ha
    obtain ⟨o', ho', rfl⟩ := List.mem_map.1 hb
    have := List.mem_filter.1 ho'
    exact new o' this.1 this.2 o ho e
  · rcases List.mem_append.1 ho with ho | ho
    · exact ⟨(hs1.here o ho).1, up o ho⟩
    · have hm := List.mem_filter.1 ho
      obtain ⟨k1, k2⟩ := kept_iff.1 hm.2
      obtain ⟨g1, c, hc, hl⟩ := hs2.here o hm.1
      exact ⟨by rw [← hs1.out o.1 (by omega) (new o hm.1 hm.2)]; exact g1, c, hc, by omega⟩
  · have h1 : ∀ o ∈ seg1, o.1 ≠ i := fun o h => ho o (by simp [h])
    have e1 := hs1.out i hi h1
    by_cases hx : ∃ o ∈ seg2, o.1 = i
    · obtain ⟨o, ho2, rfl⟩ := hx
      exfalso
      have g := (hs2.here o ho2).1
      rw [e1] at g
      have := hs1.low _ (List.mem_of_getElem? g)
      exact ho o (List.mem_append.2 (.inr (List.mem_filter.2 ⟨ho2, kept_iff.2 ⟨this, by omega⟩⟩))) rfl
    · rw [hs2.out i (Nat.lt_of_lt_of_le hi hs1.len) fun o ho e => hx ⟨o, ho, e⟩]; exact e1
theorem Good.tail {m : Mk} {ms : List Mk} {cs : List Cl} {os : List Ol} {ss : List (List Int)} (h : Good (m :: ms) cs os ss) : ∃ cs0 os0 ss0, Good ms cs0 os0 ss0 ∧ m.1 = os0.length ∧ m.2.1 = cs0.length ∧ (∀ x ∈ ms, x.2.2 < m.2.2) ∧ m.1 ≤ os.length := by
  obtain ⟨cs0, os0, seg, ss0, rfl, rfl, h1, h2, hs, h3, h⟩ := h
  exact ⟨cs0, os0, ss0, h, h1, h2, h3, by rw [List.length_append]; omega⟩
theorem Good.forget {top : List Mk} {m last : Mk} {ms : List Mk} {cs : List Cl} {os : List Ol} {ss : List (List Int)} (h : Good (top ++ m :: last :: ms) cs os ss) :
    Good (last :: ms) cs (os.take m.1 ++ (os.drop m.1).filter (kept last)) (ss.drop (top.length + 1)) := by
  induction top generalizing cs os ss with
  | nil => exact h.merge
  | cons m' top ih =>
    obtain ⟨b, rest, hb, hbm⟩ : ∃ b rest, top ++ m :: last :: ms = b :: rest ∧ (last ∈ rest ∧ (b = m ∨ m ∈ rest)) := by
      cases top with
      | nil => exact ⟨m, last :: ms, rfl, by simp⟩
      | cons t top => exact ⟨t, top ++ m :: last :: ms, rfl, by simp⟩
    have h' := h
    rw [List.cons_append, hb] at h'
    obtain ⟨cs0, os0, ss0, hg, e1, e2, e3, e4⟩ := h'.tail
    obtain ⟨cs1, os1, ss1, hg1, f1, f2, f3, f4⟩ := hg.tail
    have hm1 : m.1 ≤ m'.1 := by
      rcases hbm.2 with rfl | hm
      · rw [e1]; exact f4
      · have := (hg1.le m hm).2; omega
    have hll := (hg1.le last hbm.1).1
    have hls := f3 last hbm.1
    have hmer := h'.merge
    rw [← hb] at hmer
    have := ih hmer
    rw [List.take_append_of_le_length (by rw [List.length_take]; omega), List.drop_append_of_le_length (by rw [List.length_take]; omega), List.filter_append, List.filter_filter, List.take_take, Nat.min_eq_left hm1, List.drop_drop] at this
    have ek : (fun a => kept last a && kept b a) = kept last := by
      funext a
      cases hk : kept last a with
      | false => rfl
      | true =>
        obtain ⟨k1, k2⟩ := kept_iff.1 hk
        rw [Bool.true_and]; exact kept_iff.2 ⟨by omega, by omega⟩
    rw [ek, ← List.filter_append] at this
    have ed : (os.take m'.1).drop m.1 ++ os.drop m'.1 = os.drop m.1 := by
      conv => rhs; rw [← List.take_append_drop m'.1 os]
      rw [List.drop_append_of_le_length (by rw [List.length_take]; omega)]
    rw [ed] at this
    rw [List.length_cons, show top.length + 1 + 1 = 1 + (top.length + 1) by omega]
    exact this
end Go.Proofs.Ytgojncgdmcpkiaa.trl
