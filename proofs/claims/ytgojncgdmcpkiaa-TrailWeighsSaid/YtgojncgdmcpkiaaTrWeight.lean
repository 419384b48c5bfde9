/- What a trail keeps, beside a map of the cells told since the last mark. -/
import Derived.Test.YtgojncgdmcpkiaaTrAct
import Derived.Test.YtgojncgdmcpkiaaU8Rows
import Derived.Maps.OwnSet
import Derived.Laws.IdiomArrays
namespace Go.Proofs.Ytgojncgdmcpkiaa.trl
open Go Go.RowKit Go.ChangeShapes Go.WideShapes Go.ChangeAt Go.Maps Go.Proofs.Ytgojncgdmcpkiaa.words
set_option linter.unusedVariables false
/-- a trail that keeps n, and one more for each cell of T at most, told since its last mark -/
def TG (g : Nat) (F : Nat → Prop) (C : List Int) (ss : List (List Int)) (ev n : Nat) (T : List Nat) (w : World) : Prop :=
  ∃ cs os ms, TR w g F cs os ms ev ∧ Good ms.reverse cs os ss ∧ (∀ c ∈ cs, c.2 ≤ ev) ∧ (∀ m ∈ ms, m.2.2 ≤ ev) ∧ cs.map (·.1) = C ∧ os.length ≤ n + T.length ∧
    ∀ m rest, ms.reverse = m :: rest → ∀ i ∈ T, ∀ a, cs[i]? = some a → m.2.2 ≤ a.2 ∨ m.2.1 ≤ i
def TGO (w : World) (g : Nat) (F : Nat → Prop) (C : List Int) (ss : List (List Int)) (ev n : Nat) (T : List Nat) (w' : World) : Prop :=
  ∃ G, TG g G C ss ev n T w' ∧ Tch w w' F ∧ ∀ k, G k → (F k ∨ w.heap.size ≤ k) ∧ k < w'.heap.size
variable {w : World} {g : Nat} {F : Nat → Prop} {C : List Int} {ss : List (List Int)} {ev n : Nat} {T : List Nat}
theorem TG.tf (h : TG g F C ss ev n T w) : TF g F C ss ev w := by
  obtain ⟨cs, os, ms, h1, h2, h3, h4, h5, _⟩ := h
  exact ⟨cs, os, ms, h1, h2, h3, h4, h5⟩
theorem TG.keep {w' : World} {S : Nat → Prop} (h : TG g F C ss ev n T w) (ht : Tch w w' S) (hs : ∀ k, F k → ¬ S k) : TG g F C ss ev n T w' := by
  obtain ⟨cs, os, ms, h1, h3⟩ := h
  exact ⟨cs, os, ms, h1.keep ht hs, h3⟩
theorem tf_tg (h : TF g F C ss ev w) : ∃ n, TG g F C ss ev n [] w ∧ n ≤ ss.length * C.length ∧ Calls Try.prog 19 #[.pointer (some ⟨g, 0, none⟩)] w fun e w' => e = .returned (.int .i64 n) ∧ w = w' := by
  obtain ⟨cs, os, ms, h1, h3, h4, h5, rfl⟩ := h
  refine ⟨os.length, ⟨cs, os, ms, h1, h3, h4, h5, rfl, Nat.le_refl _, fun m rest _ i hi => by cases hi⟩, ?_, weight_any w h1⟩
  have := h3.weight
  rw [List.length_map, h3.len]; exact this
theorem tg_weight (h : TG g F C ss ev n T w) : ∃ m : Nat, m ≤ n + T.length ∧ Calls Try.prog 19 #[.pointer (some ⟨g, 0, none⟩)] w fun e w' => e = .returned (.int .i64 m) ∧ w = w' := by
  obtain ⟨cs, os, ms, h1, _, _, _, _, h6, _⟩ := h
  exact ⟨os.length, h6, weight_any w h1⟩
/-- told once more -/
def tell (T : List Nat) (i : Nat) : List Nat := if i ∈ T then T else i :: T
theorem tell_mem {T : List Nat} {i j : Nat} : j ∈ tell T i ↔ j = i ∨ j ∈ T := by
  unfold tell
  split
  · rename_i h
    exact ⟨fun h => .inr h, fun h' => h'.elim (fun e => by rw [e]; exact h) id⟩
  · exact List.mem_cons
theorem tell_len (T : List Nat) (i : Nat) : T.length ≤ (tell T i).length ∧ (tell T i).length ≤ T.length + 1 := by
  unfold tell
  split
  · omega
  · simp
theorem tg_set (h : TG g F C ss ev n T w) (i : Nat) (v : Int) (hi : i < C.length) (hn : C.length ≤ 1000) (hs : ss.length ≤ 999) :
    Calls Try.prog 12 #[.pointer (some ⟨g, 0, none⟩), .int .i64 i, .int .i64 v] w fun e w' => e = .returned (.int .i64 0) ∧ TGO w g F (C.set i v) ss ev n (tell T i) w' := by
  obtain ⟨cs, os, ms, h1, h3, h4, h5, rfl, h6, h7⟩ := h
  rw [List.length_map] at hi hn
  have hml : ms.length = ss.length := by rw [h3.len, List.length_reverse]
  have hw := h3.weight
  rw [List.length_reverse] at hw
  have hw' : ms.length * cs.length ≤ 999 * 1000 := Nat.mul_le_mul (by omega) hn
  have htl := tell_len T i
  obtain ⟨⟨av, ast⟩, ha⟩ : ∃ a, cs[i]? = some a := ⟨_, List.getElem?_eq_getElem hi⟩
  have stamp : ∀ s, s ≤ ev → ∀ c ∈ cs.set i (v, s), c.2 ≤ ev := fun s hs c hc => by
    rcases List.mem_or_eq_of_mem_set hc with hc | rfl
    · exact h4 c hc
    · exact hs
  have hast : ast ≤ ev := h4 _ (List.mem_of_getElem? ha)
  cases hr : ms.reverse with
  | nil =>
    obtain rfl : ms = [] := by simpa using hr
    have h3' := h3.set_old ha v (fun m ms' e => by rw [hr] at e; cases e)
    refine (set_bare w h1 ha v (by omega)).mono ?_
    rintro e w' ⟨rfl, hl⟩
    obtain ⟨G, k1, k2, k3⟩ := left_tf hl
    exact ⟨rfl, G, ⟨_, _, _, k1, h3', stamp _ hast, h5, map_set, by omega, fun m rest e => by cases e⟩, k2, k3⟩
  | cons m rest =>
    obtain ⟨mo, mc, mst⟩ := m
    obtain ⟨hlast, hms⟩ := rev_last hr
    have hme : mst ≤ ev := h5 (mo, mc, mst) (List.mem_of_getElem? hlast)
    have hold := h7 _ _ hr
    by_cases hk : mst ≤ ast ∨ mc ≤ i
    · have h3' := h3.set_old ha v (fun m' ms' e => by rw [hr] at e; cases e; exact hk)
      refine (set_kept w h1 ha v (by omega) (by omega) hlast hk).mono ?_
      rintro e w' ⟨rfl, hl⟩
      obtain ⟨G, k1, k2, k3⟩ := left_tf hl
      refine ⟨rfl, G, ⟨_, _, _, k1, h3', stamp _ hast, h5, map_set, by omega, fun m' rest' e j hj a hja => ?_⟩, k2, k3⟩
      rw [hr] at e
      injection e with e _
      subst e
      by_cases hij : i = j
      · subst hij
        rw [List.getElem?_set_self hi] at hja
        injection hja with hja
        subst hja
        exact hk
      · rw [List.getElem?_set_ne hij] at hja
        rcases tell_mem.1 hj with e | hj
        · exact absurd e.symm hij
        · exact hold j hj a hja
    · have h3' := h3
      rw [hr] at h3'
      have h3' := h3'.set_new ha v (show ast < mst by omega) (show i < mc by omega)
      have hiT : i ∉ T := fun hm => hk (hold i hm _ ha)
      refine (set_new w h1 ha v (by omega) (by omega) (by omega) hlast (by omega) (by omega)).mono ?_
      rintro e w' ⟨rfl, hl⟩
      obtain ⟨G, k1, k2, k3⟩ := left_tf hl
      have hT : tell T i = i :: T := if_neg hiT
      refine ⟨rfl, G, ⟨_, _, _, k1, by rw [hr]; exact h3', stamp _ hme, h5, map_set, ?_, fun m' rest' e j hj a hja => ?_⟩, k2, k3⟩
      · rw [hT, List.length_append, List.length_cons, List.length_cons, List.length_nil]; omega
      · rw [hr] at e
        injection e with e _
        subst e
        by_cases hij : i = j
        · subst hij
          rw [List.getElem?_set_self hi] at hja
          injection hja with hja
          subst hja
          exact .inl (Nat.le_refl _)
        · rw [List.getElem?_set_ne hij] at hja
          rcases tell_mem.1 hj with e | hj
          · exact absurd e.symm hij
          · exact hold j hj a hja
abbrev Mp (w : World) (b k : Nat) (D : DataW Unit) : Prop := w.ownsMap Try.prog 3 (plainElem Try.prog 3) b k D
theorem mp_tch {w w' : World} {b k : Nat} {D : DataW Unit} {F : Nat → Prop} (h : Mp w b k D) (ht : Tch w w' F) (hn : ¬ F b) : Mp w' b k D := by
  have hlt := h.lt
  obtain ⟨es, clock, hb, r⟩ := h
  exact ⟨es, clock, (ht.block b hlt hn).trans hb, r⟩
theorem lawK : Keyed Try.prog 3 := int_keyed Try.underlying3
theorem zeroE (w : World) : (zeroValue 3).run Try.prog w = .ok (.int .i64 0) w := by kernel_rfl
/-- the map has just these keys -/
def Keys (D : DataW Unit) (T : List Nat) : Prop := (∀ x : Nat, Maps.has D (.int .i64 x) = decide (x ∈ T)) ∧ Maps.size D = T.length
theorem keys_none : Keys (.map []) [] := ⟨fun x => rfl, rfl⟩
theorem keys_put {D : DataW Unit} {T : List Nat} (h : Keys D T) (ht : Tidy D) (i : Nat) (d : DataW Unit) : Keys (D.put (.int .i64 i) d) (tell T i) := by
  have hk : WideAt.IsKeyLit (.int .i64 (i : Int)) := trivial
  refine ⟨fun y => ?_, ?_⟩
  · by_cases e : y = i
    · subst e
      rw [has_put_same ht.isMap hk]
      exact (decide_eq_true (tell_mem.2 (.inl rfl))).symm
    · rw [has_put_other (fun e' => e (by injection e' with _ e'; omega)), h.1]
      exact decide_eq_decide.2 ⟨fun hm => tell_mem.2 (.inr hm), fun hm => (tell_mem.1 hm).elim (fun e' => absurd e' e) id⟩
  · rw [size_put ht, h.1, h.2]
    unfold tell
    by_cases hm : i ∈ T
    · simp [hm]
    · simp [hm]
/-- the trail g beside the map b, both new since w0 -/
def Wgh (w0 : World) (g b : Nat) (q : Nat) (ss : List (List Int)) (ev n : Nat) (T : List Nat) (k : Nat) (w : World) : Prop :=
  ∃ C F D, C.length = q ∧ TG g F C ss ev n T w ∧ (∀ i, F i → w0.heap.size ≤ i ∧ i ≠ b) ∧ Mp w b k D ∧ Keys D T ∧ w0.heap.size ≤ b ∧ Below w0.heap.size w0 w
variable {w0 : World} {b k q : Nat}
theorem Wgh.bel (h : Wgh w0 g b q ss ev n T k w) : Below w0.heap.size w0 w := by obtain ⟨_, _, _, _, _, _, _, _, _, h⟩ := h; exact h
theorem wgh_len (h : Wgh w0 g b q ss ev n T k w) : Calls Try.prog 20 #[.pointer (some ⟨g, 0, none⟩)] w fun e w' => e = .returned (.int .i64 q) ∧ w = w' := by
  obtain ⟨C, F, D, rfl, h, _⟩ := h
  exact tf_len h.tf
theorem wgh_weight (h : Wgh w0 g b q ss ev n T k w) : ∃ m : Nat, m ≤ n + T.length ∧ Calls Try.prog 19 #[.pointer (some ⟨g, 0, none⟩)] w fun e w' => e = .returned (.int .i64 m) ∧ w = w' := by
  obtain ⟨C, F, D, rfl, h, _⟩ := h
  exact tg_weight h
/-- the map is a told less ahead of the turn of the map: the two steps of a round -/
theorem wgh_set (h : Wgh w0 g b q ss ev n T k w) (i : Nat) (v : Int) (hi : i < q) (hq : q ≤ 1000) (hs : ss.length ≤ 999) :
    Calls Try.prog 12 #[.pointer (some ⟨g, 0, none⟩), .int .i64 i, .int .i64 v] w fun e w' => e = .returned (.int .i64 0) ∧ ∃ D, Mp w' b k D ∧ ∀ w2 d, Mp w2 b (k + 1) (D.put (.int .i64 i) d) → w'.grownBy w2 (some b) → Wgh w0 g b q ss ev n (tell T i) (k + 1) w2 := by
  obtain ⟨C, F, D, rfl, h, h2, h3, h4, h5, h6⟩ := h
  refine (tg_set h i v hi hq hs).mono ?_
  rintro e w' ⟨rfl, G, k1, k2, k3⟩
  have hm : Mp w' b k D := mp_tch h3 k2 fun hx => (h2 b hx).2 rfl
  have hbl := h3.lt
  have hGb : ∀ i, G i → w0.heap.size ≤ i ∧ i ≠ b := fun i hi => by
    rcases (k3 i hi).1 with h | h
    · exact h2 i h
    · have := h6.size; exact ⟨by omega, by omega⟩
  refine ⟨rfl, D, hm, fun w2 d hm2 hg => ?_⟩
  have ht : Tch w' w2 (fun i => i = b) := Tch.of_grown hg fun i _ e => by injection e
  exact ⟨C.set i v, G, _, List.length_set, k1.keep ht fun i hi e => (hGb i hi).2 e, hGb, hm2, keys_put h4 (h3.tidy (int_keyed Try.underlying3)) i d, h5, (h6.trans (k2.below h6.size fun i hi hx => by have := (h2 i hx).1; omega)).trans (ht.below (Nat.le_trans h6.size k2.size) fun i hi e => by omega)⟩
theorem wgh_size (h : Wgh w0 g b q ss ev n T k w) : ∃ D, Mp w b k D ∧ Maps.size D = T.length := by
  obtain ⟨C, F, D, rfl, _, _, h3, h4, _⟩ := h
  exact ⟨D, h3, h4.2⟩
theorem wgh_new (h : TG g F C ss ev n [] w) (hF : ∀ i, F i → w0.heap.size ≤ i ∧ i < w.heap.size) (hB : Below w0.heap.size w0 w) : Wgh w0 g w.heap.size C.length ss ev n [] 0 (w.alloc (.map #[] 0)) :=
  ⟨C, F, .map [], rfl, h.keep (Tch.of_below (bone w _) (fun _ => False)) (fun _ _ => id), fun i hi => ⟨(hF i hi).1, by have := (hF i hi).2; omega⟩, World.ownsMap_made _ _ _ _, keys_none, hB.size, bto hB (bone _ _)⟩
theorem look_len (w : World) {ops : Array Oper} {rest : List Oper} {o : Oper} {a : Act} {Q : Exit → Act → World → Prop} (hg : o.guard = none) (m : Operand) (hop : o.op = Op.call { callee := Callee.builtin Builtin.len, args := #[m], argTypes := #[44] })
    {b n nl : Nat} {D : DataW Unit} (hm : a.eval m = .map (some b)) (hown : Mp w b n D) (hs : Maps.size D = nl)
    (hK : wpList Try.prog ops Q rest (a.put o.dst (.int .i64 (nl : Int))) w) : wpList Try.prog ops Q (o :: rest) a w := by
  refine wpList_len_own w hg m _ hop _ _ Try.underlying44 _ b n D hm hown ?_
  rw [hs]; exact hK
theorem look_val (w : World) {ops : Array Oper} {rest : List Oper} {o : Oper} {a : Act} {Q : Exit → Act → World → Prop} (hg : o.guard = none) (m x : Operand) (hop : o.op = Op.lookup 44 m x false)
    {b n : Nat} {D : DataW Unit} (hm : a.eval m = .map (some b)) (hown : Mp w b n D) (y : Int) (hw : (Lit.int .i64 y).wf = true) (hx : a.eval x = .int .i64 y)
    (hK : ∀ c : Int, wpList Try.prog ops Q rest (a.put o.dst (.int .i64 c)) w) : wpList Try.prog ops Q (o :: rest) a w :=
  wpList_lookup_own_int w hg m x _ hop _ _ .i64 lawK Try.underlying44 Try.underlying3 (zeroE w) b n D hm hown _ _ hx (keyOf_int_mk Try.underlying3 hw) fun c _ _ => hK c
end Go.Proofs.Ytgojncgdmcpkiaa.trl
