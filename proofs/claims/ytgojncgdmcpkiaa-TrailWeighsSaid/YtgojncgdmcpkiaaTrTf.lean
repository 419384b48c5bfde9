/- A trail with its own blocks named: so that it stands beside others. -/
import Derived.Test.YtgojncgdmcpkiaaTrGrow
namespace Go.Proofs.Ytgojncgdmcpkiaa.trl
open Go Go.RowKit Go.ChangeShapes Go.WideShapes Go.ChangeAt Go.Proofs.Ytgojncgdmcpkiaa.words
set_option linter.unusedVariables false
/-- a trail that is well, all of it in F, with these cells, and these seen, the last mark's first -/
def TF (g : Nat) (F : Nat → Prop) (C : List Int) (ss : List (List Int)) (ev : Nat) (w : World) : Prop :=
  ∃ cs os ms, TR w g F cs os ms ev ∧ Good ms.reverse cs os ss ∧ (∀ c ∈ cs, c.2 ≤ ev) ∧ (∀ m ∈ ms, m.2.2 ≤ ev) ∧ cs.map (·.1) = C
/-- what a call leaves: of the old blocks only the trail's have turned; it owns these and new ones -/
def TO (w : World) (g : Nat) (F : Nat → Prop) (C : List Int) (ss : List (List Int)) (ev : Nat) (w' : World) : Prop :=
  ∃ G, TF g G C ss ev w' ∧ Tch w w' F ∧ ∀ k, G k → (F k ∨ w.heap.size ≤ k) ∧ k < w'.heap.size
variable {w : World} {g : Nat} {F : Nat → Prop} {C : List Int} {ss : List (List Int)} {ev : Nat}
theorem TF.keep {w' : World} {S : Nat → Prop} (h : TF g F C ss ev w) (ht : Tch w w' S) (hs : ∀ k, F k → ¬ S k) : TF g F C ss ev w' := by
  obtain ⟨cs, os, ms, h1, h3⟩ := h
  exact ⟨cs, os, ms, h1.keep ht hs, h3⟩
theorem TF.below {w' : World} (h : TF g F C ss ev w) (hb : Below w.heap.size w w') : TF g F C ss ev w' := h.keep (Tch.of_below hb (fun _ => False)) fun _ _ => id
theorem TF.mono {F' : Nat → Prop} (h : TF g F C ss ev w) (hf : ∀ k, F k → F' k) : TF g F' C ss ev w := by
  obtain ⟨cs, os, ms, h1, h3⟩ := h
  exact ⟨cs, os, ms, h1.mono hf, h3⟩
theorem TF.bound (h : TF g F C ss ev w) : TF g (fun k => F k ∧ k < w.heap.size) C ss ev w := by
  obtain ⟨cs, os, ms, h1, h3⟩ := h
  exact ⟨cs, os, ms, h1.bound, h3⟩
theorem left_tf {w' : World} {cs : List Cl} {os : List Ol} {ms : List Mk} (h : Left w g F cs os ms ev w') : ∃ G, TR w' g G cs os ms ev ∧ Tch w w' F ∧ ∀ k, G k → (F k ∨ w.heap.size ≤ k) ∧ k < w'.heap.size :=
  ⟨_, h.1.bound, h.2, fun k hk => hk⟩
theorem tf_new (n : Int) (w : World) (hn : n ≤ 1000) : Calls Try.prog 11 #[.int .i64 n] w fun e w' => ∃ g F, e = .returned (.pointer (some ⟨g, 0, none⟩)) ∧ TF g F (List.replicate n.toNat 0) [] 0 w' ∧ (∀ k, F k → w.heap.size ≤ k ∧ k < w'.heap.size) ∧ Below w.heap.size w w' := by
  refine (ti_new n w hn).mono ?_
  rintro e w' ⟨g, rfl, cs, os, ms, h1, h2, h3⟩
  exact ⟨g, _, rfl, ⟨cs, os, ms, h1.bound, h3⟩, fun k hk => hk, h2⟩
theorem tf_len (h : TF g F C ss ev w) : Calls Try.prog 20 #[.pointer (some ⟨g, 0, none⟩)] w fun e w' => e = .returned (.int .i64 C.length) ∧ w = w' := by
  obtain ⟨cs, os, ms, h1, h3, h4, h5, rfl⟩ := h
  have := tlen_any w h1
  rwa [List.length_map]
theorem tf_depth (h : TF g F C ss ev w) : Calls Try.prog 17 #[.pointer (some ⟨g, 0, none⟩)] w fun e w' => e = .returned (.int .i64 ss.length) ∧ w = w' := by
  obtain ⟨cs, os, ms, h1, h3, h4, h5, rfl⟩ := h
  have := depth_any w h1
  rwa [← List.length_reverse, ← h3.len] at this
theorem tf_get (h : TF g F C ss ev w) (i : Nat) (v : Int) (hv : C[i]? = some v) : Calls Try.prog 22 #[.pointer (some ⟨g, 0, none⟩), .int .i64 i] w fun e w' => e = .returned (.int .i64 v) ∧ w = w' := by
  obtain ⟨cs, os, ms, h1, h3, h4, h5, rfl⟩ := h
  rw [List.getElem?_map] at hv
  obtain ⟨a, ha, rfl⟩ := Option.map_eq_some_iff.1 hv
  exact get_in w h1 ha
theorem tf_get_out (h : TF g F C ss ev w) (i : Int) (hi : ¬ (0 ≤ i ∧ i < C.length)) : Calls Try.prog 22 #[.pointer (some ⟨g, 0, none⟩), .int .i64 i] w fun e w' => e = .returned (.int .i64 0) ∧ w = w' :=
  get_out _ _ w i (tf_len h) hi
theorem tf_cells (h : TF g F C ss ev w) (hn : C.length ≤ 1000) : Calls Try.prog 16 #[.pointer (some ⟨g, 0, none⟩)] w fun e w' => (∃ A c, e = .returned (.slice A C.length c) ∧ w'.ownsRow w.heap.size 2 1 (.slice A C.length c) C.length (nums C)) ∧ Below w.heap.size w w' := by
  obtain ⟨cs, os, ms, h1, h3, h4, h5, rfl⟩ := h
  have := cells_any w h1 (by rw [List.length_map] at hn; omega)
  rwa [List.length_map]
theorem tf_weight (h : TF g F C ss ev w) : ∃ n : Nat, n ≤ ss.length * C.length ∧ Calls Try.prog 19 #[.pointer (some ⟨g, 0, none⟩)] w fun e w' => e = .returned (.int .i64 n) ∧ w = w' := by
  obtain ⟨cs, os, ms, h1, h3, h4, h5, rfl⟩ := h
  refine ⟨os.length, ?_, weight_any w h1⟩
  have := h3.weight
  rw [List.length_map, h3.len]; exact this
theorem tf_set_out (h : TF g F C ss ev w) (i v : Int) (hi : ¬ (0 ≤ i ∧ i < C.length)) : Calls Try.prog 12 #[.pointer (some ⟨g, 0, none⟩), .int .i64 i, .int .i64 v] w fun e w' => e = .returned (.int .i64 3) ∧ w = w' := by
  obtain ⟨cs, os, ms, h1, h3, h4, h5, rfl⟩ := h
  rw [List.length_map] at hi
  exact set_out w h1 i v hi
theorem tf_undo_out (h : TF g F C ss ev w) (i : Int) (hi : ¬ (0 ≤ i ∧ i < ss.length)) : Calls Try.prog 14 #[.pointer (some ⟨g, 0, none⟩), .int .i64 i] w fun e w' => e = .returned (.int .i64 2) ∧ Below w.heap.size w w' :=
  undo_out _ _ w i (fun w' hb => tf_depth (h.below hb)) hi
theorem tf_forget_out (h : TF g F C ss ev w) (i : Int) (hi : ¬ (0 ≤ i ∧ i < ss.length)) : Calls Try.prog 23 #[.pointer (some ⟨g, 0, none⟩), .int .i64 i] w fun e w' => e = .returned (.int .i64 2) ∧ w = w' :=
  forget_out _ _ w i (tf_depth h) hi
theorem tf_set (h : TF g F C ss ev w) (i : Nat) (v : Int) (hi : i < C.length) (hn : C.length ≤ 1000) (hs : ss.length ≤ 999) :
    Calls Try.prog 12 #[.pointer (some ⟨g, 0, none⟩), .int .i64 i, .int .i64 v] w fun e w' => e = .returned (.int .i64 0) ∧ TO w g F (C.set i v) ss ev w' := by
  obtain ⟨cs, os, ms, h1, h3, h4, h5, rfl⟩ := h
  rw [List.length_map] at hi hn
  have hml : ms.length = ss.length := by rw [h3.len, List.length_reverse]
  have hw := h3.weight
  rw [List.length_reverse] at hw
  have hw' : ms.length * cs.length ≤ 999 * 1000 := Nat.mul_le_mul (by omega) hn
  obtain ⟨⟨av, ast⟩, ha⟩ : ∃ a, cs[i]? = some a := ⟨_, List.getElem?_eq_getElem hi⟩
  have stamp : ∀ s, s ≤ ev → ∀ c ∈ cs.set i (v, s), c.2 ≤ ev := fun s hs c hc => by
    rcases List.mem_or_eq_of_mem_set hc with hc | rfl
    · exact h4 c hc
    · exact hs
  have hast : ast ≤ ev := h4 _ (List.mem_of_getElem? ha)
  cases hr : ms.reverse with
  | nil =>
    obtain rfl : ms = [] := by simpa using hr
    have h3' := h3.set_old ha v (fun m ms' e => by rw [hr] at e; cases e)
    refine (set_bare w h1 ha v (by omega)).mono ?_
    rintro e w' ⟨rfl, hl⟩
    obtain ⟨G, k1, k2, k3⟩ := left_tf hl
    exact ⟨rfl, G, ⟨_, _, _, k1, h3', stamp _ hast, h5, map_set⟩, k2, k3⟩
  | cons m rest =>
    obtain ⟨mo, mc, mst⟩ := m
    obtain ⟨hlast, hms⟩ := rev_last hr
    have hme : mst ≤ ev := h5 (mo, mc, mst) (List.mem_of_getElem? hlast)
    by_cases hk : mst ≤ ast ∨ mc ≤ i
    · have h3' := h3.set_old ha v (fun m' ms' e => by rw [hr] at e; cases e; exact hk)
      refine (set_kept w h1 ha v (by omega) (by omega) hlast hk).mono ?_
      rintro e w' ⟨rfl, hl⟩
      obtain ⟨G, k1, k2, k3⟩ := left_tf hl
      exact ⟨rfl, G, ⟨_, _, _, k1, h3', stamp _ hast, h5, map_set⟩, k2, k3⟩
    · have h3' := h3
      rw [hr] at h3'
      have h3' := h3'.set_new ha v (show ast < mst by omega) (show i < mc by omega)
      refine (set_new w h1 ha v (by omega) (by omega) (by omega) hlast (by omega) (by omega)).mono ?_
      rintro e w' ⟨rfl, hl⟩
      obtain ⟨G, k1, k2, k3⟩ := left_tf hl
      exact ⟨rfl, G, ⟨_, _, _, k1, by rw [hr]; exact h3', stamp _ hme, h5, map_set⟩, k2, k3⟩

theorem tf_mark (h : TF g F C ss ev w) (hn : C.length ≤ 1000) (hs : ss.length ≤ 999) (hev : ev ≤ 1000000) :
    Calls Try.prog 13 #[.pointer (some ⟨g, 0, none⟩)] w fun e w' => e = .returned (.int .i64 ss.length) ∧ TO w g F C (C :: ss) (ev + 1) w' := by
  obtain ⟨cs, os, ms, h1, h3, h4, h5, rfl⟩ := h
  rw [List.length_map] at hn
  have hml : ms.length = ss.length := by rw [h3.len, List.length_reverse]
  have hw := h3.weight
  rw [List.length_reverse] at hw
  have hw' : ms.length * cs.length ≤ 999 * 1000 := Nat.mul_le_mul (by omega) hn
  refine (mark_any w h1 (by omega) (by omega) (by omega) hev).mono ?_
  rintro e w' ⟨rfl, hl⟩
  obtain ⟨G, k1, k2, k3⟩ := left_tf hl
  rw [hml]
  refine ⟨rfl, G, ⟨_, _, _, k1, ?_, fun c hc => Nat.le_succ_of_le (h4 c hc), fun m hm => ?_, rfl⟩, k2, k3⟩
  · rw [List.reverse_append]
    exact h3.mark (ev + 1) (fun c hc => Nat.lt_succ_of_le (h4 c hc)) (fun m hm => Nat.lt_succ_of_le (h5 m (List.mem_reverse.1 hm)))
  · rcases List.mem_append.1 hm with hm | hm
    · exact Nat.le_succ_of_le (h5 m hm)
    · simp at hm; subst hm; exact Nat.le_refl _

theorem tf_undo (h : TF g F C ss ev w) {stop ss0 : List (List Int)} {s : List Int} (hss : ss = stop ++ s :: ss0) (hn : C.length ≤ 1000) (hs : ss.length ≤ 1000) :
    Calls Try.prog 14 #[.pointer (some ⟨g, 0, none⟩), .int .i64 ss0.length] w fun e w' => e = .returned (.int .i64 0) ∧ TO w g F s ss0 ev w' := by
  obtain ⟨cs, os, ms, h1, h3, h4, h5, rfl⟩ := h
  rw [List.length_map] at hn
  have hml : ms.length = ss.length := by rw [h3.len, List.length_reverse]
  have hk : ss0.length < ms.length := by rw [hml, hss]; simp; omega
  obtain ⟨⟨mo, mc, mst⟩, hm⟩ : ∃ m, ms[ss0.length]? = some m := ⟨_, List.getElem?_eq_getElem hk⟩
  have hsp := rev_split hm
  have hw := h3.weight
  rw [List.length_reverse] at hw
  have hw' : ms.length * cs.length ≤ 1000 * 1000 := Nat.mul_le_mul (by omega) hn
  have hle := h3.le (mo, mc, mst) (by rw [hsp]; simp)
  have hat := h3.at_
  rw [hsp] at h3
  obtain ⟨s', ss0', e1, e2, e3, e4⟩ := h3.undo
  have hdl : (ms.drop (ss0.length + 1)).reverse.length = stop.length := by rw [List.length_reverse, List.length_drop, hml, hss]; simp
  rw [hdl, hss, List.drop_left] at e1
  injection e1 with e1 e1'
  subst e1; subst e1'
  refine (undo_in w h1 hm (by omega) (by omega) (by omega) hle.2 hle.1 hat).mono ?_
  rintro e w' ⟨rfl, hl⟩
  obtain ⟨G, k1, k2, k3⟩ := left_tf hl
  have hmev := h5 (mo, mc, mst) (List.mem_of_getElem? hm)
  exact ⟨rfl, G, ⟨_, _, _, k1, e3, fun c hc => by have := e4 c hc; dsimp only at this hmev; omega, fun m hm => h5 m (List.mem_of_mem_take hm), e2⟩, k2, k3⟩

theorem tf_forget (h : TF g F C ss ev w) {stop ss0 : List (List Int)} {s : List Int} (hss : ss = stop ++ s :: ss0) (hn : C.length ≤ 1000) (hs : ss.length ≤ 1000) :
    Calls Try.prog 23 #[.pointer (some ⟨g, 0, none⟩), .int .i64 ss0.length] w fun e w' => e = .returned (.int .i64 0) ∧ TO w g F C ss0 ev w' := by
  obtain ⟨cs, os, ms, h1, h3, h4, h5, rfl⟩ := h
  rw [List.length_map] at hn
  have hml : ms.length = ss.length := by rw [h3.len, List.length_reverse]
  have hk : ss0.length < ms.length := by rw [hml, hss]; simp; omega
  obtain ⟨⟨mo, mc, mst⟩, hm⟩ : ∃ m, ms[ss0.length]? = some m := ⟨_, List.getElem?_eq_getElem hk⟩
  have hsp := rev_split hm
  have hw := h3.weight
  rw [List.length_reverse] at hw
  have hw' : ms.length * cs.length ≤ 1000 * 1000 := Nat.mul_le_mul (by omega) hn
  have hle := h3.le (mo, mc, mst) (by rw [hsp]; simp)
  have hdl : (ms.drop (ss0.length + 1)).reverse.length = stop.length := by rw [List.length_reverse, List.length_drop, hml, hss]; simp
  have hdrop : ss.drop ((ms.drop (ss0.length + 1)).reverse.length + 1) = ss0 := by
    rw [hdl, hss, ← List.drop_drop, List.drop_left]; rfl
  have hev := fun m hm => h5 m (List.mem_of_mem_take (i := ss0.length) hm)
  rcases Nat.eq_zero_or_pos ss0.length with hz | hz
  · have hz' : ss0 = [] := List.eq_nil_of_length_eq_zero hz
    subst hz'
    refine (forget_zero w h1 hm (by omega) (by omega) hle.2).mono ?_
    rintro e w' ⟨rfl, hl⟩
    obtain ⟨G, k1, k2, k3⟩ := left_tf hl
    rw [hsp] at h3
    obtain ⟨s', ss0', e1, e2, e3, e4⟩ := h3.undo
    have hos : os.take mo = [] := by
      simp only [List.length_nil, List.take_zero, List.reverse_nil] at e3
      exact e3.1
    refine ⟨rfl, G, ⟨_, _, _, k1, ?_, h4, (fun m hm => by cases hm), rfl⟩, k2, k3⟩
    rw [hos]; exact ⟨rfl, rfl⟩
  · obtain ⟨m', hm'⟩ : ∃ m', m' + 1 = ss0.length := ⟨ss0.length - 1, by omega⟩
    obtain ⟨⟨lo, lc, ls⟩, hlast⟩ : ∃ l, ms[m']? = some l := ⟨_, List.getElem?_eq_getElem (by omega)⟩
    have htk : (ms.take ss0.length).reverse = (lo, lc, ls) :: (ms.take m').reverse := by
      rw [← hm', List.take_add_one, hlast]
      simp
    have h3' := h3
    rw [hsp, htk] at h3
    have hg := h3.forget
    have hbp := h3.bump
    rw [hdrop] at hg
    refine (forget_in w h1 hm' hm hlast (by omega) (by omega) (by omega) hle.2 fun o ho => ?_).mono ?_
    · obtain ⟨c, hc, hx⟩ := hbp o ho
      exact ⟨c, hc, Nat.le_of_lt (hx (lo, lc, ls) (by simp))⟩
    rintro e w' ⟨rfl, hl⟩
    obtain ⟨G, k1, k2, k3⟩ := left_tf hl
    exact ⟨rfl, G, ⟨_, _, _, k1, by rw [htk]; exact hg, h4, hev, rfl⟩, k2, k3⟩

theorem tf_grow (h : TF g F C ss ev w) (n : Int) (hn : n ≤ 1000) (hC : C.length ≤ 1000) :
    Calls Try.prog 21 #[.pointer (some ⟨g, 0, none⟩), .int .i64 n] w fun e w' => e = .returned (.int .i64 C.length) ∧ TO w g F (C ++ List.replicate n.toNat 0) ss ev w' := by
  obtain ⟨cs, os, ms, h1, h3, h4, h5, rfl⟩ := h
  rw [List.length_map] at hC ⊢
  by_cases h0 : 0 < n
  · obtain ⟨k, rfl⟩ : ∃ k : Nat, n = k := ⟨n.toNat, by omega⟩
    refine (grow_any w h1 k (by omega) (by omega) (by omega)).mono ?_
    rintro e w' ⟨rfl, hl⟩
    obtain ⟨G, k1, k2, k3⟩ := left_tf hl
    refine ⟨rfl, G, ⟨_, _, _, k1, h3.grow _, fun c hc => ?_, h5, by rw [List.map_append]; simp⟩, k2, k3⟩
    rcases List.mem_append.1 hc with hc | hc
    · exact h4 c hc
    · rw [List.eq_of_mem_replicate hc]; exact Nat.zero_le _
  · refine (grow_zero w h1 n (by omega)).mono ?_
    rintro e w' ⟨rfl, rfl⟩
    rw [show n.toNat = 0 by omega, List.replicate_zero, List.append_nil]
    exact ⟨rfl, _, ⟨_, _, _, h1.bound, h3, h4, h5, rfl⟩, Tch.refl _ _, fun k hk => ⟨.inl hk.1, hk.2⟩⟩
end Go.Proofs.Ytgojncgdmcpkiaa.trl
