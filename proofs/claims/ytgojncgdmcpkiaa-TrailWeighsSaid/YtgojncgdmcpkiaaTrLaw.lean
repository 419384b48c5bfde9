/- A trail by what it tells: its cells, and what each open mark saw. -/
import Derived.Test.YtgojncgdmcpkiaaTrUndo
import Derived.Test.YtgojncgdmcpkiaaTrCells
namespace Go.Proofs.Ytgojncgdmcpkiaa.trl
open Go Go.RowKit Go.ChangeShapes Go.WideShapes Go.ChangeAt Go.Proofs.Ytgojncgdmcpkiaa.words
set_option linter.unusedVariables false
theorem nodup_cut (a : Nat) : ∀ {l : List Nat}, l.Nodup → l.length ≤ (l.filter fun x => decide (x ≠ a)).length + 1
  | [], _ => by simp
  | b :: l, h => by
    rw [List.nodup_cons] at h
    by_cases e : b = a
    · subst e
      have : l.filter (fun x => decide (x ≠ b)) = l := List.filter_eq_self.2 fun x hx => by
        simp only [decide_eq_true_eq]; rintro rfl; exact h.1 hx
      rw [List.filter_cons_of_neg (by simp), this]; simp
    · rw [List.filter_cons_of_pos (by simp [e]), List.length_cons, List.length_cons]
      have := nodup_cut a h.2
      omega
theorem nodup_le : ∀ (n : Nat) {l : List Nat}, l.Nodup → (∀ x ∈ l, x < n) → l.length ≤ n
  | 0, l, _, h => by
    cases l with
    | nil => simp
    | cons a l => exact absurd (h a (by simp)) (by omega)
  | n + 1, l, hn, h => by
    have h1 := nodup_cut n hn
    have h2 := nodup_le n (l := l.filter fun x => decide (x ≠ n)) (List.filter_sublist.nodup hn) fun x hx => by
      have := List.mem_filter.1 hx
      have h3 := h x this.1
      have h4 : x ≠ n := by simpa using this.2
      omega
    omega
theorem Seg.weight {st : Nat} {cs0 cs : List Cl} {seg : List Ol} (h : Seg st cs0 cs seg) : seg.length ≤ cs0.length := by
  have := nodup_le cs0.length h.nd fun x hx => by
    obtain ⟨o, ho, rfl⟩ := List.mem_map.1 hx
    exact h.lt ho
  rwa [List.length_map] at this
theorem Good.weight {ms : List Mk} {cs : List Cl} {os : List Ol} {ss : List (List Int)} (h : Good ms cs os ss) : os.length ≤ ms.length * cs.length := by
  induction ms generalizing cs os ss with
  | nil => rw [h.1]; simp
  | cons m ms ih =>
    obtain ⟨cs0, os0, seg, ss0, rfl, rfl, h1, h2, hs, h3, h⟩ := h
    have a := ih h
    have b := hs.weight
    have c := hs.len
    have d : ms.length * cs0.length ≤ ms.length * cs.length := Nat.mul_le_mul_left _ c
    rw [List.length_append, List.length_cons, Nat.succ_mul]
    omega
/-- a trail that is well, new since w0, with these cells, and these seen, the last mark's first -/
def TI (w0 : World) (g : Nat) (C : List Int) (ss : List (List Int)) (ev : Nat) (w : World) : Prop :=
  ∃ cs os ms, TR w g (fun k => w0.heap.size ≤ k) cs os ms ev ∧ Below w0.heap.size w0 w ∧ Good ms.reverse cs os ss ∧ (∀ c ∈ cs, c.2 ≤ ev) ∧ (∀ m ∈ ms, m.2.2 ≤ ev) ∧ cs.map (·.1) = C
variable {w0 w : World} {g : Nat} {C : List Int} {ss : List (List Int)} {ev : Nat}
theorem TI.below {w' : World} (h : TI w0 g C ss ev w) (hb : Below w.heap.size w w') : TI w0 g C ss ev w' := by
  obtain ⟨cs, os, ms, h1, h2, h3⟩ := h
  exact ⟨cs, os, ms, h1.below hb, bto h2 hb, h3⟩
theorem TI.bel (h : TI w0 g C ss ev w) : Below w0.heap.size w0 w := by obtain ⟨_, _, _, _, h, _⟩ := h; exact h
theorem left_tb {cs cs' : List Cl} {os os' : List Ol} {ms ms' : List Mk} {ev ev' : Nat} {w' : World} (hb : Below w0.heap.size w0 w) (h : Left w g (fun k => w0.heap.size ≤ k) cs' os' ms' ev' w') : TR w' g (fun k => w0.heap.size ≤ k) cs' os' ms' ev' ∧ Below w0.heap.size w0 w' :=
  ⟨h.1.mono fun k hk => hk.elim id fun hk => Nat.le_trans hb.size hk, hb.trans (h.2.below hb.size fun i hi h => by omega)⟩
theorem TI.size (h : TI w0 g C ss ev w) : True := trivial
theorem ti_new (n : Int) (w : World) (hn : n ≤ 1000) : Calls Try.prog 11 #[.int .i64 n] w fun e w' => ∃ g, e = .returned (.pointer (some ⟨g, 0, none⟩)) ∧ TI w g (List.replicate n.toNat 0) [] 0 w' := by
  refine (new_any n w (by omega)).mono ?_
  rintro e w' ⟨⟨g, rfl, h⟩, hb⟩
  refine ⟨g, rfl, _, _, _, h, hb, ⟨rfl, rfl⟩, ?_, (fun m hm => by cases hm), by simp⟩
  intro c hc
  have := List.eq_of_mem_replicate hc
  rw [this]; exact Nat.le_refl _
theorem ti_len (h : TI w0 g C ss ev w) : Calls Try.prog 20 #[.pointer (some ⟨g, 0, none⟩)] w fun e w' => e = .returned (.int .i64 C.length) ∧ w = w' := by
  obtain ⟨cs, os, ms, h1, h2, h3, h4, h5, rfl⟩ := h
  have := tlen_any w h1
  rwa [List.length_map]
theorem ti_depth (h : TI w0 g C ss ev w) : Calls Try.prog 17 #[.pointer (some ⟨g, 0, none⟩)] w fun e w' => e = .returned (.int .i64 ss.length) ∧ w = w' := by
  obtain ⟨cs, os, ms, h1, h2, h3, h4, h5, rfl⟩ := h
  have := depth_any w h1
  rwa [← List.length_reverse, ← h3.len] at this
theorem ti_get (h : TI w0 g C ss ev w) (i : Nat) (v : Int) (hv : C[i]? = some v) : Calls Try.prog 22 #[.pointer (some ⟨g, 0, none⟩), .int .i64 i] w fun e w' => e = .returned (.int .i64 v) ∧ w = w' := by
  obtain ⟨cs, os, ms, h1, h2, h3, h4, h5, rfl⟩ := h
  rw [List.getElem?_map] at hv
  obtain ⟨a, ha, rfl⟩ := Option.map_eq_some_iff.1 hv
  exact get_in w h1 ha
theorem ti_get_out (h : TI w0 g C ss ev w) (i : Int) (hi : ¬ (0 ≤ i ∧ i < C.length)) : Calls Try.prog 22 #[.pointer (some ⟨g, 0, none⟩), .int .i64 i] w fun e w' => e = .returned (.int .i64 0) ∧ w = w' :=
  get_out _ _ w i (ti_len h) hi
theorem ti_cells (h : TI w0 g C ss ev w) (hn : C.length ≤ 1000) : Calls Try.prog 16 #[.pointer (some ⟨g, 0, none⟩)] w fun e w' => (∃ A c, e = .returned (.slice A C.length c) ∧ w'.ownsRow w.heap.size 2 1 (.slice A C.length c) C.length (nums C)) ∧ Below w.heap.size w w' := by
  obtain ⟨cs, os, ms, h1, h2, h3, h4, h5, rfl⟩ := h
  have := cells_any w h1 (by rw [List.length_map] at hn; omega)
  rwa [List.length_map]
theorem rev_last {ms : List Mk} {m : Mk} {rest : List Mk} (h : ms.reverse = m :: rest) : ms[ms.length - 1]? = some m ∧ ms = rest.reverse ++ [m] := by
  have e : ms = rest.reverse ++ [m] := by have := congrArg List.reverse h; simpa using this
  exact ⟨by rw [e]; simp, e⟩
theorem map_set {cs : List Cl} {i : Nat} {v : Int} {s : Nat} : (cs.set i (v, s)).map (·.1) = (cs.map (·.1)).set i v := by rw [List.map_set]
theorem ti_set (h : TI w0 g C ss ev w) (i : Nat) (v : Int) (hi : i < C.length) (hn : C.length ≤ 1000) (hs : ss.length ≤ 999) :
    Calls Try.prog 12 #[.pointer (some ⟨g, 0, none⟩), .int .i64 i, .int .i64 v] w fun e w' => e = .returned (.int .i64 0) ∧ TI w0 g (C.set i v) ss ev w' := by
  obtain ⟨cs, os, ms, h1, h2, h3, h4, h5, rfl⟩ := h
  rw [List.length_map] at hi hn
  have hml : ms.length = ss.length := by rw [h3.len, List.length_reverse]
  have hw := h3.weight
  rw [List.length_reverse] at hw
  have hw' : ms.length * cs.length ≤ 999 * 1000 := Nat.mul_le_mul (by omega) hn
  obtain ⟨⟨av, ast⟩, ha⟩ : ∃ a, cs[i]? = some a := ⟨_, List.getElem?_eq_getElem hi⟩
  have stamp : ∀ s, s ≤ ev → ∀ c ∈ cs.set i (v, s), c.2 ≤ ev := fun s hs c hc => by
    rcases List.mem_or_eq_of_mem_set hc with hc | rfl
    · exact h4 c hc
    · exact hs
  have hast : ast ≤ ev := h4 _ (List.mem_of_getElem? ha)
  cases hr : ms.reverse with
  | nil =>
    obtain rfl : ms = [] := by simpa using hr
    have h3' := h3.set_old ha v (fun m ms' e => by rw [hr] at e; cases e)
    refine (set_bare w h1 ha v (by omega)).mono ?_
    rintro e w' ⟨rfl, hl⟩
    obtain ⟨k1, k2⟩ := left_tb (cs := cs) (os := os) (ms := []) (ev := ev) h2 hl
    exact ⟨rfl, _, _, _, k1, k2, h3', stamp _ hast, h5, map_set⟩
  | cons m rest =>
    obtain ⟨mo, mc, mst⟩ := m
    obtain ⟨hlast, hms⟩ := rev_last hr
    have hme : mst ≤ ev := h5 (mo, mc, mst) (List.mem_of_getElem? hlast)
    by_cases hk : mst ≤ ast ∨ mc ≤ i
    · have h3' := h3.set_old ha v (fun m' ms' e => by rw [hr] at e; cases e; exact hk)
      refine (set_kept w h1 ha v (by omega) (by omega) hlast hk).mono ?_
      rintro e w' ⟨rfl, hl⟩
      obtain ⟨k1, k2⟩ := left_tb (cs := cs) (os := os) (ms := ms) (ev := ev) h2 hl
      exact ⟨rfl, _, _, _, k1, k2, h3', stamp _ hast, h5, map_set⟩
    · have h3' := h3
      rw [hr] at h3'
      have h3' := h3'.set_new ha v (show ast < mst by omega) (show i < mc by omega)
      refine (set_new w h1 ha v (by omega) (by omega) (by omega) hlast (by omega) (by omega)).mono ?_
      rintro e w' ⟨rfl, hl⟩
      obtain ⟨k1, k2⟩ := left_tb (cs := cs) (os := os) (ms := ms) (ev := ev) h2 hl
      exact ⟨rfl, _, _, _, k1, k2, by rw [hr]; exact h3', stamp _ hme, h5, map_set⟩
theorem ti_set_out (h : TI w0 g C ss ev w) (i v : Int) (hi : ¬ (0 ≤ i ∧ i < C.length)) : Calls Try.prog 12 #[.pointer (some ⟨g, 0, none⟩), .int .i64 i, .int .i64 v] w fun e w' => e = .returned (.int .i64 3) ∧ w = w' := by
  obtain ⟨cs, os, ms, h1, h2, h3, h4, h5, rfl⟩ := h
  rw [List.length_map] at hi
  exact set_out w h1 i v hi
theorem ti_mark (h : TI w0 g C ss ev w) (hn : C.length ≤ 1000) (hs : ss.length ≤ 999) (hev : ev ≤ 1000000) :
    Calls Try.prog 13 #[.pointer (some ⟨g, 0, none⟩)] w fun e w' => e = .returned (.int .i64 ss.length) ∧ TI w0 g C (C :: ss) (ev + 1) w' := by
  obtain ⟨cs, os, ms, h1, h2, h3, h4, h5, rfl⟩ := h
  rw [List.length_map] at hn
  have hml : ms.length = ss.length := by rw [h3.len, List.length_reverse]
  have hw := h3.weight
  rw [List.length_reverse] at hw
  have hw' : ms.length * cs.length ≤ 999 * 1000 := Nat.mul_le_mul (by omega) hn
  refine (mark_any w h1 (by omega) (by omega) (by omega) hev).mono ?_
  rintro e w' ⟨rfl, hl⟩
  obtain ⟨k1, k2⟩ := left_tb (cs := cs) (os := os) (ms := ms) (ev := ev) h2 hl
  rw [hml]
  refine ⟨rfl, _, _, _, k1, k2, ?_, fun c hc => Nat.le_succ_of_le (h4 c hc), fun m hm => ?_, rfl⟩
  · rw [List.reverse_append]
    exact h3.mark (ev + 1) (fun c hc => Nat.lt_succ_of_le (h4 c hc)) (fun m hm => Nat.lt_succ_of_le (h5 m (List.mem_reverse.1 hm)))
  · rcases List.mem_append.1 hm with hm | hm
    · exact Nat.le_succ_of_le (h5 m hm)
    · simp at hm; subst hm; exact Nat.le_refl _
theorem rev_split {ms : List Mk} {k : Nat} {m : Mk} (h : ms[k]? = some m) : ms.reverse = (ms.drop (k + 1)).reverse ++ m :: (ms.take k).reverse := by
  have hk := get_lt h
  conv => lhs; rw [← List.take_append_drop k ms]
  rw [List.reverse_append, List.drop_eq_getElem_cons hk]
  obtain ⟨_, e⟩ := List.getElem?_eq_some_iff.1 h
  rw [e, List.reverse_cons, List.append_assoc]; rfl
theorem ti_undo (h : TI w0 g C ss ev w) {stop ss0 : List (List Int)} {s : List Int} (hss : ss = stop ++ s :: ss0) (hn : C.length ≤ 1000) (hs : ss.length ≤ 1000) :
    Calls Try.prog 14 #[.pointer (some ⟨g, 0, none⟩), .int .i64 ss0.length] w fun e w' => e = .returned (.int .i64 0) ∧ TI w0 g s ss0 ev w' := by
  obtain ⟨cs, os, ms, h1, h2, h3, h4, h5, rfl⟩ := h
  rw [List.length_map] at hn
  have hml : ms.length = ss.length := by rw [h3.len, List.length_reverse]
  have hk : ss0.length < ms.length := by rw [hml, hss]; simp; omega
  obtain ⟨⟨mo, mc, mst⟩, hm⟩ : ∃ m, ms[ss0.length]? = some m := ⟨_, List.getElem?_eq_getElem hk⟩
  have hsp := rev_split hm
  have hw := h3.weight
  rw [List.length_reverse] at hw
  have hw' : ms.length * cs.length ≤ 1000 * 1000 := Nat.mul_le_mul (by omega) hn
  have hle := h3.le (mo, mc, mst) (by rw [hsp]; simp)
  have hat := h3.at_
  rw [hsp] at h3
  obtain ⟨s', ss0', e1, e2, e3, e4⟩ := h3.undo
  have hdl : (ms.drop (ss0.length + 1)).reverse.length = stop.length := by rw [List.length_reverse, List.length_drop, hml, hss]; simp
  rw [hdl, hss, List.drop_left] at e1
  injection e1 with e1 e1'
  subst e1; subst e1'
  refine (undo_in w h1 hm (by omega) (by omega) (by omega) hle.2 hle.1 hat).mono ?_
  rintro e w' ⟨rfl, hl⟩
  obtain ⟨k1, k2⟩ := left_tb (cs := cs) (os := os) (ms := ms) (ev := ev) h2 hl
  have hmev := h5 (mo, mc, mst) (List.mem_of_getElem? hm)
  exact ⟨rfl, _, _, _, k1, k2, e3, fun c hc => by have := e4 c hc; dsimp only at this hmev; omega, fun m hm => h5 m (List.mem_of_mem_take hm), e2⟩
theorem ti_undo_out (h : TI w0 g C ss ev w) (i : Int) (hi : ¬ (0 ≤ i ∧ i < ss.length)) : Calls Try.prog 14 #[.pointer (some ⟨g, 0, none⟩), .int .i64 i] w fun e w' => e = .returned (.int .i64 2) ∧ TI w0 g C ss ev w' :=
  (undo_out _ _ w i (fun w' hb => ti_depth (h.below hb)) hi).mono fun e w' ⟨h1, h2⟩ => ⟨h1, h.below h2⟩
theorem awake_any (w : World) : Calls Try.prog 9 #[] w fun e w' => e = .returned (.bool true) ∧ Below w.heap.size w w' := by
  go_enter Try.func9, Try.ntmps9
  go_wp2_with fail
  refine (ti_new 1 w (by omega)).mono ?_
  rintro e w1 ⟨g, rfl, h1⟩
  go_wp2_with fail
  refine (ti_set (C := [0]) h1 0 5 (by simp) (by simp) (by simp)).mono ?_
  rintro e w2 ⟨rfl, h2⟩
  go_wp2_with fail
  refine (ti_mark (C := [5]) h2 (by simp) (by simp) (by omega)).mono ?_
  rintro e w3 ⟨rfl, h3⟩
  go_wp2_with fail
  refine (ti_set (C := [5]) h3 0 7 (by simp) (by simp) (by simp)).mono ?_
  rintro e w4 ⟨rfl, h4⟩
  go_wp2_with fail
  refine (ti_get (C := [7]) h4 0 7 rfl).mono ?_
  rintro e w5 ⟨rfl, rfl⟩
  go_wp2_with fail
  refine (ti_undo (C := [7]) h4 (stop := []) (s := [5]) (ss0 := []) rfl (by simp) (by simp)).mono ?_
  rintro e w6 ⟨rfl, h6⟩
  go_wp2_with fail
  refine (ti_get (C := [5]) h6 0 5 rfl).mono ?_
  rintro e w7 ⟨rfl, rfl⟩
  go_wp2_with fail
  go_ret
  exact ⟨rfl, h6.bel⟩
end Go.Proofs.Ytgojncgdmcpkiaa.trl
