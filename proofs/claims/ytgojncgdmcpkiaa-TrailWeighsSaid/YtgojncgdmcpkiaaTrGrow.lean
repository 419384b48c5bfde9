/- A trail's Grow; Forget and Grow by what a trail tells. -/
import Derived.Test.YtgojncgdmcpkiaaTrForget
import Derived.Test.YtgojncgdmcpkiaaTrLaw
import Derived.Test.YtgojncgdmcpkiaaTrNil
import Derived.Test.YtgojncgdmcpkiaaZeros
namespace Go.Proofs.Ytgojncgdmcpkiaa.trl
open Go Go.RowKit Go.ChangeShapes Go.WideShapes Go.ChangeAt Go.Proofs.Ytgojncgdmcpkiaa.words
set_option linter.unusedVariables false
variable {g : Nat} {F : Nat → Prop} {cs : List Cl} {os : List Ol} {ms : List Mk} {ev : Nat}
theorem zeros_rep (N : Nat) : (Builtin.zeroCells #[.int .i64 0, .int .u64 0] N).toList = (List.replicate N ((0, 0) : Cl)).flatMap fcl := by
  apply List.ext_getElem?
  intro j
  rcases Nat.lt_or_ge j (N * 2) with hj | hj
  · have h1 : j / 2 < N := by omega
    have e := flat_get fcl 2 (fun _ => rfl) (List.replicate N ((0, 0) : Cl)) (j / 2) (j % 2) (0, 0) (by rw [List.getElem?_replicate, if_pos h1]) (Nat.mod_lt _ (by omega))
    rw [show j / 2 * 2 + j % 2 = j by omega] at e
    rw [e]
    have h2 : j % 2 = 0 ∨ j % 2 = 1 := by omega
    rcases h2 with h2 | h2 <;> simp [Builtin.zeroCells, hj, h2, fcl]
  · rw [List.getElem?_eq_none (by rw [Array.length_toList, size_zeroCells]; exact hj), List.getElem?_eq_none (by rw [flat_len fcl 2 (fun _ => rfl), List.length_replicate]; exact hj)]
theorem tr_append_cells {w w4 : World} (h : TR w g F cs os ms ev) {A1 : Option Addr} {c1 : Nat} (hc : w.cell? ⟨g, 0, none⟩ = some (.slice A1 cs.length c1)) (zs : List Cl) {A4 : Option Addr} {c4 : Nat}
    (hg4 : w.grownBy w4 (Value.slice A1 cs.length c1).ownBlock) (hown4 : w4.ownsRow 0 64 2 (.slice A4 (cs.length + zs.length) c4) (cs.length + zs.length) ((cs ++ zs).flatMap fcl))
    (hat : (Value.slice A4 (cs.length + zs.length) c4).ownBlock = (Value.slice A1 cs.length c1).ownBlock ∨ (Value.slice A4 (cs.length + zs.length) c4).ownBlock = some w.heap.size) :
    Left w g F (cs ++ zs) os ms ev (w4.setCell ⟨g, 0, none⟩ (.slice A4 (cs.length + zs.length) c4)) ∧ (∃ u, w4.cell? ⟨g, 0, none⟩ = some u) ∧ w4.frozen? ⟨g, 0, none⟩ = false := by
  obtain ⟨hg, A1', c1', A2, c2, A3, c3, hb, h1, f1, h2, f2, h3, f3⟩ := h
  rw [hb.cell 0] at hc
  have hc' : (Value.slice A1' cs.length c1') = .slice A1 cs.length c1 := by injection hc
  injection hc' with e1 _ e2
  subst e1; subst e2
  have hb4 : Blk w4 g 59 #[.slice A1' cs.length c1', .slice A2 os.length c2, .slice A3 ms.length c3, .int .u64 ev] := hb.grown hg4 fun e => own_blk_ne h1 hb (by decide) e.symm
  have hl : (cs ++ zs).length = cs.length + zs.length := by simp
  have hlen : (#[.slice A1' cs.length c1', .slice A2 os.length c2, .slice A3 ms.length c3, .int .u64 ev] : Array Value).setIfInBounds 0 (.slice A4 (cs.length + zs.length) c4) = #[.slice A4 (cs ++ zs).length c4, .slice A2 os.length c2, .slice A3 ms.length c3, .int .u64 ev] := by rw [hl]; rfl
  have hF4 : ∀ k, (Value.slice A4 (cs ++ zs).length c4).ownBlock = some k → F k ∨ w.heap.size ≤ k := fun k hk => by
    have hk' : (Value.slice A4 (cs.length + zs.length) c4).ownBlock = some k := by rw [← hk]; cases A4 <;> rfl
    rcases hat with e | e
    · exact .inl (f1 k (e.symm.trans hk'))
    · rw [hk'] at e; have := Option.some.inj e; exact .inr (by omega)
  have hbl := Below.refl w.heap.size w
  have := tr_upd (F' := fun k => F k ∨ w.heap.size ≤ k) (cs := cs ++ zs) (os := os) (ms := ms) (.inl hg) hb4 0 hlen (by rw [hl]; exact hown4) hF4 (own_kept_ne h2 h1 (by decide) hbl hg4) (fun k hk => .inl (f2 k hk))
    (own_kept_ne h3 h1 (by decide) hbl hg4) (fun k hk => .inl (f3 k hk))
  have ht4 : Tch w w4 F := Tch.of_grown hg4 (S := F) fun q _ hq => f1 q hq.symm
  exact ⟨⟨this.1, ht4.trans (this.2.mono fun q _ e => by rw [e]; exact hg) fun _ _ h => h⟩, ⟨_, hb4.cell 0⟩, hb4.frozen 0⟩
theorem grow_zero (w : World) (h : TR w g F cs os ms ev) (n : Int) (hn : n ≤ 0) :
    Calls Try.prog 21 #[.pointer (some ⟨g, 0, none⟩), .int .i64 n] w fun e w' => e = .returned (.int .i64 cs.length) ∧ w = w' := by
  have hl := tlen_any w h
  have hd : decide (0 < n) = false := decide_eq_false (by omega)
  go_enter Try.func21, Try.ntmps21
  go_wp2_with fail
  refine hl.mono ?_
  rintro e w' ⟨rfl, rfl⟩
  clear hl
  go_wp2_with fail
  go_ret
  exact ⟨rfl, rfl⟩
theorem grow_any (w : World) (h : TR w g F cs os ms ev) (k : Nat) (h0 : 0 < k) (hkb : k ≤ 1000) (hn : cs.length ≤ 1000000) :
    Calls Try.prog 21 #[.pointer (some ⟨g, 0, none⟩), .int .i64 k] w fun e w' => e = .returned (.int .i64 cs.length) ∧ Left w g F (cs ++ List.replicate k (0, 0)) os ms ev w' := by
  obtain ⟨i0, hi0, hz0, hz1, hz2⟩ := info_parts infoC
  have hcel : (Value.agg #[.int .i64 0, .int .u64 0]).cells = #[.int .i64 0, .int .u64 0] := by kernel_rfl
  have hl := tlen_any w h
  obtain ⟨A1, c1, hc, h1⟩ : ∃ A1 c1, w.cell? ⟨g, 0, none⟩ = some (.slice A1 cs.length c1) ∧ w.ownsRow 0 64 2 (.slice A1 cs.length c1) cs.length (cs.flatMap fcl) := by
    obtain ⟨hg, A1, c1, A2, c2, A3, c3, hb, h1, f1, h2, f2, h3, f3⟩ := h
    exact ⟨A1, c1, hb.cell 0, h1⟩
  obtain ⟨v4, w4, hrun, hown4, hg4, hat⟩ := run_append_own_zeros (P := Try.prog) w 0 54 3 54 64 i0 _ .i64 .i64 2 16 Try.underlying54 Try.underlying3 hi0 hz0 hz1 hz2 (by rw [hcel]; rfl) (by omega) _ _ _ h1 k h0
    (fun u hu => by
      rw [hcel, zeros_rep] at hu
      obtain ⟨a, _, ha⟩ := List.mem_flatMap.1 hu
      simp [fcl] at ha
      rcases ha with rfl | rfl <;> rfl) (by simp only [maxLen]; omega) (by omega) (Nat.zero_le _)
  obtain ⟨A4, c4, rfl⟩ := own_shape hown4
  rw [hcel, zeros_rep, ← List.flatMap_append] at hown4
  have hfin := tr_append_cells h hc (List.replicate k (0, 0)) (A4 := A4) (c4 := c4) hg4 (by rw [List.length_replicate]; exact hown4) (by rw [List.length_replicate]; exact hat)
  rw [List.length_replicate] at hfin
  obtain ⟨hL, ⟨u, k1⟩, k2⟩ := hfin
  have HL := Lib.hid hL
  obtain ⟨n, hn'⟩ : ∃ n, cs.length = n := ⟨_, rfl⟩
  rw [hn'] at hl hc hrun HL ⊢
  have s0 : (0 : Int) < (k : Int) := by omega
  clear hL hown4 hg4 hat h1 h hn'
  go_enter Try.func21, Try.ntmps21
  go_wp2_with fail
  refine hl.mono ?_
  rintro e w' ⟨rfl, rfl⟩
  clear hl
  go_wp2_with (at_builtin; refine Lib.wpList_append_run _ rfl _ _ _ _ rfl _ _ rfl rfl _ _ hrun ?_; clear hrun)
  go_ret
  exact ⟨rfl, HL.out⟩
variable {w0 w : World} {C : List Int} {ss : List (List Int)}
theorem ti_forget (h : TI w0 g C ss ev w) {stop ss0 : List (List Int)} {s : List Int} (hss : ss = stop ++ s :: ss0) (hn : C.length ≤ 1000) (hs : ss.length ≤ 1000) :
    Calls Try.prog 23 #[.pointer (some ⟨g, 0, none⟩), .int .i64 ss0.length] w fun e w' => e = .returned (.int .i64 0) ∧ TI w0 g C ss0 ev w' := by
  obtain ⟨cs, os, ms, h1, h2, h3, h4, h5, rfl⟩ := h
  rw [List.length_map] at hn
  have hml : ms.length = ss.length := by rw [h3.len, List.length_reverse]
  have hk : ss0.length < ms.length := by rw [hml, hss]; simp; omega
  obtain ⟨⟨mo, mc, mst⟩, hm⟩ : ∃ m, ms[ss0.length]? = some m := ⟨_, List.getElem?_eq_getElem hk⟩
  have hsp := rev_split hm
  have hw := h3.weight
  rw [List.length_reverse] at hw
  have hw' : ms.length * cs.length ≤ 1000 * 1000 := Nat.mul_le_mul (by omega) hn
  have hle := h3.le (mo, mc, mst) (by rw [hsp]; simp)
  have hdl : (ms.drop (ss0.length + 1)).reverse.length = stop.length := by rw [List.length_reverse, List.length_drop, hml, hss]; simp
  have hdrop : ss.drop ((ms.drop (ss0.length + 1)).reverse.length + 1) = ss0 := by
    rw [hdl, hss, ← List.drop_drop, List.drop_left]; rfl
  have hev := fun m hm => h5 m (List.mem_of_mem_take (i := ss0.length) hm)
  rcases Nat.eq_zero_or_pos ss0.length with hz | hz
  · have hz' : ss0 = [] := List.eq_nil_of_length_eq_zero hz
    subst hz'
    refine (forget_zero w h1 hm (by omega) (by omega) hle.2).mono ?_
    rintro e w' ⟨rfl, hl⟩
    obtain ⟨k1, k2⟩ := left_tb (cs := cs) (os := os) (ms := ms) (ev := ev) h2 hl
    rw [hsp] at h3
    obtain ⟨s', ss0', e1, e2, e3, e4⟩ := h3.undo
    have hos : os.take mo = [] := by
      simp only [List.length_nil, List.take_zero, List.reverse_nil] at e3
      exact e3.1
    refine ⟨rfl, _, _, _, k1, k2, ?_, h4, (fun m hm => by cases hm), rfl⟩
    rw [hos]; exact ⟨rfl, rfl⟩
  · obtain ⟨m', hm'⟩ : ∃ m', m' + 1 = ss0.length := ⟨ss0.length - 1, by omega⟩
    obtain ⟨⟨lo, lc, ls⟩, hlast⟩ : ∃ l, ms[m']? = some l := ⟨_, List.getElem?_eq_getElem (by omega)⟩
    have htk : (ms.take ss0.length).reverse = (lo, lc, ls) :: (ms.take m').reverse := by
      rw [← hm', List.take_add_one, hlast]
      simp
    have h3' := h3
    rw [hsp, htk] at h3
    have hg := h3.forget
    have hbp := h3.bump
    rw [hdrop] at hg
    refine (forget_in w h1 hm' hm hlast (by omega) (by omega) (by omega) hle.2 fun o ho => ?_).mono ?_
    · obtain ⟨c, hc, hx⟩ := hbp o ho
      exact ⟨c, hc, Nat.le_of_lt (hx (lo, lc, ls) (by simp))⟩
    rintro e w' ⟨rfl, hl⟩
    obtain ⟨k1, k2⟩ := left_tb (cs := cs) (os := os) (ms := ms) (ev := ev) h2 hl
    exact ⟨rfl, _, _, _, k1, k2, by rw [htk]; exact hg, h4, hev, rfl⟩
theorem ti_forget_out (h : TI w0 g C ss ev w) (i : Int) (hi : ¬ (0 ≤ i ∧ i < ss.length)) : Calls Try.prog 23 #[.pointer (some ⟨g, 0, none⟩), .int .i64 i] w fun e w' => e = .returned (.int .i64 2) ∧ w = w' :=
  forget_out _ _ w i (ti_depth h) hi
theorem ti_grow (h : TI w0 g C ss ev w) (n : Int) (hn : n ≤ 1000) (hC : C.length ≤ 1000) :
    Calls Try.prog 21 #[.pointer (some ⟨g, 0, none⟩), .int .i64 n] w fun e w' => e = .returned (.int .i64 C.length) ∧ TI w0 g (C ++ List.replicate n.toNat 0) ss ev w' := by
  obtain ⟨cs, os, ms, h1, h2, h3, h4, h5, rfl⟩ := h
  rw [List.length_map] at hC ⊢
  by_cases h0 : 0 < n
  · obtain ⟨k, rfl⟩ : ∃ k : Nat, n = k := ⟨n.toNat, by omega⟩
    refine (grow_any w h1 k (by omega) (by omega) (by omega)).mono ?_
    rintro e w' ⟨rfl, hl⟩
    obtain ⟨k1, k2⟩ := left_tb (cs := cs) (os := os) (ms := ms) (ev := ev) h2 hl
    refine ⟨rfl, _, _, _, k1, k2, h3.grow _, fun c hc => ?_, h5, by rw [List.map_append]; simp⟩
    rcases List.mem_append.1 hc with hc | hc
    · exact h4 c hc
    · rw [List.eq_of_mem_replicate hc]; exact Nat.zero_le _
  · refine (grow_zero w h1 n (by omega)).mono ?_
    rintro e w' ⟨rfl, rfl⟩
    rw [show n.toNat = 0 by omega, List.replicate_zero, List.append_nil]
    exact ⟨rfl, _, _, _, h1, h2, h3, h4, h5, rfl⟩
theorem ti_weight (h : TI w0 g C ss ev w) : ∃ n : Nat, n ≤ ss.length * C.length ∧ Calls Try.prog 19 #[.pointer (some ⟨g, 0, none⟩)] w fun e w' => e = .returned (.int .i64 n) ∧ w = w' := by
  obtain ⟨cs, os, ms, h1, h2, h3, h4, h5, rfl⟩ := h
  refine ⟨os.length, ?_, weight_any w h1⟩
  have := h3.weight
  rw [List.length_map, h3.len]; exact this
end Go.Proofs.Ytgojncgdmcpkiaa.trl
