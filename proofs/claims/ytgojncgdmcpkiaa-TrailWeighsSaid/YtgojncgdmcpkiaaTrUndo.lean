/- A trail's Undo. -/
import Derived.Test.YtgojncgdmcpkiaaTrMark
import Derived.Test.YtgojncgdmcpkiaaTrBack
import Derived.Test.YtgojncgdmcpkiaaStillIn
import Derived.Test.YtgojncgdmcpkiaaReads
import Derived.Deep.RegionWith
import Derived.Deep.DeepCutAuto
namespace Go.Proofs.Ytgojncgdmcpkiaa.trl
open Go Go.RowKit Go.Shelf Go.ChangeShapes Go.WideShapes Go.ChangeAt Go.Proofs.Ytgojncgdmcpkiaa.words
set_option linter.unusedVariables false
attribute [local go_sem] Oper.semAt_some
variable {g : Nat} {F : Nat → Prop} {cs : List Cl} {os : List Ol} {ms : List Mk} {ev : Nat}
set_option maxHeartbeats 4000000 in
/-- a cell is turned whole -/
theorem TR.setp {w : World} (h : TR w g F cs os ms ev) {i : Nat} {a : Cl} (ha : cs[i]? = some a) (v : Int) (st : Nat) : ∃ r c1, w.cell? ⟨g, 0, none⟩ = some (.slice (some ⟨r, 0, none⟩) cs.length c1) ∧ cs.length ≤ c1 ∧ w.frozen? ⟨r, i * 2, none⟩ = false ∧ w.frozen? ⟨r, i * 2 + 1, none⟩ = false ∧ (∃ u, w.cell? ⟨r, i * 2, none⟩ = some u) ∧ (∃ u, w.cell? ⟨r, i * 2 + 1, none⟩ = some u) ∧ F r ∧ r < w.heap.size ∧
    (∀ b t xs, t ≠ 64 → Blk w b t xs → b ≠ r) ∧ TR ((w.setCell ⟨r, i * 2, none⟩ (.int .i64 v)).setCell ⟨r, i * 2 + 1, none⟩ (.int .u64 st)) g F (cs.set i (v, st)) os ms ev ∧ Tch w ((w.setCell ⟨r, i * 2, none⟩ (.int .i64 v)).setCell ⟨r, i * 2 + 1, none⟩ (.int .u64 st)) (· = r) := by
  have hi := get_lt ha
  obtain ⟨hg, A1, c1, A2, c2, A3, c3, hb, h1, f1, h2, f2, h3, f3⟩ := h
  obtain ⟨r, rfl, d0, d1⟩ := cells_at h1 ha hi
  have hF : F r := f1 r rfl
  have hlt : r < w.heap.size := (own_in h1 (q := r) rfl).2
  have ne1 : r ≠ g := fun e => own_blk_ne h1 hb (by decide) (by rw [e]; rfl)
  have hne : ∀ b t xs, t ≠ 64 → Blk w b t xs → b ≠ r := fun b t xs ht hx e => own_blk_ne h1 hx (fun e => ht e.symm) (by rw [e]; rfl)
  have n2 : ∀ q, (Value.slice A2 os.length c2).ownBlock = some q → q ≠ r := fun q hq e => by
    subst e
    rcases h1.2 with ⟨h0, _⟩ | ⟨q', cap, cur, hv', _, hhp, _⟩
    · cases h0
    · cases hv'; exact own_blk_ne h2 hhp (by decide) hq
  have n3 : ∀ q, (Value.slice A3 ms.length c3).ownBlock = some q → q ≠ r := fun q hq e => by
    subst e
    rcases h1.2 with ⟨h0, _⟩ | ⟨q', cap, cur, hv', _, hhp, _⟩
    · cases h0
    · cases hv'; exact own_blk_ne h3 hhp (by decide) hq
  have ht : Tch w ((w.setCell ⟨r, i * 2, none⟩ (.int .i64 v)).setCell ⟨r, i * 2 + 1, none⟩ (.int .u64 st)) (· = r) := (Tch.set_ w (S := (· = r)) (p := ⟨r, i * 2, none⟩) _ rfl).put (p := ⟨r, i * 2 + 1, none⟩) _ rfl
  have h1' := cells_setv h1 ha v
  have ha' : (cs.set i (v, a.2))[i]? = some (v, a.2) := by rw [List.getElem?_set_self hi]
  have hs := cells_sets h1' ha' st
  rw [List.set_set] at hs
  have hx : w.cell? ⟨g, 0, none⟩ = some (.slice (some ⟨r, 0, none⟩) cs.length c1) := hb.cell 0
  have hz0 := h1.frozenAt (i * 2)
  have hz1 := h1.frozenAt (i * 2 + 1)
  have hcap := own_cap h1
  dsimp only at hs
  obtain ⟨w', hw'⟩ : ∃ w', (w.setCell ⟨r, i * 2, none⟩ (.int .i64 v)).setCell ⟨r, i * 2 + 1, none⟩ (.int .u64 st) = w' := ⟨_, rfl⟩
  rw [hw'] at ht hs
  have hb' := ht.blk hb fun e => ne1 e.symm
  have h2' := ht.own h2 (fun q hq e => n2 q hq e)
  have h3' := ht.own h3 (fun q hq e => n3 q hq e)
  clear h2 h3 hb h1 h1' n2 n3
  have hT : TR w' g F (cs.set i (v, st)) os ms ev := by
    refine ⟨hg, some ⟨r, 0, none⟩, c1, A2, c2, A3, c3, ?_, ?_, ?_, h2', f2, h3', f3⟩
    · rw [List.length_set]; exact hb'
    · rw [List.length_set]; exact hs
    · rw [List.length_set]; exact f1
  rw [← hw'] at hT ht
  exact ⟨r, c1, hx, hcap, hz0, hz1, ⟨_, d0⟩, ⟨_, d1⟩, hF, hlt, hne, hT, ht⟩
theorem own_trunc {w : World} {base s n c m : Nat} {e : TypeId} {A : Option Addr} {xs : List Value} (h : w.ownsRow base e s (.slice A n c) n xs) (hm : m ≤ n) : w.ownsRow base e s (.slice A m c) m (xs.take (m * s)) := by
  obtain ⟨hl, h2⟩ := h
  have hms : m * s ≤ n * s := Nat.mul_le_mul_right _ hm
  refine ⟨by rw [List.length_take, hl, Nat.min_eq_left hms], ?_⟩
  rcases h2 with ⟨h0, hn⟩ | ⟨g', cap', cur, hv, hg, hh, hn, hcap, hsz, htake⟩
  · injection h0 with h1 h2 h3
    subst h1; subst h3
    obtain rfl : m = 0 := by omega
    exact .inl ⟨rfl, rfl⟩
  · injection hv with h1 _ h3
    subst h1; subst h3
    refine .inr ⟨g', c, cur, rfl, hg, hh, by omega, hcap, hsz, ?_⟩
    rw [← htake, List.take_take, Nat.min_eq_left hms]
theorem flat_take {α : Type} (f : α → List Value) (s : Nat) (hs : ∀ x, (f x).length = s) (zs : List α) (m : Nat) : (zs.flatMap f).take (m * s) = (zs.take m).flatMap f := by
  induction zs generalizing m with
  | nil => simp
  | cons z zs ih =>
    cases m with
    | zero => simp
    | succ m =>
      rw [List.take_succ_cons, List.flatMap_cons, List.flatMap_cons, Nat.succ_mul, ← ih m, List.take_append, hs]
      rw [List.take_of_length_le (by rw [hs]; omega)]
      congr 2
      omega
theorem TR.bound {w : World} (h : TR w g F cs os ms ev) : TR w g (fun k => F k ∧ k < w.heap.size) cs os ms ev := by
  obtain ⟨hg, A1, c1, A2, c2, A3, c3, hb, h1, f1, h2, f2, h3, f3⟩ := h
  exact ⟨⟨hg, hb.lt⟩, A1, c1, A2, c2, A3, c3, hb, h1, fun k hk => ⟨f1 k hk, (own_in h1 hk).2⟩, h2, fun k hk => ⟨f2 k hk, (own_in h2 hk).2⟩, h3, fun k hk => ⟨f3 k hk, (own_in h3 hk).2⟩⟩
theorem undo_out (p : Option Addr) (n : Nat) (w : World) (i : Int) (hl : ∀ w', Below w.heap.size w w' → Calls Try.prog 17 #[.pointer p] w' fun e w'' => e = .returned (.int .i64 n) ∧ w' = w'') (hi : ¬ (0 ≤ i ∧ i < n)) :
    Calls Try.prog 14 #[.pointer p, .int .i64 i] w fun e w' => e = .returned (.int .i64 2) ∧ Below w.heap.size w w' := by
  have hop := open_of p n _ i (hl _ (bone w (.cells #[.pointer p] 27))) false (by simp; omega)
  clear hi
  refine (callsIn_wide (n := 4)).1 ?_
  refine callsIn_of_wp_marks Try.func14 rfl trivial ?_ rfl
  simp only [Try.ntmps14, List.size_toArray, List.length_cons, List.length_nil, Nat.reduceAdd, Nat.reduceSub, Array.replicate_succ, Array.replicate_zero, List.push_toArray, List.append_toArray, List.nil_append, List.cons_append]
  refine wpIn_wide.2 ?_
  go_wp2_with fail
  refine hop.mono ?_
  rintro e w' ⟨rfl, rfl⟩
  go_wp2_with fail
  exact ⟨_, results_tmp rfl _ _ _, rfl, bone _ _⟩
set_option maxRecDepth 100000 in
set_option maxHeartbeats 8000000 in
theorem undo_in (w : World) (h : TR w g F cs os ms ev) {m mo mc mst : Nat} (hm : ms[m]? = some (mo, mc, mst)) (hn : cs.length ≤ 1000000) (hmb : ms.length ≤ 1000000) (hob : os.length ≤ 1000000) (hmo : mo ≤ os.length) (hmc : mc ≤ cs.length) (hat : ∀ o ∈ os, o.1 < cs.length) :
    Calls Try.prog 14 #[.pointer (some ⟨g, 0, none⟩), .int .i64 m] w fun e w' => e = .returned (.int .i64 0) ∧ Left w g F ((backs cs (os.drop mo)).take mc) (os.take mo) (ms.take m) ev w' := by
  have hml := get_lt hm
  obtain ⟨wa, hwa⟩ : ∃ wa, w.alloc (.cells #[.pointer (some ⟨g, 0, none⟩)] 27) = wa := ⟨_, rfl⟩
  have hba : Below w.heap.size w wa := by rw [← hwa]; exact bone _ _
  have hbx : Blk wa w.heap.size 27 #[.pointer (some ⟨g, 0, none⟩)] := by rw [← hwa]; exact Blk.new _ _ _
  have hop := open_of _ _ wa (m : Int) (depth_any wa (h.below hba)) true (by simp; omega)
  obtain ⟨wb, hwb⟩ : ∃ wb, wa.alloc (.cells #[.int .i64 mo, .int .i64 mc, .int .u64 mst] 62) = wb := ⟨_, rfl⟩
  have hbb : Below wa.heap.size wa wb := by rw [← hwb]; exact bone _ _
  have hmx : Blk wb wa.heap.size 62 #[.int .i64 mo, .int .i64 mc, .int .u64 mst] := by rw [← hwb]; exact Blk.new _ _ _
  have hbx2 := hbx.under hbb
  obtain ⟨A2, r3, c2, c3, base, hm3, hcc⟩ : ∃ A2 r3 c2 c3, (∀ w', Below w.heap.size w w' → w'.cell? ⟨g, 1, none⟩ = some (.slice A2 os.length c2) ∧ w'.cell? ⟨g, 2, none⟩ = some (.slice (some ⟨r3, 0, none⟩) ms.length c3) ∧ w'.cell? ⟨r3, m * 3, none⟩ = some (.int .i64 mo) ∧ w'.cell? ⟨r3, m * 3 + 1, none⟩ = some (.int .i64 mc) ∧ w'.cell? ⟨r3, m * 3 + 2, none⟩ = some (.int .u64 mst)) ∧ os.length ≤ c2 ∧
      (∀ w', Below w.heap.size w w' → w'.ownsRow 0 66 3 (.slice A2 os.length c2) os.length (os.flatMap fol)) := by
    obtain ⟨hg, A1, c1, A2, c2, A3, c3, hb, h1, f1, h2, f2, h3, f3⟩ := h
    obtain ⟨r3, rfl, _, _⟩ := own_some h3 (by omega)
    refine ⟨A2, r3, c2, c3, fun w' hw => ?_, own_cap h2, fun w' hw => own_under h2 hw⟩
    obtain ⟨r3', hr, d0, d1, d2⟩ := marks_at (own_under h3 hw) hm hml
    injection hr with hr; injection hr with hr; subst hr
    exact ⟨(hb.under hw).cell 1, (hb.under hw).cell 2, d0, d1, d2⟩
  obtain ⟨p1, p2, d0, d1, d2⟩ := base wa hba
  obtain ⟨q1, q2, _, _, _⟩ := base wb (bto hba hbb)
  obtain ⟨n2, hn2⟩ : ∃ n, os.length = n := ⟨_, rfl⟩
  obtain ⟨n3, hn3⟩ : ∃ n, ms.length = n := ⟨_, rfl⟩
  rw [hn2] at p1 q1 hob hmo hm3
  rw [hn3] at p2 q2 hmb hml
  have b0 := hbx.cell 0
  have b1 := hbx2.cell 0
  have m0 := hmx.cell 0
  have s0 : (0 : Int) ≤ (mo : Int) := Int.natCast_nonneg _
  have s1 : (mo : Int) ≤ (n2 : Int) := by omega
  have s2 : (n2 : Int) ≤ (c2 : Int) := by omega
  have HTR := Lib.hid h
  have HM := Lib.hid hm
  have HBA := Lib.hid hba
  have HBB := Lib.hid hbb
  have HBX := Lib.hid hbx2
  have HMX := Lib.hid hmx
  have HN2 := Lib.hid hn2
  have HN3 := Lib.hid hn3
  have HBASE := Lib.hid base
  have HOWN := Lib.hid hcc
  have HAT := Lib.hid hat
  clear h hm hba hbb hbx hbx2 hmx hn2 hn3 base hcc hat
  refine (callsIn_wide (n := 4)).1 ?_
  refine callsIn_of_wp_marks Try.func14 rfl trivial ?_ rfl
  simp only [Try.ntmps14, List.size_toArray, List.length_cons, List.length_nil, Nat.reduceAdd, Nat.reduceSub, Array.replicate_succ, Array.replicate_zero, List.push_toArray, List.append_toArray, List.nil_append, List.cons_append]
  refine wpIn_wide.2 ?_
  refine Code.wp_mono NoPanic.imp ?_
  go_wp2_with fail
  refine hop.mono ?_
  rintro e w' ⟨rfl, rfl⟩
  clear hop
  go_wp2_with fail
  clear hwa hwb p1 p2 d0 d1 d2 b0
  go_cut [26] from 19 to 66 (fun fv wx => ∃ A5 c5 Bs, fv = .func (.func 31) #[] #[.pointer (some ⟨Bs, 0, none⟩)] ∧ Below wb.heap.size wb wx ∧ wb.heap.size ≤ Bs ∧ Blk wx Bs 55 #[.slice A5 (n2 - mo) c5] ∧ (n2 ≤ mo ∨ ∃ r2, A2 = some ⟨r2, 0, none⟩ ∧ A5 = some ⟨r2, mo * 3, none⟩ ∧ n2 - mo ≤ c5))
  case first =>
    rcases HOWN.out w (Below.refl _ _) with ⟨_, h0 | ⟨r2, cap, cur, h0, _⟩⟩
    · obtain ⟨h1, h2⟩ := h0
      injection h1 with h1 _ h3
      rw [HN2.out] at h2
      subst h1; subst h2; subst h3
      obtain rfl : mo = 0 := by omega
      go_region_with (go_at_call 27; refine (back_any _ _ _ _).mono ?_; rintro e w5 ⟨rfl, hw5⟩)
      all_goals
        go_wp2_with fail
        go_meet
        case rel =>
          subst hw5
          refine ⟨_, _, _, rfl, ?_, ?_, Blk.new _ _ _, .inl (Nat.zero_le _)⟩
          · first | exact bone _ _ | exact (bone _ _).drew | exact bnew (Below.refl _ _).drew _ | exact (bnew (Below.refl _ _).drew _).drew
          · first | exact Nat.le_refl _ | (simp; done)
    · injection h0 with h0 _ h3
      subst h0
      by_cases hcm : c2 = mo
      · go_region_with (go_at_call 27; refine (back_any _ _ _ _).mono ?_; rintro e w5 ⟨rfl, hw5⟩)
        all_goals
          go_wp2_with fail
          go_meet
          case rel =>
            subst hw5
            refine ⟨_, _, _, rfl, ?_, ?_, Blk.new _ _ _, .inl (by omega)⟩
            · first | exact bone _ _ | exact (bone _ _).drew | exact bnew (Below.refl _ _).drew _ | exact (bnew (Below.refl _ _).drew _).drew
            · first | exact Nat.le_refl _ | (simp; done)
      · go_region_with (go_at_call 27; refine (back_any _ _ _ _).mono ?_; rintro e w5 ⟨rfl, hw5⟩)
        all_goals
          go_wp2_with fail
          go_meet
          case rel =>
            subst hw5
            refine ⟨_, _, _, rfl, ?_, ?_, Blk.new _ _ _, .inr ⟨r2, rfl, if_neg (by omega), by omega⟩⟩
            · first | exact bone _ _ | exact (bone _ _).drew | exact bnew (Below.refl _ _).drew _ | exact (bnew (Below.refl _ _).drew _).drew
            · first | exact Nat.le_refl _ | (simp; done)
  case rest =>
    obtain ⟨A5, c5, Bs, rfl, hbc, hBs, hbs, hrest⟩ := hcut
    go_wp2_with fail
    have hBc := bto (bto HBA.out HBB.out) hbc
    have hTc := (HTR.out.below hBc).bound
    have hx1 : Blk wc w.heap.size 27 #[.pointer (some ⟨g, 0, none⟩)] := HBX.out.under hbc
    have hx2 : Blk wc wa.heap.size 62 #[.int .i64 mo, .int .i64 mc, .int .u64 mst] := HMX.out.under hbc
    obtain ⟨A1, c1, bc, hg0, hbcA, hb1, hb2, hc1⟩ : ∃ A1 c1 bc, wc.cell? ⟨g, 0, none⟩ = some (.slice A1 cs.length c1) ∧ (∀ r, A1 = some ⟨r, 0, none⟩ → r = bc) ∧ Bs ≠ bc ∧ (∀ r2, A2 = some ⟨r2, 0, none⟩ → r2 ≠ bc) ∧ cs.length ≤ c1 := by
      obtain ⟨hg, A1, c1, A2', c2', A3, c3', hb, h1, f1, h2, f2, h3, f3⟩ := HTR.out.below hBc
      have hc1 := own_cap h1
      have own2 := HOWN.out wc hBc
      rcases h1.2 with ⟨h0, _⟩ | ⟨r, cap, cur, h0, _, hh, _⟩
      · injection h0 with h0 _ _
        subst h0
        refine ⟨none, c1, wc.heap.size, hb.cell 0, fun r hr => (by cases hr), fun e => by have := hbs.lt; omega, fun r2 hr2 => ?_, hc1⟩
        subst hr2
        have := (own_in own2 (q := r2) rfl).2
        omega
      · injection h0 with h0 _ _
        subst h0
        refine ⟨some ⟨r, 0, none⟩, c1, r, hb.cell 0, fun r' hr => by injection hr with hr; injection hr with hr; exact hr.symm, fun e => own_blk_ne h1 hbs (by decide) (by rw [e]; rfl), fun r2 hr2 e => ?_, hc1⟩
        subst hr2
        exact own_own_ne h1 own2 (by decide) (k := r) rfl (by rw [← e]; rfl)
    have hlo : (os.drop mo).length = n2 - mo := by rw [List.length_drop, HN2.out]
    have hoa : OldsAt wc wc.heap.size bc A5 c5 (os.drop mo) := by
      rcases hrest with h | ⟨r2, e1, e2, e3⟩
      · exact .inl (List.drop_eq_nil_of_le (by rw [HN2.out]; exact h))
      · refine .inr ⟨r2, mo * 3, e2, by rw [hlo]; exact e3, ?_, hb2 r2 e1, fun j o ho => ?_⟩
        · have own2 := HOWN.out wc hBc
          rw [e1] at own2
          exact (own_in own2 (q := r2) rfl).2
        · rw [List.getElem?_drop] at ho
          have own2 := HOWN.out wc hBc
          rw [e1] at own2
          obtain ⟨r2', hr, d0, d1, d2⟩ := olds_at own2 ho (get_lt ho)
          injection hr with hr; injection hr with hr; subst hr
          rw [show mo * 3 + j * 3 = (mo + j) * 3 by omega]
          exact ⟨d0, d1, d2⟩
    have hw1 : w.heap.size < wc.heap.size := hx1.lt
    have hw2 : wa.heap.size < wc.heap.size := hx2.lt
    have hatd : ∀ o ∈ os.drop mo, o.1 < cs.length := fun o ho => HAT.out o (List.mem_of_mem_drop ho)
    have hIown : OwnFrom wc.heap.size (fun (pre : List (Okd cs.length)) W => (TR W g (fun k => F k ∧ k < wc.heap.size) (fwd cs (pre.map (·.1))) os ms ev ∧ W.cell? ⟨g, 0, none⟩ = some (.slice A1 cs.length c1) ∧ Blk W w.heap.size 27 #[.pointer (some ⟨g, 0, none⟩)] ∧ Blk W wa.heap.size 62 #[.int .i64 mo, .int .i64 mc, .int .u64 mst]) ∧ Tch wc W F) := by
      rintro s W W' row ⟨⟨i1, i2, i3, i4⟩, i5⟩ hg hr
      have ht : Tch W W' (fun k => wc.heap.size ≤ k) := Tch.of_grown hg fun i _ e => (hr i e.symm).1
      have hgl : g < wc.heap.size := by obtain ⟨hg', _⟩ := i1; exact hg'.2
      exact ⟨⟨i1.keep ht fun k hk h => by omega, (World.cell?_of_block (ht.block g (Nat.lt_of_lt_of_le hgl i5.size) (by omega))).trans i2, ht.blk i3 (by omega), ht.blk i4 (by omega)⟩, i5.trans ht fun i hi h => by omega⟩
    refine (wpIn_wide (n := 4)).1 ?_
    refine wpIn_rangeFunc_ownH rfl (by omega) (gf := 31) (lb := #[.pointer (some ⟨Bs, 0, none⟩)]) rfl trivial (enters_of Try.func31 (by kernel_rfl) rfl)
      (back_stops Fence.wide (4 - 1) trivial rfl (by omega) Bs wc.heap.size bc c5 cs.length A5 (os.drop mo) hatd (by rw [hlo]; omega) wc (Nat.le_refl _) hbs.lt hb1 (by rw [hlo]; exact hbs.cell 0) hoa)
      KpU.trans (KpU.put (Nat.le_refl _)) (Below.refl _ _) (fun _ => rfl)
      (fun (pre : List (Okd cs.length)) W => (TR W g (fun k => F k ∧ k < wc.heap.size) (fwd cs (pre.map (·.1))) os ms ev ∧ W.cell? ⟨g, 0, none⟩ = some (.slice A1 cs.length c1) ∧ Blk W w.heap.size 27 #[.pointer (some ⟨g, 0, none⟩)] ∧ Blk W wa.heap.size 62 #[.int .i64 mo, .int .i64 mc, .int .u64 mst]) ∧ Tch wc W F)
      (fun _ _ _ => False) hIown (fun _ _ _ _ _ hs _ _ => hs) ⟨⟨hTc, hg0, hx1, hx2⟩, Tch.refl _ _⟩
      (fun x a' W => ∃ Bx, wc.heap.size ≤ Bx ∧ Blk W Bx 66 #[.int .i64 (x.1.2.1 : Int), .int .i64 x.1.2.2.1, .int .u64 (x.1.2.2.2 : Int)] ∧ a' = { tmps := #[.pointer (some ⟨g, 0, none⟩), .int .i64 m, .pointer (some ⟨w.heap.size, 0, none⟩), undef, .int .i64 0, .pointer (some ⟨wa.heap.size, 0, none⟩), undef, .pointer (some ⟨Bx, 0, none⟩), .pointer (some ⟨g, 0, none⟩), .int .i64 m, .bool true, .bool false, .pointer (some ⟨g, 0, none⟩), .pointer (some ⟨g, 0, none⟩), .pointer (some ⟨g, 2, none⟩), .slice (some ⟨r3, 0, none⟩) n3 c3, .int .i64 m, .pointer (some ⟨r3, m * 3, none⟩), .agg #[.int .i64 mo, .int .i64 mc, .int .u64 mst], u19, u20, u21, u22, u23, u24, u25, .func (.func 31) #[] #[.pointer (some ⟨Bs, 0, none⟩)], .int .i64 (x.1.1 : Int), oldV x.1.2, u29, u30, u31, u32, u33, u34, u35, u36, u37, u38, u39, u40, u41, u42, u43, u44, u45, u46, u47, u48, u49, u50, u51, u52, u53, u54, u55, u56, u57, u58, u59, u60, u61, u62, u63, u64, u65, u66], defers := [] })
      (fun x a' _ X Y row hs hg hr => by
        obtain ⟨Bx, k1, k2, k3⟩ := hs
        refine ⟨Bx, k1, (hg.block Bx k2.lt fun e => ?_).trans k2, k3⟩
        obtain ⟨_, o, ho, hc⟩ := hr Bx e.symm
        rw [show X.heap[Bx]? = _ from k2] at ho
        cases ho; cases hc)
      ?assign ?body ?done ?stop
    case assign =>
      intro l pre x W K hI hK
      gi_wp2
      exact hK _ _ ((KeepsOthers.alloc _ _).from _) ⟨by simp, fun k _ _ h3 => Below.heap_alloc W _ k h3⟩ (hIown.alloc _ hI) ⟨W.heap.size, hI.2.size, Blk.new _ _ _, rfl⟩
    case body =>
      rintro l pre x a' W hl ⟨rr, hr⟩ ⟨⟨hT, hg0', hx1', hx2'⟩, hTch⟩ ⟨Bx, hBx, hbx, rfl⟩ hlt
      obtain ⟨⟨j, at_, v, st⟩, hxl⟩ := x
      have hxl' : at_ < cs.length := hxl
      have hcl : (fwd cs (pre.map (·.1))).length = cs.length := fwd_len _ _
      obtain ⟨a, ha⟩ : ∃ a, (fwd cs (pre.map (·.1)))[at_]? = some a := ⟨_, List.getElem?_eq_getElem (by rw [hcl]; exact hxl')⟩
      obtain ⟨r, c1', hc0, hcap, k0, k1, ⟨u0, e0⟩, ⟨u1, e1⟩, hFr, hrlt, hne, hT', ht'⟩ := hT.setp ha v st
      rw [hg0', hcl] at hc0
      have hc0' := Option.some.inj hc0
      injection hc0' with e2 _ e3
      subst e2
      obtain rfl := hbcA r rfl
      have b0 := hx1'.cell 0
      have o0 := hbx.cell 0
      have o1 := hbx.cell 1
      have o2 := hbx.cell 2
      obtain ⟨n, hn'⟩ : ∃ n, cs.length = n := ⟨_, rfl⟩
      have hi1 : (at_ : Int) < (n : Int) := by omega
      have hi0 : (0 : Int) ≤ (at_ : Int) := Int.natCast_nonneg _
      have hgr : g ≠ r := by obtain ⟨_, _, _, _, _, _, _, hb, _⟩ := hT; exact hne _ _ _ (by decide) hb
      have hgl : g < W.heap.size := by obtain ⟨_, _, _, _, _, _, _, hb, _⟩ := hT; exact hb.lt
      have hg0n := hg0'
      rw [hn'] at hg0n
      have HT' := Lib.hid hT'
      have Ht' := Lib.hid ht'
      have HT := Lib.hid hTch
      have HX1 := Lib.hid hx1'
      have HX2 := Lib.hid hx2'
      have HC := Lib.hid hg0'
      have HFR := Lib.hid hFr
      have HNE := Lib.hid hne
      have HNN := Lib.hid hn'
      have HXL := Lib.hid hxl'
      clear hT hT' ht' hTch hx1' hx2' hg0' hFr hne hn' hc0 hcap hbx ha hcl hxl' hoa hTc hx1 hx2 hg0 hIown hrest hbs hatd
      dsimp only [oldV]
      gi_wp2
      refine wpIn_region_tail 9 (by kernel_rfl) (by kernel_rfl) (by kernel_rfl) ?_
      simp only [List.take_succ_cons, List.take_zero, List.drop_succ_cons, List.drop_zero]
      repeat still_step
      try refine wpStill_nil ?_
      gi_wp2
      refine ⟨(((KeepsOthers.setCell _ _ _).trans (KeepsOthers.setCell _ _ _)).trans (KeepsOthers.drew _)).from _, ⟨Ht'.out.size, fun k _ h2 h3 => Ht'.out.block k h3 h2⟩, ⟨?_, ?_, ?_, ?_⟩, ?_⟩
      · rw [List.map_append]
        show TR _ g _ (fwd cs (pre.map (·.1) ++ [(j, at_, v, st)])) os ms ev
        rw [fwd_snoc]
        exact HT'.out.below (Below.refl _ _).drew
      · exact (World.cell?_of_block (Ht'.out.block g hgl hgr)).trans HC.out
      · exact Ht'.out.blk HX1.out (HNE.out _ _ _ (by decide) HX1.out)
      · exact Ht'.out.blk HX2.out (HNE.out _ _ _ (by decide) HX2.out)
      · exact HT.out.trans (Ht'.out.drew.mono (S' := F) fun i _ e => by rw [e]; exact HFR.out.1) fun _ _ h => h
    case done =>
      rintro D ys W hD hS ⟨⟨hT, hg0', hx1', hx2'⟩, hTch⟩ hK
      rw [hS, fwd_come] at hT
      have b0 := hx1'.cell 0
      have m0' := hx2'.cell 0
      have m1' := hx2'.cell 1
      obtain ⟨hg, A1', c1', A2', c2', A3', c3', hb, h1, f1, h2, f2, h3, f3⟩ := hT
      rw [backs_len] at hb h1 f1
      obtain ⟨p0, p1, p2, p3⟩ := four hb
      have nb1 : ¬ w.heap.size = g := fun e => Blk.ne_ hx1' hb (by decide) e
      have nb2 : ¬ wa.heap.size = g := fun e => Blk.ne_ hx2' hb (by decide) e
      have g0 := hb.frozen 0
      have g1 := hb.frozen 1
      have g2 := hb.frozen 2
      have y0 := own_cap h1
      have y1 := own_cap h2
      have y2 := own_cap h3
      obtain ⟨n, hn'⟩ : ∃ n, cs.length = n := ⟨_, rfl⟩
      rw [hn'] at p0 hmc hn y0
      rw [HN2.out] at p1 y1
      rw [HN3.out] at p2 y2
      have z0 : (0 : Int) ≤ (mc : Int) := Int.natCast_nonneg _
      have z1 : (mc : Int) ≤ (c1' : Int) := by omega
      have z2 : (mo : Int) ≤ (c2' : Int) := by omega
      have z3 : (0 : Int) ≤ (m : Int) := Int.natCast_nonneg _
      have z4 : (m : Int) ≤ (c3' : Int) := by omega
      have HNN := Lib.hid hn'
      have HB := Lib.hid hb
      have HK := Lib.hid hK
      have H1 := Lib.hid h1
      have H2 := Lib.hid h2
      have H3 := Lib.hid h3
      have HT := Lib.hid hTch
      clear hb hK h1 h2 h3 hTch hn' hoa hTc hx1 hx2 hg0 hIown hrest hbs hatd hx1' hx2' hg0' hS q1 q2 m0 b1 hbcA hb1 hb2
      go_wp2_with fail
      go_cut [] from 38 to 66 (fun wx => wx = (((W.setCell ⟨g, 1, none⟩ (.slice A2' mo c2')).setCell ⟨g, 0, none⟩ (.slice A1' mc c1')).setCell ⟨g, 2, none⟩ (.slice A3' m c3')).drew)
      case first =>
        refine wp_region_any (by kernel_rfl) ?_
        refine wpAny_reads (g := 16) (by kernel_rfl) (fun c a w h => h) (by rintro ⟨a, w', h⟩; cases h.1) [0, 3, 4, 5, 6, 7, 8, 9, 10, 11, 12, 13, 17, 18, 19, 20] _ _ (closed_none _) (by kernel_rfl) ?_ (fun _ h => h)
        repeat still_step
        try refine wpStill_nil ?_
        refine wpAny_take (i := 14) (v := .pointer (some ⟨wa.heap.size, 1, none⟩)) rfl (by kernel_rfl) (by kernel_rfl) (by kernel_rfl) (fun c a w h => h) (Or.inl ⟨by go_simp, fun w => by go_simp⟩) ?_
        go_simp
        refine wpAny_take (i := 21) (v := .int .i64 m) rfl (by kernel_rfl) (by kernel_rfl) (by kernel_rfl) (fun c a w h => h) (Or.inl ⟨by go_simp, fun w => by go_simp⟩) ?_
        go_simp
        refine wpAny_take (i := 22) (v := .slice A3' m c3') rfl (by kernel_rfl) (by kernel_rfl) (by kernel_rfl) (fun c a w h => h) (Or.inl ⟨by go_simp, fun w => by go_simp⟩) ?_
        go_simp
        refine wpAny_take (i := 23) (v := .pointer (some ⟨g, 0, none⟩)) rfl (by kernel_rfl) (by kernel_rfl) (by kernel_rfl) (fun c a w h => h) (Or.inl ⟨by go_simp, fun w => by go_simp⟩) ?_
        go_simp
        refine wpAny_take (i := 24) (v := .pointer (some ⟨g, 1, none⟩)) rfl (by kernel_rfl) (by kernel_rfl) (by kernel_rfl) (fun c a w h => h) (Or.inl ⟨by go_simp, fun w => by go_simp⟩) ?_
        go_simp
        refine wpAny_br (rs := [1, 2, 15, 25]) (by kernel_rfl) (by simp) ?_
        intro i hi
        simp only [List.mem_cons, List.not_mem_nil, or_false] at hi
        rcases hi with rfl | rfl | rfl | rfl
        · intro K hK
          unfold wpOp
          go_simp
          refine Or.inl (hK _ _ ?_)
          clear hK K
          refine wpAny_br (rs := [2, 15, 25]) (by kernel_rfl) (by simp) ?_
          intro i hi
          simp only [List.mem_cons, List.not_mem_nil, or_false] at hi
          rcases hi with rfl | rfl | rfl
          · intro K hK
            unfold wpOp
            go_simp
            refine Or.inl (hK _ _ ?_)
            clear hK K
            refine wpAny_br (rs := [15, 25]) (by kernel_rfl) (by simp) ?_
            intro i hi
            simp only [List.mem_cons, List.not_mem_nil, or_false] at hi
            rcases hi with rfl | rfl
            · intro K hK
              unfold wpOp
              go_simp
              refine Or.inl (hK _ _ ?_)
              clear hK K
              refine wpAny_take (i := 16) (v := .slice A1' mc c1') rfl (by kernel_rfl) (by kernel_rfl) (by kernel_rfl) (fun c a w h => h) (Or.inl ⟨by go_simp, fun w => by go_simp⟩) ?_
              go_simp
              refine wpAny_br (rs := [25]) (by kernel_rfl) (by simp) ?_
              intro i hi
              simp only [List.mem_cons, List.not_mem_nil, or_false] at hi
              subst hi
              intro K hK
              unfold wpOp
              go_simp
              refine Or.inl (hK _ _ ?_)
              clear hK K
              refine wpAny_take (i := 26) (v := .pointer (some ⟨g, 0, none⟩)) rfl (by kernel_rfl) (by kernel_rfl) (by kernel_rfl) (fun c a w h => h) (Or.inl ⟨by go_simp, fun w => by go_simp⟩) ?_
              go_simp
              refine wpAny_take (i := 27) (v := .pointer (some ⟨g, 0, none⟩)) rfl (by kernel_rfl) (by kernel_rfl) (by kernel_rfl) (fun c a w h => h) (Or.inl ⟨by go_simp, fun w => by go_simp⟩) ?_
              go_simp
              refine wpAny_br (rs := [28]) (by kernel_rfl) (by simp) ?_
              intro i hi
              simp only [List.mem_cons, List.not_mem_nil, or_false] at hi
              subst hi
              intro K hK
              unfold wpOp
              go_simp
              refine Or.inl (hK _ _ ?_)
              clear hK K
              refine wpAny_take (i := 29) (v := .pointer (some ⟨g, 0, none⟩)) rfl (by kernel_rfl) (by kernel_rfl) (by kernel_rfl) (fun c a w h => h) (Or.inl ⟨by go_simp, fun w => by go_simp⟩) ?_
              go_simp
              refine wpAny_take (i := 30) (v := .pointer (some ⟨g, 2, none⟩)) rfl (by kernel_rfl) (by kernel_rfl) (by kernel_rfl) (fun c a w h => h) (Or.inl ⟨by go_simp, fun w => by go_simp⟩) ?_
              go_simp
              refine wpAny_br (rs := [31]) (by kernel_rfl) (by simp) ?_
              intro i hi
              simp only [List.mem_cons, List.not_mem_nil, or_false] at hi
              subst hi
              intro K hK
              unfold wpOp
              go_simp
              refine Or.inl (hK _ _ ?_)
              clear hK K
              refine wpAny_done (by kernel_rfl) ?_ _
              go_wp2_with fail
              go_meet
              case rel => rfl
            · intro K hK
              unfold wpOp
              go_simp
              refine Or.inl (hK _ _ ?_)
              clear hK K
              refine wpAny_br (rs := [15]) (by kernel_rfl) (by simp) ?_
              intro i hi
              simp only [List.mem_cons, List.not_mem_nil, or_false] at hi
              subst hi
              intro K hK
              unfold wpOp
              go_simp
              refine Or.inl (hK _ _ ?_)
              clear hK K
              refine wpAny_take (i := 16) (v := .slice A1' mc c1') rfl (by kernel_rfl) (by kernel_rfl) (by kernel_rfl) (fun c a w h => h) (Or.inl ⟨by go_simp, fun w => by go_simp⟩) ?_
              go_simp
              refine wpAny_take (i := 26) (v := .pointer (some ⟨g, 0, none⟩)) rfl (by kernel_rfl) (by kernel_rfl) (by kernel_rfl) (fun c a w h => h) (Or.inl ⟨by go_simp, fun w => by go_simp⟩) ?_
              go_simp
              refine wpAny_take (i := 27) (v := .pointer (some ⟨g, 0, none⟩)) rfl (by kernel_rfl) (by kernel_rfl) (by kernel_rfl) (fun c a w h => h) (Or.inl ⟨by go_simp, fun w => by go_simp⟩) ?_
              go_simp
              refine wpAny_br (rs := [28]) (by kernel_rfl) (by simp) ?_
              intro i hi
              simp only [List.mem_cons, List.not_mem_nil, or_false] at hi
              subst hi
              intro K hK
              unfold wpOp
              go_simp
              refine Or.inl (hK _ _ ?_)
              clear hK K
              refine wpAny_take (i := 29) (v := .pointer (some ⟨g, 0, none⟩)) rfl (by kernel_rfl) (by kernel_rfl) (by kernel_rfl) (fun c a w h => h) (Or.inl ⟨by go_simp, fun w => by go_simp⟩) ?_
              go_simp
              refine wpAny_take (i := 30) (v := .pointer (some ⟨g, 2, none⟩)) rfl (by kernel_rfl) (by kernel_rfl) (by kernel_rfl) (fun c a w h => h) (Or.inl ⟨by go_simp, fun w => by go_simp⟩) ?_
              go_simp
              refine wpAny_br (rs := [31]) (by kernel_rfl) (by simp) ?_
              intro i hi
              simp only [List.mem_cons, List.not_mem_nil, or_false] at hi
              subst hi
              intro K hK
              unfold wpOp
              go_simp
              refine Or.inl (hK _ _ ?_)
              clear hK K
              refine wpAny_done (by kernel_rfl) ?_ _
              go_wp2_with fail
              go_meet
              case rel => rfl
          · intro K hK
            unfold wpOp
            go_simp
            refine Or.inl (hK _ _ ?_)
            clear hK K
            refine wpAny_take (i := 16) (v := .slice A1' mc c1') rfl (by kernel_rfl) (by kernel_rfl) (by kernel_rfl) (fun c a w h => h) (Or.inl ⟨by go_simp, fun w => by go_simp⟩) ?_
            go_simp
            refine wpAny_br (rs := [2, 25]) (by kernel_rfl) (by simp) ?_
            intro i hi
            simp only [List.mem_cons, List.not_mem_nil, or_false] at hi
            rcases hi with rfl | rfl
            · intro K hK
              unfold wpOp
              go_simp
              refine Or.inl (hK _ _ ?_)
              clear hK K
              refine wpAny_br (rs := [25]) (by kernel_rfl) (by simp) ?_
              intro i hi
              simp only [List.mem_cons, List.not_mem_nil, or_false] at hi
              subst hi
              intro K hK
              unfold wpOp
              go_simp
              refine Or.inl (hK _ _ ?_)
              clear hK K
              refine wpAny_take (i := 26) (v := .pointer (some ⟨g, 0, none⟩)) rfl (by kernel_rfl) (by kernel_rfl) (by kernel_rfl) (fun c a w h => h) (Or.inl ⟨by go_simp, fun w => by go_simp⟩) ?_
              go_simp
              refine wpAny_take (i := 27) (v := .pointer (some ⟨g, 0, none⟩)) rfl (by kernel_rfl) (by kernel_rfl) (by kernel_rfl) (fun c a w h => h) (Or.inl ⟨by go_simp, fun w => by go_simp⟩) ?_
              go_simp
              refine wpAny_br (rs := [28]) (by kernel_rfl) (by simp) ?_
              intro i hi
              simp only [List.mem_cons, List.not_mem_nil, or_false] at hi
              subst hi
              intro K hK
              unfold wpOp
              go_simp
              refine Or.inl (hK _ _ ?_)
              clear hK K
              refine wpAny_take (i := 29) (v := .pointer (some ⟨g, 0, none⟩)) rfl (by kernel_rfl) (by kernel_rfl) (by kernel_rfl) (fun c a w h => h) (Or.inl ⟨by go_simp, fun w => by go_simp⟩) ?_
              go_simp
              refine wpAny_take (i := 30) (v := .pointer (some ⟨g, 2, none⟩)) rfl (by kernel_rfl) (by kernel_rfl) (by kernel_rfl) (fun c a w h => h) (Or.inl ⟨by go_simp, fun w => by go_simp⟩) ?_
              go_simp
              refine wpAny_br (rs := [31]) (by kernel_rfl) (by simp) ?_
              intro i hi
              simp only [List.mem_cons, List.not_mem_nil, or_false] at hi
              subst hi
              intro K hK
              unfold wpOp
              go_simp
              refine Or.inl (hK _ _ ?_)
              clear hK K
              refine wpAny_done (by kernel_rfl) ?_ _
              go_wp2_with fail
              go_meet
              case rel => rfl
            · intro K hK
              unfold wpOp
              go_simp
              refine Or.inl (hK _ _ ?_)
              clear hK K
              refine wpAny_take (i := 26) (v := .pointer (some ⟨g, 0, none⟩)) rfl (by kernel_rfl) (by kernel_rfl) (by kernel_rfl) (fun c a w h => h) (Or.inl ⟨by go_simp, fun w => by go_simp⟩) ?_
              go_simp
              refine wpAny_take (i := 27) (v := .pointer (some ⟨g, 0, none⟩)) rfl (by kernel_rfl) (by kernel_rfl) (by kernel_rfl) (fun c a w h => h) (Or.inl ⟨by go_simp, fun w => by go_simp⟩) ?_
              go_simp
              refine wpAny_br (rs := [2, 28]) (by kernel_rfl) (by simp) ?_
              intro i hi
              simp only [List.mem_cons, List.not_mem_nil, or_false] at hi
              rcases hi with rfl | rfl
              · intro K hK
                unfold wpOp
                go_simp
                refine Or.inl (hK _ _ ?_)
                clear hK K
                refine wpAny_br (rs := [28]) (by kernel_rfl) (by simp) ?_
                intro i hi
                simp only [List.mem_cons, List.not_mem_nil, or_false] at hi
                subst hi
                intro K hK
                unfold wpOp
                go_simp
                refine Or.inl (hK _ _ ?_)
                clear hK K
                refine wpAny_take (i := 29) (v := .pointer (some ⟨g, 0, none⟩)) rfl (by kernel_rfl) (by kernel_rfl) (by kernel_rfl) (fun c a w h => h) (Or.inl ⟨by go_simp, fun w => by go_simp⟩) ?_
                go_simp
                refine wpAny_take (i := 30) (v := .pointer (some ⟨g, 2, none⟩)) rfl (by kernel_rfl) (by kernel_rfl) (by kernel_rfl) (fun c a w h => h) (Or.inl ⟨by go_simp, fun w => by go_simp⟩) ?_
                go_simp
                refine wpAny_br (rs := [31]) (by kernel_rfl) (by simp) ?_
                intro i hi
                simp only [List.mem_cons, List.not_mem_nil, or_false] at hi
                subst hi
                intro K hK
                unfold wpOp
                go_simp
                refine Or.inl (hK _ _ ?_)
                clear hK K
                refine wpAny_done (by kernel_rfl) ?_ _
                go_wp2_with fail
                go_meet
                case rel => rfl
              · intro K hK
                unfold wpOp
                go_simp
                refine Or.inl (hK _ _ ?_)
                clear hK K
                refine wpAny_br (rs := [2]) (by kernel_rfl) (by simp) ?_
                intro i hi
                simp only [List.mem_cons, List.not_mem_nil, or_false] at hi
                subst hi
                intro K hK
                unfold wpOp
                go_simp
                refine Or.inl (hK _ _ ?_)
                clear hK K
                refine wpAny_take (i := 29) (v := .pointer (some ⟨g, 0, none⟩)) rfl (by kernel_rfl) (by kernel_rfl) (by kernel_rfl) (fun c a w h => h) (Or.inl ⟨by go_simp, fun w => by go_simp⟩) ?_
                go_simp
                refine wpAny_take (i := 30) (v := .pointer (some ⟨g, 2, none⟩)) rfl (by kernel_rfl) (by kernel_rfl) (by kernel_rfl) (fun c a w h => h) (Or.inl ⟨by go_simp, fun w => by go_simp⟩) ?_
                go_simp
                refine wpAny_br (rs := [31]) (by kernel_rfl) (by simp) ?_
                intro i hi
                simp only [List.mem_cons, List.not_mem_nil, or_false] at hi
                subst hi
                intro K hK
                unfold wpOp
                go_simp
                refine Or.inl (hK _ _ ?_)
                clear hK K
                refine wpAny_done (by kernel_rfl) ?_ _
                go_wp2_with fail
                go_meet
                case rel => rfl
          · intro K hK
            unfold wpOp
            go_simp
            refine Or.inl (hK _ _ ?_)
            clear hK K
            refine wpAny_br (rs := [2, 15]) (by kernel_rfl) (by simp) ?_
            intro i hi
            simp only [List.mem_cons, List.not_mem_nil, or_false] at hi
            rcases hi with rfl | rfl
            · intro K hK
              unfold wpOp
              go_simp
              refine Or.inl (hK _ _ ?_)
              clear hK K
              refine wpAny_br (rs := [15]) (by kernel_rfl) (by simp) ?_
              intro i hi
              simp only [List.mem_cons, List.not_mem_nil, or_false] at hi
              subst hi
              intro K hK
              unfold wpOp
              go_simp
              refine Or.inl (hK _ _ ?_)
              clear hK K
              refine wpAny_take (i := 16) (v := .slice A1' mc c1') rfl (by kernel_rfl) (by kernel_rfl) (by kernel_rfl) (fun c a w h => h) (Or.inl ⟨by go_simp, fun w => by go_simp⟩) ?_
              go_simp
              refine wpAny_take (i := 26) (v := .pointer (some ⟨g, 0, none⟩)) rfl (by kernel_rfl) (by kernel_rfl) (by kernel_rfl) (fun c a w h => h) (Or.inl ⟨by go_simp, fun w => by go_simp⟩) ?_
              go_simp
              refine wpAny_take (i := 27) (v := .pointer (some ⟨g, 0, none⟩)) rfl (by kernel_rfl) (by kernel_rfl) (by kernel_rfl) (fun c a w h => h) (Or.inl ⟨by go_simp, fun w => by go_simp⟩) ?_
              go_simp
              refine wpAny_br (rs := [28]) (by kernel_rfl) (by simp) ?_
              intro i hi
              simp only [List.mem_cons, List.not_mem_nil, or_false] at hi
              subst hi
              intro K hK
              unfold wpOp
              go_simp
              refine Or.inl (hK _ _ ?_)
              clear hK K
              refine wpAny_take (i := 29) (v := .pointer (some ⟨g, 0, none⟩)) rfl (by kernel_rfl) (by kernel_rfl) (by kernel_rfl) (fun c a w h => h) (Or.inl ⟨by go_simp, fun w => by go_simp⟩) ?_
              go_simp
              refine wpAny_take (i := 30) (v := .pointer (some ⟨g, 2, none⟩)) rfl (by kernel_rfl) (by kernel_rfl) (by kernel_rfl) (fun c a w h => h) (Or.inl ⟨by go_simp, fun w => by go_simp⟩) ?_
              go_simp
              refine wpAny_br (rs := [31]) (by kernel_rfl) (by simp) ?_
              intro i hi
              simp only [List.mem_cons, List.not_mem_nil, or_false] at hi
              subst hi
              intro K hK
              unfold wpOp
              go_simp
              refine Or.inl (hK _ _ ?_)
              clear hK K
              refine wpAny_done (by kernel_rfl) ?_ _
              go_wp2_with fail
              go_meet
              case rel => rfl
            · intro K hK
              unfold wpOp
              go_simp
              refine Or.inl (hK _ _ ?_)
              clear hK K
              refine wpAny_take (i := 16) (v := .slice A1' mc c1') rfl (by kernel_rfl) (by kernel_rfl) (by kernel_rfl) (fun c a w h => h) (Or.inl ⟨by go_simp, fun w => by go_simp⟩) ?_
              go_simp
              refine wpAny_take (i := 26) (v := .pointer (some ⟨g, 0, none⟩)) rfl (by kernel_rfl) (by kernel_rfl) (by kernel_rfl) (fun c a w h => h) (Or.inl ⟨by go_simp, fun w => by go_simp⟩) ?_
              go_simp
              refine wpAny_take (i := 27) (v := .pointer (some ⟨g, 0, none⟩)) rfl (by kernel_rfl) (by kernel_rfl) (by kernel_rfl) (fun c a w h => h) (Or.inl ⟨by go_simp, fun w => by go_simp⟩) ?_
              go_simp
              refine wpAny_br (rs := [2, 28]) (by kernel_rfl) (by simp) ?_
              intro i hi
              simp only [List.mem_cons, List.not_mem_nil, or_false] at hi
              rcases hi with rfl | rfl
              · intro K hK
                unfold wpOp
                go_simp
                refine Or.inl (hK _ _ ?_)
                clear hK K
                refine wpAny_br (rs := [28]) (by kernel_rfl) (by simp) ?_
                intro i hi
                simp only [List.mem_cons, List.not_mem_nil, or_false] at hi
                subst hi
                intro K hK
                unfold wpOp
                go_simp
                refine Or.inl (hK _ _ ?_)
                clear hK K
                refine wpAny_take (i := 29) (v := .pointer (some ⟨g, 0, none⟩)) rfl (by kernel_rfl) (by kernel_rfl) (by kernel_rfl) (fun c a w h => h) (Or.inl ⟨by go_simp, fun w => by go_simp⟩) ?_
                go_simp
                refine wpAny_take (i := 30) (v := .pointer (some ⟨g, 2, none⟩)) rfl (by kernel_rfl) (by kernel_rfl) (by kernel_rfl) (fun c a w h => h) (Or.inl ⟨by go_simp, fun w => by go_simp⟩) ?_
                go_simp
                refine wpAny_br (rs := [31]) (by kernel_rfl) (by simp) ?_
                intro i hi
                simp only [List.mem_cons, List.not_mem_nil, or_false] at hi
                subst hi
                intro K hK
                unfold wpOp
                go_simp
                refine Or.inl (hK _ _ ?_)
                clear hK K
                refine wpAny_done (by kernel_rfl) ?_ _
                go_wp2_with fail
                go_meet
                case rel => rfl
              · intro K hK
                unfold wpOp
                go_simp
                refine Or.inl (hK _ _ ?_)
                clear hK K
                refine wpAny_br (rs := [2]) (by kernel_rfl) (by simp) ?_
                intro i hi
                simp only [List.mem_cons, List.not_mem_nil, or_false] at hi
                subst hi
                intro K hK
                unfold wpOp
                go_simp
                refine Or.inl (hK _ _ ?_)
                clear hK K
                refine wpAny_take (i := 29) (v := .pointer (some ⟨g, 0, none⟩)) rfl (by kernel_rfl) (by kernel_rfl) (by kernel_rfl) (fun c a w h => h) (Or.inl ⟨by go_simp, fun w => by go_simp⟩) ?_
                go_simp
                refine wpAny_take (i := 30) (v := .pointer (some ⟨g, 2, none⟩)) rfl (by kernel_rfl) (by kernel_rfl) (by kernel_rfl) (fun c a w h => h) (Or.inl ⟨by go_simp, fun w => by go_simp⟩) ?_
                go_simp
                refine wpAny_br (rs := [31]) (by kernel_rfl) (by simp) ?_
                intro i hi
                simp only [List.mem_cons, List.not_mem_nil, or_false] at hi
                subst hi
                intro K hK
                unfold wpOp
                go_simp
                refine Or.inl (hK _ _ ?_)
                clear hK K
                refine wpAny_done (by kernel_rfl) ?_ _
                go_wp2_with fail
                go_meet
                case rel => rfl
        · intro K hK
          unfold wpOp
          go_simp
          refine Or.inl (hK _ _ ?_)
          clear hK K
          refine wpAny_br (rs := [1, 15, 25]) (by kernel_rfl) (by simp) ?_
          intro i hi
          simp only [List.mem_cons, List.not_mem_nil, or_false] at hi
          rcases hi with rfl | rfl | rfl
          · intro K hK
            unfold wpOp
            go_simp
            refine Or.inl (hK _ _ ?_)
            clear hK K
            refine wpAny_br (rs := [15, 25]) (by kernel_rfl) (by simp) ?_
            intro i hi
            simp only [List.mem_cons, List.not_mem_nil, or_false] at hi
            rcases hi with rfl | rfl
            · intro K hK
              unfold wpOp
              go_simp
              refine Or.inl (hK _ _ ?_)
              clear hK K
              refine wpAny_take (i := 16) (v := .slice A1' mc c1') rfl (by kernel_rfl) (by kernel_rfl) (by kernel_rfl) (fun c a w h => h) (Or.inl ⟨by go_simp, fun w => by go_simp⟩) ?_
              go_simp
              refine wpAny_br (rs := [25]) (by kernel_rfl) (by simp) ?_
              intro i hi
              simp only [List.mem_cons, List.not_mem_nil, or_false] at hi
              subst hi
              intro K hK
              unfold wpOp
              go_simp
              refine Or.inl (hK _ _ ?_)
              clear hK K
              refine wpAny_take (i := 26) (v := .pointer (some ⟨g, 0, none⟩)) rfl (by kernel_rfl) (by kernel_rfl) (by kernel_rfl) (fun c a w h => h) (Or.inl ⟨by go_simp, fun w => by go_simp⟩) ?_
              go_simp
              refine wpAny_take (i := 27) (v := .pointer (some ⟨g, 0, none⟩)) rfl (by kernel_rfl) (by kernel_rfl) (by kernel_rfl) (fun c a w h => h) (Or.inl ⟨by go_simp, fun w => by go_simp⟩) ?_
              go_simp
              refine wpAny_br (rs := [28]) (by kernel_rfl) (by simp) ?_
              intro i hi
              simp only [List.mem_cons, List.not_mem_nil, or_false] at hi
              subst hi
              intro K hK
              unfold wpOp
              go_simp
              refine Or.inl (hK _ _ ?_)
              clear hK K
              refine wpAny_take (i := 29) (v := .pointer (some ⟨g, 0, none⟩)) rfl (by kernel_rfl) (by kernel_rfl) (by kernel_rfl) (fun c a w h => h) (Or.inl ⟨by go_simp, fun w => by go_simp⟩) ?_
              go_simp
              refine wpAny_take (i := 30) (v := .pointer (some ⟨g, 2, none⟩)) rfl (by kernel_rfl) (by kernel_rfl) (by kernel_rfl) (fun c a w h => h) (Or.inl ⟨by go_simp, fun w => by go_simp⟩) ?_
              go_simp
              refine wpAny_br (rs := [31]) (by kernel_rfl) (by simp) ?_
              intro i hi
              simp only [List.mem_cons, List.not_mem_nil, or_false] at hi
              subst hi
              intro K hK
              unfold wpOp
              go_simp
              refine Or.inl (hK _ _ ?_)
              clear hK K
              refine wpAny_done (by kernel_rfl) ?_ _
              go_wp2_with fail
              go_meet
              case rel => rfl
            · intro K hK
              unfold wpOp
              go_simp
              refine Or.inl (hK _ _ ?_)
              clear hK K
              refine wpAny_br (rs := [15]) (by kernel_rfl) (by simp) ?_
              intro i hi
              simp only [List.mem_cons, List.not_mem_nil, or_false] at hi
              subst hi
              intro K hK
              unfold wpOp
              go_simp
              refine Or.inl (hK _ _ ?_)
              clear hK K
              refine wpAny_take (i := 16) (v := .slice A1' mc c1') rfl (by kernel_rfl) (by kernel_rfl) (by kernel_rfl) (fun c a w h => h) (Or.inl ⟨by go_simp, fun w => by go_simp⟩) ?_
              go_simp
              refine wpAny_take (i := 26) (v := .pointer (some ⟨g, 0, none⟩)) rfl (by kernel_rfl) (by kernel_rfl) (by kernel_rfl) (fun c a w h => h) (Or.inl ⟨by go_simp, fun w => by go_simp⟩) ?_
              go_simp
              refine wpAny_take (i := 27) (v := .pointer (some ⟨g, 0, none⟩)) rfl (by kernel_rfl) (by kernel_rfl) (by kernel_rfl) (fun c a w h => h) (Or.inl ⟨by go_simp, fun w => by go_simp⟩) ?_
              go_simp
              refine wpAny_br (rs := [28]) (by kernel_rfl) (by simp) ?_
              intro i hi
              simp only [List.mem_cons, List.not_mem_nil, or_false] at hi
              subst hi
              intro K hK
              unfold wpOp
              go_simp
              refine Or.inl (hK _ _ ?_)
              clear hK K
              refine wpAny_take (i := 29) (v := .pointer (some ⟨g, 0, none⟩)) rfl (by kernel_rfl) (by kernel_rfl) (by kernel_rfl) (fun c a w h => h) (Or.inl ⟨by go_simp, fun w => by go_simp⟩) ?_
              go_simp
              refine wpAny_take (i := 30) (v := .pointer (some ⟨g, 2, none⟩)) rfl (by kernel_rfl) (by kernel_rfl) (by kernel_rfl) (fun c a w h => h) (Or.inl ⟨by go_simp, fun w => by go_simp⟩) ?_
              go_simp
              refine wpAny_br (rs := [31]) (by kernel_rfl) (by simp) ?_
              intro i hi
              simp only [List.mem_cons, List.not_mem_nil, or_false] at hi
              subst hi
              intro K hK
              unfold wpOp
              go_simp
              refine Or.inl (hK _ _ ?_)
              clear hK K
              refine wpAny_done (by kernel_rfl) ?_ _
              go_wp2_with fail
              go_meet
              case rel => rfl
          · intro K hK
            unfold wpOp
            go_simp
            refine Or.inl (hK _ _ ?_)
            clear hK K
            refine wpAny_take (i := 16) (v := .slice A1' mc c1') rfl (by kernel_rfl) (by kernel_rfl) (by kernel_rfl) (fun c a w h => h) (Or.inl ⟨by go_simp, fun w => by go_simp⟩) ?_
            go_simp
            refine wpAny_br (rs := [1, 25]) (by kernel_rfl) (by simp) ?_
            intro i hi
            simp only [List.mem_cons, List.not_mem_nil, or_false] at hi
            rcases hi with rfl | rfl
            · intro K hK
              unfold wpOp
              go_simp
              refine Or.inl (hK _ _ ?_)
              clear hK K
              refine wpAny_br (rs := [25]) (by kernel_rfl) (by simp) ?_
              intro i hi
              simp only [List.mem_cons, List.not_mem_nil, or_false] at hi
              subst hi
              intro K hK
              unfold wpOp
              go_simp
              refine Or.inl (hK _ _ ?_)
              clear hK K
              refine wpAny_take (i := 26) (v := .pointer (some ⟨g, 0, none⟩)) rfl (by kernel_rfl) (by kernel_rfl) (by kernel_rfl) (fun c a w h => h) (Or.inl ⟨by go_simp, fun w => by go_simp⟩) ?_
              go_simp
              refine wpAny_take (i := 27) (v := .pointer (some ⟨g, 0, none⟩)) rfl (by kernel_rfl) (by kernel_rfl) (by kernel_rfl) (fun c a w h => h) (Or.inl ⟨by go_simp, fun w => by go_simp⟩) ?_
              go_simp
              refine wpAny_br (rs := [28]) (by kernel_rfl) (by simp) ?_
              intro i hi
              simp only [List.mem_cons, List.not_mem_nil, or_false] at hi
              subst hi
              intro K hK
              unfold wpOp
              go_simp
              refine Or.inl (hK _ _ ?_)
              clear hK K
              refine wpAny_take (i := 29) (v := .pointer (some ⟨g, 0, none⟩)) rfl (by kernel_rfl) (by kernel_rfl) (by kernel_rfl) (fun c a w h => h) (Or.inl ⟨by go_simp, fun w => by go_simp⟩) ?_
              go_simp
              refine wpAny_take (i := 30) (v := .pointer (some ⟨g, 2, none⟩)) rfl (by kernel_rfl) (by kernel_rfl) (by kernel_rfl) (fun c a w h => h) (Or.inl ⟨by go_simp, fun w => by go_simp⟩) ?_
              go_simp
              refine wpAny_br (rs := [31]) (by kernel_rfl) (by simp) ?_
              intro i hi
              simp only [List.mem_cons, List.not_mem_nil, or_false] at hi
              subst hi
              intro K hK
              unfold wpOp
              go_simp
              refine Or.inl (hK _ _ ?_)
              clear hK K
              refine wpAny_done (by kernel_rfl) ?_ _
              go_wp2_with fail
              go_meet
              case rel => rfl
            · intro K hK
              unfold wpOp
              go_simp
              refine Or.inl (hK _ _ ?_)
              clear hK K
              refine wpAny_br (rs := [1]) (by kernel_rfl) (by simp) ?_
              intro i hi
              simp only [List.mem_cons, List.not_mem_nil, or_false] at hi
              subst hi
              intro K hK
              unfold wpOp
              go_simp
              refine Or.inl (hK _ _ ?_)
              clear hK K
              refine wpAny_take (i := 26) (v := .pointer (some ⟨g, 0, none⟩)) rfl (by kernel_rfl) (by kernel_rfl) (by kernel_rfl) (fun c a w h => h) (Or.inl ⟨by go_simp, fun w => by go_simp⟩) ?_
              go_simp
              refine wpAny_take (i := 27) (v := .pointer (some ⟨g, 0, none⟩)) rfl (by kernel_rfl) (by kernel_rfl) (by kernel_rfl) (fun c a w h => h) (Or.inl ⟨by go_simp, fun w => by go_simp⟩) ?_
              go_simp
              refine wpAny_br (rs := [28]) (by kernel_rfl) (by simp) ?_
              intro i hi
              simp only [List.mem_cons, List.not_mem_nil, or_false] at hi
              subst hi
              intro K hK
              unfold wpOp
              go_simp
              refine Or.inl (hK _ _ ?_)
              clear hK K
              refine wpAny_take (i := 29) (v := .pointer (some ⟨g, 0, none⟩)) rfl (by kernel_rfl) (by kernel_rfl) (by kernel_rfl) (fun c a w h => h) (Or.inl ⟨by go_simp, fun w => by go_simp⟩) ?_
              go_simp
              refine wpAny_take (i := 30) (v := .pointer (some ⟨g, 2, none⟩)) rfl (by kernel_rfl) (by kernel_rfl) (by kernel_rfl) (fun c a w h => h) (Or.inl ⟨by go_simp, fun w => by go_simp⟩) ?_
              go_simp
              refine wpAny_br (rs := [31]) (by kernel_rfl) (by simp) ?_
              intro i hi
              simp only [List.mem_cons, List.not_mem_nil, or_false] at hi
              subst hi
              intro K hK
              unfold wpOp
              go_simp
              refine Or.inl (hK _ _ ?_)
              clear hK K
              refine wpAny_done (by kernel_rfl) ?_ _
              go_wp2_with fail
              go_meet
              case rel => rfl
          · intro K hK
            unfold wpOp
            go_simp
            refine Or.inl (hK _ _ ?_)
            clear hK K
            refine wpAny_br (rs := [1, 15]) (by kernel_rfl) (by simp) ?_
            intro i hi
            simp only [List.mem_cons, List.not_mem_nil, or_false] at hi
            rcases hi with rfl | rfl
            · intro K hK
              unfold wpOp
              go_simp
              refine Or.inl (hK _ _ ?_)
              clear hK K
              refine wpAny_br (rs := [15]) (by kernel_rfl) (by simp) ?_
              intro i hi
              simp only [List.mem_cons, List.not_mem_nil, or_false] at hi
              subst hi
              intro K hK
              unfold wpOp
              go_simp
              refine Or.inl (hK _ _ ?_)
              clear hK K
              refine wpAny_take (i := 16) (v := .slice A1' mc c1') rfl (by kernel_rfl) (by kernel_rfl) (by kernel_rfl) (fun c a w h => h) (Or.inl ⟨by go_simp, fun w => by go_simp⟩) ?_
              go_simp
              refine wpAny_take (i := 26) (v := .pointer (some ⟨g, 0, none⟩)) rfl (by kernel_rfl) (by kernel_rfl) (by kernel_rfl) (fun c a w h => h) (Or.inl ⟨by go_simp, fun w => by go_simp⟩) ?_
              go_simp
              refine wpAny_take (i := 27) (v := .pointer (some ⟨g, 0, none⟩)) rfl (by kernel_rfl) (by kernel_rfl) (by kernel_rfl) (fun c a w h => h) (Or.inl ⟨by go_simp, fun w => by go_simp⟩) ?_
              go_simp
              refine wpAny_br (rs := [28]) (by kernel_rfl) (by simp) ?_
              intro i hi
              simp only [List.mem_cons, List.not_mem_nil, or_false] at hi
              subst hi
              intro K hK
              unfold wpOp
              go_simp
              refine Or.inl (hK _ _ ?_)
              clear hK K
              refine wpAny_take (i := 29) (v := .pointer (some ⟨g, 0, none⟩)) rfl (by kernel_rfl) (by kernel_rfl) (by kernel_rfl) (fun c a w h => h) (Or.inl ⟨by go_simp, fun w => by go_simp⟩) ?_
              go_simp
              refine wpAny_take (i := 30) (v := .pointer (some ⟨g, 2, none⟩)) rfl (by kernel_rfl) (by kernel_rfl) (by kernel_rfl) (fun c a w h => h) (Or.inl ⟨by go_simp, fun w => by go_simp⟩) ?_
              go_simp
              refine wpAny_br (rs := [31]) (by kernel_rfl) (by simp) ?_
              intro i hi
              simp only [List.mem_cons, List.not_mem_nil, or_false] at hi
              subst hi
              intro K hK
              unfold wpOp
              go_simp
              refine Or.inl (hK _ _ ?_)
              clear hK K
              refine wpAny_done (by kernel_rfl) ?_ _
              go_wp2_with fail
              go_meet
              case rel => rfl
            · intro K hK
              unfold wpOp
              go_simp
              refine Or.inl (hK _ _ ?_)
              clear hK K
              refine wpAny_take (i := 16) (v := .slice A1' mc c1') rfl (by kernel_rfl) (by kernel_rfl) (by kernel_rfl) (fun c a w h => h) (Or.inl ⟨by go_simp, fun w => by go_simp⟩) ?_
              go_simp
              refine wpAny_br (rs := [1]) (by kernel_rfl) (by simp) ?_
              intro i hi
              simp only [List.mem_cons, List.not_mem_nil, or_false] at hi
              subst hi
              intro K hK
              unfold wpOp
              go_simp
              refine Or.inl (hK _ _ ?_)
              clear hK K
              refine wpAny_take (i := 26) (v := .pointer (some ⟨g, 0, none⟩)) rfl (by kernel_rfl) (by kernel_rfl) (by kernel_rfl) (fun c a w h => h) (Or.inl ⟨by go_simp, fun w => by go_simp⟩) ?_
              go_simp
              refine wpAny_take (i := 27) (v := .pointer (some ⟨g, 0, none⟩)) rfl (by kernel_rfl) (by kernel_rfl) (by kernel_rfl) (fun c a w h => h) (Or.inl ⟨by go_simp, fun w => by go_simp⟩) ?_
              go_simp
              refine wpAny_br (rs := [28]) (by kernel_rfl) (by simp) ?_
              intro i hi
              simp only [List.mem_cons, List.not_mem_nil, or_false] at hi
              subst hi
              intro K hK
              unfold wpOp
              go_simp
              refine Or.inl (hK _ _ ?_)
              clear hK K
              refine wpAny_take (i := 29) (v := .pointer (some ⟨g, 0, none⟩)) rfl (by kernel_rfl) (by kernel_rfl) (by kernel_rfl) (fun c a w h => h) (Or.inl ⟨by go_simp, fun w => by go_simp⟩) ?_
              go_simp
              refine wpAny_take (i := 30) (v := .pointer (some ⟨g, 2, none⟩)) rfl (by kernel_rfl) (by kernel_rfl) (by kernel_rfl) (fun c a w h => h) (Or.inl ⟨by go_simp, fun w => by go_simp⟩) ?_
              go_simp
              refine wpAny_br (rs := [31]) (by kernel_rfl) (by simp) ?_
              intro i hi
              simp only [List.mem_cons, List.not_mem_nil, or_false] at hi
              subst hi
              intro K hK
              unfold wpOp
              go_simp
              refine Or.inl (hK _ _ ?_)
              clear hK K
              refine wpAny_done (by kernel_rfl) ?_ _
              go_wp2_with fail
              go_meet
              case rel => rfl
        · intro K hK
          unfold wpOp
          go_simp
          refine Or.inl (hK _ _ ?_)
          clear hK K
          refine wpAny_take (i := 16) (v := .slice A1' mc c1') rfl (by kernel_rfl) (by kernel_rfl) (by kernel_rfl) (fun c a w h => h) (Or.inl ⟨by go_simp, fun w => by go_simp⟩) ?_
          go_simp
          refine wpAny_br (rs := [1, 2, 25]) (by kernel_rfl) (by simp) ?_
          intro i hi
          simp only [List.mem_cons, List.not_mem_nil, or_false] at hi
          rcases hi with rfl | rfl | rfl
          · intro K hK
            unfold wpOp
            go_simp
            refine Or.inl (hK _ _ ?_)
            clear hK K
            refine wpAny_br (rs := [2, 25]) (by kernel_rfl) (by simp) ?_
            intro i hi
            simp only [List.mem_cons, List.not_mem_nil, or_false] at hi
            rcases hi with rfl | rfl
            · intro K hK
              unfold wpOp
              go_simp
              refine Or.inl (hK _ _ ?_)
              clear hK K
              refine wpAny_br (rs := [25]) (by kernel_rfl) (by simp) ?_
              intro i hi
              simp only [List.mem_cons, List.not_mem_nil, or_false] at hi
              subst hi
              intro K hK
              unfold wpOp
              go_simp
              refine Or.inl (hK _ _ ?_)
              clear hK K
              refine wpAny_take (i := 26) (v := .pointer (some ⟨g, 0, none⟩)) rfl (by kernel_rfl) (by kernel_rfl) (by kernel_rfl) (fun c a w h => h) (Or.inl ⟨by go_simp, fun w => by go_simp⟩) ?_
              go_simp
              refine wpAny_take (i := 27) (v := .pointer (some ⟨g, 0, none⟩)) rfl (by kernel_rfl) (by kernel_rfl) (by kernel_rfl) (fun c a w h => h) (Or.inl ⟨by go_simp, fun w => by go_simp⟩) ?_
              go_simp
              refine wpAny_br (rs := [28]) (by kernel_rfl) (by simp) ?_
              intro i hi
              simp only [List.mem_cons, List.not_mem_nil, or_false] at hi
              subst hi
              intro K hK
              unfold wpOp
              go_simp
              refine Or.inl (hK _ _ ?_)
              clear hK K
              refine wpAny_take (i := 29) (v := .pointer (some ⟨g, 0, none⟩)) rfl (by kernel_rfl) (by kernel_rfl) (by kernel_rfl) (fun c a w h => h) (Or.inl ⟨by go_simp, fun w => by go_simp⟩) ?_
              go_simp
              refine wpAny_take (i := 30) (v := .pointer (some ⟨g, 2, none⟩)) rfl (by kernel_rfl) (by kernel_rfl) (by kernel_rfl) (fun c a w h => h) (Or.inl ⟨by go_simp, fun w => by go_simp⟩) ?_
              go_simp
              refine wpAny_br (rs := [31]) (by kernel_rfl) (by simp) ?_
              intro i hi
              simp only [List.mem_cons, List.not_mem_nil, or_false] at hi
              subst hi
              intro K hK
              unfold wpOp
              go_simp
              refine Or.inl (hK _ _ ?_)
              clear hK K
              refine wpAny_done (by kernel_rfl) ?_ _
              go_wp2_with fail
              go_meet
              case rel => rfl
            · intro K hK
              unfold wpOp
              go_simp
              refine Or.inl (hK _ _ ?_)
              clear hK K
              refine wpAny_take (i := 26) (v := .pointer (some ⟨g, 0, none⟩)) rfl (by kernel_rfl) (by kernel_rfl) (by kernel_rfl) (fun c a w h => h) (Or.inl ⟨by go_simp, fun w => by go_simp⟩) ?_
              go_simp
              refine wpAny_take (i := 27) (v := .pointer (some ⟨g, 0, none⟩)) rfl (by kernel_rfl) (by kernel_rfl) (by kernel_rfl) (fun c a w h => h) (Or.inl ⟨by go_simp, fun w => by go_simp⟩) ?_
              go_simp
              refine wpAny_br (rs := [2, 28]) (by kernel_rfl) (by simp) ?_
              intro i hi
              simp only [List.mem_cons, List.not_mem_nil, or_false] at hi
              rcases hi with rfl | rfl
              · intro K hK
                unfold wpOp
                go_simp
                refine Or.inl (hK _ _ ?_)
                clear hK K
                refine wpAny_br (rs := [28]) (by kernel_rfl) (by simp) ?_
                intro i hi
                simp only [List.mem_cons, List.not_mem_nil, or_false] at hi
                subst hi
                intro K hK
                unfold wpOp
                go_simp
                refine Or.inl (hK _ _ ?_)
                clear hK K
                refine wpAny_take (i := 29) (v := .pointer (some ⟨g, 0, none⟩)) rfl (by kernel_rfl) (by kernel_rfl) (by kernel_rfl) (fun c a w h => h) (Or.inl ⟨by go_simp, fun w => by go_simp⟩) ?_
                go_simp
                refine wpAny_take (i := 30) (v := .pointer (some ⟨g, 2, none⟩)) rfl (by kernel_rfl) (by kernel_rfl) (by kernel_rfl) (fun c a w h => h) (Or.inl ⟨by go_simp, fun w => by go_simp⟩) ?_
                go_simp
                refine wpAny_br (rs := [31]) (by kernel_rfl) (by simp) ?_
                intro i hi
                simp only [List.mem_cons, List.not_mem_nil, or_false] at hi
                subst hi
                intro K hK
                unfold wpOp
                go_simp
                refine Or.inl (hK _ _ ?_)
                clear hK K
                refine wpAny_done (by kernel_rfl) ?_ _
                go_wp2_with fail
                go_meet
                case rel => rfl
              · intro K hK
                unfold wpOp
                go_simp
                refine Or.inl (hK _ _ ?_)
                clear hK K
                refine wpAny_br (rs := [2]) (by kernel_rfl) (by simp) ?_
                intro i hi
                simp only [List.mem_cons, List.not_mem_nil, or_false] at hi
                subst hi
                intro K hK
                unfold wpOp
                go_simp
                refine Or.inl (hK _ _ ?_)
                clear hK K
                refine wpAny_take (i := 29) (v := .pointer (some ⟨g, 0, none⟩)) rfl (by kernel_rfl) (by kernel_rfl) (by kernel_rfl) (fun c a w h => h) (Or.inl ⟨by go_simp, fun w => by go_simp⟩) ?_
                go_simp
                refine wpAny_take (i := 30) (v := .pointer (some ⟨g, 2, none⟩)) rfl (by kernel_rfl) (by kernel_rfl) (by kernel_rfl) (fun c a w h => h) (Or.inl ⟨by go_simp, fun w => by go_simp⟩) ?_
                go_simp
                refine wpAny_br (rs := [31]) (by kernel_rfl) (by simp) ?_
                intro i hi
                simp only [List.mem_cons, List.not_mem_nil, or_false] at hi
                subst hi
                intro K hK
                unfold wpOp
                go_simp
                refine Or.inl (hK _ _ ?_)
                clear hK K
                refine wpAny_done (by kernel_rfl) ?_ _
                go_wp2_with fail
                go_meet
                case rel => rfl
          · intro K hK
            unfold wpOp
            go_simp
            refine Or.inl (hK _ _ ?_)
            clear hK K
            refine wpAny_br (rs := [1, 25]) (by kernel_rfl) (by simp) ?_
            intro i hi
            simp only [List.mem_cons, List.not_mem_nil, or_false] at hi
            rcases hi with rfl | rfl
            · intro K hK
              unfold wpOp
              go_simp
              refine Or.inl (hK _ _ ?_)
              clear hK K
              refine wpAny_br (rs := [25]) (by kernel_rfl) (by simp) ?_
              intro i hi
              simp only [List.mem_cons, List.not_mem_nil, or_false] at hi
              subst hi
              intro K hK
              unfold wpOp
              go_simp
              refine Or.inl (hK _ _ ?_)
              clear hK K
              refine wpAny_take (i := 26) (v := .pointer (some ⟨g, 0, none⟩)) rfl (by kernel_rfl) (by kernel_rfl) (by kernel_rfl) (fun c a w h => h) (Or.inl ⟨by go_simp, fun w => by go_simp⟩) ?_
              go_simp
              refine wpAny_take (i := 27) (v := .pointer (some ⟨g, 0, none⟩)) rfl (by kernel_rfl) (by kernel_rfl) (by kernel_rfl) (fun c a w h => h) (Or.inl ⟨by go_simp, fun w => by go_simp⟩) ?_
              go_simp
              refine wpAny_br (rs := [28]) (by kernel_rfl) (by simp) ?_
              intro i hi
              simp only [List.mem_cons, List.not_mem_nil, or_false] at hi
              subst hi
              intro K hK
              unfold wpOp
              go_simp
              refine Or.inl (hK _ _ ?_)
              clear hK K
              refine wpAny_take (i := 29) (v := .pointer (some ⟨g, 0, none⟩)) rfl (by kernel_rfl) (by kernel_rfl) (by kernel_rfl) (fun c a w h => h) (Or.inl ⟨by go_simp, fun w => by go_simp⟩) ?_
              go_simp
              refine wpAny_take (i := 30) (v := .pointer (some ⟨g, 2, none⟩)) rfl (by kernel_rfl) (by kernel_rfl) (by kernel_rfl) (fun c a w h => h) (Or.inl ⟨by go_simp, fun w => by go_simp⟩) ?_
              go_simp
              refine wpAny_br (rs := [31]) (by kernel_rfl) (by simp) ?_
              intro i hi
              simp only [List.mem_cons, List.not_mem_nil, or_false] at hi
              subst hi
              intro K hK
              unfold wpOp
              go_simp
              refine Or.inl (hK _ _ ?_)
              clear hK K
              refine wpAny_done (by kernel_rfl) ?_ _
              go_wp2_with fail
              go_meet
              case rel => rfl
            · intro K hK
              unfold wpOp
              go_simp
              refine Or.inl (hK _ _ ?_)
              clear hK K
              refine wpAny_br (rs := [1]) (by kernel_rfl) (by simp) ?_
              intro i hi
              simp only [List.mem_cons, List.not_mem_nil, or_false] at hi
              subst hi
              intro K hK
              unfold wpOp
              go_simp
              refine Or.inl (hK _ _ ?_)
              clear hK K
              refine wpAny_take (i := 26) (v := .pointer (some ⟨g, 0, none⟩)) rfl (by kernel_rfl) (by kernel_rfl) (by kernel_rfl) (fun c a w h => h) (Or.inl ⟨by go_simp, fun w => by go_simp⟩) ?_
              go_simp
              refine wpAny_take (i := 27) (v := .pointer (some ⟨g, 0, none⟩)) rfl (by kernel_rfl) (by kernel_rfl) (by kernel_rfl) (fun c a w h => h) (Or.inl ⟨by go_simp, fun w => by go_simp⟩) ?_
              go_simp
              refine wpAny_br (rs := [28]) (by kernel_rfl) (by simp) ?_
              intro i hi
              simp only [List.mem_cons, List.not_mem_nil, or_false] at hi
              subst hi
              intro K hK
              unfold wpOp
              go_simp
              refine Or.inl (hK _ _ ?_)
              clear hK K
              refine wpAny_take (i := 29) (v := .pointer (some ⟨g, 0, none⟩)) rfl (by kernel_rfl) (by kernel_rfl) (by kernel_rfl) (fun c a w h => h) (Or.inl ⟨by go_simp, fun w => by go_simp⟩) ?_
              go_simp
              refine wpAny_take (i := 30) (v := .pointer (some ⟨g, 2, none⟩)) rfl (by kernel_rfl) (by kernel_rfl) (by kernel_rfl) (fun c a w h => h) (Or.inl ⟨by go_simp, fun w => by go_simp⟩) ?_
              go_simp
              refine wpAny_br (rs := [31]) (by kernel_rfl) (by simp) ?_
              intro i hi
              simp only [List.mem_cons, List.not_mem_nil, or_false] at hi
              subst hi
              intro K hK
              unfold wpOp
              go_simp
              refine Or.inl (hK _ _ ?_)
              clear hK K
              refine wpAny_done (by kernel_rfl) ?_ _
              go_wp2_with fail
              go_meet
              case rel => rfl
          · intro K hK
            unfold wpOp
            go_simp
            refine Or.inl (hK _ _ ?_)
            clear hK K
            refine wpAny_br (rs := [1, 2]) (by kernel_rfl) (by simp) ?_
            intro i hi
            simp only [List.mem_cons, List.not_mem_nil, or_false] at hi
            rcases hi with rfl | rfl
            · intro K hK
              unfold wpOp
              go_simp
              refine Or.inl (hK _ _ ?_)
              clear hK K
              refine wpAny_take (i := 26) (v := .pointer (some ⟨g, 0, none⟩)) rfl (by kernel_rfl) (by kernel_rfl) (by kernel_rfl) (fun c a w h => h) (Or.inl ⟨by go_simp, fun w => by go_simp⟩) ?_
              go_simp
              refine wpAny_take (i := 27) (v := .pointer (some ⟨g, 0, none⟩)) rfl (by kernel_rfl) (by kernel_rfl) (by kernel_rfl) (fun c a w h => h) (Or.inl ⟨by go_simp, fun w => by go_simp⟩) ?_
              go_simp
              refine wpAny_br (rs := [2, 28]) (by kernel_rfl) (by simp) ?_
              intro i hi
              simp only [List.mem_cons, List.not_mem_nil, or_false] at hi
              rcases hi with rfl | rfl
              · intro K hK
                unfold wpOp
                go_simp
                refine Or.inl (hK _ _ ?_)
                clear hK K
                refine wpAny_br (rs := [28]) (by kernel_rfl) (by simp) ?_
                intro i hi
                simp only [List.mem_cons, List.not_mem_nil, or_false] at hi
                subst hi
                intro K hK
                unfold wpOp
                go_simp
                refine Or.inl (hK _ _ ?_)
                clear hK K
                refine wpAny_take (i := 29) (v := .pointer (some ⟨g, 0, none⟩)) rfl (by kernel_rfl) (by kernel_rfl) (by kernel_rfl) (fun c a w h => h) (Or.inl ⟨by go_simp, fun w => by go_simp⟩) ?_
                go_simp
                refine wpAny_take (i := 30) (v := .pointer (some ⟨g, 2, none⟩)) rfl (by kernel_rfl) (by kernel_rfl) (by kernel_rfl) (fun c a w h => h) (Or.inl ⟨by go_simp, fun w => by go_simp⟩) ?_
                go_simp
                refine wpAny_br (rs := [31]) (by kernel_rfl) (by simp) ?_
                intro i hi
                simp only [List.mem_cons, List.not_mem_nil, or_false] at hi
                subst hi
                intro K hK
                unfold wpOp
                go_simp
                refine Or.inl (hK _ _ ?_)
                clear hK K
                refine wpAny_done (by kernel_rfl) ?_ _
                go_wp2_with fail
                go_meet
                case rel => rfl
              · intro K hK
                unfold wpOp
                go_simp
                refine Or.inl (hK _ _ ?_)
                clear hK K
                refine wpAny_br (rs := [2]) (by kernel_rfl) (by simp) ?_
                intro i hi
                simp only [List.mem_cons, List.not_mem_nil, or_false] at hi
                subst hi
                intro K hK
                unfold wpOp
                go_simp
                refine Or.inl (hK _ _ ?_)
                clear hK K
                refine wpAny_take (i := 29) (v := .pointer (some ⟨g, 0, none⟩)) rfl (by kernel_rfl) (by kernel_rfl) (by kernel_rfl) (fun c a w h => h) (Or.inl ⟨by go_simp, fun w => by go_simp⟩) ?_
                go_simp
                refine wpAny_take (i := 30) (v := .pointer (some ⟨g, 2, none⟩)) rfl (by kernel_rfl) (by kernel_rfl) (by kernel_rfl) (fun c a w h => h) (Or.inl ⟨by go_simp, fun w => by go_simp⟩) ?_
                go_simp
                refine wpAny_br (rs := [31]) (by kernel_rfl) (by simp) ?_
                intro i hi
                simp only [List.mem_cons, List.not_mem_nil, or_false] at hi
                subst hi
                intro K hK
                unfold wpOp
                go_simp
                refine Or.inl (hK _ _ ?_)
                clear hK K
                refine wpAny_done (by kernel_rfl) ?_ _
                go_wp2_with fail
                go_meet
                case rel => rfl
            · intro K hK
              unfold wpOp
              go_simp
              refine Or.inl (hK _ _ ?_)
              clear hK K
              refine wpAny_br (rs := [1]) (by kernel_rfl) (by simp) ?_
              intro i hi
              simp only [List.mem_cons, List.not_mem_nil, or_false] at hi
              subst hi
              intro K hK
              unfold wpOp
              go_simp
              refine Or.inl (hK _ _ ?_)
              clear hK K
              refine wpAny_take (i := 26) (v := .pointer (some ⟨g, 0, none⟩)) rfl (by kernel_rfl) (by kernel_rfl) (by kernel_rfl) (fun c a w h => h) (Or.inl ⟨by go_simp, fun w => by go_simp⟩) ?_
              go_simp
              refine wpAny_take (i := 27) (v := .pointer (some ⟨g, 0, none⟩)) rfl (by kernel_rfl) (by kernel_rfl) (by kernel_rfl) (fun c a w h => h) (Or.inl ⟨by go_simp, fun w => by go_simp⟩) ?_
              go_simp
              refine wpAny_br (rs := [28]) (by kernel_rfl) (by simp) ?_
              intro i hi
              simp only [List.mem_cons, List.not_mem_nil, or_false] at hi
              subst hi
              intro K hK
              unfold wpOp
              go_simp
              refine Or.inl (hK _ _ ?_)
              clear hK K
              refine wpAny_take (i := 29) (v := .pointer (some ⟨g, 0, none⟩)) rfl (by kernel_rfl) (by kernel_rfl) (by kernel_rfl) (fun c a w h => h) (Or.inl ⟨by go_simp, fun w => by go_simp⟩) ?_
              go_simp
              refine wpAny_take (i := 30) (v := .pointer (some ⟨g, 2, none⟩)) rfl (by kernel_rfl) (by kernel_rfl) (by kernel_rfl) (fun c a w h => h) (Or.inl ⟨by go_simp, fun w => by go_simp⟩) ?_
              go_simp
              refine wpAny_br (rs := [31]) (by kernel_rfl) (by simp) ?_
              intro i hi
              simp only [List.mem_cons, List.not_mem_nil, or_false] at hi
              subst hi
              intro K hK
              unfold wpOp
              go_simp
              refine Or.inl (hK _ _ ?_)
              clear hK K
              refine wpAny_done (by kernel_rfl) ?_ _
              go_wp2_with fail
              go_meet
              case rel => rfl
        · intro K hK
          unfold wpOp
          go_simp
          refine Or.inl (hK _ _ ?_)
          clear hK K
          refine wpAny_br (rs := [1, 2, 15]) (by kernel_rfl) (by simp) ?_
          intro i hi
          simp only [List.mem_cons, List.not_mem_nil, or_false] at hi
          rcases hi with rfl | rfl | rfl
          · intro K hK
            unfold wpOp
            go_simp
            refine Or.inl (hK _ _ ?_)
            clear hK K
            refine wpAny_br (rs := [2, 15]) (by kernel_rfl) (by simp) ?_
            intro i hi
            simp only [List.mem_cons, List.not_mem_nil, or_false] at hi
            rcases hi with rfl | rfl
            · intro K hK
              unfold wpOp
              go_simp
              refine Or.inl (hK _ _ ?_)
              clear hK K
              refine wpAny_br (rs := [15]) (by kernel_rfl) (by simp) ?_
              intro i hi
              simp only [List.mem_cons, List.not_mem_nil, or_false] at hi
              subst hi
              intro K hK
              unfold wpOp
              go_simp
              refine Or.inl (hK _ _ ?_)
              clear hK K
              refine wpAny_take (i := 16) (v := .slice A1' mc c1') rfl (by kernel_rfl) (by kernel_rfl) (by kernel_rfl) (fun c a w h => h) (Or.inl ⟨by go_simp, fun w => by go_simp⟩) ?_
              go_simp
              refine wpAny_take (i := 26) (v := .pointer (some ⟨g, 0, none⟩)) rfl (by kernel_rfl) (by kernel_rfl) (by kernel_rfl) (fun c a w h => h) (Or.inl ⟨by go_simp, fun w => by go_simp⟩) ?_
              go_simp
              refine wpAny_take (i := 27) (v := .pointer (some ⟨g, 0, none⟩)) rfl (by kernel_rfl) (by kernel_rfl) (by kernel_rfl) (fun c a w h => h) (Or.inl ⟨by go_simp, fun w => by go_simp⟩) ?_
              go_simp
              refine wpAny_br (rs := [28]) (by kernel_rfl) (by simp) ?_
              intro i hi
              simp only [List.mem_cons, List.not_mem_nil, or_false] at hi
              subst hi
              intro K hK
              unfold wpOp
              go_simp
              refine Or.inl (hK _ _ ?_)
              clear hK K
              refine wpAny_take (i := 29) (v := .pointer (some ⟨g, 0, none⟩)) rfl (by kernel_rfl) (by kernel_rfl) (by kernel_rfl) (fun c a w h => h) (Or.inl ⟨by go_simp, fun w => by go_simp⟩) ?_
              go_simp
              refine wpAny_take (i := 30) (v := .pointer (some ⟨g, 2, none⟩)) rfl (by kernel_rfl) (by kernel_rfl) (by kernel_rfl) (fun c a w h => h) (Or.inl ⟨by go_simp, fun w => by go_simp⟩) ?_
              go_simp
              refine wpAny_br (rs := [31]) (by kernel_rfl) (by simp) ?_
              intro i hi
              simp only [List.mem_cons, List.not_mem_nil, or_false] at hi
              subst hi
              intro K hK
              unfold wpOp
              go_simp
              refine Or.inl (hK _ _ ?_)
              clear hK K
              refine wpAny_done (by kernel_rfl) ?_ _
              go_wp2_with fail
              go_meet
              case rel => rfl
            · intro K hK
              unfold wpOp
              go_simp
              refine Or.inl (hK _ _ ?_)
              clear hK K
              refine wpAny_take (i := 16) (v := .slice A1' mc c1') rfl (by kernel_rfl) (by kernel_rfl) (by kernel_rfl) (fun c a w h => h) (Or.inl ⟨by go_simp, fun w => by go_simp⟩) ?_
              go_simp
              refine wpAny_take (i := 26) (v := .pointer (some ⟨g, 0, none⟩)) rfl (by kernel_rfl) (by kernel_rfl) (by kernel_rfl) (fun c a w h => h) (Or.inl ⟨by go_simp, fun w => by go_simp⟩) ?_
              go_simp
              refine wpAny_take (i := 27) (v := .pointer (some ⟨g, 0, none⟩)) rfl (by kernel_rfl) (by kernel_rfl) (by kernel_rfl) (fun c a w h => h) (Or.inl ⟨by go_simp, fun w => by go_simp⟩) ?_
              go_simp
              refine wpAny_br (rs := [2, 28]) (by kernel_rfl) (by simp) ?_
              intro i hi
              simp only [List.mem_cons, List.not_mem_nil, or_false] at hi
              rcases hi with rfl | rfl
              · intro K hK
                unfold wpOp
                go_simp
                refine Or.inl (hK _ _ ?_)
                clear hK K
                refine wpAny_br (rs := [28]) (by kernel_rfl) (by simp) ?_
                intro i hi
                simp only [List.mem_cons, List.not_mem_nil, or_false] at hi
                subst hi
                intro K hK
                unfold wpOp
                go_simp
                refine Or.inl (hK _ _ ?_)
                clear hK K
                refine wpAny_take (i := 29) (v := .pointer (some ⟨g, 0, none⟩)) rfl (by kernel_rfl) (by kernel_rfl) (by kernel_rfl) (fun c a w h => h) (Or.inl ⟨by go_simp, fun w => by go_simp⟩) ?_
                go_simp
                refine wpAny_take (i := 30) (v := .pointer (some ⟨g, 2, none⟩)) rfl (by kernel_rfl) (by kernel_rfl) (by kernel_rfl) (fun c a w h => h) (Or.inl ⟨by go_simp, fun w => by go_simp⟩) ?_
                go_simp
                refine wpAny_br (rs := [31]) (by kernel_rfl) (by simp) ?_
                intro i hi
                simp only [List.mem_cons, List.not_mem_nil, or_false] at hi
                subst hi
                intro K hK
                unfold wpOp
                go_simp
                refine Or.inl (hK _ _ ?_)
                clear hK K
                refine wpAny_done (by kernel_rfl) ?_ _
                go_wp2_with fail
                go_meet
                case rel => rfl
              · intro K hK
                unfold wpOp
                go_simp
                refine Or.inl (hK _ _ ?_)
                clear hK K
                refine wpAny_br (rs := [2]) (by kernel_rfl) (by simp) ?_
                intro i hi
                simp only [List.mem_cons, List.not_mem_nil, or_false] at hi
                subst hi
                intro K hK
                unfold wpOp
                go_simp
                refine Or.inl (hK _ _ ?_)
                clear hK K
                refine wpAny_take (i := 29) (v := .pointer (some ⟨g, 0, none⟩)) rfl (by kernel_rfl) (by kernel_rfl) (by kernel_rfl) (fun c a w h => h) (Or.inl ⟨by go_simp, fun w => by go_simp⟩) ?_
                go_simp
                refine wpAny_take (i := 30) (v := .pointer (some ⟨g, 2, none⟩)) rfl (by kernel_rfl) (by kernel_rfl) (by kernel_rfl) (fun c a w h => h) (Or.inl ⟨by go_simp, fun w => by go_simp⟩) ?_
                go_simp
                refine wpAny_br (rs := [31]) (by kernel_rfl) (by simp) ?_
                intro i hi
                simp only [List.mem_cons, List.not_mem_nil, or_false] at hi
                subst hi
                intro K hK
                unfold wpOp
                go_simp
                refine Or.inl (hK _ _ ?_)
                clear hK K
                refine wpAny_done (by kernel_rfl) ?_ _
                go_wp2_with fail
                go_meet
                case rel => rfl
          · intro K hK
            unfold wpOp
            go_simp
            refine Or.inl (hK _ _ ?_)
            clear hK K
            refine wpAny_br (rs := [1, 15]) (by kernel_rfl) (by simp) ?_
            intro i hi
            simp only [List.mem_cons, List.not_mem_nil, or_false] at hi
            rcases hi with rfl | rfl
            · intro K hK
              unfold wpOp
              go_simp
              refine Or.inl (hK _ _ ?_)
              clear hK K
              refine wpAny_br (rs := [15]) (by kernel_rfl) (by simp) ?_
              intro i hi
              simp only [List.mem_cons, List.not_mem_nil, or_false] at hi
              subst hi
              intro K hK
              unfold wpOp
              go_simp
              refine Or.inl (hK _ _ ?_)
              clear hK K
              refine wpAny_take (i := 16) (v := .slice A1' mc c1') rfl (by kernel_rfl) (by kernel_rfl) (by kernel_rfl) (fun c a w h => h) (Or.inl ⟨by go_simp, fun w => by go_simp⟩) ?_
              go_simp
              refine wpAny_take (i := 26) (v := .pointer (some ⟨g, 0, none⟩)) rfl (by kernel_rfl) (by kernel_rfl) (by kernel_rfl) (fun c a w h => h) (Or.inl ⟨by go_simp, fun w => by go_simp⟩) ?_
              go_simp
              refine wpAny_take (i := 27) (v := .pointer (some ⟨g, 0, none⟩)) rfl (by kernel_rfl) (by kernel_rfl) (by kernel_rfl) (fun c a w h => h) (Or.inl ⟨by go_simp, fun w => by go_simp⟩) ?_
              go_simp
              refine wpAny_br (rs := [28]) (by kernel_rfl) (by simp) ?_
              intro i hi
              simp only [List.mem_cons, List.not_mem_nil, or_false] at hi
              subst hi
              intro K hK
              unfold wpOp
              go_simp
              refine Or.inl (hK _ _ ?_)
              clear hK K
              refine wpAny_take (i := 29) (v := .pointer (some ⟨g, 0, none⟩)) rfl (by kernel_rfl) (by kernel_rfl) (by kernel_rfl) (fun c a w h => h) (Or.inl ⟨by go_simp, fun w => by go_simp⟩) ?_
              go_simp
              refine wpAny_take (i := 30) (v := .pointer (some ⟨g, 2, none⟩)) rfl (by kernel_rfl) (by kernel_rfl) (by kernel_rfl) (fun c a w h => h) (Or.inl ⟨by go_simp, fun w => by go_simp⟩) ?_
              go_simp
              refine wpAny_br (rs := [31]) (by kernel_rfl) (by simp) ?_
              intro i hi
              simp only [List.mem_cons, List.not_mem_nil, or_false] at hi
              subst hi
              intro K hK
              unfold wpOp
              go_simp
              refine Or.inl (hK _ _ ?_)
              clear hK K
              refine wpAny_done (by kernel_rfl) ?_ _
              go_wp2_with fail
              go_meet
              case rel => rfl
            · intro K hK
              unfold wpOp
              go_simp
              refine Or.inl (hK _ _ ?_)
              clear hK K
              refine wpAny_take (i := 16) (v := .slice A1' mc c1') rfl (by kernel_rfl) (by kernel_rfl) (by kernel_rfl) (fun c a w h => h) (Or.inl ⟨by go_simp, fun w => by go_simp⟩) ?_
              go_simp
              refine wpAny_br (rs := [1]) (by kernel_rfl) (by simp) ?_
              intro i hi
              simp only [List.mem_cons, List.not_mem_nil, or_false] at hi
              subst hi
              intro K hK
              unfold wpOp
              go_simp
              refine Or.inl (hK _ _ ?_)
              clear hK K
              refine wpAny_take (i := 26) (v := .pointer (some ⟨g, 0, none⟩)) rfl (by kernel_rfl) (by kernel_rfl) (by kernel_rfl) (fun c a w h => h) (Or.inl ⟨by go_simp, fun w => by go_simp⟩) ?_
              go_simp
              refine wpAny_take (i := 27) (v := .pointer (some ⟨g, 0, none⟩)) rfl (by kernel_rfl) (by kernel_rfl) (by kernel_rfl) (fun c a w h => h) (Or.inl ⟨by go_simp, fun w => by go_simp⟩) ?_
              go_simp
              refine wpAny_br (rs := [28]) (by kernel_rfl) (by simp) ?_
              intro i hi
              simp only [List.mem_cons, List.not_mem_nil, or_false] at hi
              subst hi
              intro K hK
              unfold wpOp
              go_simp
              refine Or.inl (hK _ _ ?_)
              clear hK K
              refine wpAny_take (i := 29) (v := .pointer (some ⟨g, 0, none⟩)) rfl (by kernel_rfl) (by kernel_rfl) (by kernel_rfl) (fun c a w h => h) (Or.inl ⟨by go_simp, fun w => by go_simp⟩) ?_
              go_simp
              refine wpAny_take (i := 30) (v := .pointer (some ⟨g, 2, none⟩)) rfl (by kernel_rfl) (by kernel_rfl) (by kernel_rfl) (fun c a w h => h) (Or.inl ⟨by go_simp, fun w => by go_simp⟩) ?_
              go_simp
              refine wpAny_br (rs := [31]) (by kernel_rfl) (by simp) ?_
              intro i hi
              simp only [List.mem_cons, List.not_mem_nil, or_false] at hi
              subst hi
              intro K hK
              unfold wpOp
              go_simp
              refine Or.inl (hK _ _ ?_)
              clear hK K
              refine wpAny_done (by kernel_rfl) ?_ _
              go_wp2_with fail
              go_meet
              case rel => rfl
          · intro K hK
            unfold wpOp
            go_simp
            refine Or.inl (hK _ _ ?_)
            clear hK K
            refine wpAny_take (i := 16) (v := .slice A1' mc c1') rfl (by kernel_rfl) (by kernel_rfl) (by kernel_rfl) (fun c a w h => h) (Or.inl ⟨by go_simp, fun w => by go_simp⟩) ?_
            go_simp
            refine wpAny_br (rs := [1, 2]) (by kernel_rfl) (by simp) ?_
            intro i hi
            simp only [List.mem_cons, List.not_mem_nil, or_false] at hi
            rcases hi with rfl | rfl
            · intro K hK
              unfold wpOp
              go_simp
              refine Or.inl (hK _ _ ?_)
              clear hK K
              refine wpAny_take (i := 26) (v := .pointer (some ⟨g, 0, none⟩)) rfl (by kernel_rfl) (by kernel_rfl) (by kernel_rfl) (fun c a w h => h) (Or.inl ⟨by go_simp, fun w => by go_simp⟩) ?_
              go_simp
              refine wpAny_take (i := 27) (v := .pointer (some ⟨g, 0, none⟩)) rfl (by kernel_rfl) (by kernel_rfl) (by kernel_rfl) (fun c a w h => h) (Or.inl ⟨by go_simp, fun w => by go_simp⟩) ?_
              go_simp
              refine wpAny_br (rs := [2, 28]) (by kernel_rfl) (by simp) ?_
              intro i hi
              simp only [List.mem_cons, List.not_mem_nil, or_false] at hi
              rcases hi with rfl | rfl
              · intro K hK
                unfold wpOp
                go_simp
                refine Or.inl (hK _ _ ?_)
                clear hK K
                refine wpAny_br (rs := [28]) (by kernel_rfl) (by simp) ?_
                intro i hi
                simp only [List.mem_cons, List.not_mem_nil, or_false] at hi
                subst hi
                intro K hK
                unfold wpOp
                go_simp
                refine Or.inl (hK _ _ ?_)
                clear hK K
                refine wpAny_take (i := 29) (v := .pointer (some ⟨g, 0, none⟩)) rfl (by kernel_rfl) (by kernel_rfl) (by kernel_rfl) (fun c a w h => h) (Or.inl ⟨by go_simp, fun w => by go_simp⟩) ?_
                go_simp
                refine wpAny_take (i := 30) (v := .pointer (some ⟨g, 2, none⟩)) rfl (by kernel_rfl) (by kernel_rfl) (by kernel_rfl) (fun c a w h => h) (Or.inl ⟨by go_simp, fun w => by go_simp⟩) ?_
                go_simp
                refine wpAny_br (rs := [31]) (by kernel_rfl) (by simp) ?_
                intro i hi
                simp only [List.mem_cons, List.not_mem_nil, or_false] at hi
                subst hi
                intro K hK
                unfold wpOp
                go_simp
                refine Or.inl (hK _ _ ?_)
                clear hK K
                refine wpAny_done (by kernel_rfl) ?_ _
                go_wp2_with fail
                go_meet
                case rel => rfl
              · intro K hK
                unfold wpOp
                go_simp
                refine Or.inl (hK _ _ ?_)
                clear hK K
                refine wpAny_br (rs := [2]) (by kernel_rfl) (by simp) ?_
                intro i hi
                simp only [List.mem_cons, List.not_mem_nil, or_false] at hi
                subst hi
                intro K hK
                unfold wpOp
                go_simp
                refine Or.inl (hK _ _ ?_)
                clear hK K
                refine wpAny_take (i := 29) (v := .pointer (some ⟨g, 0, none⟩)) rfl (by kernel_rfl) (by kernel_rfl) (by kernel_rfl) (fun c a w h => h) (Or.inl ⟨by go_simp, fun w => by go_simp⟩) ?_
                go_simp
                refine wpAny_take (i := 30) (v := .pointer (some ⟨g, 2, none⟩)) rfl (by kernel_rfl) (by kernel_rfl) (by kernel_rfl) (fun c a w h => h) (Or.inl ⟨by go_simp, fun w => by go_simp⟩) ?_
                go_simp
                refine wpAny_br (rs := [31]) (by kernel_rfl) (by simp) ?_
                intro i hi
                simp only [List.mem_cons, List.not_mem_nil, or_false] at hi
                subst hi
                intro K hK
                unfold wpOp
                go_simp
                refine Or.inl (hK _ _ ?_)
                clear hK K
                refine wpAny_done (by kernel_rfl) ?_ _
                go_wp2_with fail
                go_meet
                case rel => rfl
            · intro K hK
              unfold wpOp
              go_simp
              refine Or.inl (hK _ _ ?_)
              clear hK K
              refine wpAny_br (rs := [1]) (by kernel_rfl) (by simp) ?_
              intro i hi
              simp only [List.mem_cons, List.not_mem_nil, or_false] at hi
              subst hi
              intro K hK
              unfold wpOp
              go_simp
              refine Or.inl (hK _ _ ?_)
              clear hK K
              refine wpAny_take (i := 26) (v := .pointer (some ⟨g, 0, none⟩)) rfl (by kernel_rfl) (by kernel_rfl) (by kernel_rfl) (fun c a w h => h) (Or.inl ⟨by go_simp, fun w => by go_simp⟩) ?_
              go_simp
              refine wpAny_take (i := 27) (v := .pointer (some ⟨g, 0, none⟩)) rfl (by kernel_rfl) (by kernel_rfl) (by kernel_rfl) (fun c a w h => h) (Or.inl ⟨by go_simp, fun w => by go_simp⟩) ?_
              go_simp
              refine wpAny_br (rs := [28]) (by kernel_rfl) (by simp) ?_
              intro i hi
              simp only [List.mem_cons, List.not_mem_nil, or_false] at hi
              subst hi
              intro K hK
              unfold wpOp
              go_simp
              refine Or.inl (hK _ _ ?_)
              clear hK K
              refine wpAny_take (i := 29) (v := .pointer (some ⟨g, 0, none⟩)) rfl (by kernel_rfl) (by kernel_rfl) (by kernel_rfl) (fun c a w h => h) (Or.inl ⟨by go_simp, fun w => by go_simp⟩) ?_
              go_simp
              refine wpAny_take (i := 30) (v := .pointer (some ⟨g, 2, none⟩)) rfl (by kernel_rfl) (by kernel_rfl) (by kernel_rfl) (fun c a w h => h) (Or.inl ⟨by go_simp, fun w => by go_simp⟩) ?_
              go_simp
              refine wpAny_br (rs := [31]) (by kernel_rfl) (by simp) ?_
              intro i hi
              simp only [List.mem_cons, List.not_mem_nil, or_false] at hi
              subst hi
              intro K hK
              unfold wpOp
              go_simp
              refine Or.inl (hK _ _ ?_)
              clear hK K
              refine wpAny_done (by kernel_rfl) ?_ _
              go_wp2_with fail
              go_meet
              case rel => rfl
      case rest =>
        subst hcut
        have hb7 := (((HB.out.set_ 1 (.slice A2' mo c2')).set_ 0 (.slice A1' mc c1')).set_ 2 (.slice A3' m c3')).drew
        have ht7 : Tch W (((W.setCell ⟨g, 1, none⟩ (.slice A2' mo c2')).setCell ⟨g, 0, none⟩ (.slice A1' mc c1')).setCell ⟨g, 2, none⟩ (.slice A3' m c3')).drew (· = g) := (((Tch.set_ W (S := (· = g)) (p := ⟨g, 1, none⟩) _ rfl).put (p := ⟨g, 0, none⟩) _ rfl).put (p := ⟨g, 2, none⟩) _ rfl).drew
        have hK7 : (((W.setCell ⟨g, 1, none⟩ (.slice A2' mo c2')).setCell ⟨g, 0, none⟩ (.slice A1' mc c1')).setCell ⟨g, 2, none⟩ (.slice A3' m c3')).drew.heap[D]? = some (.deferred (some [])) := ((((KeepsOthers.setCell _ _ _).trans (KeepsOthers.setCell _ _ _)).trans (KeepsOthers.setCell _ _ _)).trans (KeepsOthers.drew _)).same D _ HK.out rfl
        obtain ⟨W7, hW7⟩ : ∃ W7, (((W.setCell ⟨g, 1, none⟩ (.slice A2' mo c2')).setCell ⟨g, 0, none⟩ (.slice A1' mc c1')).setCell ⟨g, 2, none⟩ (.slice A3' m c3')).drew = W7 := ⟨_, rfl⟩
        rw [hW7] at hb7 ht7 hK7 ⊢
        clear hW7 b0 m0' m1' p0 p1 p2 p3 g0 g1 g2 nb1 nb2
        have o1 := ht7.own H1.out (fun q hq e => own_blk_ne H1.out HB.out (by decide) (by rw [hq, e]))
        have o2 := ht7.own H2.out (fun q hq e => own_blk_ne H2.out HB.out (by decide) (by rw [hq, e]))
        have o3 := ht7.own H3.out (fun q hq e => own_blk_ne H3.out HB.out (by decide) (by rw [hq, e]))
        have t1 := flat_take fcl 2 (fun _ => rfl) (backs cs (os.drop mo)) mc
        have t2 := flat_take fol 3 (fun _ => rfl) os mo
        have t3 := flat_take fmk 3 (fun _ => rfl) ms m
        have o1' := own_trunc o1 (show mc ≤ cs.length by rw [HNN.out]; exact hmc)
        have o2' := own_trunc o2 (show mo ≤ os.length by rw [HN2.out]; exact hmo)
        have o3' := own_trunc o3 (show m ≤ ms.length by rw [HN3.out]; omega)
        rw [t1] at o1'
        rw [t2] at o2'
        rw [t3] at o3'
        have l1 : ((backs cs (os.drop mo)).take mc).length = mc := by rw [List.length_take, backs_len, HNN.out]; omega
        have l2 : (os.take mo).length = mo := by rw [List.length_take, HN2.out]; omega
        have l3 : (ms.take m).length = m := by rw [List.length_take, HN3.out]; omega
        have hT7 : TR W7 g (fun k => F k ∧ k < wc.heap.size) ((backs cs (os.drop mo)).take mc) (os.take mo) (ms.take m) ev := by
          refine ⟨hg, A1', c1', A2', c2', A3', c3', by rw [l1, l2, l3]; exact hb7, by rw [l1]; exact o1', fun k hk => f1 k (by rw [← hk]; cases A1' <;> rfl), by rw [l2]; exact o2', fun k hk => f2 k (by rw [← hk]; cases A2' <;> rfl), by rw [l3]; exact o3', fun k hk => f3 k (by rw [← hk]; cases A3' <;> rfl)⟩
        have hg8 := grownBy_putObj' W7 D (.deferred none)
        have ht8 : Tch W7 (W7.putObj D (.deferred none)) (· = D) := Tch.of_grown hg8 fun i _ e => by injection e
        have hT8 := hT7.keep ht8 fun k hk e => by omega
        have hL : Left w g F ((backs cs (os.drop mo)).take mc) (os.take mo) (ms.take m) ev (W7.putObj D (.deferred none)) := by
          refine ⟨hT8.mono fun k hk => .inl hk.1, ?_⟩
          refine ((((Tch.of_below hBc F).trans HT.out fun _ _ h => h).trans (ht7.mono (S' := F) fun q _ e => by rw [e]; exact hg.1) fun _ _ h => h)).trans ht8 fun i hi e => ?_
          have := hBc.size
          omega
        have HLL := Lib.hid hL
        clear hL hT8 ht8 hg8 hT7 o1 o2 o3 o1' o2' o3' t1 t2 t3 l1 l2 l3 hb7 ht7
        go_wp2_with fail
        refine ⟨by simp, .inl ⟨_, _, rfl, run_takeDeferred hK7, ?_⟩⟩
        exact ⟨_, results_tmp rfl _ _ _, rfl, HLL.out⟩
    case stop =>
      rintro D c pre W _ _ h _
      exact h.elim
end Go.Proofs.Ytgojncgdmcpkiaa.trl
