/- A number waits no more; the most urgent one is taken. -/
import Derived.Test.YthjfboecdhlnfaaQuPush
import Derived.Deep.QuietTactic
import Derived.BigQuiet
namespace Go.Proofs.Ythjfboecdhlnfaa.que
open Go Go.RowKit Go.ChangeShapes Go.WideShapes Go.ChangeAt Go.Proofs.Ythjfboecdhlnfaa.words
set_option linter.unusedVariables false
theorem IsHeap.take_ {H : List It} (h : IsHeap H) (m : Nat) : IsHeap (H.take m) := by
  intro j h0 h1
  rw [List.length_take] at h1
  have e : ∀ q, q < m → (H.take m).getD q z0 = H.getD q z0 := fun q hq => by
    simp only [List.getD_eq_getElem?_getD, List.getElem?_take, if_pos hq]
  unfold Ok
  rw [e j (by omega), e _ (by omega)]
  exact h j h0 (by omega)
theorem swp_front {H : List It} {i m : Nat} (hi : i ≤ m) (hm : m + 1 = H.length) : swp H i m = (H.take m).set i (H.getD m z0) ++ [H.getD i z0] := by
  have hl : (H.set i (H.getD m z0)).length = m + 1 := by rw [List.length_set]; exact hm.symm
  unfold swp
  apply List.ext_getElem?
  intro j
  by_cases hj : j < m
  · rw [List.getElem?_set_ne (by omega), List.getElem?_append_left (by rw [List.length_set, List.length_take]; omega), ← List.take_set, List.getElem?_take, if_pos hj]
  · by_cases hjm : j = m
    · subst hjm
      rw [List.getElem?_set_self (by rw [hl]; omega), List.getElem?_append_right (by rw [List.length_set, List.length_take]; omega), List.length_set, List.length_take, Nat.min_eq_left (by omega), Nat.sub_self]
      rfl
    · rw [List.getElem?_eq_none (by simp; omega), List.getElem?_eq_none (by simp; omega)]
theorem drop_perm {N : Nat} {H H2 : List It} {a : It} (hv : Val N H) (hp : (H2 ++ [a]).Perm H) : H2.Perm (H.filter fun b => decide (b.2 ≠ a.2)) := by
  have hv2 := hv.perm hp
  have h1 := hp.filter (fun b => decide (b.2 ≠ a.2))
  rw [List.filter_append, List.filter_cons_of_neg (by simp), List.filter_nil, List.append_nil, List.filter_eq_self.2 fun b hb => by simpa using hv2.last_ne b hb] at h1
  exact h1
def Dropped (w : World) (g N : Nat) (F : Nat → Prop) (H : List It) (x : Int) (e : Ending) (w' : World) : Prop :=
  e = .returned (.bool true) ∧ (∃ H', Qs w' g F N H' ∧ H'.Perm (H.filter fun a => decide (a.2 ≠ x)) ∧ IsHeap H') ∧ Tch w w' F
theorem drop_nil (x : Int) (w : World) : Calls Try.prog 11 #[.pointer none, .int .i64 x] w fun e w' => e = .returned (.bool false) ∧ w = w' := by
  go_enter Try.func11, Try.ntmps11
  go_wp2_with (first
    | (go_at_call 16; (with_reducible refine (has_nil _ _).mono ?_); rintro e w' ⟨rfl, rfl⟩))
  go_ret
  exact ⟨rfl, rfl⟩
theorem drop_none (w : World) (g N : Nat) (F : Nat → Prop) (H : List It) (x : Int) (hq : Qs w g F N H) (hv : Val N H) (hN : N ≤ 1000000) (hx : inQ H x = false) : Calls Try.prog 11 #[.pointer (some ⟨g, 0, none⟩), .int .i64 x] w fun e w' => e = .returned (.bool false) ∧ w = w' := by
  have hh := has_any w g N F H x hq hv hN
  rw [hx] at hh
  clear hq hv hx
  go_enter Try.func11, Try.ntmps11
  go_wp2_with (first
    | (go_at_call 16; (with_reducible refine (hh).mono ?_); rintro e w' ⟨rfl, rfl⟩))
  go_ret
  exact ⟨rfl, rfl⟩
set_option maxRecDepth 100000 in
set_option maxHeartbeats 4000000 in
theorem drop_some (w : World) (g N x i : Nat) (p0 : Int) (F : Nat → Prop) (H : List It) (hq : Qs w g F N H) (hv : Val N H) (hh : IsHeap H) (hi : H[i]? = some (p0, (x : Int))) (hlen : H.length < 1000000) :
    Calls Try.prog 11 #[.pointer (some ⟨g, 0, none⟩), .int .i64 x] w fun e w' => Dropped w g N F H x e w' := by
  have hil := (List.getElem?_eq_some_iff.1 hi).1
  have hx : x < N := by have := (hv.lo _ (List.mem_of_getElem? hi)).2; dsimp only at this; omega
  have hhas := has_in w g N F H x hq hv hx
  have hin : inQ H x = true := (inQ_iff _ _).2 ⟨_, List.mem_of_getElem? hi, rfl⟩
  rw [hin] at hhas
  obtain ⟨m, hm⟩ : ∃ m, m + 1 = H.length := ⟨H.length - 1, by omega⟩
  have hiD : H.getD i z0 = (p0, (x : Int)) := by rw [List.getD_eq_getElem?_getD, hi]; rfl
  have hsw := swp_front (show i ≤ m by omega) hm
  rw [hiD] at hsw
  have hpm := swp_perm (H := H) (i := i) (k := m) hil (by omega)
  have hv1 := hv.perm hpm
  obtain ⟨H2, hH2⟩ : ∃ H2, (H.take m).set i (H.getD m z0) = H2 := ⟨_, rfl⟩
  rw [hH2] at hsw
  rw [hsw] at hpm hv1
  have hp2 : Hid (H2.Perm (H.filter fun a => decide (a.2 ≠ (x : Int)))) := drop_perm hv hpm
  have hl2 : Hid (H2.length = m) := by show _ = _; rw [← hH2, List.length_set, List.length_take]; omega
  have hup : Up H2 i := by rw [← hH2]; exact (hh.take_ m).set_up i _
  have hend : Hid (i = m → IsHeap H2) := fun e => by
    rw [← hH2, e, List.set_eq_of_length_le (by rw [List.length_take]; omega)]
    exact hh.take_ m
  have hv2 := hv1.front
  have hplc : plc H x = i := plc_some (by rw [hi]; rfl) hv.nd
  have hps : Hid ((plcs N (H2 ++ [(p0, (x : Int))])).set x (-1) = plcs N H2) := by
    have := plcs_pop hv1; rwa [Int.toNat_natCast] at this
  have swC : ∀ w', Below w.heap.size w w' → Calls Try.prog 23 #[.pointer (some ⟨g, 0, none⟩), .int .i64 i, .int .i64 m] w' fun e w'' => e = .returned (.tuple #[]) ∧ Qs w'' g F N (H2 ++ [(p0, (x : Int))]) ∧ Tch w' w'' F := fun w' hb => by
    have := swap_any w' g N i m F H (hq.below hb) hv hil (by omega) (by omega)
    unfold Swapped at this; rw [hsw] at this; exact this
  have hle : i ≤ m := by omega
  have hmb : m < 1000000 := by omega
  obtain ⟨n, hn⟩ : ∃ n, H.length = n := ⟨_, rfl⟩
  rw [hn] at hm hil
  obtain ⟨A0, c0, r2, c2, hcell, hf2⟩ : ∃ A0 c0 r2 c2, (∀ w', Below w.heap.size w w' → w'.cell? ⟨g, 0, none⟩ = some (.slice A0 n c0) ∧ w'.cell? ⟨g, 1, none⟩ = some (.slice (some ⟨r2, 0, none⟩) N c2) ∧ w'.cell? ⟨r2, x, none⟩ = some (.int .i64 i)) ∧ N ≤ c2 := by
    obtain ⟨hFg, A1, c1, A2, c2, hb, h1, f1, h2, f2⟩ := hq
    have hcN := own_cap h2
    obtain ⟨r2, rfl, _, _⟩ := own_some h2 (by omega)
    refine ⟨A1, c1, r2, c2, fun w' hw => ?_, hcN⟩
    obtain ⟨u0, u1⟩ := (hb.under hw).two
    rw [hn] at u0
    have gx := plcs_get N H x hx
    rw [hplc] at gx
    exact ⟨u0, u1, ((own_under h2 hw).cellAt x (by omega)).trans (by unfold nums; rw [List.getElem?_map, gx]; rfl)⟩
  obtain ⟨q0, q1, e1⟩ := hcell w (Below.refl _ _)
  have x0 : (0 : Int) ≤ (x : Int) := Int.natCast_nonneg _
  have x1 : (x : Int) < (N : Int) := by omega
  have w2 : (n : Int) - 1 = (m : Int) := by omega
  have w1 : IntKind.i64.wrap ((n : Int) - 1) = (m : Int) := by rw [w2, IntKind.wrap_i64]; omega
  clear hq hv hh hi hin hiD hsw hH2 hpm hplc hn hcell hm
  go_enter Try.func11, Try.ntmps11
  go_wp2_with fail
  refine hhas.mono ?_
  rintro e w' ⟨rfl, rfl⟩
  clear hhas
  go_wp2_with fail
  go_quiet (fail)
  clear q0 q1 e1
  go_wp2_with fail
  refine (swC _ (below_drewN (Below.refl _ _) _)).mono ?_
  rintro e W1 ⟨rfl, hq1, ht1⟩
  have hT1 : Tch w W1 F := (Tch.of_below (below_drewN (Below.refl _ _) _) F).trans ht1 fun _ _ h => h
  clear ht1 swC w1 w2
  obtain ⟨hFg, A1, c1, A2, c3, hb, h1, f1, h2, f2⟩ := hq1
  have hl3 : (H2 ++ [(p0, (x : Int))]).length = m + 1 := by rw [List.length_append, hl2.out]; rfl
  rw [hl3, flat_snoc] at h1
  rw [hl3] at hb f1
  have hcn := own_cap h1
  obtain ⟨r1, rfl, _, _⟩ := own_some h1 (by omega)
  obtain ⟨r3, rfl, _, _⟩ := own_some h2 (by omega)
  have h1p := ownsRow_pop (n := m) (by rw [flat_len2, hl2.out]) h1
  have ne2 : r3 ≠ g := fun e => own_blk_ne h2 hb (by decide) (by rw [e]; rfl)
  have ne1 : r1 ≠ g := fun e => own_blk_ne h1 hb (by decide) (by rw [e]; rfl)
  have ne3 : r1 ≠ r3 := own_ne h1 h2 (by decide)
  obtain ⟨q0, q1⟩ := hb.two
  have k0 := hb.frozen 0
  have gx := plcs_get N (H2 ++ [(p0, (x : Int))]) x hx
  have e1 : W1.cell? ⟨r3, x, none⟩ = some (.int .i64 (plc (H2 ++ [(p0, (x : Int))]) x)) := (h2.cellAt x (by omega)).trans (by unfold nums; rw [List.getElem?_map, gx]; rfl)
  have e2 := h2.frozenAt x
  obtain ⟨v, hv'⟩ : ∃ v, plc (H2 ++ [(p0, (x : Int))]) x = v := ⟨_, rfl⟩
  rw [hv'] at e1
  have l0 : (0 : Int) ≤ (m : Int) := by omega
  have l1 : (m : Int) ≤ (c1 : Int) := by omega
  have hS1 : Tch W1 (W1.setCell ⟨g, 0, none⟩ (.slice (some ⟨r1, 0, none⟩) m c1)) (· = g) := Tch.set_ W1 _ rfl
  have hS2 : Tch (W1.setCell ⟨g, 0, none⟩ (.slice (some ⟨r1, 0, none⟩) m c1)) ((W1.setCell ⟨g, 0, none⟩ (.slice (some ⟨r1, 0, none⟩) m c1)).setCell ⟨r3, x, none⟩ (.int .i64 (-1))).drew (· = r3) := ((Tch.refl _ (· = r3)).put _ rfl).drew
  have hb3 := hS2.blk (hb.set_ 0 (.slice (some ⟨r1, 0, none⟩) m c1)) (fun e => ne2 e.symm)
  have o3 := hS2.own (hS1.own h1p (fun q hq e => ne1 (by have h0 := Option.some.inj hq; dsimp only at h0; omega))) (fun q hq e => ne3 (by have h0 := Option.some.inj hq; dsimp only at h0; omega))
  have p3 := ((hS1.own h2 (fun q hq e => ne2 (by have h0 := Option.some.inj hq; dsimp only at h0; omega))).stored x (.int .i64 (-1))).1.drew
  have hq3 : Qs ((W1.setCell ⟨g, 0, none⟩ (.slice (some ⟨r1, 0, none⟩) m c1)).setCell ⟨r3, x, none⟩ (.int .i64 (-1))).drew g F N H2 := by
    refine ⟨hFg, some ⟨r1, 0, none⟩, c1, some ⟨r3, 0, none⟩, c3, by rw [hl2.out]; exact hb3, by rw [hl2.out]; exact o3, by rw [hl2.out]; exact f1, ?_, f2⟩
    rw [← hps.out]; unfold nums at p3 ⊢; rw [List.map_set]; exact p3
  have hT3 : Tch w ((W1.setCell ⟨g, 0, none⟩ (.slice (some ⟨r1, 0, none⟩) m c1)).setCell ⟨r3, x, none⟩ (.int .i64 (-1))).drew F :=
    (hT1.trans (hS1.mono fun q _ e => by rw [e]; exact hFg) fun _ _ h => h).trans (hS2.mono fun q _ e => f2 q (by rw [e]; rfl)) fun _ _ h => h
  have HQ3 := Lib.hid hq3
  have HT3 := Lib.hid hT3
  clear hq3 hT3 hb3 o3 p3 hS1 hS2 h1 h2 h1p hb gx hv' hT1 f1 f2 hl3 hv1
  go_wp2_with fail
  go_region
  by_cases him : i < m
  · have hsC := settle_any _ g N i m F H2 hl2 HQ3.out hv2 him hup (by omega)
    go_wp2_with fail
    refine hsC.mono ?_
    rintro e w9 ⟨rfl, ⟨H9, hq9, hp9, hh9⟩, ht9⟩
    go_wp2_with fail
    go_ret
    exact ⟨rfl, ⟨H9, hq9, hp9.trans hp2.out, hh9⟩, HT3.out.trans ht9 fun _ _ h => h⟩
  · have hime : i = m := by omega
    have HE := Lib.hid hime
    clear hime
    go_wp2_with fail
    go_ret
    exact ⟨rfl, ⟨H2, HQ3.out, hp2.out, hend.out HE.out⟩, HT3.out⟩
end Go.Proofs.Ythjfboecdhlnfaa.que
