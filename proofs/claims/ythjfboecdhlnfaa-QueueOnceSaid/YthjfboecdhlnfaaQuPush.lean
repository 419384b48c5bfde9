/- A number is pushed. -/
import Derived.Test.YthjfboecdhlnfaaQuOps
import Derived.RegionTactic
import Derived.BigRegion
namespace Go.Proofs.Ythjfboecdhlnfaa.que
open Go Go.RowKit Go.ChangeShapes Go.WideShapes Go.ChangeAt Go.Proofs.Ythjfboecdhlnfaa.words
set_option linter.unusedVariables false
theorem IsHeap.set_up {H : List It} (h : IsHeap H) (i : Nat) (a : It) : Up (H.set i a) i := by
  have hg : ∀ j, j ≠ i → (H.set i a).getD j z0 = H.getD j z0 := fun j hj => by
    simp only [List.getD_eq_getElem?_getD, List.getElem?_set_ne (Ne.symm hj)]
  constructor
  · intro j h0 h1 hj hp
    rw [List.length_set] at h1
    unfold Ok
    rw [hg j hj, hg _ hp]
    exact h j h0 h1
  · intro j h0 h1 hp hi
    rw [List.length_set] at h1
    rw [hg j (by omega), hg _ (by omega)]
    have h2 := h j h0 h1
    have h3 := h i hi (by omega)
    unfold Ok at h2 h3
    rw [hp] at h2
    exact le_trans h3 h2
theorem IsHeap.snoc_up {H : List It} (h : IsHeap H) (a : It) : Up (H ++ [a]) H.length := by
  have hg : ∀ j, j < H.length → (H ++ [a]).getD j z0 = H.getD j z0 := fun j hj => by
    simp only [List.getD_eq_getElem?_getD, List.getElem?_append_left hj]
  constructor
  · intro j h0 h1 hj hp
    simp at h1
    unfold Ok
    rw [hg j (by omega), hg _ (by omega)]
    exact h j h0 (by omega)
  · intro j h0 h1 hp hi
    simp at h1
    omega
theorem set_perm {N : Nat} {H : List It} {i : Nat} {p0 p x : Int} (hv : Val N H) (hi : H[i]? = some (p0, x)) : (H.set i (p, x)).Perm ((p, x) :: H.filter fun a => decide (a.2 ≠ x)) := by
  obtain ⟨hl, he⟩ := List.getElem?_eq_some_iff.1 hi
  have hnd := hv.nd
  obtain ⟨s, t, rfl, rfl⟩ : ∃ s t, H = s ++ (p0, x) :: t ∧ s.length = i := by
    refine ⟨H.take i, H.drop (i + 1), ?_, by simp; omega⟩
    rw [← he]; simp
  rw [List.set_append_right _ _ (Nat.le_refl _), Nat.sub_self, List.set_cons_zero]
  rw [List.map_append, List.map_cons, List.nodup_append, List.nodup_cons] at hnd
  obtain ⟨_, ⟨h1, _⟩, h3⟩ := hnd
  have es : s.filter (fun a => decide (a.2 ≠ x)) = s := List.filter_eq_self.2 fun a ha => by
    have := h3 a.2 (List.mem_map_of_mem ha) x (by simp); simpa using this
  have et : t.filter (fun a => decide (a.2 ≠ x)) = t := List.filter_eq_self.2 fun a ha => by
    have : a.2 ≠ x := fun e => h1 (List.mem_map.2 ⟨a, ha, e⟩)
    simpa using this
  rw [List.filter_append, List.filter_cons_of_neg (by simp), es, et]
  exact List.perm_middle
theorem snoc_perm {H : List It} {p x : Int} (hn : ∀ a ∈ H, a.2 ≠ x) : (H ++ [(p, x)]).Perm ((p, x) :: H.filter fun a => decide (a.2 ≠ x)) := by
  rw [List.filter_eq_self.2 fun a ha => by simpa using hn a ha]
  exact List.perm_append_singleton _ _
/-- what Push leaves -/
def Pushed (w : World) (g N : Nat) (F : Nat → Prop) (H : List It) (p x : Int) (e : Ending) (w' : World) : Prop :=
  e = .returned (.int .i64 0) ∧ (∃ H', Qs w' g (fun k => F k ∨ w.heap.size ≤ k) N H' ∧ H'.Perm ((p, x) :: H.filter fun a => decide (a.2 ≠ x)) ∧ IsHeap H') ∧ Tch w w' F
set_option maxRecDepth 100000 in
set_option maxHeartbeats 4000000 in
theorem push_old (w : World) (g N x i : Nat) (p p0 : Int) (F : Nat → Prop) (H1 : List It) (hq1 : Qs w g F N H1) (hv1 : Val N H1) (hh : IsHeap H1) (hx : x < N) (hi : H1[i]? = some (p0, (x : Int))) (hlen : H1.length < 1000000) :
    Calls Try.prog 10 #[.pointer (some ⟨g, 0, none⟩), .int .i64 x, .int .i64 p] w fun e w' => Pushed w g N F H1 p x e w' := by
  have hhas := has_in w g N F H1 x hq1 hv1 hx
  have hin : inQ H1 x = true := (inQ_iff _ _).2 ⟨_, List.mem_of_getElem? hi, rfl⟩
  rw [hin] at hhas
  have hup := hh.set_up i (p, (x : Int))
  have hpm : Hid ((H1.set i (p, (x : Int))).Perm ((p, (x : Int)) :: H1.filter fun a => decide (a.2 ≠ (x : Int)))) := set_perm hv1 hi
  obtain ⟨A0, c0, A3, c3, hcell⟩ : ∃ A0 c0 A3 c3, w.cell? ⟨g, 0, none⟩ = some (.slice A0 H1.length c0) ∧ w.cell? ⟨g, 1, none⟩ = some (.slice A3 N c3) := by
    obtain ⟨hFg, A1, c1, A2, c2, hb, _⟩ := hq1
    exact ⟨A1, c1, A2, c2, hb.two⟩
  have q1' := hcell.2
  have z0' : (0 : Int) ≤ (x : Int) := Int.natCast_nonneg _
  have z1' : (x : Int) < (N : Int) := by omega
  clear hin hh
  go_enter Try.func10, Try.ntmps10
  go_wp2_with fail
  refine hhas.mono ?_
  rintro e w' ⟨rfl, rfl⟩
  clear hhas q1' hcell z0' z1'
  obtain ⟨hFg, A1, c1, A2, c2, hb, h1, f1, h2, f2⟩ := hq1
  have hcn := own_cap h1
  have hcN := own_cap h2
  obtain ⟨n, hn⟩ : ∃ n, H1.length = n := ⟨_, rfl⟩
  have hin : i < n := by rw [← hn]; exact (List.getElem?_eq_some_iff.1 hi).1
  have hiD : H1.getD i z0 = (p0, (x : Int)) := by rw [List.getD_eq_getElem?_getD, hi]; rfl
  have hfl : Hid ((flat H1).set (i * 2) (.int .i64 p) = flat (H1.set i (p, (x : Int)))) := by
    have := flat_setp (H := H1) (i := i) p (by omega); rw [hiD] at this; exact this
  have hpl : Hid (plcs N (H1.set i (p, (x : Int))) = plcs N H1) := by
    have := plcs_setp (N := N) (H := H1) (i := i) p (by omega); rw [hiD] at this; exact this
  have hv2 : Val N (H1.set i (p, (x : Int))) := by
    have := hv1.setp (i := i) p (by omega); rw [hiD] at this; exact this
  have HL : Hid ((H1.set i (p, (x : Int))).length = n) := by show _ = _; rw [List.length_set]; exact hn
  have HN := Lib.hid hn
  rw [hn] at hb h1 f1 hcn
  have hpc : plc H1 x = i := plc_some (by rw [hi]; rfl) hv1.nd
  obtain ⟨r1, rfl, _, hr1⟩ := own_some h1 (by omega)
  obtain ⟨r2, rfl, _, hr2⟩ := own_some h2 (by omega)
  have ne1 : r1 ≠ g := fun e => own_blk_ne h1 hb (by decide) (by rw [e]; rfl)
  have ne2 : r2 ≠ g := fun e => own_blk_ne h2 hb (by decide) (by rw [e]; rfl)
  have ne3 : r1 ≠ r2 := own_ne h1 h2 (by decide)
  obtain ⟨q0, q1⟩ := hb.two
  have gx := plcs_get N H1 x hx
  rw [hpc] at gx
  have e1 : w.cell? ⟨r2, x, none⟩ = some (.int .i64 i) := (h2.cellAt x (by omega)).trans (by unfold nums; rw [List.getElem?_map, gx]; rfl)
  have e2 : w.cell? ⟨r1, i * 2, none⟩ = some (.int .i64 p0) := (h1.cellAt (i * 2) (by omega)).trans (flat_at hi).1
  have e3 := h1.frozenAt (i * 2)
  have x0 : (0 : Int) ≤ (x : Int) := Int.natCast_nonneg _
  have x1 : (x : Int) < (N : Int) := by omega
  have i0 : (0 : Int) ≤ (i : Int) := Int.natCast_nonneg _
  have i1 : (i : Int) < (n : Int) := by omega
  have HH : Hid (Blk w g 57 #[.slice (some ⟨r1, 0, none⟩) n c1, .slice (some ⟨r2, 0, none⟩) N c2] ∧ w.ownsRow 0 59 2 (.slice (some ⟨r1, 0, none⟩) n c1) n (flat H1) ∧ w.ownsRow 0 3 1 (.slice (some ⟨r2, 0, none⟩) N c2) N (nums (plcs N H1))) := ⟨hb, h1, h2⟩
  clear hb h1 h2 gx hn hiD hpc hi hv1
  go_wp2_with fail
  go_region
  obtain ⟨hb, h1, h2⟩ := HH.out
  have hT : Tch w (w.setCell ⟨r1, i * 2, none⟩ (.int .i64 p)).drew (· = r1) := ((Tch.refl w (· = r1)).put _ rfl).drew
  have o1 := (h1.stored (i * 2) (.int .i64 p)).1.drew
  rw [hfl.out] at o1
  have hb2 := hT.blk hb (fun e => ne1 e.symm)
  have o2 := hT.own h2 (fun q hq e => ne3 (by have h0 := Option.some.inj hq; dsimp only at h0; omega))
  have hq2 : Qs (w.setCell ⟨r1, i * 2, none⟩ (.int .i64 p)).drew g F N (H1.set i (p, (x : Int))) :=
    ⟨hFg, some ⟨r1, 0, none⟩, c1, some ⟨r2, 0, none⟩, c2, by rw [HL.out]; exact hb2, by rw [HL.out]; exact o1, by rw [HL.out]; exact f1, by rw [hpl.out]; exact o2, f2⟩
  have hT2 : Tch w (w.setCell ⟨r1, i * 2, none⟩ (.int .i64 p)).drew F := hT.mono fun q _ e => f1 q (by rw [e]; rfl)
  have hsC := settle_any _ g N i n F (H1.set i (p, (x : Int))) HL hq2 hv2 hin hup (by have := HN.out; omega)
  clear hb h1 h2 o1 o2 hb2 hT hq2 HH e2 e3
  go_wp2_with fail
  refine hsC.mono ?_
  rintro e w9 ⟨rfl, ⟨H9, hq9, hp9, hh9⟩, ht9⟩
  go_wp2_with fail
  go_ret
  refine ⟨rfl, ⟨H9, hq9.mono fun k hk => .inl hk, hp9.trans hpm.out, hh9⟩, hT2.trans ht9 fun _ _ h => h⟩
theorem reads_two {w : World} {t : TypeId} {b : Nat} {x y : Value} (h : w.heap[b]? = some (.cells #[x, y] t (0, 0))) : Reads w w.heap.size 2 (some ⟨b, 0, none⟩) 1 [x, y] := by
  refine ⟨rfl, fun _ => ⟨_, rfl, Blk.lt h, fun j u hu => ?_⟩⟩
  have e : (Addr.add ⟨b, 0, none⟩ j) = ⟨b, j, none⟩ := by unfold Addr.add; split <;> simp_all
  rw [e, Blk.cell h j]
  match j, hu with
  | 0, hu => exact hu
  | 1, hu => exact hu
  | j + 2, hu => simp at hu
set_option maxRecDepth 100000 in
set_option maxHeartbeats 4000000 in
theorem push_fresh (w : World) (g N x : Nat) (p : Int) (F : Nat → Prop) (H : List It) (hq : Qs w g F N H) (hv : Val N H) (hh : IsHeap H) (hx : x < N) (hn : ∀ a ∈ H, a.2 ≠ (x : Int)) (hlen : H.length < 999999) :
    Calls Try.prog 10 #[.pointer (some ⟨g, 0, none⟩), .int .i64 x, .int .i64 p] w fun e w' => Pushed w g N F H p x e w' := by
  obtain ⟨j0, hi0, hz0, hz1, hz2⟩ := info_parts infoIt
  have hhas := has_in w g N F H x hq hv hx
  have hin : inQ H x = false := by
    cases hc : inQ H x with
    | false => rfl
    | true => obtain ⟨a, ha, he⟩ := (inQ_iff H x).1 hc; exact absurd he (hn a ha)
  rw [hin] at hhas
  have hpm : Hid ((H ++ [(p, (x : Int))]).Perm ((p, (x : Int)) :: H.filter fun a => decide (a.2 ≠ (x : Int)))) := snoc_perm hn
  have hv1 : Val N (H ++ [(p, (x : Int))]) := hv.snoc (by omega) (by omega) hn
  have hps := plcs_snoc hv (p := p) (x := (x : Int)) (by omega) (by omega) hn
  have hup0 := hh.snoc_up (p, (x : Int))
  obtain ⟨hFg, A1, c1, A2, c2, hb, h1, f1, h2, f2⟩ := hq
  have hcn := own_cap h1
  have hcN := own_cap h2
  obtain ⟨n, hnn⟩ : ∃ n, H.length = n := ⟨_, rfl⟩
  rw [hnn] at hb h1 f1 hcn hps hlen hup0
  rw [Int.toNat_natCast] at hps
  have HPS := Lib.hid hps
  have HNN := Lib.hid hnn
  obtain ⟨r2, rfl, _, hr2⟩ := own_some h2 (by omega)
  have ne2 : r2 ≠ g := fun e => own_blk_ne h2 hb (by decide) (by rw [e]; rfl)
  have gx := plcs_get N H x hx
  have e1 : w.cell? ⟨r2, x, none⟩ = some (.int .i64 (plc H x)) := (h2.cellAt x (by omega)).trans (by unfold nums; rw [List.getElem?_map, gx]; rfl)
  have e2 := h2.frozenAt x
  obtain ⟨q0, q1⟩ := hb.two
  have x0 : (0 : Int) ≤ (x : Int) := Int.natCast_nonneg _
  have x1 : (x : Int) < (N : Int) := by omega
  have hne : (Value.slice A1 n c1).ownBlock ≠ some r2 := fun e => by
    rcases h2.2 with ⟨h0, _⟩ | ⟨q, cap, cur, hv', _, hhp, _⟩
    · cases h0
    · cases hv'; exact own_blk_ne h1 hhp (by decide) e
  have hT : Tch w (w.setCell ⟨r2, x, none⟩ (.int .i64 n)).drew (· = r2) := ((Tch.refl w (· = r2)).put _ rfl).drew
  have HH : Hid (Blk (w.setCell ⟨r2, x, none⟩ (.int .i64 n)).drew g 57 #[.slice A1 n c1, .slice (some ⟨r2, 0, none⟩) N c2] ∧ (w.setCell ⟨r2, x, none⟩ (.int .i64 n)).drew.ownsRow 0 59 2 (.slice A1 n c1) n (flat H) ∧
      (w.setCell ⟨r2, x, none⟩ (.int .i64 n)).drew.ownsRow 0 3 1 (.slice (some ⟨r2, 0, none⟩) N c2) N (nums (plcs N (H ++ [(p, (x : Int))])))) := by
    refine ⟨hT.blk hb (fun e => ne2 e.symm), hT.own h1 (fun q hq e => hne (by rw [hq, e])), ?_⟩
    have := (h2.stored x (.int .i64 n)).1.drew
    rw [← hps]; unfold nums at this ⊢; rw [List.map_set]; exact this
  clear hps hnn gx hb h1 h2 hin hh hn
  go_enter Try.func10, Try.ntmps10
  go_wp2_with fail
  refine hhas.mono ?_
  rintro e w' ⟨rfl, rfl⟩
  clear hhas
  go_wp2_with fail
  go_region
  obtain ⟨W1, hW1⟩ : ∃ W1, (w.setCell ⟨r2, x, none⟩ (.int .i64 n)).drew = W1 := ⟨_, rfl⟩
  rw [hW1] at HH hT ⊢
  clear hW1 q0 q1 e1 e2
  obtain ⟨hb, h1, h2⟩ := HH.out
  clear HH
  obtain ⟨q0, q1⟩ := hb.two
  have h1a := h1.alloc (.cells #[.int .i64 p, .int .i64 x] 59)
  have hr1 : Reads (W1.alloc (.cells #[.int .i64 p, .int .i64 x] 59)) (W1.alloc (.cells #[.int .i64 p, .int .i64 x] 59)).heap.size 2 (some ⟨W1.heap.size, 0, none⟩) 1 [.int .i64 p, .int .i64 x] := reads_two (t := 59) (heap_alloc_new _ _)
  have hone : ∀ u ∈ ([.int .i64 p, .int .i64 x] : List Value), u.oneCell' = true := fun u hu => by simp at hu; rcases hu with rfl | rfl <;> rfl
  have hneg : (Value.slice A1 n c1).ownBlock ≠ some g := own_blk_ne h1 hb (by decide)
  go_wp2_with (first
    | (at_builtin; refine wpList_append_any _ rfl (.tmp 41) (.tmp 45) _ rfl 0 59 j0 _ 2 16 Try.underlying55 hi0 hz0 hz1 hz2 rfl (by omega) _ n _ rfl h1a (W1.alloc (.cells #[.int .i64 p, .int .i64 x] 59)).heap.size (some ⟨W1.heap.size, 0, none⟩) 1 1 [.int .i64 p, .int .i64 x] rfl hr1 hone (by simp only [maxLen]; omega) (by omega) (by simp) ?_; intro v2 w2 hown hg1 hat; obtain ⟨A4, c4, rfl⟩ := own_shape hown; have hg2 : (W1.alloc (.cells #[.int .i64 p, .int .i64 x] 59)).grownBy w2 (Value.slice A1 n c1).ownBlock := hg1; have hb2 : Blk w2 g 57 #[.slice A1 n c1, .slice (some ⟨r2, 0, none⟩) N c2] := (hb.alloc _).grown hg2 (fun e => hneg e.symm); obtain ⟨k0, k1⟩ := hb2.two; have k2 := hb2.frozen 0)
    | fail)
  have h22 : w2.ownsRow 0 3 1 (.slice (some ⟨r2, 0, none⟩) N c2) N (nums (plcs N (H ++ [(p, (x : Int))]))) := (h2.alloc _).kept hg2 (.inr fun e => hne e.symm)
  have hneg2 : (Value.slice A4 (n + 1) c4).ownBlock ≠ some g := own_blk_ne hown hb2 (by decide)
  have hS : Tch w2 (w2.setCell ⟨g, 0, none⟩ (.slice A4 (n + 1) c4)) (· = g) := Tch.set_ w2 _ rfl
  have hb3 := hb2.set_ 0 (.slice A4 (n + 1) c4)
  have o3 := hS.own hown (fun q hq e => hneg2 (by rw [hq, e]))
  have p3 := hS.own h22 (fun q hq e => ne2 (by have h0 := Option.some.inj hq; dsimp only at h0; omega))
  have hT0 : Tch w (w2.setCell ⟨g, 0, none⟩ (.slice A4 (n + 1) c4)) F := by
    have t1 : Tch w W1 F := hT.mono fun q _ e => f2 q (by rw [e]; rfl)
    have t2 : Tch W1 w2 F := (Tch.of_below (bone W1 _) F).trans (Tch.of_grown hg2 (S := F) fun q _ hq => f1 q hq.symm) fun _ _ h => h
    have t3 : Tch w2 (w2.setCell ⟨g, 0, none⟩ (.slice A4 (n + 1) c4)) F := hS.mono fun q _ e => by rw [e]; exact hFg
    exact (t1.trans t2 fun _ _ h => h).trans t3 fun _ _ h => h
  have hsz : w.heap.size ≤ W1.heap.size := hT.size
  obtain ⟨W3, hW3⟩ : ∃ W3, w2.setCell ⟨g, 0, none⟩ (.slice A4 (n + 1) c4) = W3 := ⟨_, rfl⟩
  rw [hW3] at hb3 o3 p3 hT0 ⊢
  have hq1 : Qs W3 g (fun k => F k ∨ w.heap.size ≤ k) N (H ++ [(p, (x : Int))]) := by
    have hl : (H ++ [(p, (x : Int))]).length = n + 1 := by rw [List.length_append, HNN.out]; rfl
    refine ⟨.inl hFg, A4, c4, some ⟨r2, 0, none⟩, c2, by rw [hl]; exact hb3, by rw [hl, flat_snoc]; exact o3, fun k hk => ?_, p3, fun k hk => .inl (f2 k hk)⟩
    rw [hl] at hk
    rcases hat with e | e
    · exact .inl (f1 k (e.symm.trans hk))
    · rw [hk] at e; have := Option.some.inj e; simp at this; exact .inr (by omega)
  have hi : (H ++ [(p, (x : Int))])[n]? = some (p, (x : Int)) := by rw [List.getElem?_append_right (by rw [HNN.out]; exact Nat.le_refl _), HNN.out, Nat.sub_self]; rfl
  have hse : (H ++ [(p, (x : Int))]).set n (p, (x : Int)) = H ++ [(p, (x : Int))] := by
    rw [List.set_append_right _ _ (by rw [HNN.out]; exact Nat.le_refl _), HNN.out, Nat.sub_self]; rfl
  have hup : Up ((H ++ [(p, (x : Int))]).set n (p, (x : Int))) n := by rw [hse]; exact hup0
  have HSE := Lib.hid hse
  have hlen1 : (H ++ [(p, (x : Int))]).length < 1000000 := by rw [List.length_append, HNN.out]; simp; omega
  clear hW3 hb3 o3 p3 hS hb2 k0 k1 k2 hown hg1 hg2 hat h22 hneg2 hneg hr1 h1a hone hb h1 h2 q0 q1 hT hse hup0 x0 x1 f1 f2 hFg
  obtain ⟨H1, hH1⟩ : ∃ H1, H ++ [(p, (x : Int))] = H1 := ⟨_, rfl⟩
  rw [hH1] at hq1 hv1 hi hup hpm HSE hlen1
  clear hH1
  obtain ⟨i, hin'⟩ : ∃ i, n = i := ⟨_, rfl⟩
  rw [hin'] at hi hup HSE
  clear hin' hcn hcN HPS HNN
  obtain ⟨p0, hp0⟩ : ∃ p0, p = p0 := ⟨_, rfl⟩
  rw [show ((p, (x : Int)) = (p0, (x : Int))) by rw [hp0]] at hi
  clear hp0
  have hlen := hlen1
  obtain ⟨F9, hF9⟩ : ∃ F9 : Nat → Prop, F9 = fun k => F k ∨ w.heap.size ≤ k := ⟨_, rfl⟩
  rw [← hF9] at hq1
  have HF9 := Lib.hid hF9
  clear hF9
  obtain ⟨hFg, A1, c1, A2, c2, hb, h1, f1, h2, f2⟩ := hq1
  have hcn := own_cap h1
  have hcN := own_cap h2
  obtain ⟨n, hn⟩ : ∃ n, H1.length = n := ⟨_, rfl⟩
  have hin : i < n := by rw [← hn]; exact (List.getElem?_eq_some_iff.1 hi).1
  have hiD : H1.getD i z0 = (p0, (x : Int)) := by rw [List.getD_eq_getElem?_getD, hi]; rfl
  have hfl : Hid ((flat H1).set (i * 2) (.int .i64 p) = flat (H1.set i (p, (x : Int)))) := by
    have := flat_setp (H := H1) (i := i) p (by omega); rw [hiD] at this; exact this
  have hpl : Hid (plcs N (H1.set i (p, (x : Int))) = plcs N H1) := by
    have := plcs_setp (N := N) (H := H1) (i := i) p (by omega); rw [hiD] at this; exact this
  have hv2 : Val N (H1.set i (p, (x : Int))) := by
    have := hv1.setp (i := i) p (by omega); rw [hiD] at this; exact this
  have HL : Hid ((H1.set i (p, (x : Int))).length = n) := by show _ = _; rw [List.length_set]; exact hn
  have HN := Lib.hid hn
  rw [hn] at hb h1 f1 hcn
  have hpc : plc H1 x = i := plc_some (by rw [hi]; rfl) hv1.nd
  obtain ⟨r1, rfl, _, hr1⟩ := own_some h1 (by omega)
  obtain ⟨r2, rfl, _, hr2⟩ := own_some h2 (by omega)
  have ne1 : r1 ≠ g := fun e => own_blk_ne h1 hb (by decide) (by rw [e]; rfl)
  have ne2 : r2 ≠ g := fun e => own_blk_ne h2 hb (by decide) (by rw [e]; rfl)
  have ne3 : r1 ≠ r2 := own_ne h1 h2 (by decide)
  obtain ⟨q0, q1⟩ := hb.two
  have gx := plcs_get N H1 x hx
  rw [hpc] at gx
  have e1 : W3.cell? ⟨r2, x, none⟩ = some (.int .i64 i) := (h2.cellAt x (by omega)).trans (by unfold nums; rw [List.getElem?_map, gx]; rfl)
  have e2 : W3.cell? ⟨r1, i * 2, none⟩ = some (.int .i64 p0) := (h1.cellAt (i * 2) (by omega)).trans (flat_at hi).1
  have e3 := h1.frozenAt (i * 2)
  have x0 : (0 : Int) ≤ (x : Int) := Int.natCast_nonneg _
  have x1 : (x : Int) < (N : Int) := by omega
  have i0 : (0 : Int) ≤ (i : Int) := Int.natCast_nonneg _
  have i1 : (i : Int) < (n : Int) := by omega
  have HH : Hid (Blk W3 g 57 #[.slice (some ⟨r1, 0, none⟩) n c1, .slice (some ⟨r2, 0, none⟩) N c2] ∧ W3.ownsRow 0 59 2 (.slice (some ⟨r1, 0, none⟩) n c1) n (flat H1) ∧ W3.ownsRow 0 3 1 (.slice (some ⟨r2, 0, none⟩) N c2) N (nums (plcs N H1))) := ⟨hb, h1, h2⟩
  clear hb h1 h2 gx hn hiD hpc hi hv1
  go_wp2_with fail
  go_region
  obtain ⟨hb, h1, h2⟩ := HH.out
  have hT : Tch W3 (W3.setCell ⟨r1, i * 2, none⟩ (.int .i64 p)).drew (· = r1) := ((Tch.refl W3 (· = r1)).put _ rfl).drew
  have o1 := (h1.stored (i * 2) (.int .i64 p)).1.drew
  rw [hfl.out] at o1
  have hb2 := hT.blk hb (fun e => ne1 e.symm)
  have o2 := hT.own h2 (fun q hq e => ne3 (by have h0 := Option.some.inj hq; dsimp only at h0; omega))
  have hq2 : Qs (W3.setCell ⟨r1, i * 2, none⟩ (.int .i64 p)).drew g F9 N (H1.set i (p, (x : Int))) :=
    ⟨hFg, some ⟨r1, 0, none⟩, c1, some ⟨r2, 0, none⟩, c2, by rw [HL.out]; exact hb2, by rw [HL.out]; exact o1, by rw [HL.out]; exact f1, by rw [hpl.out]; exact o2, f2⟩
  have hT2 : Tch W3 (W3.setCell ⟨r1, i * 2, none⟩ (.int .i64 p)).drew F9 := hT.mono fun q _ e => f1 q (by rw [e]; rfl)
  have hsC := settle_any _ g N i n F9 (H1.set i (p, (x : Int))) HL hq2 hv2 hin hup (by have := HN.out; omega)
  clear hb h1 h2 o1 o2 hb2 hT hq2 HH e2 e3
  go_wp2_with fail
  refine hsC.mono ?_
  rintro e w9 ⟨rfl, ⟨H9, hq9, hp9, hh9⟩, ht9⟩
  go_wp2_with fail
  go_ret
  rw [HF9.out] at hq9 hT2 ht9
  refine ⟨rfl, ⟨H9, hq9, hp9.trans (by rw [HSE.out]; exact hpm.out), hh9⟩, ?_⟩
  have hF : ∀ k, k < w.heap.size → (F k ∨ w.heap.size ≤ k) → F k := fun k hk h => h.elim id fun h => absurd h (by omega)
  exact (hT0.trans hT2 hF).trans ht9 hF
theorem push_in (w : World) (g N x : Nat) (p : Int) (F : Nat → Prop) (H : List It) (hq : Qs w g F N H) (hv : Val N H) (hh : IsHeap H) (hx : x < N) (hlen : H.length < 999999) :
    Calls Try.prog 10 #[.pointer (some ⟨g, 0, none⟩), .int .i64 x, .int .i64 p] w fun e w' => Pushed w g N F H p x e w' := by
  by_cases h : ∃ a ∈ H, a.2 = (x : Int)
  · obtain ⟨a, ha, he⟩ := h
    obtain ⟨i, hi, hg⟩ := List.mem_iff_getElem.1 ha
    exact push_old w g N x i p a.1 F H hq hv hh hx (by rw [List.getElem?_eq_getElem hi, hg, ← he]) (by omega)
  · exact push_fresh w g N x p F H hq hv hh hx (fun a ha e => h ⟨a, ha, e⟩) hlen
theorem push_out (w : World) (g N : Nat) (x p : Int) (F : Nat → Prop) (H : List It) (hq : Qs w g F N H) (hN : N ≤ 1000000) (hx : x < 0 ∨ N ≤ x) :
    Calls Try.prog 10 #[.pointer (some ⟨g, 0, none⟩), .int .i64 x, .int .i64 p] w fun e w' => e = .returned (.int .i64 3) ∧ w = w' := by
  obtain ⟨hFg, A1, c1, A2, c2, hb, h1, f1, h2, f2⟩ := hq
  obtain ⟨q0, q1⟩ := hb.two
  clear hb h1 f1 h2 f2 q0
  by_cases h0 : 0 ≤ x
  · have hx1 : (N : Int) ≤ x := by omega
    clear hx
    go_enter Try.func10, Try.ntmps10
    go_wp2
    go_ret
    exact ⟨rfl, rfl⟩
  · clear hx
    go_enter Try.func10, Try.ntmps10
    go_wp2
    go_ret
    exact ⟨rfl, rfl⟩
theorem push_nil (w : World) (x p : Int) : Calls Try.prog 10 #[.pointer none, .int .i64 x, .int .i64 p] w fun e w' => e = .returned (.int .i64 2) ∧ w = w' := by
  go_enter Try.func10, Try.ntmps10
  go_wp2
  go_ret
  exact ⟨rfl, rfl⟩
end Go.Proofs.Ythjfboecdhlnfaa.que
