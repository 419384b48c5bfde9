/- Contracts of the queue: an object behind a pointer with two rows. -/
import Derived.Test.YthjfboecdhlnfaaQuSwap
import Derived.ProofKit
import Derived.OpenShut
import Derived.RegionTactic
import Derived.ChangeAlike
import Derived.BigRegion
import Derived.WalkSmall
import Derived.Deep.QuietTactic
import Derived.BigQuiet
namespace Go.Proofs.Ythjfboecdhlnfaa.que
open Go Go.RowKit Go.ChangeShapes Go.WideShapes Go.ChangeAt Go.Proofs.Ythjfboecdhlnfaa.words
set_option linter.unusedVariables false
theorem infoIt : (Try.prog.info? 59).map (fun i => (i.zero, i.size, i.bytes)) = some (some (.agg #[.int .i64 0, .int .i64 0]), 2, 16) := by kernel_rfl
theorem infoI : (Try.prog.info? 3).map (fun i => (i.zero, i.size, i.bytes)) = some (some (.int .i64 0), 1, 8) := by kernel_rfl
/-- block g is a Queue of N that holds H; all of it lies in F -/
def Qs (w : World) (g : Nat) (F : Nat → Prop) (N : Nat) (H : List It) : Prop :=
  F g ∧ ∃ A1 c1 A2 c2, Blk w g 57 #[.slice A1 H.length c1, .slice A2 N c2] ∧
    w.ownsRow 0 59 2 (.slice A1 H.length c1) H.length (flat H) ∧ (∀ k, (Value.slice A1 H.length c1).ownBlock = some k → F k) ∧
    w.ownsRow 0 3 1 (.slice A2 N c2) N (nums (plcs N H)) ∧ (∀ k, (Value.slice A2 N c2).ownBlock = some k → F k)
theorem Qs.keep {w w' : World} {g : Nat} {F S : Nat → Prop} {N : Nat} {H : List It} (h : Qs w g F N H) (ht : Tch w w' S) (hs : ∀ k, F k → ¬ S k) : Qs w' g F N H := by
  obtain ⟨hg, A1, c1, A2, c2, hb, h1, f1, h2, f2⟩ := h
  exact ⟨hg, A1, c1, A2, c2, ht.blk hb (hs _ hg), ht.own h1 (fun k hk => hs k (f1 k hk)), f1, ht.own h2 (fun k hk => hs k (f2 k hk)), f2⟩
theorem Qs.mono {w : World} {g : Nat} {F F' : Nat → Prop} {N : Nat} {H : List It} (h : Qs w g F N H) (hf : ∀ k, F k → F' k) : Qs w g F' N H := by
  obtain ⟨hg, A1, c1, A2, c2, hb, h1, f1, h2, f2⟩ := h
  exact ⟨hf _ hg, A1, c1, A2, c2, hb, h1, fun k hk => hf k (f1 k hk), h2, fun k hk => hf k (f2 k hk)⟩
abbrev ItV (a : It) : Value := .agg #[.int .i64 a.1, .int .i64 a.2]
theorem less_any (p x q y : Int) (w : World) : Calls Try.prog 25 #[.agg #[.int .i64 p, .int .i64 x], .agg #[.int .i64 q, .int .i64 y]] w fun e w' => e = .returned (.bool (decide (lt (p, x) (q, y)))) ∧ Below w.heap.size w w' := by
  have hB := bnew (bone w (.cells #[.int .i64 p, .int .i64 x] 59)) (.cells #[.int .i64 q, .int .i64 y] 59)
  by_cases h1 : p < q
  · have e : decide (lt (p, x) (q, y)) = true := decide_eq_true (.inl h1)
    rw [e]; clear e
    go_enter Try.func25, Try.ntmps25
    go_wp2
    go_ret
    exact ⟨rfl, hB⟩
  · by_cases h2 : p = q
    · subst h2
      have e : decide (lt (p, x) (p, y)) = decide (x < y) := by unfold lt; simp
      rw [e]; clear e
      go_enter Try.func25, Try.ntmps25
      go_wp2
      go_ret
      exact ⟨rfl, hB⟩
    · have e : decide (lt (p, x) (q, y)) = false := decide_eq_false (by unfold lt; simp; omega)
      have hn : (p == q) = false := by simp [h2]
      rw [e]; clear e
      go_enter Try.func25, Try.ntmps25
      go_wp2
      go_ret
      exact ⟨rfl, hB⟩
theorem own_ne {w : World} {b b' s s' : Nat} {e e' : TypeId} {r r' n n' c c' : Nat} {xs ys : List Value} (h : w.ownsRow b e s (.slice (some ⟨r, 0, none⟩) n c) n xs) (h' : w.ownsRow b' e' s' (.slice (some ⟨r', 0, none⟩) n' c') n' ys) (hne : e ≠ e') : r ≠ r' := by
  rcases h.2 with ⟨h0, _⟩ | ⟨g, cap, cur, hv, _, hh, _⟩
  · cases h0
  · cases hv
    intro e; subst e
    exact own_blk_ne h' hh (fun e => hne e.symm) rfl
theorem cset_some {w : World} {p q : Addr} {x v : Value} (h : w.cell? q = some v) : ∃ v', (w.setCell p x).cell? q = some v' := by
  by_cases e : p = q
  · subst e; exact ⟨x, World.cell?_setCell_same w p x h⟩
  · exact ⟨v, (World.cell?_setCell_other w p q x e).trans h⟩
def Swapped (w : World) (g N i k : Nat) (F : Nat → Prop) (H : List It) (e : Ending) (w' : World) : Prop := e = .returned (.tuple #[]) ∧ Qs w' g F N (swp H i k) ∧ Tch w w' F
theorem swp_at {H : List It} {i k : Nat} (hi : i < H.length) (hk : k < H.length) : (swp H i k).getD i z0 = H.getD k z0 ∧ (swp H i k).getD k z0 = H.getD i z0 := by
  rw [swp_get i hi hk, swp_get k hi hk, if_pos rfl, if_pos rfl]
  refine ⟨?_, rfl⟩
  split
  · rename_i h; rw [h]
  · rfl
theorem swap_any (w : World) (g N i k : Nat) (F : Nat → Prop) (H : List It) (hq : Qs w g F N H) (hv : Val N H) (hi : i < H.length) (hk : k < H.length) (hlen : H.length ≤ 1000000) :
    Calls Try.prog 23 #[.pointer (some ⟨g, 0, none⟩), .int .i64 i, .int .i64 k] w fun e w' => Swapped w g N i k F H e w' := by
  obtain ⟨hsi, hsk⟩ := swp_at hi hk
  obtain ⟨hFg, A1, c1, A2, c2, hb, h1, f1, h2, f2⟩ := hq
  have hcn := own_cap h1
  have hcN := own_cap h2
  obtain ⟨n, hn⟩ : ∃ n, H.length = n := ⟨_, rfl⟩
  have gi := getD_some hi
  have gk := getD_some hk
  have vi := hv.lo _ (List.mem_of_getElem? gi)
  have vk := hv.lo _ (List.mem_of_getElem? gk)
  have hpl := plcs_swp hv hi hk
  rw [hsi] at hpl
  try rw [hsk] at hpl
  have hfl : flat (swp H i k) = (((((flat H).set (i * 2) (.int .i64 (H.getD k z0).1)).set (i * 2 + 1) (.int .i64 (H.getD k z0).2)).set (k * 2) (.int .i64 (H.getD i z0).1)).set (k * 2 + 1) (.int .i64 (H.getD i z0).2)) := by
    rw [flat_set _ hi, flat_set _ (by simpa using hk)]; rfl
  have hsl := swp_len H i k
  rw [hn] at hb h1 f1 hi hk hcn hsl
  obtain ⟨r1, rfl, _, hr1⟩ := own_some h1 (by omega)
  obtain ⟨r2, rfl, _, hr2⟩ := own_some h2 (by omega)
  have ne1 : r1 ≠ g := fun e => own_blk_ne h1 hb (by decide) (by rw [e]; rfl)
  have ne2 : r2 ≠ g := fun e => own_blk_ne h2 hb (by decide) (by rw [e]; rfl)
  have ne3 : r1 ≠ r2 := own_ne h1 h2 (by decide)
  obtain ⟨a, ha⟩ : ∃ a, H.getD i z0 = a := ⟨_, rfl⟩
  obtain ⟨b, hbb⟩ : ∃ b, H.getD k z0 = b := ⟨_, rfl⟩
  have hab : i = k → a = b := fun e => by rw [← ha, ← hbb, ← e]
  rw [hbb] at hsi
  rw [ha] at gi vi hpl hfl hsk
  rw [hbb] at gk vk
  try rw [hbb] at hpl
  try rw [hbb] at hfl
  obtain ⟨a1, a2⟩ := a
  obtain ⟨b1, b2⟩ := b
  obtain ⟨x, rfl⟩ : ∃ x : Nat, a2 = x := ⟨a2.toNat, by have := vi.1; dsimp only at this; omega⟩
  obtain ⟨y, rfl⟩ : ∃ y : Nat, b2 = y := ⟨b2.toNat, by have := vk.1; dsimp only at this; omega⟩
  have hxN : x < N := by have := vi.2; dsimp only at this; omega
  have hyN : y < N := by have := vk.2; dsimp only at this; omega
  dsimp only [Int.toNat_natCast] at hpl hfl
  obtain ⟨cq0, cq1⟩ := hb.two
  obtain ⟨p1, p2⟩ := flat_at gi
  obtain ⟨p3, p4⟩ := flat_at gk
  have d1 := (h1.cellAt (i * 2) (by omega)).trans p1
  have d2 := (h1.cellAt (i * 2 + 1) (by omega)).trans p2
  have d3 := (h1.cellAt (k * 2) (by omega)).trans p3
  have d4 := (h1.cellAt (k * 2 + 1) (by omega)).trans p4
  have e1 := h1.frozenAt (i * 2)
  have e2 := h1.frozenAt (i * 2 + 1)
  have e3 := h1.frozenAt (k * 2)
  have e4 := h1.frozenAt (k * 2 + 1)
  have i0 : (0 : Int) ≤ (i : Int) := Int.natCast_nonneg _
  have i1 : (i : Int) < (n : Int) := by omega
  have k0 : (0 : Int) ≤ (k : Int) := Int.natCast_nonneg _
  have k1 : (k : Int) < (n : Int) := by omega
  clear gi gk vi vk p1 p2 p3 p4
  dsimp only at d1 d2 d3 d4
  have HPL := Lib.hid hpl
  have HFL := Lib.hid hfl
  have HSL := Lib.hid hsl
  have HN := Lib.hid hn
  have HSI := Lib.hid hsi
  have HSK := Lib.hid hsk
  clear hpl hfl hsl hn hsi hsk
  have o1 := ((((h1.stored (i * 2) (.int .i64 b1)).1.stored (i * 2 + 1) (.int .i64 y)).1.stored (k * 2) (.int .i64 a1)).1.stored (k * 2 + 1) (.int .i64 x)).1.drew
  have hT : Tch w ((((w.setCell ⟨r1, i * 2, none⟩ (.int .i64 b1)).setCell ⟨r1, i * 2 + 1, none⟩ (.int .i64 y)).setCell ⟨r1, k * 2, none⟩ (.int .i64 a1)).setCell ⟨r1, k * 2 + 1, none⟩ (.int .i64 x)).drew (· = r1) :=
    (((((Tch.refl w (· = r1)).put _ rfl).put _ rfl).put _ rfl).put _ rfl).drew
  obtain ⟨W1, hW1⟩ : ∃ W1, ((((w.setCell ⟨r1, i * 2, none⟩ (.int .i64 b1)).setCell ⟨r1, i * 2 + 1, none⟩ (.int .i64 y)).setCell ⟨r1, k * 2, none⟩ (.int .i64 a1)).setCell ⟨r1, k * 2 + 1, none⟩ (.int .i64 x)).drew = W1 := ⟨_, rfl⟩
  rw [hW1] at o1 hT
  rw [← HFL.out] at o1
  have hb1 := hT.blk hb (fun e => ne1 e.symm)
  have o2 := hT.own h2 (fun q hq e => ne3 (by have h0 := Option.some.inj hq; dsimp only at h0; omega))
  obtain ⟨cr0, cr1⟩ := hb1.two
  have gi' := getD_some (H := swp H i k) (i := i) (by rw [HSL.out]; exact hi)
  have gk' := getD_some (H := swp H i k) (i := k) (by rw [HSL.out]; exact hk)
  rw [HSI.out] at gi'
  rw [HSK.out] at gk'
  have l2 : W1.cell? ⟨r1, i * 2 + 1, none⟩ = some (.int .i64 y) := (o1.cellAt (i * 2 + 1) (by omega)).trans (flat_at gi').2
  have l4 : W1.cell? ⟨r1, k * 2 + 1, none⟩ = some (.int .i64 x) := (o1.cellAt (k * 2 + 1) (by omega)).trans (flat_at gk').2
  have gx := plcs_get N H x hxN
  have gy := plcs_get N H y hyN
  have m1 : W1.cell? ⟨r2, x, none⟩ = some (.int .i64 (plc H x)) := (o2.cellAt x (by omega)).trans (by unfold nums; rw [List.getElem?_map, gx]; rfl)
  have m2 : W1.cell? ⟨r2, y, none⟩ = some (.int .i64 (plc H y)) := (o2.cellAt y (by omega)).trans (by unfold nums; rw [List.getElem?_map, gy]; rfl)
  have m3 := o2.frozenAt x
  have m4 := o2.frozenAt y
  have hraw : Calls Try.prog 23 #[.pointer (some ⟨g, 0, none⟩), .int .i64 i, .int .i64 k] w fun e w' => e = .returned (.tuple #[]) ∧ ((W1.setCell ⟨r2, y, none⟩ (.int .i64 i)).setCell ⟨r2, x, none⟩ (.int .i64 k)).drew = w' := by
    by_cases hik : i = k
    · have := hab hik
      injection this with q1 q2
      obtain rfl : x = y := by omega
      subst hik q1
      exact swap_raw_eq w W1 g r1 r2 n c1 N c2 i x a1 _ _ ne1 ne2 ne3 hi hk hxN hyN cq0 d1 d2 d3 d4 e1 e2 e3 e4 hW1 ⟨cr0, cr1, l2, l4, m1, m2, m3, m4⟩
    · have hxy : ¬ x = y := fun e => by
        have g1 := getD_some (H := H) (i := i) (by rw [HN.out]; exact hi)
        have g2 := getD_some (H := H) (i := k) (by rw [HN.out]; exact hk)
        rw [ha] at g1
        rw [hbb] at g2
        have p1 := plc_some (x := x) (by rw [g1]; rfl) hv.nd
        have p2 := plc_some (x := y) (by rw [g2]; rfl) hv.nd
        rw [e] at p1
        have p3 := p1.symm.trans p2
        clear p1 p2
        omega
      exact swap_raw_ne w W1 g r1 r2 n c1 N c2 i k x y a1 b1 _ _ hik hxy ne1 ne2 ne3 hi hk hxN hyN cq0 d1 d2 d3 d4 e1 e2 e3 e4 hW1 ⟨cr0, cr1, l2, l4, m1, m2, m3, m4⟩
  refine hraw.mono fun e w' ⟨he, hw⟩ => ⟨he, ?_⟩
  subst hw
  constructor
  · have q1 := ((o2.stored y (.int .i64 i)).1.stored x (.int .i64 k)).1.drew
    have hT2 : Tch W1 ((W1.setCell ⟨r2, y, none⟩ (.int .i64 i)).setCell ⟨r2, x, none⟩ (.int .i64 k)).drew (· = r2) := (((Tch.refl W1 (· = r2)).put _ rfl).put _ rfl).drew
    refine ⟨hFg, some ⟨r1, 0, none⟩, c1, some ⟨r2, 0, none⟩, c2, ?_, ?_, ?_, ?_, f2⟩
    · rw [HSL.out]; exact hT2.blk hb1 (fun e => ne2 e.symm)
    · rw [HSL.out]; exact hT2.own o1 (fun q hq e => ne3 (by have h0 := Option.some.inj hq; dsimp only at h0; omega))
    · rw [HSL.out]; exact f1
    · rw [← HPL.out]; unfold nums at q1 ⊢; rw [List.map_set, List.map_set]; exact q1
  · exact (hT.mono (fun q _ e => f1 q (by rw [e]; rfl))).trans ((((Tch.refl W1 (· = r2)).put _ rfl).put _ rfl).drew) fun q _ e => f2 q (by rw [e]; rfl)
end Go.Proofs.Ythjfboecdhlnfaa.que
