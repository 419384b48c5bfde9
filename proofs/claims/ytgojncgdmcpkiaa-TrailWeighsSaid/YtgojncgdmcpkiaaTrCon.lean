/- A trail in memory; the calls that only look. -/
import Derived.Test.YtgojncgdmcpkiaaTrPlain
import Derived.Test.YtgojncgdmcpkiaaOpen
import Derived.ProofKit
import Derived.OpenShut
import Derived.RegionTactic
import Derived.ChangeAlike
import Derived.BigRegion
import Derived.WalkSmall
import Derived.Deep.QuietTactic
import Derived.BigQuiet
import Derived.Laws.MakeOwn
namespace Go.Proofs.Ytgojncgdmcpkiaa.trl
open Go Go.RowKit Go.ChangeShapes Go.WideShapes Go.ChangeAt Go.Proofs.Ytgojncgdmcpkiaa.words
set_option linter.unusedVariables false
theorem infoC : (Try.prog.info? 64).map (fun i => (i.zero, i.size, i.bytes)) = some (some (.agg #[.int .i64 0, .int .u64 0]), 2, 16) := by kernel_rfl
theorem infoO : (Try.prog.info? 66).map (fun i => (i.zero, i.size, i.bytes)) = some (some (.agg #[.int .i64 0, .int .i64 0, .int .u64 0]), 3, 24) := by kernel_rfl
theorem infoM : (Try.prog.info? 62).map (fun i => (i.zero, i.size, i.bytes)) = some (some (.agg #[.int .i64 0, .int .i64 0, .int .u64 0]), 3, 24) := by kernel_rfl
theorem infoI : (Try.prog.info? 2).map (fun i => (i.zero, i.size, i.bytes)) = some (some (.int .i64 0), 1, 8) := by kernel_rfl
def fcl (a : Cl) : List Value := [.int .i64 a.1, .int .u64 a.2]
def fol (a : Ol) : List Value := [.int .i64 a.1, .int .i64 a.2.1, .int .u64 a.2.2]
def fmk (a : Mk) : List Value := [.int .i64 a.1, .int .i64 a.2.1, .int .u64 a.2.2]
/-- block g is a Trail; all of it lies in F -/
def TR (w : World) (g : Nat) (F : Nat → Prop) (cs : List Cl) (os : List Ol) (ms : List Mk) (ev : Nat) : Prop :=
  F g ∧ ∃ A1 c1 A2 c2 A3 c3, Blk w g 59 #[.slice A1 cs.length c1, .slice A2 os.length c2, .slice A3 ms.length c3, .int .u64 ev] ∧
    w.ownsRow 0 64 2 (.slice A1 cs.length c1) cs.length (cs.flatMap fcl) ∧ (∀ k, (Value.slice A1 cs.length c1).ownBlock = some k → F k) ∧
    w.ownsRow 0 66 3 (.slice A2 os.length c2) os.length (os.flatMap fol) ∧ (∀ k, (Value.slice A2 os.length c2).ownBlock = some k → F k) ∧
    w.ownsRow 0 62 3 (.slice A3 ms.length c3) ms.length (ms.flatMap fmk) ∧ (∀ k, (Value.slice A3 ms.length c3).ownBlock = some k → F k)
variable {w : World} {g : Nat} {F : Nat → Prop} {cs : List Cl} {os : List Ol} {ms : List Mk} {ev : Nat}
theorem TR.keep {w' : World} {S : Nat → Prop} (h : TR w g F cs os ms ev) (ht : Tch w w' S) (hs : ∀ k, F k → ¬ S k) : TR w' g F cs os ms ev := by
  obtain ⟨hg, A1, c1, A2, c2, A3, c3, hb, h1, f1, h2, f2, h3, f3⟩ := h
  exact ⟨hg, A1, c1, A2, c2, A3, c3, ht.blk hb (hs _ hg), ht.own h1 (fun k hk => hs k (f1 k hk)), f1, ht.own h2 (fun k hk => hs k (f2 k hk)), f2, ht.own h3 (fun k hk => hs k (f3 k hk)), f3⟩
theorem TR.mono {F' : Nat → Prop} (h : TR w g F cs os ms ev) (hf : ∀ k, F k → F' k) : TR w g F' cs os ms ev := by
  obtain ⟨hg, A1, c1, A2, c2, A3, c3, hb, h1, f1, h2, f2, h3, f3⟩ := h
  exact ⟨hf _ hg, A1, c1, A2, c2, A3, c3, hb, h1, fun k hk => hf k (f1 k hk), h2, fun k hk => hf k (f2 k hk), h3, fun k hk => hf k (f3 k hk)⟩
theorem TR.below {w' : World} (h : TR w g F cs os ms ev) (hb : Below w.heap.size w w') : TR w' g F cs os ms ev := h.keep (Tch.of_below hb (fun _ => False)) fun _ _ => id
theorem four {t : TypeId} {a b c d : Value} (h : Blk w g t #[a, b, c, d]) : w.cell? ⟨g, 0, none⟩ = some a ∧ w.cell? ⟨g, 1, none⟩ = some b ∧ w.cell? ⟨g, 2, none⟩ = some c ∧ w.cell? ⟨g, 3, none⟩ = some d := ⟨h.cell 0, h.cell 1, h.cell 2, h.cell 3⟩
/-- the three slices -/
theorem TR.heads (h : TR w g F cs os ms ev) : ∃ A1 c1 A2 c2 A3 c3, cs.length ≤ c1 ∧ os.length ≤ c2 ∧ ms.length ≤ c3 ∧ ∀ w', Below w.heap.size w w' → w'.cell? ⟨g, 0, none⟩ = some (.slice A1 cs.length c1) ∧ w'.cell? ⟨g, 1, none⟩ = some (.slice A2 os.length c2) ∧ w'.cell? ⟨g, 2, none⟩ = some (.slice A3 ms.length c3) ∧ w'.cell? ⟨g, 3, none⟩ = some (.int .u64 ev) := by
  obtain ⟨hg, A1, c1, A2, c2, A3, c3, hb, h1, f1, h2, f2, h3, f3⟩ := h
  exact ⟨A1, c1, A2, c2, A3, c3, own_cap h1, own_cap h2, own_cap h3, fun w' hw => four (hb.under hw)⟩
theorem cells_at {base : Nat} {A : Option Addr} {n c : Nat} (h : w.ownsRow base 64 2 (.slice A n c) n (cs.flatMap fcl)) {i : Nat} {a : Cl} (ha : cs[i]? = some a) (hn : i < n) :
    ∃ r, A = some ⟨r, 0, none⟩ ∧ w.cell? ⟨r, i * 2, none⟩ = some (.int .i64 a.1) ∧ w.cell? ⟨r, i * 2 + 1, none⟩ = some (.int .u64 a.2) := by
  obtain ⟨r, rfl, _, _⟩ := own_some h (by omega)
  exact ⟨r, rfl, (h.cellAt (i * 2) (by omega)).trans (flat_get fcl 2 (fun _ => rfl) cs i 0 _ ha (by omega)), (h.cellAt (i * 2 + 1) (by omega)).trans (flat_get fcl 2 (fun _ => rfl) cs i 1 _ ha (by omega))⟩
theorem marks_at {base : Nat} {A : Option Addr} {n c : Nat} (h : w.ownsRow base 62 3 (.slice A n c) n (ms.flatMap fmk)) {i : Nat} {a : Mk} (ha : ms[i]? = some a) (hn : i < n) :
    ∃ r, A = some ⟨r, 0, none⟩ ∧ w.cell? ⟨r, i * 3, none⟩ = some (.int .i64 a.1) ∧ w.cell? ⟨r, i * 3 + 1, none⟩ = some (.int .i64 a.2.1) ∧ w.cell? ⟨r, i * 3 + 2, none⟩ = some (.int .u64 a.2.2) := by
  obtain ⟨r, rfl, _, _⟩ := own_some h (by omega)
  exact ⟨r, rfl, (h.cellAt (i * 3) (by omega)).trans (flat_get fmk 3 (fun _ => rfl) ms i 0 _ ha (by omega)), (h.cellAt (i * 3 + 1) (by omega)).trans (flat_get fmk 3 (fun _ => rfl) ms i 1 _ ha (by omega)), (h.cellAt (i * 3 + 2) (by omega)).trans (flat_get fmk 3 (fun _ => rfl) ms i 2 _ ha (by omega))⟩
theorem olds_at {base : Nat} {A : Option Addr} {n c : Nat} (h : w.ownsRow base 66 3 (.slice A n c) n (os.flatMap fol)) {i : Nat} {a : Ol} (ha : os[i]? = some a) (hn : i < n) :
    ∃ r, A = some ⟨r, 0, none⟩ ∧ w.cell? ⟨r, i * 3, none⟩ = some (.int .i64 a.1) ∧ w.cell? ⟨r, i * 3 + 1, none⟩ = some (.int .i64 a.2.1) ∧ w.cell? ⟨r, i * 3 + 2, none⟩ = some (.int .u64 a.2.2) := by
  obtain ⟨r, rfl, _, _⟩ := own_some h (by omega)
  exact ⟨r, rfl, (h.cellAt (i * 3) (by omega)).trans (flat_get fol 3 (fun _ => rfl) os i 0 _ ha (by omega)), (h.cellAt (i * 3 + 1) (by omega)).trans (flat_get fol 3 (fun _ => rfl) os i 1 _ ha (by omega)), (h.cellAt (i * 3 + 2) (by omega)).trans (flat_get fol 3 (fun _ => rfl) os i 2 _ ha (by omega))⟩
theorem tlen_any (w : World) (h : TR w g F cs os ms ev) : Calls Try.prog 20 #[.pointer (some ⟨g, 0, none⟩)] w fun e w' => e = .returned (.int .i64 cs.length) ∧ w = w' := by
  obtain ⟨A1, c1, A2, c2, A3, c3, _, _, _, hc⟩ := h.heads
  obtain ⟨q0, q1, q2, q3⟩ := hc w (Below.refl _ _)
  obtain ⟨n, hn⟩ : ∃ n, cs.length = n := ⟨_, rfl⟩
  rw [hn] at q0 ⊢
  clear hn hc q1 q2 q3 h
  go_enter Try.func20, Try.ntmps20
  go_wp2
  go_ret
  exact ⟨rfl, rfl⟩
theorem depth_any (w : World) (h : TR w g F cs os ms ev) : Calls Try.prog 17 #[.pointer (some ⟨g, 0, none⟩)] w fun e w' => e = .returned (.int .i64 ms.length) ∧ w = w' := by
  obtain ⟨A1, c1, A2, c2, A3, c3, _, _, _, hc⟩ := h.heads
  obtain ⟨q0, q1, q2, q3⟩ := hc w (Below.refl _ _)
  obtain ⟨n, hn⟩ : ∃ n, ms.length = n := ⟨_, rfl⟩
  rw [hn] at q2 ⊢
  clear hn hc q1 q0 q3 h
  go_enter Try.func17, Try.ntmps17
  go_wp2
  go_ret
  exact ⟨rfl, rfl⟩
theorem tlen_nil (w : World) : Calls Try.prog 20 #[.pointer none] w fun e w' => e = .returned (.int .i64 0) ∧ w = w' := by
  go_enter Try.func20, Try.ntmps20
  go_wp2
  go_ret
  exact ⟨rfl, rfl⟩
theorem depth_nil (w : World) : Calls Try.prog 17 #[.pointer none] w fun e w' => e = .returned (.int .i64 0) ∧ w = w' := by
  go_enter Try.func17, Try.ntmps17
  go_wp2
  go_ret
  exact ⟨rfl, rfl⟩
theorem has_of (p : Option Addr) (n : Nat) (w : World) (i : Int) (hl : Calls Try.prog 20 #[.pointer p] w fun e w' => e = .returned (.int .i64 n) ∧ w = w') (b : Bool) (hb : b = (decide (0 ≤ i) && decide (i < n))) :
    Calls Try.prog 25 #[.pointer p, .int .i64 i] w fun e w' => e = .returned (.bool b) ∧ w = w' := by
  by_cases h0 : 0 ≤ i
  · by_cases h1 : i < (n : Int)
    · obtain rfl : b = true := by rw [hb]; simp [h0, h1]
      clear hb
      go_enter Try.func25, Try.ntmps25
      go_wp2_with (first | (go_at_call 20; refine hl.mono ?_; rintro e w' ⟨rfl, rfl⟩) | fail)
      go_ret
      exact ⟨rfl, rfl⟩
    · obtain rfl : b = false := by rw [hb]; simp [h1]
      clear hb
      go_enter Try.func25, Try.ntmps25
      go_wp2_with (first | (go_at_call 20; refine hl.mono ?_; rintro e w' ⟨rfl, rfl⟩) | fail)
      go_ret
      exact ⟨ret_bool (decide_eq_false (by omega)), rfl⟩
  · obtain rfl : b = false := by rw [hb]; simp [h0]
    clear hb
    go_enter Try.func25, Try.ntmps25
    go_wp2_with (first | (go_at_call 20; refine hl.mono ?_; rintro e w' ⟨rfl, rfl⟩) | fail)
    go_ret
    exact ⟨rfl, rfl⟩
theorem open_of (p : Option Addr) (n : Nat) (w : World) (i : Int) (hl : Calls Try.prog 17 #[.pointer p] w fun e w' => e = .returned (.int .i64 n) ∧ w = w') (b : Bool) (hb : b = (decide (0 ≤ i) && decide (i < n))) :
    Calls Try.prog 26 #[.pointer p, .int .i64 i] w fun e w' => e = .returned (.bool b) ∧ w = w' := by
  by_cases h0 : 0 ≤ i
  · by_cases h1 : i < (n : Int)
    · obtain rfl : b = true := by rw [hb]; simp [h0, h1]
      clear hb
      go_enter Try.func26, Try.ntmps26
      go_wp2_with (first | (go_at_call 17; refine hl.mono ?_; rintro e w' ⟨rfl, rfl⟩) | fail)
      go_ret
      exact ⟨rfl, rfl⟩
    · obtain rfl : b = false := by rw [hb]; simp [h1]
      clear hb
      go_enter Try.func26, Try.ntmps26
      go_wp2_with (first | (go_at_call 17; refine hl.mono ?_; rintro e w' ⟨rfl, rfl⟩) | fail)
      go_ret
      exact ⟨ret_bool (decide_eq_false (by omega)), rfl⟩
  · obtain rfl : b = false := by rw [hb]; simp [h0]
    clear hb
    go_enter Try.func26, Try.ntmps26
    go_wp2_with (first | (go_at_call 17; refine hl.mono ?_; rintro e w' ⟨rfl, rfl⟩) | fail)
    go_ret
    exact ⟨rfl, rfl⟩
theorem get_in (w : World) (h : TR w g F cs os ms ev) {i : Nat} {a : Cl} (ha : cs[i]? = some a) : Calls Try.prog 22 #[.pointer (some ⟨g, 0, none⟩), .int .i64 i] w fun e w' => e = .returned (.int .i64 a.1) ∧ w = w' := by
  have hi := get_lt ha
  have hhas := has_of _ _ w (i : Int) (tlen_any w h) true (by simp [hi])
  obtain ⟨hg, A1, c1, A2, c2, A3, c3, hb, h1, f1, h2, f2, h3, f3⟩ := h
  obtain ⟨q0, q1, q2, q3⟩ := four hb
  obtain ⟨r, rfl, d0, d1⟩ := cells_at h1 ha hi
  obtain ⟨n, hn⟩ : ∃ n, cs.length = n := ⟨_, rfl⟩
  rw [hn] at q0 hi
  clear hn q1 q2 q3 hb h1 f1 h2 f2 h3 f3 d1
  go_enter Try.func22, Try.ntmps22
  go_wp2_with fail
  refine hhas.mono ?_
  rintro e w' ⟨rfl, rfl⟩
  go_wp2_with fail
  go_ret
  exact ⟨rfl, rfl⟩
theorem get_out (p : Option Addr) (n : Nat) (w : World) (i : Int) (hl : Calls Try.prog 20 #[.pointer p] w fun e w' => e = .returned (.int .i64 n) ∧ w = w') (hi : ¬ (0 ≤ i ∧ i < n)) :
    Calls Try.prog 22 #[.pointer p, .int .i64 i] w fun e w' => e = .returned (.int .i64 0) ∧ w = w' := by
  have hhas := has_of _ _ w i hl false (by simp; omega)
  clear hi
  go_enter Try.func22, Try.ntmps22
  go_wp2_with fail
  refine hhas.mono ?_
  rintro e w' ⟨rfl, rfl⟩
  go_wp2_with fail
  go_ret
  exact ⟨rfl, rfl⟩
theorem weight_any (w : World) (h : TR w g F cs os ms ev) : Calls Try.prog 19 #[.pointer (some ⟨g, 0, none⟩)] w fun e w' => e = .returned (.int .i64 os.length) ∧ w = w' := by
  obtain ⟨A1, c1, A2, c2, A3, c3, _, _, _, hc⟩ := h.heads
  obtain ⟨q0, q1, q2, q3⟩ := hc w (Below.refl _ _)
  obtain ⟨n, hn⟩ : ∃ n, os.length = n := ⟨_, rfl⟩
  rw [hn] at q1 ⊢
  clear hn hc q0 q2 q3 h
  go_enter Try.func19, Try.ntmps19
  go_wp2
  go_ret
  exact ⟨rfl, rfl⟩
theorem weight_nil (w : World) : Calls Try.prog 19 #[.pointer none] w fun e w' => e = .returned (.int .i64 0) ∧ w = w' := by
  go_enter Try.func19, Try.ntmps19
  go_wp2
  go_ret
  exact ⟨rfl, rfl⟩
theorem cells_rep (N : Nat) : (madeCells #[.int .i64 0, .int .u64 0] (N * 2)).toList = (List.replicate N ((0, 0) : Cl)).flatMap fcl := by
  apply List.ext_getElem?
  intro j
  rcases Nat.lt_or_ge j (N * 2) with hj | hj
  · have h1 : j / 2 < N := by omega
    have e := flat_get fcl 2 (fun _ => rfl) (List.replicate N ((0, 0) : Cl)) (j / 2) (j % 2) (0, 0) (by rw [List.getElem?_replicate, if_pos h1]) (Nat.mod_lt _ (by omega))
    rw [show j / 2 * 2 + j % 2 = j by omega] at e
    rw [e]
    have h2 : j % 2 = 0 ∨ j % 2 = 1 := by omega
    rcases h2 with h2 | h2 <;> simp [madeCells, hj, h2, fcl]
  · rw [List.getElem?_eq_none (by rw [Array.length_toList, size_madeCells]; exact hj), List.getElem?_eq_none (by rw [flat_len fcl 2 (fun _ => rfl), List.length_replicate]; exact hj)]
theorem new_any (n : Int) (w : World) (hn : n ≤ 1000000) : Calls Try.prog 11 #[.int .i64 n] w fun e w' => (∃ g, e = .returned (.pointer (some ⟨g, 0, none⟩)) ∧ TR w' g (fun k => w.heap.size ≤ k) (List.replicate n.toNat (0, 0)) [] [] 0) ∧ Below w.heap.size w w' := by
  obtain ⟨i0, hi0, hz0, hz1, hz2⟩ := info_parts infoC
  obtain ⟨N, hN⟩ : ∃ N : Nat, n.toNat = N := ⟨_, rfl⟩
  have hmax : (if n < (0 : Int) then (0 : Int) else n) = (N : Int) := by split <;> omega
  have hNb : N ≤ 1000000 := by omega
  have hmk := fun W => run_make_rowN (P := Try.prog) 54 64 i0 _ Try.underlying54 hi0 hz0 .i64 .i64 N N (Nat.le_refl _) (by rw [hz2]; omega) (by omega) W
  simp only [hz1] at hmk
  have hcel : (Value.agg #[.int .i64 0, .int .u64 0]).cells = #[.int .i64 0, .int .u64 0] := by kernel_rfl
  rw [hcel] at hmk
  rw [hN]
  clear hN
  go_enter Try.func11, Try.ntmps11
  go_wp2_with fail
  go_ret
  have hg := Blk.new (w.alloc (.cells (madeCells #[.int .i64 0, .int .u64 0] (N * 2)) 64)) 59 #[.slice (some ⟨w.heap.size, 0, none⟩) N N, .slice none 0 0, .slice none 0 0, .int .u64 0]
  have ho : ((w.alloc (.cells (madeCells #[.int .i64 0, .int .u64 0] (N * 2)) 64)).alloc (.cells #[.slice (some ⟨w.heap.size, 0, none⟩) N N, .slice none 0 0, .slice none 0 0, .int .u64 0] 59)).ownsRow 0 64 2 (.slice (some ⟨w.heap.size, 0, none⟩) N N) N ((List.replicate N ((0, 0) : Cl)).flatMap fcl) := by
    have h := (World.ownsRow_lit (base := 0) (e := 64) (size := 2) w (madeCells #[.int .i64 0, .int .u64 0] (N * 2)) N (Nat.zero_le _) (by unfold maxLen; omega) (by simp [madeCells])).alloc (.cells #[.slice (some ⟨w.heap.size, 0, none⟩) N N, .slice none 0 0, .slice none 0 0, .int .u64 0] 59)
    rwa [cells_rep] at h
  rw [World.size_alloc] at hg
  refine ⟨⟨_, rfl, by simp, some ⟨w.heap.size, 0, none⟩, N, none, 0, none, 0, ?_, ?_, fun k hk => ?_, ?_, (fun k hk => by cases hk), ?_, (fun k hk => by cases hk)⟩, bnew (bone w _) _⟩
  · rw [List.length_replicate]; exact hg
  · rw [List.length_replicate]; exact ho
  · have := Option.some.inj hk; dsimp only at this; show w.heap.size ≤ k; omega
  · exact World.ownsRow_nil _ _ _ _
  · exact World.ownsRow_nil _ _ _ _
end Go.Proofs.Ytgojncgdmcpkiaa.trl
