/- slices.Backward over a trail's olds: what the body must keep is named. -/
import Derived.Test.YtgojncgdmcpkiaaTrCon
import Derived.RangeFuncNested
import Derived.RangeFuncBound
import Derived.RangeFuncCalls
import Derived.RangeFuncLeaves
import Derived.Shelf.Abstract
import Derived.Shelf.RegionOpen
import Derived.WalkKit
import Derived.OwnWalkIn
import Derived.TacticsInMore
import Derived.LoopNIn
import Derived.LoopIn
namespace Go.Proofs.Ytgojncgdmcpkiaa.trl
open Go Go.RowKit Go.Shelf Go.Proofs.Ytgojncgdmcpkiaa.words
set_option linter.unusedVariables false
attribute [local go_sem] Oper.semAt_some
/-- of the blocks below n₀ only bc may have turned -/
def KpU (n₀ bc : Nat) (A B : World) : Prop := A.heap.size ≤ B.heap.size ∧ ∀ k, k < n₀ → k ≠ bc → k < A.heap.size → B.heap[k]? = A.heap[k]?
theorem KpU.refl (n₀ bc : Nat) (A : World) : KpU n₀ bc A A := ⟨Nat.le_refl _, fun _ _ _ _ => rfl⟩
theorem KpU.trans {n₀ bc : Nat} {A B C : World} (h : KpU n₀ bc A B) (k : KpU n₀ bc B C) : KpU n₀ bc A C :=
  ⟨Nat.le_trans h.1 k.1, fun i h1 h2 h3 => (k.2 i h1 h2 (Nat.lt_of_lt_of_le h3 h.1)).trans (h.2 i h1 h2 h3)⟩
theorem KpU.put {n₀ bc : Nat} {w : World} (hn : n₀ ≤ w.heap.size) (W : World) (l : Nat) (o o' : Obj) (hl : w.heap.size ≤ l) (h : W.heap[l]? = some o) (_ : o.isCells = false) (_ : o.isWalk = false) : KpU n₀ bc W (W.putObj l o') := by
  have hg := grownBy_putObj' W l o'
  exact ⟨hg.size, fun k h1 h2 h3 => hg.block k h3 (fun e => by have := Option.some.inj e; omega)⟩
theorem KpU.cell {n₀ bc : Nat} {A B : World} (h : KpU n₀ bc A B) {b o : Nat} (hb : b < n₀) (hne : b ≠ bc) (hlt : b < A.heap.size) : B.cell? ⟨b, o, none⟩ = A.cell? ⟨b, o, none⟩ := World.cell?_of_block (h.2 b hb hne hlt)
abbrev oldV (o : Ol) : Value := .agg #[.int .i64 o.1, .int .i64 o.2.1, .int .u64 o.2.2]
abbrev o0 : Ol := (0, 0, 0)
/-- what has come behind k rounds -/
def come (os : List Ol) (k : Nat) : List (Nat × Ol) := (List.range k).map fun j => (os.length - 1 - j, os.getD (os.length - 1 - j) o0)
theorem come_succ (os : List Ol) (k : Nat) : come os (k + 1) = come os k ++ [(os.length - 1 - k, os.getD (os.length - 1 - k) o0)] := by simp [come, List.range_succ]
theorem come_len (os : List Ol) (k : Nat) : (come os k).length = k := by simp [come]
set_option maxRecDepth 100000 in
set_option maxHeartbeats 4000000 in
theorem back1_in (F : Fence) (n : Nat) (h31 : F.fn 31) (hro : F.round = none) (hn : 1 ≤ n) (l Bs n₀ bc b off cap : Nat) (os : List Ol) (hlen : os.length ≤ 1000000) (hcap : os.length ≤ cap) (hb : b < n₀) (hbc : b ≠ bc) (hBs : Bs < n₀) (hBc : Bs ≠ bc) (nc : Nat) (hat : ∀ o ∈ os, o.1 < nc) (J Jx : List (Nat × Ol) → World → Prop)
    (hY : ∀ pre x W, x.2.1 < nc → J pre W → pre.length < os.length → YieldAt F (n - 1) Try.prog l #[.int .i64 (x.1 : Int), oldV x.2] W fun e W' =>
      (e = .returned (.bool true) ∧ J (pre ++ [x]) W' ∧ KpU n₀ bc W W') ∨ (e = .returned (.bool false) ∧ Jx (pre ++ [x]) W'))
    (W : World) (hn₀ : n₀ ≤ W.heap.size) (hBs' : W.cell? ⟨Bs, 0, none⟩ = some (.slice (some ⟨b, off, none⟩) os.length cap))
    (hc : ∀ j o, os[j]? = some o → W.cell? ⟨b, off + j * 3, none⟩ = some (.int .i64 o.1) ∧ W.cell? ⟨b, off + j * 3 + 1, none⟩ = some (.int .i64 o.2.1) ∧ W.cell? ⟨b, off + j * 3 + 2, none⟩ = some (.int .u64 o.2.2)) (h0 : J [] W) :
    CallsIn F n Try.prog 31 #[.func (.yield l) #[] #[], .pointer (some ⟨Bs, 0, none⟩)] W fun e W' => (∃ v, e = .returned v) ∧
      ((∃ ys, ys = come os os.length ∧ J ys W') ∨ (∃ pre, (∃ k, k ≤ os.length ∧ pre = come os k) ∧ Jx pre W')) := by
  obtain ⟨len, hl⟩ : ∃ len, os.length = len := ⟨_, rfl⟩
  have HL := Lib.hid hl
  rw [hl] at hlen hcap hBs' hY ⊢
  refine callsIn_of_wp Try.func31 rfl h31 ?_ hro
  simp only [Try.ntmps31, List.size_toArray, List.length_cons, List.length_nil, Nat.reduceAdd, Nat.reduceSub, Array.replicate_succ, Array.replicate_zero, List.push_toArray, List.append_toArray, List.nil_append, List.cons_append]
  gi_wp2
  gi_loopw [3] (fun iv wr => ∃ (k : Nat) (i : Int), k ≤ len ∧ i = (len : Int) - 1 - k ∧ iv = .int .i64 i ∧ J (come os k) wr ∧ KpU n₀ bc W wr)
    (fun iv _ => (intOf iv + 1).toNat)
  case atStart => exact ⟨0, (len : Int) - 1, Nat.zero_le _, by omega, by go_num, h0, KpU.refl _ _ _⟩
  case round =>
    obtain ⟨k, i, hk, hi, rfl, hJs, hnx⟩ := hrel
    by_cases hlt : k < len
    · obtain ⟨m, hm⟩ : ∃ m : Nat, len - 1 - k = m := ⟨_, rfl⟩
      obtain rfl : i = (m : Int) := by omega
      obtain ⟨o, ho⟩ : ∃ o, os[m]? = some o := ⟨_, List.getElem?_eq_getElem (by rw [hl]; omega)⟩
      have hod : os.getD m o0 = o := by rw [List.getD_eq_getElem?_getD, ho]; rfl
      obtain ⟨fn, tmps, assign, body, hy, hR⟩ := hY _ (m, o) wr (hat o (List.mem_of_getElem? ho)) hJs (by rw [come_len]; exact hlt)
      dsimp only [oldV] at hy
      have kb : ∀ q, wr.cell? ⟨b, q, none⟩ = W.cell? ⟨b, q, none⟩ := fun q => hnx.cell hb hbc (by omega)
      obtain ⟨d0, d1, d2⟩ := hc m o ho
      have e0 := (kb _).trans d0
      have e1 := (kb _).trans d1
      have e2 := (kb _).trans d2
      have es := (hnx.cell hBs hBc (by omega) (o := 0)).trans hBs'
      have m1 : (m : Int) < (len : Int) := by omega
      have HM := Lib.hid hm
      clear d0 d1 d2 kb hi hm
      gi_wp2
      refine hR.mono ?_
      rintro e W3 (⟨rfl, hJ3, hk3⟩ | ⟨rfl, hJx3⟩)
      · gi_wp2
        go_roundw
        case rel => exact ⟨k + 1, (m : Int) - 1, by omega, by have := HM.out; omega, by go_num, by rw [come_succ, HL.out, HM.out, hod]; exact hJ3, hnx.trans hk3⟩
        case measure => first | (simp [intOf]; done) | (simp [intOf]; omega)
      · gi_wp2
        refine bodyPost_ret (results_none rfl _ _ _) rfl ?_
        exact ⟨⟨_, rfl⟩, .inr ⟨_, ⟨k + 1, by omega, by rw [come_succ, HL.out, HM.out, hod]⟩, hJx3⟩⟩
    · obtain rfl : k = len := by omega
      obtain rfl : i = -1 := by omega
      gi_wp2
      go_end0
      exact ⟨⟨_, rfl⟩, .inl ⟨_, rfl, hJs⟩⟩
set_option maxRecDepth 100000 in
set_option maxHeartbeats 1000000 in
theorem back0_in (F : Fence) (n : Nat) (h31 : F.fn 31) (hro : F.round = none) (l Bs cap : Nat) (A : Option Addr) (J : List (Nat × Ol) → World → Prop)
    (W : World) (hBs' : W.cell? ⟨Bs, 0, none⟩ = some (.slice A 0 cap)) (h0 : J [] W) :
    CallsIn F n Try.prog 31 #[.func (.yield l) #[] #[], .pointer (some ⟨Bs, 0, none⟩)] W fun e W' => (∃ v, e = .returned v) ∧ J [] W' := by
  refine callsIn_of_wp Try.func31 rfl h31 ?_ hro
  simp only [Try.ntmps31, List.size_toArray, List.length_cons, List.length_nil, Nat.reduceAdd, Nat.reduceSub, Array.replicate_succ, Array.replicate_zero, List.push_toArray, List.append_toArray, List.nil_append, List.cons_append]
  gi_wp2
  gi_loopw [3] (fun i wr => i = .int .i64 (-1) ∧ J [] wr) (fun _ _ => 0)
  case atStart => exact ⟨by go_num, h0⟩
  case round =>
    obtain ⟨rfl, hJs⟩ := hrel
    gi_wp2
    go_end0
    exact ⟨⟨_, rfl⟩, hJs⟩
set_option maxHeartbeats 1000000 in
theorem back_any (A : Option Addr) (len cap : Nat) (w : World) :
    Calls Try.prog 27 #[.slice A len cap] w fun e w' => e = .returned (.func (.func 31) #[] #[.pointer (some ⟨w.heap.size, 0, none⟩)]) ∧ w.alloc (.cells #[.slice A len cap] 55) = w' := by
  go_enter Try.func27, Try.ntmps27
  go_wp2
  go_ret
  exact ⟨rfl, rfl⟩
/-- the slice in box Bs holds os, in a block that the body leaves alone -/
def OldsAt (W : World) (n₀ bc : Nat) (A : Option Addr) (cap : Nat) (os : List Ol) : Prop :=
  os = [] ∨ ∃ b off, A = some ⟨b, off, none⟩ ∧ os.length ≤ cap ∧ b < n₀ ∧ b ≠ bc ∧ ∀ j o, os[j]? = some o → W.cell? ⟨b, off + j * 3, none⟩ = some (.int .i64 o.1) ∧ W.cell? ⟨b, off + j * 3 + 1, none⟩ = some (.int .i64 o.2.1) ∧ W.cell? ⟨b, off + j * 3 + 2, none⟩ = some (.int .u64 o.2.2)
abbrev Okd (nc : Nat) := { x : Nat × Ol // x.2.1 < nc }
theorem back_stops (F : Fence) (n : Nat) (h31 : F.fn 31) (hro : F.round = none) (hn : 1 ≤ n) (Bs n₀ bc cap nc : Nat) (A : Option Addr) (os : List Ol) (hat : ∀ o ∈ os, o.1 < nc) (hlen : os.length ≤ 1000000) (w : World) (hn₀ : n₀ ≤ w.heap.size) (hBs : Bs < n₀) (hBc : Bs ≠ bc)
    (hc : w.cell? ⟨Bs, 0, none⟩ = some (.slice A os.length cap)) (hI : OldsAt w n₀ bc A cap os) :
    SeqStopsK F n Try.prog 31 #[.pointer (some ⟨Bs, 0, none⟩)] (fun x : Okd nc => #[.int .i64 (x.1.1 : Int), oldV x.1.2]) (KpU n₀ bc) (fun ys => ys.map (·.1) = come os os.length)
      (fun pre => ∃ k, k ≤ os.length ∧ pre.map (·.1) = come os k) os.length w := fun l J Jx W hW _ _ hY h0 => by
  have up : ∀ b q, b < n₀ → W.cell? ⟨b, q, none⟩ = w.cell? ⟨b, q, none⟩ := fun b q hb => hW.cell (p := ⟨b, q, none⟩) (Nat.lt_of_lt_of_le hb hn₀)
  have hc' := (up Bs 0 hBs).trans hc
  rcases hI with rfl | ⟨b, off, rfl, hcap, hb, hbc, hat'⟩
  · exact (back0_in F n h31 hro l Bs cap A (fun pre W => ∃ p : List (Okd nc), p.map (·.1) = pre ∧ J p W) W hc' ⟨[], rfl, h0⟩).mono fun e W' ⟨he, p, hp, hj⟩ => ⟨he, .inl ⟨p, hp, hj⟩⟩
  · refine (back1_in F n h31 hro hn l Bs n₀ bc b off cap os hlen hcap hb hbc hBs hBc nc hat (fun pre W => ∃ p : List (Okd nc), p.map (·.1) = pre ∧ J p W) (fun pre W => ∃ p : List (Okd nc), p.map (·.1) = pre ∧ Jx p W) ?_ W (Nat.le_trans hn₀ hW.size) hc' (fun j o ho => by
      obtain ⟨d0, d1, d2⟩ := hat' j o ho
      exact ⟨(up _ _ hb).trans d0, (up _ _ hb).trans d1, (up _ _ hb).trans d2⟩) ⟨[], rfl, h0⟩).mono ?_
    · rintro pre x W1 hx ⟨p, rfl, hj⟩ hl
      refine (hY p ⟨x, hx⟩ W1 hj (by simpa using hl)).mono ?_
      rintro e W' (⟨he, h1, h2⟩ | ⟨he, h1⟩)
      · exact .inl ⟨he, ⟨p ++ [⟨x, hx⟩], by simp, h1⟩, h2⟩
      · exact .inr ⟨he, p ++ [⟨x, hx⟩], by simp, h1⟩
    · rintro e W' ⟨he, ⟨ys, rfl, p, hp, hj⟩ | ⟨pre, ⟨k, hk, rfl⟩, p, hp, hj⟩⟩
      · exact ⟨he, .inl ⟨p, hp, hj⟩⟩
      · exact ⟨he, .inr ⟨p, ⟨k, hk, hp⟩, hj⟩⟩
theorem come_olds (os : List Ol) : (come os os.length).map (·.2) = os.reverse := by
  apply List.ext_getElem?
  intro i
  unfold come
  rw [List.map_map, List.getElem?_map]
  rcases Nat.lt_or_ge i os.length with hi | hi
  · rw [List.getElem?_range hi, List.getElem?_reverse hi]
    simp only [Option.map_some, Function.comp]
    have : os.length - 1 - i < os.length := by omega
    rw [List.getD_eq_getElem?_getD, List.getElem?_eq_getElem this]; rfl
  · rw [List.getElem?_eq_none (by simpa using hi), List.getElem?_eq_none (by simpa using hi)]; rfl
/-- the olds, put back one behind the other -/
def fwd (cs : List Cl) (pre : List (Nat × Ol)) : List Cl := (pre.map (·.2)).foldl (fun c o => c.set o.1 o.2) cs
theorem fwd_snoc (cs : List Cl) (pre : List (Nat × Ol)) (x : Nat × Ol) : fwd cs (pre ++ [x]) = (fwd cs pre).set x.2.1 x.2.2 := by simp [fwd]
theorem fwd_come (cs : List Cl) (os : List Ol) : fwd cs (come os os.length) = backs cs os := by
  unfold fwd backs
  rw [come_olds, List.foldl_reverse]
theorem fwd_len (cs : List Cl) (pre : List (Nat × Ol)) : (fwd cs pre).length = cs.length := by
  unfold fwd
  generalize pre.map (·.2) = l
  induction l generalizing cs with
  | nil => rfl
  | cons o l ih => rw [List.foldl_cons, ih, List.length_set]
end Go.Proofs.Ytgojncgdmcpkiaa.trl
