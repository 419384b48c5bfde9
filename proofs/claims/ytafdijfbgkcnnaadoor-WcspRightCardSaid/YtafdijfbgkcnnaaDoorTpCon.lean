/- Contracts of package tuples: New, key, Put, Get; of costs. -/
import Derived.Test.YtafdijfbgkcnnaaDoorTpKey
namespace Go.Proofs.YtafdijfbgkcnnaaDoor.wcp
open Go Go.RowKit Go.ChangeShapes Go.WideShapes Go.ChangeAt Go.Maps Go.Proofs.YtafdijfbgkcnnaaDoor.words Go.Proofs.YtafdijfbgkcnnaaDoor.scn
set_option linter.unusedVariables false
def rightB (k : Int) : Bool := decide (1 ≤ k ∧ k ≤ 2147483648)
def inB (a k : Int) : Bool := decide ((1 ≤ k ∧ k ≤ 2147483648) ∧ 0 ≤ a ∧ a ≤ k)
theorem right_any (k : Int) (w : World) : Calls Tryd.prog 58 #[.int .i64 k] w fun e w' => e = .returned (.bool (rightB k)) ∧ w = w' := by
  by_cases h1 : 1 ≤ k
  · have e : rightB k = decide (k ≤ 2147483648) := by unfold rightB; simp [h1]
    rw [e]; clear e
    go_enter Tryd.func58, Tryd.ntmps58
    go_wp2
    go_ret
    exact ⟨rfl, rfl⟩
  · have e : rightB k = false := decide_eq_false fun h => h1 h.1
    rw [e]; clear e
    go_enter Tryd.func58, Tryd.ntmps58
    go_wp2
    go_ret
    exact ⟨rfl, rfl⟩
theorem in_any (a k : Int) (w : World) : Calls Tryd.prog 53 #[.int .i64 a, .int .i64 k] w fun e w' => e = .returned (.bool (inB a k)) ∧ w = w' := by
  have hr := right_any k w
  by_cases hk : 1 ≤ k ∧ k ≤ 2147483648
  · rw [show rightB k = true from decide_eq_true hk] at hr
    by_cases h0 : 0 ≤ a
    · have e : inB a k = decide (a ≤ k) := by unfold inB; simp [hk, h0]
      rw [e]; clear e hk
      go_enter Tryd.func53, Tryd.ntmps53
      go_wp2_with (go_at_call 58; refine hr.mono ?_; rintro e w' ⟨rfl, rfl⟩)
      go_ret
      exact ⟨rfl, rfl⟩
    · have e : inB a k = false := decide_eq_false fun h => h0 h.2.1
      rw [e]; clear e hk
      go_enter Tryd.func53, Tryd.ntmps53
      go_wp2_with (go_at_call 58; refine hr.mono ?_; rintro e w' ⟨rfl, rfl⟩)
      go_ret
      exact ⟨rfl, rfl⟩
  · rw [show rightB k = false from decide_eq_false hk] at hr
    have e : inB a k = false := decide_eq_false fun h => hk h.1
    rw [e]; clear e hk
    go_enter Tryd.func53, Tryd.ntmps53
    go_wp2_with (go_at_call 58; refine hr.mono ?_; rintro e w' ⟨rfl, rfl⟩)
    go_ret
    exact ⟨rfl, rfl⟩
theorem add_ok (a b k : Int) (w : World) (h1 : inB a k = true) (h2 : inB b k = true) : Calls Tryd.prog 46 #[.int .i64 a, .int .i64 b, .int .i64 k] w fun e w' => e = .returned (.tuple #[.int .i64 (min (a + b) k), .int .i64 0]) ∧ w = w' := by
  have i1 := in_any a k w
  have i2 := in_any b k w
  rw [h1] at i1
  rw [h2] at i2
  unfold inB at h1 h2
  rw [decide_eq_true_eq] at h1 h2
  obtain ⟨⟨k1, k2⟩, a1, a2⟩ := h1
  obtain ⟨_, b1, b2⟩ := h2
  go_enter Tryd.func46, Tryd.ntmps46
  go_wp2_with (go_at_call 53; first | ((with_reducible refine i1.mono ?_); rintro e w' ⟨rfl, rfl⟩) | ((with_reducible refine i2.mono ?_); rintro e w' ⟨rfl, rfl⟩))
  go_ret2
  exact ⟨rfl, rfl⟩
/-- a function's object: sizes, top, the cost of most, those that have another one; all of it in F -/
structure TpH where
  sizes : List Int
  k : Int
  other : Int
  f : List Int → Option Int
def TpV (w : World) (g : Nat) (F : Nat → Prop) (n : Nat) (T : TpH) : Prop :=
  F g ∧ ∃ A c mb D, Blk w g 114 #[.slice A T.sizes.length c, .int .i64 T.k, .int .i64 T.other, .map (some mb)] ∧
    w.ownsRow 0 3 1 (.slice A T.sizes.length c) T.sizes.length (nums T.sizes) ∧ (∀ k, (Value.slice A T.sizes.length c).ownBlock = some k → F k) ∧
    w.ownsMap Tryd.prog 119 (plainElem Tryd.prog 2) mb n D ∧ F mb ∧ TD D T.sizes.length T.f
def okT (T : TpH) : Prop := T.sizes.length ≤ 6 ∧ (∀ k ∈ T.sizes, 1 ≤ k ∧ k ≤ 32) ∧ inB T.other T.k = true
theorem TpV.keep {w w' : World} {g n : Nat} {F S : Nat → Prop} {T : TpH} (h : TpV w g F n T) (ht : Tch w w' S) (hs : ∀ k, F k → ¬ S k) : TpV w' g F n T := by
  obtain ⟨hg, A, c, mb, D, hb, ho, hf, hm, hmb, hd⟩ := h
  exact ⟨hg, A, c, mb, D, ht.blk hb (hs _ hg), ht.own ho (fun k hk => hs k (hf k hk)), hf, map_tch hm ht (hs _ hmb), hmb, hd⟩
theorem TpV.mono {w : World} {g n : Nat} {F F' : Nat → Prop} {T : TpH} (h : TpV w g F n T) (hf' : ∀ k, F k → F' k) : TpV w g F' n T := by
  obtain ⟨hg, A, c, mb, D, hb, ho, hf, hm, hmb, hd⟩ := h
  exact ⟨hf' _ hg, A, c, mb, D, hb, ho, fun k hk => hf' k (hf k hk), hm, hf' _ hmb, hd⟩
def NewR (w : World) (xs : List Int) (k other : Int) (e : Ending) (w' : World) : Prop :=
  ∃ g, e = .returned (.tuple #[.pointer (some ⟨g, 0, none⟩), .int .i64 0]) ∧ TpV w' g (fun b => w.heap.size ≤ b) 0 ⟨xs, k, other, fun _ => none⟩ ∧ Below w.heap.size w w'
set_option maxHeartbeats 4000000 in
theorem tnew_any (A : Option Addr) (n cap : Nat) (xs : List Int) (k other : Int) (w : World) (hn : n ≤ 6) (hr : Reads w w.heap.size 1 A n (nums xs)) (h1 : ∀ k ∈ xs, 1 ≤ k ∧ k ≤ 32) (h2 : inB other k = true) :
    Calls Tryd.prog 25 #[.slice A n cap, .int .i64 k, .int .i64 other] w fun e w' => NewR w xs k other e w' := by
  have hl := nums_len hr
  have hmm := @run_makeMap Tryd.prog
  have hc := contains_fn A n cap xs w (by unfold maxLen; omega) hr
  rw [show anyBad xs = false from by
    unfold anyBad; rw [List.any_eq_false]; intro x hx; have := h1 x hx; unfold badS; rw [decide_eq_true_eq]; omega] at hc
  have hi := in_any other k w
  rw [h2] at hi
  have hcl := clone_any A n cap xs w (by omega) hr
  subst hl
  go_enter Tryd.func25, Tryd.ntmps25
  go_wp2_with fail
  refine hc.mono ?_
  rintro e w1 ⟨rfl, rfl⟩
  clear hc
  go_wp2_with fail
  refine hi.mono ?_
  rintro e w1 ⟨rfl, rfl⟩
  clear hi
  go_wp2_with fail
  refine hcl.mono ?_
  rintro e w1 ⟨A1, c1, rfl, ho, hb⟩
  clear hcl
  go_wp2_with fail
  go_ret2
  have ho2 := (ho.alloc (.map #[] 0)).alloc (.cells #[.slice A1 xs.length c1, .int .i64 k, .int .i64 other, .map (some w1.heap.size)] 114)
  have hsz := hb.size
  refine ⟨w1.heap.size + 1, rfl, ⟨by omega, A1, c1, w1.heap.size, .map [], ?_, own_base ho2 (Nat.zero_le _), fun q hq => (own_in ho hq).1, (World.ownsMap_made _ _ _ _).alloc _, hsz, td_empty _⟩, bnew (bnew hb _) _⟩
  have := Blk.new (w1.alloc (.map #[] 0)) 114 #[.slice A1 xs.length c1, .int .i64 k, .int .i64 other, .map (some w1.heap.size)]
  rw [show (w1.alloc (.map #[] 0)).heap.size = w1.heap.size + 1 by simp] at this
  exact this
/-- is it a tuple of these sizes -/
def InS (sizes t : List Int) : Prop := t.length = sizes.length ∧ ∀ (i : Nat) (v k : Int), t[i]? = some v → sizes[i]? = some k → 0 ≤ v ∧ v < k
theorem InS.tpl {sizes t : List Int} (h : InS sizes t) (h6 : sizes.length ≤ 6) (hs : ∀ k ∈ sizes, 1 ≤ k ∧ k ≤ 32) : Tpl_ sizes.length t := by
  refine ⟨h.1, h6, fun v hv => ?_⟩
  obtain ⟨i, hi⟩ := List.mem_iff_getElem?.1 hv
  have hl := (List.getElem?_eq_some_iff.1 hi).1
  have hk : sizes[i]? = some (sizes[i]'(by rw [← h.1]; exact hl)) := List.getElem?_eq_getElem _
  have := h.2 i v _ hi hk
  have := hs _ (List.mem_of_getElem? hk)
  omega
def k8 (l : List Int) : List Value := l.map (Value.int .i8)
theorem pad_step {t : List Int} {j : Nat} {v : Int} (hv : t[j]? = some v) (h6 : t.length ≤ 6) : (k8 (pad (t.take j))).set j (.int .i8 v) = k8 (pad (t.take (j + 1))) := by
  have hl := (List.getElem?_eq_some_iff.1 hv).1
  have e1 : (t.take j).length = j := by rw [List.length_take]; omega
  have e2 : (t.take (j + 1)).length = j + 1 := by rw [List.length_take]; omega
  unfold pad k8
  rw [e1, e2, List.take_add_one, hv]
  obtain ⟨m, hm⟩ : ∃ m, 6 - j = m + 1 := ⟨6 - j - 1, by omega⟩
  rw [hm, show 6 - (j + 1) = m by omega, List.replicate_succ, show (Value.int .i8 v) = (Value.int .i8) v from rfl, ← List.map_set, List.set_append_right _ _ (by omega), e1, Nat.sub_self]
  simp
theorem six {c : List Int} (h : c.length = 6) : ∃ a0 a1 a2 a3 a4 a5, c = [a0, a1, a2, a3, a4, a5] := by
  match c, h with
  | [a0, a1, a2, a3, a4, a5], _ => exact ⟨a0, a1, a2, a3, a4, a5, rfl⟩
theorem Blk.six {w : World} {g : Nat} {t : TypeId} {a b c d e f : Value} (h : Blk w g t #[a, b, c, d, e, f]) : w.cell? ⟨g, 0, none⟩ = some a ∧ w.cell? ⟨g, 1, none⟩ = some b ∧ w.cell? ⟨g, 2, none⟩ = some c ∧ w.cell? ⟨g, 3, none⟩ = some d ∧ w.cell? ⟨g, 4, none⟩ = some e ∧ w.cell? ⟨g, 5, none⟩ = some f ∧
    w.frozen? ⟨g, 0, none⟩ = false ∧ w.frozen? ⟨g, 1, none⟩ = false ∧ w.frozen? ⟨g, 2, none⟩ = false ∧ w.frozen? ⟨g, 3, none⟩ = false ∧ w.frozen? ⟨g, 4, none⟩ = false ∧ w.frozen? ⟨g, 5, none⟩ = false :=
  ⟨h.cell 0, h.cell 1, h.cell 2, h.cell 3, h.cell 4, h.cell 5, h.frozen 0, h.frozen 1, h.frozen 2, h.frozen 3, h.frozen 4, h.frozen 5⟩
set_option maxRecDepth 100000 in
set_option maxHeartbeats 8000000 in
theorem tkey_any {w : World} {g n : Nat} {F : Nat → Prop} {T : TpH} (hT : TpV w g F n T) (h6 : T.sizes.length ≤ 6) (hs : ∀ k ∈ T.sizes, 1 ≤ k ∧ k ≤ 32) (A : Option Addr) (m cap : Nat) (t : List Int) (hr : Reads w w.heap.size 1 A m (nums t)) (hin : InS T.sizes t) :
    Calls Tryd.prog 52 #[.pointer (some ⟨g, 0, none⟩), .slice A m cap] w fun e w' => e = .returned (.tuple #[keyV (pad t), .int .i64 0]) ∧ Below w.heap.size w w' := by
  have hl := nums_len hr
  subst hl
  obtain ⟨hFg, SA, sc, mb, D, hb, ho, hf, hm, hmb, hd⟩ := hT
  have ht := hin.tpl h6 hs
  have hgl := Blk.lt hb
  have hS := Reads.of_own ho
  have HIN := Lib.hid hin
  have HB := Lib.hid hb
  have HT := Lib.hid ht
  have hq := (Blk.four (t := 114) hb).1
  have HLEN := Lib.hid hin.1
  have h6' : t.length ≤ 6 := by have := hin.1; omega
  have hln : decide ((t.length : Int) = (T.sizes.length : Int)) = true := decide_eq_true (by have := hin.1; omega)
  have hlz : (t.length : Int) = (T.sizes.length : Int) := by have := hin.1; omega
  clear hFg hb ho hf hm hmb hd ht hin hln
  go_enter Tryd.func52, Tryd.ntmps52
  go_wp2_with fail
  rw [← hlz]
  clear hlz
  have hB := bnew (bone w (.cells #[.int .i8 0, .int .i8 0, .int .i8 0, .int .i8 0, .int .i8 0, .int .i8 0] 119)) (.cells #[.int .i8 0, .int .i8 0, .int .i8 0, .int .i8 0, .int .i8 0, .int .i8 0] 119)
  have hx0 : Blk ((w.alloc (.cells #[.int .i8 0, .int .i8 0, .int .i8 0, .int .i8 0, .int .i8 0, .int .i8 0] 119)).alloc (.cells #[.int .i8 0, .int .i8 0, .int .i8 0, .int .i8 0, .int .i8 0, .int .i8 0] 119)) (w.heap.size + 1) 119 (k8 (pad (t.take 0))).toArray := by
    have := Blk.new (w.alloc (.cells #[.int .i8 0, .int .i8 0, .int .i8 0, .int .i8 0, .int .i8 0, .int .i8 0] 119)) 119 #[.int .i8 0, .int .i8 0, .int .i8 0, .int .i8 0, .int .i8 0, .int .i8 0]
    rw [show (w.alloc (.cells #[.int .i8 0, .int .i8 0, .int .i8 0, .int .i8 0, .int .i8 0, .int .i8 0] 119)).heap.size = w.heap.size + 1 by simp] at this
    exact this
  have hr0 : Blk ((w.alloc (.cells #[.int .i8 0, .int .i8 0, .int .i8 0, .int .i8 0, .int .i8 0, .int .i8 0] 119)).alloc (.cells #[.int .i8 0, .int .i8 0, .int .i8 0, .int .i8 0, .int .i8 0, .int .i8 0] 119)) w.heap.size 119 #[.int .i8 0, .int .i8 0, .int .i8 0, .int .i8 0, .int .i8 0, .int .i8 0] := (Blk.new w _ _).alloc _
  obtain ⟨B, hBs⟩ : ∃ B, w.heap.size = B := ⟨_, rfl⟩
  rw [hBs] at hx0 hr0 ⊢
  have HBS := Lib.hid hBs
  have HHB := Lib.hid hB
  have HHR := Lib.hid hr
  have HHS := Lib.hid hS
  clear hB hBs hr hS
  go_loopw [7, 8, 23] (fun _ _ jv wr => ∃ j : Nat, jv = .int .i64 j ∧ j ≤ t.length ∧ Blk wr (B + 1) 119 (k8 (pad (t.take j))).toArray ∧ Blk wr B 119 #[.int .i8 0, .int .i8 0, .int .i8 0, .int .i8 0, .int .i8 0, .int .i8 0] ∧ Below w.heap.size w wr) (fun _ _ jv _ => t.length - (intOf jv).toNat)
  case atStart => exact ⟨0, rfl, Nat.zero_le _, hx0, hr0, HHB.out⟩
  case round =>
    clear hx0 hr0
    obtain ⟨j, rfl, hj, hx, hrb, hbw⟩ := hrel
    by_cases hlt : j < t.length
    · obtain ⟨ad, v, rfl, _, hv, hc⟩ := (HHR.out.below hbw).num hlt
      obtain ⟨ad2, k, rfl, _, hk, hc2⟩ := (HHS.out.below hbw).num (k := j) (by have := HLEN.out; omega)
      obtain ⟨v0, v1⟩ := HIN.out.2 j v k hv hk
      have hk32 := (hs k (List.mem_of_getElem? hk)).2
      have hq2 : wr.cell? ⟨g, 0, none⟩ = some (.slice (some ad2) T.sizes.length sc) := by rw [(bcell hbw).1 g 0 hgl]; exact hq
      have hjl : (j : Int) < (T.sizes.length : Int) := by have := HLEN.out; omega
      have hw8 : IntKind.i8.wrap v = v := by simp [IntKind.wrap, IntKind.signed, IntKind.bits]; omega
      have hge : ¬ (k ≤ v) := by omega
      obtain ⟨u, hu⟩ : ∃ u, (k8 (pad (t.take j)))[j]? = some u := ⟨_, List.getElem?_eq_getElem (by
        have e1 : (t.take j).length = j := by rw [List.length_take]; omega
        simp only [k8, pad, List.length_map, List.length_append, List.length_replicate, e1]; omega)⟩
      have hcj : wr.cell? ⟨B + 1, j, none⟩ = some u := (Blk.cell hx j).trans (by simpa using hu)
      have hfj := Blk.frozen hx j
      have HPS := Lib.hid (pad_step hv h6')
      have HX := Lib.hid hx
      have HRB := Lib.hid hrb
      have HBW := Lib.hid hbw
      have hj6 : (j : Int) < 6 := by omega
      clear hv hk hx hrb hbw hu hq
      go_wp2_with fail
      go_roundw
      case measure => simp [intOf]; omega
      case rel =>
        refine ⟨j + 1, by go_num, by omega, ?_, (Blk.far HRB.out (p := ⟨B + 1, j, none⟩) (by simp) _), HBW.out.setCell (p := ⟨B + 1, j, none⟩) (by have := HBS.out; simp; omega) _⟩
        have := HX.out.set_ j (.int .i8 v)
        rw [← HPS.out]
        simpa using this
    · obtain rfl : j = t.length := by omega
      rw [List.take_of_length_le (Nat.le_refl _)] at hx
      obtain ⟨a0, a1, a2, a3, a4, a5, hpd⟩ := six (HT.out.pad.1)
      rw [hpd] at hx
      have HPD := Lib.hid hpd
      obtain ⟨x0, x1, x2, x3, x4, x5, -⟩ := Blk.six (t := 119) (show Blk wr (B + 1) 119 #[.int .i8 a0, .int .i8 a1, .int .i8 a2, .int .i8 a3, .int .i8 a4, .int .i8 a5] from hx)
      obtain ⟨r0, r1, r2, r3, r4, r5, rf0, rf1, rf2, rf3, rf4, rf5⟩ := Blk.six (t := 119) hrb
      have HRB := Lib.hid hrb
      have HBW := Lib.hid hbw
      clear hpd hx hrb hbw hq
      go_wp2_with fail
      obtain ⟨wf, hwf⟩ : ∃ wf, (((((wr.setCell ⟨B, 0, none⟩ (.int .i8 a0)).setCell ⟨B, 1, none⟩ (.int .i8 a1)).setCell ⟨B, 2, none⟩ (.int .i8 a2)).setCell ⟨B, 3, none⟩ (.int .i8 a3)).setCell ⟨B, 4, none⟩ (.int .i8 a4)).setCell ⟨B, 5, none⟩ (.int .i8 a5) = wf := ⟨_, rfl⟩
      have hfb : Blk wf B 119 #[.int .i8 a0, .int .i8 a1, .int .i8 a2, .int .i8 a3, .int .i8 a4, .int .i8 a5] := by rw [← hwf]; exact ((((((HRB.out.set_ 0 _).set_ 1 _).set_ 2 _).set_ 3 _).set_ 4 _).set_ 5 _)
      have hfw : Below w.heap.size w wf := by
        have hh := HBS.out
        rw [← hwf, ← hh]
        exact (((((HBW.out.setCell (p := ⟨w.heap.size, 0, none⟩) (Nat.le_refl _) _).setCell (p := ⟨w.heap.size, 1, none⟩) (Nat.le_refl _) _).setCell (p := ⟨w.heap.size, 2, none⟩) (Nat.le_refl _) _).setCell (p := ⟨w.heap.size, 3, none⟩) (Nat.le_refl _) _).setCell (p := ⟨w.heap.size, 4, none⟩) (Nat.le_refl _) _).setCell (p := ⟨w.heap.size, 5, none⟩) (Nat.le_refl _) _
      rw [hwf]
      obtain ⟨k0, k1, k2, k3, k4, k5, -⟩ := Blk.six (t := 119) hfb
      refine bodyPost_ret (v := .tuple #[.agg #[.int .i8 a0, .int .i8 a1, .int .i8 a2, .int .i8 a3, .int .i8 a4, .int .i8 a5], .int .i64 0]) (by simp [results, Tryd.results52, go_sem, k0, k1, k2, k3, k4, k5]) rfl ⟨by rw [HPD.out]; rfl, hfw⟩
def putF (T : TpH) (t : List Int) (c : Int) : TpH := { T with f := if c = T.other then (fun u => if u = t then none else T.f u) else (fun u => if u = t then some c else T.f u) }
set_option maxRecDepth 100000 in
set_option maxHeartbeats 8000000 in
theorem tput_any {w : World} {g n : Nat} {F : Nat → Prop} {T : TpH} (hT : TpV w g F n T) (hok : okT T) (A : Option Addr) (m cap : Nat) (t : List Int) (c : Int) (hr : Reads w w.heap.size 1 A m (nums t)) (hin : InS T.sizes t) (hc : inB c T.k = true) (hn : n ≤ 1000000) :
    Calls Tryd.prog 20 #[.pointer (some ⟨g, 0, none⟩), .slice A m cap, .int .i64 c] w fun e w' => e = .returned (.int .i64 0) ∧ TpV w' g F (n + 1) (putF T t c) ∧ Tch w w' (fun k => F k ∧ ∀ t cs, ¬ Blk w k t cs) := by
  obtain ⟨h6, hs, ho⟩ := hok
  have hk := tkey_any hT h6 hs A m cap t hr hin
  have hT0 := Lib.hid hT
  obtain ⟨hFg, SA, sc, mb, D, hb, hown, hf, hm, hmb, hd⟩ := hT
  have ht := hin.tpl h6 hs
  obtain ⟨a0, a1, a2, a3, a4, a5, hpd⟩ := six ht.pad.1
  rw [hpd] at hk
  have hkey : keyOf Tryd.prog 119 (.agg #[.int .i8 a0, .int .i8 a1, .int .i8 a2, .int .i8 a3, .int .i8 a4, .int .i8 a5]) = some (keyL (pad t)) := by
    have := keyOf6 ht.pad.1 ht.pad.2
    rw [hpd] at this ⊢
    exact this
  have hi := in_any c T.k
  rw [hc] at hi
  have hcw : (Lit.int .i64 c).wf = true := by
    unfold inB at hc
    rw [decide_eq_true_eq] at hc
    exact WalkArith.wf_i64 (by omega)
  have HB := Lib.hid hb
  have HOWN := Lib.hid hown
  have HF := Lib.hid hf
  have HM := Lib.hid hm
  have HMB := Lib.hid hmb
  have HD := Lib.hid hd
  have HT := Lib.hid ht
  have HFG := Lib.hid hFg
  clear hFg hb hown hf hm hmb hd ht hpd hr hin hc h6 hs ho
  go_enter Tryd.func20, Tryd.ntmps20
  go_wp2_with fail
  refine hk.mono ?_
  rintro e w1 ⟨rfl, hb1⟩
  clear hk
  rw [show keyV [a0, a1, a2, a3, a4, a5] = .agg #[.int .i8 a0, .int .i8 a1, .int .i8 a2, .int .i8 a3, .int .i8 a4, .int .i8 a5] from rfl]
  have hB2 := bto hb1 (bone w1 (.cells #[.int .i8 a0, .int .i8 a1, .int .i8 a2, .int .i8 a3, .int .i8 a4, .int .i8 a5] 119))
  have hx2 : Blk (w1.alloc (.cells #[.int .i8 a0, .int .i8 a1, .int .i8 a2, .int .i8 a3, .int .i8 a4, .int .i8 a5] 119)) w1.heap.size 119 #[.int .i8 a0, .int .i8 a1, .int .i8 a2, .int .i8 a3, .int .i8 a4, .int .i8 a5] := Blk.new _ _ _
  have hb2 := Blk.under HB.out hB2
  obtain ⟨q0, q1, q2, q3, -⟩ := Blk.four (t := 114) hb2
  obtain ⟨x0, x1, x2, x3, x4, x5, -⟩ := Blk.six (t := 119) hx2
  have hi2 := hi (w1.alloc (.cells #[.int .i8 a0, .int .i8 a1, .int .i8 a2, .int .i8 a3, .int .i8 a4, .int .i8 a5] 119))
  obtain ⟨w2, hw2⟩ : ∃ w2, w1.alloc (.cells #[.int .i8 a0, .int .i8 a1, .int .i8 a2, .int .i8 a3, .int .i8 a4, .int .i8 a5] 119) = w2 := ⟨_, rfl⟩
  rw [hw2] at q0 q1 q2 q3 x0 x1 x2 x3 x4 x5 hi2 hB2 hb2
  have HB2 := Lib.hid hB2
  have hm2 : w2.ownsMap Tryd.prog 119 (plainElem Tryd.prog 2) mb n D := map_tch HM.out (Tch.of_below hB2 (fun _ => False)) id
  have HM2 := Lib.hid hm2
  clear hB2 hb2 hx2 hi hm2 hb1
  have hdone : ∀ (w3 : World) (N : Nat) (D' : DataW Unit) (f' : List Int → Option Int), w3.ownsMap Tryd.prog 119 (plainElem Tryd.prog 2) mb N D' → N ≤ n + 1 → w2.drew.grownBy w3 (some mb) → TD D' T.sizes.length f' → TpV w3 g F (n + 1) { T with f := f' } ∧ Tch w w3 (fun k => F k ∧ ∀ t cs, ¬ Blk w k t cs) := fun w3 N D' f' h1 hN h2 h3 => by
    have t2 : Tch w2 w3 (fun k => k = mb) := ((Tch.refl w2 (fun k => k = mb)).drew).trans (Tch.of_grown h2 (S := fun k => k = mb) fun q _ hq => Option.some.inj hq) fun _ _ h => h
    have t1 : Tch w w3 (fun k => k = mb) := (Tch.of_below HB2.out (fun k => k = mb)).trans t2 fun _ _ h => h
    have hne : ∀ cs t, ¬ Blk w mb t cs := fun cs t hb => by
      obtain ⟨es, clock, hh, _⟩ := HM.out
      unfold Blk at hb; rw [hb] at hh; cases hh
    refine ⟨⟨HFG.out, SA, sc, mb, D', t1.blk HB.out (fun e => hne _ _ (by rw [← e]; exact HB.out)), own_off HOWN.out t1 (fun k hk => .inr fun cs hb => hne cs _ (by rw [← hk]; exact hb)), HF.out, h1.mono hN, HMB.out, h3⟩, t1.mono fun k _ e => by rw [e]; exact ⟨HMB.out, fun t cs => hne cs t⟩⟩
  have HDONE := Lib.hid hdone
  clear hdone
  go_wp2_with fail
  refine hi2.mono ?_
  rintro e w3 ⟨rfl, rfl⟩
  clear hi2
  by_cases hco : c = T.other
  · have HCO := Lib.hid hco
    go_upto_region 8 with fail
    clear hco hw2
    go_still_tail 5, (by kernel_rfl)
    change wpList _ _ _ _ _ w2.drew
    obtain ⟨wd, hwd⟩ : ∃ wd, w2.drew = wd := ⟨_, rfl⟩
    have HD2 := HDONE.out
    have hmd := HM2.out.drew
    rw [hwd] at HD2 hmd ⊢
    have HD3 := Lib.hid HD2
    clear HD2 hwd
    go_wp2_with (first
      | (at_delete; refine wpList_delete_own _ rfl _ _ 112 119 rfl _ keyed6 Tryd.underlying112 _ mb n D rfl hmd _ (keyL (pad t)) rfl hkey ?_; intro w4 hown4 hturn4; have HO4 := Lib.hid hown4; have HT4 := Lib.hid hturn4; clear hown4 hturn4)
      | fail)
    go_ret
    obtain ⟨h1, h2⟩ := HD3.out w4 n _ (fun u => if u = t then none else T.f u) HO4.out (by omega) HT4.out.grown (td_del HD.out HT.out)
    exact ⟨rfl, by unfold putF; rw [if_pos HCO.out]; exact h1, h2⟩
  · have HCO := Lib.hid hco
    go_upto_region 2 with fail
    clear hw2 hco
    go_still_tail 6, (by kernel_rfl)
    change wpList _ _ _ _ _ w2.drew
    obtain ⟨wd, hwd⟩ : ∃ wd, w2.drew = wd := ⟨_, rfl⟩
    have HD2 := HDONE.out
    have hmd := HM2.out.drew
    rw [hwd] at HD2 hmd ⊢
    have HD3 := Lib.hid HD2
    clear HD2 hwd
    go_wp2_with (first
      | (at_mapUpdate; refine wpList_mapUpdate_own _ rfl _ _ _ 112 rfl 119 2 keyed6 Tryd.underlying112 _ mb n D rfl hmd (by simp only [maxLen]; omega) _ _ (keyL (pad t)) rfl rfl hkey _ [] (plainElem_int Tryd.underlying2 hcw) ?_; intro w4 hown4 hgrow4; have HO4 := Lib.hid hown4; have HG4 := Lib.hid hgrow4; clear hown4 hgrow4)
      | fail)
    go_ret
    obtain ⟨h1, h2⟩ := HD3.out w4 (n + 1) _ (fun u => if u = t then some c else T.f u) HO4.out (Nat.le_refl _) HG4.out (td_put HD.out HM2.out.isMap HT.out)
    exact ⟨rfl, by unfold putF; rw [if_neg HCO.out]; exact h1, h2⟩
/-- a tuple's cost -/
def TpH.get (T : TpH) (t : List Int) : Int := (T.f t).getD T.other
theorem zero64 (w : World) : (zeroValue 2).run Tryd.prog w = .ok (.int .i64 0) w := by kernel_rfl
set_option maxRecDepth 100000 in
set_option maxHeartbeats 8000000 in
theorem tget_any {w : World} {g n : Nat} {F : Nat → Prop} {T : TpH} (hT : TpV w g F n T) (h6 : T.sizes.length ≤ 6) (hs : ∀ k ∈ T.sizes, 1 ≤ k ∧ k ≤ 32) (A : Option Addr) (m cap : Nat) (t : List Int) (hr : Reads w w.heap.size 1 A m (nums t)) (hin : InS T.sizes t) :
    Calls Tryd.prog 45 #[.pointer (some ⟨g, 0, none⟩), .slice A m cap] w fun e w' => e = .returned (.tuple #[.int .i64 (T.get t), .int .i64 0]) ∧ Below w.heap.size w w' := by
  have hk := tkey_any hT h6 hs A m cap t hr hin
  obtain ⟨hFg, SA, sc, mb, D, hb, hown, hf, hm, hmb, hd⟩ := hT
  have ht := hin.tpl h6 hs
  obtain ⟨a0, a1, a2, a3, a4, a5, hpd⟩ := six ht.pad.1
  rw [hpd] at hk
  have hkey : keyOf Tryd.prog 119 (.agg #[.int .i8 a0, .int .i8 a1, .int .i8 a2, .int .i8 a3, .int .i8 a4, .int .i8 a5]) = some (keyL (pad t)) := by
    have := keyOf6 ht.pad.1 ht.pad.2
    rw [hpd] at this ⊢
    exact this
  obtain ⟨hd1, hd2⟩ := hd.1 t ht
  have HB := Lib.hid hb
  have HM := Lib.hid hm
  clear hFg hb hown hf hm hmb hd ht hpd hr hin h6 hs
  go_enter Tryd.func45, Tryd.ntmps45
  go_wp2_with fail
  refine hk.mono ?_
  rintro e w1 ⟨rfl, hb1⟩
  clear hk
  rw [show keyV [a0, a1, a2, a3, a4, a5] = .agg #[.int .i8 a0, .int .i8 a1, .int .i8 a2, .int .i8 a3, .int .i8 a4, .int .i8 a5] from rfl]
  have hB2 := bto hb1 (bone w1 (.cells #[.int .i8 a0, .int .i8 a1, .int .i8 a2, .int .i8 a3, .int .i8 a4, .int .i8 a5] 119))
  have hx2 : Blk (w1.alloc (.cells #[.int .i8 a0, .int .i8 a1, .int .i8 a2, .int .i8 a3, .int .i8 a4, .int .i8 a5] 119)) w1.heap.size 119 #[.int .i8 a0, .int .i8 a1, .int .i8 a2, .int .i8 a3, .int .i8 a4, .int .i8 a5] := Blk.new _ _ _
  have hb2 := Blk.under HB.out hB2
  obtain ⟨q0, q1, q2, q3, -⟩ := Blk.four (t := 114) hb2
  obtain ⟨x0, x1, x2, x3, x4, x5, -⟩ := Blk.six (t := 119) hx2
  obtain ⟨w2, hw2⟩ : ∃ w2, w1.alloc (.cells #[.int .i8 a0, .int .i8 a1, .int .i8 a2, .int .i8 a3, .int .i8 a4, .int .i8 a5] 119) = w2 := ⟨_, rfl⟩
  rw [hw2] at q0 q1 q2 q3 x0 x1 x2 x3 x4 x5 hB2 hb2
  have HB2 := Lib.hid hB2
  have hm2 : w2.ownsMap Tryd.prog 119 (plainElem Tryd.prog 2) mb n D := map_tch HM.out (Tch.of_below hB2 (fun _ => False)) id
  obtain ⟨c0, hrun, hat, _⟩ : ∃ c0, (∀ k, (Instr.lookup 112 (.map (some mb)) (.agg #[.int .i8 a0, .int .i8 a1, .int .i8 a2, .int .i8 a3, .int .i8 a4, .int .i8 a5]) true).run Tryd.prog (w2.drewN k) = .ok (.tuple #[.int .i64 c0, .bool (Maps.has D (keyL (pad t)))]) (w2.drewN k)) ∧ D.atKey (keyL (pad t)) (.lit (.int .i64 0)) = .lit (.int .i64 c0) ∧ True := by
    have hone : ∀ k, ∃ c0, (Instr.lookup 112 (.map (some mb)) (.agg #[.int .i8 a0, .int .i8 a1, .int .i8 a2, .int .i8 a3, .int .i8 a4, .int .i8 a5]) true).run Tryd.prog (w2.drewN k) = .ok (.tuple #[.int .i64 c0, .bool (Maps.has D (keyL (pad t)))]) (w2.drewN k) ∧ D.atKey (keyL (pad t)) (.lit (.int .i64 0)) = .lit (.int .i64 c0) := fun k => by
      have hm3 : (w2.drewN k).ownsMap Tryd.prog 119 (plainElem Tryd.prog 2) mb n D := hm2
      obtain ⟨v, ps, h1, h2⟩ := hm3.look_ok keyed6 Tryd.underlying112 (zero64 _) (zd := .lit (.int .i64 0)) (zp := []) (plainElem_int Tryd.underlying2 (by decide)) hkey
      obtain ⟨c0, rfl, hc, _⟩ := plainElem_int_inv Tryd.underlying2 h2
      exact ⟨c0, h1, congrArg Prod.fst hc⟩
    obtain ⟨c0, _, h0⟩ := hone 0
    refine ⟨c0, fun k => ?_, h0, trivial⟩
    obtain ⟨c1, h1, h2⟩ := hone k
    rw [h0] at h2
    injection h2 with h2
    injection h2 with _ h2
    rw [h2]; exact h1
  rw [hd1] at hrun
  clear hB2 hb2 hx2 hm2 hb1 hkey
  go_upto_region 4 with fail
  clear hw2
  cases hf : T.f t with
  | none =>
    rw [hf] at hrun
    have HG : Hid (T.get t = T.other) := by unfold TpH.get; rw [hf]; rfl
    clear hat hd2 hf
    go_quiet (fail)
    go_wp2
    go_ret2
    exact ⟨by rw [HG.out]; rfl, below_drewN HB2.out _⟩
  | some c =>
    rw [hf] at hrun
    have hc := hd2 c hf (.lit (.int .i64 0))
    rw [hat] at hc
    injection hc with hc
    injection hc with _ hc
    subst hc
    have HG : Hid (T.get t = c0) := by unfold TpH.get; rw [hf]; rfl
    clear hat hd2 hf
    go_quiet (fail)
    go_wp2
    go_ret2
    exact ⟨by rw [HG.out]; rfl, below_drewN HB2.out _⟩
end Go.Proofs.YtafdijfbgkcnnaaDoor.wcp
