/- A trail beside the document's: one act on both. -/
import Derived.Test.YtgojncgdmcpkiaaTrRef
import Derived.Test.YtgojncgdmcpkiaaTrTwo
namespace Go.Proofs.Ytgojncgdmcpkiaa.trl
open Go Go.RowKit Go.ChangeShapes Go.WideShapes Go.ChangeAt Go.Proofs.Ytgojncgdmcpkiaa.words
set_option linter.unusedVariables false
/-- what each mark saw, the last first -/
def sn (R : List RR) : List (List Int) := (R.map (·.2.2)).reverse
theorem sn_len (R : List RR) : (sn R).length = R.length := by simp [sn]
theorem sn_add (R : List RR) (x : RR) : sn (R ++ [x]) = x.2.2 :: sn R := by simp [sn]
theorem sn_at {R : List RR} {k : Nat} {x : RR} (hx : R[k]? = some x) : sn R = sn (R.drop (k + 1)) ++ x.2.2 :: sn (R.take k) := by
  have h : R = R.take k ++ x :: R.drop (k + 1) := by
    have hk := (List.getElem?_eq_some_iff.1 hx)
    obtain ⟨hlt, he⟩ := hk
    rw [← he, ← List.drop_eq_getElem_cons hlt, List.take_append_drop]
  have e : sn R = sn (R.take k ++ x :: R.drop (k + 1)) := by rw [← h]
  rw [e]
  simp [sn]
/-- the trail at g and the document's at gx, neither in the other's blocks, both off X; of X nothing has turned since w0 -/
def Mid (X : Nat → Prop) (w0 : World) (g gx : Nat) (C : List Int) (ss : List (List Int)) (ev : Nat) (D : List Int) (R : List RR) (w : World) : Prop :=
  ∃ F H, TF g F C ss ev w ∧ RX gx H D R w ∧ (∀ k, F k → ¬ X k ∧ k < w.heap.size ∧ ¬ H k) ∧ (∀ k, H k → ¬ X k ∧ k < w.heap.size) ∧ Tch w0 w (fun k => ¬ X k) ∧ ∀ k, X k → k < w0.heap.size
variable {X : Nat → Prop} {w0 w : World} {g gx : Nat} {C D : List Int} {ss : List (List Int)} {ev : Nat} {R : List RR}
theorem Mid.bel (h : Mid X w0 g gx C ss ev D R w) {B : Nat} (hB : B ≤ w0.heap.size) (hX : ∀ k, k < B → X k) : Below B w0 w := by
  obtain ⟨_, _, _, _, _, _, h, _⟩ := h
  exact h.below hB fun i hi hx => hx (hX i hi)
theorem Mid.blk (h : Mid X w0 g gx C ss ev D R w) {b : Nat} {t : TypeId} {cs : Array Value} (hx : X b) (hb : Blk w0 b t cs) : Blk w b t cs := by
  obtain ⟨_, _, _, _, _, _, h, _⟩ := h
  exact h.blk hb fun hn => hn hx
theorem Mid.below {w' : World} (h : Mid X w0 g gx C ss ev D R w) (hb : Below w.heap.size w w') : Mid X w0 g gx C ss ev D R w' := by
  obtain ⟨F, H, h1, h2, h3, h4, h5, h6⟩ := h
  exact ⟨F, H, h1.below hb, h2.below hb, fun k hk => ⟨(h3 k hk).1, Nat.lt_of_lt_of_le (h3 k hk).2.1 hb.size, (h3 k hk).2.2⟩, fun k hk => ⟨(h4 k hk).1, Nat.lt_of_lt_of_le (h4 k hk).2 hb.size⟩, h5.trans (Tch.of_below hb (fun _ => False)) (fun _ _ h => h.elim), h6⟩
theorem Mid.fst {α : Prop} (h : Mid X w0 g gx C ss ev D R w) (k : ∀ F, TF g F C ss ev w → α) : α := by obtain ⟨_, _, h1, _⟩ := h; exact k _ h1
theorem Mid.snd {α : Prop} (h : Mid X w0 g gx C ss ev D R w) (k : ∀ H, RX gx H D R w → α) : α := by obtain ⟨_, _, _, h1, _⟩ := h; exact k _ h1
theorem Mid.one {C' : List Int} {ss' : List (List Int)} {ev' f : Nat} {args : Array Value} {P : Ending → Prop} (h : Mid X w0 g gx C ss ev D R w)
    (hc : ∀ F, TF g F C ss ev w → Calls Try.prog f args w fun e w' => P e ∧ TO w g F C' ss' ev' w') : Calls Try.prog f args w fun e w' => P e ∧ Mid X w0 g gx C' ss' ev' D R w' := by
  obtain ⟨F, H, h1, h2, h3, h4, h5, h6⟩ := h
  refine (hc F h1).mono ?_
  rintro e w' ⟨hP, G, k1, k2, k3⟩
  refine ⟨hP, G, H, k1, h2.keep k2 fun k hk hx => (h3 k hx).2.2 hk, fun k hk => ⟨fun hX => ?_, (k3 k hk).2, fun hx => ?_⟩, fun k hk => ⟨(h4 k hk).1, Nat.lt_of_lt_of_le (h4 k hk).2 k2.size⟩, h5.trans k2 fun i _ hi => (h3 i hi).1, h6⟩
  · rcases (k3 k hk).1 with h | h
    · exact (h3 k h).1 hX
    · have := h6 k hX; have := h5.size; omega
  · rcases (k3 k hk).1 with h | h
    · exact (h3 k h).2.2 hx
    · have := (h4 k hx).2; omega
/-- the document's has turned -/
theorem Mid.put {D' : List Int} {R' : List RR} {w' : World} (h : Mid X w0 g gx C ss ev D R w) (hc : ∀ H, RX gx H D R w → RXO w gx H D' R' w') : Mid X w0 g gx C ss ev D' R' w' := by
  obtain ⟨F, H, h1, h2, h3, h4, h5, h6⟩ := h
  obtain ⟨G, k1, k2, k3⟩ := hc H h2
  refine ⟨F, G, h1.keep k2 fun k hk hx => (h3 k hk).2.2 hx, k1, fun k hk => ⟨(h3 k hk).1, Nat.lt_of_lt_of_le (h3 k hk).2.1 k2.size, fun hx => ?_⟩, fun k hk => ⟨fun hX => ?_, (k3 k hk).2⟩, h5.trans k2 fun i _ hi => (h4 i hi).1, h6⟩
  · rcases (k3 k hx).1 with h | h
    · exact (h3 k hk).2.2 h
    · have := (h3 k hk).2.1; omega
  · rcases (k3 k hk).1 with h | h
    · exact (h4 k h).1 hX
    · have := h6 k hX; have := h5.size; omega
/-- the footprint itself, so that one put together by hand may be judged -/
theorem Mid.two {ι : Type} {D' : ι → List Int} {R' : ι → List RR} {f : Nat} {args : Array Value} {P : Ending → Prop} (h : Mid X w0 g gx C ss ev D R w)
    (hc : ∀ H, RX gx H D R w → Calls Try.prog f args w fun e w' => P e ∧ ∃ y, RXO w gx H (D' y) (R' y) w') : Calls Try.prog f args w fun e w' => P e ∧ ∃ y, Mid X w0 g gx C ss ev (D' y) (R' y) w' := by
  obtain ⟨F, H, h1, h2, h3, h4, h5, h6⟩ := h
  refine (hc H h2).mono ?_
  rintro e w' ⟨hP, y, G, k1, k2, k3⟩
  refine ⟨hP, y, F, G, h1.keep k2 fun k hk hx => (h3 k hk).2.2 hx, k1, fun k hk => ⟨(h3 k hk).1, Nat.lt_of_lt_of_le (h3 k hk).2.1 k2.size, fun hx => ?_⟩, fun k hk => ⟨fun hX => ?_, (k3 k hk).2⟩, h5.trans k2 fun i _ hi => (h4 i hi).1, h6⟩
  · rcases (k3 k hx).1 with h | h
    · exact (h3 k hk).2.2 h
    · have := (h3 k hk).2.1; omega
  · rcases (k3 k hk).1 with h | h
    · exact (h4 k h).1 hX
    · have := h6 k hX; have := h5.size; omega
/-- a box more, off both -/
theorem Mid.box (h : Mid X w0 g gx C ss ev D R w) (o : Obj) : Mid (fun k => X k ∨ k = w.heap.size) (w.alloc o) g gx C ss ev D R (w.alloc o) := by
  have h' := h.below (bone w o)
  obtain ⟨F, H, h1, h2, h3, h4, h5, h6⟩ := h
  exact ⟨F, H, h1.below (bone w o), h2.below (bone w o), fun k hk => ⟨fun hx => hx.elim (h3 k hk).1 fun e => by have := (h3 k hk).2.1; omega, Nat.lt_of_lt_of_le (h3 k hk).2.1 (bone w o).size, (h3 k hk).2.2⟩, fun k hk => ⟨fun hx => hx.elim (h4 k hk).1 fun e => by have := (h4 k hk).2; omega, Nat.lt_of_lt_of_le (h4 k hk).2 (bone w o).size⟩, Tch.refl _ _, fun k hk => by
    rcases hk with hk | rfl
    · exact Nat.lt_of_lt_of_le (h6 k hk) (Nat.le_trans h5.size (bone w o).size)
    · simp⟩
/-- and without it -/
theorem Mid.unbox {o : Obj} {C' D' : List Int} {ss' : List (List Int)} {ev' : Nat} {R' : List RR} {w' : World} (h : Mid X w0 g gx C ss ev D R w) (k : Mid (fun k => X k ∨ k = w.heap.size) (w.alloc o) g gx C' ss' ev' D' R' w') : Mid X w0 g gx C' ss' ev' D' R' w' := by
  obtain ⟨_, _, _, _, _, _, h5, h6⟩ := h
  obtain ⟨F, H, k1, k2, k3, k4, k5, k6⟩ := k
  exact ⟨F, H, k1, k2, fun k hk => ⟨fun hx => (k3 k hk).1 (.inl hx), (k3 k hk).2⟩, fun k hk => ⟨fun hx => (k4 k hk).1 (.inl hx), (k4 k hk).2⟩, (h5.trans (Tch.of_below (bone w o) (fun _ => False)) fun _ _ h => h.elim).trans k5 fun i _ hi hx => hi (.inl hx), h6⟩
/-- the bounds of what is played -/
structure Fit (lo : Nat) (C : List Int) (R : List RR) : Prop where
  low : lo ≤ C.length
  high : C.length ≤ 64
  n : R.length ≤ 20
  lows : ∀ x ∈ R, lo ≤ x.2.2.length
  highs : ∀ x ∈ R, x.2.2.length ≤ 64
/-- what an act leaves -/
def Done (lo : Nat) (X : Nat → Prop) (w0 : World) (g gx ev : Nat) (e : Ending) (w' : World) : Prop := e = .returned (.bool true) ∧ ∃ C R ev', Mid X w0 g gx C (sn R) ev' C R w' ∧ Fit lo C R ∧ ev' ≤ ev + 1
variable {lo : Nat}
theorem Fit.add (h : Fit lo C R) (hn : R.length < 20) (A : Option Addr) (c : Nat) : Fit lo C (R ++ [(A, c, C)]) := by
  refine ⟨h.low, h.high, by simp; omega, fun x hx => ?_, fun x hx => ?_⟩
  all_goals
    rcases List.mem_append.1 hx with hx | hx
    · first | exact h.lows x hx | exact h.highs x hx
    · obtain rfl : x = (A, c, C) := by simpa using hx
      first | exact h.low | exact h.high
theorem Fit.take (h : Fit lo C R) (k : Nat) : Fit lo C (R.take k) := ⟨h.low, h.high, by rw [List.length_take]; have := h.n; omega, fun x hx => h.lows x (List.mem_of_mem_take hx), fun x hx => h.highs x (List.mem_of_mem_take hx)⟩
theorem Fit.back (h : Fit lo C R) {k : Nat} {x : RR} (hx : R[k]? = some x) : Fit lo x.2.2 (R.take k) := ⟨h.lows x (List.mem_of_getElem? hx), h.highs x (List.mem_of_getElem? hx), (h.take k).n, (h.take k).lows, (h.take k).highs⟩
theorem Fit.set (h : Fit lo C R) (i : Nat) (v : Int) : Fit lo (C.set i v) R := ⟨by rw [List.length_set]; exact h.low, by rw [List.length_set]; exact h.high, h.n, h.lows, h.highs⟩
theorem Fit.more (h : Fit lo C R) {k : Nat} (hC : C.length < 60) (hk : k ≤ 5) : Fit lo (C ++ List.replicate k 0) R := ⟨by rw [List.length_append]; have := h.low; omega, by rw [List.length_append, List.length_replicate]; omega, h.n, h.lows, h.highs⟩
abbrev actV (d : Nat) (i v : Int) : Value := .agg #[.int .u8 (d : Nat), .int .i64 i, .int .i64 v]
abbrev actO (d : Nat) (i v : Int) : Obj := .cells #[.int .u8 (d : Nat), .int .i64 i, .int .i64 v] 42
theorem blk_three {w : World} {b : Nat} {t : TypeId} {x y z : Value} (h : Blk w b t #[x, y, z]) : w.cell? ⟨b, 0, none⟩ = some x ∧ w.cell? ⟨b, 1, none⟩ = some y ∧ w.cell? ⟨b, 2, none⟩ = some z := ⟨h.cell 0, h.cell 1, h.cell 2⟩
set_option maxHeartbeats 4000000 in
theorem do_mark (h : Mid X w0 g gx C (sn R) ev C R w) (hf : Fit lo C R) (hev : ev ≤ 1000000) (d : Nat) (i v : Int) (hd : d % 8 = 4) :
    Calls Try.prog 18 #[.pointer (some ⟨g, 0, none⟩), .pointer (some ⟨gx, 0, none⟩), actV d i v] w (Done lo X w0 g gx ev) := by
  have hb := h.box (actO d i v)
  have hB : Blk (w.alloc (actO d i v)) w.heap.size 42 #[.int .u8 (d : Nat), .int .i64 i, .int .i64 v] := Blk.new _ _ _
  have HU : Hid (∀ C' R' ev' w', Mid (fun k => X k ∨ k = w.heap.size) (w.alloc (actO d i v)) g gx C' (sn R') ev' C' R' w' → Mid X w0 g gx C' (sn R') ev' C' R' w') := fun _ _ _ _ k => h.unbox k
  obtain ⟨b0, b1, b2⟩ := blk_three hB
  have HBB : Hid (∀ C' ss' ev' D' R' w', Mid (fun k => X k ∨ k = w.heap.size) (w.alloc (actO d i v)) g gx C' ss' ev' D' R' w' → w'.cell? ⟨w.heap.size, 0, none⟩ = some (.int .u8 (d : Nat)) ∧ w'.cell? ⟨w.heap.size, 1, none⟩ = some (.int .i64 i) ∧ w'.cell? ⟨w.heap.size, 2, none⟩ = some (.int .i64 v)) := fun _ _ _ _ _ _ k => blk_three (k.blk (.inr rfl) hB)
  obtain ⟨AC, cC, A, c, hh, _, _⟩ := hb.snd fun H hx => hx.heads
  obtain ⟨q0, q1⟩ := hh _ (Below.refl _ _)
  have HF := Lib.hid hf
  have hC := hf.high
  have hR := hf.n
  have hdI : (d : Int) % 8 = 4 := by omega
  have hm : Hid (R.length < 20 → Calls Try.prog 13 #[.pointer (some ⟨g, 0, none⟩)] (w.alloc (actO d i v)) fun e w' => e = .returned (.int .i64 R.length) ∧ Mid (fun k => X k ∨ k = w.heap.size) (w.alloc (actO d i v)) g gx C (C :: sn R) (ev + 1) C R w') := fun hn =>
    hb.one fun F h => by
      have := tf_mark h (by have := hf.high; omega) (by rw [sn_len]; omega) hev
      rwa [sn_len] at this
  obtain ⟨r, hr⟩ : ∃ r, R.length = r := ⟨_, rfl⟩
  rw [hr] at q1 hR
  rw [Hid, hr] at hm
  have HM := Lib.hid hm
  have HR := Lib.hid hr
  have HB := Lib.hid hb
  clear h hB hh hb hf hm hr
  go_enter Try.func18, Try.ntmps18
  by_cases hn : r < 20
  · have hm := HM.out hn
    go_wp2_with fail
    refine hm.mono ?_
    rintro e w2 ⟨rfl, h2⟩
    clear hm
    have hm2 := h2.two (ι := Option Addr × Nat) (D' := fun _ => C) (R' := fun y => R ++ [(y.1, y.2, C)]) (fun H hx => (ref_mark hx (by omega) (by rw [HR.out]; omega)).mono fun e w' ⟨h1, A, c, h3⟩ => ⟨h1, (A, c), h3⟩)
    rw [HR.out] at hm2
    clear h2
    go_wp2_with fail
    refine hm2.mono ?_
    rintro e w3 ⟨rfl, ⟨A', c'⟩, h3⟩
    clear hm2
    have h4 : Hid (Mid (fun k => X k ∨ k = w.heap.size) (w.alloc (actO d i v)) g gx C (sn (R ++ [(A', c', C)])) (ev + 1) C (R ++ [(A', c', C)]) w3) := by rw [Hid, sn_add]; exact h3
    clear h3
    go_wp2_with fail
    go_ret
    exact ⟨rfl, C, _, ev + 1, HU.out _ _ _ _ h4.out, HF.out.add (by rw [HR.out]; exact hn) A' c', Nat.le_refl _⟩
  · go_wp2_with fail
    go_ret
    exact ⟨rfl, C, R, ev, HU.out _ _ _ _ HB.out, HF.out, Nat.le_succ _⟩
set_option maxHeartbeats 4000000 in
theorem do_undo (h : Mid X w0 g gx C (sn R) ev C R w) (hf : Fit lo C R) (hev : ev ≤ 1000000) (d : Nat) (i v : Int) (hd : d % 8 = 5) (k : Nat) (hi : i = k) (x : RR) (hx : R[k]? = some x) :
    Calls Try.prog 18 #[.pointer (some ⟨g, 0, none⟩), .pointer (some ⟨gx, 0, none⟩), actV d i v] w (Done lo X w0 g gx ev) := by
  have hb := h.box (actO d i v)
  have hB : Blk (w.alloc (actO d i v)) w.heap.size 42 #[.int .u8 (d : Nat), .int .i64 i, .int .i64 v] := Blk.new _ _ _
  have HU : Hid (∀ C' R' ev' w', Mid (fun k => X k ∨ k = w.heap.size) (w.alloc (actO d i v)) g gx C' (sn R') ev' C' R' w' → Mid X w0 g gx C' (sn R') ev' C' R' w') := fun _ _ _ _ k => h.unbox k
  obtain ⟨b0, b1, b2⟩ := blk_three hB
  have HBB : Hid (∀ C' ss' ev' D' R' w', Mid (fun k => X k ∨ k = w.heap.size) (w.alloc (actO d i v)) g gx C' ss' ev' D' R' w' → w'.cell? ⟨w.heap.size, 0, none⟩ = some (.int .u8 (d : Nat)) ∧ w'.cell? ⟨w.heap.size, 1, none⟩ = some (.int .i64 i) ∧ w'.cell? ⟨w.heap.size, 2, none⟩ = some (.int .i64 v)) := fun _ _ _ _ _ _ k => blk_three (k.blk (.inr rfl) hB)
  obtain ⟨AC, cC, A, c, hh, _, _⟩ := hb.snd fun H hx => hx.heads
  obtain ⟨q0, q1⟩ := hh _ (Below.refl _ _)
  have HF := Lib.hid hf
  have hC := hf.high
  have hR := hf.n
  have hdI : (d : Int) % 8 = 5 := by omega
  have hk := get_lt hx
  have hx64 := hf.highs x (List.mem_of_getElem? hx)
  have hkl : (sn (R.take k)).length = k := by rw [sn_len, List.length_take]; omega
  have hu := hb.two (ι := Unit) (D' := fun _ => x.2.2) (R' := fun _ => R.take k) (fun H h => (ref_undo h hx (by omega) (by omega)).mono fun e w' h => ⟨h.1, (), h.2⟩)
  have HU2 : Hid (∀ w2, Mid (fun k => X k ∨ k = w.heap.size) (w.alloc (actO d i v)) g gx C (sn R) ev x.2.2 (R.take k) w2 → Calls Try.prog 14 #[.pointer (some ⟨g, 0, none⟩), .int .i64 k] w2 fun e w' => e = .returned (.int .i64 0) ∧ Mid (fun k => X k ∨ k = w.heap.size) (w.alloc (actO d i v)) g gx x.2.2 (sn (R.take k)) ev x.2.2 (R.take k) w') := fun w2 h2 =>
    h2.one fun F h => by
      have := tf_undo h (sn_at hx) (by omega) (by rw [sn_len]; omega)
      rwa [hkl] at this
  have HX := Lib.hid hx
  subst hi
  clear h hB hh hb hf hx hkl hk
  go_enter Try.func18, Try.ntmps18
  go_wp2_with fail
  refine hu.mono ?_
  rintro e w2 ⟨rfl, _, h2⟩
  clear hu
  obtain ⟨c0, c1, c2⟩ := HBB.out _ _ _ _ _ _ h2
  have hu2 := HU2.out w2 h2
  clear h2 b0 b1 b2 q0 q1
  go_wp2_with fail
  refine hu2.mono ?_
  rintro e w3 ⟨rfl, h3⟩
  clear hu2 c0 c1 c2
  have H3 := Lib.hid h3
  clear h3
  go_wp2_with fail
  go_ret
  exact ⟨rfl, _, _, ev, HU.out _ _ _ _ H3.out, HF.out.back HX.out, Nat.le_succ _⟩
set_option maxHeartbeats 4000000 in
theorem do_undo_out (h : Mid X w0 g gx C (sn R) ev C R w) (hf : Fit lo C R) (hev : ev ≤ 1000000) (d : Nat) (i v : Int) (hd : d % 8 = 5) (hi : ¬ (0 ≤ i ∧ i < R.length)) :
    Calls Try.prog 18 #[.pointer (some ⟨g, 0, none⟩), .pointer (some ⟨gx, 0, none⟩), actV d i v] w (Done lo X w0 g gx ev) := by
  have hb := h.box (actO d i v)
  have hB : Blk (w.alloc (actO d i v)) w.heap.size 42 #[.int .u8 (d : Nat), .int .i64 i, .int .i64 v] := Blk.new _ _ _
  have HU : Hid (∀ C' R' ev' w', Mid (fun k => X k ∨ k = w.heap.size) (w.alloc (actO d i v)) g gx C' (sn R') ev' C' R' w' → Mid X w0 g gx C' (sn R') ev' C' R' w') := fun _ _ _ _ k => h.unbox k
  obtain ⟨b0, b1, b2⟩ := blk_three hB
  have HBB : Hid (∀ C' ss' ev' D' R' w', Mid (fun k => X k ∨ k = w.heap.size) (w.alloc (actO d i v)) g gx C' ss' ev' D' R' w' → w'.cell? ⟨w.heap.size, 0, none⟩ = some (.int .u8 (d : Nat)) ∧ w'.cell? ⟨w.heap.size, 1, none⟩ = some (.int .i64 i) ∧ w'.cell? ⟨w.heap.size, 2, none⟩ = some (.int .i64 v)) := fun _ _ _ _ _ _ k => blk_three (k.blk (.inr rfl) hB)
  obtain ⟨AC, cC, A, c, hh, _, _⟩ := hb.snd fun H hx => hx.heads
  obtain ⟨q0, q1⟩ := hh _ (Below.refl _ _)
  have HF := Lib.hid hf
  have hC := hf.high
  have hR := hf.n
  have hdI : (d : Int) % 8 = 5 := by omega
  have hu := hb.snd fun H h => ref_undo_out h hi
  have hu2 := hb.fst fun F h => tf_undo_out h i (by rw [sn_len]; exact hi)
  have HB := Lib.hid hb
  clear h hB hh hb hf hi
  go_enter Try.func18, Try.ntmps18
  go_wp2_with fail
  refine hu.mono ?_
  rintro e w2 ⟨rfl, rfl⟩
  clear hu
  go_wp2_with fail
  refine hu2.mono ?_
  rintro e w3 ⟨rfl, hb3⟩
  have H3 := Lib.hid (HB.out.below hb3)
  clear hu2 b0 b1 b2 q0 q1 hb3
  go_wp2_with fail
  go_ret
  exact ⟨rfl, _, _, ev, HU.out _ _ _ _ H3.out, HF.out, Nat.le_succ _⟩
set_option maxHeartbeats 4000000 in
theorem do_forget (h : Mid X w0 g gx C (sn R) ev C R w) (hf : Fit lo C R) (hev : ev ≤ 1000000) (d : Nat) (i v : Int) (hd : d % 8 = 7) (k : Nat) (hi : i = k) (x : RR) (hx : R[k]? = some x) :
    Calls Try.prog 18 #[.pointer (some ⟨g, 0, none⟩), .pointer (some ⟨gx, 0, none⟩), actV d i v] w (Done lo X w0 g gx ev) := by
  have hb := h.box (actO d i v)
  have hB : Blk (w.alloc (actO d i v)) w.heap.size 42 #[.int .u8 (d : Nat), .int .i64 i, .int .i64 v] := Blk.new _ _ _
  have HU : Hid (∀ C' R' ev' w', Mid (fun k => X k ∨ k = w.heap.size) (w.alloc (actO d i v)) g gx C' (sn R') ev' C' R' w' → Mid X w0 g gx C' (sn R') ev' C' R' w') := fun _ _ _ _ k => h.unbox k
  obtain ⟨b0, b1, b2⟩ := blk_three hB
  have HBB : Hid (∀ C' ss' ev' D' R' w', Mid (fun k => X k ∨ k = w.heap.size) (w.alloc (actO d i v)) g gx C' ss' ev' D' R' w' → w'.cell? ⟨w.heap.size, 0, none⟩ = some (.int .u8 (d : Nat)) ∧ w'.cell? ⟨w.heap.size, 1, none⟩ = some (.int .i64 i) ∧ w'.cell? ⟨w.heap.size, 2, none⟩ = some (.int .i64 v)) := fun _ _ _ _ _ _ k => blk_three (k.blk (.inr rfl) hB)
  obtain ⟨AC, cC, A, c, hh, _, _⟩ := hb.snd fun H hx => hx.heads
  obtain ⟨q0, q1⟩ := hh _ (Below.refl _ _)
  have HF := Lib.hid hf
  have hC := hf.high
  have hR := hf.n
  have hdI : (d : Int) % 8 = 7 := by omega
  have hk := get_lt hx
  have hkl : (sn (R.take k)).length = k := by rw [sn_len, List.length_take]; omega
  have hu := hb.two (ι := Unit) (D' := fun _ => C) (R' := fun _ => R.take k) (fun H h => (ref_forget h hk).mono fun e w' h => ⟨h.1, (), h.2⟩)
  have HU2 : Hid (∀ w2, Mid (fun k => X k ∨ k = w.heap.size) (w.alloc (actO d i v)) g gx C (sn R) ev C (R.take k) w2 → Calls Try.prog 23 #[.pointer (some ⟨g, 0, none⟩), .int .i64 k] w2 fun e w' => e = .returned (.int .i64 0) ∧ Mid (fun k => X k ∨ k = w.heap.size) (w.alloc (actO d i v)) g gx C (sn (R.take k)) ev C (R.take k) w') := fun w2 h2 =>
    h2.one fun F h => by
      have := tf_forget h (sn_at hx) (by omega) (by rw [sn_len]; omega)
      rwa [hkl] at this
  subst hi
  clear h hB hh hb hf hx hkl hk
  go_enter Try.func18, Try.ntmps18
  go_wp2_with fail
  refine hu.mono ?_
  rintro e w2 ⟨rfl, _, h2⟩
  clear hu
  obtain ⟨c0, c1, c2⟩ := HBB.out _ _ _ _ _ _ h2
  have hu2 := HU2.out w2 h2
  clear h2 b0 b1 b2 q0 q1
  go_wp2_with fail
  refine hu2.mono ?_
  rintro e w3 ⟨rfl, h3⟩
  clear hu2 c0 c1 c2
  have H3 := Lib.hid h3
  clear h3
  go_wp2_with fail
  go_ret
  exact ⟨rfl, _, _, ev, HU.out _ _ _ _ H3.out, HF.out.take k, Nat.le_succ _⟩
set_option maxHeartbeats 4000000 in
theorem do_forget_out (h : Mid X w0 g gx C (sn R) ev C R w) (hf : Fit lo C R) (hev : ev ≤ 1000000) (d : Nat) (i v : Int) (hd : d % 8 = 7) (hi : ¬ (0 ≤ i ∧ i < R.length)) :
    Calls Try.prog 18 #[.pointer (some ⟨g, 0, none⟩), .pointer (some ⟨gx, 0, none⟩), actV d i v] w (Done lo X w0 g gx ev) := by
  have hb := h.box (actO d i v)
  have hB : Blk (w.alloc (actO d i v)) w.heap.size 42 #[.int .u8 (d : Nat), .int .i64 i, .int .i64 v] := Blk.new _ _ _
  have HU : Hid (∀ C' R' ev' w', Mid (fun k => X k ∨ k = w.heap.size) (w.alloc (actO d i v)) g gx C' (sn R') ev' C' R' w' → Mid X w0 g gx C' (sn R') ev' C' R' w') := fun _ _ _ _ k => h.unbox k
  obtain ⟨b0, b1, b2⟩ := blk_three hB
  have HBB : Hid (∀ C' ss' ev' D' R' w', Mid (fun k => X k ∨ k = w.heap.size) (w.alloc (actO d i v)) g gx C' ss' ev' D' R' w' → w'.cell? ⟨w.heap.size, 0, none⟩ = some (.int .u8 (d : Nat)) ∧ w'.cell? ⟨w.heap.size, 1, none⟩ = some (.int .i64 i) ∧ w'.cell? ⟨w.heap.size, 2, none⟩ = some (.int .i64 v)) := fun _ _ _ _ _ _ k => blk_three (k.blk (.inr rfl) hB)
  obtain ⟨AC, cC, A, c, hh, _, _⟩ := hb.snd fun H hx => hx.heads
  obtain ⟨q0, q1⟩ := hh _ (Below.refl _ _)
  have HF := Lib.hid hf
  have hC := hf.high
  have hR := hf.n
  have hdI : (d : Int) % 8 = 7 := by omega
  have hu := hb.snd fun H h => ref_forget_out h hi
  have hu2 := hb.fst fun F h => tf_forget_out h i (by rw [sn_len]; exact hi)
  have HB := Lib.hid hb
  clear h hB hh hb hf hi
  go_enter Try.func18, Try.ntmps18
  go_wp2_with fail
  refine hu.mono ?_
  rintro e w2 ⟨rfl, rfl⟩
  clear hu
  go_wp2_with fail
  refine hu2.mono ?_
  rintro e w3 ⟨rfl, rfl⟩
  clear hu2 b0 b1 b2 q0 q1
  go_wp2_with fail
  go_ret
  exact ⟨rfl, _, _, ev, HU.out _ _ _ _ HB.out, HF.out, Nat.le_succ _⟩
set_option maxHeartbeats 4000000 in
theorem do_set (h : Mid X w0 g gx C (sn R) ev C R w) (hf : Fit lo C R) (hev : ev ≤ 1000000) (d : Nat) (i v : Int) (hd : d % 8 < 4) (k : Nat) (hi : i = k) (hk : k < C.length) :
    Calls Try.prog 18 #[.pointer (some ⟨g, 0, none⟩), .pointer (some ⟨gx, 0, none⟩), actV d i v] w (Done lo X w0 g gx ev) := by
  have hb := h.box (actO d i v)
  have hB : Blk (w.alloc (actO d i v)) w.heap.size 42 #[.int .u8 (d : Nat), .int .i64 i, .int .i64 v] := Blk.new _ _ _
  have HU : Hid (∀ C' R' ev' w', Mid (fun k => X k ∨ k = w.heap.size) (w.alloc (actO d i v)) g gx C' (sn R') ev' C' R' w' → Mid X w0 g gx C' (sn R') ev' C' R' w') := fun _ _ _ _ k => h.unbox k
  obtain ⟨b0, b1, b2⟩ := blk_three hB
  have HBB : Hid (∀ C' ss' ev' D' R' w', Mid (fun k => X k ∨ k = w.heap.size) (w.alloc (actO d i v)) g gx C' ss' ev' D' R' w' → w'.cell? ⟨w.heap.size, 0, none⟩ = some (.int .u8 (d : Nat)) ∧ w'.cell? ⟨w.heap.size, 1, none⟩ = some (.int .i64 i) ∧ w'.cell? ⟨w.heap.size, 2, none⟩ = some (.int .i64 v)) := fun _ _ _ _ _ _ k => blk_three (k.blk (.inr rfl) hB)
  obtain ⟨AC, cC, A, c, hh, _, _⟩ := hb.snd fun H hx => hx.heads
  obtain ⟨q0, q1⟩ := hh _ (Below.refl _ _)
  have HF := Lib.hid hf
  have hC := hf.high
  have hR := hf.n
  obtain ⟨z, hz⟩ : ∃ z, d % 8 = z := ⟨_, rfl⟩
  have hdI : (d : Int) % 8 = (z : Int) := by omega
  have z4 : ((z : Int) == 4) = false := by simp; omega
  have z5 : ((z : Int) == 5) = false := by simp; omega
  have z6 : ((z : Int) == 6) = false := by simp; omega
  have z7 : ((z : Int) == 7) = false := by simp; omega
  have hs := hb.one fun F h => tf_set h k v hk (by omega) (by rw [sn_len]; omega)
  have HS : Hid (∀ w2, Mid (fun k => X k ∨ k = w.heap.size) (w.alloc (actO d i v)) g gx (C.set k v) (sn R) ev C R w2 → ∃ r cC A c, w2.cell? ⟨gx, 0, none⟩ = some (.slice (some ⟨r, 0, none⟩) C.length cC) ∧ w2.cell? ⟨gx, 1, none⟩ = some (.slice A R.length c) ∧ w2.frozen? ⟨r, k, none⟩ = false ∧ (∃ u, w2.cell? ⟨r, k, none⟩ = some u) ∧ ∀ m, Mid (fun k => X k ∨ k = w.heap.size) (w.alloc (actO d i v)) g gx (C.set k v) (sn R) ev (C.set k v) R ((w2.drewN m).setCell ⟨r, k, none⟩ (.int .i64 v))) := fun w2 h2 => by
    obtain ⟨AC, cC, A, c, hbk⟩ := h2.snd fun H h => h.blk
    obtain ⟨r, rfl, k1, k2⟩ : ∃ r, AC = some ⟨r, 0, none⟩ ∧ w2.frozen? ⟨r, k, none⟩ = false ∧ (∃ u, w2.cell? ⟨r, k, none⟩ = some u) := h2.snd fun H h => by
      obtain ⟨r, e, k1, k2, _⟩ := h.told hk hbk
      exact ⟨r, e, k1, k2⟩
    refine ⟨r, cC, A, c, hbk.cell 0, hbk.cell 1, k1, k2, fun m => (h2.below (below_drewN (Below.refl _ _) m)).put fun H h => ?_⟩
    obtain ⟨r', e, _, _, k3⟩ := h.told hk (hbk.under (below_drewN (Below.refl _ _) m))
    injection e with e
    injection e with e
    subst e
    exact k3 v
  obtain ⟨n, hn⟩ : ∃ n, C.length = n := ⟨_, rfl⟩
  rw [Hid, hn] at HS
  rw [hn] at q0 hk hC
  have HS' := Lib.hid HS
  have kI : (0 : Int) ≤ (k : Int) := Int.natCast_nonneg _
  have kn : (k : Int) < (n : Int) := by omega
  have k0B : decide ((k : Int) < 0) = false := decide_eq_false (by omega)
  have knI : decide ((n : Int) ≤ (k : Int)) = false := decide_eq_false (by omega)
  have knB : decide (n ≤ k) = false := decide_eq_false (by omega)
  subst hi
  clear h hB hh hb hf hz hn HS
  go_enter Try.func18, Try.ntmps18
  go_wp2_with fail
  refine hs.mono ?_
  rintro e w2 ⟨rfl, h2⟩
  clear hs
  obtain ⟨c0, c1, c2⟩ := HBB.out _ _ _ _ _ _ h2
  obtain ⟨r, cC', A', c', p0, p1, p2, ⟨u, p3⟩, h3⟩ := HS'.out w2 h2
  have H3 := Lib.hid h3
  clear h2 b0 b1 b2 q0 q1 h3
  go_wp2_with fail
  go_quiet (fail)
  go_wp2_with fail
  go_region_law (fail)
  all_goals
    go_wp2_with fail
    go_ret
    exact ⟨rfl, _, _, ev, HU.out _ _ _ _ (H3.out _), HF.out.set k v, Nat.le_succ _⟩
set_option maxHeartbeats 4000000 in
theorem do_set_out (h : Mid X w0 g gx C (sn R) ev C R w) (hf : Fit lo C R) (hev : ev ≤ 1000000) (d : Nat) (i v : Int) (hd : d % 8 < 4) (hi : ¬ (0 ≤ i ∧ i < C.length)) :
    Calls Try.prog 18 #[.pointer (some ⟨g, 0, none⟩), .pointer (some ⟨gx, 0, none⟩), actV d i v] w (Done lo X w0 g gx ev) := by
  have hb := h.box (actO d i v)
  have hB : Blk (w.alloc (actO d i v)) w.heap.size 42 #[.int .u8 (d : Nat), .int .i64 i, .int .i64 v] := Blk.new _ _ _
  have HU : Hid (∀ C' R' ev' w', Mid (fun k => X k ∨ k = w.heap.size) (w.alloc (actO d i v)) g gx C' (sn R') ev' C' R' w' → Mid X w0 g gx C' (sn R') ev' C' R' w') := fun _ _ _ _ k => h.unbox k
  obtain ⟨b0, b1, b2⟩ := blk_three hB
  have HBB : Hid (∀ C' ss' ev' D' R' w', Mid (fun k => X k ∨ k = w.heap.size) (w.alloc (actO d i v)) g gx C' ss' ev' D' R' w' → w'.cell? ⟨w.heap.size, 0, none⟩ = some (.int .u8 (d : Nat)) ∧ w'.cell? ⟨w.heap.size, 1, none⟩ = some (.int .i64 i) ∧ w'.cell? ⟨w.heap.size, 2, none⟩ = some (.int .i64 v)) := fun _ _ _ _ _ _ k => blk_three (k.blk (.inr rfl) hB)
  obtain ⟨AC, cC, A, c, hh, _, _⟩ := hb.snd fun H hx => hx.heads
  obtain ⟨q0, q1⟩ := hh _ (Below.refl _ _)
  have HF := Lib.hid hf
  have hC := hf.high
  have hR := hf.n
  obtain ⟨z, hz⟩ : ∃ z, d % 8 = z := ⟨_, rfl⟩
  have hdI : (d : Int) % 8 = (z : Int) := by omega
  have z4 : ((z : Int) == 4) = false := by simp; omega
  have z5 : ((z : Int) == 5) = false := by simp; omega
  have z6 : ((z : Int) == 6) = false := by simp; omega
  have z7 : ((z : Int) == 7) = false := by simp; omega
  have hs := hb.fst fun F h => tf_set_out h i v hi
  have HB := Lib.hid hb
  obtain ⟨n, hn⟩ : ∃ n, C.length = n := ⟨_, rfl⟩
  rw [hn] at q0 hi hC
  clear h hB hh hb hf hz hn
  go_enter Try.func18, Try.ntmps18
  by_cases h0 : i < 0
  · have h0B : decide (i < 0) = true := decide_eq_true h0
    go_wp2_with fail
    refine hs.mono ?_
    rintro e w2 ⟨rfl, rfl⟩
    clear hs
    go_wp2_with fail
    go_quiet (fail)
    go_wp2_with fail
    go_ret
    exact ⟨rfl, _, _, ev, HU.out _ _ _ _ (HB.out.below (below_drewN (Below.refl _ _) _)), HF.out, Nat.le_succ _⟩
  · have h1 : (n : Int) ≤ i := by omega
    have h0B : decide (i < 0) = false := decide_eq_false h0
    have h1B : decide ((n : Int) ≤ i) = true := decide_eq_true h1
    go_wp2_with fail
    refine hs.mono ?_
    rintro e w2 ⟨rfl, rfl⟩
    clear hs
    go_wp2_with fail
    go_quiet (fail)
    go_wp2_with fail
    go_ret
    exact ⟨rfl, _, _, ev, HU.out _ _ _ _ (HB.out.below (below_drewN (Below.refl _ _) _)), HF.out, Nat.le_succ _⟩
set_option maxHeartbeats 4000000 in
theorem do_grow (h : Mid X w0 g gx C (sn R) ev C R w) (hf : Fit lo C R) (hev : ev ≤ 1000000) (d : Nat) (i v : Int) (hd : d % 8 = 6) :
    Calls Try.prog 18 #[.pointer (some ⟨g, 0, none⟩), .pointer (some ⟨gx, 0, none⟩), actV d i v] w (Done lo X w0 g gx ev) := by
  have hb := h.box (actO d i v)
  have hB : Blk (w.alloc (actO d i v)) w.heap.size 42 #[.int .u8 (d : Nat), .int .i64 i, .int .i64 v] := Blk.new _ _ _
  have HU : Hid (∀ C' R' ev' w', Mid (fun k => X k ∨ k = w.heap.size) (w.alloc (actO d i v)) g gx C' (sn R') ev' C' R' w' → Mid X w0 g gx C' (sn R') ev' C' R' w') := fun _ _ _ _ k => h.unbox k
  obtain ⟨b0, b1, b2⟩ := blk_three hB
  have HBB : Hid (∀ C' ss' ev' D' R' w', Mid (fun k => X k ∨ k = w.heap.size) (w.alloc (actO d i v)) g gx C' ss' ev' D' R' w' → w'.cell? ⟨w.heap.size, 0, none⟩ = some (.int .u8 (d : Nat)) ∧ w'.cell? ⟨w.heap.size, 1, none⟩ = some (.int .i64 i) ∧ w'.cell? ⟨w.heap.size, 2, none⟩ = some (.int .i64 v)) := fun _ _ _ _ _ _ k => blk_three (k.blk (.inr rfl) hB)
  obtain ⟨AC, cC, A, c, hh, _, _⟩ := hb.snd fun H hx => hx.heads
  obtain ⟨q0, q1⟩ := hh _ (Below.refl _ _)
  have HF := Lib.hid hf
  have hC := hf.high
  have hR := hf.n
  obtain ⟨z, hz⟩ : ∃ z, d % 8 = z := ⟨_, rfl⟩
  have hdI : (d : Int) % 8 = (z : Int) := by omega
  have z4 : ((z : Int) == 4) = false := by simp; omega
  have z5 : ((z : Int) == 5) = false := by simp; omega
  have z6 : ((z : Int) == 6) = true := by simp; omega
  clear hd hz
  obtain ⟨i0, hi0, hz0, hz1, hz2⟩ := info_parts infoL
  obtain ⟨n, hn⟩ : ∃ n : Int, (if (5 : Int) < i then 5 else i) = n := ⟨_, rfl⟩
  have hn5 : n ≤ 5 := by rw [← hn]; split <;> omega
  obtain ⟨N, hN⟩ : ∃ N : Nat, (if n < 0 then (0 : Int) else n) = N := ⟨n.toNat, by split <;> omega⟩
  have hNn : n.toNat = N := by split at hN <;> omega
  have hN5 : N ≤ 5 := by omega
  have HG : Hid (∀ w2 D, Mid (fun k => X k ∨ k = w.heap.size) (w.alloc (actO d i v)) g gx C (sn R) ev D R w2 → Calls Try.prog 21 #[.pointer (some ⟨g, 0, none⟩), .int .i64 n] w2 fun e w' => e = .returned (.int .i64 C.length) ∧ Mid (fun k => X k ∨ k = w.heap.size) (w.alloc (actO d i v)) g gx (C ++ List.replicate N 0) (sn R) ev D R w') := fun w2 D h2 =>
    h2.one fun F h => by
      have := tf_grow h n (by omega) (by omega)
      rwa [hNn] at this
  have HM : Hid (C.length < 60 → Fit lo (C ++ List.replicate N 0) R) := fun hc => hf.more hc hN5
  have HB := Lib.hid hb
  obtain ⟨q, hq⟩ : ∃ q, C.length = q := ⟨_, rfl⟩
  rw [Hid, hq] at HG HM
  rw [hq] at q0 hC
  have HG' := Lib.hid HG
  have HM' := Lib.hid HM
  have HQ := Lib.hid hq
  have HI0 := Lib.hid hi0
  have HZ0 := Lib.hid hz0
  have HZ1 := Lib.hid hz1
  have HZ2 := Lib.hid hz2
  clear h hB hh hb hf hNn HG HM hq hi0 hz0 hz1 hz2
  go_enter Try.func18, Try.ntmps18
  by_cases hc : q < 60
  · have hcB : decide ((q : Int) < 60) = true := decide_eq_true (by omega)
    go_wp2_with fail
    go_loopw [103] (fun kv wr => ∃ (j : Nat), kv = .int .i64 j ∧ j ≤ N ∧ Mid (fun k => X k ∨ k = w.heap.size) (w.alloc (actO d i v)) g gx C (sn R) ev (C ++ List.replicate j 0) R wr) (fun kv _ => N - (intOf kv).toNat)
    case atStart => exact ⟨0, rfl, Nat.zero_le _, by rw [List.replicate_zero, List.append_nil]; exact HB.out⟩
    case round =>
      have HC60 := Lib.hid hc
      clear hdI hc
      obtain ⟨j, rfl, hj, ht⟩ := hrel
      by_cases hlt : j < N
      · obtain ⟨AC', cC', A', c', hbk⟩ := ht.snd fun H h => h.blk
        have hown := ht.snd fun H h => (h.parts hbk).2.1
        have HT := Lib.hid ht
        have HBK := Lib.hid hbk
        obtain ⟨l, hl⟩ : ∃ l, (C ++ List.replicate j 0).length = l := ⟨_, rfl⟩
        have hl60 : l ≤ 70 := by rw [← hl, List.length_append, List.length_replicate, HQ.out]; have := HC60.out; omega
        rw [hl] at hown
        have ho1 := own_under hown (bone wr (.cells #[.int .i64 0] 2))
        have hr1 : Reads (wr.alloc (.cells #[.int .i64 0] 2)) (wr.alloc (.cells #[.int .i64 0] 2)).heap.size 1 (some ⟨wr.heap.size, 0, none⟩) 1 [.int .i64 0] := reads_block (t := 2) (heap_alloc_new _ _) rfl
        have e0 : wr.cell? ⟨gx, 0, none⟩ = some (.slice AC' l cC') := by rw [← hl]; exact hbk.cell 0
        have HL := Lib.hid hl
        have HNE : Hid (∀ w4, (wr.alloc (.cells #[.int .i64 0] 2)).grownBy w4 (Value.slice AC' l cC').ownBlock → w4.cell? ⟨gx, 0, none⟩ = some (.slice AC' l cC') ∧ w4.frozen? ⟨gx, 0, none⟩ = false) := fun w4 hg => by
          have := (hbk.under (bone wr (.cells #[.int .i64 0] 2))).grown hg fun e => own_blk_ne hown hbk (by decide) e.symm
          exact ⟨by rw [← hl]; exact this.cell 0, this.frozen 0⟩
        clear ht hbk hl hown
        go_wp2_with (first
          | (at_builtin; refine wpList_append_any _ rfl (.tmp 109) (.tmp 110) _ rfl 0 2 i0 _ 1 8 Try.underlying22 HI0.out HZ0.out HZ1.out HZ2.out rfl (by omega) (.slice AC' l cC') l _ rfl ho1 _ _ 1 1 [.int .i64 0] rfl hr1 (fun u hu => by simp at hu; subst hu; rfl) (by simp only [maxLen]; omega) (by omega) (Nat.zero_le _) ?_; intro v4 w4 hown4 hg4 hat4; obtain ⟨A4, c4, rfl⟩ := own_shape hown4; obtain ⟨f0, f1⟩ := HNE.out w4 hg4; have HO4 := Lib.hid hown4; have HG4 := Lib.hid hg4; have HAT4 := Lib.hid hat4; clear hown4 hg4 hat4 ho1 hr1)
          | fail)
        have hnew : Hid (Mid (fun k => X k ∨ k = w.heap.size) (w.alloc (actO d i v)) g gx C (sn R) ev (C ++ List.replicate (j + 1) 0) R (w4.setCell ⟨gx, 0, none⟩ (.slice A4 (l + 1) c4))) := by
          have hlen : (C ++ List.replicate (j + 1) (0 : Int)).length = l + 1 := by rw [← HL.out]; simp; omega
          have hap : nums (C ++ List.replicate (j + 1) 0) = nums (C ++ List.replicate j 0) ++ [.int .i64 0] := by
            rw [List.replicate_succ', ← List.append_assoc]; simp [nums]
          have := HT.out.put (w' := w4.setCell ⟨gx, 0, none⟩ (.slice A4 (l + 1) c4)) fun H h => h.more HBK.out (bone wr (.cells #[.int .i64 0] 2)) (D := C ++ List.replicate (j + 1) 0) (by rw [hlen, hap]; exact HO4.out) (by rw [HL.out]; exact HG4.out) (by rw [HL.out]; exact HAT4.out)
          exact this
        clear HO4 HG4 HAT4 HT HBK HNE
        go_wp2_with fail
        go_roundw
        case rel => exact ⟨j + 1, by go_num, by omega, hnew.out⟩
        case measure => simp [intOf]; omega
      · obtain rfl : N = j := by omega
        have hg := HG'.out wr _ ht
        clear ht hlt
        go_wp2_with fail
        refine hg.mono ?_
        rintro e w5 ⟨rfl, h5⟩
        have H5 := Lib.hid h5
        clear h5 hg
        go_wp2_with fail
        go_ret
        exact ⟨rfl, _, _, ev, HU.out _ _ _ _ H5.out, HM'.out HC60.out, Nat.le_succ _⟩
  · go_wp2_with fail
    go_ret
    exact ⟨rfl, C, R, ev, HU.out _ _ _ _ HB.out, HF.out, Nat.le_succ _⟩
/-- one act on both is alike -/
theorem do_any (h : Mid X w0 g gx C (sn R) ev C R w) (hf : Fit lo C R) (hev : ev ≤ 1000000) (d : Nat) (i v : Int) :
    Calls Try.prog 18 #[.pointer (some ⟨g, 0, none⟩), .pointer (some ⟨gx, 0, none⟩), actV d i v] w (Done lo X w0 g gx ev) := by
  by_cases h4 : d % 8 = 4
  · exact do_mark h hf hev d i v h4
  by_cases h5 : d % 8 = 5
  · by_cases hi : 0 ≤ i ∧ i < R.length
    · have hk : i.toNat < R.length := by omega
      exact do_undo h hf hev d i v h5 i.toNat (by omega) _ (List.getElem?_eq_getElem hk)
    · exact do_undo_out h hf hev d i v h5 hi
  by_cases h6 : d % 8 = 6
  · exact do_grow h hf hev d i v h6
  by_cases h7 : d % 8 = 7
  · by_cases hi : 0 ≤ i ∧ i < R.length
    · have hk : i.toNat < R.length := by omega
      exact do_forget h hf hev d i v h7 i.toNat (by omega) _ (List.getElem?_eq_getElem hk)
    · exact do_forget_out h hf hev d i v h7 hi
  have hd : d % 8 < 4 := by omega
  by_cases hi : 0 ≤ i ∧ i < C.length
  · exact do_set h hf hev d i v hd i.toNat (by omega) (by omega)
  · exact do_set_out h hf hev d i v hd hi
end Go.Proofs.Ytgojncgdmcpkiaa.trl
