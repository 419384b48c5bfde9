/- Contracts of the weights that are there: Of, Bump, Decay, Sum; sums and products that are the same, or both none. -/
import Derived.Test.YtnnlkjbnonkjmaaWtCon
import Derived.Test.YtnnlkjbnonkjmaaFloDiv
namespace Go.Proofs.Ytnnlkjbnonkjmaa.flo
open Go Go.ChangeShapes Go.WideShapes Go.ChangeAt Go.RowKit Go.Proofs.Ytnnlkjbnonkjmaa.words
open Ieee
set_option linter.unusedVariables false
theorem run_store_float {P : Program} {w : World} {a : Addr} {m : Mode} (k : FloatKind) (n : Nat) : (store a (.float k n) m).run P w = stored P w a (.float k n) m := run_store P w a _ m rfl
attribute [local go_sem] run_store_float
/-- the same, to the last bit, or both none -/
def Same (a b : Nat) : Prop := a = b ∨ (key a = none ∧ key b = none)
theorem Same.refl (a : Nat) : Same a a := .inl rfl
/-- what an operation on floats leaves -/
def opF (op : BinOp) (x y r : Nat) : Prop := floatBits op .f64 x y = some r ∨ (floatBits op .f64 x y = none ∧ key r = none)
theorem run_op (P : Program) (op : BinOp) (hop : op = .add ∨ op = .mul ∨ op = .quo) (t : TypeId) (x y : Nat) (w : World) : ∃ r W, (binOp op t (.float .f64 x) (.float .f64 y)).run P w = .ok (.float .f64 r) W ∧ (W = w ∨ W = w.drew) ∧ opF op x y r := by
  cases h : floatBits op .f64 x y with
  | some r => exact ⟨r, w, run_float_arith (P := P) w op t .f64 x y r h, .inl rfl, .inl h⟩
  | none => exact ⟨nanOf w x y, w.drew, run_float_nan P w op t x y hop h, .inr rfl, .inr ⟨h, key_nan w x y⟩⟩
theorem read_none {a : Nat} (h : key a = none) : ∃ s f, double.read a = .nan s f := by
  unfold key at h
  cases hr : double.read a with
  | nan s f => exact ⟨s, f, rfl⟩
  | infinity s => rw [hr] at h; cases h
  | number s m p => rw [hr] at h; cases h
theorem add_none_l {a b : Nat} (h : key a = none) : floatBits .add .f64 a b = none := by
  obtain ⟨s, f, hr⟩ := read_none h
  show double.add a b = none
  unfold Format.add
  rw [hr]
  cases double.read b <;> rfl
theorem add_none_r {a b : Nat} (h : key b = none) : floatBits .add .f64 a b = none := by
  obtain ⟨s, f, hr⟩ := read_none h
  show double.add a b = none
  unfold Format.add
  rw [hr]
  cases double.read a <;> rfl
theorem mul_none_l {a b : Nat} (h : key a = none) : floatBits .mul .f64 a b = none := by
  obtain ⟨s, f, hr⟩ := read_none h
  show double.mul a b = none
  unfold Format.mul
  rw [hr]
  cases double.read b <;> rfl
theorem add_same {a a' b b' r r' : Nat} (ha : Same a a') (hb : Same b b') (h : opF .add a b r) (h' : opF .add a' b' r') : Same r r' := by
  rcases ha with rfl | ⟨ha, ha'⟩
  · rcases hb with rfl | ⟨hb, hb'⟩
    · rcases h with h | ⟨h, hk⟩
      · rcases h' with h' | ⟨h', _⟩
        · rw [h] at h'; exact .inl (Option.some.inj h')
        · rw [h] at h'; cases h'
      · rcases h' with h' | ⟨h', hk'⟩
        · rw [h] at h'; cases h'
        · exact .inr ⟨hk, hk'⟩
    · rcases h with h | ⟨_, hk⟩
      · rw [add_none_r hb] at h; cases h
      · rcases h' with h' | ⟨_, hk'⟩
        · rw [add_none_r hb'] at h'; cases h'
        · exact .inr ⟨hk, hk'⟩
  · rcases h with h | ⟨_, hk⟩
    · rw [add_none_l ha] at h; cases h
    · rcases h' with h' | ⟨_, hk'⟩
      · rw [add_none_l ha'] at h'; cases h'
      · exact .inr ⟨hk, hk'⟩
theorem mul_same {a a' b r r' : Nat} (ha : Same a a') (h : opF .mul a b r) (h' : opF .mul a' b r') : Same r r' := by
  rcases ha with rfl | ⟨ha, ha'⟩
  · rcases h with h | ⟨h, hk⟩
    · rcases h' with h' | ⟨h', _⟩
      · rw [h] at h'; exact .inl (Option.some.inj h')
      · rw [h] at h'; cases h'
    · rcases h' with h' | ⟨h', hk'⟩
      · rw [h] at h'; cases h'
      · exact .inr ⟨hk, hk'⟩
  · rcases h with h | ⟨_, hk⟩
    · rw [mul_none_l ha] at h; cases h
    · rcases h' with h' | ⟨_, hk'⟩
      · rw [mul_none_l ha'] at h'; cases h'
      · exact .inr ⟨hk, hk'⟩
theorem same_any (a b : Nat) (hs : Same a b) (w : World) : Calls Try.prog 18 #[.float .f64 a, .float .f64 b] w fun e w' => e = .returned (.bool true) ∧ w = w' := by
  rcases hs with rfl | ⟨h1, h2⟩
  · exact same_refl a w
  · have hn1 := fun w => isnan_any 28 (.inr rfl) a w
    have hn2 := fun w => isnan_any 28 (.inr rfl) b w
    rw [h1] at hn1
    rw [h2] at hn2
    clear h1 h2
    go_enter Try.func18, Try.ntmps18
    go_wp2_with (first
      | (go_at_call 28; (with_reducible refine (hn1 _).mono ?_); rintro e w' ⟨rfl, rfl⟩)
      | (go_at_call 28; (with_reducible refine (hn2 _).mono ?_); rintro e w' ⟨rfl, rfl⟩))
    go_ret
    exact ⟨rfl, rfl⟩
def ofF (fs : List Nat) (j : Int) : Nat := if 0 ≤ j then fs.getD j.toNat 0 else 0
theorem of_any (w : World) (B g : Nat) (R : Option Nat) (fs : List Nat) (j : Int) (h : Wt w B g R fs) :
    Calls Try.prog 25 #[.pointer (some ⟨g, 0, none⟩), .int .i64 j] w fun e w' => e = .returned (.float .f64 (ofF fs j)) ∧ w = w' := by
  have hl := fun w h => len_any w B g R fs h
  have hl := hl w h
  obtain ⟨hBg, A, c, hb, ho, hR⟩ := h
  obtain ⟨hc, hf⟩ := Blk.one hb
  obtain ⟨n, hn⟩ : ∃ n, fs.length = n := ⟨_, rfl⟩
  rw [hn] at hl hc
  have HN := Lib.hid hn
  by_cases h0 : 0 ≤ j
  · obtain ⟨i, rfl⟩ := Int.eq_ofNat_of_zero_le h0
    by_cases h1 : i < n
    · rw [hn] at ho
      obtain ⟨ad, x, rfl, _, hx, hcx⟩ := Reads.flt (Reads.of_own ho) h1
      have hv : ofF fs (i : Int) = x := by unfold ofF; rw [if_pos (by omega)]; simp [hx]
      rw [hv]
      clear hv hx ho hn hb hR
      go_enter Try.func25, Try.ntmps25
      go_wp2_with (first
        | (go_at_call 23; (with_reducible refine (hl).mono ?_); rintro e w' ⟨rfl, rfl⟩))
      go_ret
      exact ⟨rfl, rfl⟩
    · have hv : ofF fs (i : Int) = 0 := by unfold ofF; rw [if_pos (by omega)]; simp [List.getElem?_eq_none (show fs.length ≤ i by omega)]
      rw [hv]
      clear hv hn hb ho hR
      go_enter Try.func25, Try.ntmps25
      go_wp2_with (first
        | (go_at_call 23; (with_reducible refine (hl).mono ?_); rintro e w' ⟨rfl, rfl⟩))
      go_ret
      exact ⟨rfl, rfl⟩
  · have hv : ofF fs j = 0 := by unfold ofF; rw [if_neg h0]
    rw [hv]
    clear hv hn hb ho hR
    go_enter Try.func25, Try.ntmps25
    go_wp2_with (first
      | (go_at_call 23; (with_reducible refine (hl).mono ?_); rintro e w' ⟨rfl, rfl⟩))
    go_ret
    exact ⟨rfl, rfl⟩
theorem flts_set (fs : List Nat) (i x : Nat) : (flts fs).set i (.float .f64 x) = flts (fs.set i x) := by unfold flts; rw [List.map_set]
/-- a weight is turned -/
theorem Wt.put {w : World} {B g i x : Nat} {R : Option Nat} {fs : List Nat} (h : Wt w B g R fs) (hi : i < fs.length) (W : World) (hW : W = w ∨ W = w.drew) : ∃ r c, w.cell? ⟨g, 0, none⟩ = some (.slice (some ⟨r, 0, none⟩) fs.length c) ∧ w.cell? ⟨r, i, none⟩ = some (.float .f64 (fs.getD i 0)) ∧ w.frozen? ⟨r, i, none⟩ = false ∧
    Wt (W.setCell ⟨r, i, none⟩ (.float .f64 x)) B g R (fs.set i x) ∧ Tch w (W.setCell ⟨r, i, none⟩ (.float .f64 x)) (Tw g R) ∧ fs.length ≤ c ∧ R = some r := by
  obtain ⟨hBg, A, c, hb, ho, rfl⟩ := h
  obtain ⟨r, rfl, hr1, hr2⟩ := own_some ho (by omega)
  have hbW : Blk W g 57 #[.slice (some ⟨r, 0, none⟩) fs.length c] := by rcases hW with rfl | rfl <;> exact hb
  have hoW : W.ownsRow B 24 1 (.slice (some ⟨r, 0, none⟩) fs.length c) fs.length (flts fs) := by rcases hW with rfl | rfl <;> exact ho
  have htW : Tch w W (Tw g (Value.slice (some ⟨r, 0, none⟩) fs.length c).ownBlock) := by
    rcases hW with rfl | rfl
    · exact Tch.refl _ _
    · exact (Tch.refl _ _).drew
  have hne : r ≠ g := fun e => own_blk_ne ho hb (by decide) (by rw [e]; rfl)
  refine ⟨r, c, hb.cell 0, ?_, ho.frozenAt i, ⟨hBg, some ⟨r, 0, none⟩, c, ?_, ?_, ?_⟩, ?_, own_cap ho, rfl⟩
  · rw [ho.cellAt i (by omega)]
    unfold flts
    rw [List.getElem?_map, List.getElem?_eq_getElem hi]
    simp [List.getD, List.getElem?_eq_getElem hi]
  · rw [List.length_set]
    exact hbW.far (p := ⟨r, i, none⟩) (fun e => hne e.symm) _
  · rw [List.length_set, ← flts_set]
    exact (hoW.stored i _).1
  · rw [List.length_set]
  · exact htW.put (p := ⟨r, i, none⟩) _ (.inr rfl)
theorem bump_nan (w : World) (B g : Nat) (R : Option Nat) (fs : List Nat) (j : Int) (b : Nat) (h : Wt w B g R fs) (hb : key b = none) :
    Calls Try.prog 22 #[.pointer (some ⟨g, 0, none⟩), .int .i64 j, .float .f64 b] w fun e w' => e = .returned (.int .i64 1) ∧ w = w' := by
  have hn := nan_key b
  rw [hb] at hn
  change (FloatKind.f64.format.order b b != some .eq) = true at hn
  clear hb
  go_enter Try.func22, Try.ntmps22
  go_wp2
  go_ret
  exact ⟨rfl, rfl⟩
theorem bump_out (w : World) (B g : Nat) (R : Option Nat) (fs : List Nat) (j : Int) (b kb : Nat) (kk : Int) (h : Wt w B g R fs) (hb : key b = some kk) (hj : j < 0 ∨ (fs.length : Int) ≤ j) :
    Calls Try.prog 22 #[.pointer (some ⟨g, 0, none⟩), .int .i64 j, .float .f64 b] w fun e w' => e = .returned (.int .i64 3) ∧ w = w' := by
  have hn := nan_key b
  rw [hb] at hn
  change (FloatKind.f64.format.order b b != some .eq) = false at hn
  obtain ⟨hBg, A, c, hbl, ho, hR⟩ := h
  obtain ⟨hc, hf⟩ := Blk.one hbl
  obtain ⟨n, hl⟩ : ∃ n, fs.length = n := ⟨_, rfl⟩
  rw [hl] at hc hj
  clear hb hbl ho hR hl
  by_cases h0 : j < 0
  · go_enter Try.func22, Try.ntmps22
    go_wp2
    go_ret
    exact ⟨rfl, rfl⟩
  · have h1 : (n : Int) ≤ j := by omega
    go_enter Try.func22, Try.ntmps22
    go_wp2
    go_ret
    exact ⟨rfl, rfl⟩
theorem bump_in (w : World) (B g : Nat) (R : Option Nat) (fs : List Nat) (i : Nat) (b : Nat) (kk : Int) (h : Wt w B g R fs) (hb : key b = some kk) (hi : i < fs.length) :
    Calls Try.prog 22 #[.pointer (some ⟨g, 0, none⟩), .int .i64 i, .float .f64 b] w fun e w' => e = .returned (.int .i64 0) ∧ ∃ r, opF .add (fs.getD i 0) b r ∧ Wt w' B g R (fs.set i r) ∧ Tch w w' (Tw g R) := by
  have hn := nan_key b
  rw [hb] at hn
  change (FloatKind.f64.format.order b b != some .eq) = false at hn
  obtain ⟨r, W, hrun, hW, hop⟩ := run_op Try.prog .add (.inl rfl) 24 (fs.getD i 0) b w
  obtain ⟨q, c, hc0, hc1, hfz, hwt, ht, hcap, _⟩ := h.put (x := r) hi W hW
  obtain ⟨n, hl⟩ : ∃ n, fs.length = n := ⟨_, rfl⟩
  obtain ⟨v, hv⟩ : ∃ v, fs.getD i 0 = v := ⟨_, rfl⟩
  rw [hl] at hc0 hi hcap
  rw [hv] at hc1 hrun hop
  have HW := Lib.hid hwt
  have HT := Lib.hid ht
  have HV := Lib.hid hv
  have i0 : (0 : Int) ≤ (i : Int) := Int.natCast_nonneg _
  have i1 : (i : Int) < (n : Int) := by omega
  clear hb h hwt ht hl hv
  rcases hW with rfl | rfl
  · go_enter Try.func22, Try.ntmps22
    go_wp2
    go_ret
    exact ⟨rfl, r, by rw [HV.out]; exact hop, HW.out, HT.out⟩
  · go_enter Try.func22, Try.ntmps22
    go_wp2
    go_ret
    exact ⟨rfl, r, by rw [HV.out]; exact hop, HW.out, HT.out⟩
/-- how a product of all stands -/
def MulTo (fs gs : List Nat) (b j : Nat) : Prop := gs.length = fs.length ∧ (∀ i, i < j → opF .mul (fs.getD i 0) b (gs.getD i 0)) ∧ ∀ i, j ≤ i → gs.getD i 0 = fs.getD i 0
theorem mulTo_zero (fs : List Nat) (b : Nat) : MulTo fs fs b 0 := ⟨rfl, fun i h => absurd h (by omega), fun _ _ => rfl⟩
theorem mulTo_step {fs gs : List Nat} {b j r : Nat} (h : MulTo fs gs b j) (hj : j < fs.length) (hr : opF .mul (gs.getD j 0) b r) : MulTo fs (gs.set j r) b (j + 1) := by
  obtain ⟨h1, h2, h3⟩ := h
  refine ⟨by rw [List.length_set]; exact h1, fun i hi => ?_, fun i hi => ?_⟩
  · by_cases e : i = j
    · subst e
      rw [show (gs.set i r).getD i 0 = r by simp [List.getD, List.getElem?_set, h1, hj], ← h3 i (Nat.le_refl _)]
      exact hr
    · rw [show (gs.set j r).getD i 0 = gs.getD i 0 by simp [List.getD, List.getElem?_set, Ne.symm e]]
      exact h2 i (by omega)
  · rw [show (gs.set j r).getD i 0 = gs.getD i 0 by simp [List.getD, List.getElem?_set, show j ≠ i by omega]]
    exact h3 i (by omega)
set_option maxHeartbeats 1000000 in
theorem decay_any (w : World) (B g : Nat) (R : Option Nat) (fs : List Nat) (b : Nat) (h : Wt w B g R fs) (hn : fs.length ≤ 1000000) :
    Calls Try.prog 20 #[.pointer (some ⟨g, 0, none⟩), .float .f64 b] w fun e w' => e = .returned (.tuple #[]) ∧ ∃ gs, MulTo fs gs b fs.length ∧ Wt w' B g R gs ∧ Tch w w' (Tw g R) := by
  have hl := len_any w B g R fs h
  obtain ⟨n, hnl⟩ : ∃ n, fs.length = n := ⟨_, rfl⟩
  rw [hnl] at hl hn
  have HN := Lib.hid hnl
  rw [hnl]
  clear hnl
  go_enter Try.func20, Try.ntmps20
  go_wp2_with (first
    | (go_at_call 23; (with_reducible refine (hl).mono ?_); rintro e w' ⟨rfl, rfl⟩))
  clear hl
  go_loopw [7] (fun iv wr => ∃ (j : Nat) (gs : List Nat), j ≤ n ∧ iv = .int .i64 j ∧ MulTo fs gs b j ∧ Wt wr B g R gs ∧ Tch w wr (Tw g R)) (fun iv _ => n - (intOf iv).toNat)
  case atStart => exact ⟨0, fs, by omega, rfl, mulTo_zero _ _, h, Tch.refl _ _⟩
  case round =>
    obtain ⟨j, gs, hj, rfl, hm, hwt, ht⟩ := hrel
    have hgl : gs.length = n := by rw [hm.1, HN.out]
    by_cases hlt : j < n
    · obtain ⟨r, W, hrun, hW, hop⟩ := run_op Try.prog .mul (.inr (.inl rfl)) 24 (gs.getD j 0) b wr
      obtain ⟨q, c, hc0, hc1, hfz, hwt2, ht2, hcap, _⟩ := hwt.put (i := j) (x := r) (by omega) W hW
      have HM := Lib.hid (mulTo_step hm (by rw [HN.out]; exact hlt) hop)
      obtain ⟨v, hv⟩ : ∃ v, gs.getD j 0 = v := ⟨_, rfl⟩
      rw [hgl] at hc0 hcap
      rw [hv] at hc1 hrun
      have HW := Lib.hid hwt2
      have HT := Lib.hid (ht.trans ht2 fun _ _ h => h)
      have i0 : (0 : Int) ≤ (j : Int) := Int.natCast_nonneg _
      have i1 : (j : Int) < (n : Int) := by omega
      clear hm hwt ht hgl hop hwt2 ht2 hv
      rcases hW with rfl | rfl
      all_goals
        go_wp2
        go_roundw
        case rel => exact ⟨j + 1, gs.set j r, by omega, by go_num, HM.out, HW.out, HT.out⟩
        case measure => simp [intOf]; omega
    · obtain rfl : j = n := by omega
      have HM := Lib.hid hm
      clear hm hgl
      go_wp2
      go_end0
      exact ⟨rfl, gs, HM.out, hwt, ht⟩
/-- how a sum stands -/
inductive SumTo (fs : List Nat) : List Int → Nat → Prop where
  | nil : SumTo fs [] 0
  | snoc {l : List Int} {s r : Nat} (j : Int) (h : SumTo fs l s) (hr : opF .add s (ofF fs j) r) : SumTo fs (l ++ [j]) r
theorem sum_any (w : World) (B g : Nat) (R : Option Nat) (fs : List Nat) (A : Option Addr) (n cap : Nat) (l : List Int) (h : Wt w B g R fs) (hB : B ≤ w.heap.size) (hn : n ≤ 9223372036854775807) (hr : Reads w w.heap.size 1 A n (nums l)) :
    Calls Try.prog 24 #[.pointer (some ⟨g, 0, none⟩), .slice A n cap] w fun e w' => ∃ s, e = .returned (.float .f64 s) ∧ SumTo fs l s ∧ ∃ k, w' = w.drewN k := by
  have hll := nums_len hr
  go_enter Try.func24, Try.ntmps24
  go_wp2_with fail
  go_loopw [5, 10] (fun sv iv wr => ∃ (j s : Nat), j ≤ n ∧ iv = .int .i64 j ∧ sv = .float .f64 s ∧ SumTo fs (l.take j) s ∧ ∃ k, wr = w.drewN k) (fun _ iv _ => n - (intOf iv).toNat)
  case atStart => exact ⟨0, 0, by omega, rfl, rfl, .nil, 0, rfl⟩
  case round =>
    obtain ⟨j, s, hj, rfl, rfl, hs, k, rfl⟩ := hrel
    by_cases hlt : j < n
    · obtain ⟨ad, x, rfl, _, hx, hc⟩ := hr.num hlt
      have hwk : Wt (w.drewN k) B g R fs := h
      have hof := of_any (w.drewN k) B g R fs x hwk
      obtain ⟨r, W, hrun, hW, hop⟩ := run_op Try.prog .add (.inl rfl) 24 s (ofF fs x) (w.drewN k)
      have hs2 := SumTo.snoc x hs hop
      rw [show l.take j ++ [x] = l.take (j + 1) by rw [List.take_add_one, hx]; rfl] at hs2
      have HS := Lib.hid hs2
      have hck : (w.drewN k).cell? (ad.add j) = some (.int .i64 x) := hc
      have hdd : ∃ k3, W = w.drewN k3 := by
        rcases hW with rfl | rfl
        · exact ⟨k, rfl⟩
        · exact ⟨k + 1, rfl⟩
      obtain ⟨k3, rfl⟩ := hdd
      obtain ⟨v, hv⟩ : ∃ v, ofF fs x = v := ⟨_, rfl⟩
      rw [hv] at hof hrun
      have HH := Lib.hid h
      clear hs hx hc hop hs2 hW hwk hv h
      go_wp2_with (first
        | (go_at_call 25; (with_reducible refine (hof).mono ?_); rintro e w' ⟨rfl, rfl⟩))
      go_roundw
      case rel => exact ⟨j + 1, r, by omega, by go_num, rfl, HS.out, _, rfl⟩
      case measure => simp [intOf]; omega
    · obtain rfl : j = n := by omega
      rw [List.take_of_length_le (by omega)] at hs
      go_wp2
      go_ret
      exact ⟨s, rfl, hs, k, rfl⟩
end Go.Proofs.Ytnnlkjbnonkjmaa.flo
