/- Contracts of ratio.Cmp, ratio.First, and of the reference's. -/
import Derived.Test.YtnnlkjbnonkjmaaKeys
import Derived.Test.YtnnlkjbnonkjmaaRows
import Derived.ProofKit
import Derived.OpenShut
namespace Go.Proofs.Ytnnlkjbnonkjmaa.flo
open Go.ChangeShapes Go.WideShapes Go.ChangeAt Go.RowKit Go.Proofs.Ytnnlkjbnonkjmaa.words
set_option linter.unusedVariables false
theorem isnan_any (F : Nat) (hF : F = 29 ∨ F = 28) (a : Nat) (w : World) : Calls Try.prog F #[.float .f64 a] w fun e w' => e = .returned (.bool (key a).isNone) ∧ w = w' := by
  rw [← nan_key]
  rcases hF with rfl | rfl
  · go_enter Try.func29, Try.ntmps29
    go_wp2
    go_ret
    exact ⟨rfl, rfl⟩
  · go_enter Try.func28, Try.ntmps28
    go_wp2
    go_ret
    exact ⟨rfl, rfl⟩
theorem cmp_any (a b : Nat) (w : World) : Calls Try.prog 11 #[.float .f64 a, .float .f64 b] w fun e w' => e = .returned (.int .i64 (cmpK (key a) (key b))) ∧ w = w' := by
  have hl : (FloatKind.f64.format.order a b == some .lt) = _ := lt_key a b
  have hg : (FloatKind.f64.format.order a b == some .gt) = _ := gt_key a b
  have ha := fun w => isnan_any 29 (.inl rfl) a w
  have hb := fun w => isnan_any 29 (.inl rfl) b w
  cases hka : key a with
  | none =>
    rw [hka] at ha
    cases hkb : key b with
    | none =>
      rw [hkb] at hb
      clear hl hg hka hkb
      go_enter Try.func11, Try.ntmps11
      go_wp2_with (first
        | (go_at_call 29; (with_reducible refine (ha _).mono ?_); rintro e w' ⟨rfl, rfl⟩)
        | (go_at_call 29; (with_reducible refine (hb _).mono ?_); rintro e w' ⟨rfl, rfl⟩))
      go_ret
      exact ⟨rfl, rfl⟩
    | some y =>
      rw [hkb] at hb
      clear hl hg hka hkb
      go_enter Try.func11, Try.ntmps11
      go_wp2_with (first
        | (go_at_call 29; (with_reducible refine (ha _).mono ?_); rintro e w' ⟨rfl, rfl⟩)
        | (go_at_call 29; (with_reducible refine (hb _).mono ?_); rintro e w' ⟨rfl, rfl⟩))
      go_ret
      exact ⟨rfl, rfl⟩
  | some x =>
    rw [hka] at ha hl hg
    cases hkb : key b with
    | none =>
      rw [hkb] at hb
      clear hl hg hka hkb
      go_enter Try.func11, Try.ntmps11
      go_wp2_with (first
        | (go_at_call 29; (with_reducible refine (ha _).mono ?_); rintro e w' ⟨rfl, rfl⟩)
        | (go_at_call 29; (with_reducible refine (hb _).mono ?_); rintro e w' ⟨rfl, rfl⟩))
      go_ret
      exact ⟨rfl, rfl⟩
    | some y =>
      rw [hkb] at hb hl hg
      dsimp only at hl hg
      clear hka hkb
      rcases Int.lt_trichotomy x y with h | h | h
      · have e : cmpK (some x) (some y) = -1 := by simp [cmpK, h]
        rw [e]
        rw [decide_eq_true h] at hl
        clear hg e h
        go_enter Try.func11, Try.ntmps11
        go_wp2_with (first
          | (go_at_call 29; (with_reducible refine (ha _).mono ?_); rintro e w' ⟨rfl, rfl⟩)
          | (go_at_call 29; (with_reducible refine (hb _).mono ?_); rintro e w' ⟨rfl, rfl⟩))
        go_ret
        exact ⟨rfl, rfl⟩
      · have e : cmpK (some x) (some y) = 0 := by simp [cmpK, h]
        rw [e]
        rw [decide_eq_false (by omega)] at hl hg
        clear e h
        go_enter Try.func11, Try.ntmps11
        go_wp2_with (first
          | (go_at_call 29; (with_reducible refine (ha _).mono ?_); rintro e w' ⟨rfl, rfl⟩)
          | (go_at_call 29; (with_reducible refine (hb _).mono ?_); rintro e w' ⟨rfl, rfl⟩))
        go_ret
        exact ⟨rfl, rfl⟩
      · have e : cmpK (some x) (some y) = 1 := by simp only [cmpK]; rw [if_neg (by omega), if_pos h]
        rw [e]
        rw [decide_eq_false (by omega)] at hl
        rw [decide_eq_true h] at hg
        clear e h
        go_enter Try.func11, Try.ntmps11
        go_wp2_with (first
          | (go_at_call 29; (with_reducible refine (ha _).mono ?_); rintro e w' ⟨rfl, rfl⟩)
          | (go_at_call 29; (with_reducible refine (hb _).mono ?_); rintro e w' ⟨rfl, rfl⟩))
        go_ret
        exact ⟨rfl, rfl⟩
theorem ahead_any (a b : Nat) (w : World) : Calls Try.prog 10 #[.float .f64 a, .float .f64 b] w fun e w' => e = .returned (.bool (aheadK (key a) (key b))) ∧ w = w' := by
  have hl : (FloatKind.f64.format.order a b == some .lt) = _ := lt_key a b
  have ha := fun w => isnan_any 28 (.inr rfl) a w
  have hb := fun w => isnan_any 28 (.inr rfl) b w
  cases hka : key a with
  | none =>
    rw [hka] at ha
    clear hl hka hb
    go_enter Try.func10, Try.ntmps10
    go_wp2_with (first
      | (go_at_call 28; (with_reducible refine (ha _).mono ?_); rintro e w' ⟨rfl, rfl⟩))
    go_ret
    exact ⟨rfl, rfl⟩
  | some x =>
    rw [hka] at ha hl
    cases hkb : key b with
    | none =>
      rw [hkb] at hb
      clear hl hka hkb
      go_enter Try.func10, Try.ntmps10
      go_wp2_with (first
        | (go_at_call 28; (with_reducible refine (ha _).mono ?_); rintro e w' ⟨rfl, rfl⟩)
        | (go_at_call 28; (with_reducible refine (hb _).mono ?_); rintro e w' ⟨rfl, rfl⟩))
      go_ret
      exact ⟨rfl, rfl⟩
    | some y =>
      rw [hkb] at hb hl
      dsimp only at hl
      clear hka hkb
      go_enter Try.func10, Try.ntmps10
      go_wp2_with (first
        | (go_at_call 28; (with_reducible refine (ha _).mono ?_); rintro e w' ⟨rfl, rfl⟩)
        | (go_at_call 28; (with_reducible refine (hb _).mono ?_); rintro e w' ⟨rfl, rfl⟩))
      go_ret
      exact ⟨rfl, rfl⟩

def flts (l : List Nat) : List Value := l.map (Value.float .f64)
theorem flts_get {xs : List Nat} {k : Nat} {u : Value} (h : (flts xs)[k]? = some u) : ∃ x, xs[k]? = some x ∧ u = .float .f64 x := by
  unfold flts at h; rw [List.getElem?_map] at h
  cases hx : xs[k]? with
  | none => rw [hx] at h; simp at h
  | some x => rw [hx] at h; simp at h; exact ⟨x, rfl, h.symm⟩
theorem flts_one {xs : List Nat} : ∀ u ∈ flts xs, u.oneCell' = true := by
  intro u hu
  unfold flts at hu
  obtain ⟨x, _, rfl⟩ := List.mem_map.1 hu
  rfl
theorem flts_len {w : World} {B n : Nat} {A : Option Addr} {xs : List Nat} (h : Reads w B 1 A n (flts xs)) : xs.length = n := by
  have := h.1; simpa [flts] using this
theorem Reads.flt {w : World} {B n : Nat} {A : Option Addr} {xs : List Nat} (h : Reads w B 1 A n (flts xs)) {k : Nat} (hk : k < n) :
    ∃ ad x, A = some ad ∧ ad.block < B ∧ xs[k]? = some x ∧ w.cell? (ad.add k) = some (.float .f64 x) := by
  obtain ⟨ad, u, rfl, hb, hx, hc⟩ := h.at_ hk
  obtain ⟨x, hx', rfl⟩ := flts_get hx
  exact ⟨ad, x, rfl, hb, hx', hc⟩
/-- the place of the first that none is aheadK of, as the loop finds it; below 0: there is none -/
def bestOf (l : List Nat) (b : Int) : Prop := (l = [] ∧ b = -1) ∨ ∃ k : Nat, b = k ∧ ∃ x, l[k]? = some x ∧ (∀ (j y : Nat), l[j]? = some y → aheadK (key y) (key x) = false) ∧ ∀ (j y : Nat), j < k → l[j]? = some y → aheadK (key x) (key y) = true
theorem bestOf_one {l : List Nat} {b c : Int} (h1 : bestOf l b) (h2 : bestOf l c) : b = c := by
  rcases h1 with ⟨rfl, rfl⟩ | ⟨k, rfl, x, hx, a1, a2⟩
  · rcases h2 with ⟨_, rfl⟩ | ⟨k, _, x, hx, _⟩
    · rfl
    · simp at hx
  · rcases h2 with ⟨rfl, _⟩ | ⟨m, rfl, y, hy, b1, b2⟩
    · simp at hx
    · rcases Nat.lt_trichotomy k m with h | h | h
      · have := b2 k x h hx
        rw [a1 m y hy] at this; cases this
      · rw [h]
      · have := a2 m y h hy
        rw [b1 k x hx] at this; cases this
theorem best_zero : bestOf [] (-1) := .inl ⟨rfl, rfl⟩
theorem take_get {l : List Nat} {j i y : Nat} (h : (l.take j)[i]? = some y) : i < j ∧ l[i]? = some y := by
  rw [List.getElem?_take] at h
  split at h
  · exact ⟨‹_›, h⟩
  · cases h
theorem best_snoc {l : List Nat} {j : Nat} {y : Nat} {b : Int} (h : bestOf (l.take j) b) (hy : l[j]? = some y) :
    (b = -1 → bestOf (l.take (j + 1)) j) ∧ (∀ (k : Nat) (x : Nat), b = k → l[k]? = some x → k < j → (aheadK (key y) (key x) = true → bestOf (l.take (j + 1)) j) ∧ (aheadK (key y) (key x) = false → bestOf (l.take (j + 1)) k)) := by
  have hjl := (List.getElem?_eq_some_iff.1 hy).1
  have hget : ∀ i, i ≤ j → (l.take (j + 1))[i]? = l[i]? := fun i hi => by rw [List.getElem?_take, if_pos (by omega)]
  constructor
  · intro hb
    rcases h with ⟨h, _⟩ | ⟨k, hk, _⟩
    · have hj0 : j = 0 := by
        have : (l.take j).length = 0 := by rw [h]; rfl
        rw [List.length_take] at this; omega
      subst hj0
      refine .inr ⟨0, rfl, y, by rw [hget 0 (by omega)]; exact hy, fun i z hz => ?_, fun i z hi => by omega⟩
      obtain ⟨h1, h2⟩ := take_get hz
      obtain rfl : i = 0 := by omega
      rw [hy] at h2; injection h2 with h2; subst h2; exact ahead_irr _
    · omega
  · intro k x hk hx hkj
    rcases h with ⟨_, h⟩ | ⟨k', hk', x', hx', a1, a2⟩
    · omega
    · obtain rfl : k = k' := by omega
      have hxx := (take_get hx').2
      obtain rfl : x = x' := by rw [hx] at hxx; exact Option.some.inj hxx
      constructor
      · intro ha
        refine .inr ⟨j, rfl, y, by rw [hget j (by omega)]; exact hy, fun i z hz => ?_, fun i z hi hz => ?_⟩
        · obtain ⟨h1, h2⟩ := take_get hz
          rcases Nat.lt_or_ge i j with h3 | h3
          · have := a1 i z (by rw [List.getElem?_take, if_pos h3]; exact h2)
            cases hq : aheadK (key z) (key y) with
            | false => rfl
            | true => rw [ahead_tr hq ha] at this; cases this
          · obtain rfl : i = j := by omega
            rw [hy] at h2; injection h2 with h2; subst h2; exact ahead_irr _
        · have hz' := (take_get hz).2
          have h1 := a1 i z (by rw [List.getElem?_take, if_pos hi]; exact hz')
          cases h2 : aheadK (key y) (key z) with
          | true => rfl
          | false => exact absurd (ahead_trans (x := key x) (y := key z) (z := key y) h1 h2) (by rw [ha]; simp)
      · intro ha
        refine .inr ⟨k, rfl, x, by rw [hget k (by omega)]; exact hx, fun i z hz => ?_, fun i z hi hz => ?_⟩
        · obtain ⟨h1, h2⟩ := take_get hz
          rcases Nat.lt_or_ge i j with h3 | h3
          · exact a1 i z (by rw [List.getElem?_take, if_pos h3]; exact h2)
          · obtain rfl : i = j := by omega
            rw [hy] at h2; injection h2 with h2; subst h2; exact ha
        · have hz' := (take_get hz).2
          exact a2 i z hi (by rw [List.getElem?_take, if_pos (by omega)]; exact hz')

theorem first_any (A : Option Addr) (n cap : Nat) (l : List Nat) (w : World) (hn : n ≤ 9223372036854775807) (hr : Reads w w.heap.size 1 A n (flts l)) :
    Calls Try.prog 12 #[.slice A n cap] w fun e w' => (∃ b : Int, bestOf l b ∧ e = .returned (.int .i64 b)) ∧ w = w' := by
  have hlen := flts_len hr
  go_enter Try.func12, Try.ntmps12
  go_wp2
  go_loop [3, 8] (fun s iv => ∃ (j : Nat) (b : Int), j ≤ n ∧ iv = .int .i64 j ∧ s = .int .i64 b ∧ bestOf (l.take j) b ∧ -1 ≤ b ∧ b < j) (fun _ iv => n - (intOf iv).toNat)
  case atStart => exact ⟨0, -1, by omega, rfl, rfl, best_zero, by omega, by omega⟩
  case round =>
    obtain ⟨j, b, hj, rfl, rfl, hb, hb1, hb2⟩ := hrel
    by_cases hlt : j < n
    · obtain ⟨ad, y, rfl, _, hy, hcy⟩ := Reads.flt hr hlt
      obtain ⟨s1, s2⟩ := best_snoc hb hy
      by_cases h0 : b < 0
      · obtain rfl : b = -1 := by omega
        have HS := Lib.hid (s1 rfl)
        clear s1 s2 hb hy
        go_wp2
        go_round
        case rel => exact ⟨j + 1, j, by omega, by go_num, rfl, HS.out, by omega, by omega⟩
        case measure => simp [intOf]; omega
      · obtain ⟨k, rfl⟩ : ∃ k : Nat, b = k := ⟨b.toNat, by omega⟩
        obtain ⟨_, x, hA, _, hx, hcx⟩ := Reads.flt hr (show k < n by omega)
        obtain rfl := Option.some.inj hA
        obtain ⟨t1, t2⟩ := s2 k x rfl hx (by omega)
        have hcm := fun w => cmp_any y x w
        have k0 : (0 : Int) ≤ (k : Int) := by omega
        have k1 : (k : Int) < (n : Int) := by omega
        cases ha : aheadK (key y) (key x) with
        | true =>
          have HS := Lib.hid (t1 ha)
          have hneg := (cmp_neg _ _).2 ha
          obtain ⟨c, hc⟩ : ∃ c, cmpK (key y) (key x) = c := ⟨_, rfl⟩
          rw [hc] at hcm hneg
          clear s1 s2 hb hy hA hx t1 t2 ha hc
          go_wp2_with (first
            | (go_at_call 11; (with_reducible refine (hcm _).mono ?_); rintro e w' ⟨rfl, rfl⟩))
          go_round
          case rel => exact ⟨j + 1, j, by omega, by go_num, rfl, HS.out, by omega, by omega⟩
          case measure => simp [intOf]; omega
        | false =>
          have HS := Lib.hid (t2 ha)
          have hneg : ¬ cmpK (key y) (key x) < 0 := fun h => by rw [(cmp_neg _ _).1 h] at ha; cases ha
          obtain ⟨c, hc⟩ : ∃ c, cmpK (key y) (key x) = c := ⟨_, rfl⟩
          rw [hc] at hcm hneg
          clear s1 s2 hb hy hA hx t1 t2 ha hc
          go_wp2_with (first
            | (go_at_call 11; (with_reducible refine (hcm _).mono ?_); rintro e w' ⟨rfl, rfl⟩))
          go_round
          case rel => exact ⟨j + 1, k, by omega, by go_num, rfl, HS.out, by omega, by omega⟩
          case measure => simp [intOf]; omega
    · have hb' : bestOf l b := by rw [List.take_of_length_le (by omega)] at hb; exact hb
      have HB := Lib.hid hb'
      clear hb hb'
      go_wp2
      go_ret
      exact ⟨⟨b, HB.out, rfl⟩, rfl⟩
theorem best_some (l : List Nat) : ∃ b, bestOf l b ∧ -1 ≤ b ∧ b < l.length := by
  suffices H : ∀ j, j ≤ l.length → ∃ b, bestOf (l.take j) b ∧ -1 ≤ b ∧ b < j by
    have := H l.length (Nat.le_refl _)
    rwa [List.take_of_length_le (Nat.le_refl _)] at this
  intro j
  induction j with
  | zero => intro _; exact ⟨-1, best_zero, by omega, by omega⟩
  | succ j ih =>
    intro hj
    obtain ⟨b, hb, b1, b2⟩ := ih (by omega)
    have hy : l[j]? = some (l[j]'(by omega)) := List.getElem?_eq_getElem (by omega)
    obtain ⟨s1, s2⟩ := best_snoc hb hy
    by_cases h0 : b < 0
    · exact ⟨j, s1 (by omega), by omega, by omega⟩
    · obtain ⟨k, rfl⟩ : ∃ k : Nat, b = k := ⟨b.toNat, by omega⟩
      have hx : l[k]? = some (l[k]'(by omega)) := List.getElem?_eq_getElem (by omega)
      obtain ⟨t1, t2⟩ := s2 k _ rfl hx (by omega)
      cases ha : aheadK (key (l[j]'(by omega))) (key (l[k]'(by omega))) with
      | true => exact ⟨j, t1 ha, by omega, by omega⟩
      | false => exact ⟨k, t2 ha, by omega, by omega⟩
theorem reffirst_any (A : Option Addr) (n cap : Nat) (l : List Nat) (w : World) (hn : n ≤ 9223372036854775807) (hr : Reads w w.heap.size 1 A n (flts l)) :
    Calls Try.prog 13 #[.slice A n cap] w fun e w' => (∃ b : Int, bestOf l b ∧ e = .returned (.int .i64 b)) ∧ w = w' := by
  have hlen := flts_len hr
  go_enter Try.func13, Try.ntmps13
  go_wp2
  go_loop [10] (fun iv => ∃ j : Nat, j ≤ n ∧ iv = .int .i64 j ∧ ∀ (i y : Nat), i < j → l[i]? = some y → ∃ m z : Nat, l[m]? = some z ∧ aheadK (key z) (key y) = true) (fun iv => n - (intOf iv).toNat)
  case atStart => exact ⟨0, by omega, rfl, fun i y h => by omega⟩
  case round =>
    obtain ⟨j, hj, rfl, hnone⟩ := hrel
    have HN := Lib.hid hnone
    clear hnone
    by_cases hlt : j < n
    · obtain ⟨ad, y, rfl, _, hy, hcy⟩ := Reads.flt hr hlt
      have HY := Lib.hid hy
      clear hy
      go_wp2_with fail
      go_loop [5, 17] (fun o iv => ∃ (i : Nat) (b : Bool), i ≤ n ∧ iv = .int .i64 i ∧ o = .bool b ∧ (b = true ↔ ∀ (m z : Nat), m < i → l[m]? = some z → aheadK (key z) (key y) = false)) (fun _ iv => n - (intOf iv).toNat)
      case atStart => exact ⟨0, true, by omega, rfl, rfl, by simp⟩
      case round =>
        obtain ⟨i, b, hi, rfl, rfl, hb⟩ := hrel
        by_cases hlt2 : i < n
        · obtain ⟨_, z, hA, _, hz, hcz⟩ := Reads.flt hr hlt2
          obtain rfl := Option.some.inj hA
          have hah := fun w => ahead_any z y w
          have HB := Lib.hid hb
          have HZ := Lib.hid hz
          clear hb hz hA
          cases b with
          | false =>
            go_wp2
            go_round
            case rel =>
              refine ⟨i + 1, false, by omega, by go_num, rfl, ⟨fun h => (by cases h), fun h => ?_⟩⟩
              have := HB.out.2 fun m z hm => h m z (by omega)
              cases this
            case measure => simp [intOf]; omega
          | true =>
            cases ha : aheadK (key z) (key y) with
            | true =>
              rw [ha] at hah
              have HA := Lib.hid ha
              clear ha
              go_wp2_with (first
                | (go_at_call 10; (with_reducible refine (hah _).mono ?_); rintro e w' ⟨rfl, rfl⟩))
              go_round
              case rel =>
                refine ⟨i + 1, false, by omega, by go_num, rfl, ⟨fun h => (by cases h), fun h => ?_⟩⟩
                have := h i z (by omega) HZ.out
                rw [HA.out] at this; cases this
              case measure => simp [intOf]; omega
            | false =>
              rw [ha] at hah
              have HA := Lib.hid ha
              clear ha
              go_wp2_with (first
                | (go_at_call 10; (with_reducible refine (hah _).mono ?_); rintro e w' ⟨rfl, rfl⟩))
              go_round
              case rel =>
                refine ⟨i + 1, true, by omega, by go_num, rfl, ⟨fun _ m z' hm hz' => ?_, fun _ => rfl⟩⟩
                rcases Nat.lt_or_ge m i with h3 | h3
                · exact HB.out.1 (by simp) m z' h3 hz'
                · obtain rfl : m = i := by omega
                  have := HZ.out.symm.trans hz'
                  injection this with this; subst this; exact HA.out
              case measure => simp [intOf]; omega
        · have HB := Lib.hid hb
          clear hb
          cases b with
          | true =>
            have HR : Hid (bestOf l j) := by
              have hall : ∀ (m z : Nat), l[m]? = some z → aheadK (key z) (key y) = false := fun m z hz => HB.out.1 (by simp) m z (by have := (List.getElem?_eq_some_iff.1 hz).1; omega) hz
              refine .inr ⟨j, rfl, y, HY.out, hall, fun i' z hi' hz => ?_⟩
              obtain ⟨m, q, hm, hq⟩ := HN.out i' z hi' hz
              cases h2 : aheadK (key y) (key z) with
              | true => rfl
              | false => rw [ahead_trans h2 (hall m q hm)] at hq; cases hq
            go_wp2
            go_ret
            exact ⟨⟨(j : Int), HR.out, rfl⟩, rfl⟩
          | false =>
            have HR : Hid (∀ (i y : Nat), i < j + 1 → l[i]? = some y → ∃ m z : Nat, l[m]? = some z ∧ aheadK (key z) (key y) = true) := by
              intro i' y' hi' hy'
              rcases Nat.lt_or_ge i' j with h3 | h3
              · exact HN.out i' y' h3 hy'
              · obtain rfl : i' = j := by omega
                have := HY.out.symm.trans hy'
                injection this with this; subst this
                refine Classical.byContradiction fun hno => ?_
                have := HB.out.2 fun m z _ hz => by
                  cases h2 : aheadK (key z) (key y) with
                  | false => rfl
                  | true => exact absurd ⟨m, z, hz, h2⟩ hno
                cases this
            go_wp2
            go_round
            case rel => exact ⟨j + 1, by omega, by go_num, HR.out⟩
            case measure => simp [intOf]; omega
    · have HL : Hid (bestOf l (-1)) := by
        obtain ⟨b, hb, _, _⟩ := best_some l
        rcases hb with ⟨h, _⟩ | ⟨k, rfl, x, hx, h1, _⟩
        · subst h; exact best_zero
        · have hk := (List.getElem?_eq_some_iff.1 hx).1
          obtain ⟨m, z, hz, hq⟩ := HN.out k x (by omega) hx
          rw [h1 m z hz] at hq; cases hq
      go_wp2
      go_ret
      exact ⟨⟨-1, HL.out, rfl⟩, rfl⟩
end Go.Proofs.Ytnnlkjbnonkjmaa.flo
