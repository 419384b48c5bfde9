/- From one tuple to the next: plain mathematics. -/
import Derived.Test.YtepcgokogiphhaaShapeTwo
namespace Go.Proofs.Ytepcgokogiphhaa.shp
open Go Go.Proofs.Ytepcgokogiphhaa.words
set_option linter.unusedVariables false
/-- what stands from q on, multiplied -/
def suf (xs : List Int) (q : Nat) : Int := prodI (xs.drop q)
theorem suf_all (xs : List Int) : suf xs xs.length = 1 := by unfold suf; simp [prodI]
theorem suf_step {xs : List Int} {q : Nat} {x : Int} (h : xs[q]? = some x) : suf xs q = x * suf xs (q + 1) := by
  have hl := (List.getElem?_eq_some_iff.1 h).1
  unfold suf
  rw [List.drop_eq_getElem_cons hl, prodI_cons]
  congr 1
  rw [List.getElem?_eq_getElem hl] at h; exact Option.some.inj h
theorem suf_pos {xs : List Int} (hz : Szs xs) (q : Nat) : 1 ≤ suf xs q ∧ suf xs q ≤ 1073741824 := szs_prod (szs_drop hz q)
theorem suf_dvd (xs : List Int) {q k : Nat} (h : q ≤ k) : ∃ c, suf xs q = c * suf xs k := by
  refine ⟨prodI ((xs.drop q).take (k - q)), ?_⟩
  unfold suf
  rw [← prodI_append]
  congr 1
  have : xs.drop k = (xs.drop q).drop (k - q) := by rw [List.drop_drop]; congr 1; omega
  rw [this, List.take_append_drop]
theorem tup_at {xs : List Int} {k : Nat} {x : Int} (i : Int) (h : xs[k]? = some x) : (tupI xs i)[k]? = some (i / suf xs (k + 1) % x) := tup_get i h
/-- all behind q are at their greatest -/
def Full (xs : List Int) (i : Int) (q : Nat) : Prop := i % suf xs q = suf xs q - 1
theorem full_end (xs : List Int) (i : Int) : Full xs i xs.length := by unfold Full; rw [suf_all, Int.emod_one]; rfl
theorem mod_split (i P x : Int) (h0 : 0 ≤ i) (hP : 1 ≤ P) (hx : 1 ≤ x) : i % (x * P) = i % P + i / P % x * P := by
  obtain ⟨i, rfl⟩ := Int.eq_ofNat_of_zero_le h0
  obtain ⟨P, rfl⟩ := Int.eq_ofNat_of_zero_le (show 0 ≤ P by omega)
  obtain ⟨x, rfl⟩ := Int.eq_ofNat_of_zero_le (show 0 ≤ x by omega)
  have := Nat.mod_mul (x := i) (a := P) (b := x)
  rw [Int.mul_comm (x : Int), Int.mul_comm _ (P : Int)]
  exact_mod_cast this
theorem full_step {xs : List Int} {i : Int} {p : Nat} {x : Int} (hz : Szs xs) (h0 : 0 ≤ i) (hx : xs[p]? = some x) (h : Full xs i (p + 1)) : Full xs i p ↔ i / suf xs (p + 1) % x = x - 1 := by
  have hx1 := hz.2 x (List.mem_of_getElem? hx)
  have hs := suf_pos hz (p + 1)
  unfold Full at h ⊢
  rw [suf_step hx, mod_split _ _ _ h0 hs.1 hx1.1, h]
  have hd0 : 0 ≤ i / suf xs (p + 1) % x := Int.emod_nonneg _ (by omega)
  have hd1 : i / suf xs (p + 1) % x < x := Int.emod_lt_of_pos _ (by omega)
  generalize i / suf xs (p + 1) % x = d at *
  generalize suf xs (p + 1) = P at *
  constructor
  · intro e
    have e2 : d * P = (x - 1) * P := by rw [Int.sub_mul, Int.one_mul]; omega
    exact Int.eq_of_mul_eq_mul_right (by omega) e2
  · rintro rfl
    rw [Int.sub_mul, Int.one_mul]; omega
theorem full_zero {xs : List Int} {i : Int} (hz : Szs xs) (h0 : 0 ≤ i) (h1 : i + 1 < prodI xs) : ¬ Full xs i 0 := by
  unfold Full suf
  rw [List.drop_zero, Int.emod_eq_of_lt h0 (by omega)]
  omega
/-- the tuple, its places from q on begun again -/
def carryI (xs : List Int) (i : Int) (q : Nat) : List Int := (tupI xs i).take q ++ List.replicate (xs.length - q) 0
theorem carry_end (xs : List Int) (i : Int) : carryI xs i xs.length = tupI xs i := by
  unfold carryI
  rw [List.take_of_length_le (by rw [tup_len]; exact Nat.le_refl _)]
  simp
theorem carry_len {xs : List Int} {i : Int} {q : Nat} (h : q ≤ xs.length) : (carryI xs i q).length = xs.length := by
  unfold carryI; rw [List.length_append, List.length_take, tup_len, List.length_replicate]; omega
theorem carry_at {xs : List Int} {i : Int} {q p : Nat} (h : p < q) : (carryI xs i q)[p]? = (tupI xs i)[p]? := by
  unfold carryI
  by_cases hl : p < (tupI xs i).length
  · rw [List.getElem?_append_left (by rw [List.length_take]; omega), List.getElem?_take, if_pos h]
  · rw [List.getElem?_append_right (by rw [List.length_take]; omega)]
    rw [tup_len] at hl
    rw [List.getElem?_eq_none (by rw [List.length_replicate]; omega), List.getElem?_eq_none (by rw [tup_len]; omega)]
theorem carry_set {xs : List Int} {i : Int} {p : Nat} (h : p < xs.length) : (carryI xs i (p + 1)).set p 0 = carryI xs i p := by
  have hl : (tupI xs i).length = xs.length := tup_len xs i
  apply List.ext_getElem?
  intro k
  rw [List.getElem?_set]
  have hcl := carry_len (xs := xs) (i := i) (q := p + 1) (by omega)
  by_cases hk : p = k
  · subst hk
    rw [if_pos rfl, if_pos (by rw [hcl]; exact h)]
    unfold carryI
    rw [List.getElem?_append_right (by rw [List.length_take]; omega), List.getElem?_replicate, if_pos (by rw [List.length_take]; omega)]
  · rw [if_neg hk]
    unfold carryI
    by_cases hk2 : k < p
    · rw [List.getElem?_append_left (by rw [List.length_take]; omega), List.getElem?_append_left (by rw [List.length_take]; omega), List.getElem?_take, List.getElem?_take, if_pos (by omega), if_pos (by omega)]
    · rw [List.getElem?_append_right (by rw [List.length_take]; omega), List.getElem?_append_right (by rw [List.length_take]; omega), List.getElem?_replicate, List.getElem?_replicate, List.length_take, List.length_take]
      by_cases hkx : k < xs.length
      · rw [if_pos (by omega), if_pos (by omega)]
      · rw [if_neg (by omega), if_neg (by omega)]
theorem next_div {i D : Int} (h0 : 0 ≤ i) (hD : 1 ≤ D) (h : (i + 1) % D ≠ 0) : (i + 1) / D = i / D := by
  obtain ⟨i, rfl⟩ := Int.eq_ofNat_of_zero_le h0
  obtain ⟨D, rfl⟩ := Int.eq_ofNat_of_zero_le (show 0 ≤ D by omega)
  have h' : (i + 1) % D ≠ 0 := fun e => h (by exact_mod_cast e)
  have e1 := Nat.div_add_mod i D
  have l1 := Nat.mod_lt i (show 0 < D by omega)
  have key : (i + 1) / D = i / D := by
    by_cases hlt : i % D + 1 < D
    · rw [show i + 1 = (i % D + 1) + D * (i / D) by omega, Nat.add_mul_div_left _ _ (by omega), Nat.div_eq_of_lt hlt, Nat.zero_add]
    · exfalso
      apply h'
      rw [show i + 1 = D * (i / D) + D by omega, Nat.add_mod_right, Nat.mul_mod_right]
  exact_mod_cast key
theorem dvd_mod {a b c : Int} (h : a % (c * b) = 0) (hb : 1 ≤ b) (hc : 1 ≤ c) : a % b = 0 := by
  have h1 : (c * b) ∣ a := Int.dvd_of_emod_eq_zero h
  exact Int.emod_eq_zero_of_dvd (Int.dvd_trans ⟨c, Int.mul_comm _ _⟩ h1)
/-- the next tuple -/
theorem carry_next {xs : List Int} {i : Int} {p : Nat} {x : Int} (hz : Szs xs) (h0 : 0 ≤ i) (hx : xs[p]? = some x) (h : Full xs i (p + 1)) (hd : i / suf xs (p + 1) % x ≠ x - 1) :
    (carryI xs i (p + 1)).set p (i / suf xs (p + 1) % x + 1) = tupI xs (i + 1) := by
  have hp := (List.getElem?_eq_some_iff.1 hx).1
  have hx1 := hz.2 x (List.mem_of_getElem? hx)
  have hs := suf_pos hz (p + 1)
  have hcl := carry_len (xs := xs) (i := i) (q := p + 1) (by omega)
  have hi1 : (i + 1) % suf xs (p + 1) = 0 := by
    unfold Full at h
    have e := Int.mul_ediv_add_emod i (suf xs (p + 1))
    rw [h] at e
    rw [show i + 1 = suf xs (p + 1) * (i / suf xs (p + 1) + 1) by rw [Int.mul_add, Int.mul_one]; omega]
    exact Int.mul_emod_right _ _
  have hne : ¬ (i + 1) % suf xs p = 0 := by
    intro e
    have hnf : ¬ Full xs i p := fun hf => hd ((full_step hz h0 hx h).1 hf)
    apply hnf
    unfold Full
    have hsp := suf_pos hz p
    have r0 : 0 ≤ i % suf xs p := Int.emod_nonneg _ (by omega)
    have r1 : i % suf xs p < suf xs p := Int.emod_lt_of_pos _ (by omega)
    rw [Int.add_emod] at e
    generalize suf xs p = S at *
    by_cases h1 : S = 1
    · omega
    · rw [show (1 : Int) % S = 1 from Int.emod_eq_of_lt (by omega) (by omega)] at e
      by_cases h2 : i % S + 1 < S
      · rw [Int.emod_eq_of_lt (by omega) h2] at e; omega
      · omega
  apply List.ext_getElem?
  intro k
  rw [List.getElem?_set]
  by_cases hkx : k < xs.length
  · obtain ⟨y, hy⟩ : ∃ y, xs[k]? = some y := ⟨xs[k], List.getElem?_eq_getElem hkx⟩
    have hy1 := hz.2 y (List.mem_of_getElem? hy)
    have hk1 := suf_pos hz (k + 1)
    rw [tup_at (i + 1) hy]
    by_cases hk : p = k
    · subst hk
      rw [hx] at hy
      obtain rfl := Option.some.inj hy
      rw [if_pos rfl, if_pos (by rw [hcl]; exact hp)]
      congr 1
      have hd1 : i / suf xs (p + 1) % x < x := Int.emod_lt_of_pos _ (by omega)
      have e : (i + 1) / suf xs (p + 1) = i / suf xs (p + 1) + 1 := by
        unfold Full at h
        have e := Int.mul_ediv_add_emod i (suf xs (p + 1))
        rw [h] at e
        have e2 : i + 1 = suf xs (p + 1) * (i / suf xs (p + 1) + 1) := by rw [Int.mul_add, Int.mul_one]; omega
        rw [e2, Int.mul_ediv_cancel_left _ (by omega)]
      rw [e]
      by_cases hx2 : x = 1
      · subst hx2; rw [Int.emod_one] at hd; omega
      · rw [Int.add_emod, show (1 : Int) % x = 1 from Int.emod_eq_of_lt (by omega) (by omega), Int.emod_eq_of_lt (a := i / suf xs (p + 1) % x + 1) (by have := Int.emod_nonneg (i / suf xs (p + 1)) (show x ≠ 0 by omega); omega) (by omega)]
    · rw [if_neg hk]
      by_cases hk2 : k < p
      · rw [carry_at (by omega), tup_at i hy]
        congr 2
        obtain ⟨c, hc⟩ := suf_dvd xs (show k + 1 ≤ p by omega)
        have hc1 : 1 ≤ c := by
          have := suf_pos hz p
          have h2 := hk1.1
          rw [hc] at h2
          refine Int.not_lt.1 fun hlt => ?_
          have : c * suf xs p ≤ 0 := Int.mul_nonpos_of_nonpos_of_nonneg (by omega) (by omega)
          omega
        refine (next_div h0 hk1.1 fun e => hne ?_).symm
        rw [hc] at e
        exact dvd_mod e (suf_pos hz p).1 hc1
      · have hzero : (carryI xs i (p + 1))[k]? = some 0 := by
          unfold carryI
          rw [List.getElem?_append_right (by rw [List.length_take]; omega), List.getElem?_replicate, List.length_take, tup_len, if_pos (by omega)]
        rw [hzero]
        congr 1
        obtain ⟨c, hc⟩ := suf_dvd xs (show p + 1 ≤ k by omega)
        rw [suf_step hy] at hc
        have e0 : (i + 1) % (y * suf xs (k + 1)) = 0 := by
          rw [hc] at hi1
          have hc1 : 1 ≤ c := by
            have h2 := hs.1
            rw [hc] at h2
            have h3 : 1 ≤ y * suf xs (k + 1) := by have := Int.mul_le_mul hy1.1 hk1.1 (by omega) (by omega); omega
            refine Int.not_lt.1 fun hlt => ?_
            have : c * (y * suf xs (k + 1)) ≤ 0 := Int.mul_nonpos_of_nonpos_of_nonneg (by omega) (by omega)
            omega
          exact dvd_mod hi1 (by have := Int.mul_le_mul hy1.1 hk1.1 (by omega) (by omega); omega) hc1
        rw [mod_split _ _ _ (by omega) hk1.1 hy1.1] at e0
        have p1 : 0 ≤ (i + 1) % suf xs (k + 1) := Int.emod_nonneg _ (by omega)
        have p2 : 0 ≤ (i + 1) / suf xs (k + 1) % y := Int.emod_nonneg _ (by omega)
        have p3 : 0 ≤ (i + 1) / suf xs (k + 1) % y * suf xs (k + 1) := Int.mul_nonneg p2 (by omega)
        have e1 : (i + 1) / suf xs (k + 1) % y * suf xs (k + 1) = 0 := by omega
        rcases Int.mul_eq_zero.1 e1 with h4 | h4
        · exact h4.symm
        · omega
  · rw [List.getElem?_eq_none (l := tupI xs (i + 1)) (by rw [tup_len]; omega)]
    by_cases hk : p = k
    · omega
    · rw [if_neg hk, List.getElem?_eq_none (by rw [hcl]; omega)]
/-- the last one is full -/
theorem tup_last {xs : List Int} {k : Nat} {x : Int} (hz : Szs xs) (hx : xs[k]? = some x) : (tupI xs (prodI xs - 1))[k]? = some (x - 1) := by
  rw [tup_at _ hx]
  have hx1 := hz.2 x (List.mem_of_getElem? hx)
  have hk1 := suf_pos hz (k + 1)
  obtain ⟨c, hc⟩ := suf_dvd xs (Nat.zero_le k)
  rw [suf_step hx] at hc
  have hp : prodI xs = c * (x * suf xs (k + 1)) := by rw [← hc]; unfold suf; rw [List.drop_zero]
  rw [hp]
  congr 1
  have e : c * (x * suf xs (k + 1)) - 1 = (suf xs (k + 1) - 1) + suf xs (k + 1) * (c * x - 1) := by
    rw [Int.mul_sub, Int.mul_one, ← Int.mul_assoc, Int.mul_comm (c * x)]
    omega
  rw [e, Int.add_mul_ediv_left _ _ (by omega), Int.ediv_eq_zero_of_lt (by omega) (by omega), Int.zero_add]
  have e2 : c * x - 1 = (x - 1) + x * (c - 1) := by rw [Int.mul_sub, Int.mul_one, Int.mul_comm c]; omega
  rw [e2, Int.add_mul_emod_self_left, Int.emod_eq_of_lt (by omega) (by omega)]
end Go.Proofs.Ytepcgokogiphhaa.shp
