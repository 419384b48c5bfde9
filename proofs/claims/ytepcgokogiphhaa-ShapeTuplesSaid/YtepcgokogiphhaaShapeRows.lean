/- Rows of rows: the document's tuples. -/
import Derived.Test.YtepcgokogiphhaaShapeCarry
namespace Go.Proofs.Ytepcgokogiphhaa.shp
open Go Go.RowKit Go.ChangeShapes Go.WideShapes Go.ChangeAt Go.Proofs.Ytepcgokogiphhaa.words
set_option linter.unusedVariables false
theorem infoR : (Try.prog.info? 25).map (fun i => (i.zero, i.size, i.bytes)) = some (some (.slice none 0 0), 1, 24) := by kernel_rfl
theorem own_keep {w w' : World} {base base' : Nat} {e e' : TypeId} {s s' n n' : Nat} {v v' : Value} {xs ys : List Value} (ho : w.ownsRow base e s v n xs) (ho' : w.ownsRow base' e' s' v' n' ys) (he : e ≠ e') (hg : w.grownBy w' v'.ownBlock) : w'.ownsRow base e s v n xs := by
  refine ho.kept hg ?_
  rcases ho.2 with ⟨rfl, _⟩ | ⟨g, cap, cur, rfl, _, hh, _⟩
  · exact .inl rfl
  · rcases ho'.2 with ⟨rfl, _⟩ | ⟨g', cap', cur', rfl, _, hh', _⟩
    · exact .inr (by simp [Value.ownBlock])
    · refine .inr fun hc => ?_
      simp only [Value.ownBlock, Option.some.injEq] at hc
      subst hc
      rw [hh] at hh'
      cases hh'
      exact he rfl
/-- the inner rows, each its own -/
def Inn (w : World) (base : Nat) (vs : List Value) (L : List (List Int)) : Prop :=
  vs.length = L.length ∧ ∀ (i : Nat) (t : List Int), L[i]? = some t → ∃ A c, vs[i]? = some (.slice A t.length c) ∧ w.ownsRow base 3 1 (.slice A t.length c) t.length (nums t)
theorem Inn.nil (w : World) (base : Nat) : Inn w base [] [] := ⟨rfl, fun i t h => by simp at h⟩
theorem Inn.under {w w' : World} {base : Nat} {vs : List Value} {L : List (List Int)} (h : Inn w base vs L) (hb : Below w.heap.size w w') : Inn w' base vs L :=
  ⟨h.1, fun i t ht => by obtain ⟨A, c, h1, h2⟩ := h.2 i t ht; exact ⟨A, c, h1, own_under h2 hb⟩⟩
theorem Inn.keep {w w' : World} {base base' : Nat} {vs : List Value} {L : List (List Int)} {v : Value} {n : Nat} {ys : List Value} (h : Inn w base vs L) (ho : w.ownsRow base' 25 1 v n ys) (hg : w.grownBy w' v.ownBlock) : Inn w' base vs L :=
  ⟨h.1, fun i t ht => by obtain ⟨A, c, h1, h2⟩ := h.2 i t ht; exact ⟨A, c, h1, own_keep h2 ho (by decide) hg⟩⟩
theorem Inn.snoc {w : World} {base : Nat} {vs : List Value} {L : List (List Int)} {A : Option Addr} {c : Nat} {t : List Int} (h : Inn w base vs L) (ho : w.ownsRow base 3 1 (.slice A t.length c) t.length (nums t)) : Inn w base (vs ++ [.slice A t.length c]) (L ++ [t]) := by
  refine ⟨by simp [h.1], fun i u hu => ?_⟩
  by_cases hi : i < L.length
  · rw [List.getElem?_append_left hi] at hu
    obtain ⟨A', c', h1, h2⟩ := h.2 i u hu
    exact ⟨A', c', by rw [List.getElem?_append_left (by rw [h.1]; exact hi)]; exact h1, h2⟩
  · rw [List.getElem?_append_right (by omega)] at hu
    have : i = L.length := by
      have := (List.getElem?_eq_some_iff.1 hu).1
      simp at this; omega
    subst this
    simp at hu
    subst hu
    exact ⟨A, c, by rw [← h.1]; simp, ho⟩
theorem Inn.base {w : World} {base base' : Nat} {vs : List Value} {L : List (List Int)} (h : Inn w base vs L) (hb : base' ≤ base) : Inn w base' vs L :=
  ⟨h.1, fun i t ht => by obtain ⟨A, c, h1, h2⟩ := h.2 i t ht; exact ⟨A, c, h1, own_base h2 hb⟩⟩
def RowsI (w : World) (base : Nat) (A : Option Addr) (c : Nat) (L : List (List Int)) : Prop := ∃ vs, w.ownsRow base 25 1 (.slice A L.length c) L.length vs ∧ Inn w base vs L
theorem RowsI.under {w w' : World} {base : Nat} {A : Option Addr} {c : Nat} {L : List (List Int)} (h : RowsI w base A c L) (hb : Below w.heap.size w w') : RowsI w' base A c L := by
  obtain ⟨vs, h1, h2⟩ := h; exact ⟨vs, own_under h1 hb, h2.under hb⟩
theorem RowsI.base {w : World} {b b' : Nat} {A : Option Addr} {c : Nat} {L : List (List Int)} (h : RowsI w b A c L) (hb : b' ≤ b) : RowsI w b' A c L := by
  obtain ⟨vs, h1, h2⟩ := h; exact ⟨vs, own_base h1 hb, h2.base hb⟩
/-- one row, read -/
theorem RowsI.at_ {w : World} {base : Nat} {A : Option Addr} {c : Nat} {L : List (List Int)} (h : RowsI w base A c L) {i : Nat} {t : List Int} (ht : L[i]? = some t) :
    ∃ g A' c', A = some ⟨g, 0, none⟩ ∧ w.cell? ⟨g, i, none⟩ = some (.slice A' t.length c') ∧ Reads w w.heap.size 1 A' t.length (nums t) ∧ t.length ≤ c' ∧ w.ownsRow base 3 1 (.slice A' t.length c') t.length (nums t) ∧ L.length ≤ c := by
  obtain ⟨vs, h1, h2⟩ := h
  have hl := (List.getElem?_eq_some_iff.1 ht).1
  obtain ⟨A', c', h3, h4⟩ := h2.2 i t ht
  obtain ⟨g, rfl, _, _⟩ := own_some h1 (by omega)
  exact ⟨g, A', c', rfl, (h1.cellAt i (by omega)).trans h3, Reads.of_own h4, own_cap h4, h4, own_cap h1⟩
/-- all tuples -/
def allI : List Int → List (List Int)
  | [] => [[]]
  | x :: xs => (List.range x.toNat).flatMap fun (v : Nat) => (allI xs).map fun t => (v : Int) :: t
def preI (R : List (List Int)) (v : Nat) : List (List Int) := (List.range v).flatMap fun (u : Nat) => R.map fun t => (u : Int) :: t
theorem pre_succ (R : List (List Int)) (v : Nat) : preI R (v + 1) = preI R v ++ R.map fun t => (v : Int) :: t := by
  unfold preI; rw [List.range_succ, List.flatMap_append]; simp
def soI (R : List (List Int)) (v j : Nat) : List (List Int) := preI R v ++ (R.take j).map fun t => (v : Int) :: t
theorem so_zero (R : List (List Int)) (v : Nat) : soI R v 0 = preI R v := by unfold soI; simp
theorem so_all (R : List (List Int)) (v : Nat) : soI R v R.length = preI R (v + 1) := by unfold soI; rw [List.take_length, pre_succ]
theorem so_snoc {R : List (List Int)} {v j : Nat} {t : List Int} (h : R[j]? = some t) : soI R v (j + 1) = soI R v j ++ [(v : Int) :: t] := by
  unfold soI; rw [List.take_add_one, h, List.map_append]; simp
theorem pre_len (R : List (List Int)) (v : Nat) : (preI R v).length = v * R.length := by
  induction v with
  | zero => simp [preI]
  | succ v ih => rw [pre_succ, List.length_append, ih, List.length_map, Nat.succ_mul]
theorem pre_at {R : List (List Int)} {v u j : Nat} {t : List Int} (hu : u < v) (hj : R[j]? = some t) : (preI R v)[u * R.length + j]? = some ((u : Int) :: t) := by
  have hl := (List.getElem?_eq_some_iff.1 hj).1
  induction v with
  | zero => omega
  | succ v ih =>
    rw [pre_succ]
    by_cases hv : u < v
    · have hlt : u * R.length + j < v * R.length := by
        have := Nat.mul_le_mul_right R.length hv
        rw [Nat.succ_mul] at this; omega
      rw [List.getElem?_append_left (by rw [pre_len]; exact hlt)]
      exact ih hv
    · obtain rfl : u = v := by omega
      rw [List.getElem?_append_right (by rw [pre_len]; omega), pre_len, Nat.add_sub_cancel_left, List.getElem?_map, hj]
      rfl
theorem all_cons (x : Int) (xs : List Int) : allI (x :: xs) = preI (allI xs) x.toNat := rfl
theorem all_len {xs : List Int} (h : ∀ x ∈ xs, 1 ≤ x) : ((allI xs).length : Int) = prodI xs := by
  induction xs with
  | nil => rfl
  | cons x xs ih =>
    have hx := h x (by simp)
    rw [all_cons, pre_len, prodI_cons, Int.natCast_mul, ih fun y hy => h y (by simp [hy])]
    congr 1; omega
theorem all_lens {xs : List Int} : ∀ t ∈ allI xs, t.length = xs.length := by
  induction xs with
  | nil => intro t ht; simp [allI] at ht; subst ht; rfl
  | cons x xs ih =>
    intro t ht
    simp only [allI, List.mem_flatMap, List.mem_map] at ht
    obtain ⟨v, _, t', ht', rfl⟩ := ht
    simp [ih t' ht']
/-- a number's tuple goes by what is left of the number -/
theorem tup_mod {xs : List Int} (hz : Szs xs) {a i : Int} : tupI xs (a * prodI xs + i) = tupI xs i := by
  apply List.ext_getElem?
  intro k
  by_cases hk : k < xs.length
  · obtain ⟨y, hy⟩ : ∃ y, xs[k]? = some y := ⟨xs[k], List.getElem?_eq_getElem hk⟩
    have hy1 := hz.2 y (List.mem_of_getElem? hy)
    have hs := suf_pos hz (k + 1)
    rw [tup_at _ hy, tup_at _ hy]
    congr 1
    obtain ⟨c, hc⟩ := suf_dvd xs (Nat.zero_le k)
    rw [suf_step hy] at hc
    have hp : prodI xs = c * (y * suf xs (k + 1)) := by rw [← hc]; unfold suf; rw [List.drop_zero]
    rw [hp, show a * (c * (y * suf xs (k + 1))) + i = i + suf xs (k + 1) * (a * c * y) by
      rw [Int.add_comm]; congr 1; simp only [Int.mul_comm, Int.mul_left_comm, Int.mul_assoc]]
    rw [Int.add_mul_ediv_left _ _ (by omega), show a * c * y = y * (a * c) from Int.mul_comm _ _, Int.add_mul_emod_self_left]
  · rw [List.getElem?_eq_none (by rw [tup_len]; omega), List.getElem?_eq_none (by rw [tup_len]; omega)]
theorem tup_cons {x : Int} {xs : List Int} (i : Int) : tupI (x :: xs) i = (i / prodI xs % x) :: tupI xs i := by
  apply List.ext_getElem?
  intro k
  cases k with
  | zero =>
    rw [tup_at i (xs := x :: xs) (k := 0) (x := x) rfl]
    simp [suf]
  | succ k =>
    rw [List.getElem?_cons_succ]
    by_cases hk : k < xs.length
    · obtain ⟨y, hy⟩ : ∃ y, xs[k]? = some y := ⟨xs[k], List.getElem?_eq_getElem hk⟩
      rw [tup_at i (xs := x :: xs) (k := k + 1) (x := y) (by simpa using hy), tup_at i hy]
      simp [suf]
    · rw [List.getElem?_eq_none (by rw [tup_len]; simp; omega), List.getElem?_eq_none (by rw [tup_len]; omega)]
theorem all_at {xs : List Int} (hz : Szs xs) : ∀ (i : Nat), (i : Int) < prodI xs → (allI xs)[i]? = some (tupI xs i) := by
  induction xs with
  | nil =>
    intro i hi
    have : i = 0 := by have : prodI [] = 1 := rfl; omega
    subst this
    rfl
  | cons x xs ih =>
    intro i hi
    have hx := hz.2 x (by simp)
    have hz' : Szs xs := ⟨by have := hz.1; simp at this; omega, fun k hk => hz.2 k (by simp [hk])⟩
    have hl := all_len (xs := xs) fun y hy => (hz'.2 y hy).1
    have hp := szs_prod hz'
    obtain ⟨P, hP⟩ : ∃ P : Nat, prodI xs = P := ⟨(prodI xs).toNat, by omega⟩
    rw [hP] at hl hp
    have hl' : (allI xs).length = P := by omega
    rw [prodI_cons, hP] at hi
    have hP1 : 1 ≤ P := by omega
    have e := Nat.div_add_mod i P
    have lt := Nat.mod_lt i (show 0 < P by omega)
    have hq : ((i / P : Nat) : Int) < x := by
      refine Int.not_le.1 fun hle => ?_
      have : x * (P : Int) ≤ ((i / P : Nat) : Int) * P := Int.mul_le_mul_of_nonneg_right hle (by omega)
      have h2 : ((i / P : Nat) : Int) * P ≤ i := by
        rw [← Int.natCast_mul]
        have : i / P * P ≤ i := Nat.div_mul_le_self i P
        omega
      omega
    have hr := ih hz' (i % P) (by rw [hP]; omega)
    rw [all_cons]
    have := pre_at (v := x.toNat) (u := i / P) (by omega) hr
    rw [hl', show i / P * P + i % P = i by rw [Nat.mul_comm]; exact e] at this
    rw [this, tup_cons, hP]
    have e1 : ((i : Int) / (P : Int)) = ((i / P : Nat) : Int) := (Int.natCast_ediv i P).symm
    congr 2
    · rw [e1, Int.emod_eq_of_lt (Int.natCast_nonneg _) hq]
    · have := tup_mod hz' (a := ((i / P : Nat) : Int)) (i := ((i % P : Nat) : Int))
      rw [← this, hP]
      congr 1
      rw [← Int.natCast_mul, ← Int.natCast_add, Nat.mul_comm]
      rw [e]
end Go.Proofs.Ytepcgokogiphhaa.shp
