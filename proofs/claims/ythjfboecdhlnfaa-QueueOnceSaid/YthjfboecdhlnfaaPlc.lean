/- The places of the numbers of a heap: plain. -/
import Derived.Test.YthjfboecdhlnfaaHeap
namespace Go.Proofs.Ythjfboecdhlnfaa.que
open Go Go.Proofs.Ythjfboecdhlnfaa.words
def plc (H : List It) (x : Int) : Int := match H.findIdx? (fun a => decide (a.2 = x)) with
  | some i => i
  | none => -1
def plcs (N : Nat) (H : List It) : List Int := (List.range N).map fun x : Nat => plc H (x : Int)
/-- all numbers are below N, and none twice -/
structure Val (N : Nat) (H : List It) : Prop where
  lo : ∀ a ∈ H, 0 ≤ a.2 ∧ a.2 < N
  nd : (H.map (·.2)).Nodup
theorem plcs_len (N : Nat) (H : List It) : (plcs N H).length = N := by unfold plcs; simp
theorem plc_none {H : List It} {x : Int} (h : ∀ a ∈ H, a.2 ≠ x) : plc H x = -1 := by
  unfold plc
  rw [List.findIdx?_eq_none_iff.2 fun a ha => decide_eq_false (h a ha)]
theorem plc_some {H : List It} {x : Int} {i : Nat} (hi : H[i]?.map (·.2) = some x) (hn : (H.map (·.2)).Nodup) : plc H x = i := by
  have hf : H.findIdx? (fun a => decide (a.2 = x)) = some i := by
    rw [List.findIdx?_eq_some_iff_getElem]
    obtain ⟨a, ha, rfl⟩ := Option.map_eq_some_iff.1 hi
    obtain ⟨hlt, he⟩ := List.getElem?_eq_some_iff.1 ha
    refine ⟨hlt, by simp [he], fun j hj hd => ?_⟩
    have hd' : H[j].2 = a.2 := by simpa using hd
    have := (List.pairwise_iff_getElem.1 hn) j i (by simp; omega) (by simpa using hlt) hj
    simp [hd', he] at this
  unfold plc; rw [hf]
theorem plc_cases (H : List It) (hn : (H.map (·.2)).Nodup) (x : Int) : (plc H x = -1 ∧ ∀ a ∈ H, a.2 ≠ x) ∨ (∃ i : Nat, ∃ a, H[i]? = some a ∧ a.2 = x ∧ plc H x = i) := by
  by_cases h : ∃ a ∈ H, a.2 = x
  · obtain ⟨a, ha, rfl⟩ := h
    obtain ⟨i, hi, he⟩ := List.mem_iff_getElem.1 ha
    have hg : H[i]? = some a := by rw [List.getElem?_eq_getElem hi, he]
    exact .inr ⟨i, a, hg, rfl, plc_some (by rw [hg]; rfl) hn⟩
  · have h' : ∀ a ∈ H, a.2 ≠ x := fun a ha e => h ⟨a, ha, e⟩
    exact .inl ⟨plc_none h', h'⟩
theorem plcs_get (N : Nat) (H : List It) (x : Nat) (hx : x < N) : (plcs N H)[x]? = some (plc H x) := by
  unfold plcs; rw [List.getElem?_map, List.getElem?_range hx]; rfl
theorem Val.perm {N : Nat} {H K : List It} (h : Val N H) (hp : K.Perm H) : Val N K :=
  ⟨fun a ha => h.lo a (hp.mem_iff.1 ha), (hp.map _).nodup_iff.2 h.nd⟩
theorem getD_some {H : List It} {i : Nat} (h : i < H.length) : H[i]? = some (H.getD i z0) := by simp [h]
/-- where all of K but what stands at i and k stands as in H -/
theorem plcs_swp {N : Nat} {H : List It} {i k : Nat} (hv : Val N H) (hi : i < H.length) (hk : k < H.length) :
    ((plcs N H).set ((swp H i k).getD i z0).2.toNat (i : Int)).set ((swp H i k).getD k z0).2.toNat (k : Int) = plcs N (swp H i k) := by
  have hp := swp_perm hi hk
  have hv' := hv.perm hp
  have hl := swp_len H i k
  apply List.ext_getElem?
  intro x
  by_cases hx : x < N
  · rw [plcs_get N _ x hx]
    have gi := getD_some (H := swp H i k) (i := i) (by omega)
    have gk := getD_some (H := swp H i k) (i := k) (by omega)
    obtain ⟨a1, a2⟩ := hv'.lo _ (List.mem_of_getElem? gi)
    obtain ⟨b1, b2⟩ := hv'.lo _ (List.mem_of_getElem? gk)
    by_cases e1 : ((swp H i k).getD k z0).2.toNat = x
    · rw [← e1, List.getElem?_set_self (by rw [List.length_set, plcs_len]; omega)]
      congr 1
      rw [show (((((swp H i k).getD k z0).2.toNat : Nat)) : Int) = ((swp H i k).getD k z0).2 by omega]
      exact (plc_some (by rw [gk]; rfl) hv'.nd).symm
    · rw [List.getElem?_set_ne e1]
      by_cases e2 : ((swp H i k).getD i z0).2.toNat = x
      · rw [← e2, List.getElem?_set_self (by rw [plcs_len]; omega)]
        congr 1
        rw [show (((((swp H i k).getD i z0).2.toNat : Nat)) : Int) = ((swp H i k).getD i z0).2 by omega]
        exact (plc_some (by rw [gi]; rfl) hv'.nd).symm
      · rw [List.getElem?_set_ne e2, plcs_get N _ x hx]
        congr 1
        rcases plc_cases (swp H i k) hv'.nd x with ⟨h1, h2⟩ | ⟨j, a, h1, h2, h3⟩
        · rw [h1]; exact plc_none fun a ha => h2 a (hp.mem_iff.2 ha)
        · rw [h3]
          have hj : j < H.length := by rw [← hl]; exact (List.getElem?_eq_some_iff.1 h1).1
          have hji : j ≠ i := fun e => by subst e; rw [gi] at h1; injection h1 with h1; rw [h1] at e2; omega
          have hjk : j ≠ k := fun e => by subst e; rw [gk] at h1; injection h1 with h1; rw [h1] at e1; omega
          refine plc_some ?_ hv.nd
          have := getD_some (H := swp H i k) (i := j) (by omega)
          rw [swp_get j hi hk, if_neg (Ne.symm hjk), if_neg (Ne.symm hji), h1] at this
          rw [getD_some hj, ← this]
          simpa using h2
  · rw [List.getElem?_eq_none (by simp [plcs_len]; omega), List.getElem?_eq_none (by simp [plcs_len]; omega)]
theorem Val.snoc {N : Nat} {H : List It} (hv : Val N H) {p x : Int} (h0 : 0 ≤ x) (h1 : x < N) (hn : ∀ a ∈ H, a.2 ≠ x) : Val N (H ++ [(p, x)]) := by
  constructor
  · intro a ha
    rcases List.mem_append.1 ha with h | h
    · exact hv.lo a h
    · simp at h; subst h; exact ⟨h0, h1⟩
  · rw [List.map_append, List.nodup_append]
    refine ⟨hv.nd, by simp, ?_⟩
    intro y hy z hz
    simp at hz
    obtain ⟨a, ha, rfl⟩ := List.mem_map.1 hy
    subst hz; exact hn a ha
theorem plcs_snoc {N : Nat} {H : List It} (hv : Val N H) {p x : Int} (h0 : 0 ≤ x) (h1 : x < N) (hn : ∀ a ∈ H, a.2 ≠ x) :
    (plcs N H).set x.toNat (H.length : Int) = plcs N (H ++ [(p, x)]) := by
  have hv' := hv.snoc (p := p) h0 h1 hn
  apply List.ext_getElem?
  intro y
  by_cases hy : y < N
  · rw [plcs_get N _ y hy]
    by_cases e : x.toNat = y
    · subst e
      rw [List.getElem?_set_self (by rw [plcs_len]; omega), show ((x.toNat : Nat) : Int) = x by omega]
      congr 1
      exact (plc_some (by simp) hv'.nd).symm
    · rw [List.getElem?_set_ne e, plcs_get N _ y hy]
      congr 1
      rcases plc_cases H hv.nd y with ⟨h1, h2⟩ | ⟨j, a, h1, h2, h3⟩
      · rw [h1]
        refine (plc_none fun a ha => ?_).symm
        rcases List.mem_append.1 ha with h | h
        · exact h2 a h
        · simp at h; subst h; simp only; omega
      · rw [h3]
        refine (plc_some ?_ hv'.nd).symm
        rw [List.getElem?_append_left (List.getElem?_eq_some_iff.1 h1).1, h1]; simp [h2]
  · rw [List.getElem?_eq_none (by simp [plcs_len]; omega), List.getElem?_eq_none (by simp [plcs_len]; omega)]
theorem Val.front {N : Nat} {H : List It} {a : It} (hv : Val N (H ++ [a])) : Val N H := by
  refine ⟨fun b hb => hv.lo b (List.mem_append_left _ hb), ?_⟩
  have := hv.nd
  rw [List.map_append, List.nodup_append] at this
  exact this.1
theorem Val.last_ne {N : Nat} {H : List It} {a : It} (hv : Val N (H ++ [a])) : ∀ b ∈ H, b.2 ≠ a.2 := by
  intro b hb
  have := hv.nd
  rw [List.map_append, List.nodup_append] at this
  exact this.2.2 b.2 (List.mem_map_of_mem hb) a.2 (by simp)
theorem plcs_pop {N : Nat} {H : List It} {a : It} (hv : Val N (H ++ [a])) : (plcs N (H ++ [a])).set a.2.toNat (-1) = plcs N H := by
  obtain ⟨a1, a2⟩ := hv.lo a (by simp)
  rw [← plcs_snoc (p := a.1) (x := a.2) hv.front a1 a2 hv.last_ne, List.set_set]
  apply List.ext_getElem?
  intro y
  by_cases e : a.2.toNat = y
  · subst e
    rw [List.getElem?_set_self (by rw [plcs_len]; omega), plcs_get N _ _ (by omega), show ((a.2.toNat : Nat) : Int) = a.2 by omega, plc_none hv.last_ne]
  · rw [List.getElem?_set_ne e]
theorem set_snd {H : List It} {i : Nat} (p : Int) (hi : i < H.length) : (H.set i (p, (H.getD i z0).2)).map (·.2) = H.map (·.2) := by
  rw [List.map_set]
  apply List.ext_getElem?
  intro j
  rw [List.getElem?_set]
  split
  · rename_i h; subst h; simp [hi]
  · rfl
theorem plc_congr {H K : List It} (h : H.map (·.2) = K.map (·.2)) (x : Int) : plc H x = plc K x := by
  have e : ∀ L : List It, L.findIdx? (fun a => decide (a.2 = x)) = (L.map (·.2)).findIdx? (fun y => decide (y = x)) := fun L => by rw [List.findIdx?_map]; rfl
  unfold plc; rw [e, e, h]
theorem plcs_setp {N : Nat} {H : List It} {i : Nat} (p : Int) (hi : i < H.length) : plcs N (H.set i (p, (H.getD i z0).2)) = plcs N H := by
  unfold plcs
  exact List.map_congr_left fun x _ => plc_congr (set_snd p hi) x
theorem Val.setp {N : Nat} {H : List It} {i : Nat} (hv : Val N H) (p : Int) (hi : i < H.length) : Val N (H.set i (p, (H.getD i z0).2)) := by
  refine ⟨fun a ha => ?_, by rw [set_snd p hi]; exact hv.nd⟩
  have hm : a.2 ∈ (H.set i (p, (H.getD i z0).2)).map (·.2) := List.mem_map_of_mem ha
  rw [set_snd p hi] at hm
  obtain ⟨b, hb, he⟩ := List.mem_map.1 hm
  rw [← he]; exact hv.lo b hb
/-- as cells -/
def itv (a : It) : List Value := [.int .i64 a.1, .int .i64 a.2]
def flat (H : List It) : List Value := H.flatMap itv
theorem flat_len2 (H : List It) : (flat H).length = H.length * 2 := by
  unfold flat
  induction H with
  | nil => rfl
  | cons a H ih => rw [List.flatMap_cons, List.length_append, ih, List.length_cons]; simp [itv]; omega
theorem flat_at {H : List It} {i : Nat} {a : It} (h : H[i]? = some a) : (flat H)[i * 2]? = some (.int .i64 a.1) ∧ (flat H)[i * 2 + 1]? = some (.int .i64 a.2) := by
  induction H generalizing i with
  | nil => simp at h
  | cons b H ih =>
    unfold flat
    rw [List.flatMap_cons]
    cases i with
    | zero => simp at h; subst h; exact ⟨rfl, rfl⟩
    | succ i =>
      simp at h
      rw [show (i + 1) * 2 = i * 2 + 2 by omega, List.getElem?_append_right (by simp [itv]), List.getElem?_append_right (by simp [itv])]
      have := ih h
      unfold flat at this
      simpa [itv] using this
theorem flat_set {H : List It} {i : Nat} (a : It) (hi : i < H.length) : ((flat H).set (i * 2) (.int .i64 a.1)).set (i * 2 + 1) (.int .i64 a.2) = flat (H.set i a) := by
  induction H generalizing i with
  | nil => simp at hi
  | cons b H ih =>
    unfold flat
    cases i with
    | zero => simp [itv]
    | succ i =>
      rw [List.set_cons_succ, List.flatMap_cons, List.flatMap_cons, show (i + 1) * 2 = i * 2 + 2 by omega]
      have hb : itv b = [.int .i64 b.1, .int .i64 b.2] := rfl
      rw [hb]
      simp only [List.cons_append, List.nil_append, List.set_cons_succ]
      have := ih (i := i) (by simpa using hi)
      unfold flat at this
      rw [this]
theorem flat_setp {H : List It} {i : Nat} (p : Int) (hi : i < H.length) : (flat H).set (i * 2) (.int .i64 p) = flat (H.set i (p, (H.getD i z0).2)) := by
  rw [← flat_set _ hi]
  apply List.ext_getElem?
  intro j
  rw [List.getElem?_set (i := i * 2 + 1)]
  split
  · rename_i h
    subst h
    rw [List.getElem?_set_ne (by omega), (flat_at (getD_some hi)).2]
    simp [flat_len2]; omega
  · rfl
theorem flat_snoc (H : List It) (a : It) : flat (H ++ [a]) = flat H ++ [.int .i64 a.1, .int .i64 a.2] := by
  unfold flat; rw [List.flatMap_append]; simp [itv]
end Go.Proofs.Ythjfboecdhlnfaa.que
