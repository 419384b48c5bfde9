/- The document's All (after seat 03's texts). -/
import Derived.Test.YtafdijfbgkcnnaaDoorNums
import Derived.Test.YtafdijfbgkcnnaaDoorChecked
import Derived.ProofKit
import Derived.OpenShut
import Derived.WalkKit
import Derived.Deep.Cut
namespace Go.Proofs.YtafdijfbgkcnnaaDoor.shp
open Go Go.RowKit Go.ChangeShapes Go.WideShapes Go.ChangeAt Go.Proofs.YtafdijfbgkcnnaaDoor.words
set_option linter.unusedVariables false
theorem infoI : (Tryd.prog.info? 3).map (fun i => (i.zero, i.size, i.bytes)) = some (some (.int .i64 0), 1, 8) := by kernel_rfl
def prodI (xs : List Int) : Int := xs.foldl (fun n k => n * k) 1
theorem fold_mul (xs : List Int) (n : Int) : xs.foldl (fun n k => n * k) n = n * prodI xs := by
  unfold prodI
  induction xs generalizing n with
  | nil => simp
  | cons x xs ih => rw [List.foldl_cons, List.foldl_cons, ih (n * x), ih (1 * x), Int.one_mul, Int.mul_assoc]
theorem prodI_cons (x : Int) (xs : List Int) : prodI (x :: xs) = x * prodI xs := by
  rw [prodI, List.foldl_cons, fold_mul, Int.one_mul]
theorem prodI_append (xs ys : List Int) : prodI (xs ++ ys) = prodI xs * prodI ys := by
  rw [prodI, List.foldl_append, fold_mul]; rfl
theorem prod_snoc (xs : List Int) (j : Nat) (x : Int) (h : xs[j]? = some x) : prodI (xs.take (j + 1)) = prodI (xs.take j) * x := by
  rw [List.take_add_one, h, prodI_append]; simp [prodI]
/-- sizes as a shape has them -/
def Szs (xs : List Int) : Prop := xs.length ≤ 6 ∧ ∀ k ∈ xs, 1 ≤ k ∧ k ≤ 32
theorem prod_bd (xs : List Int) (h : ∀ k ∈ xs, 1 ≤ k ∧ k ≤ 32) : 1 ≤ prodI xs ∧ prodI xs ≤ 32 ^ xs.length := by
  induction xs with
  | nil => exact ⟨by decide, by decide⟩
  | cons x xs ih =>
    obtain ⟨h1, h2⟩ := h x (List.mem_cons_self ..)
    obtain ⟨i1, i2⟩ := ih fun k hk => h k (List.mem_cons_of_mem _ hk)
    rw [prodI_cons, List.length_cons, Int.pow_succ]
    refine ⟨?_, ?_⟩
    · have : 1 * 1 ≤ x * prodI xs := Int.mul_le_mul h1 i1 (by omega) (by omega)
      omega
    · have : x * prodI xs ≤ 32 * 32 ^ xs.length := Int.mul_le_mul h2 i2 (by omega) (by omega)
      rw [Int.mul_comm (32 ^ xs.length) 32]; exact this
theorem szs_prod {xs : List Int} (h : Szs xs) : 1 ≤ prodI xs ∧ prodI xs ≤ 1073741824 := by
  obtain ⟨h1, h2⟩ := prod_bd xs h.2
  refine ⟨h1, Int.le_trans h2 ?_⟩
  have : (32 : Int) ^ xs.length ≤ 32 ^ 6 := by exact_mod_cast Nat.pow_le_pow_right (by omega) h.1
  exact this
theorem szs_take {xs : List Int} (h : Szs xs) (j : Nat) : Szs (xs.take j) := ⟨by have := h.1; simp; omega, fun k hk => h.2 k (List.mem_of_mem_take hk)⟩
theorem szs_drop {xs : List Int} (h : Szs xs) (j : Nat) : Szs (xs.drop j) := ⟨by have := h.1; simp; omega, fun k hk => h.2 k (List.mem_of_mem_drop hk)⟩
theorem infoR : (Tryd.prog.info? 23).map (fun i => (i.zero, i.size, i.bytes)) = some (some (.slice none 0 0), 1, 24) := by kernel_rfl
theorem own_keep {w w' : World} {base base' : Nat} {e e' : TypeId} {s s' n n' : Nat} {v v' : Value} {xs ys : List Value} (ho : w.ownsRow base e s v n xs) (ho' : w.ownsRow base' e' s' v' n' ys) (he : e ≠ e') (hg : w.grownBy w' v'.ownBlock) : w'.ownsRow base e s v n xs := by
  refine ho.kept hg ?_
  rcases ho.2 with ⟨rfl, _⟩ | ⟨g, cap, cur, rfl, _, hh, _⟩
  · exact .inl rfl
  · rcases ho'.2 with ⟨rfl, _⟩ | ⟨g', cap', cur', rfl, _, hh', _⟩
    · exact .inr (by simp [Value.ownBlock])
    · refine .inr fun hc => ?_
      simp only [Value.ownBlock, Option.some.injEq] at hc
      subst hc
      rw [hh] at hh'
      cases hh'
      exact he rfl
/-- the inner rows, each its own -/
def Inn (w : World) (base : Nat) (vs : List Value) (L : List (List Int)) : Prop :=
  vs.length = L.length ∧ ∀ (i : Nat) (t : List Int), L[i]? = some t → ∃ A c, vs[i]? = some (.slice A t.length c) ∧ w.ownsRow base 3 1 (.slice A t.length c) t.length (nums t)
theorem Inn.nil (w : World) (base : Nat) : Inn w base [] [] := ⟨rfl, fun i t h => by simp at h⟩
theorem Inn.under {w w' : World} {base : Nat} {vs : List Value} {L : List (List Int)} (h : Inn w base vs L) (hb : Below w.heap.size w w') : Inn w' base vs L :=
  ⟨h.1, fun i t ht => by obtain ⟨A, c, h1, h2⟩ := h.2 i t ht; exact ⟨A, c, h1, own_under h2 hb⟩⟩
theorem Inn.keep {w w' : World} {base base' : Nat} {vs : List Value} {L : List (List Int)} {v : Value} {n : Nat} {ys : List Value} (h : Inn w base vs L) (ho : w.ownsRow base' 23 1 v n ys) (hg : w.grownBy w' v.ownBlock) : Inn w' base vs L :=
  ⟨h.1, fun i t ht => by obtain ⟨A, c, h1, h2⟩ := h.2 i t ht; exact ⟨A, c, h1, own_keep h2 ho (by decide) hg⟩⟩
theorem Inn.snoc {w : World} {base : Nat} {vs : List Value} {L : List (List Int)} {A : Option Addr} {c : Nat} {t : List Int} (h : Inn w base vs L) (ho : w.ownsRow base 3 1 (.slice A t.length c) t.length (nums t)) : Inn w base (vs ++ [.slice A t.length c]) (L ++ [t]) := by
  refine ⟨by simp [h.1], fun i u hu => ?_⟩
  by_cases hi : i < L.length
  · rw [List.getElem?_append_left hi] at hu
    obtain ⟨A', c', h1, h2⟩ := h.2 i u hu
    exact ⟨A', c', by rw [List.getElem?_append_left (by rw [h.1]; exact hi)]; exact h1, h2⟩
  · rw [List.getElem?_append_right (by omega)] at hu
    have : i = L.length := by
      have := (List.getElem?_eq_some_iff.1 hu).1
      simp at this; omega
    subst this
    simp at hu
    subst hu
    exact ⟨A, c, by rw [← h.1]; simp, ho⟩
theorem Inn.base {w : World} {base base' : Nat} {vs : List Value} {L : List (List Int)} (h : Inn w base vs L) (hb : base' ≤ base) : Inn w base' vs L :=
  ⟨h.1, fun i t ht => by obtain ⟨A, c, h1, h2⟩ := h.2 i t ht; exact ⟨A, c, h1, own_base h2 hb⟩⟩
def RowsI (w : World) (base : Nat) (A : Option Addr) (c : Nat) (L : List (List Int)) : Prop := ∃ vs, w.ownsRow base 23 1 (.slice A L.length c) L.length vs ∧ Inn w base vs L
theorem RowsI.under {w w' : World} {base : Nat} {A : Option Addr} {c : Nat} {L : List (List Int)} (h : RowsI w base A c L) (hb : Below w.heap.size w w') : RowsI w' base A c L := by
  obtain ⟨vs, h1, h2⟩ := h; exact ⟨vs, own_under h1 hb, h2.under hb⟩
theorem RowsI.base {w : World} {b b' : Nat} {A : Option Addr} {c : Nat} {L : List (List Int)} (h : RowsI w b A c L) (hb : b' ≤ b) : RowsI w b' A c L := by
  obtain ⟨vs, h1, h2⟩ := h; exact ⟨vs, own_base h1 hb, h2.base hb⟩
/-- one row, read -/
theorem RowsI.at_ {w : World} {base : Nat} {A : Option Addr} {c : Nat} {L : List (List Int)} (h : RowsI w base A c L) {i : Nat} {t : List Int} (ht : L[i]? = some t) :
    ∃ g A' c', A = some ⟨g, 0, none⟩ ∧ w.cell? ⟨g, i, none⟩ = some (.slice A' t.length c') ∧ Reads w w.heap.size 1 A' t.length (nums t) ∧ t.length ≤ c' ∧ w.ownsRow base 3 1 (.slice A' t.length c') t.length (nums t) ∧ L.length ≤ c := by
  obtain ⟨vs, h1, h2⟩ := h
  have hl := (List.getElem?_eq_some_iff.1 ht).1
  obtain ⟨A', c', h3, h4⟩ := h2.2 i t ht
  obtain ⟨g, rfl, _, _⟩ := own_some h1 (by omega)
  exact ⟨g, A', c', rfl, (h1.cellAt i (by omega)).trans h3, Reads.of_own h4, own_cap h4, h4, own_cap h1⟩
/-- all tuples -/
def allI : List Int → List (List Int)
  | [] => [[]]
  | x :: xs => (List.range x.toNat).flatMap fun (v : Nat) => (allI xs).map fun t => (v : Int) :: t
def preI (R : List (List Int)) (v : Nat) : List (List Int) := (List.range v).flatMap fun (u : Nat) => R.map fun t => (u : Int) :: t
theorem pre_succ (R : List (List Int)) (v : Nat) : preI R (v + 1) = preI R v ++ R.map fun t => (v : Int) :: t := by
  unfold preI; rw [List.range_succ, List.flatMap_append]; simp
def soI (R : List (List Int)) (v j : Nat) : List (List Int) := preI R v ++ (R.take j).map fun t => (v : Int) :: t
theorem so_zero (R : List (List Int)) (v : Nat) : soI R v 0 = preI R v := by unfold soI; simp
theorem so_all (R : List (List Int)) (v : Nat) : soI R v R.length = preI R (v + 1) := by unfold soI; rw [List.take_length, pre_succ]
theorem so_snoc {R : List (List Int)} {v j : Nat} {t : List Int} (h : R[j]? = some t) : soI R v (j + 1) = soI R v j ++ [(v : Int) :: t] := by
  unfold soI; rw [List.take_add_one, h, List.map_append]; simp
theorem pre_len (R : List (List Int)) (v : Nat) : (preI R v).length = v * R.length := by
  induction v with
  | zero => simp [preI]
  | succ v ih => rw [pre_succ, List.length_append, ih, List.length_map, Nat.succ_mul]
theorem pre_at {R : List (List Int)} {v u j : Nat} {t : List Int} (hu : u < v) (hj : R[j]? = some t) : (preI R v)[u * R.length + j]? = some ((u : Int) :: t) := by
  have hl := (List.getElem?_eq_some_iff.1 hj).1
  induction v with
  | zero => omega
  | succ v ih =>
    rw [pre_succ]
    by_cases hv : u < v
    · have hlt : u * R.length + j < v * R.length := by
        have := Nat.mul_le_mul_right R.length hv
        rw [Nat.succ_mul] at this; omega
      rw [List.getElem?_append_left (by rw [pre_len]; exact hlt)]
      exact ih hv
    · obtain rfl : u = v := by omega
      rw [List.getElem?_append_right (by rw [pre_len]; omega), pre_len, Nat.add_sub_cancel_left, List.getElem?_map, hj]
      rfl
theorem all_cons (x : Int) (xs : List Int) : allI (x :: xs) = preI (allI xs) x.toNat := rfl
theorem all_len {xs : List Int} (h : ∀ x ∈ xs, 1 ≤ x) : ((allI xs).length : Int) = prodI xs := by
  induction xs with
  | nil => rfl
  | cons x xs ih =>
    have hx := h x (by simp)
    rw [all_cons, pre_len, prodI_cons, Int.natCast_mul, ih fun y hy => h y (by simp [hy])]
    congr 1; omega
theorem all_lens {xs : List Int} : ∀ t ∈ allI xs, t.length = xs.length := by
  induction xs with
  | nil => intro t ht; simp [allI] at ht; subst ht; rfl
  | cons x xs ih =>
    intro t ht
    simp only [allI, List.mem_flatMap, List.mem_map] at ht
    obtain ⟨v, _, t', ht', rfl⟩ := ht
    simp [ih t' ht']
/-- a number's tuple goes by what is left of the number -/
def AllOf (xs : List Int) (w : World) (e : Ending) (w' : World) : Prop := ∃ A c, e = .returned (.slice A (allI xs).length c) ∧ RowsI w' w.heap.size A c (allI xs) ∧ Below w.heap.size w w'
/-- what stands between the rounds -/
def Mid (w wr : World) (Ar : Option Addr) (cr : Nat) (R : List (List Int)) (Ao : Option Addr) (co : Nat) (L : List (List Int)) : Prop :=
  RowsI wr w.heap.size Ar cr R ∧ RowsI wr w.heap.size Ao co L ∧ (∀ q, (Value.slice Ao L.length co).ownBlock = some q → (Value.slice Ar R.length cr).ownBlock ≠ some q) ∧ Below w.heap.size w wr
/-- one more row -/
theorem Mid.push {vo : List Value} {w wr w2 w4 : World} {Ar Ao A2 A4 : Option Addr} {cr co c2 c4 : Nat} {R L : List (List Int)} {v : Int} {t : List Int} (h : RowsI wr w.heap.size Ar cr R ∧ (wr.ownsRow w.heap.size 23 1 (.slice Ao L.length co) L.length vo ∧ Inn wr w.heap.size vo L) ∧ (∀ q, (Value.slice Ao L.length co).ownBlock = some q → (Value.slice Ar R.length cr).ownBlock ≠ some q) ∧ Below w.heap.size w wr)
    (h2 : w2.ownsRow wr.heap.size 3 1 (.slice A2 (1 + t.length) c2) (1 + t.length) (nums (v :: t))) (hg2 : (wr.alloc (.cells #[.int .i64 v] 3)).grownBy w2 (some wr.heap.size))
    (h4 : w4.ownsRow w.heap.size 23 1 (.slice A4 (L.length + 1) c4) (L.length + 1) (vo ++ [.slice A2 (1 + t.length) c2])) (hg4 : (w2.alloc (.cells #[.slice A2 (1 + t.length) c2] 23)).grownBy w4 (Value.slice Ao L.length co).ownBlock)
    (hat : (Value.slice A4 (L.length + 1) c4).ownBlock = (Value.slice Ao L.length co).ownBlock ∨ (Value.slice A4 (L.length + 1) c4).ownBlock = some (w2.heap.size + 1)) :
    Mid w w4 Ar cr R A4 c4 (L ++ [v :: t]) := by
  obtain ⟨⟨vr, r1, r2⟩, ⟨o1, o2⟩, hap, hb⟩ := h
  have hb2 : Below wr.heap.size wr w2 := (bone wr (.cells #[.int .i64 v] 3)).grown hg2 (by simp) (by simp)
  have hb3 : Below wr.heap.size wr (w2.alloc (.cells #[.slice A2 (1 + t.length) c2] 23)) := bnew hb2 _
  have o3 := own_under o1 hb3
  have r3 := own_under r1 hb3
  have i3 := o2.under hb3
  have j3 := r2.under hb3
  have n3 := h2.alloc (.cells #[.slice A2 (1 + t.length) c2] 23)
  have i4 := i3.keep o3 hg4
  have j4 := j3.keep o3 hg4
  have n4 := own_keep n3 o3 (by decide) hg4
  have hlt := hb.size
  have r4 : w4.ownsRow w.heap.size 23 1 (.slice Ar R.length cr) R.length vr := by
    refine r3.kept hg4 ?_
    cases hq : (Value.slice Ar R.length cr).ownBlock with
    | none => exact .inl rfl
    | some q => exact .inr fun e => hap q e.symm hq
  refine ⟨⟨vr, r4, j4⟩, ⟨vo ++ [.slice A2 (1 + t.length) c2], ?_, ?_⟩, ?_, ?_⟩
  · rw [List.length_append]; exact h4
  · have : Inn w4 w.heap.size (vo ++ [.slice A2 (v :: t).length c2]) (L ++ [v :: t]) := i4.snoc (own_base (by rw [show (v :: t).length = 1 + t.length by simp; omega]; exact n4) hlt)
    rw [show (v :: t).length = 1 + t.length by simp; omega] at this
    exact this
  · intro q hq e
    rw [List.length_append] at hq
    rcases hat with h | h
    · exact hap q (h.symm.trans hq) e
    · have hq' : q = w2.heap.size + 1 := by
        have := h.symm.trans hq
        injection this with this
        exact this.symm
      have := (own_in r1 e).2
      have := hb2.size
      omega
  · exact (hb.trans (hb3.mono hlt)).grown hg4 (by have := hb3.size; omega) fun k hk => (own_in o3 hk).1
set_option maxRecDepth 100000 in
set_option maxHeartbeats 4000000 in
theorem ref_all (xs : List Int) : ∀ (A : Option Addr) (n cap : Nat) (w : World), n ≤ cap → Reads w w.heap.size 1 A n (nums xs) → Szs xs → Calls Tryd.prog 17 #[.slice A n cap] w (AllOf xs w) := by
  obtain ⟨i0, hi0, hz0, hz1, hz2⟩ := info_parts infoI
  obtain ⟨i1, hj0, hy0, hy1, hy2⟩ := info_parts infoR
  induction xs with
  | nil =>
    intro A n cap w hnc hr hz
    obtain rfl : n = 0 := by have := nums_len hr; simpa using this.symm
    go_enter Tryd.func17, Tryd.ntmps17
    go_wp2
    go_ret
    exact ⟨some ⟨w.heap.size, 0, none⟩, 1, rfl, ⟨[.slice none 0 0], World.ownsRow_lit w _ 1 (Nat.le_refl _) (by unfold maxLen; omega) rfl, Inn.snoc (t := []) (Inn.nil _ _) (World.ownsRow_nil _ _ _ _)⟩, bone _ _⟩
  | cons x xs ih =>
    intro A n cap w hnc hr hz
    have hlen := nums_len hr
    rw [List.length_cons] at hlen
    have hz1' := hz.1
    rw [List.length_cons] at hz1'
    have hx0 := hz.2 x (by simp)
    obtain ⟨X, rfl⟩ : ∃ X : Nat, x = X := ⟨x.toNat, by omega⟩
    have hz' : Szs xs := szs_drop hz 1
    have hcut := reads_cut hr (k := 1) (by omega) hnc (by omega)
    have hRl : (allI xs).length ≤ 1073741824 := by have h1 := all_len (xs := xs) fun y hy => (hz'.2 y hy).1; have h2 := szs_prod hz'; omega
    have hRt : ∀ t ∈ allI xs, t.length ≤ 6 := fun t ht => by rw [all_lens t ht]; omega
    obtain ⟨ad, x', hA, _, _, _⟩ := hr.num (k := 0) (by omega)
    subst hA
    simp only [Option.map] at hcut
    unfold AllOf
    rw [all_cons]
    unfold AllOf at ih
    obtain ⟨R, hR⟩ : ∃ R, allI xs = R := ⟨_, rfl⟩
    rw [hR] at ih hRl hRt ⊢
    rw [Int.toNat_natCast]
    clear hR
    by_cases hck : cap = 1
    · have hx' := hcut.1 hck
      subst hck
      obtain rfl : n = 1 := by omega
      have hci := fun w' A' m c' hm h => ih A' m c' w' hm h hz'
      clear hcut ih
      go_enter Tryd.func17, Tryd.ntmps17
      go_wp2_with (first
        | (go_at_call 17; (with_reducible refine (hci _ _ _ _ (by omega) hx').mono ?_); rintro e w1 ⟨A1, c1, rfl, hR1, hb1⟩))
      have HRL := Lib.hid hRl
      have HRT := Lib.hid hRt
      clear hRl hRt
      go_loopw [3, 5, 7, 24] (fun ov iv _ _ wr => ∃ (v : Nat) (Ao : Option Addr) (co : Nat), v ≤ X ∧ iv = .int .i64 v ∧ ov = .slice Ao (preI R v).length co ∧ Mid w wr A1 c1 R Ao co (preI R v)) (fun _ iv _ _ _ => X - (intOf iv).toNat)
      case atStart => exact ⟨0, none, 0, Nat.zero_le _, rfl, rfl, hR1, ⟨[], World.ownsRow_nil _ _ _ _, Inn.nil _ _⟩, fun q h => by simp [Value.ownBlock] at h, hb1⟩
      case round =>
        clear hR1 hb1
        obtain ⟨v, Ao, co, hv, rfl, rfl, hM⟩ := hrel
        obtain ⟨ad', x', hA, _, hx, hc⟩ := (hr.below hM.2.2.2).num (k := 0) (by omega)
        obtain rfl : ad = ad' := Option.some.inj hA
        obtain rfl : x' = (X : Int) := by simpa using hx.symm
        rw [show ad.add 0 = ad by simp [Addr.add]] at hc
        by_cases hlt : v < X
        · have hltI : (v : Int) < (X : Int) := by omega
          go_wp2
          rw [← so_zero] at hM ⊢
          go_loopw [3, 7, 24] (fun ov _ jv wr => ∃ (j : Nat) (Ao : Option Addr) (co : Nat), j ≤ R.length ∧ jv = .int .i64 j ∧ ov = .slice Ao (soI R v j).length co ∧ Mid w wr A1 c1 R Ao co (soI R v j)) (fun _ _ jv _ => R.length - (intOf jv).toNat)
          case atStart => exact ⟨0, Ao, co, Nat.zero_le _, rfl, rfl, hM⟩
          case round =>
            clear hM hc
            rename_i Ao0 co0
            obtain ⟨j, Ao, co, hj, rfl, rfl, hM⟩ := hrel
            by_cases hltj : j < R.length
            · obtain ⟨t, ht⟩ : ∃ t, R[j]? = some t := ⟨_, List.getElem?_eq_getElem hltj⟩
              obtain ⟨g, A', c', rfl, hcj, hrt0, htc, _, hRc⟩ := hM.1.at_ ht
              have htl := HRT.out t (List.mem_of_getElem? ht)
              have HS := Lib.hid (so_snoc (v := v) ht)
              have hLl : (soI R v j).length = v * R.length + j := by
                unfold soI; rw [List.length_append, pre_len, List.length_map, List.length_take]; omega
              have hLb : (soI R v j).length ≤ 100000000000 := by
                have h1 : v * R.length ≤ 32 * 1073741824 := Nat.mul_le_mul (by omega) HRL.out
                have h2 := HRL.out
                omega
              obtain ⟨L, hL⟩ : ∃ L, soI R v j = L := ⟨_, rfl⟩
              rw [hL] at hM HS hLb ⊢
              clear hL hLl
              obtain ⟨hm1, ⟨vo, hm2, hm3⟩, hm4, hm5⟩ := hM
              have HM := Lib.hid (And.intro hm1 (And.intro (And.intro hm2 hm3) (And.intro hm4 hm5)))
              have ho1 : (wr.alloc (.cells #[.int .i64 v] 3)).ownsRow wr.heap.size 3 1 (.slice (some ⟨wr.heap.size, 0, none⟩) 1 1) 1 (nums [(v : Int)]) := World.ownsRow_lit wr _ 1 (Nat.le_refl _) (by unfold maxLen; omega) rfl
              have hrt : Reads (wr.alloc (.cells #[.int .i64 v] 3)) (wr.alloc (.cells #[.int .i64 v] 3)).heap.size 1 A' t.length (nums t) := (hrt0.alloc (Nat.le_refl _) _).more (by simp)
              have HT := Lib.hid ht
              have HO2 := Lib.hid hm2
              have hws := hm5.size
              clear hm1 hm2 hm3 hm4 hm5 hrt0 ht
              have hR30 := HRL.out
              go_upto_region 11 with fail
              go_wp2_with (first
                | (at_builtin; refine wpList_append_any _ rfl (.tmp 30) (.tmp 31) _ rfl wr.heap.size 3 i0 _ 1 8 Tryd.underlying23 hi0 hz0 hz1 hz2 rfl (by omega) _ 1 _ rfl ho1 (wr.alloc (.cells #[.int .i64 v] 3)).heap.size A' t.length c' (nums t) rfl hrt nums_one (by simp only [maxLen]; omega) (by omega) (by simp) ?_; intro v2 w2 hown2 hg2 hat2; clear hat2; obtain ⟨A2, c2, rfl⟩ := own_shape hown2; have hb2 : Below wr.heap.size wr w2 := (bone wr (.cells #[.int .i64 v] 3)).grown (show (wr.alloc (.cells #[.int .i64 v] 3)).grownBy w2 (some wr.heap.size) from hg2) (by simp) (by simp); have ho3 := own_under HO2.out (bnew hb2 (.cells #[.slice A2 (1 + t.length) c2] 23)); have hr3 : Reads (w2.alloc (.cells #[.slice A2 (1 + t.length) c2] 23)) (w2.alloc (.cells #[.slice A2 (1 + t.length) c2] 23)).heap.size 1 (some ⟨w2.heap.size, 0, none⟩) 1 [.slice A2 (1 + t.length) c2] := reads_block (t := 23) (heap_alloc_new _ _) rfl; have hs3 : w.heap.size ≤ (w2.alloc (.cells #[.slice A2 (1 + t.length) c2] 23)).heap.size := (by have := hb2.size; simp; omega); have HW2 := Lib.hid hown2; have HG2 := Lib.hid hg2; clear hown2 hg2 hb2 ho1 hrt)
                | (at_builtin; refine wpList_append_any _ rfl (.tmp 28) (.tmp 33) _ rfl w.heap.size 23 i1 _ 1 24 Tryd.underlying47 hj0 hy0 hy1 hy2 rfl (by omega) (.slice Ao L.length co) L.length _ rfl ho3 (w2.alloc (.cells #[.slice A2 (1 + t.length) c2] 23)).heap.size (some ⟨w2.heap.size, 0, none⟩) 1 1 [.slice A2 (1 + t.length) c2] rfl hr3 (fun u hu => by simp at hu; subst hu; rfl) (by simp only [maxLen]; omega) (by omega) hs3 ?_; intro v4 w4 hown4 hg4 hat4; obtain ⟨A4, c4, rfl⟩ := own_shape hown4; have HW4 := Lib.hid hown4; have HG4 := Lib.hid hg4; have HA4 := Lib.hid hat4; clear hown4 hg4 hat4 ho3 hr3))
              go_roundw
              case rel =>
                have hn : nums [(v : Int)] ++ nums t = nums ((v : Int) :: t) := rfl
                have h2 := HW2.out
                rw [hn] at h2
                have hM4 := Mid.push HM.out h2 HG2.out HW4.out HG4.out (by have h := HA4.out; rw [show (w2.alloc (.cells #[.slice A2 (1 + t.length) c2] 23)).heap.size = w2.heap.size + 1 by simp] at h; exact h)
                rw [← HS.out] at hM4
                have hl : (soI R v (j + 1)).length = L.length + 1 := by rw [HS.out]; simp
                exact ⟨j + 1, A4, c4, by omega, by go_num, by rw [hl], hM4⟩
              case measure => simp [intOf]; omega
            · obtain rfl : j = R.length := by omega
              rw [so_all] at hM ⊢
              go_wp2
              go_roundw
              case rel => exact ⟨v + 1, Ao, co, by omega, by go_num, rfl, hM⟩
              case measure => simp [intOf]; omega
        · obtain rfl : v = X := by omega
          go_wp2
          go_ret
          exact ⟨Ao, co, rfl, ⟨_, hM.2.1.choose_spec.1, hM.2.1.choose_spec.2⟩, hM.2.2.2⟩
    · have hx' := hcut.2 hck
      have hci := fun w' A' m c' hm h => ih A' m c' w' hm h hz'
      clear hcut ih
      go_enter Tryd.func17, Tryd.ntmps17
      go_wp2_with (first
        | (go_at_call 17; (with_reducible refine (hci _ _ _ _ (by omega) hx').mono ?_); rintro e w1 ⟨A1, c1, rfl, hR1, hb1⟩))
      have HRL := Lib.hid hRl
      have HRT := Lib.hid hRt
      clear hRl hRt
      go_loopw [3, 5, 7, 24] (fun ov iv _ _ wr => ∃ (v : Nat) (Ao : Option Addr) (co : Nat), v ≤ X ∧ iv = .int .i64 v ∧ ov = .slice Ao (preI R v).length co ∧ Mid w wr A1 c1 R Ao co (preI R v)) (fun _ iv _ _ _ => X - (intOf iv).toNat)
      case atStart => exact ⟨0, none, 0, Nat.zero_le _, rfl, rfl, hR1, ⟨[], World.ownsRow_nil _ _ _ _, Inn.nil _ _⟩, fun q h => by simp [Value.ownBlock] at h, hb1⟩
      case round =>
        clear hR1 hb1
        obtain ⟨v, Ao, co, hv, rfl, rfl, hM⟩ := hrel
        obtain ⟨ad', x', hA, _, hx, hc⟩ := (hr.below hM.2.2.2).num (k := 0) (by omega)
        obtain rfl : ad = ad' := Option.some.inj hA
        obtain rfl : x' = (X : Int) := by simpa using hx.symm
        rw [show ad.add 0 = ad by simp [Addr.add]] at hc
        by_cases hlt : v < X
        · have hltI : (v : Int) < (X : Int) := by omega
          go_wp2
          rw [← so_zero] at hM ⊢
          go_loopw [3, 7, 24] (fun ov _ jv wr => ∃ (j : Nat) (Ao : Option Addr) (co : Nat), j ≤ R.length ∧ jv = .int .i64 j ∧ ov = .slice Ao (soI R v j).length co ∧ Mid w wr A1 c1 R Ao co (soI R v j)) (fun _ _ jv _ => R.length - (intOf jv).toNat)
          case atStart => exact ⟨0, Ao, co, Nat.zero_le _, rfl, rfl, hM⟩
          case round =>
            clear hM hc
            rename_i Ao0 co0
            obtain ⟨j, Ao, co, hj, rfl, rfl, hM⟩ := hrel
            by_cases hltj : j < R.length
            · obtain ⟨t, ht⟩ : ∃ t, R[j]? = some t := ⟨_, List.getElem?_eq_getElem hltj⟩
              obtain ⟨g, A', c', rfl, hcj, hrt0, htc, _, hRc⟩ := hM.1.at_ ht
              have htl := HRT.out t (List.mem_of_getElem? ht)
              have HS := Lib.hid (so_snoc (v := v) ht)
              have hLl : (soI R v j).length = v * R.length + j := by
                unfold soI; rw [List.length_append, pre_len, List.length_map, List.length_take]; omega
              have hLb : (soI R v j).length ≤ 100000000000 := by
                have h1 : v * R.length ≤ 32 * 1073741824 := Nat.mul_le_mul (by omega) HRL.out
                have h2 := HRL.out
                omega
              obtain ⟨L, hL⟩ : ∃ L, soI R v j = L := ⟨_, rfl⟩
              rw [hL] at hM HS hLb ⊢
              clear hL hLl
              obtain ⟨hm1, ⟨vo, hm2, hm3⟩, hm4, hm5⟩ := hM
              have HM := Lib.hid (And.intro hm1 (And.intro (And.intro hm2 hm3) (And.intro hm4 hm5)))
              have ho1 : (wr.alloc (.cells #[.int .i64 v] 3)).ownsRow wr.heap.size 3 1 (.slice (some ⟨wr.heap.size, 0, none⟩) 1 1) 1 (nums [(v : Int)]) := World.ownsRow_lit wr _ 1 (Nat.le_refl _) (by unfold maxLen; omega) rfl
              have hrt : Reads (wr.alloc (.cells #[.int .i64 v] 3)) (wr.alloc (.cells #[.int .i64 v] 3)).heap.size 1 A' t.length (nums t) := (hrt0.alloc (Nat.le_refl _) _).more (by simp)
              have HT := Lib.hid ht
              have HO2 := Lib.hid hm2
              have hws := hm5.size
              clear hm1 hm2 hm3 hm4 hm5 hrt0 ht
              have hR30 := HRL.out
              go_upto_region 11 with fail
              go_wp2_with (first
                | (at_builtin; refine wpList_append_any _ rfl (.tmp 30) (.tmp 31) _ rfl wr.heap.size 3 i0 _ 1 8 Tryd.underlying23 hi0 hz0 hz1 hz2 rfl (by omega) _ 1 _ rfl ho1 (wr.alloc (.cells #[.int .i64 v] 3)).heap.size A' t.length c' (nums t) rfl hrt nums_one (by simp only [maxLen]; omega) (by omega) (by simp) ?_; intro v2 w2 hown2 hg2 hat2; clear hat2; obtain ⟨A2, c2, rfl⟩ := own_shape hown2; have hb2 : Below wr.heap.size wr w2 := (bone wr (.cells #[.int .i64 v] 3)).grown (show (wr.alloc (.cells #[.int .i64 v] 3)).grownBy w2 (some wr.heap.size) from hg2) (by simp) (by simp); have ho3 := own_under HO2.out (bnew hb2 (.cells #[.slice A2 (1 + t.length) c2] 23)); have hr3 : Reads (w2.alloc (.cells #[.slice A2 (1 + t.length) c2] 23)) (w2.alloc (.cells #[.slice A2 (1 + t.length) c2] 23)).heap.size 1 (some ⟨w2.heap.size, 0, none⟩) 1 [.slice A2 (1 + t.length) c2] := reads_block (t := 23) (heap_alloc_new _ _) rfl; have hs3 : w.heap.size ≤ (w2.alloc (.cells #[.slice A2 (1 + t.length) c2] 23)).heap.size := (by have := hb2.size; simp; omega); have HW2 := Lib.hid hown2; have HG2 := Lib.hid hg2; clear hown2 hg2 hb2 ho1 hrt)
                | (at_builtin; refine wpList_append_any _ rfl (.tmp 28) (.tmp 33) _ rfl w.heap.size 23 i1 _ 1 24 Tryd.underlying47 hj0 hy0 hy1 hy2 rfl (by omega) (.slice Ao L.length co) L.length _ rfl ho3 (w2.alloc (.cells #[.slice A2 (1 + t.length) c2] 23)).heap.size (some ⟨w2.heap.size, 0, none⟩) 1 1 [.slice A2 (1 + t.length) c2] rfl hr3 (fun u hu => by simp at hu; subst hu; rfl) (by simp only [maxLen]; omega) (by omega) hs3 ?_; intro v4 w4 hown4 hg4 hat4; obtain ⟨A4, c4, rfl⟩ := own_shape hown4; have HW4 := Lib.hid hown4; have HG4 := Lib.hid hg4; have HA4 := Lib.hid hat4; clear hown4 hg4 hat4 ho3 hr3))
              go_roundw
              case rel =>
                have hn : nums [(v : Int)] ++ nums t = nums ((v : Int) :: t) := rfl
                have h2 := HW2.out
                rw [hn] at h2
                have hM4 := Mid.push HM.out h2 HG2.out HW4.out HG4.out (by have h := HA4.out; rw [show (w2.alloc (.cells #[.slice A2 (1 + t.length) c2] 23)).heap.size = w2.heap.size + 1 by simp] at h; exact h)
                rw [← HS.out] at hM4
                have hl : (soI R v (j + 1)).length = L.length + 1 := by rw [HS.out]; simp
                exact ⟨j + 1, A4, c4, by omega, by go_num, by rw [hl], hM4⟩
              case measure => simp [intOf]; omega
            · obtain rfl : j = R.length := by omega
              rw [so_all] at hM ⊢
              go_wp2
              go_roundw
              case rel => exact ⟨v + 1, Ao, co, by omega, by go_num, rfl, hM⟩
              case measure => simp [intOf]; omega
        · obtain rfl : v = X := by omega
          go_wp2
          go_ret
          exact ⟨Ao, co, rfl, ⟨_, hM.2.1.choose_spec.1, hM.2.1.choose_spec.2⟩, hM.2.2.2⟩
end Go.Proofs.YtafdijfbgkcnnaaDoor.shp
