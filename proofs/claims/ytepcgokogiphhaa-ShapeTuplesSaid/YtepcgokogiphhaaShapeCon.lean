/- Contracts of package shape. -/
import Derived.Test.YtepcgokogiphhaaNums
import Derived.Test.YtepcgokogiphhaaRows
import Derived.ProofKit
import Derived.OpenShut
namespace Go.Proofs.Ytepcgokogiphhaa.shp
open Go.ChangeShapes Go.WideShapes Go.ChangeAt Go.RowKit Go.Proofs.Ytepcgokogiphhaa.words

set_option linter.unusedVariables false
def prodI (xs : List Int) : Int := xs.foldl (fun n k => n * k) 1
theorem fold_mul (xs : List Int) (n : Int) : xs.foldl (fun n k => n * k) n = n * prodI xs := by
  unfold prodI
  induction xs generalizing n with
  | nil => simp
  | cons x xs ih => rw [List.foldl_cons, List.foldl_cons, ih (n * x), ih (1 * x), Int.one_mul, Int.mul_assoc]
theorem prodI_cons (x : Int) (xs : List Int) : prodI (x :: xs) = x * prodI xs := by
  rw [prodI, List.foldl_cons, fold_mul, Int.one_mul]
theorem prodI_append (xs ys : List Int) : prodI (xs ++ ys) = prodI xs * prodI ys := by
  rw [prodI, List.foldl_append, fold_mul]; rfl
theorem prod_snoc (xs : List Int) (j : Nat) (x : Int) (h : xs[j]? = some x) : prodI (xs.take (j + 1)) = prodI (xs.take j) * x := by
  rw [List.take_add_one, h, prodI_append]; simp [prodI]
/-- sizes as a shape has them -/
def Szs (xs : List Int) : Prop := xs.length ≤ 6 ∧ ∀ k ∈ xs, 1 ≤ k ∧ k ≤ 32
theorem prod_bd (xs : List Int) (h : ∀ k ∈ xs, 1 ≤ k ∧ k ≤ 32) : 1 ≤ prodI xs ∧ prodI xs ≤ 32 ^ xs.length := by
  induction xs with
  | nil => exact ⟨by decide, by decide⟩
  | cons x xs ih =>
    obtain ⟨h1, h2⟩ := h x (List.mem_cons_self ..)
    obtain ⟨i1, i2⟩ := ih fun k hk => h k (List.mem_cons_of_mem _ hk)
    rw [prodI_cons, List.length_cons, Int.pow_succ]
    refine ⟨?_, ?_⟩
    · have : 1 * 1 ≤ x * prodI xs := Int.mul_le_mul h1 i1 (by omega) (by omega)
      omega
    · have : x * prodI xs ≤ 32 * 32 ^ xs.length := Int.mul_le_mul h2 i2 (by omega) (by omega)
      rw [Int.mul_comm (32 ^ xs.length) 32]; exact this
theorem szs_prod {xs : List Int} (h : Szs xs) : 1 ≤ prodI xs ∧ prodI xs ≤ 1073741824 := by
  obtain ⟨h1, h2⟩ := prod_bd xs h.2
  refine ⟨h1, Int.le_trans h2 ?_⟩
  have : (32 : Int) ^ xs.length ≤ 32 ^ 6 := by exact_mod_cast Nat.pow_le_pow_right (by omega) h.1
  exact this
theorem szs_take {xs : List Int} (h : Szs xs) (j : Nat) : Szs (xs.take j) := ⟨by have := h.1; simp; omega, fun k hk => h.2 k (List.mem_of_mem_take hk)⟩
theorem szs_drop {xs : List Int} (h : Szs xs) (j : Nat) : Szs (xs.drop j) := ⟨by have := h.1; simp; omega, fun k hk => h.2 k (List.mem_of_mem_drop hk)⟩

theorem count_any (A : Option Addr) (n cap : Nat) (xs : List Int) (w : World) (hr : Reads w w.heap.size 1 A n (nums xs)) (hz : Szs xs) :
    Calls Try.prog 11 #[.agg #[.slice A n cap]] w fun e w' => e = .returned (.int .i64 (prodI xs)) ∧ Below w.heap.size w w' := by
  have hlen := nums_len hr
  have hn : n ≤ 6 := by have := hz.1; omega
  have hr1 : Reads (w.alloc (.cells #[.slice A n cap] 28)) w.heap.size 1 A n (nums xs) := hr.alloc (Nat.le_refl _) _
  go_enter Try.func11, Try.ntmps11
  go_wp2
  go_loop [3, 9] (fun s i => ∃ j : Nat, j ≤ n ∧ i = .int .i64 j ∧ s = .int .i64 (prodI (xs.take j))) (fun _ i => n - (intOf i).toNat)
  case atStart => exact ⟨0, by omega, rfl, rfl⟩
  case round =>
    obtain ⟨j, hj, rfl, rfl⟩ := hrel
    have hs := szs_prod (szs_take hz j)
    by_cases hlt : j < n
    · obtain ⟨ad, x, rfl, _, hx, hc⟩ := hr1.num hlt
      obtain ⟨x1, x2⟩ := hz.2 x (List.mem_of_getElem? hx)
      have HS := Lib.hid (prod_snoc xs j x hx)
      have hb := szs_prod (szs_take hz (j + 1))
      rw [HS.out] at hb
      go_wp2
      go_round
      case rel => exact ⟨j + 1, by omega, by go_num, by rw [HS.out]⟩
      case measure => simp [intOf]; omega
    · have hjn : n ≤ j := by omega
      go_wp2
      go_ret
      exact ⟨ret_int (by rw [List.take_of_length_le (by omega)]), (Below.refl _ _).alloc (Nat.le_refl _) _⟩

def badS (a : Int) : Bool := decide (a < 1 ∨ 32 < a)
theorem bad_any (a : Int) (w : World) : Calls Try.prog 23 #[.int .i64 a] w fun e w' => e = .returned (.bool (badS a)) ∧ w = w' := by
  by_cases h1 : a < 1
  · have e : badS a = true := decide_eq_true (.inl h1)
    rw [e]; clear e
    go_enter Try.func23, Try.ntmps23
    go_wp2
    go_ret
    exact ⟨rfl, rfl⟩
  · have e : badS a = decide (32 < a) := by unfold badS; simp [h1]
    rw [e]; clear e
    go_enter Try.func23, Try.ntmps23
    go_wp2
    go_ret
    exact ⟨rfl, rfl⟩
def Found (xs : List Int) (e : Ending) : Prop := ∃ r : Int, e = .returned (.int .i64 r) ∧ (0 ≤ r ↔ ∃ a ∈ xs, badS a = true)
theorem index_fn (A : Option Addr) (n cap : Nat) (xs : List Int) (w : World) (hn : n ≤ maxLen) (hr : Reads w w.heap.size 1 A n (nums xs)) :
    Calls Try.prog 26 #[.slice A n cap, .func (.func 23) #[] #[]] w fun e w' => Found xs e ∧ w = w' := by
  unfold maxLen at hn
  have hlen := nums_len hr
  go_enter Try.func26, Try.ntmps26
  go_wp2_with fail
  go_loop [8] (fun i => ∃ j : Nat, j ≤ n ∧ i = .int .i64 j ∧ ∀ a ∈ xs.take j, badS a = false) (fun i => n - (intOf i).toNat)
  case atStart => exact ⟨0, by omega, rfl, by simp⟩
  case round =>
    obtain ⟨j, hj, rfl, hall⟩ := hrel
    by_cases hlt : j < n
    · obtain ⟨ad, x, rfl, _, hx, hc⟩ := hr.num hlt
      cases hb : badS x with
      | false =>
        have HA := Lib.hid hall
        clear hall
        go_wp2_with (first
          | (go_at_call 23; (with_reducible refine (bad_any _ _).mono ?_); rintro e w' ⟨rfl, rfl⟩))
        go_round
        case rel =>
          refine ⟨j + 1, by omega, by go_num, ?_⟩
          rw [List.take_add_one, hx]
          intro a ha
          simp only [List.mem_append, Option.toList_some, List.mem_singleton] at ha
          rcases ha with ha | rfl
          · exact HA.out a ha
          · exact hb
        case measure => simp [intOf]; omega
      | true =>
        have HA := Lib.hid hall
        clear hall
        go_wp2_with (first
          | (go_at_call 23; (with_reducible refine (bad_any _ _).mono ?_); rintro e w' ⟨rfl, rfl⟩))
        go_ret
        exact ⟨⟨(j : Int), rfl, by
          constructor
          · intro _; exact ⟨x, List.mem_of_getElem? hx, hb⟩
          · intro _; omega⟩, rfl⟩
    · have HA := Lib.hid hall
      clear hall
      go_wp2
      go_ret
      refine ⟨⟨-1, rfl, ?_⟩, rfl⟩
      constructor
      · intro h; omega
      · rintro ⟨a, ha, hf⟩
        have := HA.out a (by rw [List.take_of_length_le (by omega)]; exact ha)
        rw [this] at hf; cases hf
def anyBad (xs : List Int) : Bool := xs.any badS
theorem contains_fn (A : Option Addr) (n cap : Nat) (xs : List Int) (w : World) (hn : n ≤ maxLen) (hr : Reads w w.heap.size 1 A n (nums xs)) :
    Calls Try.prog 24 #[.slice A n cap, .func (.func 23) #[] #[]] w fun e w' => e = .returned (.bool (anyBad xs)) ∧ w = w' := by
  have hi := fun w hr => index_fn A n cap xs w hn hr
  cases hall : anyBad xs with
  | true =>
    have hA : ∃ a ∈ xs, badS a = true := by unfold anyBad at hall; rw [List.any_eq_true] at hall; exact hall
    have HA := Lib.hid hA; clear hA hall
    go_enter Try.func24, Try.ntmps24
    go_wp2_with (first
      | (go_at_call 26; (with_reducible refine (hi _ hr).mono ?_); rintro e w' ⟨⟨r, rfl, hf⟩, rfl⟩; have hr0 : 0 ≤ r := hf.2 HA.out; clear hf))
    go_ret
    exact ⟨ret_bool (by simp), rfl⟩
  | false =>
    have hA : ∀ a ∈ xs, badS a = false := by unfold anyBad at hall; rw [List.any_eq_false] at hall; simpa using hall
    have HA := Lib.hid hA; clear hA hall
    go_enter Try.func24, Try.ntmps24
    go_wp2_with (first
      | (go_at_call 26; (with_reducible refine (hi _ hr).mono ?_); rintro e w' ⟨⟨r, rfl, hf⟩, rfl⟩; have hr0 : ¬ 0 ≤ r := (fun h => by obtain ⟨a, ha, hb⟩ := hf.1 h; rw [HA.out a ha] at hb; cases hb); clear hf))
    go_ret
    exact ⟨ret_bool (by simp [hr0]), rfl⟩
theorem infoI : (Try.prog.info? 3).map (fun i => (i.zero, i.size, i.bytes)) = some (some (.int .i64 0), 1, 8) := by kernel_rfl
/-- a copy: nil of nil, else a row of its own -/
def Copied (w : World) (xs : List Int) (e : Ending) (w' : World) : Prop := ∃ A c, e = .returned (.slice A xs.length c) ∧ w'.ownsRow w.heap.size 3 1 (.slice A xs.length c) xs.length (nums xs) ∧ Below w.heap.size w w'
theorem clone_any (A : Option Addr) (n cap : Nat) (xs : List Int) (w : World) (hn : n ≤ 17592186044415) (hr : Reads w w.heap.size 1 A n (nums xs)) :
    Calls Try.prog 15 #[.slice A n cap] w fun e w' => Copied w xs e w' := by
  obtain ⟨i0, hi0, hz0, hz1, hz2⟩ := info_parts infoI
  have hlen := nums_len hr
  have hnil := fun w a n c n' c' => Lib.run_eql_slice_nil (P := Try.prog) w 25 3 a n c n' c' Try.underlying25
  cases A with
  | none =>
    have hn0 : n = 0 := by
      rcases Nat.eq_zero_or_pos n with h | h
      · exact h
      · obtain ⟨ad, h, _⟩ := hr.2 h; cases h
    subst hn0
    have hx : xs = [] := List.eq_nil_of_length_eq_zero hlen
    subst hx
    go_enter Try.func15, Try.ntmps15
    go_wp2
    go_ret
    exact ⟨_, _, rfl, World.ownsRow_nil _ _ _ _, Below.refl _ _⟩
  | some ad =>
    have hlit := World.ownsRow_lit (base := w.heap.size) (e := 3) (size := 1) w #[] 0 (Nat.le_refl _) (by unfold maxLen; omega) rfl
    have hr1 := hr.alloc (Nat.le_refl _) (.cells #[] 3)
    go_enter Try.func15, Try.ntmps15
    go_wp2_with (first
      | (at_builtin; refine wpList_append_any _ rfl (.tmp 5) (.tmp 6) _ rfl w.heap.size 3 i0 _ 1 8 Try.underlying25 hi0 hz0 hz1 hz2 rfl (by omega) _ 0 [] rfl hlit w.heap.size (some ad) n cap (nums xs) rfl hr1 nums_one (by simp only [maxLen]; omega) (by omega) (by simp) ?_; intro v1 w1 hown hg1 _))
    go_ret
    have hg2 : (w.alloc (.cells #[] 3)).grownBy w1 (some w.heap.size) := hg1
    obtain ⟨A1, c1, rfl⟩ := own_shape hown
    rw [Nat.zero_add, List.nil_append] at hown
    rw [Nat.zero_add]
    refine ⟨A1, c1, by rw [hlen]; rfl, by rw [hlen]; exact hown, ((Below.refl _ _).alloc (Nat.le_refl _) _).grown hg2 (by simp) (by simp)⟩

/-- what New answers -/
def Made (w : World) (xs : List Int) (e : Ending) (w' : World) : Prop :=
  Below w.heap.size w w' ∧
  ((¬ Szs xs ∧ e = .returned (.tuple #[.agg #[.slice none 0 0], .int .i64 1])) ∨
   (Szs xs ∧ 4096 < prodI xs ∧ e = .returned (.tuple #[.agg #[.slice none 0 0], .int .i64 5])) ∨
   (Szs xs ∧ prodI xs ≤ 4096 ∧ ∃ A c, e = .returned (.tuple #[.agg #[.slice A xs.length c], .int .i64 0]) ∧ w'.ownsRow w.heap.size 3 1 (.slice A xs.length c) xs.length (nums xs)))
theorem szs_iff (xs : List Int) : Szs xs ↔ xs.length ≤ 6 ∧ anyBad xs = false := by
  unfold Szs anyBad
  rw [List.any_eq_false]
  simp only [badS, decide_eq_true_eq]
  constructor
  · rintro ⟨h1, h2⟩; exact ⟨h1, fun k hk => by have := h2 k hk; omega⟩
  · rintro ⟨h1, h2⟩; exact ⟨h1, fun k hk => by have := h2 k hk; omega⟩
theorem new_any (A : Option Addr) (n cap : Nat) (xs : List Int) (w : World) (hn : n ≤ 17592186044415) (hr : Reads w w.heap.size 1 A n (nums xs)) :
    Calls Try.prog 10 #[.slice A n cap] w fun e w' => Made w xs e w' := by
  have hlen := nums_len hr
  have hr1 : ∀ o : Obj, Reads (w.alloc o) (w.alloc o).heap.size 1 A n (nums xs) := fun o => (hr.alloc (Nat.le_refl _) _).more (by simp)
  by_cases h6 : 6 < n
  · have hne : ¬ Szs xs := fun h => by have := h.1; omega
    go_enter Try.func10, Try.ntmps10
    go_wp2
    exact bodyPost_ret (v := .tuple #[.agg #[.slice none 0 0], .int .i64 1]) (by simp [results, Try.results10, go_sem]) rfl ⟨(Below.refl _ _).alloc (Nat.le_refl _) _, .inl ⟨hne, rfl⟩⟩
  · cases hb : anyBad xs with
    | true =>
      have hne : ¬ Szs xs := fun h => by have := ((szs_iff xs).1 h).2; rw [this] at hb; cases hb
      go_enter Try.func10, Try.ntmps10
      go_wp2_with (first
        | (go_at_call 24; (with_reducible refine (contains_fn _ _ _ xs _ (by unfold maxLen; omega) (hr1 _)).mono ?_); rintro e w' ⟨rfl, rfl⟩))
      exact bodyPost_ret (v := .tuple #[.agg #[.slice none 0 0], .int .i64 1]) (by simp [results, Try.results10, go_sem]) rfl ⟨(Below.refl _ _).alloc (Nat.le_refl _) _, .inl ⟨hne, rfl⟩⟩
    | false =>
      have hsz : Szs xs := (szs_iff xs).2 ⟨by omega, hb⟩
      by_cases h4 : 4096 < prodI xs
      · go_enter Try.func10, Try.ntmps10
        go_wp2_with (first
          | (go_at_call 24; (with_reducible refine (contains_fn _ _ _ xs _ (by unfold maxLen; omega) (hr1 _)).mono ?_); rintro e w' ⟨rfl, rfl⟩)
          | (go_at_call 15; (with_reducible refine (clone_any _ _ _ xs _ hn (hr1 _)).mono ?_); rintro e w1 ⟨A1, c1, rfl, hown, hb1⟩; have hrd : ∀ o : Obj, Reads (w1.alloc o) (w1.alloc o).heap.size 1 A1 n (nums xs) := (fun o => (((by rw [← hlen]; exact Reads.of_own hown : Reads w1 w1.heap.size 1 A1 n (nums xs)).alloc (Nat.le_refl _) _).more (by simp))))
          | (go_at_call 11; (with_reducible refine (count_any _ _ _ xs _ (hrd _) hsz).mono ?_); rintro e w2 ⟨rfl, hb2⟩; obtain ⟨hc2, hf2⟩ := ((((Blk.new w 28 #[.slice none 0 0]).under hb1).alloc (.cells #[.slice A1 n c1] 28)).under hb2).one; obtain ⟨hc1, hf1⟩ := ((Blk.new w1 28 #[.slice A1 n c1]).under hb2).one))
        exact bodyPost_ret (v := .tuple #[.agg #[.slice none 0 0], .int .i64 5]) (by simp [results, Try.results10, go_sem, hc2]) rfl ⟨(bto (bnew (bto (bone w _) hb1) _) hb2).setCell (Nat.le_refl _) _, .inr (.inl ⟨hsz, h4, rfl⟩)⟩
      · go_enter Try.func10, Try.ntmps10
        go_wp2_with (first
          | (go_at_call 24; (with_reducible refine (contains_fn _ _ _ xs _ (by unfold maxLen; omega) (hr1 _)).mono ?_); rintro e w' ⟨rfl, rfl⟩)
          | (go_at_call 15; (with_reducible refine (clone_any _ _ _ xs _ hn (hr1 _)).mono ?_); rintro e w1 ⟨A1, c1, rfl, hown, hb1⟩; have hrd : ∀ o : Obj, Reads (w1.alloc o) (w1.alloc o).heap.size 1 A1 n (nums xs) := (fun o => (((by rw [← hlen]; exact Reads.of_own hown : Reads w1 w1.heap.size 1 A1 n (nums xs)).alloc (Nat.le_refl _) _).more (by simp))))
          | (go_at_call 11; (with_reducible refine (count_any _ _ _ xs _ (hrd _) hsz).mono ?_); rintro e w2 ⟨rfl, hb2⟩; obtain ⟨hc2, hf2⟩ := ((((Blk.new w 28 #[.slice none 0 0]).under hb1).alloc (.cells #[.slice A1 n c1] 28)).under hb2).one; obtain ⟨hc1, hf1⟩ := ((Blk.new w1 28 #[.slice A1 n c1]).under hb2).one))
        have ho : (w2.setCell ⟨w.heap.size, 0, none⟩ (.slice A1 n c1)).ownsRow w.heap.size 3 1 (.slice A1 n c1) n (nums xs) := by
          rw [hlen] at hown
          exact own_base (ownsRow_setCell_below (own_under (hown.alloc _) hb2) (by simp) _) (by simp)
        refine bodyPost_ret (v := .tuple #[.agg #[.slice A1 n c1], .int .i64 0]) (by simp [results, Try.results10, go_sem, hc2]) rfl ⟨(bto (bnew (bto (bone w _) hb1) _) hb2).setCell (Nat.le_refl _) _, .inr (.inr ⟨hsz, h4, A1, c1, by rw [hlen], ?_⟩)⟩
        rw [hlen]; exact ho

theorem arity_any (A : Option Addr) (n cap : Nat) (w : World) (_hn : n ≤ 9223372036854775807) :
    Calls Try.prog 16 #[.agg #[.slice A n cap]] w fun e w' => e = .returned (.int .i64 n) ∧ Below w.heap.size w w' := by
  go_enter Try.func16, Try.ntmps16
  go_wp2
  go_ret
  exact ⟨rfl, bone _ _⟩
def sizeAt (xs : List Int) (i : Int) : Int := if 0 ≤ i then xs.getD i.toNat 0 else 0
theorem size_any (A : Option Addr) (n cap : Nat) (xs : List Int) (i : Int) (w : World) (_hn : n ≤ 9223372036854775807) (hr : Reads w w.heap.size 1 A n (nums xs)) :
    Calls Try.prog 14 #[.agg #[.slice A n cap], .int .i64 i] w fun e w' => e = .returned (.int .i64 (sizeAt xs i)) ∧ Below w.heap.size w w' := by
  have hlen := nums_len hr
  by_cases h0 : 0 ≤ i
  · by_cases h1 : i < n
    · obtain ⟨k, rfl⟩ : ∃ k : Nat, i = k := ⟨i.toNat, by omega⟩
      have hk : k < n := by omega
      obtain ⟨ad, x, rfl, _, hx, hc⟩ := (hr.alloc (Nat.le_refl _) (.cells #[.slice A n cap] 28)).num hk
      have e : sizeAt xs k = x := by unfold sizeAt; rw [if_pos (by omega)]; simp [hx]
      rw [e]; clear e
      go_enter Try.func14, Try.ntmps14
      go_wp2
      go_ret
      exact ⟨rfl, bone _ _⟩
    · have e : sizeAt xs i = 0 := by unfold sizeAt; rw [if_pos h0]; simp [List.getD, List.getElem?_eq_none (show xs.length ≤ i.toNat by omega)]
      rw [e]; clear e
      go_enter Try.func14, Try.ntmps14
      go_wp2
      go_ret
      exact ⟨rfl, bone _ _⟩
  · have e : sizeAt xs i = 0 := by unfold sizeAt; rw [if_neg h0]
    rw [e]; clear e
    go_enter Try.func14, Try.ntmps14
    go_wp2
    go_ret
    exact ⟨rfl, bone _ _⟩
def stepAt (xs : List Int) (i : Int) : Int := if 0 ≤ i ∧ i < xs.length then prodI (xs.drop (i.toNat + 1)) else 0
theorem step_any (A : Option Addr) (n cap : Nat) (xs : List Int) (i : Int) (w : World) (hn : n ≤ 9223372036854775807) (hnc : n ≤ cap) (hr : Reads w w.heap.size 1 A n (nums xs)) (hz : Szs xs) :
    Calls Try.prog 13 #[.agg #[.slice A n cap], .int .i64 i] w fun e w' => e = .returned (.int .i64 (stepAt xs i)) ∧ Below w.heap.size w w' := by
  have hlen := nums_len hr
  by_cases h : 0 ≤ i ∧ i < n
  · obtain ⟨h0, h1⟩ := h
    obtain ⟨k, rfl⟩ : ∃ k : Nat, i = k := ⟨i.toNat, by omega⟩
    have hk : k < n := by omega
    have e : stepAt xs k = prodI (xs.drop (k + 1)) := by unfold stepAt; rw [if_pos (by omega)]; rfl
    rw [e]; clear e
    have hx := reads_cut ((hr.alloc (Nat.le_refl _) (.cells #[.slice A n cap] 28)).more (B' := (w.alloc (.cells #[.slice A n cap] 28)).heap.size) (by simp)) (k := k + 1) (by omega) hnc (by omega)
    have hz' := szs_drop hz (k + 1)
    clear hr
    by_cases hck : cap = k + 1
    · have hnk : n = k + 1 := by omega
      have hd : xs.drop (k + 1) = [] := List.drop_of_length_le (by omega)
      have hx' := hx.1 hck
      rw [hd] at hx' hz' ⊢
      subst hck hnk
      rw [Nat.sub_self] at hx'
      clear hx hd
      go_enter Try.func13, Try.ntmps13
      go_wp2_with (first
        | (go_at_call 11; (with_reducible refine (count_any _ _ _ [] _ hx' hz').mono ?_); rintro e w1 ⟨rfl, hb1⟩))
      go_ret
      exact ⟨rfl, bto (bone _ _) hb1⟩
    · have hx' := hx.2 hck
      clear hx
      go_enter Try.func13, Try.ntmps13
      go_wp2_with (first
        | (go_at_call 11; (with_reducible refine (count_any _ _ _ (xs.drop (k + 1)) _ hx' hz').mono ?_); rintro e w1 ⟨rfl, hb1⟩))
      go_ret
      exact ⟨rfl, bto (bone _ _) hb1⟩
  · have e : stepAt xs i = 0 := by unfold stepAt; rw [hlen, if_neg h]
    rw [e]; clear e
    by_cases h0 : 0 ≤ i
    · have h1 : ¬ i < n := fun h1 => h ⟨h0, h1⟩
      clear h
      go_enter Try.func13, Try.ntmps13
      go_wp2
      go_ret
      exact ⟨rfl, bone _ _⟩
    · clear h
      go_enter Try.func13, Try.ntmps13
      go_wp2
      go_ret
      exact ⟨rfl, bone _ _⟩

def idxI (xs ts : List Int) : Int := (List.zip ts xs).foldl (fun n p => n * p.2 + p.1) 0
def InT (xs ts : List Int) : Prop := ts.length = xs.length ∧ ∀ p ∈ List.zip ts xs, 0 ≤ p.1 ∧ p.1 < p.2
instance (xs ts : List Int) : Decidable (InT xs ts) := by unfold InT; infer_instance
def idxV (xs ts : List Int) : Int := if InT xs ts then idxI xs ts else 0
def idxE (xs ts : List Int) : Int := if InT xs ts then 0 else 3
theorem zip_get {ts xs : List Int} {j : Nat} {t x : Int} (h1 : ts[j]? = some t) (h2 : xs[j]? = some x) : (List.zip ts xs)[j]? = some (t, x) := by
  rw [List.getElem?_zip_eq_some]; exact ⟨h1, h2⟩
theorem idx_snoc {xs ts : List Int} {j : Nat} {t x : Int} (h1 : ts[j]? = some t) (h2 : xs[j]? = some x) : idxI (xs.take (j + 1)) (ts.take (j + 1)) = idxI (xs.take j) (ts.take j) * x + t := by
  unfold idxI
  rw [← take_zip, ← take_zip, List.take_add_one, zip_get h1 h2, List.foldl_append]; rfl
theorem idx_bd {xs ts : List Int} (hz : Szs xs) (h : ∀ p ∈ List.zip ts xs, 0 ≤ p.1 ∧ p.1 < p.2) (hl : ts.length = xs.length) : 0 ≤ idxI xs ts ∧ idxI xs ts < prodI xs := by
  suffices H : ∀ j, j ≤ xs.length → 0 ≤ idxI (xs.take j) (ts.take j) ∧ idxI (xs.take j) (ts.take j) < prodI (xs.take j) by
    have := H xs.length (Nat.le_refl _)
    rw [List.take_of_length_le (Nat.le_refl _), List.take_of_length_le (by omega)] at this; exact this
  intro j
  induction j with
  | zero => intro _; simp [idxI, prodI]
  | succ j ih =>
    intro hj
    obtain ⟨i1, i2⟩ := ih (by omega)
    have e1 : ts[j]? = some (ts[j]'(by omega)) := List.getElem?_eq_getElem (by omega)
    have e2 : xs[j]? = some (xs[j]'(by omega)) := List.getElem?_eq_getElem (by omega)
    obtain ⟨b1, b2⟩ := h _ (List.mem_of_getElem? (zip_get e1 e2))
    rw [idx_snoc e1 e2, prod_snoc _ _ _ e2]
    dsimp only at b1 b2
    generalize xs[j]'(by omega) = x at *
    generalize ts[j]'(by omega) = t at *
    generalize idxI (xs.take j) (ts.take j) = a at *
    generalize prodI (xs.take j) = p at *
    have m1 : 0 ≤ a * x := Int.mul_nonneg i1 (by omega)
    have m2 : (a + 1) * x ≤ p * x := Int.mul_le_mul_of_nonneg_right (by omega) (by omega)
    rw [Int.add_mul, Int.one_mul] at m2
    omega
theorem index_no_len (A C : Option Addr) (n m cap c : Nat) (xs ts : List Int) (w : World) (hn : n ≤ 9223372036854775807) (hm : m ≤ 9223372036854775807) (h : m ≠ n) :
    Calls Try.prog 17 #[.agg #[.slice A n cap], .slice C m c] w fun e w' => e = .returned (.tuple #[.int .i64 0, .int .i64 3]) ∧ Below w.heap.size w w' := by
  have h' : ((m : Int) != (n : Int)) = true := by simp; omega
  have h2 : ((m : Int) == (n : Int)) = false := by simp; omega
  clear h
  go_enter Try.func17, Try.ntmps17
  go_wp2
  go_ret2
  exact ⟨rfl, bone _ _⟩
theorem index_any (A C : Option Addr) (n cap c : Nat) (xs ts : List Int) (w : World) (hn : n ≤ 9223372036854775807) (hr : Reads w w.heap.size 1 A n (nums xs)) (ht : Reads w w.heap.size 1 C n (nums ts)) (hz : Szs xs) :
    Calls Try.prog 17 #[.agg #[.slice A n cap], .slice C n c] w fun e w' =>
      e = .returned (.tuple #[.int .i64 (idxV xs ts), .int .i64 (idxE xs ts)]) ∧ Below w.heap.size w w' := by
  have hlen := nums_len hr
  have hlt := nums_len ht
  have hr1 := hr.alloc (Nat.le_refl _) (.cells #[.slice A n cap] 28)
  have ht1 := ht.alloc (Nat.le_refl _) (.cells #[.slice A n cap] 28)
  go_enter Try.func17, Try.ntmps17
  go_wp2
  go_loop [6, 17] (fun s i => ∃ j : Nat, j ≤ n ∧ i = .int .i64 j ∧ s = .int .i64 (idxI (xs.take j) (ts.take j)) ∧ ∀ p ∈ (List.zip ts xs).take j, 0 ≤ p.1 ∧ p.1 < p.2) (fun _ i => n - (intOf i).toNat)
  case atStart => exact ⟨0, by omega, rfl, rfl, by simp⟩
  case round =>
    obtain ⟨j, hj, rfl, rfl, hall⟩ := hrel
    by_cases hlt2 : j < n
    · obtain ⟨ad, x, rfl, _, hx, hc⟩ := hr1.num hlt2
      obtain ⟨ad2, t, rfl, _, htt, hc2⟩ := ht1.num hlt2
      have hb := idx_bd (szs_take hz j) (ts := ts.take j) (by rw [← take_zip]; exact hall) (by simp; omega)
      have hp := szs_prod (szs_take hz j)
      obtain ⟨x1, x2⟩ := hz.2 x (List.mem_of_getElem? hx)
      by_cases hin : 0 ≤ t ∧ t < x
      · obtain ⟨t1, t2⟩ := hin
        have HS := Lib.hid (idx_snoc htt hx)
        have hb2 : 0 ≤ idxI (xs.take j) (ts.take j) * x ∧ idxI (xs.take j) (ts.take j) * x ≤ 1073741824 * 32 := ⟨Int.mul_nonneg hb.1 (by omega), Int.mul_le_mul (by omega) (by omega) (by omega) (by omega)⟩
        have HA : Hid (∀ p ∈ (List.zip ts xs).take (j + 1), 0 ≤ p.1 ∧ p.1 < p.2) := by
          rw [List.take_add_one, zip_get htt hx]
          intro p hp
          simp only [List.mem_append, Option.toList_some, List.mem_singleton] at hp
          rcases hp with hp | rfl
          · exact hall p hp
          · exact ⟨t1, t2⟩
        clear hall hx htt
        go_wp2
        go_round
        case rel => exact ⟨j + 1, by omega, by go_num, by rw [HS.out], HA.out⟩
        case measure => simp [intOf]; omega
      · have hnot : ¬ InT xs ts := fun h => hin (h.2 _ (List.mem_of_getElem? (zip_get htt hx)))
        have HN := Lib.hid hnot
        clear hall hx htt hnot
        by_cases t1 : 0 ≤ t
        · have t2 : ¬ t < x := fun h => hin ⟨t1, h⟩
          clear hin
          go_wp2
          go_ret2
          exact ⟨ret_two (by rw [idxV, if_neg HN.out]) (by rw [idxE, if_neg HN.out]), bone _ _⟩
        · clear hin
          go_wp2
          go_ret2
          exact ⟨ret_two (by rw [idxV, if_neg HN.out]) (by rw [idxE, if_neg HN.out]), bone _ _⟩
    · have hyes : InT xs ts := ⟨by omega, by rw [List.take_of_length_le (by simp; omega)] at hall; exact hall⟩
      have HY := Lib.hid hyes
      clear hall hyes
      go_wp2
      go_ret2
      exact ⟨ret_two (by rw [idxV, if_pos HY.out, List.take_of_length_le (by omega), List.take_of_length_le (by omega)]) (by rw [idxE, if_pos HY.out]), bone _ _⟩
end Go.Proofs.Ytepcgokogiphhaa.shp
