/- Contracts of cost.Sum, cost.Least and what they call, over any slice that reads as a list of numbers. -/
import Derived.Test.YtbgngpgebhnpbaaMod
import Derived.Test.YtbgngpgebhnpbaaWords
import Derived.LoopTactic
import Derived.WalkLawsBesides
namespace Go.Proofs.Ytbgngpgebhnpbaa.con
open Go.ChangeShapes Go.WideShapes Go.ChangeAt Go.RowKit Go.Proofs.Ytbgngpgebhnpbaa.words

def clo (b : Nat) : Value := .func (.func 23) #[] #[.pointer (some ⟨b, 0, none⟩)]
def nums (xs : List Int) : List Value := xs.map (Value.int .i64)
theorem nums_get {xs : List Int} {k : Nat} {u : Value} (h : (nums xs)[k]? = some u) : ∃ x, xs[k]? = some x ∧ u = .int .i64 x := by
  unfold nums at h; rw [List.getElem?_map] at h
  cases hx : xs[k]? with
  | none => rw [hx] at h; simp at h
  | some x => rw [hx] at h; simp at h; exact ⟨x, rfl, h.symm⟩

theorem clo_any (b : Nat) (a k : Int) (w : World) (hk : w.cell? ⟨b, 0, none⟩ = some (.int .i64 k)) :
    Calls Try.prog 23 #[.int .i64 a, .pointer (some ⟨b, 0, none⟩)] w fun e w' => e = .returned (.bool (!inB a k)) ∧ w = w' := by
  go_enter Try.func23, Try.ntmps23
  go_wp2_with (first
    | (go_at_call 10; (with_reducible refine (in_any 10 (Or.inl rfl) _ _ _).mono ?_); rintro e w' ⟨rfl, rfl⟩))
  go_ret
  exact ⟨rfl, rfl⟩

def Found (xs : List Int) (k : Int) (e : Ending) : Prop := ∃ r : Int, e = .returned (.int .i64 r) ∧ (0 ≤ r ↔ ∃ a ∈ xs, inB a k = false)
theorem index_any (A : Option Addr) (n cap b : Nat) (xs : List Int) (k : Int) (w : World) (hn : n ≤ maxLen)
    (hr : Reads w w.heap.size 1 A n (nums xs)) (hk : w.cell? ⟨b, 0, none⟩ = some (.int .i64 k)) :
    Calls Try.prog 24 #[.slice A n cap, .func (.func 23) #[] #[.pointer (some ⟨b, 0, none⟩)]] w fun e w' => Found xs k e ∧ w = w' := by
  unfold maxLen at hn
  have hlen : xs.length = n := by have := hr.1; simpa [nums] using this
  go_enter Try.func24, Try.ntmps24
  go_wp2_with fail
  go_loop [8] (fun i => ∃ j : Nat, j ≤ n ∧ i = .int .i64 j ∧ ∀ a ∈ xs.take j, inB a k = true) (fun i => n - (intOf i).toNat)
  case atStart => exact ⟨0, by omega, rfl, by simp⟩
  case round =>
    obtain ⟨j, hj, rfl, hall⟩ := hrel
    by_cases hlt : j < n
    · obtain ⟨ad, u, rfl, _, hx, hc⟩ := hr.at_ hlt
      obtain ⟨x, hx', rfl⟩ := nums_get hx
      by_cases hb : inB x k = true
      · go_wp2_with (first
          | (go_at_call 23; (with_reducible refine (clo_any _ _ _ _ (by assumption)).mono ?_); rintro e w' ⟨rfl, rfl⟩))
        go_round
        case rel =>
          refine ⟨j + 1, by omega, by go_num, ?_⟩
          rw [List.take_add_one, hx']
          intro a ha
          simp only [List.mem_append, Option.toList_some, List.mem_singleton] at ha
          rcases ha with ha | rfl
          · exact hall a ha
          · exact hb
        case measure => simp [intOf]; omega
      · have hb' : inB x k = false := by simpa using hb
        clear hb
        go_wp2_with (first
          | (go_at_call 23; (with_reducible refine (clo_any _ _ _ _ (by assumption)).mono ?_); rintro e w' ⟨rfl, rfl⟩))
        go_ret
        exact ⟨⟨(j : Int), rfl, by
          constructor
          · intro _; exact ⟨x, List.mem_of_getElem? hx', hb'⟩
          · intro _; omega⟩, rfl⟩
    · have hjn : j = n := by omega
      have HA := Lib.hid hall
      clear hall
      go_wp2
      go_ret
      refine ⟨⟨-1, rfl, ?_⟩, rfl⟩
      constructor
      · intro h; omega
      · rintro ⟨a, ha, hf⟩
        have := HA.out a (by rw [List.take_of_length_le (by omega)]; exact ha)
        rw [this] at hf; cases hf

def allB (xs : List Int) (k : Int) : Bool := xs.all fun a => inB a k
theorem contains_any (A : Option Addr) (n cap b : Nat) (xs : List Int) (k : Int) (w : World) (hn : n ≤ maxLen)
    (hr : Reads w w.heap.size 1 A n (nums xs)) (hk : w.cell? ⟨b, 0, none⟩ = some (.int .i64 k)) :
    Calls Try.prog 22 #[.slice A n cap, .func (.func 23) #[] #[.pointer (some ⟨b, 0, none⟩)]] w fun e w' => e = .returned (.bool (!allB xs k)) ∧ w = w' := by
  have hi := fun w hr hk => index_any A n cap b xs k w hn hr hk
  cases hall : allB xs k with
  | true =>
    have HA : Hid (∀ a ∈ xs, inB a k = true) := by unfold allB at hall; rw [List.all_eq_true] at hall; exact hall
    clear hall
    go_enter Try.func22, Try.ntmps22
    go_wp2_with (first
      | (go_at_call 24; (with_reducible refine (hi _ (by assumption) (by assumption)).mono ?_); rintro e w' ⟨⟨r, rfl, hf⟩, rfl⟩; have hr0 : ¬ 0 ≤ r := (fun h => by obtain ⟨a, ha, hb⟩ := hf.1 h; rw [HA.out a ha] at hb; cases hb); clear hf))
    go_ret
    exact ⟨ret_bool (by simpa using hr0), rfl⟩
  | false =>
    have hA : ∃ a ∈ xs, inB a k = false := by unfold allB at hall; rw [List.all_eq_false] at hall; simpa using hall
    have HA := Lib.hid hA; clear hA
    clear hall
    go_enter Try.func22, Try.ntmps22
    go_wp2_with (first
      | (go_at_call 24; (with_reducible refine (hi _ (by assumption) (by assumption)).mono ?_); rintro e w' ⟨⟨r, rfl, hf⟩, rfl⟩; have hr0 : 0 ≤ r := hf.2 HA.out; clear hf))
    go_ret
    exact ⟨ret_bool (by simp), rfl⟩
def allOk (xs : List Int) (k : Int) : Bool := rightB k && allB xs k
theorem all_any (A : Option Addr) (n cap : Nat) (xs : List Int) (k : Int) (w : World) (hn : n ≤ maxLen) (hr : Reads w w.heap.size 1 A n (nums xs)) :
    Calls Try.prog 21 #[.slice A n cap, .int .i64 k] w fun e w' => e = .returned (.bool (allOk xs k)) ∧ Below w.heap.size w w' := by
  have hr1 : Reads (w.alloc (.cells #[.int .i64 k] 2)) (w.alloc (.cells #[.int .i64 k] 2)).heap.size 1 A n (nums xs) := (hr.alloc (Nat.le_refl _) _).more (by simp)
  have hk : (w.alloc (.cells #[.int .i64 k] 2)).cell? ⟨w.heap.size, 0, none⟩ = some (.int .i64 k) := by go_simp
  cases hb : rightB k with
  | false =>
    have e0 : allOk xs k = false := by unfold allOk; rw [hb]; rfl
    rw [e0]; clear e0
    go_enter Try.func21, Try.ntmps21
    go_wp2_with (first
      | (go_at_call 13; (with_reducible refine (right_any 13 (Or.inl rfl) _ _).mono ?_); rintro e w' ⟨rfl, rfl⟩))
    go_ret
    exact ⟨rfl, (Below.refl _ _).alloc (Nat.le_refl _) _⟩
  | true =>
    have e0 : allOk xs k = !(!allB xs k) := by unfold allOk; rw [hb]; simp
    rw [e0]; clear e0
    go_enter Try.func21, Try.ntmps21
    go_wp2_with (first
      | (go_at_call 13; (with_reducible refine (right_any 13 (Or.inl rfl) _ _).mono ?_); rintro e w' ⟨rfl, rfl⟩)
      | (go_at_call 22; (with_reducible refine (contains_any _ _ _ _ xs k _ hn hr1 hk).mono ?_); rintro e w' ⟨rfl, rfl⟩))
    go_ret
    exact ⟨ret_bool (by simp), (Below.refl _ _).alloc (Nat.le_refl _) _⟩
def sumOf (k : Int) (xs : List Int) : Int := xs.foldl (fun n a => min (n + a) k) 0
def leastOf (k : Int) (xs : List Int) : Int := xs.foldl (fun n a => min n a) k
theorem inB_iff (a k : Int) : inB a k = true ↔ InC a k := by unfold inB; exact decide_eq_true_iff
theorem allOk_iff {xs : List Int} {k : Int} (h : allOk xs k = true) : 1 ≤ k ∧ k ≤ 2147483648 ∧ ∀ a ∈ xs, InC a k := by
  unfold allOk allB rightB at h
  simp only [Bool.and_eq_true, decide_eq_true_eq, List.all_eq_true] at h
  exact ⟨h.1.1, h.1.2, fun a ha => (inB_iff a k).1 (h.2 a ha)⟩
theorem sumOf_in {k : Int} (h1 : 1 ≤ k) (xs : List Int) (h : ∀ a ∈ xs, InC a k) : 0 ≤ sumOf k xs ∧ sumOf k xs ≤ k := by
  unfold sumOf
  suffices H : ∀ (xs : List Int) (n : Int), 0 ≤ n → n ≤ k → (∀ a ∈ xs, InC a k) → 0 ≤ xs.foldl (fun n a => min (n + a) k) n ∧ xs.foldl (fun n a => min (n + a) k) n ≤ k from H xs 0 (by omega) (by omega) h
  intro xs
  induction xs with
  | nil => intro n a b _; exact ⟨a, b⟩
  | cons x xs ih =>
    intro n a b hx
    have := hx x (List.mem_cons_self ..)
    unfold InC at this
    exact ih _ (by dsimp only; omega) (by dsimp only; omega) fun a ha => hx a (List.mem_cons_of_mem _ ha)
theorem leastOf_in {k : Int} (h1 : 1 ≤ k) (xs : List Int) (h : ∀ a ∈ xs, InC a k) : 0 ≤ leastOf k xs ∧ leastOf k xs ≤ k := by
  unfold leastOf
  suffices H : ∀ (xs : List Int) (n : Int), 0 ≤ n → n ≤ k → (∀ a ∈ xs, InC a k) → 0 ≤ xs.foldl (fun n a => min n a) n ∧ xs.foldl (fun n a => min n a) n ≤ k from H xs k (by omega) (by omega) h
  intro xs
  induction xs with
  | nil => intro n a b _; exact ⟨a, b⟩
  | cons x xs ih =>
    intro n a b hx
    have := hx x (List.mem_cons_self ..)
    unfold InC at this
    exact ih _ (by dsimp only; omega) (by dsimp only; omega) fun a ha => hx a (List.mem_cons_of_mem _ ha)
theorem sum_snoc (k : Int) (xs : List Int) (j : Nat) (x : Int) (h : xs[j]? = some x) : sumOf k (xs.take (j + 1)) = min (sumOf k (xs.take j) + x) k := by
  unfold sumOf; rw [List.take_add_one, h, List.foldl_append]; rfl
theorem least_snoc (k : Int) (xs : List Int) (j : Nat) (x : Int) (h : xs[j]? = some x) : leastOf k (xs.take (j + 1)) = min (leastOf k (xs.take j)) x := by
  unfold leastOf; rw [List.take_add_one, h, List.foldl_append]; rfl
theorem val_int {a b : Int} (h : a = b) : Value.int .i64 a = Value.int .i64 b := by rw [h]
theorem sum_ok (A : Option Addr) (n cap : Nat) (xs : List Int) (k : Int) (w : World) (hn : n ≤ maxLen) (hr : Reads w w.heap.size 1 A n (nums xs)) (hall : allOk xs k = true) :
    Calls Try.prog 19 #[.slice A n cap, .int .i64 k] w fun e w' => e = .returned (.tuple #[.int .i64 (sumOf k xs), .int .i64 0]) ∧ Below w.heap.size w w' := by
  have hlen : xs.length = n := by have := hr.1; simpa [nums] using this
  have ha := all_any A n cap xs k w hn hr
  rw [hall] at ha
  obtain ⟨k1, k2, hin⟩ := allOk_iff hall
  have HI := Lib.hid hin
  clear hall hin
  unfold maxLen at hn
  go_enter Try.func19, Try.ntmps19
  go_wp2_with (first
    | (go_at_call 21; (with_reducible refine (ha).mono ?_); rintro e w1 ⟨rfl, hb1⟩; clear ha; have hr1 := (hr.below hb1)))
  go_loop [6, 15] (fun s i => ∃ j : Nat, j ≤ n ∧ i = .int .i64 j ∧ s = .int .i64 (sumOf k (xs.take j))) (fun _ i => n - (intOf i).toNat)
  case atStart => exact ⟨0, by omega, rfl, rfl⟩
  case round =>
    obtain ⟨j, hj, rfl, rfl⟩ := hrel
    have hs := sumOf_in k1 (xs.take j) fun a ha => HI.out a (List.mem_of_mem_take ha)
    by_cases hlt : j < n
    · obtain ⟨ad, u, rfl, _, hx, hc⟩ := hr1.at_ hlt
      obtain ⟨x, hx', rfl⟩ := nums_get hx
      obtain ⟨_, _, x1, x2⟩ := HI.out x (List.mem_of_getElem? hx')
      have HS := Lib.hid (sum_snoc k xs j x hx')
      go_wp2
      · go_round
        case rel =>
          refine ⟨j + 1, by omega, by go_num, ?_⟩
          rw [HS.out]
          exact val_int (by split <;> omega)
        case measure => simp [intOf]; omega
    · have hjn : n ≤ j := by omega
      go_wp2
      go_ret2
      exact ⟨ret_two (by rw [List.take_of_length_le (by omega)]) rfl, hb1⟩
theorem least_ok (A : Option Addr) (n cap : Nat) (xs : List Int) (k : Int) (w : World) (hn : n ≤ maxLen) (hr : Reads w w.heap.size 1 A n (nums xs)) (hall : allOk xs k = true) :
    Calls Try.prog 20 #[.slice A n cap, .int .i64 k] w fun e w' => e = .returned (.tuple #[.int .i64 (leastOf k xs), .int .i64 0]) ∧ Below w.heap.size w w' := by
  have hlen : xs.length = n := by have := hr.1; simpa [nums] using this
  have ha := all_any A n cap xs k w hn hr
  rw [hall] at ha
  obtain ⟨k1, k2, hin⟩ := allOk_iff hall
  have HI := Lib.hid hin
  clear hall hin
  unfold maxLen at hn
  go_enter Try.func20, Try.ntmps20
  go_wp2_with (first
    | (go_at_call 21; (with_reducible refine (ha).mono ?_); rintro e w1 ⟨rfl, hb1⟩; clear ha; have hr1 := (hr.below hb1)))
  go_loop [6, 16] (fun s i => ∃ j : Nat, j ≤ n ∧ i = .int .i64 j ∧ s = .int .i64 (leastOf k (xs.take j))) (fun _ i => n - (intOf i).toNat)
  case atStart => exact ⟨0, by omega, rfl, rfl⟩
  case round =>
    obtain ⟨j, hj, rfl, rfl⟩ := hrel
    have hs := leastOf_in k1 (xs.take j) fun a ha => HI.out a (List.mem_of_mem_take ha)
    by_cases hlt : j < n
    · obtain ⟨ad, u, rfl, _, hx, hc⟩ := hr1.at_ hlt
      obtain ⟨x, hx', rfl⟩ := nums_get hx
      obtain ⟨_, _, x1, x2⟩ := HI.out x (List.mem_of_getElem? hx')
      have HS := Lib.hid (least_snoc k xs j x hx')
      go_wp2
      · go_round
        case rel =>
          refine ⟨j + 1, by omega, by go_num, ?_⟩
          rw [HS.out]
          exact val_int (by split <;> omega)
        case measure => simp [intOf]; omega
    · have hjn : n ≤ j := by omega
      go_wp2
      go_ret2
      exact ⟨ret_two (by rw [List.take_of_length_le (by omega)]) rfl, hb1⟩
theorem list_no (F : Nat) (hF : F = 19 ∨ F = 20) (A : Option Addr) (n cap : Nat) (xs : List Int) (k : Int) (w : World) (hn : n ≤ maxLen) (hr : Reads w w.heap.size 1 A n (nums xs)) (hall : allOk xs k = false) :
    Calls Try.prog F #[.slice A n cap, .int .i64 k] w fun e w' => e = .returned (.tuple #[.int .i64 0, .int .i64 3]) ∧ Below w.heap.size w w' := by
  have ha := all_any A n cap xs k w hn hr
  rw [hall] at ha
  clear hall
  rcases hF with rfl | rfl
  · go_enter Try.func19, Try.ntmps19
    go_wp2_with (first
      | (go_at_call 21; (with_reducible refine (ha).mono ?_); rintro e w1 ⟨rfl, hb1⟩))
    go_ret2
    exact ⟨rfl, hb1⟩
  · go_enter Try.func20, Try.ntmps20
    go_wp2_with (first
      | (go_at_call 21; (with_reducible refine (ha).mono ?_); rintro e w1 ⟨rfl, hb1⟩))
    go_ret2
    exact ⟨rfl, hb1⟩
end Go.Proofs.Ytbgngpgebhnpbaa.con
