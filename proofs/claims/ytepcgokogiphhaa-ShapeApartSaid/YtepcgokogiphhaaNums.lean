/- Lists of integers as cells; small lemmas on values and endings. -/
import Derived.Test.YtepcgokogiphhaaWords
import Derived.Test.YtepcgokogiphhaaChecked
import Derived.WalkKit
import Derived.LoopTactic
import Derived.WalkLawsBesides
import Derived.WalkSpells
import Derived.BigQuiet
namespace Go.Proofs.Ytepcgokogiphhaa.words
open Go Go.RowKit
theorem ret_int {a b : Int} (h : a = b) : Ending.returned (.int .i64 a) = .returned (.int .i64 b) := by rw [h]
theorem ret_bool {a b : Bool} (h : a = b) : Ending.returned (.bool a) = .returned (.bool b) := by rw [h]
theorem ret_two {a b c d : Int} (h : a = b) (h2 : c = d) : Ending.returned (.tuple #[.int .i64 a, .int .i64 c]) = .returned (.tuple #[.int .i64 b, .int .i64 d]) := by rw [h, h2]
theorem val_int {a b : Int} (h : a = b) : Value.int .i64 a = Value.int .i64 b := by rw [h]
def nums (xs : List Int) : List Value := xs.map (Value.int .i64)
theorem nums_get {xs : List Int} {k : Nat} {u : Value} (h : (nums xs)[k]? = some u) : ∃ x, xs[k]? = some x ∧ u = .int .i64 x := by
  unfold nums at h; rw [List.getElem?_map] at h
  cases hx : xs[k]? with
  | none => rw [hx] at h; simp at h
  | some x => rw [hx] at h; simp at h; exact ⟨x, rfl, h.symm⟩
theorem nums_one {xs : List Int} : ∀ u ∈ nums xs, u.oneCell' = true := by
  intro u hu
  unfold nums at hu
  obtain ⟨x, _, rfl⟩ := List.mem_map.1 hu
  rfl
theorem nums_len {w : World} {B n : Nat} {A : Option Addr} {xs : List Int} (h : Reads w B 1 A n (nums xs)) : xs.length = n := by
  have := h.1; simpa [nums] using this
theorem nums_own_len {w : World} {base n : Nat} {e : TypeId} {v : Value} {xs : List Int} (h : w.ownsRow base e 1 v n (nums xs)) : xs.length = n := by
  have := h.1; simpa [nums] using this
theorem Reads.num {w : World} {B n : Nat} {A : Option Addr} {xs : List Int} (h : Reads w B 1 A n (nums xs)) {k : Nat} (hk : k < n) :
    ∃ ad x, A = some ad ∧ ad.block < B ∧ xs[k]? = some x ∧ w.cell? (ad.add k) = some (.int .i64 x) := by
  obtain ⟨ad, u, rfl, hb, hx, hc⟩ := h.at_ hk
  obtain ⟨x, hx', rfl⟩ := nums_get hx
  exact ⟨ad, x, rfl, hb, hx', hc⟩
theorem grown_drewN' {w w' : World} (h : Grown w w') (n : Nat) : Grown w (w'.drewN n) := h
theorem reads_block {w : World} {t : TypeId} {b n : Nat} {xs : List Value} (h : w.heap[b]? = some (.cells xs.toArray t (0, 0))) (hn : xs.length = n) : Reads w w.heap.size 1 (some ⟨b, 0, none⟩) n xs := by
  refine ⟨by omega, fun _ => ⟨_, rfl, Blk.lt h, fun j u hu => ?_⟩⟩
  have e : (Addr.add ⟨b, 0, none⟩ j) = ⟨b, j, none⟩ := by unfold Addr.add; split <;> simp_all
  rw [e, Blk.cell h j]
  simpa using hu
theorem Reads.lift {w w' : World} {n : Nat} {A : Option Addr} {xs : List Value} (h : Reads w w.heap.size 1 A n xs) (hb : Below w.heap.size w w') : Reads w' w'.heap.size 1 A n xs :=
  (h.below hb).more hb.size
theorem bcell {W w1 : World} (hb : Below W.heap.size W w1) : (∀ b o, b < W.heap.size → w1.cell? ⟨b, o, none⟩ = W.cell? ⟨b, o, none⟩) ∧ (∀ b o, b < W.heap.size → w1.frozen? ⟨b, o, none⟩ = W.frozen? ⟨b, o, none⟩) :=
  ⟨fun b o h => hb.cell (p := ⟨b, o, none⟩) h, fun b o h => hb.frozen (p := ⟨b, o, none⟩) h⟩
theorem Blk.under {w w' : World} {g : Nat} {t : TypeId} {cs : Array Value} (h : Blk w g t cs) (hb : Below w.heap.size w w') : Blk w' g t cs := h.below hb h.lt
theorem Blk.one {w : World} {g : Nat} {t : TypeId} {u : Value} (h : Blk w g t #[u]) : w.cell? ⟨g, 0, none⟩ = some u ∧ w.frozen? ⟨g, 0, none⟩ = false := ⟨by rw [h.cell 0]; rfl, h.frozen 0⟩
theorem bto {w a b : World} (h : Below w.heap.size w a) (h2 : Below a.heap.size a b) : Below w.heap.size w b := h.trans (h2.mono h.size)
theorem bnew {w a : World} (h : Below w.heap.size w a) (o : Obj) : Below w.heap.size w (a.alloc o) := h.alloc h.size o
theorem bone (w : World) (o : Obj) : Below w.heap.size w (w.alloc o) := bnew (Below.refl _ _) o
theorem own_under {w w' : World} {base : Nat} {e : TypeId} {size : Nat} {v : Value} {n : Nat} {xs : List Value} (h : w.ownsRow base e size v n xs) (hb : Below w.heap.size w w') : w'.ownsRow base e size v n xs := by
  refine h.kept (only_of_below hb none) ?_
  by_cases h0 : v.ownBlock = none
  · exact .inl h0
  · exact .inr h0
theorem own_base {w : World} {base base' : Nat} {e : TypeId} {size : Nat} {v : Value} {n : Nat} {xs : List Value} (h : w.ownsRow base e size v n xs) (hb : base' ≤ base) : w.ownsRow base' e size v n xs :=
  ⟨h.1, h.2.elim Or.inl (fun ⟨g, cap, cur, hv, hg, r⟩ => Or.inr ⟨g, cap, cur, hv, Nat.le_trans hb hg, r⟩)⟩
theorem reads_cut {w : World} {B n cap k : Nat} {A : Option Addr} {xs : List Int} (h : Reads w B 1 A n (nums xs)) (hk : k ≤ n) (hc : n ≤ cap) (h0 : 0 < k) :
    (cap = k → Reads w B 1 A (n - k) (nums (xs.drop k))) ∧ (¬ cap = k → Reads w B 1 (A.map fun x => { block := x.block, off := x.off + k }) (n - k) (nums (xs.drop k))) := by
  have h1 := h.cut hk hc
  have e : nums (xs.drop k) = (nums xs).drop (k * 1) := by unfold nums; rw [List.map_drop, Nat.mul_one]
  rw [e]
  constructor
  · intro hck; rw [if_pos hck] at h1; exact h1
  · intro hck; rw [if_neg hck] at h1
    have ef : (fun x : Addr => x.add (k * 1)) = fun x => { block := x.block, off := x.off + k } := by
      funext x; unfold Addr.add; rw [if_neg (by omega), Nat.mul_one]
    rw [ef] at h1; exact h1
theorem take_zip {α β : Type} (a : List α) (b : List β) (j : Nat) : (List.zip a b).take j = List.zip (a.take j) (b.take j) := by
  induction a generalizing b j with
  | nil => simp
  | cons x a ih =>
    cases b with
    | nil => simp
    | cons y b => cases j with
      | zero => simp
      | succ j => simp [ih]
theorem own_cap {w : World} {base : Nat} {e : TypeId} {size : Nat} {A : Option Addr} {n c : Nat} {xs : List Value} (h : w.ownsRow base e size (.slice A n c) n xs) : n ≤ c := by
  rcases h.2 with ⟨h1, h0⟩ | ⟨g, cap, cur, hv, hb, hg, hc, _⟩
  · omega
  · injection hv with _ _ h3; omega
theorem Blk.at_ {w : World} {g : Nat} {t : TypeId} {u : Value} (h : Blk w g t #[u]) {w' : World} (hb : Below w.heap.size w w') : w'.cell? ⟨g, 0, none⟩ = some u ∧ w'.frozen? ⟨g, 0, none⟩ = false := (h.under hb).one
end Go.Proofs.Ytepcgokogiphhaa.words
