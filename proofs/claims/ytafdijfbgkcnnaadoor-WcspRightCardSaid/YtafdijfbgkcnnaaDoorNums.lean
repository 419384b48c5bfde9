/- Lists of integers as cells; small lemmas on values and endings. -/
import Derived.Test.YtafdijfbgkcnnaaDoorWords
import Derived.Test.YtafdijfbgkcnnaaDoorChecked
import Derived.WalkKit
import Derived.LoopTactic
import Derived.WalkLawsBesides
import Derived.WalkSpells
import Derived.BigQuiet
namespace Go.Proofs.YtafdijfbgkcnnaaDoor.words
open Go Go.RowKit
theorem ret_int {a b : Int} (h : a = b) : Ending.returned (.int .i64 a) = .returned (.int .i64 b) := by rw [h]
theorem ret_bool {a b : Bool} (h : a = b) : Ending.returned (.bool a) = .returned (.bool b) := by rw [h]
theorem ret_two {a b c d : Int} (h : a = b) (h2 : c = d) : Ending.returned (.tuple #[.int .i64 a, .int .i64 c]) = .returned (.tuple #[.int .i64 b, .int .i64 d]) := by rw [h, h2]
theorem val_int {a b : Int} (h : a = b) : Value.int .i64 a = Value.int .i64 b := by rw [h]
def nums (xs : List Int) : List Value := xs.map (Value.int .i64)
theorem nums_get {xs : List Int} {k : Nat} {u : Value} (h : (nums xs)[k]? = some u) : ∃ x, xs[k]? = some x ∧ u = .int .i64 x := by
  unfold nums at h; rw [List.getElem?_map] at h
  cases hx : xs[k]? with
  | none => rw [hx] at h; simp at h
  | some x => rw [hx] at h; simp at h; exact ⟨x, rfl, h.symm⟩
theorem nums_one {xs : List Int} : ∀ u ∈ nums xs, u.oneCell' = true := by
  intro u hu
  unfold nums at hu
  obtain ⟨x, _, rfl⟩ := List.mem_map.1 hu
  rfl
theorem nums_len {w : World} {B n : Nat} {A : Option Addr} {xs : List Int} (h : Reads w B 1 A n (nums xs)) : xs.length = n := by
  have := h.1; simpa [nums] using this
theorem nums_own_len {w : World} {base n : Nat} {e : TypeId} {v : Value} {xs : List Int} (h : w.ownsRow base e 1 v n (nums xs)) : xs.length = n := by
  have := h.1; simpa [nums] using this
theorem Reads.num {w : World} {B n : Nat} {A : Option Addr} {xs : List Int} (h : Reads w B 1 A n (nums xs)) {k : Nat} (hk : k < n) :
    ∃ ad x, A = some ad ∧ ad.block < B ∧ xs[k]? = some x ∧ w.cell? (ad.add k) = some (.int .i64 x) := by
  obtain ⟨ad, u, rfl, hb, hx, hc⟩ := h.at_ hk
  obtain ⟨x, hx', rfl⟩ := nums_get hx
  exact ⟨ad, x, rfl, hb, hx', hc⟩
theorem grown_drewN' {w w' : World} (h : Grown w w') (n : Nat) : Grown w (w'.drewN n) := h
theorem reads_block {w : World} {t : TypeId} {b n : Nat} {xs : List Value} (h : w.heap[b]? = some (.cells xs.toArray t (0, 0))) (hn : xs.length = n) : Reads w w.heap.size 1 (some ⟨b, 0, none⟩) n xs := by
  refine ⟨by omega, fun _ => ⟨_, rfl, Blk.lt h, fun j u hu => ?_⟩⟩
  have e : (Addr.add ⟨b, 0, none⟩ j) = ⟨b, j, none⟩ := by unfold Addr.add; split <;> simp_all
  rw [e, Blk.cell h j]
  simpa using hu
theorem Reads.lift {w w' : World} {n : Nat} {A : Option Addr} {xs : List Value} (h : Reads w w.heap.size 1 A n xs) (hb : Below w.heap.size w w') : Reads w' w'.heap.size 1 A n xs :=
  (h.below hb).more hb.size
theorem bcell {W w1 : World} (hb : Below W.heap.size W w1) : (∀ b o, b < W.heap.size → w1.cell? ⟨b, o, none⟩ = W.cell? ⟨b, o, none⟩) ∧ (∀ b o, b < W.heap.size → w1.frozen? ⟨b, o, none⟩ = W.frozen? ⟨b, o, none⟩) :=
  ⟨fun b o h => hb.cell (p := ⟨b, o, none⟩) h, fun b o h => hb.frozen (p := ⟨b, o, none⟩) h⟩
theorem Blk.under {w w' : World} {g : Nat} {t : TypeId} {cs : Array Value} (h : Blk w g t cs) (hb : Below w.heap.size w w') : Blk w' g t cs := h.below hb h.lt
theorem Blk.one {w : World} {g : Nat} {t : TypeId} {u : Value} (h : Blk w g t #[u]) : w.cell? ⟨g, 0, none⟩ = some u ∧ w.frozen? ⟨g, 0, none⟩ = false := ⟨by rw [h.cell 0]; rfl, h.frozen 0⟩
theorem bto {w a b : World} (h : Below w.heap.size w a) (h2 : Below a.heap.size a b) : Below w.heap.size w b := h.trans (h2.mono h.size)
theorem bnew {w a : World} (h : Below w.heap.size w a) (o : Obj) : Below w.heap.size w (a.alloc o) := h.alloc h.size o
theorem bone (w : World) (o : Obj) : Below w.heap.size w (w.alloc o) := bnew (Below.refl _ _) o
theorem own_under {w w' : World} {base : Nat} {e : TypeId} {size : Nat} {v : Value} {n : Nat} {xs : List Value} (h : w.ownsRow base e size v n xs) (hb : Below w.heap.size w w') : w'.ownsRow base e size v n xs := by
  refine h.kept (only_of_below hb none) ?_
  by_cases h0 : v.ownBlock = none
  · exact .inl h0
  · exact .inr h0
theorem own_base {w : World} {base base' : Nat} {e : TypeId} {size : Nat} {v : Value} {n : Nat} {xs : List Value} (h : w.ownsRow base e size v n xs) (hb : base' ≤ base) : w.ownsRow base' e size v n xs :=
  ⟨h.1, h.2.elim Or.inl (fun ⟨g, cap, cur, hv, hg, r⟩ => Or.inr ⟨g, cap, cur, hv, Nat.le_trans hb hg, r⟩)⟩
theorem reads_cut {w : World} {B n cap k : Nat} {A : Option Addr} {xs : List Int} (h : Reads w B 1 A n (nums xs)) (hk : k ≤ n) (hc : n ≤ cap) (h0 : 0 < k) :
    (cap = k → Reads w B 1 A (n - k) (nums (xs.drop k))) ∧ (¬ cap = k → Reads w B 1 (A.map fun x => { block := x.block, off := x.off + k }) (n - k) (nums (xs.drop k))) := by
  have h1 := h.cut hk hc
  have e : nums (xs.drop k) = (nums xs).drop (k * 1) := by unfold nums; rw [List.map_drop, Nat.mul_one]
  rw [e]
  constructor
  · intro hck; rw [if_pos hck] at h1; exact h1
  · intro hck; rw [if_neg hck] at h1
    have ef : (fun x : Addr => x.add (k * 1)) = fun x => { block := x.block, off := x.off + k } := by
      funext x; unfold Addr.add; rw [if_neg (by omega), Nat.mul_one]
    rw [ef] at h1; exact h1
theorem take_zip {α β : Type} (a : List α) (b : List β) (j : Nat) : (List.zip a b).take j = List.zip (a.take j) (b.take j) := by
  induction a generalizing b j with
  | nil => simp
  | cons x a ih =>
    cases b with
    | nil => simp
    | cons y b => cases j with
      | zero => simp
      | succ j => simp [ih]
theorem own_cap {w : World} {base : Nat} {e : TypeId} {size : Nat} {A : Option Addr} {n c : Nat} {xs : List Value} (h : w.ownsRow base e size (.slice A n c) n xs) : n ≤ c := by
  rcases h.2 with ⟨h1, h0⟩ | ⟨g, cap, cur, hv, hb, hg, hc, _⟩
  · omega
  · injection hv with _ _ h3; omega
theorem Blk.at_ {w : World} {g : Nat} {t : TypeId} {u : Value} (h : Blk w g t #[u]) {w' : World} (hb : Below w.heap.size w w') : w'.cell? ⟨g, 0, none⟩ = some u ∧ w'.frozen? ⟨g, 0, none⟩ = false := (h.under hb).one
/-- of the old blocks only those of S have turned -/
structure Tch (w w' : World) (S : Nat → Prop) : Prop where
  os : w'.os = w.os
  tape : w'.tape = w.tape
  output : w'.output = w.output
  size : w.heap.size ≤ w'.heap.size
  block : ∀ k, k < w.heap.size → ¬ S k → w'.heap[k]? = w.heap[k]?
theorem Tch.refl (w : World) (S : Nat → Prop) : Tch w w S := ⟨rfl, rfl, rfl, Nat.le_refl _, fun _ _ _ => rfl⟩
theorem Tch.trans {a b c : World} {S S' : Nat → Prop} (h : Tch a b S) (k : Tch b c S') (hs : ∀ i, i < a.heap.size → S' i → S i) : Tch a c S :=
  ⟨k.os.trans h.os, k.tape.trans h.tape, k.output.trans h.output, Nat.le_trans h.size k.size, fun i hi hn => (k.block i (Nat.lt_of_lt_of_le hi h.size) (fun x => hn (hs i hi x))).trans (h.block i hi hn)⟩
theorem Tch.mono {a b : World} {S S' : Nat → Prop} (h : Tch a b S) (hs : ∀ i, i < a.heap.size → S i → S' i) : Tch a b S' := ⟨h.os, h.tape, h.output, h.size, fun i hi hn => h.block i hi fun x => hn (hs i hi x)⟩
theorem Tch.below {a b : World} {S : Nat → Prop} {B : Nat} (h : Tch a b S) (hB : B ≤ a.heap.size) (hs : ∀ i, i < B → ¬ S i) : Below B a b := ⟨h.os, h.tape, h.output, h.size, fun i hi => h.block i (by omega) (hs i hi)⟩
theorem Tch.of_below {a b : World} (h : Below a.heap.size a b) (S : Nat → Prop) : Tch a b S := ⟨h.os, h.tape, h.output, h.size, fun i hi _ => h.block i hi⟩
theorem Tch.of_grown {a b : World} {row : Option Nat} (h : a.grownBy b row) {S : Nat → Prop} (hs : ∀ i, i < a.heap.size → some i = row → S i) : Tch a b S := ⟨h.os, h.tape, h.output, h.size, fun i hi hn => h.block i hi fun e => hn (hs i hi e)⟩
theorem Tch.set_ (a : World) {S : Nat → Prop} {p : Addr} (u : Value) (hs : S p.block) : Tch a (a.setCell p u) S :=
  ⟨rfl, rfl, rfl, by simp [World.setCell], fun i _ hn => Below.heap_setCell a p u i fun e => hn (by rw [e]; exact hs)⟩
theorem Tch.put {a b : World} {S : Nat → Prop} (h : Tch a b S) {p : Addr} (u : Value) (hs : S p.block) : Tch a (b.setCell p u) S := h.trans (Tch.set_ b u hs) fun _ _ x => x
theorem Tch.drew {a b : World} {S : Nat → Prop} (h : Tch a b S) : Tch a b.drew S := ⟨h.os, h.tape, h.output, h.size, h.block⟩
theorem Tch.blk {a b : World} {S : Nat → Prop} (h : Tch a b S) {g : Nat} {t : TypeId} {cs : Array Value} (hb : Blk a g t cs) (hn : ¬ S g) : Blk b g t cs := (h.block g hb.lt hn).trans hb
theorem Tch.own {a b : World} {S : Nat → Prop} (h : Tch a b S) {base : Nat} {e : TypeId} {size : Nat} {v : Value} {n : Nat} {xs : List Value} (ho : a.ownsRow base e size v n xs) (hn : ∀ g, v.ownBlock = some g → ¬ S g) : b.ownsRow base e size v n xs := by
  rcases ho.2 with h0 | ⟨g, cap, cur, rfl, hb, hh, hr⟩
  · exact ⟨ho.1, .inl h0⟩
  · exact ⟨ho.1, .inr ⟨g, cap, cur, rfl, hb, (h.block g (Blk.lt hh) (hn g rfl)).trans hh, hr⟩⟩
theorem Tch.reads {a b : World} {S : Nat → Prop} (h : Tch a b S) {B size n : Nat} {A : Option Addr} {xs : List Value} (hr : Reads a B size A n xs) (hB : B ≤ a.heap.size) (hn : ∀ i, i < B → ¬ S i) : Reads b B size A n xs :=
  hr.keep fun p hp => World.cell?_of_block (h.block p.block (by omega) (hn _ hp))
theorem own_in {w : World} {base : Nat} {e : TypeId} {size : Nat} {v : Value} {n : Nat} {xs : List Value} (h : w.ownsRow base e size v n xs) {q : Nat} (hq : v.ownBlock = some q) : base ≤ q ∧ q < w.heap.size := by
  rcases h.2 with ⟨rfl, _⟩ | ⟨g, cap, cur, rfl, hb, hg, _⟩
  · cases hq
  · injection hq with hq; subst hq; exact ⟨hb, Blk.lt hg⟩
theorem Blk.two {w : World} {g : Nat} {t : TypeId} {a b : Value} (h : Blk w g t #[a, b]) : w.cell? ⟨g, 0, none⟩ = some a ∧ w.cell? ⟨g, 1, none⟩ = some b := ⟨h.cell 0, h.cell 1⟩
theorem wf_u8 {x : Int} (h : (Lit.int .u8 x).wf = true) : ∃ n : Nat, x = n ∧ n < 256 := by
  simp [Lit.wf, IntKind.min, IntKind.max, IntKind.signed, IntKind.bits] at h
  exact ⟨x.toNat, by omega, by omega⟩
theorem wf_u16 {x : Int} (h : (Lit.int .u16 x).wf = true) : ∃ n : Nat, x = n ∧ n < 65536 := by
  simp [Lit.wf, IntKind.min, IntKind.max, IntKind.signed, IntKind.bits] at h
  exact ⟨x.toNat, by omega, by omega⟩
theorem wf_u32 {x : Int} (h : (Lit.int .u32 x).wf = true) : ∃ n : Nat, x = n ∧ n < 4294967296 := by
  simp [Lit.wf, IntKind.min, IntKind.max, IntKind.signed, IntKind.bits] at h
  exact ⟨x.toNat, by omega, by omega⟩
theorem wf_i64 {x : Int} (h : (Lit.int .i64 x).wf = true) : -9223372036854775808 ≤ x ∧ x ≤ 9223372036854775807 := by
  simp [Lit.wf, IntKind.min, IntKind.max, IntKind.signed, IntKind.bits] at h
  omega
end Go.Proofs.YtafdijfbgkcnnaaDoor.words
