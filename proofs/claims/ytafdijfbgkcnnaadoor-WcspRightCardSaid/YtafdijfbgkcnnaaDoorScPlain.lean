/- Words in bytes: what is next, and all of them; digits. Plain. -/
import Derived.Test.YtafdijfbgkcnnaaDoorNums
namespace Go.Proofs.YtafdijfbgkcnnaaDoor.scn
open Go Go.Proofs.YtafdijfbgkcnnaaDoor.words
set_option linter.unusedVariables false
/-- the byte at a place; 0 behind the end -/
def at_ (bs : List UInt8) (i : Nat) : Nat := (bs.getD i 0).toNat
def isB (b : Nat) : Bool := b == 32 || b == 9 || b == 10 || b == 13
def isIn (b : Nat) : Bool := decide (33 ≤ b) && decide (b ≤ 126)
theorem in_not_b {b : Nat} (h : isIn b = true) : isB b = false := by
  simp only [isIn, Bool.and_eq_true, decide_eq_true_eq] at h
  simp only [isB, Bool.or_eq_false_iff, beq_eq_false_iff_ne]
  omega
/-- what comes next stands at i -/
structure Skip (bs : List UInt8) (a i : Nat) : Prop where
  le : a ≤ i
  len : i ≤ bs.length
  all : ∀ j, a ≤ j → j < i → isB (at_ bs j) = true
  stop : i < bs.length → isB (at_ bs i) = false
theorem Skip.uniq {bs : List UInt8} {a i j : Nat} (h : Skip bs a i) (k : Skip bs a j) : i = j := by
  rcases Nat.lt_trichotomy i j with hl | hl | hl
  · have := k.all i h.le hl; rw [h.stop (Nat.lt_of_lt_of_le hl k.len)] at this; cases this
  · exact hl
  · have := h.all j k.le hl; rw [k.stop (Nat.lt_of_lt_of_le hl h.len)] at this; cases this
/-- the bytes of words from i on end at j -/
structure Ins (bs : List UInt8) (i j : Nat) : Prop where
  le : i ≤ j
  len : j ≤ bs.length
  all : ∀ q, i ≤ q → q < j → isIn (at_ bs q) = true
  stop : j < bs.length → isIn (at_ bs j) = false
theorem Ins.uniq {bs : List UInt8} {a i j : Nat} (h : Ins bs a i) (k : Ins bs a j) : i = j := by
  rcases Nat.lt_trichotomy i j with hl | hl | hl
  · have := k.all i h.le hl; rw [h.stop (Nat.lt_of_lt_of_le hl k.len)] at this; cases this
  · exact hl
  · have := h.all j k.le hl; rw [k.stop (Nat.lt_of_lt_of_le hl h.len)] at this; cases this
/-- what a word stops at is wrong -/
def Wrong (bs : List UInt8) (j : Nat) : Prop := j < bs.length ∧ isB (at_ bs j) = false
inductive Nx where
  | bad (i : Nat)
  | none
  | word (i j : Nat)
/-- what is next from a on -/
def Next (bs : List UInt8) (a : Nat) (r : Nx) : Prop :=
  ∃ i j, Skip bs a i ∧ Ins bs i j ∧ ((Wrong bs j ∧ r = .bad j) ∨ (¬ Wrong bs j ∧ i = j ∧ r = .none) ∨ (¬ Wrong bs j ∧ i < j ∧ r = .word i j))
theorem Next.uniq {bs : List UInt8} {a : Nat} {r s : Nx} (h : Next bs a r) (k : Next bs a s) : r = s := by
  obtain ⟨i, j, h1, h2, h3⟩ := h
  obtain ⟨i', j', k1, k2, k3⟩ := k
  obtain rfl := h1.uniq k1
  obtain rfl := h2.uniq k2
  rcases h3 with ⟨a1, rfl⟩ | ⟨a1, a2, rfl⟩ | ⟨a1, a2, rfl⟩ <;> rcases k3 with ⟨b1, rfl⟩ | ⟨b1, b2, rfl⟩ | ⟨b1, b2, rfl⟩
  · rfl
  · exact absurd a1 b1
  · exact absurd a1 b1
  · exact absurd b1 a1
  · rfl
  · omega
  · exact absurd b1 a1
  · omega
  · rfl
/-- nothing is behind the end -/
theorem next_none {bs : List UInt8} {a i : Nat} (h : Skip bs a i) (hi : i = bs.length) : Next bs a .none :=
  ⟨i, i, h, ⟨Nat.le_refl _, h.len, fun q h1 h2 => by omega, fun h3 => by omega⟩, .inr (.inl ⟨fun hw => by have := hw.1; omega, rfl, rfl⟩)⟩
theorem Next.none_at {bs : List UInt8} {a : Nat} (h : Next bs a .none) : Skip bs a bs.length := by
  obtain ⟨i, j, h1, h2, h3⟩ := h
  rcases h3 with ⟨_, e⟩ | ⟨a1, rfl, _⟩ | ⟨_, _, e⟩
  · cases e
  · by_cases hl : i < bs.length
    · exact absurd ⟨hl, h1.stop hl⟩ a1
    · obtain rfl : i = bs.length := by have := h1.len; omega
      exact h1
  · cases e
theorem Next.word_at {bs : List UInt8} {a i j : Nat} (h : Next bs a (.word i j)) : Skip bs a i ∧ Ins bs i j ∧ ¬ Wrong bs j ∧ i < j := by
  obtain ⟨i', j', h1, h2, h3⟩ := h
  rcases h3 with ⟨_, e⟩ | ⟨_, _, e⟩ | ⟨a1, a2, e⟩
  · cases e
  · cases e
  · injection e with e1 e2
    subst e1; subst e2
    exact ⟨h1, h2, a1, a2⟩
theorem Next.bad_at {bs : List UInt8} {a j : Nat} (h : Next bs a (.bad j)) : ∃ i, Skip bs a i ∧ Ins bs i j ∧ Wrong bs j := by
  obtain ⟨i', j', h1, h2, h3⟩ := h
  rcases h3 with ⟨a1, e⟩ | ⟨_, _, e⟩ | ⟨_, _, e⟩
  · injection e with e; subst e; exact ⟨i', h1, h2, a1⟩
  · cases e
  · cases e
/-- a word, and its place -/
abbrev Wd := List UInt8 × Nat
def sub (bs : List UInt8) (i j : Nat) : List UInt8 := (bs.take j).drop i
theorem sub_len {bs : List UInt8} {i j : Nat} (hj : j ≤ bs.length) : (sub bs i j).length = j - i := by unfold sub; simp; omega
theorem sub_nil (bs : List UInt8) (i : Nat) : sub bs i i = [] := by unfold sub; exact List.drop_eq_nil_of_le (by simp; omega)
theorem sub_snoc {bs : List UInt8} {i j : Nat} (hij : i ≤ j) (hj : j < bs.length) : sub bs i (j + 1) = sub bs i j ++ [bs.getD j 0] := by
  unfold sub
  rw [List.take_add_one, List.drop_append, List.getD_eq_getElem?_getD, List.getElem?_eq_getElem hj]
  have : i - (bs.take j).length = 0 := by rw [List.length_take]; omega
  rw [this]; simp
/-- the words from a on are these, and then it stands at z -/
inductive Chain (bs : List UInt8) : Nat → List Wd → Nat → Prop
  | nil (a : Nat) : Chain bs a [] a
  | cons {a i j z : Nat} {l : List Wd} (h : Next bs a (.word i j)) (k : Chain bs j l z) : Chain bs a ((sub bs i j, i) :: l) z
theorem Chain.snoc {bs : List UInt8} {a z i j : Nat} {l : List Wd} (h : Chain bs a l z) (k : Next bs z (.word i j)) : Chain bs a (l ++ [(sub bs i j, i)]) j := by
  induction h with
  | nil => exact .cons k (.nil _)
  | cons h1 _ ih => exact .cons h1 (ih k)
/-- what all words are told as -/
def Told (bs : List UInt8) (l : List Wd) (bad : Int) : Prop := ∃ z, Chain bs 0 l z ∧ ((bad = -1 ∧ Next bs z .none) ∨ ∃ b : Nat, bad = b ∧ Next bs z (.bad b))
/-- so far: i bytes are read -/
def Far (bs : List UInt8) (i : Nat) (l : List Wd) (op : Bool) : Prop :=
  ∃ z, (op = false ∧ Chain bs 0 l z ∧ z ≤ i ∧ ∀ q, z ≤ q → q < i → isB (at_ bs q) = true) ∨
    (op = true ∧ ∃ l0 s, l = l0 ++ [(sub bs s i, s)] ∧ Chain bs 0 l0 z ∧ Skip bs z s ∧ s < i ∧ ∀ q, s ≤ q → q < i → isIn (at_ bs q) = true)
theorem far_zero (bs : List UInt8) : Far bs 0 [] false := ⟨0, .inl ⟨rfl, .nil 0, Nat.le_refl _, fun q h1 h2 => by omega⟩⟩
/-- what stands between -/
theorem Far.between {bs : List UInt8} {i : Nat} {l : List Wd} {op : Bool} (h : Far bs i l op) (hi : i < bs.length) (hb : isB (at_ bs i) = true) : Far bs (i + 1) l false := by
  obtain ⟨z, ⟨rfl, h1, h2, h3⟩ | ⟨rfl, l0, s, rfl, h1, h2, h3, h4⟩⟩ := h
  · refine ⟨z, .inl ⟨rfl, h1, by omega, fun q q1 q2 => ?_⟩⟩
    by_cases e : q = i
    · rw [e]; exact hb
    · exact h3 q q1 (by omega)
  · have hw : ¬ Wrong bs i := fun hw => by rw [hw.2] at hb; cases hb
    have hin : Ins bs s i := ⟨by omega, by omega, h4, fun _ => by
      cases hc : isIn (at_ bs i) with
      | false => rfl
      | true => rw [in_not_b hc] at hb; cases hb⟩
    refine ⟨i, .inl ⟨rfl, h1.snoc ⟨s, i, h2, hin, .inr (.inr ⟨hw, h3, rfl⟩)⟩, by omega, fun q q1 q2 => ?_⟩⟩
    obtain rfl : q = i := by omega
    exact hb
/-- a word begins -/
theorem Far.begins {bs : List UInt8} {i : Nat} {l : List Wd} (h : Far bs i l false) (hi : i < bs.length) (hb : isIn (at_ bs i) = true) : Far bs (i + 1) (l ++ [([bs.getD i 0], i)]) true := by
  obtain ⟨z, ⟨_, h1, h2, h3⟩ | ⟨e, _⟩⟩ := h
  · refine ⟨z, .inr ⟨rfl, l, i, ?_, h1, ⟨h2, by omega, h3, fun _ => in_not_b hb⟩, by omega, fun q q1 q2 => ?_⟩⟩
    · rw [sub_snoc (Nat.le_refl _) hi, sub_nil]; rfl
    · obtain rfl : q = i := by omega
      exact hb
  · cases e
/-- and goes on -/
theorem Far.goes {bs : List UInt8} {i : Nat} {l : List Wd} (h : Far bs i l true) (hi : i < bs.length) (hb : isIn (at_ bs i) = true) : ∃ l0 w s, l = l0 ++ [(w, s)] ∧ w.length ≤ bs.length ∧ Far bs (i + 1) (l0 ++ [(w ++ [bs.getD i 0], s)]) true := by
  obtain ⟨z, ⟨e, _⟩ | ⟨_, l0, s, rfl, h1, h2, h3, h4⟩⟩ := h
  · cases e
  · refine ⟨l0, _, s, rfl, by rw [sub_len (by omega)]; omega, z, .inr ⟨rfl, l0, s, ?_, h1, h2, by omega, fun q q1 q2 => ?_⟩⟩
    · rw [sub_snoc (by omega) hi]
    · by_cases e : q = i
      · rw [e]; exact hb
      · exact h4 q q1 (by omega)
/-- the end -/
theorem Far.ends {bs : List UInt8} {l : List Wd} {op : Bool} (h : Far bs bs.length l op) : Told bs l (-1) := by
  obtain ⟨z, ⟨rfl, h1, h2, h3⟩ | ⟨rfl, l0, s, rfl, h1, h2, h3, h4⟩⟩ := h
  · exact ⟨z, h1, .inl ⟨rfl, next_none ⟨h2, Nat.le_refl _, h3, fun h => by omega⟩ rfl⟩⟩
  · have hin : Ins bs s bs.length := ⟨by omega, Nat.le_refl _, h4, fun h => by omega⟩
    exact ⟨bs.length, h1.snoc ⟨s, bs.length, h2, hin, .inr (.inr ⟨fun hw => by have := hw.1; omega, h3, rfl⟩)⟩, .inl ⟨rfl, next_none ⟨Nat.le_refl _, Nat.le_refl _, fun q q1 q2 => by omega, fun h => by omega⟩ rfl⟩⟩
/-- a wrong byte -/
theorem Far.wrong {bs : List UInt8} {i : Nat} {l : List Wd} (hi : i < bs.length) (hb : isB (at_ bs i) = false) (hn : isIn (at_ bs i) = false) :
    (Far bs i l false → Told bs l i) ∧ (Far bs i l true → ∃ l0 x, l = l0 ++ [x] ∧ Told bs l0 i) := by
  constructor
  · rintro ⟨z, ⟨_, h1, h2, h3⟩ | ⟨e, _⟩⟩
    · exact ⟨z, h1, .inr ⟨i, rfl, i, i, ⟨h2, by omega, h3, fun _ => hb⟩, ⟨Nat.le_refl _, by omega, fun q q1 q2 => by omega, fun _ => hn⟩, .inl ⟨⟨hi, hb⟩, rfl⟩⟩⟩
    · cases e
  · rintro ⟨z, ⟨e, _⟩ | ⟨_, l0, s, rfl, h1, h2, h3, h4⟩⟩
    · cases e
    · exact ⟨l0, _, rfl, z, h1, .inr ⟨i, rfl, s, i, h2, ⟨by omega, by omega, h4, fun _ => hn⟩, .inl ⟨⟨hi, hb⟩, rfl⟩⟩⟩
/-! ### Digits -/
def isD (b : UInt8) : Bool := decide (48 ≤ b.toNat) && decide (b.toNat ≤ 57)
def dec (l : List UInt8) : Nat := l.foldl (fun n b => 10 * n + (b.toNat - 48)) 0
theorem dec_snoc (l : List UInt8) (b : UInt8) : dec (l ++ [b]) = 10 * dec l + (b.toNat - 48) := by simp [dec]
def farN : Nat := 4611686018427387904
/-- a word without its sign, read -/
def readN (l : List UInt8) : Option Nat := if l ≠ [] ∧ l.all isD = true then some (min (dec l) farN) else none
/-- a word, read: the number, the error -/
def readW (l : List UInt8) : Int × Int :=
  match l with
  | [] => (0, 4)
  | b :: r => if b.toNat = 45 then (match readN r with | some n => (-(n : Int), 0) | none => (0, 4)) else (match readN (b :: r) with | some n => ((n : Int), 0) | none => (0, 4))
theorem far_step (m d : Nat) (hd : d ≤ 9) : min (10 * m + d) farN = if (farN - d) / 10 < min m farN then farN else 10 * min m farN + d := by
  unfold farN
  split <;> omega
end Go.Proofs.YtafdijfbgkcnnaaDoor.scn
