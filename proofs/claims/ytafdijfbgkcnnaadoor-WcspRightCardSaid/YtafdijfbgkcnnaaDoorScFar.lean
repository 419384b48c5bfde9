/- A new scan, unpacked; Word at the end of all. -/
import Derived.Test.YtafdijfbgkcnnaaDoorScCount
namespace Go.Proofs.YtafdijfbgkcnnaaDoor.scn
open Go Go.RowKit Go.ChangeShapes Go.WideShapes Go.ChangeAt Go.Proofs.YtafdijfbgkcnnaaDoor.words
set_option linter.unusedVariables false
/-- a scan whose bytes lie from B on -/
def Scf (B : Nat) (w : World) (g : Nat) (bs : List UInt8) (a : Nat) (bad : Int) : Prop :=
  ∃ A c, Blk w g 138 #[.slice A bs.length c, .int .i64 a, .int .i64 bad] ∧ w.ownsRow B 5 1 (.slice A bs.length c) bs.length (bv bs)
theorem Scf.scn {B : Nat} {w : World} {g : Nat} {bs : List UInt8} {a : Nat} {bad : Int} (h : Scf B w g bs a bad) : Scn w g bs a bad := by
  obtain ⟨A, c, h1, h2⟩ := h
  exact ⟨A, c, h1, own_base h2 (Nat.zero_le _)⟩
theorem Scf.tch {B : Nat} {w w' : World} {g : Nat} {bs : List UInt8} {a : Nat} {bad : Int} {S : Nat → Prop} (h : Scf B w g bs a bad) (ht : Tch w w' S) (hg : ¬ S g) (hs : ∀ k, S k → k < B) : Scf B w' g bs a bad := by
  obtain ⟨A, c, h1, h2⟩ := h
  exact ⟨A, c, ht.blk h1 hg, ht.own h2 fun k hk hS => by have := (own_in h2 hk).1; have := hs k hS; omega⟩
theorem new_far (A : Option Addr) (n cap : Nat) (bs : List UInt8) (w : World) (hn : n ≤ 1000000) (hr : Reads w w.heap.size 1 A n (bv bs)) :
    Calls Tryd.prog 29 #[.slice A n cap] w fun e w' => ∃ g, e = .returned (.pointer (some ⟨g, 0, none⟩)) ∧ Scf w.heap.size w' g bs 0 (-1) ∧ w.heap.size ≤ g ∧ Below w.heap.size w w' := by
  have hcl := clone_any A n cap bs w hn hr
  clear hr
  go_enter Tryd.func29, Tryd.ntmps29
  go_wp2_with fail
  refine hcl.mono ?_
  rintro e w1 ⟨A1, c1, rfl, ho, hb⟩
  have hfin : Hid (Scf w.heap.size (w1.alloc (.cells #[.slice A1 bs.length c1, .int .i64 (0 : Nat), .int .i64 (-1)] 138)) w1.heap.size bs 0 (-1)) := ⟨A1, c1, Blk.new _ _ _, own_under ho (bone _ _)⟩
  clear hcl ho
  go_wp2_with fail
  go_ret
  exact ⟨_, rfl, hfin.out, hb.size, bnew hb _⟩
theorem word_end {w : World} {g : Nat} {bs : List UInt8} {a : Nat} {bad : Int} (h : Scn w g bs a (-1) ∨ Scn w g bs a bad) (hl : Lft bs a [] bad) (hn : bs.length ≤ 1000000) :
    Calls Tryd.prog 35 #[.pointer (some ⟨g, 0, none⟩)] w fun e w' => ∃ x er : Int, e = .returned (.tuple #[strV [], .int .i64 x, .int .i64 er]) ∧ ((bad = -1 ∧ x = bs.length ∧ er = 2) ∨ (0 ≤ bad ∧ x = bad ∧ er = 11)) ∧ Scn w' g bs a bad ∧ Tch w w' fun k => k = g := by
  rcases hl.last with ⟨rfl, hx⟩ | ⟨b, rfl, hx⟩
  · have h1 : Scn w g bs a (-1) := h.elim id id
    refine (word_any h1 hl.1 hn).mono ?_
    rintro e w' (⟨i, k1, _⟩ | ⟨k1, rfl, h2, ht⟩ | ⟨i, j, k1, _⟩)
    · cases k1.uniq hx
    · exact ⟨_, _, rfl, .inl ⟨rfl, rfl, rfl⟩, h2, ht⟩
    · cases k1.uniq hx
  · rcases h with h1 | h1
    · refine (word_any h1 hl.1 hn).mono ?_
      rintro e w' (⟨i, k1, rfl, h2, ht⟩ | ⟨k1, _⟩ | ⟨i, j, k1, _⟩)
      · cases k1.uniq hx
        exact ⟨_, _, rfl, .inr ⟨Int.natCast_nonneg _, rfl, rfl⟩, h2, ht⟩
      · cases k1.uniq hx
      · cases k1.uniq hx
    · refine (word_bad h1 (Int.natCast_nonneg _)).mono ?_
      rintro e w' ⟨rfl, hb⟩
      exact ⟨_, _, rfl, .inr ⟨Int.natCast_nonneg _, rfl, rfl⟩, h1.below hb, Tch.of_below hb _⟩
end Go.Proofs.YtafdijfbgkcnnaaDoor.scn
