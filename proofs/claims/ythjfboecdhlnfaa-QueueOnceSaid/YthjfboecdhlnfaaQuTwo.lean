/- Two queues side by side. -/
import Derived.Test.YthjfboecdhlnfaaQuLaw
namespace Go.Proofs.Ythjfboecdhlnfaa.que
open Go Go.RowKit Go.ChangeShapes Go.WideShapes Go.ChangeAt Go.Proofs.Ythjfboecdhlnfaa.words
set_option linter.unusedVariables false
theorem QL.bound {w : World} {g : Nat} {F : Nat → Prop} {N : Nat} {L : List It} (h : QL w g F N L) : QL w g (fun k => F k ∧ k < w.heap.size) N L := by
  obtain ⟨H, ⟨hg, A1, c1, A2, c2, hb, h1, f1, h2, f2⟩, b, c, d⟩ := h
  exact ⟨H, ⟨⟨hg, hb.lt⟩, A1, c1, A2, c2, hb, h1, fun k hk => ⟨f1 k hk, (own_in h1 hk).2⟩, h2, fun k hk => ⟨f2 k hk, (own_in h2 hk).2⟩⟩, b, c, d⟩
/-- two queues, all from block B on, apart -/
def Two (w : World) (B ga gb N : Nat) (La Lb : List It) : Prop :=
  ∃ Fa Fb : Nat → Prop, QL w ga Fa N La ∧ QL w gb Fb N Lb ∧ (∀ k, Fa k → ¬ Fb k) ∧ (∀ k, Fa k ∨ Fb k → B ≤ k ∧ k < w.heap.size)
theorem Two.swap {w : World} {B ga gb N : Nat} {La Lb : List It} (h : Two w B ga gb N La Lb) : Two w B gb ga N Lb La := by
  obtain ⟨Fa, Fb, qa, qb, hd, hk⟩ := h
  exact ⟨Fb, Fa, qb, qa, fun k h1 h2 => hd k h2 h1, fun k h => hk k h.symm⟩
theorem Two.below {w w' : World} {B ga gb N : Nat} {La Lb : List It} (h : Two w B ga gb N La Lb) (hb : Below w.heap.size w w') : Two w' B ga gb N La Lb := by
  obtain ⟨Fa, Fb, qa, qb, hd, hk⟩ := h
  exact ⟨Fa, Fb, qa.below hb, qb.below hb, hd, fun k h => ⟨(hk k h).1, Nat.lt_of_lt_of_le (hk k h).2 hb.size⟩⟩
theorem two_step {w w' : World} {B ga gb N : Nat} {Fa Fb : Nat → Prop} {Lb La' : List It} (qb : QL w gb Fb N Lb) (hd : ∀ k, Fa k → ¬ Fb k) (hk : ∀ k, Fa k ∨ Fb k → B ≤ k ∧ k < w.heap.size) (hB : B ≤ w.heap.size)
    (qa : QL w' ga (fun k => Fa k ∨ w.heap.size ≤ k) N La') (ht : Tch w w' Fa) : Two w' B ga gb N La' Lb ∧ Below B w w' := by
  refine ⟨⟨_, Fb, qa.bound, qb.keep ht (fun k h1 h2 => hd k h2 h1), ?_, ?_⟩, ht.below hB fun i hi h => by have := (hk i (.inl h)).1; omega⟩
  · rintro k ⟨h1 | h1, _⟩ h2
    · exact hd k h1 h2
    · have := (hk k (.inr h2)).2; omega
  · rintro k (⟨h1 | h1, h2⟩ | h1)
    · exact ⟨(hk k (.inl h1)).1, h2⟩
    · exact ⟨by omega, h2⟩
    · exact ⟨(hk k (.inr h1)).1, Nat.lt_of_lt_of_le (hk k (.inr h1)).2 ht.size⟩
theorem two_push {w : World} {B ga gb N : Nat} {La Lb : List It} (h : Two w B ga gb N La Lb) (x : Nat) (p : Int) (hx : x < N) (hlen : La.length < 999999) (hB : B ≤ w.heap.size) :
    Calls Try.prog 10 #[.pointer (some ⟨ga, 0, none⟩), .int .i64 x, .int .i64 p] w fun e w' => e = .returned (.int .i64 0) ∧ Two w' B ga gb N ((p, (x : Int)) :: La.filter fun a => decide (a.2 ≠ (x : Int))) Lb ∧ Below B w w' := by
  obtain ⟨Fa, Fb, qa, qb, hd, hk⟩ := h
  exact (ql_push qa x p hx hlen).mono fun e w' ⟨h1, h2, h3⟩ => ⟨h1, two_step qb hd hk hB h2 h3⟩
theorem two_pop {w : World} {B ga gb N : Nat} {La Lb : List It} {m : It} (h : Two w B ga gb N La Lb) (hm : Most La m) (hlen : La.length < 1000000) (hB : B ≤ w.heap.size) :
    Calls Try.prog 13 #[.pointer (some ⟨ga, 0, none⟩)] w fun e w' => e = .returned (.tuple #[.int .i64 m.2, .int .i64 m.1, .bool true]) ∧ Two w' B ga gb N (La.filter fun a => decide (a.2 ≠ m.2)) Lb ∧ Below B w w' := by
  obtain ⟨Fa, Fb, qa, qb, hd, hk⟩ := h
  exact (ql_pop qa hm hlen).mono fun e w' ⟨h1, h2, h3⟩ => ⟨h1, two_step qb hd hk hB (h2.mono fun k hk => .inl hk) h3⟩
theorem two_top {w : World} {B ga gb N : Nat} {La Lb : List It} {m : It} (h : Two w B ga gb N La Lb) (hm : Most La m) (hlen : La.length ≤ 1000000) :
    Calls Try.prog 15 #[.pointer (some ⟨ga, 0, none⟩)] w fun e w' => e = .returned (.tuple #[.int .i64 m.2, .int .i64 m.1, .bool true]) ∧ Below w.heap.size w w' := by
  obtain ⟨Fa, Fb, qa, qb, hd, hk⟩ := h
  exact ql_top qa hm hlen
theorem two_top_none {w : World} {B ga gb N : Nat} {Lb : List It} (h : Two w B ga gb N [] Lb) :
    Calls Try.prog 15 #[.pointer (some ⟨ga, 0, none⟩)] w fun e w' => e = .returned (.tuple #[.int .i64 0, .int .i64 0, .bool false]) ∧ Below w.heap.size w w' := by
  obtain ⟨Fa, Fb, qa, qb, hd, hk⟩ := h
  exact ql_top_none qa
theorem two_len {w : World} {B ga gb N : Nat} {La Lb : List It} (h : Two w B ga gb N La Lb) : Calls Try.prog 12 #[.pointer (some ⟨ga, 0, none⟩)] w fun e w' => e = .returned (.int .i64 La.length) ∧ w = w' := by
  obtain ⟨Fa, Fb, qa, qb, hd, hk⟩ := h
  exact ql_len qa
theorem two_new {w1 w2 w3 : World} {B ga gb N : Nat} (hB : B ≤ w1.heap.size) (qa : QL w2 ga (fun k => w1.heap.size ≤ k) N []) (qb : QL w3 gb (fun k => w2.heap.size ≤ k) N []) (hb : Below w2.heap.size w2 w3) (hs : w1.heap.size ≤ w2.heap.size) : Two w3 B ga gb N [] [] := by
  refine ⟨_, _, qa.bound.below hb, qb.bound, ?_, ?_⟩
  · rintro k ⟨_, h1⟩ ⟨h2, _⟩; omega
  · rintro k (⟨h1, h2⟩ | ⟨h1, h2⟩)
    · exact ⟨by omega, Nat.lt_of_lt_of_le h2 hb.size⟩
    · exact ⟨by omega, h2⟩
end Go.Proofs.Ythjfboecdhlnfaa.que
