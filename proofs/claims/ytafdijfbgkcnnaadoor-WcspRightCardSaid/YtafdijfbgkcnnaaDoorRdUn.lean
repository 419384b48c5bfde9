/- The reader, going on or stopped: one contract for both. -/
import Derived.Test.YtafdijfbgkcnnaaDoorRdScope
import Derived.Test.YtafdijfbgkcnnaaDoorWKeys
import Derived.Test.YtafdijfbgkcnnaaDoorScDec
namespace Go.Proofs.YtafdijfbgkcnnaaDoor.wcp
open Go Go.RowKit Go.ChangeShapes Go.WideShapes Go.ChangeAt Go.Proofs.YtafdijfbgkcnnaaDoor.words Go.Proofs.YtafdijfbgkcnnaaDoor.scn
set_option linter.unusedVariables false
def RS {α : Type} (w : World) (gr gs : Nat) (bs : List UInt8) (wb : Int) (sv : Value) (r : Res α) : Prop :=
  match r with
  | .ok _ s => Rok w gr gs bs wb s sv
  | .bad e x => Rbad w gr gs e x sv
variable {w : World} {gr gs : Nat} {bs : List UInt8} {wb : Int} {sv : Value} {α : Type} {r : Res α}
theorem RS.ok {a : α} {s : Ps} (h : Rok w gr gs bs wb s sv) : RS w gr gs bs wb sv (.ok a s) := h
theorem RS.bad {e x : Int} (h : Rbad w gr gs e x sv) : RS w gr gs bs wb sv (.bad e x : Res α) := h
theorem RS.blk (h : RS w gr gs bs wb sv r) : ∃ bad big badAt bigAt told, RdB w gr gs bad big badAt bigAt told sv ∧ decide (bad = 0) = r.good ∧ (∀ a s, r = .ok a s → s.told = told) := by
  cases r with
  | ok a s =>
    obtain ⟨p, big, badAt, bigAt, hr, _⟩ := h
    exact ⟨_, _, _, _, _, hr, decide_eq_true rfl, fun a' s' h => by injection h with _ h; rw [h]⟩
  | bad e x =>
    obtain ⟨big, bigAt, told, hr, he⟩ := h
    exact ⟨_, _, _, _, _, hr, decide_eq_false he, fun a' s' h => by cases h⟩
theorem RS.tch {w' : World} {S : Nat → Prop} (h : RS w gr gs bs wb sv r) (ht : Tch w w' S) (h1 : ¬ S gr) (h2 : ¬ S gs) (hs : ∀ k cs, S k → ¬ Blk w k 5 cs) : RS w' gr gs bs wb sv r := by
  cases r with
  | ok a s => exact Rok.tch h ht h1 h2 hs
  | bad e x => exact Rbad.tch h ht h1
theorem RS.below {w' : World} (h : RS w gr gs bs wb sv r) (hb : Below w.heap.size w w') : RS w' gr gs bs wb sv r := by
  cases r with
  | ok a s => exact Rok.below h hb
  | bad e x => exact Rbad.tch h (Tch.of_below hb (fun _ => False)) id
theorem RS.grown {w' : World} {base n : Nat} {e : TypeId} {sz : Nat} {v : Value} {xs : List Value} (h : RS w gr gs bs wb sv r) (ho : w.ownsRow base e sz v n xs) (hg : w.grownBy w' v.ownBlock) (he : e ≠ 5) (h1 : gr < base) (h2 : gs < base) : RS w' gr gs bs wb sv r := by
  cases r with
  | ok a s => exact Rok.grown h ho hg he h1 h2
  | bad e x => exact Rbad.grown h ho hg h1
theorem RS.same {β : Type} {r' : Res β} (h : RS w gr gs bs wb sv r) (h1 : ∀ a s, r = .ok a s → ∃ b, r' = .ok b s) (h2 : ∀ e x, r = .bad e x → r' = .bad e x) : RS w gr gs bs wb sv r' := by
  cases r with
  | ok a s => obtain ⟨b, hb⟩ := h1 a s rfl; rw [hb]; exact h
  | bad e x => rw [h2 e x rfl]; exact h
theorem ok_un (h : RS w gr gs bs wb sv r) : Calls Tryd.prog 33 #[.pointer (some ⟨gr, 0, none⟩)] w fun e w' => e = .returned (.bool r.good) ∧ w = w' := by
  obtain ⟨bad, big, badAt, bigAt, told, hr, hb, _⟩ := h.blk
  rw [← hb]
  exact ok_any hr
def NumU (w : World) (gr gs : Nat) (bs : List UInt8) (wb : Int) (lo hi : Int) (r : Res α) (sv : Value) (e : Ending) (w' : World) : Prop :=
  ∃ (n x : Int), e = .returned (.tuple #[.int .i64 n, .int .i64 x]) ∧ Tch w w' (fun k => k = gr ∨ k = gs) ∧
    RS w' gr gs bs wb sv (r.bind fun _ s => pnum (enOf bs wb) (eeOf wb) lo hi s) ∧
    (∀ v s', (r.bind fun _ s => pnum (enOf bs wb) (eeOf wb) lo hi s) = .ok v s' → n = v.1 ∧ x = v.2) ∧
    ((r.bind fun _ s => pnum (enOf bs wb) (eeOf wb) lo hi s).good = false → n = 0)
theorem rnum_un (h : RS w gr gs bs wb sv r) (hne : gr ≠ gs) (hn : bs.length ≤ 1000000) (lo hi : Int) :
    Calls Tryd.prog 32 #[.pointer (some ⟨gr, 0, none⟩), .int .i64 lo, .int .i64 hi] w fun e w' => NumU w gr gs bs wb lo hi r sv e w' := by
  cases r with
  | ok a s =>
    refine (rnum_any h hne hn lo hi).mono ?_
    rintro e w' ⟨n, x, rfl, ht, hm⟩
    refine ⟨n, x, rfl, ht, ?_⟩
    rw [Res.bind_ok]
    cases hp : pnum (enOf bs wb) (eeOf wb) lo hi s with
    | ok v s' =>
      rw [hp] at hm
      dsimp only at hm
      exact ⟨hm.2.2, ⟨fun v' s'' he => (by injection he with he _; rw [← he]; exact ⟨hm.1, hm.2.1⟩), fun hf => (by cases hf)⟩⟩
    | bad e x =>
      rw [hp] at hm
      dsimp only at hm
      exact ⟨hm.2, ⟨fun v' s'' he => (by cases he), fun _ => hm.1⟩⟩
  | bad er at_ =>
    refine (rnum_bad h lo hi).mono ?_
    rintro e w' ⟨rfl, rfl⟩
    exact ⟨0, 0, rfl, Tch.refl _ _, h, ⟨fun v' s'' he => (by cases he), fun _ => rfl⟩⟩
theorem NumU.range {lo hi : Int} {n x : Int} {β : Type} {r : Res β} {en ee : Int} (h1 : ∀ v s', (r.bind fun _ s => pnum en ee lo hi s) = .ok v s' → n = v.1 ∧ x = v.2) (h2 : (r.bind fun _ s => pnum en ee lo hi s).good = false → n = 0) (h0 : lo ≤ 0) (h0' : 0 ≤ hi) : lo ≤ n ∧ n ≤ hi := by
  cases hp : (r.bind fun _ s => pnum en ee lo hi s) with
  | bad e y => rw [hp] at h2; have := h2 rfl; omega
  | ok v s' =>
    obtain ⟨e1, _⟩ := h1 v s' hp
    cases r with
    | bad e y => cases hp
    | ok a s =>
      obtain ⟨p1, p2, _⟩ := pnum_ok (show pnum en ee lo hi s = .ok v s' from hp)
      omega
theorem wrong_un {a : α} {s : Ps} (h : Rok w gr gs bs wb s sv) (er x : Int) (he : er ≠ 0) : Calls Tryd.prog 36 #[.pointer (some ⟨gr, 0, none⟩), .int .i64 er, .int .i64 x] w fun e w' =>
    (∃ v, e = .returned v) ∧ Rbad w' gr gs er x sv ∧ Tch w w' fun k => k = gr := by
  obtain ⟨p, big, badAt, bigAt, hr, _⟩ := h
  refine (wrong_any hr er x).mono ?_
  rintro e w' ⟨hv, hc, ht⟩
  refine ⟨hv, ?_, ht⟩
  rcases hc with ⟨_, hc⟩ | ⟨h0, _⟩
  · exact ⟨_, _, _, hc, he⟩
  · exact absurd rfl h0
theorem large_un (h : RS w gr gs bs wb sv r) (hne : gr ≠ gs) (is : Bool) (x : Int) : Calls Tryd.prog 31 #[.pointer (some ⟨gr, 0, none⟩), .bool is, .int .i64 x] w fun e w' =>
    (∃ v, e = .returned v) ∧ RS w' gr gs bs wb sv (r.bind fun a s => .ok a (plarge is x s)) ∧ Tch w w' fun k => k = gr := by
  cases r with
  | ok a s =>
    obtain ⟨p, big, badAt, bigAt, hr, hs, hl, hg⟩ := h
    refine (large_any hr is x).mono ?_
    rintro e w' ⟨hv, hc, ht⟩
    refine ⟨hv, ?_, ht⟩
    have hgr : gr < w.heap.size := Blk.lt hr
    have hs' := hs.tch ht (fun e => hne e.symm) fun k cs hk hb => by
      subst hk
      exact Blk.ne_ hr hb (by decide) rfl
    rw [Res.bind_ok]
    show Rok w' gr gs bs wb (plarge is x s) sv
    obtain ⟨l1, l2, l3⟩ := plarge_l is x s
    rcases hc with ⟨h1, h2, h3, hc⟩ | ⟨h1, hc⟩
    · refine ⟨p, 5, badAt, x, by rw [l3]; exact hc, hs', by rw [l1]; exact hl, ?_⟩
      have hb : s.big = none := by
        rcases hg with ⟨hb, _⟩ | ⟨y, _, h5, _⟩
        · exact hb
        · omega
      unfold plarge
      rw [if_pos ⟨h1, hb⟩]
      exact .inr ⟨x, rfl, rfl, rfl⟩
    · refine ⟨p, big, badAt, bigAt, by rw [l3]; exact hc, hs', by rw [l1]; exact hl, ?_⟩
      have hb : ¬ (is = true ∧ s.big = none) := fun ⟨hi, hb⟩ => by
        rcases hg with ⟨_, h0⟩ | ⟨y, h5, _⟩
        · exact h1 ⟨hi, h0, rfl⟩
        · rw [hb] at h5; cases h5
      unfold plarge
      rw [if_neg hb]
      exact hg
  | bad er at_ =>
    obtain ⟨big, bigAt, told, hr, he⟩ := h
    refine (large_any hr is x).mono ?_
    rintro e w' ⟨hv, hc, ht⟩
    refine ⟨hv, ?_, ht⟩
    rcases hc with ⟨h1, h2, h3, hc⟩ | ⟨h1, hc⟩
    · exact absurd h3 he
    · exact ⟨_, _, _, hc, he⟩
/-- the library's table stands below the reader -/
theorem tab_tch {w' : World} {S : Nat → Prop} (h : Tab w) (ht : Tch w w' S) (hs : ¬ S 0) : Tab w' := by
  have hl := h.lt
  unfold Tab Lib.TabIs World.var? at h ⊢
  rw [gPow] at h ⊢
  simp only [Option.bind_some] at h ⊢
  rw [ht.block _ hl hs]
  exact h
end Go.Proofs.YtafdijfbgkcnnaaDoor.wcp
