/- The reader: its block; ok, wrong, large. -/
import Derived.Test.YtafdijfbgkcnnaaDoorWPlain
import Derived.Test.YtafdijfbgkcnnaaDoorScInt
namespace Go.Proofs.YtafdijfbgkcnnaaDoor.wcp
open Go Go.RowKit Go.ChangeShapes Go.WideShapes Go.ChangeAt Go.Proofs.YtafdijfbgkcnnaaDoor.words Go.Proofs.YtafdijfbgkcnnaaDoor.scn
set_option linter.unusedVariables false
/-- the reader's block -/
def RdB (w : World) (gr gs : Nat) (bad big badAt bigAt told : Int) (sv : Value) : Prop :=
  Blk w gr 77 #[.pointer (some ⟨gs, 0, none⟩), .int .i64 bad, .int .i64 big, .int .i64 badAt, .int .i64 bigAt, .int .i64 told, sv]
variable {w : World} {gr gs : Nat} {bad big badAt bigAt told : Int} {sv : Value}
theorem RdB.cells (h : RdB w gr gs bad big badAt bigAt told sv) : w.cell? ⟨gr, 0, none⟩ = some (.pointer (some ⟨gs, 0, none⟩)) ∧ w.cell? ⟨gr, 1, none⟩ = some (.int .i64 bad) ∧ w.cell? ⟨gr, 2, none⟩ = some (.int .i64 big) ∧ w.cell? ⟨gr, 3, none⟩ = some (.int .i64 badAt) ∧
    w.cell? ⟨gr, 4, none⟩ = some (.int .i64 bigAt) ∧ w.cell? ⟨gr, 5, none⟩ = some (.int .i64 told) ∧ w.cell? ⟨gr, 6, none⟩ = some sv ∧ ∀ i, w.frozen? ⟨gr, i, none⟩ = false :=
  ⟨(Blk.cell h 0).trans rfl, (Blk.cell h 1).trans rfl, (Blk.cell h 2).trans rfl, (Blk.cell h 3).trans rfl, (Blk.cell h 4).trans rfl, (Blk.cell h 5).trans rfl, (Blk.cell h 6).trans rfl, fun i => Blk.frozen h i⟩
theorem tch2 (w : World) (g i j : Nat) (u v : Value) : Tch w ((w.setCell ⟨g, i, none⟩ u).setCell ⟨g, j, none⟩ v) (fun k => k = g) :=
  Tch.put (S := fun k => k = g) (Tch.put (S := fun k => k = g) (Tch.refl w _) (p := ⟨g, i, none⟩) u rfl) (p := ⟨g, j, none⟩) v rfl
theorem ok_any (h : RdB w gr gs bad big badAt bigAt told sv) : Calls Tryd.prog 33 #[.pointer (some ⟨gr, 0, none⟩)] w fun e w' => e = .returned (.bool (decide (bad = 0))) ∧ w = w' := by
  obtain ⟨c0, c1, c2, c3, c4, c5, c6, cf⟩ := h.cells
  have hb : (bad == 0) = decide (bad = 0) := by by_cases h : bad = 0 <;> simp [h]
  go_enter Tryd.func33, Tryd.ntmps33
  go_wp2
  go_ret
  exact ⟨ret_bool hb, rfl⟩
theorem wrong_any (h : RdB w gr gs bad big badAt bigAt told sv) (er x : Int) : Calls Tryd.prog 36 #[.pointer (some ⟨gr, 0, none⟩), .int .i64 er, .int .i64 x] w fun e w' =>
    (∃ v, e = .returned v) ∧ ((bad = 0 ∧ RdB w' gr gs er big x bigAt told sv) ∨ (bad ≠ 0 ∧ RdB w' gr gs bad big badAt bigAt told sv)) ∧ Tch w w' fun k => k = gr := by
  obtain ⟨c0, c1, c2, c3, c4, c5, c6, cf⟩ := h.cells
  have f1 := cf 1
  have f3 := cf 3
  by_cases hb : bad = 0
  · subst hb
    have h2 := (h.set_ 1 (.int .i64 er)).set_ 3 (.int .i64 x)
    have H2 : Hid (RdB _ gr gs er big x bigAt told sv) := h2
    clear h2
    go_enter Tryd.func36, Tryd.ntmps36
    go_wp2
    go_end0
    exact ⟨⟨_, rfl⟩, .inl ⟨by simp, H2.out⟩, tch2 _ _ _ _ _ _⟩
  · have hbf : (bad == 0) = false := by simp [hb]
    have HB := Lib.hid hb
    clear hb
    go_enter Tryd.func36, Tryd.ntmps36
    go_wp2
    go_end0
    exact ⟨⟨_, rfl⟩, .inr ⟨HB.out, h⟩, Tch.refl _ _⟩
theorem large_any (h : RdB w gr gs bad big badAt bigAt told sv) (is : Bool) (x : Int) : Calls Tryd.prog 31 #[.pointer (some ⟨gr, 0, none⟩), .bool is, .int .i64 x] w fun e w' =>
    (∃ v, e = .returned v) ∧ ((is = true ∧ big = 0 ∧ bad = 0 ∧ RdB w' gr gs bad 5 badAt x told sv) ∨ (¬ (is = true ∧ big = 0 ∧ bad = 0) ∧ RdB w' gr gs bad big badAt bigAt told sv)) ∧ Tch w w' fun k => k = gr := by
  obtain ⟨c0, c1, c2, c3, c4, c5, c6, cf⟩ := h.cells
  have f2 := cf 2
  have f4 := cf 4
  cases is with
  | false =>
    go_enter Tryd.func31, Tryd.ntmps31
    go_wp2
    go_end0
    exact ⟨⟨_, rfl⟩, .inr ⟨by simp, h⟩, Tch.refl _ _⟩
  | true =>
    by_cases hg : big = 0
    · subst hg
      by_cases hb : bad = 0
      · subst hb
        have H2 : Hid (RdB _ gr gs 0 5 badAt x told sv) := (h.set_ 2 (.int .i64 5)).set_ 4 (.int .i64 x)
        go_enter Tryd.func31, Tryd.ntmps31
        go_wp2
        go_end0
        exact ⟨⟨_, rfl⟩, .inl ⟨by simp, by simp, by simp, H2.out⟩, tch2 _ _ _ _ _ _⟩
      · have hbf : (bad == 0) = false := by simp [hb]
        have HB := Lib.hid hb
        clear hb
        go_enter Tryd.func31, Tryd.ntmps31
        go_wp2
        go_end0
        exact ⟨⟨_, rfl⟩, .inr ⟨fun h => HB.out h.2.2, h⟩, Tch.refl _ _⟩
    · have hgf : (big == 0) = false := by simp [hg]
      have HG := Lib.hid hg
      clear hg
      go_enter Tryd.func31, Tryd.ntmps31
      go_wp2
      go_end0
      exact ⟨⟨_, rfl⟩, .inr ⟨fun h => HG.out h.2.1, h⟩, Tch.refl _ _⟩
end Go.Proofs.YtafdijfbgkcnnaaDoor.wcp
