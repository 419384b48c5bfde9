/- What a function's object has. -/
import Derived.Test.YtafdijfbgkcnnaaDoorTpCon
namespace Go.Proofs.YtafdijfbgkcnnaaDoor.wcp
open Go Go.RowKit Go.ChangeShapes Go.WideShapes Go.ChangeAt Go.Maps Go.Proofs.YtafdijfbgkcnnaaDoor.words Go.Proofs.YtafdijfbgkcnnaaDoor.scn
set_option linter.unusedVariables false
variable {w : World} {g n : Nat} {F : Nat → Prop} {T : TpH}
theorem tk_any (hT : TpV w g F n T) : Calls Tryd.prog 63 #[.pointer (some ⟨g, 0, none⟩)] w fun e w' => e = .returned (.int .i64 T.k) ∧ w = w' := by
  obtain ⟨hFg, SA, sc, mb, D, hb, hown, hf, hm, hmb, hd⟩ := hT
  obtain ⟨q0, q1, q2, q3, -⟩ := Blk.four (t := 114) hb
  clear hFg hb hown hf hm hmb hd
  go_enter Tryd.func63, Tryd.ntmps63
  go_wp2
  go_ret
  exact ⟨rfl, rfl⟩
theorem tother_any (hT : TpV w g F n T) : Calls Tryd.prog 64 #[.pointer (some ⟨g, 0, none⟩)] w fun e w' => e = .returned (.int .i64 T.other) ∧ w = w' := by
  obtain ⟨hFg, SA, sc, mb, D, hb, hown, hf, hm, hmb, hd⟩ := hT
  obtain ⟨q0, q1, q2, q3, -⟩ := Blk.four (t := 114) hb
  clear hFg hb hown hf hm hmb hd
  go_enter Tryd.func64, Tryd.ntmps64
  go_wp2
  go_ret
  exact ⟨rfl, rfl⟩
theorem tsizes_any (hT : TpV w g F n T) (h6 : T.sizes.length ≤ 6) : Calls Tryd.prog 61 #[.pointer (some ⟨g, 0, none⟩)] w fun e w' => Copied w T.sizes e w' := by
  obtain ⟨hFg, SA, sc, mb, D, hb, hown, hf, hm, hmb, hd⟩ := hT
  obtain ⟨q0, q1, q2, q3, -⟩ := Blk.four (t := 114) hb
  have hc := clone_any SA T.sizes.length sc T.sizes w (by omega) (Reads.of_own hown)
  clear hFg hb hown hf hm hmb hd
  go_enter Tryd.func61, Tryd.ntmps61
  go_wp2_with fail
  refine hc.mono ?_
  rintro e w1 ⟨A, c, rfl, ho, hb⟩
  clear hc
  go_wp2_with fail
  go_ret
  exact ⟨A, c, rfl, ho, hb⟩
theorem tarity_any (hT : TpV w g F n T) (h6 : T.sizes.length ≤ 6) : Calls Tryd.prog 88 #[.pointer (some ⟨g, 0, none⟩)] w fun e w' => e = .returned (.int .i64 T.sizes.length) ∧ Below w.heap.size w w' := by
  have hc := tsizes_any hT h6
  clear hT
  go_enter Tryd.func88, Tryd.ntmps88
  go_wp2_with fail
  refine hc.mono ?_
  rintro e w1 ⟨A, c, rfl, ho, hb⟩
  clear hc
  go_wp2_with fail
  go_ret
  exact ⟨rfl, hb⟩
theorem tlen_any (hT : TpV w g F n T) : Calls Tryd.prog 28 #[.pointer (some ⟨g, 0, none⟩)] w fun e w' => (∃ m : Nat, e = .returned (.int .i64 m) ∧ m ≤ n) ∧ w = w' := by
  obtain ⟨hFg, SA, sc, mb, D, hb, hown, hf, hm, hmb, hd⟩ := hT
  obtain ⟨q0, q1, q2, q3, -⟩ := Blk.four (t := 114) hb
  have hlen := fun ty => hm.len Tryd.underlying112 ty
  have hle := hm.size_le
  obtain ⟨m, hmm⟩ : ∃ m, Maps.size D = m := ⟨_, rfl⟩
  rw [hmm] at hle hlen
  clear hFg hb hown hf hm hmb hd
  go_enter Tryd.func28, Tryd.ntmps28
  go_wp2
  go_ret
  exact ⟨⟨m, rfl, hle⟩, rfl⟩
end Go.Proofs.YtafdijfbgkcnnaaDoor.wcp
