/- The reader's scope and lines, going on or stopped. -/
import Derived.Test.YtafdijfbgkcnnaaDoorRdLines
namespace Go.Proofs.YtafdijfbgkcnnaaDoor.wcp
open Go Go.RowKit Go.ChangeShapes Go.WideShapes Go.ChangeAt Go.Maps Go.Proofs.YtafdijfbgkcnnaaDoor.words Go.Proofs.YtafdijfbgkcnnaaDoor.scn
set_option linter.unusedVariables false
variable {w : World} {gr gs : Nat} {bs : List UInt8} {wb : Int} {sv : Value} {α : Type} {r : Res α}
set_option maxRecDepth 100000 in
theorem rscope_bad {er x : Int} (h : Rbad w gr gs er x sv) (n : Int) : Calls Tryd.prog 68 #[.pointer (some ⟨gr, 0, none⟩), .int .i64 0, .int .i64 n] w fun e w' => e = .returned (.slice none 0 0) ∧ w = w' := by
  go_enter Tryd.func68, Tryd.ntmps68
  go_wp2_with fail
  go_loopw [7, 8, 9, 10] (fun ov iv _ _ wr => ov = .slice none 0 0 ∧ iv = .int .i64 0 ∧ w = wr) (fun _ _ _ _ _ => 0)
  case atStart => exact ⟨rfl, rfl, rfl⟩
  case round =>
    obtain ⟨rfl, rfl, rfl⟩ := hrel
    go_wp2_with fail
    go_ret
    exact ⟨rfl, rfl⟩
set_option maxRecDepth 100000 in
set_option maxHeartbeats 4000000 in
theorem lines_bad {er x : Int} (h : Rbad w gr gs er x sv) (hne : gr ≠ gs) (A : Option Addr) (n c : Nat) :
    Calls Tryd.prog 69 #[.pointer (some ⟨gr, 0, none⟩), .slice A n c] w fun e w' => e = .returned (.slice none 0 0) ∧ Rbad w' gr gs er x sv ∧ Tch w w' (fun k => k = gr ∨ k = gs) := by
  have hmm := @run_makeMap Tryd.prog
  have hnum := rnum_bad h (-4611686018427387904) 4611686018427387904
  obtain ⟨big, bigAt, told, hr1, he1⟩ := h
  have hok := ok_any hr1
  rw [decide_eq_false he1] at hok
  obtain ⟨q0, q1, q2, q3, q4, q5, q6, qf⟩ := hr1.cells
  have f5 := qf 5
  have HR1 := Lib.hid hr1
  have HE1 := Lib.hid he1
  clear hr1 he1 q0 q1 q2 q3 q4 q6 qf
  go_enter Tryd.func69, Tryd.ntmps69
  go_wp2_with fail
  refine hnum.mono ?_
  rintro e w1 ⟨rfl, rfl⟩
  clear hnum
  go_wp2_with fail
  refine hok.mono ?_
  rintro e w2 ⟨rfl, rfl⟩
  clear hok
  go_wp2_with fail
  have hR2 : Rbad (w.setCell ⟨gr, 5, none⟩ (.int .i64 (min (wrap64 told) 4611686018427387904))) gr gs er x sv := ⟨big, bigAt, _, HR1.out.set_ 5 _, HE1.out⟩
  have hlg := large_un (r := (.bad er x : Res Unit)) (gs := gs) (bs := []) (wb := 0) (RS.bad hR2) hne (decide (16384 < min (wrap64 told) 4611686018427387904)) 0
  refine hlg.mono ?_
  rintro e w3 ⟨⟨v3, rfl⟩, hrs3, ht3⟩
  have HRS3 : Hid (Rbad w3 gr gs er x sv) := hrs3
  have HT3 := Lib.hid ((Tch.put (S := fun k => k = gr ∨ k = gs) (Tch.refl w _) (p := ⟨gr, 5, none⟩) (.int .i64 (min (wrap64 told) 4611686018427387904)) (.inl rfl)).trans (ht3.mono (S' := fun k => k = gr ∨ k = gs) fun k _ h => Or.inl h) fun _ _ h => h)
  clear hlg hrs3 ht3 hR2 q5 f5
  go_wp2_with fail
  go_loopw [8, 9, 10, 11, 13, 14, 15, 16, 17, 95] (fun ov iv _ _ _ _ _ _ _ _ wr => ov = .slice none 0 0 ∧ iv = .int .i64 0 ∧ wr = w3.alloc (.map #[] 0)) (fun _ _ _ _ _ _ _ _ _ _ _ => 0)
  case atStart => exact ⟨rfl, rfl, rfl⟩
  case round =>
    obtain ⟨rfl, rfl, rfl⟩ := hrel
    go_wp2_with fail
    go_ret
    exact ⟨rfl, Rbad.tch HRS3.out (Tch.of_below (bone w3 _) (fun _ => False)) id, HT3.out.trans (Tch.of_below (bone w3 _) (fun _ => False)) fun _ _ h => h.elim⟩
theorem lines_un (h : RS w gr gs bs wb sv r) (hne : gr ≠ gs) (hgr : gr < w.heap.size) (hgs : gs < w.heap.size) (hn : bs.length ≤ 1000000) (ht : Tab w) (hG1 : 0 < gr) (hG2 : 0 < gs)
    (A : Option Addr) (c0 : Nat) (sizes : List Int) (hsr : w.ownsRow 0 2 1 (.slice A sizes.length c0) sizes.length (nums sizes)) (hs1 : ∀ y ∈ sizes, 1 ≤ y ∧ y ≤ 4611686018427387904) (hsl : sizes.length ≤ 1000000)
    (sh : List (List Int × List (List Int × Int))) (hsh : ShV w sv sh) (hshl : sh.length ≤ 1000000) (hp : ∀ a s, r = .ok a s → 0 ≤ s.told ∧ s.told ≤ 1000000 ∧ s.sh = sh) :
    Calls Tryd.prog 69 #[.pointer (some ⟨gr, 0, none⟩), .slice A sizes.length c0] w fun e w' => LinesR w gr gs bs wb sizes r sv e w' := by
  cases r with
  | ok a s =>
    obtain ⟨h1, h2, rfl⟩ := hp a s rfl
    exact lines_any (u0 := a) h hne hgr hgs hn ht hG1 hG2 A c0 sizes hsr hs1 hsl h1 h2 hsh hshl
  | bad er x =>
    refine (lines_bad h hne A sizes.length c0).mono ?_
    rintro e w' ⟨rfl, hb, ht'⟩
    exact ⟨_, [], rfl, ht', LinesOwn.nil _ _, hb, fun a s' he => by cases he⟩
end Go.Proofs.YtafdijfbgkcnnaaDoor.wcp
