/- The script's acts, opened; how both trails begin. -/
import Derived.Test.YtgojncgdmcpkiaaTrLike
import Derived.Test.YtgojncgdmcpkiaaOpen
import Derived.Deep.Strs
import Derived.Laws.MakeOwn
namespace Go.Proofs.Ytgojncgdmcpkiaa.trl
open Go Go.RowKit Go.ChangeShapes Go.WideShapes Go.ChangeAt Go.Proofs.Ytgojncgdmcpkiaa.words Go.Deep
set_option linter.unusedVariables false
abbrev AT := Int × Int × Int
def aV (a : AT) : List Value := [.int .u8 a.1, .int .i64 a.2.1, .int .i64 a.2.2]
def aQ (a : AT) : Prop := (Lit.int .u8 a.1).wf = true ∧ (Lit.int .i64 a.2.1).wf = true ∧ (Lit.int .i64 a.2.2).wf = true
theorem dec_a {H : Type} {enc : TypeId × Value → H} {W : World} {spare : Nat → Bool} {held : Bool} (n : Nat) (cs : List Value) (y : DataW H × List MemPlace) (h : DataW.trod enc Try.prog W 0 spare held n 42 cs = some y) : ∃ x : AT, cs = aV x ∧ aQ x := by
  obtain ⟨y0, y1, y2, m, _, hl, h0, h1, h2⟩ := trod_struct3 Try.underlying42 h
  have hc : Try.prog.cellsOf 42 = 3 := by kernel_rfl
  have c5 : Try.prog.cellsOf 5 = 1 := by kernel_rfl
  have c3 : Try.prog.cellsOf 3 = 1 := by kernel_rfl
  have c2 : Try.prog.cellsOf 2 = 1 := by kernel_rfl
  rw [hc] at hl
  obtain ⟨x0, e0, q0⟩ := dec_int Try.underlying5 _ _ _ h0
  obtain ⟨x1, e1, q1⟩ := dec_int Try.underlying3 _ _ _ h1
  obtain ⟨x2, e2, q2⟩ := dec_int Try.underlying2 _ _ _ h2
  match cs, hl with
  | [a, b, c], _ =>
    dsimp only at e0 e1 e2
    rw [c5] at e0
    rw [c3] at e1
    rw [c2] at e2
    simp at e0 e1 e2
    subst e0; subst e1; subst e2
    exact ⟨(x0, x1, x2), rfl, q0, q1, q2⟩
theorem act_at {w : World} {n : Nat} {A : Option Addr} {zs : List AT} (h : Reads w w.heap.size 3 A n (zs.flatMap aV)) {w' : World} (hb : Below w.heap.size w w') {i : Nat} (hl : zs.length = n) (hi : i < n) :
    ∃ ad d x p, A = some ad ∧ zs[i]? = some (d, x, p) ∧ w'.cell? (ad.add (i * 3)) = some (.int .u8 d) ∧ w'.cell? (ad.add (i * 3 + 1)) = some (.int .i64 x) ∧ w'.cell? (ad.add (i * 3 + 2)) = some (.int .i64 p) := by
  obtain ⟨ad, rfl, hlt, hat⟩ := h.2 (by omega)
  have hz : zs[i]? = some (zs[i]'(by omega)) := List.getElem?_eq_getElem _
  obtain ⟨⟨d, x, p⟩, hd⟩ : ∃ a, zs[i]'(by omega) = a := ⟨_, rfl⟩
  rw [hd] at hz
  have get := fun j (hj : j < 3) => flat_get aV 3 (fun _ => rfl) zs i j _ hz hj
  have up : ∀ q, w'.cell? (ad.add q) = w.cell? (ad.add q) := fun q => hb.cell (by rw [block_of_add]; exact hlt)
  refine ⟨ad, d, x, p, rfl, hz, ?_, ?_, ?_⟩
  · rw [up]; exact hat (i * 3) _ (get 0 (by omega))
  · rw [up]; exact hat (i * 3 + 1) _ (get 1 (by omega))
  · rw [up]; exact hat (i * 3 + 2) _ (get 2 (by omega))
/-- both, new, put together -/
theorem mid_new {w w' : World} {g gx : Nat} {F : Nat → Prop} {C : List Int} {ev n bs : Nat} (ht : TF g F C [] ev w') (hF : ∀ k, F k → w.heap.size ≤ k ∧ k < w'.heap.size ∧ k ≠ gx ∧ k ≠ bs) (hB : Below w.heap.size w w') (hgx : w.heap.size ≤ gx)
    (hb : Blk w' gx 40 #[.slice (some ⟨bs, 0, none⟩) n n, .slice none 0 0]) (hs : w'.ownsRow w.heap.size 2 1 (.slice (some ⟨bs, 0, none⟩) n n) n (nums (List.replicate n 0))) : Mid (fun k => k < w.heap.size) w g gx C (sn []) ev (List.replicate n 0) [] w' := by
  have hbs := own_in hs (q := bs) rfl
  refine ⟨F, fun k => (k = gx ∨ k = bs) ∧ k < w'.heap.size, ht, ?_, fun k hk => ⟨fun h => by have := (hF k hk).1; omega, (hF k hk).2.1, fun h => h.1.elim (hF k hk).2.2.1 (hF k hk).2.2.2⟩, fun k hk => ⟨fun h => by rcases hk.1 with rfl | rfl <;> omega, hk.2⟩, ⟨hB.os, hB.tape, hB.output, hB.size, fun k hk hx => hB.block k (by omega)⟩, fun k hk => hk⟩
  exact rx_of (R' := []) (C' := List.replicate n 0) (G := fun k => k = gx ∨ k = bs) (AC := some ⟨bs, 0, none⟩) (cC := n) (A := none) (c := 0) (.inl rfl) (by rw [List.length_replicate]; exact hb) (by rw [List.length_replicate]; exact own_base hs (Nat.zero_le _)) (fun k hk => .inr (by simpa [Value.ownBlock] using hk.symm)) (World.ownsRow_nil _ _ _ _) (fun k hk => by cases hk) (fun x hx => by cases hx)
theorem made_own (w : World) (n : Nat) (hn : n ≤ maxLen) : (w.alloc (.cells (madeCells #[.int .i64 0] n) 2)).ownsRow w.heap.size 2 1 (.slice (some ⟨w.heap.size, 0, none⟩) n n) n (nums (List.replicate n 0)) := by
  have h := World.ownsRow_lit (base := w.heap.size) (e := 2) (size := 1) w (madeCells #[.int .i64 0] n) n (Nat.le_refl _) hn (by simp [madeCells])
  rw [nums_rep] at h
  exact h
abbrev madeO (n : Nat) : Obj := .cells (madeCells #[.int .i64 0] n) 2
abbrev boxO (b n : Nat) : Obj := .cells #[.slice (some ⟨b, 0, none⟩) n n, .slice none 0 0] 40
theorem start_a {w w5 : World} {g : Nat} {F : Nat → Prop} {C : List Int} {n : Nat} (hn : n ≤ 1000) (ht : TF g F C [] 0 w5) (hF : ∀ k, F k → w.drew.heap.size ≤ k ∧ k < w5.heap.size) (hb : Below w.drew.heap.size w.drew w5) :
    Mid (fun k => k < w.heap.size) w g (w5.heap.size + 1) C (sn []) 0 (List.replicate n 0) [] ((w5.alloc (madeO n)).alloc (boxO w5.heap.size n)) := by
  have hb0 : Below w.heap.size w w5 := bto (Below.refl _ _).drew hb
  have h1 := bone w5 (madeO n)
  have h2 := bone (w5.alloc (madeO n)) (boxO w5.heap.size n)
  have e1 : (w5.alloc (madeO n)).heap.size = w5.heap.size + 1 := by simp
  refine mid_new (bs := w5.heap.size) (ht.below (bto h1 h2)) (fun k hk => ⟨(hF k hk).1, Nat.lt_of_lt_of_le (hF k hk).2 (bto h1 h2).size, ?_, ?_⟩) (bto hb0 (bto h1 h2)) ?_ ?_ (own_base (own_under (made_own w5 n (by unfold maxLen; omega)) h2) hb0.size)
  · have := (hF k hk).2; omega
  · have := (hF k hk).2; omega
  · have := hb0.size; omega
  · have := Blk.new (w5.alloc (madeO n)) 40 #[.slice (some ⟨w5.heap.size, 0, none⟩) n n, .slice none 0 0]
    rwa [e1] at this
theorem start_b {w w5 : World} {g : Nat} {F : Nat → Prop} {C : List Int} {n : Nat} (hn : n ≤ 1000) (ht : TF g F C [] 0 w5) (hF : ∀ k, F k → (w.alloc (madeO n)).drew.heap.size ≤ k ∧ k < w5.heap.size) (hb : Below (w.alloc (madeO n)).drew.heap.size (w.alloc (madeO n)).drew w5) :
    Mid (fun k => k < w.heap.size) w g w5.heap.size C (sn []) 0 (List.replicate n 0) [] (w5.alloc (boxO w.heap.size n)) := by
  have h1 := bone w (madeO n)
  have hb0 : Below (w.alloc (madeO n)).heap.size (w.alloc (madeO n)) w5 := bto (Below.refl _ _).drew hb
  have h2 := bone w5 (boxO w.heap.size n)
  have e1 : (w.alloc (madeO n)).heap.size = w.heap.size + 1 := by simp
  have e2 : (w.alloc (madeO n)).drew.heap.size = w.heap.size + 1 := e1
  have hsz := hb0.size
  refine mid_new (bs := w.heap.size) (ht.below h2) (fun k hk => ⟨?_, Nat.lt_of_lt_of_le (hF k hk).2 h2.size, ?_, ?_⟩) (bto h1 (bto hb0 h2)) ?_ (Blk.new _ _ _) (own_under (made_own w n (by unfold maxLen; omega)) (bto hb0 h2))
  · have := (hF k hk).1; omega
  · have := (hF k hk).2; omega
  · have := (hF k hk).1; omega
  · omega
theorem start_c {w w5 : World} {g : Nat} {F : Nat → Prop} {C : List Int} {n : Nat} (hn : n ≤ 1000) (ht : TF g F C [] 0 w5) (hF : ∀ k, F k → ((w.alloc (madeO n)).alloc (boxO w.heap.size n)).drew.heap.size ≤ k ∧ k < w5.heap.size) (hb : Below ((w.alloc (madeO n)).alloc (boxO w.heap.size n)).drew.heap.size ((w.alloc (madeO n)).alloc (boxO w.heap.size n)).drew w5) :
    Mid (fun k => k < w.heap.size) w g (w.heap.size + 1) C (sn []) 0 (List.replicate n 0) [] w5 := by
  have h1 := bone w (madeO n)
  have h2 := bone (w.alloc (madeO n)) (boxO w.heap.size n)
  have hb0 : Below ((w.alloc (madeO n)).alloc (boxO w.heap.size n)).heap.size ((w.alloc (madeO n)).alloc (boxO w.heap.size n)) w5 := bto (Below.refl _ _).drew hb
  have e1 : (w.alloc (madeO n)).heap.size = w.heap.size + 1 := by simp
  have e2 : ((w.alloc (madeO n)).alloc (boxO w.heap.size n)).heap.size = w.heap.size + 2 := by simp
  have e3 : ((w.alloc (madeO n)).alloc (boxO w.heap.size n)).drew.heap.size = w.heap.size + 2 := e2
  have hsz := hb0.size
  refine mid_new (bs := w.heap.size) ht (fun k hk => ⟨?_, (hF k hk).2, ?_, ?_⟩) (bto h1 (bto h2 hb0)) ?_ ?_ (own_under (made_own w n (by unfold maxLen; omega)) (bto h2 hb0))
  · have := (hF k hk).1; omega
  · have := (hF k hk).1; omega
  · have := (hF k hk).1; omega
  · omega
  · have := (Blk.new (w.alloc (madeO n)) 40 #[.slice (some ⟨w.heap.size, 0, none⟩) n n, .slice none 0 0]).under hb0
    rwa [e1] at this
end Go.Proofs.Ytgojncgdmcpkiaa.trl
