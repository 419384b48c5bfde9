/- A trail is the document's, asked in all ways. -/
import Derived.Test.YtgojncgdmcpkiaaTrDo
import Derived.Test.YtgojncgdmcpkiaaIntEq64
namespace Go.Proofs.Ytgojncgdmcpkiaa.trl
open Go Go.RowKit Go.ChangeShapes Go.WideShapes Go.ChangeAt Go.Proofs.Ytgojncgdmcpkiaa.words
set_option linter.unusedVariables false
variable {X : Nat → Prop} {w0 w : World} {g gx : Nat} {C : List Int} {ev : Nat} {R : List RR} {lo : Nat}
set_option maxHeartbeats 4000000 in
theorem like_any (h : Mid X w0 g gx C (sn R) ev C R w) (hf : Fit lo C R) :
    Calls Try.prog 24 #[.pointer (some ⟨g, 0, none⟩), .pointer (some ⟨gx, 0, none⟩)] w fun e w' => e = .returned (.bool true) ∧ Below w.heap.size w w' := by
  have hC := hf.high
  obtain ⟨AC, cC, A, c, hh, h1, _⟩ := h.snd fun H hx => hx.heads
  obtain ⟨n, hn⟩ : ∃ n, C.length = n := ⟨_, rfl⟩
  obtain ⟨r, hr⟩ : ∃ r, R.length = r := ⟨_, rfl⟩
  have hl := h.fst fun F t => tf_len (t.below (Below.refl _ _).drew)
  have hd := h.fst fun F t => tf_depth (t.below (Below.refl _ _).drew)
  have hce := h.fst fun F t => tf_cells (t.below (Below.refl _ _).drew) (by omega)
  rw [sn_len, hr] at hd
  rw [hn] at hl hce h1
  have HX : Hid (∀ w', Below w.heap.size w w' → w'.cell? ⟨gx, 0, none⟩ = some (.slice AC n cC) ∧ w'.cell? ⟨gx, 1, none⟩ = some (.slice A r c)) := fun w' hw => by rw [← hn, ← hr]; exact hh w' hw
  have HEQ : Hid (∀ w6 A6 c6, Below w.heap.size w w6 → Reads w6 w6.heap.size 1 A6 n (nums C) → Calls Try.prog 15 #[.slice A6 n c6, .slice AC n cC] w6 fun e w' => e = .returned (.bool true) ∧ Below w6.heap.size w6 w') := fun w6 A6 c6 hb hr6 => by
    have := equal64_any A6 AC n n c6 cC C C w6 (by omega) (by omega) hr6 (Reads.of_own (own_under h1 hb))
    rwa [show eqB C C = true by simp [eqB]] at this
  have HR : Hid (∀ w', Below w.heap.size w w' → Reads w' w'.heap.size 1 AC n (nums C)) := fun w' hb => Reads.of_own (own_under h1 hb)
  have HG : Hid (∀ w' (k : Nat) v, Below w.heap.size w w' → C[k]? = some v → Calls Try.prog 22 #[.pointer (some ⟨g, 0, none⟩), .int .i64 k] w' fun e w'' => e = .returned (.int .i64 v) ∧ w' = w'') := fun w' k v hb hv => h.fst fun F t => tf_get (t.below hb) k v hv
  have HO : Hid (∀ w' (i : Int), Below w.heap.size w w' → ¬ (0 ≤ i ∧ i < n) → Calls Try.prog 22 #[.pointer (some ⟨g, 0, none⟩), .int .i64 i] w' fun e w'' => e = .returned (.int .i64 0) ∧ w' = w'') := fun w' i hb hi => h.fst fun F t => tf_get_out (t.below hb) i (by rw [hn]; exact hi)
  have HN := Lib.hid hn
  have hx0 := HX.out w.drew (Below.refl _ _).drew
  have hx1 := HX.out w (Below.refl _ _)
  have n64 : n ≤ 64 := by omega
  clear h hf hh h1 hn hr hC
  go_enter Try.func24, Try.ntmps24
  go_wp2_with fail
  go_region_held3 (fun w' => w'.cell? ⟨gx, 0, none⟩ = some (.slice AC n cC) ∧ w'.cell? ⟨gx, 1, none⟩ = some (.slice A r c)) (first | assumption | exact hx0)
    (first
    | (go_at_call 20; refine hl.mono ?_; rintro e w4 ⟨rfl, rfl⟩; clear hl)
    | (go_at_call 17; refine hd.mono ?_; rintro e w4 ⟨rfl, rfl⟩; clear hd)
    | (go_at_call 16; refine hce.mono ?_; rintro e w6 ⟨⟨A6, c6, rfl, hown6⟩, hb6⟩; clear hce; have hB6 : Below w.heap.size w w6 := bto (Below.refl _ _).drew hb6; have hx6 := HX.out _ hB6; have hq6 := HEQ.out _ A6 c6 hB6 (Reads.of_own hown6); clear hown6)
    | (go_at_call 15; refine hq6.mono ?_; rintro e w7 ⟨rfl, hb7⟩; clear hq6; have hB7 := bto hB6 hb7; have hx7 := HX.out _ hB7))
  go_wp2_with fail
  go_loopw [5] (fun iv wr => ∃ (i : Int), iv = .int .i64 i ∧ -1 ≤ i ∧ i ≤ (n : Int) + 1 ∧ Below w.heap.size w wr) (fun iv _ => (n + 1 - intOf iv).toNat)
  case atStart => exact ⟨-1, rfl, by omega, by omega, hB7⟩
  case round =>
    clear hB7 hx7 hb7 hb6 hB6 hx6 hx0 hx1
    obtain ⟨i, rfl, hi, hj, hb⟩ := hrel
    obtain ⟨x0, x1⟩ := HX.out wr hb
    have nI : (0 : Int) ≤ (n : Int) := Int.natCast_nonneg _
    by_cases hlast : i = (n : Int) + 1
    · subst hlast
      go_wp2_with fail
      go_ret
      exact ⟨rfl, hb⟩
    · by_cases hin : 0 ≤ i ∧ i < n
      · obtain ⟨k, rfl⟩ : ∃ k : Nat, i = k := ⟨i.toNat, by omega⟩
        obtain ⟨ad, v, rfl, _, hv, hc⟩ := (HR.out wr hb).num (k := k) (by omega)
        have hget := HG.out wr k v hb hv
        have kI : (0 : Int) ≤ (k : Int) := Int.natCast_nonneg _
        have kn : (k : Int) < (n : Int) := by omega
        have kl : (k : Int) ≤ (n : Int) := by omega
        clear hv hlast hin hi hj
        go_wp2_with fail
        refine hget.mono ?_
        rintro e w8 ⟨rfl, rfl⟩
        clear hget
        go_wp2_with fail
        go_roundw
        case rel => exact ⟨(k : Int) + 1, by go_num, by omega, by omega, hb⟩
        case measure => first | (simp [intOf]; done) | (simp [intOf]; omega)
      · have hget := HO.out wr i hb hin
        by_cases h0 : i < 0
        · obtain rfl : i = -1 := by omega
          clear hlast hin hi hj h0
          go_wp2_with fail
          refine hget.mono ?_
          rintro e w8 ⟨rfl, rfl⟩
          clear hget
          go_wp2_with fail
          go_roundw
          case rel => exact ⟨0, by go_num, by omega, by omega, hb⟩
          case measure => first | (simp [intOf]; done) | (simp [intOf]; omega)
        · obtain rfl : i = (n : Int) := by omega
          clear hlast hin hi hj h0
          go_wp2_with fail
          refine hget.mono ?_
          rintro e w8 ⟨rfl, rfl⟩
          clear hget
          go_wp2_with fail
          go_roundw
          case rel => exact ⟨(n : Int) + 1, by go_num, by omega, by omega, hb⟩
          case measure => first | (simp [intOf]; done) | (simp [intOf]; omega)
end Go.Proofs.Ytgojncgdmcpkiaa.trl
