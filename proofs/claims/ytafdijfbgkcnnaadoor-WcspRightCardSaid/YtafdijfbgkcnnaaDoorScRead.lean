/- Digits read: the program's, the document's. -/
import Derived.Test.YtafdijfbgkcnnaaDoorScWord
import Derived.ChangeMaps5
import Derived.Laws.Closers25b
namespace Go.Proofs.YtafdijfbgkcnnaaDoor.scn
open Go Go.RowKit Go.ChangeShapes Go.WideShapes Go.ChangeAt Go.Proofs.YtafdijfbgkcnnaaDoor.words
set_option linter.unusedVariables false
/-- a byte more: a digit, or none -/
theorem dig_step {l : List UInt8} {j : Nat} (hj : j < l.length) (h : ((l.take j).all isD) = true) :
    ((at_ l j < 48 ∨ 57 < at_ l j) → l.all isD = false) ∧ (48 ≤ at_ l j → at_ l j ≤ 57 → dec (l.take (j + 1)) = 10 * dec (l.take j) + (at_ l j - 48) ∧ ((l.take (j + 1)).all isD) = true) := by
  have hx : l[j]? = some (l.getD j 0) := by rw [List.getD_eq_getElem?_getD, List.getElem?_eq_getElem hj]; rfl
  have e : l.take (j + 1) = l.take j ++ [l.getD j 0] := by rw [List.take_add_one, hx]; rfl
  constructor
  · intro hb
    cases hc : l.all isD with
    | false => rfl
    | true =>
      have := List.all_eq_true.1 hc _ (List.mem_of_getElem? hx)
      simp only [isD, Bool.and_eq_true, decide_eq_true_eq] at this
      unfold at_ at hb
      omega
  · intro h1 h2
    rw [e, dec_snoc]
    refine ⟨rfl, ?_⟩
    rw [List.all_append, h]
    simp only [List.all_cons, List.all_nil, Bool.and_true, Bool.true_and, isD, Bool.and_eq_true, decide_eq_true_eq]
    exact ⟨h1, h2⟩
theorem readN_none {l : List UInt8} (h : l.all isD = false) : readN l = none := by unfold readN; rw [if_neg]; simp [h]
theorem readN_some {l : List UInt8} {m : Nat} (h0 : l ≠ []) (hm : m = min (dec l) farN) (h : l.all isD = true) : readN l = some m := by unfold readN; rw [if_pos ⟨h0, h⟩, hm]
theorem neg_none {b : UInt8} {r : List UInt8} (hb : b.toNat = 45) (h : readN r = none) : readW (b :: r) = (0, 4) := by simp [readW, hb, h]
theorem neg_some {b : UInt8} {r : List UInt8} {m : Nat} (hb : b.toNat = 45) (h : readN r = some m) : readW (b :: r) = (-(m : Int), 0) := by simp [readW, hb, h]
theorem pos_none {b : UInt8} {r : List UInt8} (hb : ¬ b.toNat = 45) (h : readN (b :: r) = none) : readW (b :: r) = (0, 4) := by simp [readW, hb, h]
theorem pos_some {b : UInt8} {r : List UInt8} {m : Nat} (hb : ¬ b.toNat = 45) (h : readN (b :: r) = some m) : readW (b :: r) = ((m : Int), 0) := by simp [readW, hb, h]
theorem conv_bytes (l : List UInt8) : ∃ (F : World → Nat) (G : World → World), ∀ W, (convert 9 22 (strV l)).run Tryd.prog W = .ok (.slice (some ⟨W.heap.size, 0, none⟩) l.length (F W)) (G W) ∧ Below W.heap.size W (G W) ∧ ∀ i, i < l.length → (G W).cell? ⟨W.heap.size, i, none⟩ = some (.int .u8 (at_ l i : Nat)) := by
  have e : (⟨l.toArray⟩ : ByteArray).size = l.length := by simp [ByteArray.size]
  refine ⟨fun W => grownCap W l.length 0 5, fun W => W.drew.alloc (.cells (bytesRow ⟨l.toArray⟩ (grownCap W l.length 0 5)) 5 ((bytesRow ⟨l.toArray⟩ (grownCap W l.length 0 5)).size, (bytesRow ⟨l.toArray⟩ (grownCap W l.length 0 5)).size + 1)), fun W => ⟨?_, ?_, ?_⟩⟩
  · have := run_bytes_of_string (P := Tryd.prog) W 9 22 5 ⟨l.toArray⟩ Tryd.underlying9 Tryd.underlying22 Tryd.underlying5
    rw [e] at this
    exact this
  · exact bto (Below.refl _ _).drew (bone W.drew _)
  · intro i hi
    rw [show W.heap.size = W.drew.heap.size from rfl, World.cell?_alloc_mark]
    rw [bytesRow_at _ _ _ (by simpa using hi)]
    unfold at_
    rw [List.getD_eq_getElem?_getD, List.getElem?_eq_getElem hi]
    simp
set_option maxHeartbeats 8000000 in
theorem read_any (l : List UInt8) (w : World) (hl : l.length ≤ 1000000) :
    Calls Tryd.prog 67 #[strV l] w fun e w' => e = .returned (.tuple #[.int .i64 (readW l).1, .int .i64 (readW l).2]) ∧ Below w.heap.size w w' := by
  cases l with
  | nil =>
    go_enter Tryd.func67, Tryd.ntmps67
    go_wp2_with fail
    go_ret2
    exact ⟨rfl, Below.refl _ _⟩
  | cons b r =>
    rw [List.length_cons] at hl
    have hx0 : (({ data := (b :: r).toArray } : ByteArray)[0]'(by simp [ByteArray.size])).toNat = b.toNat := rfl
    by_cases hb : b.toNat = 45
    · have hx1 : (({ data := (b :: r).toArray } : ByteArray)[0]'(by simp [ByteArray.size])).toNat = 45 := hb
      cases r with
      | nil =>
        have hex := extract_mk_tail b []
        rw [List.length_nil] at hex
        have hR := Lib.hid (neg_none (r := []) hb rfl)
        clear hx0
        go_enter Tryd.func67, Tryd.ntmps67
        go_wp2_with fail
        go_quiet (fail)
        go_wp2_with fail
        go_ret2
        exact ⟨by rw [hR.out]; rfl, below_drewN (Below.refl _ _) _⟩
      | cons y r =>
        obtain ⟨F, G, hFG⟩ := conv_bytes (y :: r)
        have hcv := fun W => (hFG W).1
        obtain ⟨n, hn⟩ : ∃ n, (y :: r).length = n := ⟨_, rfl⟩
        have HN := Lib.hid hn
        have hex := extract_mk_tail b (y :: r)
        rw [hn] at hFG hcv hex
        rw [List.length_cons] at hn
        rw [List.length_cons] at hl
        clear hx0
        go_enter Tryd.func67, Tryd.ntmps67
        go_wp2_with fail
        go_quiet (fail)
        go_wp2_with fail
        go_loopw [5, 23] (fun nv jv wr => ∃ (j m : Nat), jv = .int .i64 j ∧ nv = .int .i64 (m : Nat) ∧ j ≤ n ∧ m = min (dec ((y :: r).take j)) farN ∧ (((y :: r).take j).all isD) = true ∧ (∀ i, i < n → wr.cell? ⟨w.heap.size, i, none⟩ = some (.int .u8 (at_ (y :: r) i : Nat))) ∧ Below w.heap.size w wr) (fun _ jv _ => n - (intOf jv).toNat)
        case atStart => exact ⟨0, 0, rfl, rfl, Nat.zero_le _, by simp [dec, farN], rfl, (hFG _).2.2, (by first | exact (hFG _).2.1 | exact bto (below_drewN (Below.refl _ _) _) (hFG _).2.1)⟩
        case round =>
          obtain ⟨j, m, rfl, rfl, hj, hm, hall, hcl, hB⟩ := hrel
          have hmf : m ≤ farN := by omega
          unfold farN at hmf
          by_cases hlt : j < n
          · have hcj := hcl j hlt
            have HLI := Lib.hid (dig_step (l := y :: r) (by rw [HN.out]; exact hlt) hall)
            have HM := Lib.hid hm
            have HC := Lib.hid hcl
            obtain ⟨x, hx⟩ : ∃ x, at_ (y :: r) j = x := ⟨_, rfl⟩
            have hx256 : x < 256 := by rw [← hx]; exact UInt8.toNat_lt _
            rw [hx] at hcj
            rw [Hid, hx] at HLI
            have HL2 := Lib.hid HLI
            clear hm hall hcl hx HLI
            by_cases x1 : x < 48
            · have b1 : decide (x < 48) = true := decide_eq_true x1
              have hres := HL2.out.1 (by omega)
              have HR := Lib.hid (neg_none hb (readN_none hres))
              clear hres
              go_wp2_with fail
              go_ret2
              exact ⟨by rw [HR.out]; first | rfl | (simp; done), hB⟩
            · have b1 : decide (x < 48) = false := decide_eq_false x1
              by_cases x2 : 57 < x
              · have b2 : decide (57 < x) = true := decide_eq_true x2
                have hres := HL2.out.1 (by omega)
                have HR := Lib.hid (neg_none hb (readN_none hres))
                clear hres
                go_wp2_with fail
                go_ret2
                exact ⟨by rw [HR.out]; first | rfl | (simp; done), hB⟩
              · have b2 : decide (57 < x) = false := decide_eq_false x2
                obtain ⟨d, hd⟩ : ∃ d, x - 48 = d := ⟨_, rfl⟩
                have hxd : (x : Int) - 48 = (d : Int) := by omega
                have hd9 : d ≤ 9 := by omega
                have w1 : IntKind.u8.wrap (d : Int) = (d : Int) := by rw [IntKind.wrap_u8]; omega
                have w2 : IntKind.i64.wrap (d : Int) = (d : Int) := by rw [IntKind.wrap_i64]; omega
                obtain ⟨f, hf⟩ : ∃ f, 4611686018427387904 - d = f := ⟨_, rfl⟩
                have hfI : (4611686018427387904 : Int) - (d : Int) = (f : Int) := by omega
                have w3 : IntKind.i64.wrap (f : Int) = (f : Int) := by rw [IntKind.wrap_i64]; omega
                obtain ⟨q, hq⟩ : ∃ q, f / 10 = q := ⟨_, rfl⟩
                have hqI : (f : Int) / 10 = (q : Int) := by omega
                have hqT : (f : Int).tdiv 10 = (q : Int) := by rw [Int.tdiv_eq_ediv_of_nonneg (by omega)]; exact hqI
                have w4 : IntKind.i64.wrap (q : Int) = (q : Int) := by rw [IntKind.wrap_i64]; omega
                obtain ⟨h1, h2⟩ := HL2.out.2 (by omega) (by omega)
                rw [hd] at h1
                have hst := far_step (dec ((y :: r).take j)) d hd9
                rw [← h1, ← HM.out] at hst
                have hq2 : (farN - d) / 10 = q := by unfold farN; omega
                rw [hq2] at hst
                have H2 := Lib.hid h2
                by_cases hqm : q < m
                · rw [if_pos hqm] at hst
                  have b3 : decide ((q : Int) < (m : Int)) = true := decide_eq_true (by omega)
                  have b3N : decide (q < m) = true := decide_eq_true hqm
                  have HS := Lib.hid hst
                  clear h1 h2 hst hq2 hd hf hq
                  go_wp2_with fail
                  go_roundw
                  case rel => exact ⟨j + 1, 4611686018427387904, by go_num, rfl, by omega, HS.out.symm, H2.out, HC.out, hB⟩
                  case measure => simp [intOf]; omega
                · rw [if_neg hqm] at hst
                  have b3 : decide ((q : Int) < (m : Int)) = false := decide_eq_false (by omega)
                  have b3N : decide (q < m) = false := decide_eq_false hqm
                  obtain ⟨t, ht⟩ : ∃ t, 10 * m = t := ⟨_, rfl⟩
                  have htI : 10 * (m : Int) = (t : Int) := by omega
                  have w5 : IntKind.i64.wrap (t : Int) = (t : Int) := by rw [IntKind.wrap_i64]; omega
                  obtain ⟨u, hu⟩ : ∃ u, t + d = u := ⟨_, rfl⟩
                  have huI : (t : Int) + (d : Int) = (u : Int) := by omega
                  have w6 : IntKind.i64.wrap (u : Int) = (u : Int) := by rw [IntKind.wrap_i64]; omega
                  rw [ht, hu] at hst
                  have HS := Lib.hid hst
                  clear h1 h2 hst hq2 hd hf hq ht hu
                  go_wp2_with fail
                  go_roundw
                  case rel => exact ⟨j + 1, u, by go_num, rfl, by omega, HS.out.symm, H2.out, HC.out, hB⟩
                  case measure => simp [intOf]; omega
          · obtain rfl : n = j := by omega
            rw [List.take_of_length_le (by rw [HN.out]; exact Nat.le_refl _)] at hm hall
            have HR := Lib.hid (neg_some hb (readN_some (by simp) hm hall))
            have w7 : IntKind.i64.wrap (m : Int) = (m : Int) := by rw [IntKind.wrap_i64]; omega
            have w8 : IntKind.i64.wrap (-(m : Int)) = -(m : Int) := by rw [IntKind.wrap_i64]; omega
            clear hm hall hcl
            go_wp2_with fail
            go_ret2
            exact ⟨by rw [HR.out]; first | rfl | (simp; done), hB⟩
    · have hx1 : (b.toNat == 45) = false := by simpa using hb
      have hx2 : ((b.toNat : Int) == 45) = false := by simp; omega
      obtain ⟨F, G, hFG⟩ := conv_bytes (b :: r)
      have hcv := fun W => (hFG W).1
      obtain ⟨n, hn⟩ : ∃ n, (b :: r).length = n := ⟨_, rfl⟩
      have HN := Lib.hid hn
      rw [hn] at hFG hcv
      rw [List.length_cons] at hn
      go_enter Tryd.func67, Tryd.ntmps67
      go_wp2_with fail
      go_loopw [5, 23] (fun nv jv wr => ∃ (j m : Nat), jv = .int .i64 j ∧ nv = .int .i64 (m : Nat) ∧ j ≤ n ∧ m = min (dec ((b :: r).take j)) farN ∧ (((b :: r).take j).all isD) = true ∧ (∀ i, i < n → wr.cell? ⟨w.heap.size, i, none⟩ = some (.int .u8 (at_ (b :: r) i : Nat))) ∧ Below w.heap.size w wr) (fun _ jv _ => n - (intOf jv).toNat)
      case atStart => exact ⟨0, 0, rfl, rfl, Nat.zero_le _, by simp [dec, farN], rfl, (hFG _).2.2, (by first | exact (hFG _).2.1 | exact bto (below_drewN (Below.refl _ _) _) (hFG _).2.1)⟩
      case round =>
        obtain ⟨j, m, rfl, rfl, hj, hm, hall, hcl, hB⟩ := hrel
        have hmf : m ≤ farN := by omega
        unfold farN at hmf
        by_cases hlt : j < n
        · have hcj := hcl j hlt
          have HLI := Lib.hid (dig_step (l := b :: r) (by rw [HN.out]; exact hlt) hall)
          have HM := Lib.hid hm
          have HC := Lib.hid hcl
          obtain ⟨x, hx⟩ : ∃ x, at_ (b :: r) j = x := ⟨_, rfl⟩
          have hx256 : x < 256 := by rw [← hx]; exact UInt8.toNat_lt _
          rw [hx] at hcj
          rw [Hid, hx] at HLI
          have HL2 := Lib.hid HLI
          clear hm hall hcl hx HLI
          by_cases x1 : x < 48
          · have b1 : decide (x < 48) = true := decide_eq_true x1
            have hres := HL2.out.1 (by omega)
            have HR := Lib.hid (pos_none hb (readN_none hres))
            clear hres
            go_wp2_with fail
            go_ret2
            exact ⟨by rw [HR.out]; first | rfl | (simp; done), hB⟩
          · have b1 : decide (x < 48) = false := decide_eq_false x1
            by_cases x2 : 57 < x
            · have b2 : decide (57 < x) = true := decide_eq_true x2
              have hres := HL2.out.1 (by omega)
              have HR := Lib.hid (pos_none hb (readN_none hres))
              clear hres
              go_wp2_with fail
              go_ret2
              exact ⟨by rw [HR.out]; first | rfl | (simp; done), hB⟩
            · have b2 : decide (57 < x) = false := decide_eq_false x2
              obtain ⟨d, hd⟩ : ∃ d, x - 48 = d := ⟨_, rfl⟩
              have hxd : (x : Int) - 48 = (d : Int) := by omega
              have hd9 : d ≤ 9 := by omega
              have w1 : IntKind.u8.wrap (d : Int) = (d : Int) := by rw [IntKind.wrap_u8]; omega
              have w2 : IntKind.i64.wrap (d : Int) = (d : Int) := by rw [IntKind.wrap_i64]; omega
              obtain ⟨f, hf⟩ : ∃ f, 4611686018427387904 - d = f := ⟨_, rfl⟩
              have hfI : (4611686018427387904 : Int) - (d : Int) = (f : Int) := by omega
              have w3 : IntKind.i64.wrap (f : Int) = (f : Int) := by rw [IntKind.wrap_i64]; omega
              obtain ⟨q, hq⟩ : ∃ q, f / 10 = q := ⟨_, rfl⟩
              have hqI : (f : Int) / 10 = (q : Int) := by omega
              have hqT : (f : Int).tdiv 10 = (q : Int) := by rw [Int.tdiv_eq_ediv_of_nonneg (by omega)]; exact hqI
              have w4 : IntKind.i64.wrap (q : Int) = (q : Int) := by rw [IntKind.wrap_i64]; omega
              obtain ⟨h1, h2⟩ := HL2.out.2 (by omega) (by omega)
              rw [hd] at h1
              have hst := far_step (dec ((b :: r).take j)) d hd9
              rw [← h1, ← HM.out] at hst
              have hq2 : (farN - d) / 10 = q := by unfold farN; omega
              rw [hq2] at hst
              have H2 := Lib.hid h2
              by_cases hqm : q < m
              · rw [if_pos hqm] at hst
                have b3 : decide ((q : Int) < (m : Int)) = true := decide_eq_true (by omega)
                have b3N : decide (q < m) = true := decide_eq_true hqm
                have HS := Lib.hid hst
                clear h1 h2 hst hq2 hd hf hq
                go_wp2_with fail
                go_roundw
                case rel => exact ⟨j + 1, 4611686018427387904, by go_num, rfl, by omega, HS.out.symm, H2.out, HC.out, hB⟩
                case measure => simp [intOf]; omega
              · rw [if_neg hqm] at hst
                have b3 : decide ((q : Int) < (m : Int)) = false := decide_eq_false (by omega)
                have b3N : decide (q < m) = false := decide_eq_false hqm
                obtain ⟨t, ht⟩ : ∃ t, 10 * m = t := ⟨_, rfl⟩
                have htI : 10 * (m : Int) = (t : Int) := by omega
                have w5 : IntKind.i64.wrap (t : Int) = (t : Int) := by rw [IntKind.wrap_i64]; omega
                obtain ⟨u, hu⟩ : ∃ u, t + d = u := ⟨_, rfl⟩
                have huI : (t : Int) + (d : Int) = (u : Int) := by omega
                have w6 : IntKind.i64.wrap (u : Int) = (u : Int) := by rw [IntKind.wrap_i64]; omega
                rw [ht, hu] at hst
                have HS := Lib.hid hst
                clear h1 h2 hst hq2 hd hf hq ht hu
                go_wp2_with fail
                go_roundw
                case rel => exact ⟨j + 1, u, by go_num, rfl, by omega, HS.out.symm, H2.out, HC.out, hB⟩
                case measure => simp [intOf]; omega
        · obtain rfl : n = j := by omega
          rw [List.take_of_length_le (by rw [HN.out]; exact Nat.le_refl _)] at hm hall
          have HR := Lib.hid (pos_some hb (readN_some (by simp) hm hall))
          have w7 : IntKind.i64.wrap (m : Int) = (m : Int) := by rw [IntKind.wrap_i64]; omega
          have w8 : IntKind.i64.wrap (-(m : Int)) = -(m : Int) := by rw [IntKind.wrap_i64]; omega
          clear hm hall hcl
          go_wp2_with fail
          go_ret2
          exact ⟨by rw [HR.out]; first | rfl | (simp; done), hB⟩
end Go.Proofs.YtafdijfbgkcnnaaDoor.scn
