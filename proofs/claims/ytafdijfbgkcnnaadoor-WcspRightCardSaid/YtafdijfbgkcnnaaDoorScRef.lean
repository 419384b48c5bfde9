/- Digits read: the document's. -/
import Derived.Test.YtafdijfbgkcnnaaDoorScRead
namespace Go.Proofs.YtafdijfbgkcnnaaDoor.scn
open Go Go.RowKit Go.ChangeShapes Go.WideShapes Go.ChangeAt Go.Proofs.YtafdijfbgkcnnaaDoor.words
set_option linter.unusedVariables false
theorem str_at {l : List UInt8} {j : Nat} (h : j < l.length) : ((⟨l.toArray⟩ : ByteArray)[j]'(by simpa [ByteArray.size] using h)).toNat = at_ l j := by
  unfold at_
  rw [List.getD_eq_getElem?_getD, List.getElem?_eq_getElem h]
  rfl
set_option maxHeartbeats 8000000 in
theorem read_ref (l : List UInt8) (w : World) (hl : l.length ≤ 1000000) :
    Calls Tryd.prog 73 #[strV l] w fun e w' => e = .returned (.tuple #[.int .i64 (readW l).1, .int .i64 (readW l).2]) ∧ w = w' := by
  cases l with
  | nil =>
    go_enter Tryd.func73, Tryd.ntmps73
    go_wp2_with fail
    go_ret2
    exact ⟨rfl, rfl⟩
  | cons b r =>
    rw [List.length_cons] at hl
    have hx0 : (({ data := (b :: r).toArray } : ByteArray)[0]'(by simp [ByteArray.size])).toNat = b.toNat := rfl
    by_cases hb : b.toNat = 45
    · have hx1 : (({ data := (b :: r).toArray } : ByteArray)[0]'(by simp [ByteArray.size])).toNat = 45 := hb
      cases r with
      | nil =>
        have hex := extract_mk_tail b []
        rw [List.length_nil] at hex
        have hR := Lib.hid (neg_none (r := []) hb rfl)
        clear hx0
        go_enter Tryd.func73, Tryd.ntmps73
        go_wp2_with fail
        go_ret2
        exact ⟨by rw [hR.out]; rfl, rfl⟩
      | cons y r =>
        obtain ⟨n, hn⟩ : ∃ n, (y :: r).length = n := ⟨_, rfl⟩
        have HN := Lib.hid hn
        have hex := extract_mk_tail b (y :: r)
        rw [hn] at hex
        rw [List.length_cons] at hn
        rw [List.length_cons] at hl
        have hn0 : ((n : Int) == 0) = false := by simp; omega
        clear hx0
        go_enter Tryd.func73, Tryd.ntmps73
        go_wp2_with fail
        go_loopw [5, 6, 7] (fun nv fv jv wr => ∃ (j m : Nat) (fr : Bool), jv = .int .i64 j ∧ nv = .int .u64 (m : Nat) ∧ fv = .bool fr ∧ j ≤ n ∧ m ≤ 4611686018427387909 ∧ ((fr = false ∧ m = dec ((y :: r).take j)) ∨ (fr = true ∧ farN < dec ((y :: r).take j))) ∧ (((y :: r).take j).all isD) = true ∧ w = wr) (fun _ _ jv _ => n - (intOf jv).toNat)
        case atStart => exact ⟨0, 0, false, rfl, rfl, rfl, Nat.zero_le _, by omega, .inl ⟨rfl, by simp [dec]⟩, rfl, rfl⟩
        case round =>
          obtain ⟨j, m, fr, rfl, rfl, rfl, hj, hm9, hm, hall, rfl⟩ := hrel
          by_cases hlt : j < n
          · have hxj := str_at (l := y :: r) (j := j) (by rw [HN.out]; exact hlt)
            have HLI := Lib.hid (dig_step (l := y :: r) (by rw [HN.out]; exact hlt) hall)
            have HM := Lib.hid hm
            obtain ⟨x, hx⟩ : ∃ x, at_ (y :: r) j = x := ⟨_, rfl⟩
            have hx256 : x < 256 := by rw [← hx]; exact UInt8.toNat_lt _
            rw [hx] at hxj
            rw [Hid, hx] at HLI
            have HL2 := Lib.hid HLI
            clear hm hall hx HLI
            by_cases x1 : x < 48
            · have b1 : decide (x < 48) = true := decide_eq_true x1
              have hres := HL2.out.1 (by omega)
              have HR := Lib.hid (neg_none hb (readN_none hres))
              clear hres
              go_wp2_with fail
              go_ret2
              exact ⟨by rw [HR.out]; rfl, by first | rfl | trivial⟩
            · have b1 : decide (x < 48) = false := decide_eq_false x1
              by_cases x2 : 57 < x
              · have b2 : decide (57 < x) = true := decide_eq_true x2
                have hres := HL2.out.1 (by omega)
                have HR := Lib.hid (neg_none hb (readN_none hres))
                clear hres
                go_wp2_with fail
                go_ret2
                exact ⟨by rw [HR.out]; rfl, by first | rfl | trivial⟩
              · have b2 : decide (57 < x) = false := decide_eq_false x2
                obtain ⟨d, hd⟩ : ∃ d, x - 48 = d := ⟨_, rfl⟩
                have hxd : (x : Int) - 48 = (d : Int) := by omega
                have hd9 : d ≤ 9 := by omega
                have w1 : IntKind.u8.wrap (d : Int) = (d : Int) := by rw [IntKind.wrap_u8]; omega
                have w2 : IntKind.u64.wrap (d : Int) = (d : Int) := by rw [IntKind.wrap_u64]; omega
                obtain ⟨h1, h2⟩ := HL2.out.2 (by omega) (by omega)
                rw [hd] at h1
                have H2 := Lib.hid h2
                by_cases hq : 461168601842738790 < m
                · have b3 : decide ((461168601842738790 : Int) < (m : Int)) = true := decide_eq_true (by omega)
                  have b3N : decide (461168601842738790 < m) = true := decide_eq_true hq
                  have HS : Hid (farN < dec ((y :: r).take (j + 1))) := by
                    rw [Hid, h1]
                    rcases HM.out with ⟨_, h⟩ | ⟨_, h⟩
                    · rw [← h]; unfold farN; omega
                    · unfold farN at h ⊢; omega
                  clear h1 h2 hd
                  go_wp2_with fail
                  go_roundw
                  case rel => exact ⟨j + 1, m, true, by go_num, rfl, rfl, by omega, hm9, .inr ⟨rfl, HS.out⟩, H2.out, by first | rfl | trivial⟩
                  case measure => simp [intOf]; omega
                · have b3 : decide ((461168601842738790 : Int) < (m : Int)) = false := decide_eq_false (by omega)
                  have b3N : decide (461168601842738790 < m) = false := decide_eq_false hq
                  cases fr with
                  | true =>
                    have HS : Hid (farN < dec ((y :: r).take (j + 1))) := by
                      rw [Hid, h1]
                      rcases HM.out with ⟨e, _⟩ | ⟨_, h⟩
                      · cases e
                      · unfold farN at h ⊢; omega
                    clear h1 h2 hd
                    go_wp2_with fail
                    go_roundw
                    case rel => exact ⟨j + 1, m, true, by go_num, rfl, rfl, by omega, hm9, .inr ⟨rfl, HS.out⟩, H2.out, by first | rfl | trivial⟩
                    case measure => simp [intOf]; omega
                  | false =>
                    obtain ⟨t, ht⟩ : ∃ t, 10 * m = t := ⟨_, rfl⟩
                    have htI : 10 * (m : Int) = (t : Int) := by omega
                    have w5 : IntKind.u64.wrap (t : Int) = (t : Int) := by rw [IntKind.wrap_u64]; omega
                    obtain ⟨u, hu⟩ : ∃ u, t + d = u := ⟨_, rfl⟩
                    have huI : (t : Int) + (d : Int) = (u : Int) := by omega
                    have w6 : IntKind.u64.wrap (u : Int) = (u : Int) := by rw [IntKind.wrap_u64]; omega
                    have HS : Hid (u = dec ((y :: r).take (j + 1))) := by
                      rw [Hid, h1]
                      rcases HM.out with ⟨_, h⟩ | ⟨e, _⟩
                      · omega
                      · cases e
                    have hu9 : u ≤ 4611686018427387909 := by omega
                    clear h1 h2 hd ht hu
                    go_wp2_with fail
                    go_roundw
                    case rel => exact ⟨j + 1, u, false, by go_num, rfl, rfl, by omega, hu9, .inl ⟨rfl, HS.out⟩, H2.out, by first | rfl | trivial⟩
                    case measure => simp [intOf]; omega
          · obtain rfl : n = j := by omega
            rw [List.take_of_length_le (by rw [HN.out]; exact Nat.le_refl _)] at hm hall
            have HALL := Lib.hid hall
            have HM := Lib.hid hm
            clear hall hm
            cases fr with
            | true =>
              have hm : 4611686018427387904 = min (dec (y :: r)) farN := by
                rcases HM.out with ⟨e, _⟩ | ⟨_, h⟩
                · cases e
                · unfold farN at h ⊢; omega
              have HR := Lib.hid (neg_some hb (readN_some (by simp) hm HALL.out))
              have w7 : IntKind.i64.wrap 4611686018427387904 = 4611686018427387904 := by decide
              clear hm
              go_wp2_with fail
              go_ret2
              exact ⟨by rw [HR.out]; first | rfl | (simp; done), by first | rfl | trivial⟩
            | false =>
              have hmD : m = dec (y :: r) := by
                rcases HM.out with ⟨_, h⟩ | ⟨e, _⟩
                · exact h
                · cases e
              by_cases hq : 4611686018427387904 < m
              · have hm : 4611686018427387904 = min (dec (y :: r)) farN := by unfold farN; omega
                have HR := Lib.hid (neg_some hb (readN_some (by simp) hm HALL.out))
                have b3 : decide ((4611686018427387904 : Int) < (m : Int)) = true := decide_eq_true (by omega)
                have b3N : decide (4611686018427387904 < m) = true := decide_eq_true hq
                have w7 : IntKind.i64.wrap 4611686018427387904 = 4611686018427387904 := by decide
                clear hm hmD
                go_wp2_with fail
                go_ret2
                exact ⟨by rw [HR.out]; first | rfl | (simp; done), by first | rfl | trivial⟩
              · have hm : m = min (dec (y :: r)) farN := by unfold farN; omega
                have HR := Lib.hid (neg_some hb (readN_some (by simp) hm HALL.out))
                have b3 : decide ((4611686018427387904 : Int) < (m : Int)) = false := decide_eq_false (by omega)
                have b3N : decide (4611686018427387904 < m) = false := decide_eq_false hq
                have w7 : IntKind.i64.wrap (m : Int) = (m : Int) := by rw [IntKind.wrap_i64]; omega
                have w8 : IntKind.i64.wrap (-(m : Int)) = -(m : Int) := by rw [IntKind.wrap_i64]; omega
                clear hm hmD
                go_wp2_with fail
                go_ret2
                exact ⟨by rw [HR.out]; first | rfl | (simp; done), by first | rfl | trivial⟩
    · have hx1 : (b.toNat == 45) = false := by simpa using hb
      have hx2 : ((b.toNat : Int) == 45) = false := by simp; omega
      obtain ⟨n, hn⟩ : ∃ n, (b :: r).length = n := ⟨_, rfl⟩
      have HN := Lib.hid hn
      rw [List.length_cons] at hn
      have hn0 : ((n : Int) == 0) = false := by simp; omega
      go_enter Tryd.func73, Tryd.ntmps73
      go_wp2_with fail
      go_loopw [5, 6, 7] (fun nv fv jv wr => ∃ (j m : Nat) (fr : Bool), jv = .int .i64 j ∧ nv = .int .u64 (m : Nat) ∧ fv = .bool fr ∧ j ≤ n ∧ m ≤ 4611686018427387909 ∧ ((fr = false ∧ m = dec ((b :: r).take j)) ∨ (fr = true ∧ farN < dec ((b :: r).take j))) ∧ (((b :: r).take j).all isD) = true ∧ w = wr) (fun _ _ jv _ => n - (intOf jv).toNat)
      case atStart => exact ⟨0, 0, false, rfl, rfl, rfl, Nat.zero_le _, by omega, .inl ⟨rfl, by simp [dec]⟩, rfl, rfl⟩
      case round =>
        obtain ⟨j, m, fr, rfl, rfl, rfl, hj, hm9, hm, hall, rfl⟩ := hrel
        by_cases hlt : j < n
        · have hxj := str_at (l := b :: r) (j := j) (by rw [HN.out]; exact hlt)
          have HLI := Lib.hid (dig_step (l := b :: r) (by rw [HN.out]; exact hlt) hall)
          have HM := Lib.hid hm
          obtain ⟨x, hx⟩ : ∃ x, at_ (b :: r) j = x := ⟨_, rfl⟩
          have hx256 : x < 256 := by rw [← hx]; exact UInt8.toNat_lt _
          rw [hx] at hxj
          rw [Hid, hx] at HLI
          have HL2 := Lib.hid HLI
          clear hm hall hx HLI
          by_cases x1 : x < 48
          · have b1 : decide (x < 48) = true := decide_eq_true x1
            have hres := HL2.out.1 (by omega)
            have HR := Lib.hid (pos_none hb (readN_none hres))
            clear hres
            go_wp2_with fail
            go_ret2
            exact ⟨by rw [HR.out]; rfl, by first | rfl | trivial⟩
          · have b1 : decide (x < 48) = false := decide_eq_false x1
            by_cases x2 : 57 < x
            · have b2 : decide (57 < x) = true := decide_eq_true x2
              have hres := HL2.out.1 (by omega)
              have HR := Lib.hid (pos_none hb (readN_none hres))
              clear hres
              go_wp2_with fail
              go_ret2
              exact ⟨by rw [HR.out]; rfl, by first | rfl | trivial⟩
            · have b2 : decide (57 < x) = false := decide_eq_false x2
              obtain ⟨d, hd⟩ : ∃ d, x - 48 = d := ⟨_, rfl⟩
              have hxd : (x : Int) - 48 = (d : Int) := by omega
              have hd9 : d ≤ 9 := by omega
              have w1 : IntKind.u8.wrap (d : Int) = (d : Int) := by rw [IntKind.wrap_u8]; omega
              have w2 : IntKind.u64.wrap (d : Int) = (d : Int) := by rw [IntKind.wrap_u64]; omega
              obtain ⟨h1, h2⟩ := HL2.out.2 (by omega) (by omega)
              rw [hd] at h1
              have H2 := Lib.hid h2
              by_cases hq : 461168601842738790 < m
              · have b3 : decide ((461168601842738790 : Int) < (m : Int)) = true := decide_eq_true (by omega)
                have b3N : decide (461168601842738790 < m) = true := decide_eq_true hq
                have HS : Hid (farN < dec ((b :: r).take (j + 1))) := by
                  rw [Hid, h1]
                  rcases HM.out with ⟨_, h⟩ | ⟨_, h⟩
                  · rw [← h]; unfold farN; omega
                  · unfold farN at h ⊢; omega
                clear h1 h2 hd
                go_wp2_with fail
                go_roundw
                case rel => exact ⟨j + 1, m, true, by go_num, rfl, rfl, by omega, hm9, .inr ⟨rfl, HS.out⟩, H2.out, by first | rfl | trivial⟩
                case measure => simp [intOf]; omega
              · have b3 : decide ((461168601842738790 : Int) < (m : Int)) = false := decide_eq_false (by omega)
                have b3N : decide (461168601842738790 < m) = false := decide_eq_false hq
                cases fr with
                | true =>
                  have HS : Hid (farN < dec ((b :: r).take (j + 1))) := by
                    rw [Hid, h1]
                    rcases HM.out with ⟨e, _⟩ | ⟨_, h⟩
                    · cases e
                    · unfold farN at h ⊢; omega
                  clear h1 h2 hd
                  go_wp2_with fail
                  go_roundw
                  case rel => exact ⟨j + 1, m, true, by go_num, rfl, rfl, by omega, hm9, .inr ⟨rfl, HS.out⟩, H2.out, by first | rfl | trivial⟩
                  case measure => simp [intOf]; omega
                | false =>
                  obtain ⟨t, ht⟩ : ∃ t, 10 * m = t := ⟨_, rfl⟩
                  have htI : 10 * (m : Int) = (t : Int) := by omega
                  have w5 : IntKind.u64.wrap (t : Int) = (t : Int) := by rw [IntKind.wrap_u64]; omega
                  obtain ⟨u, hu⟩ : ∃ u, t + d = u := ⟨_, rfl⟩
                  have huI : (t : Int) + (d : Int) = (u : Int) := by omega
                  have w6 : IntKind.u64.wrap (u : Int) = (u : Int) := by rw [IntKind.wrap_u64]; omega
                  have HS : Hid (u = dec ((b :: r).take (j + 1))) := by
                    rw [Hid, h1]
                    rcases HM.out with ⟨_, h⟩ | ⟨e, _⟩
                    · omega
                    · cases e
                  have hu9 : u ≤ 4611686018427387909 := by omega
                  clear h1 h2 hd ht hu
                  go_wp2_with fail
                  go_roundw
                  case rel => exact ⟨j + 1, u, false, by go_num, rfl, rfl, by omega, hu9, .inl ⟨rfl, HS.out⟩, H2.out, by first | rfl | trivial⟩
                  case measure => simp [intOf]; omega
        · obtain rfl : n = j := by omega
          rw [List.take_of_length_le (by rw [HN.out]; exact Nat.le_refl _)] at hm hall
          have HALL := Lib.hid hall
          have HM := Lib.hid hm
          clear hall hm
          cases fr with
          | true =>
            have hm : 4611686018427387904 = min (dec (b :: r)) farN := by
              rcases HM.out with ⟨e, _⟩ | ⟨_, h⟩
              · cases e
              · unfold farN at h ⊢; omega
            have HR := Lib.hid (pos_some hb (readN_some (by simp) hm HALL.out))
            have w7 : IntKind.i64.wrap 4611686018427387904 = 4611686018427387904 := by decide
            clear hm
            go_wp2_with fail
            go_ret2
            exact ⟨by rw [HR.out]; first | rfl | (simp; done), by first | rfl | trivial⟩
          | false =>
            have hmD : m = dec (b :: r) := by
              rcases HM.out with ⟨_, h⟩ | ⟨e, _⟩
              · exact h
              · cases e
            by_cases hq : 4611686018427387904 < m
            · have hm : 4611686018427387904 = min (dec (b :: r)) farN := by unfold farN; omega
              have HR := Lib.hid (pos_some hb (readN_some (by simp) hm HALL.out))
              have b3 : decide ((4611686018427387904 : Int) < (m : Int)) = true := decide_eq_true (by omega)
              have b3N : decide (4611686018427387904 < m) = true := decide_eq_true hq
              have w7 : IntKind.i64.wrap 4611686018427387904 = 4611686018427387904 := by decide
              clear hm hmD
              go_wp2_with fail
              go_ret2
              exact ⟨by rw [HR.out]; first | rfl | (simp; done), by first | rfl | trivial⟩
            · have hm : m = min (dec (b :: r)) farN := by unfold farN; omega
              have HR := Lib.hid (pos_some hb (readN_some (by simp) hm HALL.out))
              have b3 : decide ((4611686018427387904 : Int) < (m : Int)) = false := decide_eq_false (by omega)
              have b3N : decide (4611686018427387904 < m) = false := decide_eq_false hq
              have w7 : IntKind.i64.wrap (m : Int) = (m : Int) := by rw [IntKind.wrap_i64]; omega
              have w8 : IntKind.i64.wrap (-(m : Int)) = -(m : Int) := by rw [IntKind.wrap_i64]; omega
              clear hm hmD
              go_wp2_with fail
              go_ret2
              exact ⟨by rw [HR.out]; first | rfl | (simp; done), by first | rfl | trivial⟩
end Go.Proofs.YtafdijfbgkcnnaaDoor.scn
