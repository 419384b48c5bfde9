/- For every input QueueSorts returns true; its arguments read az before. No condition. -/
import Derived.Test.YthjfboecdhlnfaaRows
import Derived.WalkKit
import Derived.ProofKit
import Derived.OpenShut
import Derived.ShutString
import Derived.ChangeOld
import Derived.Below
import Derived.Test.YthjfboecdhlnfaaOpen
import Derived.Test.YthjfboecdhlnfaaQuLaw
import Derived.Test.YthjfboecdhlnfaaI64Clone
namespace Go.Proofs.Ythjfboecdhlnfaa.queueSorts
open Go.Proofs.Ythjfboecdhlnfaa.que Go.Proofs.Ythjfboecdhlnfaa.words
open Go.ChangeShapes Go.WideShapes Go.ChangeAt Go.RowKit
open Go.ChangeMaps (open_string shut_string)
set_option linter.unusedVariables false
theorem own : ownKnob Try.prog.godebug = none := by kernel_rfl
theorem laidOut : laidOutB Try.prog = true := by kernel_rfl
theorem Tch.of_base {a b : World} {B : Nat} (h : Below B a b) : Tch a b (fun k => B ≤ k) := ⟨h.os, h.tape, h.output, h.size, fun i hi hn => h.block i (by omega)⟩
/-- the first i numbers wait, each with its own -/
def Has_ (ps : List Int) (L : List It) (i : Nat) : Prop := ∀ a : It, a ∈ L ↔ ∃ j : Nat, j < i ∧ ps[j]? = some a.1 ∧ a.2 = j
theorem has_zero (ps : List Int) : Has_ ps [] 0 := fun a => ⟨(fun h => by cases h), (fun ⟨j, h, _⟩ => by omega)⟩
theorem has_next {ps : List Int} {L : List It} {i : Nat} {p : Int} (h : Has_ ps L i) (hp : ps[i]? = some p) : L.filter (fun a => decide (a.2 ≠ (i : Int))) = L ∧ Has_ ps ((p, (i : Int)) :: L.filter fun a => decide (a.2 ≠ (i : Int))) (i + 1) := by
  have e : L.filter (fun a => decide (a.2 ≠ (i : Int))) = L := List.filter_eq_self.2 fun a ha => by
    obtain ⟨j, hj, _, h2⟩ := (h a).1 ha
    simp; omega
  refine ⟨e, fun a => ?_⟩
  rw [e, List.mem_cons, h a]
  constructor
  · rintro (rfl | ⟨j, h1, h2, h3⟩)
    · exact ⟨i, by omega, hp, rfl⟩
    · exact ⟨j, by omega, h2, h3⟩
  · rintro ⟨j, h1, h2, h3⟩
    by_cases hji : j = i
    · subst hji
      left
      rw [hp] at h2
      exact Prod.ext (Option.some.inj h2).symm h3
    · exact .inr ⟨j, by omega, h2, h3⟩
theorem has_put {ps : List Int} {L : List It} {n x : Nat} {v : Int} (h : Has_ ps L n) (hx : x < n) (hl : ps.length = n) : Has_ (ps.set x v) ((v, (x : Int)) :: L.filter fun a => decide (a.2 ≠ (x : Int))) n := by
  intro a
  rw [List.mem_cons, List.mem_filter, h a]
  constructor
  · rintro (rfl | ⟨⟨j, h1, h2, h3⟩, h4⟩)
    · exact ⟨x, hx, by rw [List.getElem?_set_self (by omega)], rfl⟩
    · have : x ≠ j := fun e => by simp at h4; omega
      exact ⟨j, h1, by rw [List.getElem?_set_ne this]; exact h2, h3⟩
  · rintro ⟨j, h1, h2, h3⟩
    by_cases hjx : x = j
    · subst hjx
      rw [List.getElem?_set_self (by omega)] at h2
      exact .inl (Prod.ext (Option.some.inj h2).symm h3)
    · rw [List.getElem?_set_ne hjx] at h2
      exact .inr ⟨⟨j, h1, h2, h3⟩, by simp; omega⟩
theorem filt_len {x : Int} : ∀ {L : List It}, (L.map (·.2)).Nodup → (∃ a ∈ L, a.2 = x) → (L.filter fun a => decide (a.2 ≠ x)).length + 1 = L.length
  | [], _, h => by obtain ⟨a, ha, _⟩ := h; cases ha
  | b :: L, hn, h => by
    rw [List.map_cons, List.nodup_cons] at hn
    by_cases hb : b.2 = x
    · have e : L.filter (fun a => decide (a.2 ≠ x)) = L := List.filter_eq_self.2 fun a ha => by
        have : a.2 ≠ x := fun e => hn.1 (List.mem_map.2 ⟨a, ha, e.trans hb.symm⟩)
        simpa using this
      rw [List.filter_cons_of_neg (by simp [hb]), e]; rfl
    · obtain ⟨a, ha, he⟩ := h
      rcases List.mem_cons.1 ha with rfl | ha
      · exact absurd he hb
      · rw [List.filter_cons_of_pos (by simp [hb]), List.length_cons, List.length_cons, filt_len hn.2 ⟨a, ha, he⟩]
theorem most_ex : ∀ (L : List It), L ≠ [] → ∃ m, Most L m
  | [], h => absurd rfl h
  | [a], _ => ⟨a, by simp, fun b hb => by simp at hb; subst hb; exact lt_irrefl _⟩
  | a :: b :: L, _ => by
    obtain ⟨m, h1, h2⟩ := most_ex (b :: L) (by simp)
    by_cases hl : lt a m
    · refine ⟨a, by simp, fun c hc => ?_⟩
      rcases List.mem_cons.1 hc with rfl | hc
      · exact lt_irrefl _
      · exact le_trans (lt_asymm hl) (h2 c hc)
    · refine ⟨m, List.mem_cons_of_mem _ h1, fun c hc => ?_⟩
      rcases List.mem_cons.1 hc with rfl | hc
      · exact hl
      · exact h2 c hc
set_option maxRecDepth 100000 in
set_option maxHeartbeats 8000000 in
theorem core (A C : Option Addr) (n0 cap m c : Nat) (ps0 : List Int) (az : List Int) (w : World) (hn : n0 ≤ 9223372036854775807) (hm : m ≤ 9223372036854775807) (hnc : n0 ≤ cap)
    (hr0 : Reads w w.heap.size 1 A n0 (nums ps0)) (ha0 : Reads w w.heap.size 1 C m (az.map (Value.int .u8))) (hwf : ∀ x ∈ az, (Lit.int .u8 x).wf = true) :
    Calls Try.prog 5 #[.slice A n0 cap, .slice C m c] w fun e w' => e = .returned (.bool true) ∧ Below w.heap.size w w' := by
  obtain ⟨n, hn1, n1, n2, -⟩ := min_nat n0 40
  have hn1' : (if (40 : Int) < (n0 : Int) then (40 : Int) else (n0 : Int)) = (n : Int) := hn1
  clear hn1
  have hrn : Reads w w.heap.size 1 A n (nums (ps0.take n)) := by
    have := hr0.take_ n1; unfold nums at this ⊢; rwa [List.map_take]
  obtain ⟨ps, hps⟩ : ∃ ps, ps0.take n = ps := ⟨_, rfl⟩
  rw [hps] at hrn
  clear hr0 hps
  have hlp := nums_len hrn
  have nI : (0 : Int) ≤ (n : Int) := Int.natCast_nonneg _
  have nc : (n : Int) ≤ (cap : Int) := by omega
  go_enter Try.func5, Try.ntmps5
  go_wp2_with fail
  refine (awake_any w).mono ?_
  rintro e w1 ⟨rfl, hb1⟩
  go_wp2_with fail
  refine (clone64_any A n cap ps w1 (by omega) (hrn.lift hb1)).mono ?_
  rintro e w2 ⟨A2, c2, rfl, hown, hb2⟩
  rw [hlp] at hown ⊢
  have hB2 := bto hb1 hb2
  have ho2 := own_base hown hb1.size
  have hbk : ∀ q, (Value.slice A2 n c2).ownBlock = some q → q < w2.heap.size := fun q hq => (own_in hown hq).2
  clear hown hn1' hrn hb1 hb2
  go_wp2_with fail
  refine (ql_new n w2 (by omega)).mono ?_
  rintro e w3 ⟨⟨g, rfl, hq3⟩, hb3⟩
  rw [Int.toNat_natCast] at hq3
  obtain ⟨B, hBe⟩ : ∃ B, w2.heap.size = B := ⟨_, rfl⟩
  rw [hBe] at hq3 hb3 hbk
  have hBw : w.heap.size ≤ B := by rw [← hBe]; exact hB2.size
  have hB3 := hB2.trans (hb3.mono hBw)
  have ho3 := (Tch.of_base hb3).own ho2 fun q hq h => by have := hbk q hq; omega
  have hz3 : B ≤ w3.heap.size := by rw [← hBe]; exact hb3.size
  have HLP := Lib.hid hlp
  clear hBe hB2 ho2 hb3 hlp
  go_wp2_with fail
  go_loopw [33] (fun iv wr => ∃ (i : Nat) (L : List It), i ≤ n ∧ iv = .int .i64 i ∧ QB wr g B n L ∧ Has_ ps L i ∧ L.length = i ∧ wr.ownsRow w.heap.size 2 1 (.slice A2 n c2) n (nums ps) ∧ Below w.heap.size w wr ∧ B ≤ wr.heap.size) (fun iv _ => n - (intOf iv).toNat)
  case atStart => exact ⟨0, [], by omega, rfl, hq3, has_zero _, rfl, ho3, hB3, hz3⟩
  case round =>
    clear hq3 ho3 hB3 hz3
    obtain ⟨i, L, hi, rfl, hq, hh, hll, ho, hB, hz⟩ := hrel
    by_cases hlt : i < n
    · obtain ⟨ad, p, rfl, _, hp, hc⟩ := (Reads.of_own ho).num hlt
      obtain ⟨he, hh2⟩ := has_next hh hp
      have hl2 : Hid (((p, (i : Int)) :: L.filter fun a => decide (a.2 ≠ (i : Int))).length = i + 1) := by show _ = _; rw [he, List.length_cons, hll]
      have hpu := qb_push hq i p hlt (by omega) hz
      clear hp he hll hh
      go_wp2_with fail
      refine hpu.mono ?_
      rintro e w4 ⟨rfl, hq4, hb4⟩
      go_wp2_with fail
      go_roundw
      case rel => exact ⟨i + 1, _, by omega, by go_num, hq4, hh2, hl2.out, (Tch.of_base hb4).own ho (fun q hq h => by have := hbk q hq; omega), hB.trans (hb4.mono hBw), Nat.le_trans hz hb4.size⟩
      case measure => simp [intOf]; omega
    · obtain rfl : n = i := by omega
      have HLL := Lib.hid hll
      clear hll hlt hi
      go_wp2_with fail
      go_loopw [45] (fun iv wr => ∃ (i : Nat) (L : List It) (ps : List Int), i ≤ m ∧ iv = .int .i64 i ∧ QB wr g B n L ∧ Has_ ps L n ∧ L.length = n ∧ ps.length = n ∧ wr.ownsRow w.heap.size 2 1 (.slice A2 n c2) n (nums ps) ∧ Below w.heap.size w wr ∧ B ≤ wr.heap.size) (fun iv _ => m - (intOf iv).toNat)
      case atStart => exact ⟨0, L, ps, by omega, rfl, hq, hh, HLL.out, HLP.out, ho, hB, hz⟩
      case round =>
        clear hq hh ho hB hz
        obtain ⟨i, L, ps, hi, rfl, hq, hh, hll, hlp, ho, hB, hz⟩ := hrel
        by_cases hlt : i < m
        · obtain ⟨ad, u, rfl, _, hu, hc⟩ := (ha0.below hB).at_ hlt
          obtain ⟨a, hau, rfl⟩ : ∃ a, az[i]? = some a ∧ u = .int .u8 a := by
            rw [List.getElem?_map] at hu
            cases hq' : az[i]? with
            | none => rw [hq'] at hu; simp at hu
            | some a => rw [hq'] at hu; simp at hu; exact ⟨a, rfl, hu.symm⟩
          obtain ⟨a, rfl, ha⟩ := wf_u8 (hwf a (List.mem_of_getElem? hau))
          clear hu hau
          by_cases h30 : i < 30
          · by_cases hn0 : 0 < n
            · obtain ⟨x, hx⟩ : ∃ x, a % n = x := ⟨_, rfl⟩
              obtain ⟨y, hy⟩ : ∃ y, (x + i) % n = y := ⟨_, rfl⟩
              have hxn : x < n := by rw [← hx]; exact Nat.mod_lt _ hn0
              have hyn : y < n := by rw [← hy]; exact Nat.mod_lt _ hn0
              have hxI : (a : Int) % (n : Int) = (x : Int) := by rw [← hx]; rfl
              have hyI : ((x : Int) + (i : Int)) % (n : Int) = (y : Int) := by rw [← hy]; rfl
              obtain ⟨r0, rfl, hr0, _⟩ := own_some ho hn0
              have hrB := hbk r0 rfl
              have hyp : ps[y]? = some (ps[y]'(by omega)) := List.getElem?_eq_getElem (by omega)
              have hxp : ps[x]? = some (ps[x]'(by omega)) := List.getElem?_eq_getElem (by omega)
              obtain ⟨v, hv⟩ : ∃ v, ps[y]'(by omega) = v := ⟨_, rfl⟩
              obtain ⟨v', hv'⟩ : ∃ v, ps[x]'(by omega) = v := ⟨_, rfl⟩
              rw [hv] at hyp
              rw [hv'] at hxp
              have cy : wr.cell? ⟨r0, y, none⟩ = some (.int .i64 v) := (ho.cellAt y (by omega)).trans (by unfold nums; rw [List.getElem?_map, hyp]; rfl)
              have cx : wr.cell? ⟨r0, x, none⟩ = some (.int .i64 v') := (ho.cellAt x (by omega)).trans (by unfold nums; rw [List.getElem?_map, hxp]; rfl)
              have fx := ho.frozenAt x
              have hst := (ho.stored x (.int .i64 v)).1
              have hset : (nums ps).set x (.int .i64 v) = nums (ps.set x v) := by unfold nums; rw [List.map_set]
              rw [hset] at hst
              have hS : Tch wr (wr.setCell ⟨r0, x, none⟩ (.int .i64 v)) (· = r0) := Tch.set_ wr _ rfl
              have hq2 : QB (wr.setCell ⟨r0, x, none⟩ (.int .i64 v)) g B n L := hq.keep hS fun k hk e => by omega
              have hB2 := hB.setCell (p := ⟨r0, x, none⟩) hr0 (.int .i64 v)
              have hpu := qb_push hq2 x v hxn (by omega) (by simpa using hz)
              have hfl := filt_len hq.val.nd ((hh (v', (x : Int))).2 ⟨x, hxn, hxp, rfl⟩ |> fun h => ⟨_, h, rfl⟩)
              dsimp only at hfl
              have HF : Hid (((v, (x : Int)) :: L.filter fun a => decide (a.2 ≠ (x : Int))).length = n) := by show _ = _; rw [List.length_cons]; exact hfl.trans hll
              have HH := Lib.hid (has_put (v := v) hh hxn hlp)
              have HP : Hid ((ps.set x v).length = n) := by show _ = _; rw [List.length_set]; exact hlp
              clear hx hy hyp hxp hv hv' hset hfl hll hlp hh hq hq2 ho
              go_wp2_with fail
              refine hpu.mono ?_
              rintro e w4 ⟨rfl, hq4, hb4⟩
              go_wp2_with fail
              go_roundw
              case rel => exact ⟨i + 1, _, ps.set x v, by omega, by go_num, hq4, HH.out, HF.out, HP.out, (Tch.of_base hb4).own hst (fun q hq h => by have := hbk q hq; omega), hB2.trans (hb4.mono hBw), Nat.le_trans (by simpa using hz) hb4.size⟩
              case measure => simp [intOf]; omega
            · have HLL := Lib.hid hll
              have HLP := Lib.hid hlp
              clear hll hlp
              go_wp2_with fail
              go_roundw
              case rel => exact ⟨i + 1, L, ps, by omega, by go_num, hq, hh, HLL.out, HLP.out, ho, hB, hz⟩
              case measure => simp [intOf]; omega
          · have HLL := Lib.hid hll
            have HLP := Lib.hid hlp
            clear hll hlp
            go_wp2_with fail
            go_roundw
            case rel => exact ⟨i + 1, L, ps, by omega, by go_num, hq, hh, HLL.out, HLP.out, ho, hB, hz⟩
            case measure => simp [intOf]; omega
        · have HLL := Lib.hid hll
          have hsub : ∀ b ∈ L, ∃ j : Nat, j < n ∧ ps[j]? = some b.1 ∧ b.2 = j := fun b hb => (hh b).1 hb
          clear hll hlp hh
          go_wp2_with fail
          clear hlt hi
          go_loopw [11, 12, 84] (fun lv av kv wr => ∃ (k : Nat) (L : List It) (l a : Int), k ≤ n ∧ kv = .int .i64 k ∧ lv = .int .i64 l ∧ av = .int .i64 a ∧ QB wr g B n L ∧ (∀ b ∈ L, ∃ j : Nat, j < n ∧ ps[j]? = some b.1 ∧ b.2 = j) ∧ L.length + k = n ∧ (0 < k → ∀ b ∈ L, lt (l, a) b) ∧ wr.ownsRow w.heap.size 2 1 (.slice A2 n c2) n (nums ps) ∧ Below w.heap.size w wr ∧ B ≤ wr.heap.size) (fun _ _ kv _ => n - (intOf kv).toNat)
          case atStart => exact ⟨0, L, 0, -1, by omega, rfl, rfl, rfl, hq, hsub, by have := HLL.out; omega, fun h => by omega, ho, hB, hz⟩
          case round =>
            clear hq hsub ho hB hz
            obtain ⟨k, L, l, a, hk, rfl, rfl, rfl, hq, hsub, hll, hgt, ho, hB, hz⟩ := hrel
            by_cases hlt : k < n
            · obtain ⟨mm, hm'⟩ := most_ex L (fun e => by subst e; simp at hll; omega)
              obtain ⟨j, hj, hpj, hmj⟩ := hsub mm hm'.1
              obtain ⟨p, x⟩ := mm
              dsimp only at hpj hmj
              subst hmj
              obtain ⟨r0, rfl, hr0, _⟩ := own_some ho (by omega : 0 < n)
              have hpo := qb_pop hq hm' (by omega) hz
              have hfl := filt_len hq.val.nd ⟨_, hm'.1, rfl⟩
              dsimp only at hpo hfl
              have hnx : ∀ b ∈ L.filter (fun a => decide (a.2 ≠ (j : Int))), lt (p, (j : Int)) b := fun b hb => by
                obtain ⟨h1, h2⟩ := List.mem_filter.1 hb
                have h3 := hm'.2 b h1
                simp at h2
                unfold lt at h3 ⊢; dsimp only at h3 ⊢; omega
              have hni : inQ (L.filter fun a => decide (a.2 ≠ (j : Int))) (j : Int) = false := by
                cases hc : inQ (L.filter fun a => decide (a.2 ≠ (j : Int))) (j : Int) with
                | false => rfl
                | true =>
                  obtain ⟨b, hb, he⟩ := (inQ_iff _ _).1 hc
                  have := (List.mem_filter.1 hb).2
                  simp at this; exact absurd he this
              have hsub2 : ∀ b ∈ L.filter (fun a => decide (a.2 ≠ (j : Int))), ∃ i : Nat, i < n ∧ ps[i]? = some b.1 ∧ b.2 = i := fun b hb => hsub b (List.mem_filter.1 hb).1
              have HFL : Hid ((L.filter fun a => decide (a.2 ≠ (j : Int))).length + (k + 1) = n) := by show _ = _; omega
              have hgm : 0 < k → lt (l, a) (p, (j : Int)) := fun h => hgt h _ hm'.1
              have j0 : (0 : Int) ≤ (j : Int) := Int.natCast_nonneg _
              have j1 : (j : Int) < (n : Int) := by omega
              have cj : Hid (∀ w', Below B wr w' → w'.cell? ⟨r0, j, none⟩ = some (.int .i64 p)) := fun w' hb => by
                have o' := (Tch.of_base hb).own ho (fun q hq h => by have := hbk q hq; omega)
                exact (o'.cellAt j (by omega)).trans (by unfold nums; rw [List.getElem?_map, hpj]; rfl)
              have hpp : (p != p) = false := by simp
              have HHK : Hid (∀ w', QB w' g B n (L.filter fun a => decide (a.2 ≠ (j : Int))) → Calls Try.prog 16 #[.pointer (some ⟨g, 0, none⟩), .int .i64 j] w' fun e w'' => e = .returned (.bool false) ∧ w' = w'') := fun w' hq' => by
                have := ql_has hq' (j : Int) (by omega)
                rwa [hni] at this
              clear hfl hm' hgt hsub hll hq hpj hni
              go_wp2_with fail
              refine hpo.mono ?_
              rintro e w4 ⟨rfl, hq4, hb4⟩
              have cj4 := cj.out _ hb4
              have hhas := HHK.out _ hq4
              have ho4 := (Tch.of_base hb4).own ho (fun q hq h => by have := hbk q hq; omega)
              have hB4 := hB.trans (hb4.mono hBw)
              have hz4 := Nat.le_trans hz hb4.size
              clear ho hB hz cj HHK hpo hb4
              by_cases hk0 : 0 < k
              · have hg := hgm hk0
                clear hgm
                by_cases hlp' : l < p
                · have e1 : ¬ p < l := by omega
                  have e2 : (p == l) = false := by simp; omega
                  clear hg
                  go_wp2_with (first | (go_at_call 16; (with_reducible refine hhas.mono ?_); rintro e w' ⟨rfl, rfl⟩) | fail)
                  go_roundw
                  case rel => exact ⟨k + 1, _, p, (j : Int), by omega, by go_num, rfl, rfl, hq4, hsub2, HFL.out, fun _ => hnx, ho4, hB4, hz4⟩
                  case measure => simp [intOf]; omega
                · have hge : l = p ∧ a < (j : Int) := by unfold lt at hg; dsimp only at hg; omega
                  obtain ⟨rfl, haj⟩ := hge
                  have e1 : (l == l) = true := by simp
                  clear hg
                  go_wp2_with (first | (go_at_call 16; (with_reducible refine hhas.mono ?_); rintro e w' ⟨rfl, rfl⟩) | fail)
                  go_roundw
                  case rel => exact ⟨k + 1, _, l, (j : Int), by omega, by go_num, rfl, rfl, hq4, hsub2, HFL.out, fun _ => hnx, ho4, hB4, hz4⟩
                  case measure => simp [intOf]; omega
              · clear hgm
                go_wp2_with (first | (go_at_call 16; (with_reducible refine hhas.mono ?_); rintro e w' ⟨rfl, rfl⟩) | fail)
                go_roundw
                case rel => exact ⟨k + 1, _, p, (j : Int), by omega, by go_num, rfl, rfl, hq4, hsub2, HFL.out, fun _ => hnx, ho4, hB4, hz4⟩
                case measure => simp [intOf]; omega
            · obtain rfl : L = [] := List.length_eq_zero_iff.1 (by omega)
              have hpo := ql_pop_none hq
              clear hll hsub hgt
              go_wp2_with fail
              refine hpo.mono ?_
              rintro e w4 ⟨rfl, hb4⟩
              have hle := ql_len (hq.below hb4)
              go_wp2_with (first | (go_at_call 12; (with_reducible refine hle.mono ?_); rintro e w' ⟨rfl, rfl⟩) | fail)
              go_ret
              exact ⟨rfl, bto hB hb4⟩
theorem walk (a0 : Option Addr) (len0 cap0 : Nat) (z0 : List Int) (a1 : Option Addr) (len1 cap1 : Nat) (z1 : List Int) (w : World) (w0 : z0.length = len0 ∧ Reads w w.heap.size 1 a0 len0 (z0.map (Value.int .i64)) ∧ (∀ x ∈ z0, (Lit.int .i64 x).wf = true) ∧ len0 ≤ cap0 ∧ len0 ≤ 9223372036854775807) (w1 : z1.length = len1 ∧ Reads w w.heap.size 1 a1 len1 (z1.map (Value.int .u8)) ∧ (∀ x ∈ z1, (Lit.int .u8 x).wf = true) ∧ len1 ≤ cap1 ∧ len1 ≤ 9223372036854775807) :
    Calls Try.prog 5 #[.slice a0 len0 cap0, .slice a1 len1 cap1] w fun e w' => e = .returned (.bool true) ∧ Below w.heap.size w w' := by
  obtain ⟨_, hr, _, hc, hl⟩ := w0
  obtain ⟨_, ha, hwf, _, hm⟩ := w1
  exact core a0 a1 len0 cap0 len1 cap1 z0 z1 w hl hm hc hr ha hwf

set_option maxRecDepth 100000 in
theorem lifted (os : Os) (started : os.Started) (H : Type) (enc : TypeId × Value → H) :
    ReturnsInHanded {} Try.checked os 5 .any (Rows.queueSortsSpec.pre6 enc Try.prog Try.f5 Rows.queueSortsRow.domain false) (Rows.queueSortsSpec.post enc Try.prog Try.f5 false true false false) := by
  refine returnsInHanded_of_change (C := Try.checked) own started (by kernel_rfl) Try.func5
    (ChangeSpec.witness6 (enc := enc) (C := Try.checked) false ⟨#[], #[.slice none 0 0, .slice none 0 0], []⟩ 8 (by kernel_rfl) (by kernel_rfl) (by kernel_rfl) (by kernel_rfl)) ?_
  intro W base args ds gs before hval0 hW hcnd _
  have hval : ∀ (j : Nat) t v, Try.f5.params[j]? = some t → args[j]? = some v → Value.okWide Try.prog W .any base t v := hval0
  have hW' := hW
  obtain ⟨p, q, hA0, hV, rfl, hfz, hnd⟩ := hW
  have hA : DataW.TrodAll enc Try.prog W 0 (fun _ => true) true Try.f5.params.toList args.toList ds p := hA0
  rw [Try.params5] at hA hval
  obtain ⟨v0, vs0, d0, ds0, p0, q0, hargs, rfl, rfl, h0, r0⟩ := trodAll_cons hA
  obtain ⟨v1, vs1, d1, ds1, p1, q1, rfl, rfl, rfl, h1, r1⟩ := trodAll_cons r0
  obtain ⟨rfl, rfl, rfl⟩ := trodAll_nil r1
  obtain rfl : args = #[v0, v1] := by cases args; simp_all
  obtain ⟨rfl, rfl⟩ := trodVars_none hV
  obtain ⟨a0, len0, cap0, rfl⟩ := okWide_slice Try.underlying38 (hval 0 38 v0 rfl rfl)
  have k0 := h0
  have lt0 : ∀ x ∈ p0, x.block < W.heap.size := by obtain ⟨m, hm⟩ := k0; exact DataW.trod_lt m _ _ _ hm
  obtain ⟨z0, w0⟩ := open_ones (Value.int .i64) (fun x => (Lit.int .i64 x).wf = true) Try.underlying38 (by kernel_rfl) (dec_int Try.underlying2) h0
  obtain ⟨a1, len1, cap1, rfl⟩ := okWide_slice Try.underlying23 (hval 1 23 v1 rfl rfl)
  have k1 := h1
  have lt1 : ∀ x ∈ p1, x.block < W.heap.size := by obtain ⟨m, hm⟩ := k1; exact DataW.trod_lt m _ _ _ hm
  obtain ⟨z1, w1⟩ := open_ones (Value.int .u8) (fun x => (Lit.int .u8 x).wf = true) Try.underlying23 (by kernel_rfl) (dec_int Try.underlying5) h1
  clear hA0 hval0
  refine (walk a0 len0 cap0 z0 a1 len1 cap1 z1 W w0 w1).mono fun e W' ⟨he, bel⟩ => ?_
  subst he
  exact ⟨_, rfl, _, _, _, [], _, [], hW', trodAll_mk1 (shut_bool Try.underlying4 _), (trodAll_cons_mk (Below.trod laidOut (by kernel_rfl) (of_decide_eq_true (by kernel_rfl)) k0 bel lt0) (trodAll_cons_mk (Below.trod laidOut (by kernel_rfl) (of_decide_eq_true (by kernel_rfl)) k1 bel lt1) trodAll_mk0)), rfl, bel.frame _, fun h => by cases h⟩
theorem over : Rows.queueSortsRow.holds Try.pinned (OpenSpec.ofChange Rows.queueSortsSpec) :=
  OpenClaim.holds_of_wide 5 Try.f5 rfl rfl rfl rfl rfl rfl rfl ⟨rfl, rfl, rfl, rfl, rfl⟩ rfl rfl rfl rfl rfl (by kernel_rfl) Try.func5 (by kernel_rfl)
    (of_decide_eq_true (by kernel_rfl)) (by unfold Func.isWrapper; first | (rw [if_pos (by decide +kernel)]; kernel_rfl) | (rw [if_neg (by decide +kernel)]; exact ⟨rfl, rfl⟩))
    (fun os started H enc _ => lifted os started H enc)
theorem proved : Rows.QueueSortsSaid := over
end Go.Proofs.Ythjfboecdhlnfaa.queueSorts
