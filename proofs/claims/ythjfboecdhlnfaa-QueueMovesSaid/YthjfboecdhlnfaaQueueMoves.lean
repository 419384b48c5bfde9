/- For every input QueueMoves returns true; its arguments read as before. No condition. -/
import Derived.Test.YthjfboecdhlnfaaRows
import Derived.WalkKit
import Derived.ProofKit
import Derived.OpenShut
import Derived.ShutString
import Derived.ChangeOld
import Derived.Below
import Derived.Test.YthjfboecdhlnfaaOpen
import Derived.Test.YthjfboecdhlnfaaQuTwo
import Derived.Test.YthjfboecdhlnfaaI64Clone
import Derived.Deep.LoopGhost
namespace Go.Proofs.Ythjfboecdhlnfaa.queueMoves
open Go.Proofs.Ythjfboecdhlnfaa.que Go.Proofs.Ythjfboecdhlnfaa.words
open Go.ChangeShapes Go.WideShapes Go.ChangeAt Go.RowKit
open Go.ChangeMaps (open_string shut_string)
set_option linter.unusedVariables false
theorem own : ownKnob Try.prog.godebug = none := by kernel_rfl
theorem laidOut : laidOutB Try.prog = true := by kernel_rfl
theorem Tch.of_base {a b : World} {B : Nat} (h : Below B a b) : Tch a b (fun k => B ≤ k) := ⟨h.os, h.tape, h.output, h.size, fun i hi hn => h.block i (by omega)⟩
/-- of the first i numbers those that pass P wait, each with its own -/
def Some_ (P : Nat → Prop) (ps : List Int) (L : List It) (i : Nat) : Prop := ∀ a : It, a ∈ L ↔ ∃ j : Nat, j < i ∧ P j ∧ ps[j]? = some a.1 ∧ a.2 = j
theorem some_zero (P : Nat → Prop) (ps : List Int) : Some_ P ps [] 0 := fun a => ⟨(fun h => by cases h), (fun ⟨j, h, _⟩ => by omega)⟩
theorem some_next {P : Nat → Prop} {ps : List Int} {L : List It} {i : Nat} {p : Int} (h : Some_ P ps L i) (hp : ps[i]? = some p) (hP : P i) : Some_ P ps ((p, (i : Int)) :: L.filter fun a => decide (a.2 ≠ (i : Int))) (i + 1) := by
  have e : L.filter (fun a => decide (a.2 ≠ (i : Int))) = L := List.filter_eq_self.2 fun a ha => by
    obtain ⟨j, hj, _, _, h2⟩ := (h a).1 ha
    simp; omega
  intro a
  rw [e, List.mem_cons, h a]
  constructor
  · rintro (rfl | ⟨j, h1, h2, h3⟩)
    · exact ⟨i, by omega, hP, hp, rfl⟩
    · exact ⟨j, by omega, h2, h3⟩
  · rintro ⟨j, h1, h2, h3, h4⟩
    by_cases hji : j = i
    · subst hji
      left
      rw [hp] at h3
      exact Prod.ext (Option.some.inj h3).symm h4
    · exact .inr ⟨j, by omega, h2, h3, h4⟩
theorem some_skip {P : Nat → Prop} {ps : List Int} {L : List It} {i : Nat} (h : Some_ P ps L i) (hP : ¬ P i) : Some_ P ps L (i + 1) := by
  intro a
  rw [h a]
  constructor
  · rintro ⟨j, h1, h2⟩; exact ⟨j, by omega, h2⟩
  · rintro ⟨j, h1, h2, h3⟩
    by_cases e : j = i
    · subst e; exact absurd h2 hP
    · exact ⟨j, by omega, h2, h3⟩
theorem most_ex : ∀ (L : List It), L ≠ [] → ∃ m, Most L m
  | [], h => absurd rfl h
  | [a], _ => ⟨a, by simp, fun b hb => by simp at hb; subst hb; exact lt_irrefl _⟩
  | a :: b :: L, _ => by
    obtain ⟨m, h1, h2⟩ := most_ex (b :: L) (by simp)
    by_cases hl : lt a m
    · refine ⟨a, by simp, fun c hc => ?_⟩
      rcases List.mem_cons.1 hc with rfl | hc
      · exact lt_irrefl _
      · exact le_trans (lt_asymm hl) (h2 c hc)
    · refine ⟨m, List.mem_cons_of_mem _ h1, fun c hc => ?_⟩
      rcases List.mem_cons.1 hc with rfl | hc
      · exact hl
      · exact h2 c hc
theorem filt_lt {m : It} {L : List It} (hm : m ∈ L) : (L.filter fun a => decide (a.2 ≠ m.2)).length < L.length :=
  List.length_filter_lt_length_iff_exists.2 ⟨m, hm, by simp⟩
/-- both have the same, but that one has (p, i) besides, if f says so -/
def Alike_ (p : Int) (i : Nat) (f : Bool) (La Lb : List It) : Prop := (∀ c : It, c ∈ La ↔ (f = true ∧ c = (p, (i : Int))) ∨ c ∈ Lb) ∧ ∀ c ∈ Lb, c.2 ≠ (i : Int)
theorem alike_pop {p : Int} {i : Nat} {f : Bool} {La Lb : List It} {m : It} (h : Alike_ p i f La Lb) (hm : m.2 ≠ (i : Int)) :
    Alike_ p i f (La.filter fun a => decide (a.2 ≠ m.2)) (Lb.filter fun a => decide (a.2 ≠ m.2)) := by
  refine ⟨fun c => ?_, fun c hc => h.2 c (List.mem_filter.1 hc).1⟩
  rw [List.mem_filter, List.mem_filter, h.1 c]
  constructor
  · rintro ⟨h1 | h1, h2⟩
    · exact .inl h1
    · exact .inr ⟨h1, h2⟩
  · rintro (⟨h1, rfl⟩ | ⟨h1, h2⟩)
    · exact ⟨.inl ⟨h1, rfl⟩, by simpa using fun e => hm e.symm⟩
    · exact ⟨.inr h1, h2⟩
theorem alike_it {p : Int} {i : Nat} {f : Bool} {La Lb : List It} (h : Alike_ p i f La Lb) :
    Alike_ p i false (La.filter fun a => decide (a.2 ≠ (i : Int))) Lb := by
  refine ⟨fun c => ?_, h.2⟩
  rw [List.mem_filter, h.1 c]
  constructor
  · rintro ⟨⟨_, rfl⟩ | h1, h2⟩
    · simp at h2
    · exact .inr h1
  · rintro (⟨h1, _⟩ | h1)
    · cases h1
    · exact ⟨.inr h1, by simpa using h.2 c h1⟩
set_option maxRecDepth 100000 in
set_option maxHeartbeats 8000000 in
theorem core (A : Option Addr) (n0 cap u : Nat) (ps0 : List Int) (p : Int) (w : World) (hn : n0 ≤ 9223372036854775807) (hu : u < 256) (hnc : n0 ≤ cap) (hr0 : Reads w w.heap.size 1 A n0 (nums ps0)) :
    Calls Try.prog 6 #[.slice A n0 cap, .int .u8 u, .int .i64 p] w fun e w' => e = .returned (.bool true) ∧ Below w.heap.size w w' := by
  obtain ⟨n, hn1, n1, n2, -⟩ := min_nat n0 30
  have hn1' : (if (30 : Int) < (n0 : Int) then (30 : Int) else (n0 : Int)) = (n : Int) := hn1
  clear hn1
  have hrn : Reads w w.heap.size 1 A n (nums (ps0.take n)) := by
    have := hr0.take_ n1; unfold nums at this ⊢; rwa [List.map_take]
  obtain ⟨ps, hps⟩ : ∃ ps, ps0.take n = ps := ⟨_, rfl⟩
  rw [hps] at hrn
  clear hr0 hps
  have hlp := nums_len hrn
  have nI : (0 : Int) ≤ (n : Int) := Int.natCast_nonneg _
  have nc : (n : Int) ≤ (cap : Int) := by omega
  go_enter Try.func6, Try.ntmps6
  go_wp2_with fail
  refine (awake_any w).mono ?_
  rintro e w1 ⟨rfl, hb1⟩
  go_wp2_with fail
  refine (clone64_any A n cap ps w1 (by omega) (hrn.lift hb1)).mono ?_
  rintro e w2 ⟨A2, c2, rfl, hown, hb2⟩
  rw [hlp] at hown ⊢
  have hB2 := bto hb1 hb2
  have ho2 := own_base hown hb1.size
  have hbk : ∀ q, (Value.slice A2 n c2).ownBlock = some q → q < w2.heap.size := fun q hq => (own_in hown hq).2
  clear hown hn1' hrn hb1 hb2
  by_cases hn0 : 0 < n
  · obtain ⟨i, hi⟩ : ∃ i, u % n = i := ⟨_, rfl⟩
    have hin : i < n := by rw [← hi]; exact Nat.mod_lt _ hn0
    have hiI : (u : Int) % (n : Int) = (i : Int) := by rw [← hi]; rfl
    have nb : ((n : Int) == 0) = false := by simp; omega
    clear hi
    go_wp2_with fail
    refine (ql_new n w2 (by omega)).mono ?_
    rintro e w3 ⟨⟨ga, rfl, hqa⟩, hb3⟩
    go_wp2_with fail
    refine (ql_new n w3 (by omega)).mono ?_
    rintro e w4 ⟨⟨gb, rfl, hqb⟩, hb4⟩
    rw [Int.toNat_natCast] at hqa hqb
    obtain ⟨B, hBe⟩ : ∃ B, w2.heap.size = B := ⟨_, rfl⟩
    have hBw : w.heap.size ≤ B := by rw [← hBe]; exact hB2.size
    have ht4 := two_new (B := B) (Nat.le_of_eq hBe.symm) hqa hqb hb4 hb3.size
    have hb24 : Below B w2 w4 := by rw [← hBe]; exact bto hb3 hb4
    rw [hBe] at hbk
    have hB4 := hB2.trans (hb24.mono hBw)
    have ho4 := (Tch.of_base hb24).own ho2 fun q hq h => by have := hbk q hq; omega
    have hz4 : B ≤ w4.heap.size := by rw [← hBe]; exact hb24.size
    have HLP := Lib.hid hlp
    clear hBe hB2 ho2 hb3 hb4 hb24 hqa hqb hlp hiI nb
    go_wp2_with fail
    go_loopw [48] (fun jv wr => ∃ (j : Nat) (La Lb : List It), j ≤ n ∧ jv = .int .i64 j ∧ Two wr B ga gb n La Lb ∧ Some_ (fun _ => True) ps La j ∧ Some_ (fun k => k ≠ i) ps Lb j ∧ La.length ≤ j ∧ Lb.length ≤ j ∧ wr.ownsRow w.heap.size 2 1 (.slice A2 n c2) n (nums ps) ∧ Below w.heap.size w wr ∧ B ≤ wr.heap.size) (fun jv _ => n - (intOf jv).toNat)
    case atStart => exact ⟨0, [], [], by omega, rfl, ht4, some_zero _ _, some_zero _ _, Nat.le_refl _, Nat.le_refl _, ho4, hB4, hz4⟩
    case round =>
      clear ht4 ho4 hB4 hz4
      obtain ⟨j, La, Lb, hj, rfl, ht, hsa, hsb, hla, hlb, ho, hB, hz⟩ := hrel
      by_cases hlt : j < n
      · obtain ⟨ad, y, rfl, _, hy, hc⟩ := (Reads.of_own ho).num hlt
        have hsa2 := some_next hsa hy trivial
        have hla2 : ((y, (j : Int)) :: La.filter fun a => decide (a.2 ≠ (j : Int))).length ≤ j + 1 := by
          rw [List.length_cons]; exact Nat.succ_le_succ (Nat.le_trans (List.length_filter_le _ _) hla)
        have hpa := two_push ht j y hlt (by omega) hz
        by_cases hji : j = i
        · have hsb2 := some_skip hsb (show ¬ j ≠ i by omega)
          have hne : ((j : Int) != (i : Int)) = false := by simp; omega
          have hne2 : ((j : Int) == (i : Int)) = true := by simp; omega
          clear hji hy hsa hsb ht
          go_wp2_with fail
          refine hpa.mono ?_
          rintro e w5 ⟨rfl, ht5, hb5⟩
          go_wp2_with fail
          go_roundw
          case rel => exact ⟨j + 1, _, Lb, by omega, by go_num, ht5, hsa2, hsb2, hla2, by omega, (Tch.of_base hb5).own ho (fun q hq h => by have := hbk q hq; omega), hB.trans (hb5.mono hBw), Nat.le_trans hz hb5.size⟩
          case measure => simp [intOf]; omega
        · have hsb2 := some_next hsb hy hji
          have hlb2 : ((y, (j : Int)) :: Lb.filter fun a => decide (a.2 ≠ (j : Int))).length ≤ j + 1 := by
            rw [List.length_cons]; exact Nat.succ_le_succ (Nat.le_trans (List.length_filter_le _ _) hlb)
          have hne : ((j : Int) != (i : Int)) = true := by simp; omega
          have hne2 : ((j : Int) == (i : Int)) = false := by simp; omega
          have hlb' : Lb.length < 999999 := by omega
          clear hy hsa hsb ht
          go_wp2_with fail
          refine hpa.mono ?_
          rintro e w5 ⟨rfl, ht5, hb5⟩
          go_wp2_with fail
          refine (two_push ht5.swap j y hlt hlb' (Nat.le_trans hz hb5.size)).mono ?_
          rintro e w6 ⟨rfl, ht6, hb6⟩
          have hb56 := hb5.trans hb6
          go_wp2_with fail
          go_roundw
          case rel => exact ⟨j + 1, _, _, by omega, by go_num, ht6.swap, hsa2, hsb2, hla2, hlb2, (Tch.of_base hb56).own ho (fun q hq h => by have := hbk q hq; omega), hB.trans (hb56.mono hBw), Nat.le_trans hz hb56.size⟩
          case measure => simp [intOf]; omega
      · obtain rfl : n = j := by omega
        have hpa := two_push ht i p hin (by omega) hz
        have hal : Alike_ p i true ((p, (i : Int)) :: La.filter fun a => decide (a.2 ≠ (i : Int))) Lb := by
          refine ⟨fun c => ?_, fun c hc => ?_⟩
          · rw [List.mem_cons, List.mem_filter, hsa c, hsb c]
            constructor
            · rintro (h | ⟨⟨j, h1, _, h2, h3⟩, h4⟩)
              · exact .inl ⟨rfl, h⟩
              · refine .inr ⟨j, h1, fun e => ?_, h2, h3⟩
                simp at h4; omega
            · rintro (⟨_, h⟩ | ⟨j, h1, h2, h3, h4⟩)
              · exact .inl h
              · exact .inr ⟨⟨j, h1, trivial, h3, h4⟩, by simp; omega⟩
          · obtain ⟨j, _, h2, _, h4⟩ := (hsb c).1 hc
            omega
        have hlen : ((p, (i : Int)) :: La.filter fun a => decide (a.2 ≠ (i : Int))).length ≤ 1000 := by
          rw [List.length_cons]; exact Nat.le_trans (Nat.succ_le_succ (Nat.le_trans (List.length_filter_le _ _) hla)) (by omega)
        clear hlt hj hsa hsb ht hla ho
        go_wp2_with fail
        refine hpa.mono ?_
        rintro e w5 ⟨rfl, ht5, hb5⟩
        have hB5 := hB.trans (hb5.mono hBw)
        have hz5 := Nat.le_trans hz hb5.size
        clear hpa hB hz hb5
        go_wp2_with fail
        go_loopg [12] ((p, (i : Int)) :: La.filter fun a => decide (a.2 ≠ (i : Int))).length (fun gk _ wr => ∃ (La Lb : List It) (f : Bool), La.length ≤ gk ∧ La.length ≤ 1000 ∧ Lb.length ≤ n ∧ Alike_ p i f La Lb ∧ Two wr B ga gb n La Lb ∧ Below w.heap.size w wr ∧ B ≤ wr.heap.size)
        case atStart => exact ⟨_, Lb, true, Nat.le_refl _, hlen, hlb, hal, ht5, hB5, hz5⟩
        case round =>
          clear hlen hlb hal ht5 hB5 hz5
          obtain ⟨La, Lb, f, hlg, hl1, hlb, hal, ht, hB, hz⟩ := hrel
          have hle := two_len ht
          by_cases hne : La = []
          · subst hne
            have hlb0 : Lb = [] := by
              cases Lb with
              | nil => rfl
              | cons c Lb => exact absurd ((hal.1 c).2 (.inr (by simp))) (by simp)
            subst hlb0
            have hle2 := two_len ht.swap
            clear hal hlg hl1 hlb
            go_wp2_with fail
            refine hle.mono ?_
            rintro e w6 ⟨rfl, rfl⟩
            go_wp2_with fail
            refine hle2.mono ?_
            rintro e w6 ⟨rfl, rfl⟩
            go_wp2_with fail
            go_ret
            exact ⟨rfl, hB⟩
          · obtain ⟨⟨y, x⟩, hm⟩ := most_ex La hne
            have hpos : 0 < La.length := List.length_pos_of_mem hm.1
            have hfl := filt_lt hm.1
            have hpo := two_pop ht hm (by omega) hz
            dsimp only at hpo hfl
            obtain ⟨gq, rfl⟩ : ∃ q, gk = q + 1 := ⟨gk - 1, by omega⟩
            obtain ⟨la, hla⟩ : ∃ l, La.length = l := ⟨_, rfl⟩
            rw [hla] at hle hlg hl1 hpos hfl
            clear hla hne ht
            by_cases hxi : x = (i : Int)
            · subst hxi
              obtain rfl : y = p := by
                rcases (hal.1 _).1 hm.1 with ⟨_, h⟩ | h
                · injection h
                · exact absurd rfl (hal.2 _ h)
              have hal2 := alike_it hal
              have htop : ∀ t, Most Lb t → ¬ lt t (y, (i : Int)) := fun t h => hm.2 t ((hal.1 t).2 (.inr h.1))
              have e1 : (y != y) = false := by simp
              have e2 : (y == y) = true := by simp
              clear hal hm
              go_wp2_with fail
              refine hle.mono ?_
              rintro e w6 ⟨rfl, rfl⟩
              go_wp2_with fail
              refine hpo.mono ?_
              rintro e w6 ⟨rfl, ht6, hb6⟩
              have hB6 := hB.trans (hb6.mono hBw)
              have hz6 := Nat.le_trans hz hb6.size
              clear hpo hle hB hz hb6
              by_cases hLb : Lb = []
              · subst hLb
                have hto := two_top_none ht6.swap
                go_wp2_with fail
                refine hto.mono ?_
                rintro e w7 ⟨rfl, hb7⟩
                go_wp2_with fail
                go_roundg gq
                case rel => exact ⟨_, [], false, by omega, by omega, by simp, hal2, ht6.below hb7, bto hB6 hb7, Nat.le_trans hz6 hb7.size⟩
                case measure => omega
              · obtain ⟨⟨z, k⟩, htm⟩ := most_ex Lb hLb
                have hto := two_top ht6.swap htm (by omega)
                have hnl := htop _ htm
                unfold lt at hnl
                dsimp only at hto hnl
                have f1 : ¬ z < y := by omega
                clear htop hLb htm
                by_cases hzy : z = y
                · subst hzy
                  have f2 : ¬ k < (i : Int) := by omega
                  clear hnl
                  go_wp2_with fail
                  refine hto.mono ?_
                  rintro e w7 ⟨rfl, hb7⟩
                  go_wp2_with fail
                  go_roundg gq
                  case rel => exact ⟨_, Lb, false, by omega, by omega, hlb, hal2, ht6.below hb7, bto hB6 hb7, Nat.le_trans hz6 hb7.size⟩
                  case measure => omega
                · have f2 : (z == y) = false := by simp [hzy]
                  clear hnl hzy
                  go_wp2_with fail
                  refine hto.mono ?_
                  rintro e w7 ⟨rfl, hb7⟩
                  go_wp2_with fail
                  go_roundg gq
                  case rel => exact ⟨_, Lb, false, by omega, by omega, hlb, hal2, ht6.below hb7, bto hB6 hb7, Nat.le_trans hz6 hb7.size⟩
                  case measure => omega
            · have hmb : Most Lb (y, x) := ⟨by
                rcases (hal.1 _).1 hm.1 with ⟨_, h⟩ | h
                · injection h with _ h; exact absurd h hxi
                · exact h, fun b hb => hm.2 b ((hal.1 b).2 (.inr hb))⟩
              have hal2 := alike_pop (m := (y, x)) hal hxi
              have hlb2 : (Lb.filter fun a => decide (a.2 ≠ x)).length ≤ n := Nat.le_trans (List.length_filter_le _ _) hlb
              have e1 : (y != y) = false := by simp
              have e2 : (x != x) = false := by simp
              have e3 : (x == (i : Int)) = false := by simp [hxi]
              dsimp only at hal2
              clear hal hm hxi
              go_wp2_with fail
              refine hle.mono ?_
              rintro e w6 ⟨rfl, rfl⟩
              go_wp2_with fail
              refine hpo.mono ?_
              rintro e w6 ⟨rfl, ht6, hb6⟩
              have hB6 := hB.trans (hb6.mono hBw)
              have hz6 := Nat.le_trans hz hb6.size
              have hpb := two_pop ht6.swap hmb (by omega) hz6
              dsimp only at hpb
              clear hpo hle hB hz hb6 ht6 hmb
              go_wp2_with fail
              refine hpb.mono ?_
              rintro e w7 ⟨rfl, ht7, hb7⟩
              go_wp2_with fail
              go_roundg gq
              case rel => exact ⟨_, _, f, by omega, by omega, hlb2, hal2, ht7.swap, hB6.trans (hb7.mono hBw), Nat.le_trans hz6 hb7.size⟩
              case measure => omega
  · have hn00 : n = 0 := by omega
    subst hn00
    go_wp2_with fail
    refine (ql_new 0 w2 (by omega)).mono ?_
    rintro e w3 ⟨⟨ga, rfl, hqa⟩, hb3⟩
    go_wp2_with fail
    refine (ql_len hqa).mono ?_
    rintro e w4 ⟨rfl, rfl⟩
    go_wp2_with fail
    go_ret
    exact ⟨rfl, bto hB2 hb3⟩
theorem walk (a0 : Option Addr) (len0 cap0 : Nat) (z0 : List Int) (a1 : Int) (a2 : Int) (w : World) (w0 : z0.length = len0 ∧ Reads w w.heap.size 1 a0 len0 (z0.map (Value.int .i64)) ∧ (∀ x ∈ z0, (Lit.int .i64 x).wf = true) ∧ len0 ≤ cap0 ∧ len0 ≤ 9223372036854775807) (w1 : (Lit.int .u8 a1).wf = true) (w2 : (Lit.int .i64 a2).wf = true) :
    Calls Try.prog 6 #[.slice a0 len0 cap0, .int .u8 a1, .int .i64 a2] w fun e w' => e = .returned (.bool true) ∧ Below w.heap.size w w' := by
  obtain ⟨_, hr, _, hc, hl⟩ := w0
  obtain ⟨u, rfl, hu⟩ := wf_u8 w1
  exact core a0 len0 cap0 u z0 a2 w hl hu hc hr

set_option maxRecDepth 100000 in
theorem lifted (os : Os) (started : os.Started) (H : Type) (enc : TypeId × Value → H) :
    ReturnsInHanded {} Try.checked os 6 .any (Rows.queueMovesSpec.pre6 enc Try.prog Try.f6 Rows.queueMovesRow.domain false) (Rows.queueMovesSpec.post enc Try.prog Try.f6 false true false false) := by
  refine returnsInHanded_of_change (C := Try.checked) own started (by kernel_rfl) Try.func6
    (ChangeSpec.witness6 (enc := enc) (C := Try.checked) false ⟨#[], #[.slice none 0 0, .int .u8 0, .int .i64 0], []⟩ 8 (by kernel_rfl) (by kernel_rfl) (by kernel_rfl) (by kernel_rfl)) ?_
  intro W base args ds gs before hval0 hW hcnd _
  have hval : ∀ (j : Nat) t v, Try.f6.params[j]? = some t → args[j]? = some v → Value.okWide Try.prog W .any base t v := hval0
  have hW' := hW
  obtain ⟨p, q, hA0, hV, rfl, hfz, hnd⟩ := hW
  have hA : DataW.TrodAll enc Try.prog W 0 (fun _ => true) true Try.f6.params.toList args.toList ds p := hA0
  rw [Try.params6] at hA hval
  obtain ⟨v0, vs0, d0, ds0, p0, q0, hargs, rfl, rfl, h0, r0⟩ := trodAll_cons hA
  obtain ⟨v1, vs1, d1, ds1, p1, q1, rfl, rfl, rfl, h1, r1⟩ := trodAll_cons r0
  obtain ⟨v2, vs2, d2, ds2, p2, q2, rfl, rfl, rfl, h2, r2⟩ := trodAll_cons r1
  obtain ⟨rfl, rfl, rfl⟩ := trodAll_nil r2
  obtain rfl : args = #[v0, v1, v2] := by cases args; simp_all
  obtain ⟨rfl, rfl⟩ := trodVars_none hV
  obtain ⟨a0, len0, cap0, rfl⟩ := okWide_slice Try.underlying38 (hval 0 38 v0 rfl rfl)
  have k0 := h0
  have lt0 : ∀ x ∈ p0, x.block < W.heap.size := by obtain ⟨m, hm⟩ := k0; exact DataW.trod_lt m _ _ _ hm
  obtain ⟨z0, w0⟩ := open_ones (Value.int .i64) (fun x => (Lit.int .i64 x).wf = true) Try.underlying38 (by kernel_rfl) (dec_int Try.underlying2) h0
  obtain ⟨a1, rfl, rfl, rfl, w1⟩ := open_int Try.underlying5 (hval 1 5 v1 rfl rfl) h1
  obtain ⟨a2, rfl, rfl, rfl, w2⟩ := open_int Try.underlying2 (hval 2 2 v2 rfl rfl) h2
  clear hA0 hval0
  refine (walk a0 len0 cap0 z0 a1 a2 W w0 w1 w2).mono fun e W' ⟨he, bel⟩ => ?_
  subst he
  exact ⟨_, rfl, _, _, _, [], _, [], hW', trodAll_mk1 (shut_bool Try.underlying4 _), (trodAll_cons_mk (Below.trod laidOut (by kernel_rfl) (of_decide_eq_true (by kernel_rfl)) k0 bel lt0) (trodAll_cons_mk (shut_int Try.underlying5 w1) (trodAll_cons_mk (shut_int Try.underlying2 w2) trodAll_mk0))), rfl, bel.frame _, fun h => by cases h⟩
theorem over : Rows.queueMovesRow.holds Try.pinned (OpenSpec.ofChange Rows.queueMovesSpec) :=
  OpenClaim.holds_of_wide 6 Try.f6 rfl rfl rfl rfl rfl rfl rfl ⟨rfl, rfl, rfl, rfl, rfl⟩ rfl rfl rfl rfl rfl (by kernel_rfl) Try.func6 (by kernel_rfl)
    (of_decide_eq_true (by kernel_rfl)) (by unfold Func.isWrapper; first | (rw [if_pos (by decide +kernel)]; kernel_rfl) | (rw [if_neg (by decide +kernel)]; exact ⟨rfl, rfl⟩))
    (fun os started H enc _ => lifted os started H enc)
theorem proved : Rows.QueueMovesSaid := over
end Go.Proofs.Ythjfboecdhlnfaa.queueMoves
