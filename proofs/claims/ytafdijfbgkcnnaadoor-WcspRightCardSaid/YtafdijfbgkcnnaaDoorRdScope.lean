/- The reader's scope. -/
import Derived.Test.YtafdijfbgkcnnaaDoorRdNum
import Derived.Test.YtafdijfbgkcnnaaDoorHas64
import Derived.Deep.Cut
namespace Go.Proofs.YtafdijfbgkcnnaaDoor.wcp
open Go Go.RowKit Go.ChangeShapes Go.WideShapes Go.ChangeAt Go.Proofs.YtafdijfbgkcnnaaDoor.words Go.Proofs.YtafdijfbgkcnnaaDoor.scn
set_option linter.unusedVariables false
variable {w : World} {gr gs : Nat} {bs : List UInt8} {wb : Int} {s : Ps} {sv : Value}
theorem Rok.tch {w' : World} {S : Nat → Prop} (h : Rok w gr gs bs wb s sv) (ht : Tch w w' S) (h1 : ¬ S gr) (h2 : ¬ S gs) (hs : ∀ k cs, S k → ¬ Blk w k 5 cs) : Rok w' gr gs bs wb s sv := by
  obtain ⟨a, big, badAt, bigAt, hr, hsc, hl, hg⟩ := h
  exact ⟨a, big, badAt, bigAt, ht.blk hr h1, hsc.tch ht h2 hs, hl, hg⟩
theorem Rbad.tch {w' : World} {S : Nat → Prop} {e x : Int} (h : Rbad w gr gs e x sv) (ht : Tch w w' S) (h1 : ¬ S gr) : Rbad w' gr gs e x sv := by
  obtain ⟨big, bigAt, told, hr, he⟩ := h
  exact ⟨big, bigAt, told, ht.blk hr h1, he⟩
/-- a row of another type grows -/
theorem Rok.grown {w' : World} {base n : Nat} {e : TypeId} {sz : Nat} {v : Value} {xs : List Value} (h : Rok w gr gs bs wb s sv) (ho : w.ownsRow base e sz v n xs) (hg : w.grownBy w' v.ownBlock) (he : e ≠ 5) (h1 : gr < base) (h2 : gs < base) : Rok w' gr gs bs wb s sv :=
  h.tch (Tch.of_grown hg (S := fun k => some k = v.ownBlock) fun _ _ h => h) (fun h => by have := (own_in ho h.symm).1; omega) (fun h => by have := (own_in ho h.symm).1; omega)
    fun k cs hk hb => own_blk_ne ho hb he hk.symm
theorem Rbad.grown {w' : World} {base n : Nat} {e : TypeId} {sz : Nat} {v : Value} {xs : List Value} {er x : Int} (h : Rbad w gr gs er x sv) (ho : w.ownsRow base e sz v n xs) (hg : w.grownBy w' v.ownBlock) (h1 : gr < base) : Rbad w' gr gs er x sv :=
  h.tch (Tch.of_grown hg (S := fun k => some k = v.ownBlock) fun _ _ h => h) (fun h => by have := (own_in ho h.symm).1; omega)
theorem Rok.left (h : Rok w gr gs bs wb s sv) : s.l.length ≤ bs.length := by
  obtain ⟨a, big, badAt, bigAt, hr, hsc, ⟨ha, z, hc, hz⟩, hg⟩ := h
  have : ∀ {a z : Nat} {l : List Wd}, Chain bs a l z → a ≤ bs.length → a + l.length ≤ z ∧ z ≤ bs.length := by
    intro a z l h
    induction h with
    | nil a => exact fun h => ⟨Nat.le_refl _, h⟩
    | cons h1 _ ih =>
      intro h0
      have hw := h1.word_at
      have := ih hw.2.1.len
      have := hw.1.le
      have := hw.2.2.2
      simp only [List.length_cons]
      omega
  have := this hc ha
  omega
theorem pword_len {en ee : Int} {s s' : Ps} {v : Wd} (h : pword en ee s = .ok v s') : s'.l.length + 1 = s.l.length := by
  obtain ⟨l, b, t, sh⟩ := s
  cases l with
  | nil => have h : (Res.bad ee en : Res Wd) = .ok v s' := h; cases h
  | cons x r => unfold pword at h; injection h with h1 h2; subst h2; rfl
theorem pnum_len {en ee lo hi : Int} {s s' : Ps} {v : Int × Int} (h : pnum en ee lo hi s = .ok v s') : s'.l.length + 1 = s.l.length := by
  unfold pnum at h
  cases hp : pword en ee s with
  | bad e x => rw [hp, Res.bind_bad] at h; cases h
  | ok wd s1 =>
    rw [hp, Res.bind_ok] at h
    split at h
    · cases h
    · injection h with h1 h2; subst h2; exact pword_len hp
/-- what stands between the rounds: the first k of them are read -/
def Scp (w wr : World) (gr gs : Nat) (bs : List UInt8) (wb : Int) (n : Int) (k : Nat) (s : Ps) (sv : Value) (out : List Int) (A : Option Addr) (c i : Nat) : Prop :=
  wr.ownsRow w.heap.size 2 1 (.slice A out.length c) out.length (nums out) ∧ Tch w wr (fun b => b = gr ∨ b = gs) ∧ out.length ≤ bs.length + 1 ∧
  ((∃ s', Rok wr gr gs bs wb s' sv ∧ i ≤ k ∧ pscope (enOf bs wb) (eeOf wb) n k [] s = pscope (enOf bs wb) (eeOf wb) n (k - i) out s' ∧ out.length = i ∧ i + s'.l.length ≤ bs.length) ∨
   (∃ er x, Rbad wr gr gs er x sv ∧ pscope (enOf bs wb) (eeOf wb) n k [] s = .bad er x))
theorem pscope_step (en ee n : Int) (k : Nat) (out : List Int) (s : Ps) : pscope en ee n (k + 1) out s = (pnum en ee 0 (n - 1) s).bind fun v s => if v.1 ∈ out then .bad 4 v.2 else pscope en ee n k (out ++ [v.1]) s := rfl
def ScopeR (w : World) (gr gs : Nat) (bs : List UInt8) (wb : Int) (n : Int) (k : Nat) (s : Ps) (sv : Value) (e : Ending) (w' : World) : Prop :=
  ∃ (out : List Int) (A : Option Addr) (c : Nat), e = .returned (.slice A out.length c) ∧ w'.ownsRow w.heap.size 2 1 (.slice A out.length c) out.length (nums out) ∧ Tch w w' (fun b => b = gr ∨ b = gs) ∧ out.length ≤ bs.length + 1 ∧
    match pscope (enOf bs wb) (eeOf wb) n k [] s with
    | .ok l s' => out = l ∧ Rok w' gr gs bs wb s' sv
    | .bad er x => Rbad w' gr gs er x sv
set_option maxRecDepth 100000 in
set_option maxHeartbeats 4000000 in
theorem rscope_any (h : Rok w gr gs bs wb s sv) (hne : gr ≠ gs) (hgr : gr < w.heap.size) (hgs : gs < w.heap.size) (hn : bs.length ≤ 1000000) (k : Nat) (n : Int) (hk : k ≤ 4611686018427387904) (hn0 : 0 ≤ n) (hn1 : n ≤ 1000000) :
    Calls Tryd.prog 68 #[.pointer (some ⟨gr, 0, none⟩), .int .i64 k, .int .i64 n] w fun e w' => ScopeR w gr gs bs wb n k s sv e w' := by
  obtain ⟨i0, hi0, hz0, hz1, hz2⟩ := info_parts (show (Tryd.prog.info? 2).map (fun i => (i.zero, i.size, i.bytes)) = some (some (.int .i64 0), 1, 8) by kernel_rfl)
  have hs0 : Scp w w gr gs bs wb n k s sv [] none 0 0 := ⟨World.ownsRow_nil _ _ _ _, Tch.refl _ _, by simp, .inl ⟨s, h, Nat.zero_le _, rfl, rfl, by have := h.left; omega⟩⟩
  clear h
  go_enter Tryd.func68, Tryd.ntmps68
  go_wp2_with fail
  go_loopw [7, 8, 9, 10] (fun ov iv _ _ wr => ∃ (i : Nat) (out : List Int) (A : Option Addr) (c : Nat), iv = .int .i64 i ∧ i ≤ k + 1 ∧ ov = .slice A out.length c ∧ Scp w wr gr gs bs wb n k s sv out A c i) (fun _ iv _ _ _ => k + 1 - (intOf iv).toNat)
  case atStart => exact ⟨0, [], none, 0, rfl, by omega, rfl, hs0⟩
  case round =>
    clear hs0
    obtain ⟨i, out, A, c, rfl, hik, rfl, ho, ht, hlo, hm⟩ := hrel
    by_cases hlt : i < k
    · have hltI : decide ((i : Int) < (k : Int)) = true := decide_eq_true (by omega)
      rcases hm with ⟨s', hr, hi, hp, hol, hll⟩ | ⟨er, x, hr, hp⟩
      · have hi1 : i + s'.l.length ≤ bs.length := hll
        have HOL := Lib.hid hol
        have hoi : out.length ≤ bs.length := by omega
        clear hol
        have hrk := hr
        obtain ⟨a, big, badAt, bigAt, hrb, hsc, hlf, hbg⟩ := hr
        have hok := ok_any hrb
        rw [decide_eq_true rfl] at hok
        have hnum := rnum_any hrk hne hn 0 (n - 1)
        have HO := Lib.hid ho
        have HT := Lib.hid ht
        have HP := Lib.hid hp
        clear hrb hsc hlf hbg hrk ho ht hp
        go_wp2_with fail
        refine hok.mono ?_
        rintro e w2 ⟨rfl, rfl⟩
        clear hok
        go_wp2_with fail
        refine hnum.mono ?_
        rintro e w3 ⟨v, x, rfl, ht3, hm3⟩
        clear hnum
        have ho3 := ht3.own HO.out (fun g hg h => by have := (own_in HO.out hg).1; omega)
        have hT3 := HT.out.trans ht3 fun _ _ h => h
        obtain ⟨kk, hkk⟩ : ∃ kk, k - i = kk + 1 := ⟨k - i - 1, by omega⟩
        have hps := HP.out
        rw [hkk, pscope_step] at hps
        cases hpn : pnum (enOf bs wb) (eeOf wb) 0 (n - 1) s' with
        | bad er x' =>
          rw [hpn] at hm3 hps
          rw [Res.bind_bad] at hps
          obtain ⟨-, hrd⟩ := hm3
          have HRD := Lib.hid hrd
          have HPS := Lib.hid hps
          obtain ⟨b1, b2, b3, hrb, he⟩ := hrd
          have hok := ok_any hrb
          rw [decide_eq_false he] at hok
          obtain ⟨wz, hwz⟩ : ∃ wz, wz = w3 := ⟨_, rfl⟩
          have oz := ho3
          have TZ := Lib.hid hT3
          rw [← hwz] at oz TZ HRD hok ⊢
          clear hrb he hps hpn ho3 hT3 ht3 hwz
          go_wp2_with fail
          refine hok.mono ?_
          rintro e w4 ⟨rfl, rfl⟩
          clear hok
          have hA1 := oz.alloc (.cells #[.int .i64 v] 2)
          have hr1 : Reads (wz.alloc (.cells #[.int .i64 v] 2)) (wz.alloc (.cells #[.int .i64 v] 2)).heap.size 1 (some ⟨wz.heap.size, 0, none⟩) 1 (nums [v]) := reads_block (t := 2) (heap_alloc_new _ _) rfl
          have hsz : w.heap.size ≤ (wz.alloc (.cells #[.int .i64 v] 2)).heap.size := by have := TZ.out.size; simp; omega
          have OZ := Lib.hid hA1
          clear oz
          go_wp2_with (first
            | (at_builtin; refine wpList_append_any _ rfl (.tmp 37) (.tmp 39) _ rfl w.heap.size 2 i0 _ 1 8 Tryd.underlying34 hi0 hz0 hz1 hz2 rfl (by omega) (.slice A out.length c) out.length _ rfl hA1 (wz.alloc (.cells #[.int .i64 v] 2)).heap.size (some ⟨wz.heap.size, 0, none⟩) 1 1 (nums [v]) rfl hr1 nums_one (by simp only [maxLen]; omega) (by omega) hsz ?_; intro v6 w6 hown6 hg6 hat6; clear hat6; obtain ⟨A6, c6, rfl⟩ := own_shape hown6; have HO6 := Lib.hid hown6; have HG6 : Hid ((wz.alloc (.cells #[.int .i64 v] 2)).grownBy w6 (Value.slice A out.length c).ownBlock) := hg6; clear hown6 hg6 hA1 hr1)
            | fail)
          go_roundw
          case measure => simp [intOf]; omega
          case rel =>
            have hl : (out ++ [v]).length = out.length + 1 := by simp
            have ho6 : w6.ownsRow w.heap.size 2 1 (.slice A6 (out ++ [v]).length c6) (out ++ [v]).length (nums (out ++ [v])) := by
              rw [hl]; have := HO6.out; rw [show nums out ++ nums [v] = nums (out ++ [v]) by simp [nums]] at this; exact this
            have ht6 : Tch w w6 (fun b => b = gr ∨ b = gs) := (TZ.out.trans (Tch.of_below (bone wz _) _) fun _ _ h => h).trans (S' := fun b => w.heap.size ≤ b) (Tch.of_grown HG6.out fun q _ hq => (own_in OZ.out hq.symm).1) fun q hq h => by omega
            exact ⟨i + 1, out ++ [v], A6, c6, by go_num, by omega, by rw [hl], ho6, ht6, by rw [hl]; omega, .inr ⟨er, x', (HRD.out.tch (Tch.of_below (bone wz _) (fun _ => False)) id).grown OZ.out HG6.out hgr, HPS.out⟩⟩
        | ok vx s2 =>
          rw [hpn] at hm3 hps
          rw [Res.bind_ok] at hps
          obtain ⟨hv0, hx0, hr2⟩ := hm3
          have hlen2 := pnum_len hpn
          have HRK := Lib.hid hr2
          obtain ⟨a2, big2, badAt2, bigAt2, hrb2, hsc2, hlf2, hbg2⟩ := hr2
          have hok := ok_any hrb2
          rw [decide_eq_true rfl] at hok
          have hh := has64_any A out.length c out v w3 (by omega) (Reads.of_own ho3)
          have HRB := Lib.hid hrb2
          rw [← hv0, ← hx0] at hps
          clear hv0 hx0
          by_cases hin : v ∈ out
          · rw [if_pos hin] at hps
            rw [decide_eq_true hin] at hh
            have HPS := Lib.hid hps
            have HO3 := Lib.hid ho3
            have HT3 := Lib.hid hT3
            clear hrb2 hsc2 hlf2 hbg2 hps hpn ho3 hT3 ht3 hin
            go_wp2_with fail
            refine hok.mono ?_
            rintro e w4 ⟨rfl, rfl⟩
            clear hok
            go_wp2_with fail
            refine hh.mono ?_
            rintro e w5 ⟨rfl, hb5⟩
            clear hh
            have hwr := wrong_any (Blk.under HRB.out hb5) 4 x
            go_wp2_with fail
            refine hwr.mono ?_
            rintro e wz ⟨⟨u, rfl⟩, hc, ht5⟩
            clear hwr
            have hrd : Rbad wz gr gs 4 x sv := by
              rcases hc with ⟨_, hc⟩ | ⟨h0, _⟩
              · exact ⟨_, _, _, hc, by decide⟩
              · exact absurd rfl h0
            have HRD := Lib.hid hrd
            have oz := ht5.own (own_under HO3.out hb5) (fun g hg h => by have := (own_in HO3.out hg).1; omega)
            have TZ := Lib.hid ((HT3.out.trans (Tch.of_below hb5 (fun b => b = gr ∨ b = gs)) fun _ _ h => h).trans (ht5.mono (S' := fun b => b = gr ∨ b = gs) fun b _ h => Or.inl h) fun _ _ h => h)
            clear hrd ht5 hc hb5
            have hA1 := oz.alloc (.cells #[.int .i64 v] 2)
            have hr1 : Reads (wz.alloc (.cells #[.int .i64 v] 2)) (wz.alloc (.cells #[.int .i64 v] 2)).heap.size 1 (some ⟨wz.heap.size, 0, none⟩) 1 (nums [v]) := reads_block (t := 2) (heap_alloc_new _ _) rfl
            have hsz : w.heap.size ≤ (wz.alloc (.cells #[.int .i64 v] 2)).heap.size := by have := TZ.out.size; simp; omega
            have OZ := Lib.hid hA1
            clear oz
            go_wp2_with (first
              | (at_builtin; refine wpList_append_any _ rfl (.tmp 37) (.tmp 39) _ rfl w.heap.size 2 i0 _ 1 8 Tryd.underlying34 hi0 hz0 hz1 hz2 rfl (by omega) (.slice A out.length c) out.length _ rfl hA1 (wz.alloc (.cells #[.int .i64 v] 2)).heap.size (some ⟨wz.heap.size, 0, none⟩) 1 1 (nums [v]) rfl hr1 nums_one (by simp only [maxLen]; omega) (by omega) hsz ?_; intro v6 w6 hown6 hg6 hat6; clear hat6; obtain ⟨A6, c6, rfl⟩ := own_shape hown6; have HO6 := Lib.hid hown6; have HG6 : Hid ((wz.alloc (.cells #[.int .i64 v] 2)).grownBy w6 (Value.slice A out.length c).ownBlock) := hg6; clear hown6 hg6 hA1 hr1)
              | fail)
            go_roundw
            case measure => simp [intOf]; omega
            case rel =>
              have hl : (out ++ [v]).length = out.length + 1 := by simp
              have ho6 : w6.ownsRow w.heap.size 2 1 (.slice A6 (out ++ [v]).length c6) (out ++ [v]).length (nums (out ++ [v])) := by
                rw [hl]; have := HO6.out; rw [show nums out ++ nums [v] = nums (out ++ [v]) by simp [nums]] at this; exact this
              have ht6 : Tch w w6 (fun b => b = gr ∨ b = gs) := (TZ.out.trans (Tch.of_below (bone wz _) _) fun _ _ h => h).trans (S' := fun b => w.heap.size ≤ b) (Tch.of_grown HG6.out fun q _ hq => (own_in OZ.out hq.symm).1) fun q hq h => by omega
              exact ⟨i + 1, out ++ [v], A6, c6, by go_num, by omega, by rw [hl], ho6, ht6, by rw [hl]; omega, .inr ⟨4, x, (HRD.out.tch (Tch.of_below (bone wz _) (fun _ => False)) id).grown OZ.out HG6.out hgr, HPS.out⟩⟩
          · rw [if_neg hin] at hps
            rw [decide_eq_false hin] at hh
            have HPS := Lib.hid hps
            have HO3 := Lib.hid ho3
            have HT3 := Lib.hid hT3
            clear hrb2 hsc2 hlf2 hbg2 hps hpn ho3 hT3 ht3 hin
            go_wp2_with fail
            refine hok.mono ?_
            rintro e w4 ⟨rfl, rfl⟩
            clear hok
            go_wp2_with fail
            refine hh.mono ?_
            rintro e wz ⟨rfl, hb5⟩
            clear hh
            have HRD := Lib.hid (HRK.out.below hb5)
            have oz := own_under HO3.out hb5
            have TZ := Lib.hid (HT3.out.trans (Tch.of_below hb5 (fun b => b = gr ∨ b = gs)) fun _ _ h => h)
            clear hb5
            have hA1 := oz.alloc (.cells #[.int .i64 v] 2)
            have hr1 : Reads (wz.alloc (.cells #[.int .i64 v] 2)) (wz.alloc (.cells #[.int .i64 v] 2)).heap.size 1 (some ⟨wz.heap.size, 0, none⟩) 1 (nums [v]) := reads_block (t := 2) (heap_alloc_new _ _) rfl
            have hsz : w.heap.size ≤ (wz.alloc (.cells #[.int .i64 v] 2)).heap.size := by have := TZ.out.size; simp; omega
            have OZ := Lib.hid hA1
            clear oz
            go_wp2_with (first
              | (at_builtin; refine wpList_append_any _ rfl (.tmp 37) (.tmp 39) _ rfl w.heap.size 2 i0 _ 1 8 Tryd.underlying34 hi0 hz0 hz1 hz2 rfl (by omega) (.slice A out.length c) out.length _ rfl hA1 (wz.alloc (.cells #[.int .i64 v] 2)).heap.size (some ⟨wz.heap.size, 0, none⟩) 1 1 (nums [v]) rfl hr1 nums_one (by simp only [maxLen]; omega) (by omega) hsz ?_; intro v6 w6 hown6 hg6 hat6; clear hat6; obtain ⟨A6, c6, rfl⟩ := own_shape hown6; have HO6 := Lib.hid hown6; have HG6 : Hid ((wz.alloc (.cells #[.int .i64 v] 2)).grownBy w6 (Value.slice A out.length c).ownBlock) := hg6; clear hown6 hg6 hA1 hr1)
              | fail)
            go_roundw
            case measure => simp [intOf]; omega
            case rel =>
              have hl : (out ++ [v]).length = out.length + 1 := by simp
              have ho6 : w6.ownsRow w.heap.size 2 1 (.slice A6 (out ++ [v]).length c6) (out ++ [v]).length (nums (out ++ [v])) := by
                rw [hl]; have := HO6.out; rw [show nums out ++ nums [v] = nums (out ++ [v]) by simp [nums]] at this; exact this
              have ht6 : Tch w w6 (fun b => b = gr ∨ b = gs) := (TZ.out.trans (Tch.of_below (bone wz _) _) fun _ _ h => h).trans (S' := fun b => w.heap.size ≤ b) (Tch.of_grown HG6.out fun q _ hq => (own_in OZ.out hq.symm).1) fun q hq h => by omega
              exact ⟨i + 1, out ++ [v], A6, c6, by go_num, by omega, by rw [hl], ho6, ht6, by rw [hl]; omega, .inl ⟨s2, (HRD.out.below (bone wz _)).grown OZ.out HG6.out (by decide) hgr hgs, by omega, by rw [HPS.out]; congr 1; omega, by rw [hl, HOL.out], by omega⟩⟩
      · obtain ⟨big, bigAt, told, hrb, he⟩ := hr
        have hok := ok_any hrb
        rw [decide_eq_false he] at hok
        have HR : Hid (Rbad wr gr gs er x sv) := ⟨big, bigAt, told, hrb, he⟩
        have HO := Lib.hid ho
        have HT := Lib.hid ht
        have HP := Lib.hid hp
        clear hrb he ho ht hp
        go_wp2_with fail
        refine hok.mono ?_
        rintro e w2 ⟨rfl, rfl⟩
        clear hok
        go_wp2_with fail
        go_ret
        refine ⟨out, A, c, rfl, HO.out, HT.out, hlo, ?_⟩
        rw [HP.out]
        exact HR.out
    · have hltI : decide ((i : Int) < (k : Int)) = false := decide_eq_false (by omega)
      have HO := Lib.hid ho
      have HT := Lib.hid ht
      have HM := Lib.hid hm
      clear ho ht hm
      go_wp2_with fail
      go_ret
      refine ⟨out, A, c, rfl, HO.out, HT.out, hlo, ?_⟩
      rcases HM.out with ⟨s', hr, hi, hp, hol, hll⟩ | ⟨er, x, hr, hp⟩
      · obtain rfl : i = k := by omega
        rw [hp, Nat.sub_self]
        exact ⟨rfl, hr⟩
      · rw [hp]; exact hr
end Go.Proofs.YtafdijfbgkcnnaaDoor.wcp
