/- What an assignment costs. -/
import Derived.Test.YtafdijfbgkcnnaaDoorRight
namespace Go.Proofs.YtafdijfbgkcnnaaDoor.wcp
open Go Go.RowKit Go.ChangeShapes Go.WideShapes Go.ChangeAt Go.Maps Go.Proofs.YtafdijfbgkcnnaaDoor.words Go.Proofs.YtafdijfbgkcnnaaDoor.scn
set_option linter.unusedVariables false
def part (x : Raw) (xs : List Int) : List Int := x.scope.map fun v => xs.getD v.toNat 0
def valTo (f : Fil) (xs : List Int) (l : List Raw) : Int := l.foldl (fun s x => min (s + (tpOf x f.k x.lines).get (part x xs)) f.k) 0
theorem valTo_snoc (f : Fil) (xs : List Int) (l : List Raw) (x : Raw) : valTo f xs (l ++ [x]) = min (valTo f xs l + (tpOf x f.k x.lines).get (part x xs)) f.k := by unfold valTo; rw [List.foldl_append]; rfl
theorem get_in {x : Raw} {K : Int} (h : okF x K) (t : List Int) : 0 ≤ (tpOf x K x.lines).get t ∧ (tpOf x K x.lines).get t ≤ K := by
  have hk := h.2.2.1
  have ho := h.2.2.2.2.1
  have hl := h.2.2.2.2.2.1
  have : ∀ (ls : List (List Int × Int)), (∀ l ∈ ls, 0 ≤ l.2) → ∀ T : TpH, (∀ u c, T.f u = some c → 0 ≤ c ∧ c ≤ K) → ∀ u c, (ls.foldl (fun T l => putF T l.1 (min l.2 K)) T).f u = some c → 0 ≤ c ∧ c ≤ K := by
    intro ls
    induction ls with
    | nil => exact fun _ T hT u c h => hT u c h
    | cons l ls ih =>
      intro hls T hT
      refine ih (fun l' hl' => hls l' (by simp [hl'])) _ fun u c hc => ?_
      have h0 := hls l (by simp)
      unfold putF at hc
      dsimp only at hc
      split at hc
      · dsimp only at hc
        split at hc
        · cases hc
        · exact hT u c hc
      · dsimp only at hc
        split at hc
        · injection hc with hc; omega
        · exact hT u c hc
  unfold TpH.get
  cases hf : (tpOf x K x.lines).f t with
  | none => rw [(tpOf_same x K x.lines).2.2]; simp; omega
  | some c => exact this x.lines (fun l hl' => (hl l hl').2) (tp0 x K) (fun u c h => by cases h) t c hf
theorem part_in {f : Fil} {x : Raw} {xs : List Int} (hx : FitF f.sizes x) (ha : InS f.sizes xs) : InS x.sizes (part x xs) := by
  obtain ⟨h1, h2, h3⟩ := hx
  refine ⟨by rw [h3]; simp [part], fun i v k hv hk => ?_⟩
  unfold part at hv
  rw [h3] at hk
  rw [List.getElem?_map] at hv hk
  cases hs : x.scope[i]? with
  | none => rw [hs] at hv; cases hv
  | some m =>
    rw [hs] at hv hk
    obtain ⟨m0, m1⟩ := h1 m (List.mem_of_getElem? hs)
    injection hv with hv
    injection hk with hk
    have hl : m.toNat < f.sizes.length := by omega
    have hl2 : m.toNat < xs.length := by rw [ha.1]; exact hl
    refine ha.2 m.toNat v k ?_ ?_
    · rw [List.getElem?_eq_getElem hl2, ← hv]; simp [List.getD_eq_getElem?_getD, hl2]
    · rw [List.getElem?_eq_getElem hl, ← hk]; simp [List.getD_eq_getElem?_getD, hl]
theorem valTo_in {f : Fil} (hok : OkFile f) (xs : List Int) : ∀ l : List Raw, (∀ x ∈ l, x ∈ f.funs) → 0 ≤ valTo f xs l ∧ valTo f xs l ≤ f.k := by
  intro l
  have hk := hok.k1
  have : ∀ (l : List Raw) (s : Int), 0 ≤ s → s ≤ f.k → (∀ x ∈ l, x ∈ f.funs) → 0 ≤ l.foldl (fun s x => min (s + (tpOf x f.k x.lines).get (part x xs)) f.k) s ∧ l.foldl (fun s x => min (s + (tpOf x f.k x.lines).get (part x xs)) f.k) s ≤ f.k := by
    intro l
    induction l with
    | nil => exact fun s h1 h2 _ => ⟨h1, h2⟩
    | cons x l ih =>
      intro s h1 h2 h
      have h3 := get_in (hok.fs x (h x (by simp))).1 (part x xs)
      rw [List.foldl_cons]
      exact ih _ (by omega) (by omega) fun y hy => h y (by simp [hy])
  exact fun h => this l 0 (Int.le_refl _) (by omega) h
set_option maxRecDepth 100000 in
set_option maxHeartbeats 8000000 in
theorem val_any {w : World} {g : Nat} {f : Fil} {SA : Option Addr} {sc : Nat} {FA : Option Addr} {fc : Nat} {V : List FT} (h : FilW w g f SA sc FA fc V) (hok : OkFile f) (hlin : linesOf f.funs ≤ 16384)
    (A : Option Addr) (n cap : Nat) (xs : List Int) (hr : Reads w w.heap.size 1 A n (nums xs)) (ha : InS f.sizes xs) :
    Calls Tryd.prog 14 #[.pointer (some ⟨g, 0, none⟩), .slice A n cap] w fun e w' => e = .returned (.tuple #[.int .i64 (valTo f xs f.funs), .int .i64 0]) ∧ Below w.heap.size w w' := by
  obtain ⟨iI, hI0, hI1, hI2, hI3⟩ := info_parts infoI
  have hl := nums_len hr
  subst hl
  have hrt := fright_any h hok hlin
  have hVl : V.length = f.funs.length := by have := congrArg List.length h.1; simpa using this
  have hV2 : V.length ≤ 256 := by have := hok.n; omega
  have HLEN := Lib.hid ha.1
  have hx64 : xs.length ≤ 64 := by have := ha.1; have := hok.s2; omega
  have hs64 := hok.s2
  have HA := Lib.hid ha
  have HOK := Lib.hid hok
  have HH := Lib.hid h
  have HR := Lib.hid hr
  have HVL := Lib.hid hVl
  have hlz : (xs.length : Int) = (f.sizes.length : Int) := by have := ha.1; omega
  clear h hok hlin ha hr hVl
  go_enter Tryd.func14, Tryd.ntmps14
  go_wp2_with fail
  refine hrt.mono ?_
  rintro e w1 ⟨rfl, hb1⟩
  clear hrt
  have hw1 := HH.out.below hb1
  obtain ⟨q0, q1, q2, q3, -⟩ := Blk.four (t := 51) hw1.2.1
  have HW1 := Lib.hid hw1
  have HB1 := Lib.hid hb1
  have hS := Reads.of_own hw1.2.2.1
  have hX := HR.out.below hb1
  clear hw1 hb1
  go_wp2_with fail
  rw [← hlz]
  clear hlz q0 q1 q3
  go_loopw [7, 8, 34] (fun _ _ jv wr => ∃ j : Nat, jv = .int .i64 j ∧ j ≤ xs.length ∧ w1 = wr) (fun _ _ jv _ => xs.length - (intOf jv).toNat)
  case atStart => exact ⟨0, rfl, Nat.zero_le _, rfl⟩
  case round =>
    obtain ⟨j, rfl, hj, rfl⟩ := hrel
    by_cases hlt : j < xs.length
    · obtain ⟨ad, v, rfl, _, hv, hc⟩ := hX.num hlt
      obtain ⟨ad2, k, rfl, _, hk, hc2⟩ := hS.num (k := j) (by have := HLEN.out; omega)
      obtain ⟨v0, v1⟩ := HA.out.2 j v k hv hk
      have i0 : (0 : Int) ≤ (j : Int) := Int.natCast_nonneg _
      have hjl : (j : Int) < (f.sizes.length : Int) := by have := HLEN.out; omega
      have hge : ¬ (k ≤ v) := by omega
      clear hv hk hS hX
      go_wp2_with fail
      go_roundw
      case measure => simp [intOf]; omega
      case rel => exact ⟨j + 1, by go_num, by omega, by first | rfl | trivial⟩
    · obtain rfl : j = xs.length := by omega
      clear hS hX q2
      obtain ⟨q0, q1, q2, q3, -⟩ := Blk.four (t := 51) HW1.out.2.1
      go_wp2_with fail
      clear q0 q1 q2 q3
      obtain ⟨wo, hwo⟩ : ∃ wo : World, wo = w1 := ⟨_, rfl⟩
      rw [← hwo] at HW1 HB1 ⊢
      clear hwo
      have hst : ∃ s : Int, s = valTo f xs (f.funs.take 0) := ⟨_, rfl⟩
      go_loopw [9, 11, 12, 13, 14, 15, 16, 58, 69] (fun sv _ _ _ _ _ _ jv _ wr => ∃ j : Nat, jv = .int .i64 j ∧ j ≤ V.length ∧ sv = .int .i64 (valTo f xs (f.funs.take j)) ∧ Below wo.heap.size wo wr) (fun _ _ _ _ _ _ _ jv _ _ => V.length - (intOf jv).toNat)
      case atStart => exact ⟨0, rfl, Nat.zero_le _, rfl, Below.refl _ _⟩
      case round =>
        clear hst
        obtain ⟨j, rfl, hj2, rfl, hb⟩ := hrel
        obtain ⟨wq, hwq⟩ : ∃ wq : World, wq = wr := ⟨_, rfl⟩
        rw [← hwq] at hb ⊢
        clear hwq
        by_cases hlt2 : j < V.length
        · have hw := HW1.out.below hb
          obtain ⟨hV, hgb, hs, hrow, hfv⟩ := hw
          obtain ⟨p, hp⟩ : ∃ p, V[j]? = some p := ⟨_, List.getElem?_eq_getElem hlt2⟩
          have hpm := List.mem_of_getElem? hp
          have hfp := hfv p hpm
          have hpx : p.2.2.2 ∈ f.funs := by rw [← hV]; exact List.mem_map_of_mem hpm
          have hfj : f.funs[j]? = some p.2.2.2 := by rw [← hV, List.getElem?_map, hp]; rfl
          obtain ⟨o1, o2, o3⟩ := HOK.out.fs _ hpx
          have h2 : ∀ p ∈ V, ∃ a b, p.1 = .agg #[a, b] := fun p hp => by
            obtain ⟨v1, tg, e, _⟩ := hfv p hp
            exact ⟨_, _, e⟩
          obtain ⟨pv, lo, hi, pf⟩ := p
          dsimp only at hfp hpx hfj o1 o2 o3
          obtain ⟨v1, tg, rfl, ⟨⟨C1, k1, rfl⟩, hc1⟩, _, hT⟩ := hfp
          obtain ⟨c0, c1⟩ := fc_at h2 hp
          obtain ⟨fq, rfl, _, _⟩ := own_some hrow (by omega)
          have d0 := (hrow.cellAt (j * 2) (by omega)).trans c0
          have d1 := (hrow.cellAt (j * 2 + 1) (by omega)).trans c1
          have hb1 := bone wq (.cells #[.slice C1 pf.scope.length k1, .pointer (some ⟨tg, 0, none⟩)] 55)
          have hx : Blk (wq.alloc (.cells #[.slice C1 pf.scope.length k1, .pointer (some ⟨tg, 0, none⟩)] 55)) wq.heap.size 55 #[.slice C1 pf.scope.length k1, .pointer (some ⟨tg, 0, none⟩)] := Blk.new _ _ _
          have hsc6 : pf.scope.length ≤ 6 := o1.2.2.2.2.2.2.2
          obtain ⟨wa, hwa⟩ : ∃ wa, wq.alloc (.cells #[.slice C1 pf.scope.length k1, .pointer (some ⟨tg, 0, none⟩)] 55) = wa := ⟨_, rfl⟩
          obtain ⟨xb, hxb⟩ : ∃ xb, wq.heap.size = xb := ⟨_, rfl⟩
          rw [hwa, hxb] at hx
          rw [hwa] at hb1
          obtain ⟨x0, x1⟩ := hx.two
          have HX := Lib.hid hx
          have HB := Lib.hid hb
          have HBA := Lib.hid hb1
          have HO1 := Lib.hid o1
          have HO2 := Lib.hid o2
          have HFJ := Lib.hid hfj
          have HC1 := Lib.hid hc1
          have HT := Lib.hid hT
          have HGB := Lib.hid hgb
          have HPX := Lib.hid hpx
          have i0 : (0 : Int) ≤ (j : Int) := Int.natCast_nonneg _
          have i1 : (j : Int) < (V.length : Int) := by omega
          have hmk := fun W => run_make_rowN (P := Tryd.prog) 23 3 iI _ Tryd.underlying23 hI0 hI1 .i64 .i64 pf.scope.length pf.scope.length (Nat.le_refl _) (by rw [hI3]; omega) (by omega) W
          clear hV hgb hs hrow hfv hp hpm hfj h2 c0 c1 hb hb1 hx hT o1 o2 o3 hpx hc1
          have hxm := HX.out.alloc (.cells (madeCells #[.int .i64 0] pf.scope.length) 3)
          obtain ⟨x0', x1'⟩ := hxm.two
          obtain ⟨ys, hys⟩ : ∃ ys, part pf xs = ys := ⟨_, rfl⟩
          have hyl : ys.length = pf.scope.length := by rw [← hys]; simp [part]
          have hown : (wa.alloc (.cells (madeCells #[.int .i64 0] pf.scope.length) 3)).ownsRow wa.heap.size 3 1 (.slice (some ⟨wa.heap.size, 0, none⟩) pf.scope.length pf.scope.length) pf.scope.length (nums (ys.take 0 ++ List.replicate (ys.length - 0) 0)) := by
            rw [List.take_zero, List.nil_append, Nat.sub_zero, hyl, ← nums_rep]
            exact World.ownsRow_lit wa _ pf.scope.length (Nat.le_refl _) (by unfold maxLen; omega) (by simp [madeCells])
          have HYL := Lib.hid hyl
          have HYS := Lib.hid hys
          have HXM := Lib.hid hxm
          clear hyl hys hxm
          go_wp2_with fail
          clear hmk
          obtain ⟨wm, hwm⟩ : ∃ wm, wa.alloc (.cells (madeCells #[.int .i64 0] pf.scope.length) 3) = wm := ⟨_, rfl⟩
          rw [hwm] at hown x0' x1' ⊢
          have HXM2 := HXM.out
          rw [hwm] at HXM2
          have HXM := Lib.hid HXM2
          have HBM : Hid (Below wa.heap.size wa wm) := by rw [Hid, ← hwm]; exact bone wa _
          obtain ⟨pb, hpb⟩ : ∃ pb, wa.heap.size = pb := ⟨_, rfl⟩
          rw [hpb] at hown ⊢
          have HPB := Lib.hid hpb
          have hxpb : xb < pb := by rw [← hpb]; exact Blk.lt HX.out
          clear HXM2 hwm hpb x0 x1 d0 d1
          go_loopw [13, 14, 69] (fun _ _ iv wy => ∃ i : Nat, iv = .int .i64 i ∧ i ≤ pf.scope.length ∧ wy.ownsRow pb 3 1 (.slice (some ⟨pb, 0, none⟩) pf.scope.length pf.scope.length) pf.scope.length (nums (ys.take i ++ List.replicate (ys.length - i) 0)) ∧ Tch wm wy (fun q => q = pb)) (fun _ _ iv _ => pf.scope.length - (intOf iv).toNat)
          case atStart => exact ⟨0, rfl, Nat.zero_le _, hown, Tch.refl _ _⟩
          case round =>
            clear hown x0' x1'
            obtain ⟨i, rfl, hi2, ho, ht⟩ := hrel
            have hpq : wq.heap.size ≤ pb := by have := HBA.out.size; have := HPB.out; omega
            have hbq : Below wq.heap.size wq wr := (HBA.out.trans (HBM.out.mono HBA.out.size)).trans (ht.below (by have := HBA.out.size; have := HBM.out.size; omega) fun q hq h => by omega)
            have hbw : Below w.heap.size w wr := (bto HB1.out HB.out).trans (hbq.mono (by have := (bto HB1.out HB.out).size; exact this))
            have hxr := ht.blk HXM.out (fun h => by omega)
            obtain ⟨x0, x1⟩ := hxr.two
            by_cases hlti : i < pf.scope.length
            · obtain ⟨ad, v, rfl, _, hv, hc⟩ := (Reads.of_own (own_under HC1.out hbq)).num hlti
              obtain ⟨v0, v1⟩ := HO2.out.1 v (List.mem_of_getElem? hv)
              obtain ⟨m, rfl⟩ : ∃ m : Nat, v = (m : Int) := ⟨v.toNat, by omega⟩
              have hml : m < xs.length := by have := HLEN.out; omega
              obtain ⟨ad2, y, rfl, _, hy, hc2⟩ := (HR.out.below hbw).num hml
              have hys : ys[i]? = some y := by rw [← HYS.out]; unfold part; rw [List.getElem?_map, hv]; simp [List.getD_eq_getElem?_getD, hy]
              have hf := ho.frozenAt i
              obtain ⟨u, hu⟩ : ∃ u, (nums (ys.take i ++ List.replicate (ys.length - i) 0))[i]? = some u := ⟨_, List.getElem?_eq_getElem (by have := HYL.out; simp [nums]; omega)⟩
              have hcj := (ho.cellAt i (by omega)).trans hu
              have HSP := Lib.hid (set_part hys)
              have HO := Lib.hid ho
              have HTI := Lib.hid ht
              have m0 : (0 : Int) ≤ (m : Int) := Int.natCast_nonneg _
              have m1 : (m : Int) < (xs.length : Int) := by omega
              have l0 : (0 : Int) ≤ (i : Int) := Int.natCast_nonneg _
              have l1 : (i : Int) < (pf.scope.length : Int) := by omega
              clear hv hy hys hu ho ht hbq hbw hxr x0 x1
              go_wp2_with fail
              go_roundw
              case measure => simp [intOf]; omega
              case rel => exact ⟨i + 1, by go_num, by omega, by rw [← HSP.out]; exact (HO.out.stored i _).1, HTI.out.put (p := ⟨pb, i, none⟩) _ rfl⟩
            · obtain rfl : i = pf.scope.length := by omega
              rw [← HYL.out, List.take_of_length_le (Nat.le_refl _), Nat.sub_self, List.replicate_zero, List.append_nil, HYL.out] at ho
              have hTr := HT.out.keep (Tch.of_below hbq (fun _ => False)) fun _ _ h => h
              have hts := tpOf_same pf f.k pf.lines
              have hget := tget_any hTr (by rw [hts.1]; exact HO1.out.1) (by rw [hts.1]; exact HO1.out.2.1) (some ⟨pb, 0, none⟩) pf.scope.length pf.scope.length ys (Reads.of_own ho) (by rw [hts.1, ← HYS.out]; exact part_in HO2.out HA.out)
              have hg1 := (Blk.four (t := 51) (Blk.under HGB.out hbq)).2.1
              have hgl : g < wr.heap.size := Blk.lt (Blk.under HGB.out hbq)
              obtain ⟨c1', c2'⟩ := get_in HO1.out ys
              obtain ⟨s1, s2⟩ := valTo_in HOK.out xs (f.funs.take j) fun x hx => List.mem_of_mem_take hx
              obtain ⟨c, hcq⟩ : ∃ c, (tpOf pf f.k pf.lines).get ys = c := ⟨_, rfl⟩
              obtain ⟨sm, hsm⟩ : ∃ sm, valTo f xs (f.funs.take j) = sm := ⟨_, rfl⟩
              rw [hcq] at hget c1' c2'
              rw [hsm] at s1 s2 ⊢
              have hadd := add_ok sm c f.k
              have hia : inB sm f.k = true := decide_eq_true ⟨⟨HOK.out.k1, HOK.out.k2⟩, s1, s2⟩
              have hib : inB c f.k = true := decide_eq_true ⟨⟨HOK.out.k1, HOK.out.k2⟩, c1', c2'⟩
              have HSM := Lib.hid hsm
              have HCQ := Lib.hid hcq
              have HBQ := Lib.hid hbq
              clear ho ht hTr hbq hbw hsm hcq hxr x0 hts
              go_wp2_with fail
              refine hget.mono ?_
              rintro e w5 ⟨rfl, hb5⟩
              clear hget
              have hg5 := ((bcell hb5).1 g 1 hgl).trans hg1
              have hadd := hadd w5 hia hib
              have HB5 := Lib.hid hb5
              clear hb5 hg1 x1
              go_wp2_with fail
              refine hadd.mono ?_
              rintro e w6 ⟨rfl, rfl⟩
              clear hadd
              go_wp2_with fail
              go_roundw
              case measure => simp [intOf]; omega
              case rel =>
                refine ⟨j + 1, by go_num, by omega, ?_, HB.out.trans ((HBQ.out.trans (HB5.out.mono HBQ.out.size)).mono HB.out.size)⟩
                rw [List.take_add_one, HFJ.out, Option.toList_some, valTo_snoc, HSM.out, HYS.out, HCQ.out]
        · obtain rfl : j = V.length := by omega
          have HB := Lib.hid (bto HB1.out hb)
          have HF : Hid (f.funs.take V.length = f.funs) := List.take_of_length_le (by rw [HVL.out]; exact Nat.le_refl _)
          clear hb
          go_wp2_with fail
          go_ret2
          refine ⟨?_, HB.out⟩
          show Ending.returned (.tuple #[.int .i64 (valTo f xs (f.funs.take V.length)), .int .i64 0]) = _
          rw [HF.out]
end Go.Proofs.YtafdijfbgkcnnaaDoor.wcp
