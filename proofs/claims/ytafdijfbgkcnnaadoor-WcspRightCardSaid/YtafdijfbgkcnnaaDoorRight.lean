/- May a file be told: one that was read. -/
import Derived.Test.YtafdijfbgkcnnaaDoorFits
import Derived.Test.YtafdijfbgkcnnaaDoorWordB
namespace Go.Proofs.YtafdijfbgkcnnaaDoor.wcp
open Go Go.RowKit Go.ChangeShapes Go.WideShapes Go.ChangeAt Go.Maps Go.Proofs.YtafdijfbgkcnnaaDoor.words Go.Proofs.YtafdijfbgkcnnaaDoor.scn
set_option linter.unusedVariables false
theorem fc_at {V : List FT} (h2 : ∀ p ∈ V, ∃ a b, p.1 = .agg #[a, b]) : ∀ {i : Nat} {a b : Value} {lo hi : Nat} {f : Raw}, V[i]? = some (.agg #[a, b], lo, hi, f) → (fcells V)[i * 2]? = some a ∧ (fcells V)[i * 2 + 1]? = some b := by
  induction V with
  | nil => intro i a b lo hi f h; simp at h
  | cons q V ih =>
    intro i a b lo hi f h
    obtain ⟨a', b', hq⟩ := h2 q (by simp)
    obtain ⟨qv, ql, qh, qf⟩ := q
    dsimp only at hq
    subst hq
    cases i with
    | zero =>
      simp at h
      obtain ⟨⟨rfl, rfl⟩, _⟩ := h
      exact ⟨rfl, rfl⟩
    | succ i =>
      have := ih (fun p hp => h2 p (by simp [hp])) (i := i) (by simpa using h)
      rw [show (i + 1) * 2 = i * 2 + 1 + 1 by omega]
      exact this
/-- a file that is right -/
structure OkFile (f : Fil) : Prop where
  name : IsWord f.name
  nlen : f.name.length ≤ 64
  k1 : 1 ≤ f.k
  k2 : f.k ≤ 2147483648
  s0 : f.sizes ≠ []
  s1 : ∀ v ∈ f.sizes, 1 ≤ v ∧ v ≤ 32
  s2 : f.sizes.length ≤ 64
  n : f.funs.length ≤ 256
  fs : ∀ x ∈ f.funs, okF x f.k ∧ FitF f.sizes x ∧ great x.sizes = false
/-- all that is read of it -/
def FilW (w : World) (g : Nat) (f : Fil) (SA : Option Addr) (sc : Nat) (FA : Option Addr) (fc : Nat) (V : List FT) : Prop :=
  V.map (·.2.2.2) = f.funs ∧ Blk w g 51 #[strV f.name, .int .i64 f.k, .slice SA f.sizes.length sc, .slice FA V.length fc] ∧
  w.ownsRow 0 3 1 (.slice SA f.sizes.length sc) f.sizes.length (nums f.sizes) ∧ w.ownsRow 0 55 2 (.slice FA V.length fc) V.length (fcells V) ∧
  (∀ p ∈ V, FunV w (fun k => p.2.1 ≤ k ∧ k < p.2.2.1) p.1 p.2.2.2 f.k)
theorem FilW.below {w w' : World} {g : Nat} {f : Fil} {SA : Option Addr} {sc : Nat} {FA : Option Addr} {fc : Nat} {V : List FT} (h : FilW w g f SA sc FA fc V) (hb : Below w.heap.size w w') : FilW w' g f SA sc FA fc V := by
  obtain ⟨h1, h2, h3, h4, h5⟩ := h
  exact ⟨h1, Blk.under h2 hb, own_under h3 hb, own_under h4 hb, fun p hp => (h5 p hp).off (S := fun _ => False) (Tch.of_below hb _) fun k h => h.elim⟩
set_option maxRecDepth 100000 in
set_option maxHeartbeats 8000000 in
theorem indexF_any {w : World} {g : Nat} {f : Fil} {SA : Option Addr} {sc : Nat} {FA : Option Addr} {fc : Nat} {V : List FT} (h : FilW w g f SA sc FA fc V) (hok : OkFile f) :
    Calls Tryd.prog 79 #[.slice FA V.length fc, .func (.func 60) #[.pointer (some ⟨g, 0, none⟩)] #[]] w fun e w' => e = .returned (.int .i64 (-1)) ∧ Below w.heap.size w w' := by
  have hVl : V.length ≤ 256 := by have := congrArg List.length h.1; simp at this; have := hok.n; omega
  have h2 : ∀ p ∈ V, ∃ a b, p.1 = .agg #[a, b] := fun p hp => by
    obtain ⟨v1, tg, e, _⟩ := h.2.2.2.2 p hp
    exact ⟨_, _, e⟩
  have HH := Lib.hid h
  have HOK := Lib.hid hok
  have H2 := Lib.hid h2
  clear h hok h2
  go_enter Tryd.func79, Tryd.ntmps79
  go_wp2_with fail
  go_loopw [5, 8] (fun _ jv wr => ∃ j : Nat, jv = .int .i64 j ∧ j ≤ V.length ∧ Below w.heap.size w wr) (fun _ jv _ => V.length - (intOf jv).toNat)
  case atStart => exact ⟨0, rfl, Nat.zero_le _, Below.refl _ _⟩
  case round =>
    obtain ⟨j, rfl, hj, hb⟩ := hrel
    by_cases hlt : j < V.length
    · have hw := HH.out.below hb
      obtain ⟨hV, hgb, hs, hrow, hfv⟩ := hw
      obtain ⟨p, hp⟩ : ∃ p, V[j]? = some p := ⟨_, List.getElem?_eq_getElem hlt⟩
      have hpm := List.mem_of_getElem? hp
      have hfp := hfv p hpm
      have hpx : p.2.2.2 ∈ f.funs := by rw [← hV]; exact List.mem_map_of_mem hpm
      obtain ⟨o1, o2, o3⟩ := HOK.out.fs _ hpx
      obtain ⟨a, b, hab⟩ := H2.out p hpm
      obtain ⟨pv, lo, hi, pf⟩ := p
      dsimp only at hab hfp hpx o1 o2 o3
      subst hab
      obtain ⟨c0, c1⟩ := fc_at H2.out hp
      obtain ⟨fq, rfl, _, _⟩ := own_some hrow (by omega)
      have d0 := (hrow.cellAt (j * 2) (by omega)).trans c0
      have d1 := (hrow.cellAt (j * 2 + 1) (by omega)).trans c1
      have hun := unfit_any hgb hs (by have := HOK.out.s2; omega) hfp o1 o2
      have i0 : (0 : Int) ≤ (j : Int) := Int.natCast_nonneg _
      have i1 : (j : Int) < (V.length : Int) := by omega
      obtain ⟨v1, tg, e1, ⟨⟨C1, k1, e2⟩, _⟩, _⟩ := hfp
      injection e1 with e1
      obtain ⟨rfl, rfl⟩ : a = v1 ∧ b = .pointer (some ⟨tg, 0, none⟩) := by simpa using e1
      subst e2
      have HB := Lib.hid hb
      clear hV hgb hs hrow hfv hp hpm c0 c1 hb e1 hpx
      go_wp2_with fail
      refine hun.mono ?_
      rintro e w2 ⟨rfl, hb2⟩
      clear hun
      have HB2 := Lib.hid (bto HB.out hb2)
      clear hb2 d0 d1
      go_wp2_with fail
      go_roundw
      case measure => simp [intOf]; omega
      case rel => exact ⟨j + 1, by go_num, by omega, HB2.out⟩
    · obtain rfl : j = V.length := by omega
      have HB := Lib.hid hb
      clear hb
      go_wp2_with fail
      go_ret
      exact ⟨rfl, HB.out⟩
theorem containsF_any {w : World} {g : Nat} {f : Fil} {SA : Option Addr} {sc : Nat} {FA : Option Addr} {fc : Nat} {V : List FT} (h : FilW w g f SA sc FA fc V) (hok : OkFile f) :
    Calls Tryd.prog 59 #[.slice FA V.length fc, .func (.func 60) #[.pointer (some ⟨g, 0, none⟩)] #[]] w fun e w' => e = .returned (.bool false) ∧ Below w.heap.size w w' := by
  have hi := indexF_any h hok
  clear h hok
  go_enter Tryd.func59, Tryd.ntmps59
  go_wp2_with fail
  refine hi.mono ?_
  rintro e w2 ⟨rfl, hb⟩
  clear hi
  go_wp2_with fail
  go_ret
  exact ⟨rfl, hb⟩
/-- lines of all functions -/
def linesOf (fs : List Raw) : Nat := fs.foldr (fun x n => x.lines.length + n) 0
theorem linesOf_take (fs : List Raw) (j : Nat) : linesOf (fs.take j) ≤ linesOf fs := by
  induction fs generalizing j with
  | nil => simp [linesOf]
  | cons x fs ih =>
    cases j with
    | zero => simp [linesOf]
    | succ j => have := ih j; simp only [List.take_succ_cons, linesOf, List.foldr_cons] at *; omega
theorem linesOf_snoc (fs : List Raw) (x : Raw) : linesOf (fs ++ [x]) = linesOf fs + x.lines.length := by
  induction fs with
  | nil => simp [linesOf]
  | cons y fs ih => simp only [List.cons_append, linesOf, List.foldr_cons] at *; omega
set_option maxRecDepth 100000 in
set_option maxHeartbeats 8000000 in
theorem fright_any {w : World} {g : Nat} {f : Fil} {SA : Option Addr} {sc : Nat} {FA : Option Addr} {fc : Nat} {V : List FT} (h : FilW w g f SA sc FA fc V) (hok : OkFile f) (hlin : linesOf f.funs ≤ 16384) :
    Calls Tryd.prog 26 #[.pointer (some ⟨g, 0, none⟩)] w fun e w' => e = .returned (.int .i64 0) ∧ Below w.heap.size w w' := by
  obtain ⟨i6, h60, h61, h62, h63⟩ := info_parts info64
  have hVl : V.length = f.funs.length := by have := congrArg List.length h.1; simpa using this
  have hV2 : V.length ≤ 256 := by have := hok.n; omega
  have hname := isword_any f.name hok.name (by have := hok.nlen; omega)
  have hbad := contains_fn_r SA f.sizes.length sc f.sizes
  have hsl := hok.s2
  have hs0 : (f.sizes.length : Int) ≠ 0 := by have := hok.s0; have := List.length_pos_iff.2 this; omega
  have hs00 : ((f.sizes.length : Int) == 0) = false := by simpa using hs0
  have hnl := hok.nlen
  have HOK := Lib.hid hok
  have HH := Lib.hid h
  have HLIN := Lib.hid hlin
  have HVL := Lib.hid hVl
  obtain ⟨q0, q1, q2, q3, -⟩ := Blk.four (t := 51) h.2.1
  clear h hok hlin hVl hs0
  go_enter Tryd.func26, Tryd.ntmps26
  go_wp2_with fail
  refine (hname w).mono ?_
  rintro e w1 ⟨rfl, hb1⟩
  have hw1 := HH.out.below hb1
  obtain ⟨q0, q1, q2, q3, -⟩ := Blk.four (t := 51) hw1.2.1
  have hbd := hbad w1 (by unfold maxLen; omega) (Reads.of_own hw1.2.2.1)
  rw [show anyBad f.sizes = false from by
    unfold anyBad; rw [List.any_eq_false]; intro x hx; have := HOK.out.s1 x hx; unfold badS; rw [decide_eq_true_eq]; omega] at hbd
  have hrt := right_any f.k w1
  rw [show rightB f.k = true from decide_eq_true ⟨HOK.out.k1, HOK.out.k2⟩] at hrt
  have hcf := containsF_any hw1 HOK.out
  have HW1 := Lib.hid hw1
  have HB1 := Lib.hid hb1
  clear hw1 hb1 hname hbad
  go_wp2_with fail
  refine hbd.mono ?_
  rintro e w2 ⟨rfl, rfl⟩
  clear hbd
  go_wp2_with fail
  refine hrt.mono ?_
  rintro e w2 ⟨rfl, rfl⟩
  clear hrt
  go_wp2_with fail
  refine hcf.mono ?_
  rintro e w2 ⟨rfl, hb2⟩
  clear hcf
  have hw2 := HW1.out.below hb2
  obtain ⟨q0, q1, q2, q3, -⟩ := Blk.four (t := 51) hw2.2.1
  have HW2 := Lib.hid hw2
  have HB2 := Lib.hid (bto HB1.out hb2)
  clear hw2 hb2
  go_wp2_with fail
  clear q0 q1 q2 q3
  go_loopw [4, 5, 7, 8, 10, 79, 92] (fun lv bv _ _ _ jv _ wr => ∃ (j t : Nat), lv = .int .i64 t ∧ bv = .bool false ∧ jv = .int .i64 j ∧ j ≤ V.length ∧ t ≤ linesOf (f.funs.take j) ∧ Below w2.heap.size w2 wr) (fun _ _ _ _ _ jv _ _ => V.length - (intOf jv).toNat)
  case atStart => exact ⟨0, 0, rfl, by rw [decide_eq_false (show ¬ (64 : Int) < f.name.length by omega), decide_eq_false (show ¬ (64 : Int) < f.sizes.length by omega), decide_eq_false (show ¬ (256 : Int) < V.length by omega)]; rfl, rfl, Nat.zero_le _, Nat.zero_le _, Below.refl _ _⟩
  case round =>
    obtain ⟨j, t, rfl, rfl, rfl, hj, ht, hb⟩ := hrel
    have htb : t ≤ 16384 := by have := linesOf_take f.funs j; have := HLIN.out; omega
    by_cases hlt : j < V.length
    · have hw := HW2.out.below hb
      obtain ⟨hV, hgb, hs, hrow, hfv⟩ := hw
      obtain ⟨p, hp⟩ : ∃ p, V[j]? = some p := ⟨_, List.getElem?_eq_getElem hlt⟩
      have hpm := List.mem_of_getElem? hp
      have hfp := hfv p hpm
      have hpx : p.2.2.2 ∈ f.funs := by rw [← hV]; exact List.mem_map_of_mem hpm
      have hfj : f.funs[j]? = some p.2.2.2 := by rw [← hV, List.getElem?_map, hp]; rfl
      obtain ⟨o1, o2, o3⟩ := HOK.out.fs _ hpx
      have h2 : ∀ p ∈ V, ∃ a b, p.1 = .agg #[a, b] := fun p hp => by
        obtain ⟨v1, tg, e, _⟩ := hfv p hp
        exact ⟨_, _, e⟩
      obtain ⟨pv, lo, hi, pf⟩ := p
      dsimp only at hfp hpx hfj o1 o2 o3
      obtain ⟨v1, tg, rfl, ⟨⟨C1, k1, rfl⟩, _⟩, _, hT⟩ := hfp
      obtain ⟨c0, c1⟩ := fc_at h2 hp
      obtain ⟨fq, rfl, _, _⟩ := own_some hrow (by omega)
      have d0 := (hrow.cellAt (j * 2) (by omega)).trans c0
      have d1 := (hrow.cellAt (j * 2 + 1) (by omega)).trans c1
      have hb1 := bone wr (.cells #[.slice C1 pf.scope.length k1, .pointer (some ⟨tg, 0, none⟩)] 55)
      have hx : Blk (wr.alloc (.cells #[.slice C1 pf.scope.length k1, .pointer (some ⟨tg, 0, none⟩)] 55)) wr.heap.size 55 #[.slice C1 pf.scope.length k1, .pointer (some ⟨tg, 0, none⟩)] := Blk.new _ _ _
      obtain ⟨x0, x1⟩ := hx.two
      have hT1 := hT.keep (Tch.of_below hb1 (fun _ => False)) fun _ _ h => h
      have hln := tlen_any hT1
      have hsz := tsizes_any hT1 (by rw [(tpOf_same pf f.k pf.lines).1]; exact o1.1)
      rw [(tpOf_same pf f.k pf.lines).1] at hsz
      have ht2 : linesOf (f.funs.take (j + 1)) = linesOf (f.funs.take j) + pf.lines.length := by rw [List.take_add_one, hfj]; exact linesOf_snoc _ _
      have hlb := linesOf_take f.funs (j + 1)
      have i0 : (0 : Int) ≤ (j : Int) := Int.natCast_nonneg _
      have i1 : (j : Int) < (V.length : Int) := by omega
      have HB := Lib.hid hb
      have HB1 := Lib.hid hb1
      have HO1 := Lib.hid o1
      have HO3 := Lib.hid o3
      have HT2 := Lib.hid ht2
      have HLB := Lib.hid hlb
      have HLT := Lib.hid ht
      have HXX := Lib.hid hx
      clear hV hgb hs hrow hfv hp hpm hfj h2 c0 c1 hb hb1 hx hT hT1 o1 o2 o3 hpx ht2 hlb ht
      go_wp2_with fail
      refine hln.mono ?_
      rintro e w3 ⟨⟨m, rfl, hm⟩, rfl⟩
      clear hln
      have hmb : m ≤ 16384 := by have := HT2.out; have := HLB.out; have := HLIN.out; omega
      have HM := Lib.hid hm
      clear hm
      go_wp2_with fail
      refine hsz.mono ?_
      rintro e w4 ⟨A4, c4, rfl, ho4, hb4⟩
      clear hsz
      have HB4 := Lib.hid (bto HB1.out hb4)
      have hsl6 : pf.sizes.length ≤ 6 := HO1.out.1
      have HO4 := Lib.hid ho4
      clear ho4 hb4
      go_wp2_with fail
      obtain ⟨wo, hwo⟩ : ∃ wo : World, wo = wr := ⟨_, rfl⟩
      rw [← hwo] at HB HB4 HB1
      clear hwo
      go_loopw [8, 10, 92] (fun ov _ iv wy => ∃ (i : Nat) (A5 : Option Addr) (c5 : Nat), iv = .int .i64 i ∧ i ≤ pf.sizes.length ∧ ov = .slice A5 i c5 ∧ wy.ownsRow w4.heap.size 2 1 (.slice A5 i c5) i (nums (pf.sizes.take i)) ∧ Below w4.heap.size w4 wy) (fun _ _ iv _ => pf.sizes.length - (intOf iv).toNat)
      case atStart => exact ⟨0, none, 0, rfl, Nat.zero_le _, rfl, World.ownsRow_nil _ _ _ _, Below.refl _ _⟩
      case round =>
        obtain ⟨i, A5, c5, rfl, hi2, rfl, ho5, hb5⟩ := hrel
        by_cases hlti : i < pf.sizes.length
        · obtain ⟨ad, y, rfl, _, hy, hc⟩ := ((Reads.of_own HO4.out).below hb5).num hlti
          have hA1 := ho5.alloc (.cells #[.int .i64 y] 2)
          have hr1 : Reads (wr.alloc (.cells #[.int .i64 y] 2)) (wr.alloc (.cells #[.int .i64 y] 2)).heap.size 1 (some ⟨wr.heap.size, 0, none⟩) 1 (nums [y]) := reads_block (t := 2) (heap_alloc_new _ _) rfl
          have hszz : w4.heap.size ≤ (wr.alloc (.cells #[.int .i64 y] 2)).heap.size := by have := hb5.size; simp; omega
          have OZ := Lib.hid hA1
          have HY := Lib.hid hy
          have HB5 := Lib.hid hb5
          clear ho5 hb5 hy
          go_wp2_with (first
            | (at_builtin; refine wpList_append_any _ rfl (.tmp 96) (.tmp 98) _ rfl w4.heap.size 2 i6 _ 1 8 Tryd.underlying34 h60 h61 h62 h63 rfl (by omega) (.slice A5 i c5) i _ rfl hA1 (wr.alloc (.cells #[.int .i64 y] 2)).heap.size (some ⟨wr.heap.size, 0, none⟩) 1 1 (nums [y]) rfl hr1 nums_one (by simp only [maxLen]; omega) (by omega) hszz ?_; intro v6 w6 hown6 hg6 hat6; clear hat6; obtain ⟨A6, c6, rfl⟩ := own_shape hown6; have HO6 := Lib.hid hown6; have HG6 : Hid ((wr.alloc (.cells #[.int .i64 y] 2)).grownBy w6 (Value.slice A5 i c5).ownBlock) := hg6; clear hown6 hg6 hA1 hr1)
            | fail)
          go_roundw
          case measure => simp [intOf]; omega
          case rel =>
            refine ⟨i + 1, A6, c6, by go_num, by omega, rfl, ?_, ?_⟩
            · rw [List.take_add_one, HY.out, show nums (pf.sizes.take i ++ (some y).toList) = nums (pf.sizes.take i) ++ nums [y] by simp [nums]]; exact HO6.out
            · exact ((HB5.out.trans ((bone wr (.cells #[.int .i64 y] 2)).mono HB5.out.size))).trans ((Tch.of_grown HG6.out (S := fun q => some q = (Value.slice A5 i c5).ownBlock) fun q _ hq => hq).below (by have := HB5.out.size; simp; omega) fun q hq h => by have := (own_in OZ.out h.symm).1; omega)
        · obtain rfl : i = pf.sizes.length := by omega
          rw [List.take_of_length_le (Nat.le_refl _)] at ho5
          have hgt := great_any A5 pf.sizes.length c5 pf.sizes wr (by omega) (Reads.of_own ho5) (fun z hz => (HO1.out.2.1 z hz).1)
          rw [HO3.out] at hgt
          have HB5 := Lib.hid hb5
          clear ho5 hb5
          go_wp2_with fail
          refine hgt.mono ?_
          rintro e w5 ⟨rfl, rfl⟩
          clear hgt
          go_wp2_with fail
          go_roundw
          case measure => simp [intOf]; omega
          case rel =>
            refine ⟨j + 1, t + m, by go_num, rfl, by go_num, by omega, by have := HT2.out; have := HLT.out; have := HM.out; omega, ?_⟩
            exact (HB.out.trans (HB4.out.mono HB.out.size)).trans (HB5.out.mono (by have := HB.out.size; have := HB4.out.size; omega))
    · obtain rfl : j = V.length := by omega
      have HB := Lib.hid (bto HB2.out hb)
      have htI : decide ((16384 : Int) < (t : Int)) = false := decide_eq_false (by omega)
      clear hb
      go_wp2_with fail
      go_ret
      exact ⟨rfl, HB.out⟩
end Go.Proofs.YtafdijfbgkcnnaaDoor.wcp
