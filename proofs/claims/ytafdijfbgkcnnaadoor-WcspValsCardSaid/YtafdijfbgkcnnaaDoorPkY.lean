/- PkY: QVal, ValBad, TellQ, Fields, FileOk, LinesB, ValsL, one behind the other. -/
import Derived.Test.YtafdijfbgkcnnaaDoorPkX
import Derived.Test.YtafdijfbgkcnnaaDoorVal
import Derived.Test.YtafdijfbgkcnnaaDoorAwk
import Derived.Test.YtafdijfbgkcnnaaDoorScLaw
import Derived.Test.YtafdijfbgkcnnaaDoorScJoin
import Derived.Test.YtafdijfbgkcnnaaDoorRight
import Derived.Test.YtafdijfbgkcnnaaDoorByteClone
/- The document's costs: of a function, of an assignment. -/
namespace Go.Proofs.YtafdijfbgkcnnaaDoor.wcp
open Go Go.RowKit Go.ChangeShapes Go.WideShapes Go.ChangeAt Go.Maps Go.Proofs.YtafdijfbgkcnnaaDoor.words Go.Proofs.YtafdijfbgkcnnaaDoor.scn
set_option linter.unusedVariables false
/-- the last cost that is told of t, or the others' -/
def lastC (o : Int) (ls : List (List Int × Int)) (t : List Int) : Int := ls.foldl (fun c l => if l.1 = t then l.2 else c) o
theorem lastC_snoc (o : Int) (ls : List (List Int × Int)) (l : List Int × Int) (t : List Int) : lastC o (ls ++ [l]) t = if l.1 = t then l.2 else lastC o ls t := by unfold lastC; rw [List.foldl_append]; rfl
theorem putF_get (T : TpH) (t u : List Int) (c : Int) : (putF T t c).get u = if t = u then c else T.get u := by
  unfold TpH.get putF
  dsimp only
  by_cases hc : c = T.other
  · rw [if_pos hc]
    by_cases h : t = u
    · subst h; simp [hc]
    · rw [if_neg (fun e => h e.symm), if_neg h]
  · rw [if_neg hc]
    by_cases h : t = u
    · subst h; simp
    · rw [if_neg (fun e => h e.symm), if_neg h]
theorem get_last (f : Raw) (K : Int) (u : List Int) : ∀ ls : List (List Int × Int), (tpOf f K ls).get u = min (lastC f.other ls u) K := by
  intro ls
  generalize hn : ls.length = n
  induction n generalizing ls with
  | zero =>
    obtain rfl := List.eq_nil_of_length_eq_zero hn
    unfold lastC tpOf TpH.get
    rfl
  | succ n ih =>
    obtain ⟨l0, l, rfl⟩ : ∃ l0 l, ls = l0 ++ [l] := ⟨ls.dropLast, ls.getLast (by intro h; rw [h] at hn; cases hn), (List.dropLast_concat_getLast _).symm⟩
    rw [tpOf_snoc, putF_get, lastC_snoc, ih l0 (by simpa using hn)]
    split <;> rfl
theorem less_any (a b : Int) (w : World) : Calls Tryd.prog 75 #[.int .i64 a, .int .i64 b] w fun e w' => e = .returned (.int .i64 (min a b)) ∧ w = w' := by
  by_cases h : a < b
  · have hI : decide (a < b) = true := decide_eq_true h
    have hm : min a b = a := by omega
    rw [hm]
    clear h hm
    go_enter Tryd.func75, Tryd.ntmps75
    go_wp2
    go_ret
    exact ⟨rfl, rfl⟩
  · have hI : decide (a < b) = false := decide_eq_false h
    have hm : min a b = b := by omega
    rw [hm]
    clear h hm
    go_enter Tryd.func75, Tryd.ntmps75
    go_wp2
    go_ret
    exact ⟨rfl, rfl⟩
theorem radd_any (a b k : Int) (ha : -4611686018427387904 ≤ a ∧ a ≤ 4611686018427387903) (hb : -4611686018427387904 ≤ b ∧ b ≤ 4611686018427387903) (w : World) : Calls Tryd.prog 47 #[.int .i64 a, .int .i64 b, .int .i64 k] w fun e w' => e = .returned (.int .i64 (min (a + b) k)) ∧ w = w' := by
  by_cases h : k < a + b
  · have hI : decide (k < a + b) = true := decide_eq_true h
    have hm : min (a + b) k = k := by omega
    rw [hm]
    clear h hm
    go_enter Tryd.func47, Tryd.ntmps47
    go_wp2
    go_ret
    exact ⟨rfl, rfl⟩
  · have hI : decide (k < a + b) = false := decide_eq_false h
    have hm : min (a + b) k = a + b := by omega
    rw [hm]
    clear h hm
    go_enter Tryd.func47, Tryd.ntmps47
    go_wp2
    go_ret
    exact ⟨rfl, rfl⟩
set_option maxRecDepth 100000 in
set_option maxHeartbeats 8000000 in
theorem qcost_any {w : World} {v1 v2 v4 : Value} {o : Int} {f : Raw} (h : QFn w v1 v2 o v4 f) (A : Option Addr) (n cap : Nat) (t : List Int) (hr : Reads w w.heap.size 1 A n (nums t)) (hn : n ≤ 1000000) (k : Int) :
    Calls Tryd.prog 48 #[.agg #[v1, v2, .int .i64 o, v4], .slice A n cap, .int .i64 k] w fun e w' => e = .returned (.int .i64 (min (lastC f.other f.lines t) k)) ∧ Below w.heap.size w w' := by
  obtain ⟨rfl, ⟨⟨A1, c1, rfl⟩, -⟩, ⟨⟨A2, c2, rfl⟩, -⟩, L, hL, ⟨A4, c4, rfl⟩, hown, hrows⟩ := h
  have hb1 := bone w (.cells #[.slice A1 f.scope.length c1, .slice A2 f.sizes.length c2, .int .i64 f.other, .slice A4 L.length c4] 106)
  obtain ⟨x0, x1, x2, x3, -⟩ := Blk.four (t := 106) (Blk.new w 106 #[.slice A1 f.scope.length c1, .slice A2 f.sizes.length c2, .int .i64 f.other, .slice A4 L.length c4])
  have hlm := own_max hown
  obtain ⟨w1, hw1⟩ : ∃ w1, w.alloc (.cells #[.slice A1 f.scope.length c1, .slice A2 f.sizes.length c2, .int .i64 f.other, .slice A4 L.length c4] 106) = w1 := ⟨_, rfl⟩
  rw [hw1] at hb1 x0 x1 x2 x3
  have HB1 := Lib.hid hb1
  have HO := Lib.hid (own_under hown hb1)
  have HR := Lib.hid (hr.below hb1 |>.more hb1.size)
  have HRO := Lib.hid (fun p hp => (hrows p hp).tch (Tch.of_below hb1 (fun _ => False)) (fun _ h => h.elim))
  have HL := Lib.hid hL
  have htl := nums_len hr
  have HTL := Lib.hid htl
  clear hown hrows hr hb1 hL htl
  go_enter Tryd.func48, Tryd.ntmps48
  go_wp2_with fail
  clear x0 x1 x2 x3 hw1
  go_loopw [7, 15] (fun cv jv wr => ∃ j : Nat, jv = .int .i64 j ∧ j ≤ L.length ∧ cv = .int .i64 (lastC f.other (f.lines.take j) t) ∧ Hid (Below w1.heap.size w1 wr)) (fun _ jv _ => L.length - (intOf jv).toNat)
  case atStart => exact ⟨0, rfl, Nat.zero_le _, rfl, Below.refl _ _⟩
  case round =>
    obtain ⟨j, rfl, hj, rfl, hb⟩ := hrel
    by_cases hjl : j < L.length
    · obtain ⟨p, hp⟩ : ∃ p, L[j]? = some p := ⟨_, List.getElem?_eq_getElem hjl⟩
      have ho := own_under HO.out hb.out
      obtain ⟨q4, rfl, -, -⟩ := own_some ho (by omega)
      obtain ⟨⟨tA, tC, htv⟩, hro⟩ := HRO.out p (List.mem_of_getElem? hp)
      obtain ⟨tv, tu, tk⟩ := p
      dsimp only at htv hro
      subst htv
      have hfl : f.lines[j]? = some (tu, tk) := by rw [← HL.out, List.getElem?_map, hp]; rfl
      obtain ⟨e1, e2⟩ := qlc_at hp
      have c40 := (ho.cellAt (j * 2) (by omega)).trans e1
      have c41 := (ho.cellAt (j * 2 + 1) (by omega)).trans e2
      have jI : decide ((j : Int) < (L.length : Int)) = true := decide_eq_true (by omega)
      have i0 : (0 : Int) ≤ (j : Int) := Int.natCast_nonneg _
      have i1 : (j : Int) < (L.length : Int) := by omega
      have hby := bone wr (.cells #[.slice tA tu.length tC, .int .i64 tk] 150)
      obtain ⟨z0, z1⟩ := Blk.two (Blk.new wr 150 #[.slice tA tu.length tC, .int .i64 tk])
      obtain ⟨wy, hwy⟩ : ∃ wy, wr.alloc (.cells #[.slice tA tu.length tC, .int .i64 tk] 150) = wy := ⟨_, rfl⟩
      rw [hwy] at hby z0 z1
      have hbb : Below w1.heap.size w1 wy := hb.out.trans (hby.mono hb.out.size)
      have hsm := same_ref tA A tu.length n tC cap tu t wy (own_max hro) (by omega) (Reads.of_own (own_under hro hbb)) ((HR.out.below hbb).more hbb.size)
      have hst : lastC f.other (f.lines.take (j + 1)) t = if tu = t then tk else lastC f.other (f.lines.take j) t := by rw [List.take_add_one, hfl]; exact lastC_snoc _ _ _ _
      have HST := Lib.hid hst
      have HBB := Lib.hid hbb
      have hlt2 : wr.heap.size < wy.heap.size := by rw [← hwy]; simp
      clear hp ho hro hfl e1 e2 hby hbb hst
      go_wp2_with fail
      refine hsm.mono ?_
      rintro e w7 ⟨rfl, hb7⟩
      have HB7 := Lib.hid (HBB.out.trans (hb7.mono HBB.out.size))
      have z1' := ((bcell hb7).1 wr.heap.size 1 hlt2).trans z1
      clear hsm hb7 z0 z1 c40 c41 hwy hlt2
      by_cases hE : tu = t
      · have hEb : eqB tu t = true := decide_eq_true hE
        have HE := Lib.hid hE
        clear hE
        go_wp2_with fail
        go_roundw
        case measure => simp [intOf]; omega
        case rel => exact ⟨j + 1, by go_num, hjl, by rw [HST.out, if_pos HE.out], HB7⟩
      · have hEb : eqB tu t = false := decide_eq_false hE
        have HE := Lib.hid hE
        clear hE z1'
        go_wp2_with fail
        go_roundw
        case measure => simp [intOf]; omega
        case rel => exact ⟨j + 1, by go_num, hjl, by rw [HST.out, if_neg HE.out], HB7⟩
    · obtain rfl : j = L.length := by omega
      have jI : decide ((L.length : Int) < (L.length : Int)) = false := decide_eq_false (by omega)
      have hll : L.length = f.lines.length := by rw [← HL.out]; simp
      have hls := less_any (lastC f.other (f.lines.take L.length) t) k wr
      rw [List.take_of_length_le (by omega)] at hls ⊢
      clear hll
      go_wp2_with fail
      refine hls.mono ?_
      rintro e w8 ⟨rfl, rfl⟩
      go_wp2_with fail
      go_ret
      exact ⟨rfl, HB1.out.trans (hb.out.mono HB1.out.size)⟩
theorem QFn.below {w w' : World} {v1 v2 v4 : Value} {o : Int} {f : Raw} (h : QFn w v1 v2 o v4 f) (hb : Below w.heap.size w w') : QFn w' v1 v2 o v4 f := h.tch (Tch.of_below hb (fun _ => False)) (fun _ h => h.elim) (fun _ h => h.elim)
theorem QFileV.below {w w' : World} {B g : Nat} {f : Fil} (h : QFileV w B g f) (hb : Below w.heap.size w w') : QFileV w' B g f := by
  obtain ⟨vz, vf, V, h1, h2, h3, h4, h5, h6⟩ := h
  exact ⟨vz, vf, V, h1, h2.under hb, h3.tch (Tch.of_below hb (fun _ => False)) (fun _ h => h.elim), h4, own_under h5 hb, fun p hp => (h6 p hp).below hb⟩
set_option maxRecDepth 100000 in
set_option maxHeartbeats 8000000 in
theorem qval_any {w : World} {B g : Nat} {f : Fil} (h : QFileV w B g f) (hok : OkFile f) (A : Option Addr) (n cap : Nat) (xs : List Int) (hr : Reads w w.heap.size 1 A n (nums xs)) (ha : InS f.sizes xs) :
    Calls Tryd.prog 15 #[.pointer (some ⟨g, 0, none⟩), .slice A n cap] w fun e w' => e = .returned (.int .i64 (valTo f xs f.funs)) ∧ Below w.heap.size w w' := by
  obtain ⟨i6, h60, h61, h62, h63⟩ := info_parts info64
  obtain ⟨vz, vf, V, hV, hfb, hzr, ⟨FA, fc, rfl⟩, hfo, hfv⟩ := h
  have hln := nums_len hr
  subst hln
  have hVl : V.length = f.funs.length := by rw [← hV]; simp
  have hVn : V.length ≤ 256 := by have := hok.n; omega
  have hx64 : xs.length ≤ 64 := by have := ha.1; have := hok.s2; omega
  obtain ⟨x0, x1, x2, x3, -⟩ := Blk.four (t := 37) hfb
  have hgw := hfb.lt
  have X1 := Lib.hid x1
  have HV := Lib.hid hV
  have HFO := Lib.hid hfo
  have HFV := Lib.hid hfv
  have HR := Lib.hid hr
  have HA := Lib.hid ha
  have HOK := Lib.hid hok
  have HVL := Lib.hid hVl
  clear hV hfb hzr hfo hfv hr ha hok hVl
  go_enter Tryd.func15, Tryd.ntmps15
  go_wp2_with fail
  clear x0 x1 x2 x3
  go_loopw [5, 16] (fun cv jv wr => ∃ j : Nat, jv = .int .i64 j ∧ j ≤ V.length ∧ cv = .int .i64 (valTo f xs (f.funs.take j)) ∧ Hid (Below w.heap.size w wr)) (fun _ jv _ => V.length - (intOf jv).toNat)
  case atStart => exact ⟨0, rfl, Nat.zero_le _, rfl, Below.refl _ _⟩
  case round =>
    obtain ⟨j, rfl, hj, rfl, hb⟩ := hrel
    obtain ⟨wl, hwl⟩ : ∃ wl, wl = wr := ⟨_, rfl⟩
    subst hwl
    by_cases hjl : j < V.length
    · obtain ⟨p, hp⟩ : ∃ p, V[j]? = some p := ⟨_, List.getElem?_eq_getElem hjl⟩
      have ho := own_under HFO.out hb.out
      obtain ⟨q4, rfl, -, -⟩ := own_some ho (by omega)
      have hpm := List.mem_of_getElem? hp
      have hfn := (HFV.out p hpm).below hb.out
      obtain ⟨⟨v1, v2, o, v4⟩, x⟩ := p
      obtain ⟨e0, e1, e2, e3⟩ := qc_at hp
      dsimp only at hfn e0 e1 e2 e3
      have hxf : f.funs[j]? = some x := by rw [← HV.out, List.getElem?_map, hp]; rfl
      have hxm : x ∈ f.funs := List.mem_of_getElem? hxf
      obtain ⟨rfl, ⟨⟨S1, d1, rfl⟩, hso⟩, ⟨⟨S2, d2, rfl⟩, hzo⟩, hl4⟩ := id hfn
      obtain ⟨L, hL, ⟨S4, d4, rfl⟩, hlo, hlr⟩ := hl4
      have c40 := (ho.cellAt (j * 4) (by omega)).trans e0
      have c41 := (ho.cellAt (j * 4 + 1) (by omega)).trans e1
      have c42 := (ho.cellAt (j * 4 + 2) (by omega)).trans e2
      have c43 := (ho.cellAt (j * 4 + 3) (by omega)).trans e3
      have jI : decide ((j : Int) < (V.length : Int)) = true := decide_eq_true (by omega)
      have i0 : (0 : Int) ≤ (j : Int) := Int.natCast_nonneg _
      have i1 : (j : Int) < (V.length : Int) := by omega
      have hby := bone wl (.cells #[.slice S1 x.scope.length d1, .slice S2 x.sizes.length d2, .int .i64 x.other, .slice S4 L.length d4] 106)
      have hyb : Blk (wl.alloc (.cells #[.slice S1 x.scope.length d1, .slice S2 x.sizes.length d2, .int .i64 x.other, .slice S4 L.length d4] 106)) wl.heap.size 106 #[.slice S1 x.scope.length d1, .slice S2 x.sizes.length d2, .int .i64 x.other, .slice S4 L.length d4] := Blk.new _ _ _
      obtain ⟨wy, hwy⟩ : ∃ wy, wl.alloc (.cells #[.slice S1 x.scope.length d1, .slice S2 x.sizes.length d2, .int .i64 x.other, .slice S4 L.length d4] 106) = wy := ⟨_, rfl⟩
      rw [hwy] at hby hyb
      obtain ⟨z0, z1, z2, z3, -⟩ := Blk.four (t := 106) hyb
      have hbb : Below w.heap.size w wy := hb.out.trans (hby.mono hb.out.size)
      obtain ⟨hokx, hfit, -⟩ := HOK.out.fs x hxm
      have hsl : x.scope.length ≤ 6 := hokx.2.2.2.2.2.2.2
      have HSO := Lib.hid (own_under hso hby)
      have HFN := Lib.hid (hfn.below hby)
      have HYB := Lib.hid hyb
      have HBB := Lib.hid hbb
      have HOKX := Lib.hid hokx
      have HFIT := Lib.hid hfit
      have HXF := Lib.hid hxf
      have HXM := Lib.hid hxm
      clear hp ho hpm hfn e0 e1 e2 e3 hxf hxm hso hzo hlo hlr hL hby hyb hbb hokx hfit
      go_wp2_with fail
      clear c40 c41 c42 c43 z0 z1 z2 z3 hwy
      go_loopw [8, 23] (fun tv jv wq => ∃ (m : Nat) (ys : List Int) (T : Option Addr) (c : Nat), jv = .int .i64 m ∧ m ≤ x.scope.length ∧ tv = .slice T ys.length c ∧ Hid (ys = (x.scope.take m).map fun v => xs.getD v.toNat 0) ∧ Hid (wq.ownsRow wy.heap.size 2 1 (.slice T ys.length c) ys.length (nums ys)) ∧ Hid (Below wy.heap.size wy wq)) (fun _ jv _ => x.scope.length - (intOf jv).toNat)
      case atStart => exact ⟨0, [], none, 0, rfl, Nat.zero_le _, rfl, rfl, World.ownsRow_nil _ _ _ _, Below.refl _ _⟩
      case round =>
        obtain ⟨m, ys, T, c, rfl, hm, rfl, hys, hown, hbq⟩ := hrel
        by_cases hml : m < x.scope.length
        · obtain ⟨ad, v, rfl, -, hv, hc⟩ := (Reads.of_own (own_under HSO.out hbq.out)).num hml
          obtain ⟨v0, v1⟩ := HFIT.out.1 v (List.mem_of_getElem? hv)
          have hxl := HA.out.1
          obtain ⟨mv, rfl⟩ : ∃ mv : Nat, v = (mv : Int) := ⟨v.toNat, by omega⟩
          have hbw : Below w.heap.size w wr := HBB.out.trans (hbq.out.mono HBB.out.size)
          obtain ⟨ad2, y, rfl, -, hy, hc2⟩ := ((HR.out.below hbw).more hbw.size).num (k := mv) (by omega)
          have jI2 : decide ((m : Int) < (x.scope.length : Int)) = true := decide_eq_true (by omega)
          have i2 : (0 : Int) ≤ (mv : Int) := Int.natCast_nonneg _
          have i3 : (mv : Int) < (xs.length : Int) := by omega
          have hA6 := hown.out.alloc (.cells #[.int .i64 y] 2)
          have hr6 : Reads (wr.alloc (.cells #[.int .i64 y] 2)) (wr.alloc (.cells #[.int .i64 y] 2)).heap.size 1 (some ⟨wr.heap.size, 0, none⟩) 1 (nums [y]) := reads_block (t := 2) (heap_alloc_new _ _) rfl
          have hs6 : wy.heap.size ≤ (wr.alloc (.cells #[.int .i64 y] 2)).heap.size := by have := hbq.out.size; simp; omega
          have hyl : ys.length ≤ 6 := by rw [hys.out]; simp; omega
          have hy1 : ys ++ [y] = (x.scope.take (m + 1)).map fun v => xs.getD v.toNat 0 := by
            rw [List.take_add_one, hv, List.map_append, ← hys.out]
            simp [List.getD_eq_getElem?_getD, hy]
          have HY1 := Lib.hid hy1
          have HOW := hown
          clear hv hy hxl hbw hy1 hown
          go_wp2_with (first
            | (at_builtin; refine wpList_append_any _ rfl (.tmp 27) (.tmp 32) _ rfl wy.heap.size 2 i6 _ 1 8 Tryd.underlying34 h60 h61 h62 h63 rfl (by omega) (.slice T ys.length c) ys.length _ rfl hA6 (wr.alloc (.cells #[.int .i64 y] 2)).heap.size (some ⟨wr.heap.size, 0, none⟩) 1 1 (nums [y]) rfl hr6 nums_one (by simp only [maxLen]; omega) (by omega) hs6 ?_; intro v6 w6 hown6 hg6 hat6; obtain ⟨A6, c6, rfl⟩ := own_shape hown6; have HO6 := Lib.hid hown6; have HB6 : Hid (Below wy.heap.size wy w6) := (Tch.of_grown hg6 (S := fun k => some k = (Value.slice T ys.length c).ownBlock) fun q _ hq => hq).below hs6 (fun i hi hk => by have := (own_in hA6 hk.symm).1; omega) |> fun h => (hbq.out.trans ((bone wr (.cells #[.int .i64 y] 2)).mono hbq.out.size)).trans h; clear hown6 hg6 hat6 hA6 hr6)
            | fail)
          go_roundw
          case measure => simp [intOf]; omega
          case rel =>
            have hl : (ys ++ [y]).length = ys.length + 1 := by simp
            exact ⟨m + 1, ys ++ [y], A6, c6, by go_num, hml, by rw [hl], HY1.out, by rw [hl, show nums (ys ++ [y]) = nums ys ++ nums [y] by simp [nums]]; exact HO6.out, HB6⟩
        · obtain rfl : m = x.scope.length := by omega
          have jI2 : decide ((x.scope.length : Int) < (x.scope.length : Int)) = false := decide_eq_false (by omega)
          rw [List.take_of_length_le (Nat.le_refl _)] at hys
          have hyp : ys = part x xs := hys.out
          have hyl : ys.length ≤ 6 := by rw [hyp]; simp [part]; omega
          have hbw : Below w.heap.size w wr := HBB.out.trans (hbq.out.mono HBB.out.size)
          have hk1 := ((bcell hbw).1 g 1 hgw).trans X1.out
          obtain ⟨z0, z1, z2, z3, -⟩ := Blk.four (t := 106) (HYB.out.under hbq.out)
          have hfn2 := HFN.out.below hbq.out
          have hcs := qcost_any (w := wr.drew) (show QFn wr.drew _ _ _ _ _ from hfn2) T ys.length c ys (Reads.of_own hown.out) (by omega) f.k
          have hgi := get_in HOKX.out (part x xs)
          rw [get_last x f.k (part x xs) x.lines, ← hyp] at hgi
          have hvi := valTo_in HOK.out xs (f.funs.take j) (fun y hy => List.mem_of_mem_take hy)
          have hk2 := HOK.out.k2
          obtain ⟨C, hC⟩ : ∃ C, min (lastC x.other x.lines ys) f.k = C := ⟨_, rfl⟩
          rw [hC] at hcs hgi
          have hst : min (valTo f xs (f.funs.take j) + C) f.k = valTo f xs (f.funs.take (j + 1)) := by
            rw [List.take_add_one, HXF.out, ← hC, hyp, ← get_last x f.k (part x xs) x.lines]
            exact (valTo_snoc f xs _ x).symm
          obtain ⟨VJ, hVJ⟩ : ∃ VJ, valTo f xs (f.funs.take j) = VJ := ⟨_, rfl⟩
          rw [hVJ] at hst hvi ⊢
          have hadd := fun W : World => radd_any VJ C f.k ⟨by omega, by omega⟩ ⟨by omega, by omega⟩ W
          rw [hst] at hadd
          have HBW := Lib.hid hbw
          have hgr : g < wr.heap.size := by have := hbw.size; omega
          have K1 := Lib.hid hk1
          have Z := Lib.hid (And.intro z0 (And.intro z1 (And.intro z2 z3)))
          have hlw : wl.heap.size < wr.heap.size := Blk.lt (HYB.out.under hbq.out)
          clear hyp hgi hvi hst hbw hfn2
          go_upto_region 11 with fail
          go_region_held3 (fun V => V.cell? ⟨g, 1, none⟩ = some (.int .i64 f.k) ∧ V.cell? ⟨wl.heap.size, 0, none⟩ = some (.slice S1 x.scope.length d1) ∧ V.cell? ⟨wl.heap.size, 1, none⟩ = some (.slice S2 x.sizes.length d2) ∧ V.cell? ⟨wl.heap.size, 2, none⟩ = some (.int .i64 x.other) ∧ V.cell? ⟨wl.heap.size, 3, none⟩ = some (.slice S4 L.length d4)) (first | exact ⟨hk1, z0, z1, z2, z3⟩ | exact HS1) (first
            | (go_at_call 48; refine hcs.mono ?_; rintro e w7 ⟨rfl, hb7⟩; have HS1 : w7.cell? ⟨g, 1, none⟩ = some (.int .i64 f.k) ∧ w7.cell? ⟨wl.heap.size, 0, none⟩ = some (.slice S1 x.scope.length d1) ∧ w7.cell? ⟨wl.heap.size, 1, none⟩ = some (.slice S2 x.sizes.length d2) ∧ w7.cell? ⟨wl.heap.size, 2, none⟩ = some (.int .i64 x.other) ∧ w7.cell? ⟨wl.heap.size, 3, none⟩ = some (.slice S4 L.length d4) := ⟨((bcell hb7).1 g 1 hgr).trans K1.out, ((bcell hb7).1 _ 0 hlw).trans Z.out.1, ((bcell hb7).1 _ 1 hlw).trans Z.out.2.1, ((bcell hb7).1 _ 2 hlw).trans Z.out.2.2.1, ((bcell hb7).1 _ 3 hlw).trans Z.out.2.2.2⟩; have HB7 := Lib.hid (HBW.out.trans ((show Below wr.heap.size wr w7 from ⟨hb7.os, hb7.tape, hb7.output, hb7.size, hb7.block⟩).mono HBW.out.size)); clear hcs hb7)
            | (go_at_call 47; refine (hadd _).mono ?_; rintro e w8 ⟨rfl, rfl⟩))
          all_goals
            go_wp2_with fail
            go_roundw
            case measure => simp [intOf]; omega
            case rel => exact ⟨j + 1, by go_num, hjl, rfl, by first | exact HB7 | exact below_drewN HB7.out _⟩
    · obtain rfl : j = V.length := by omega
      have jI : decide ((V.length : Int) < (V.length : Int)) = false := decide_eq_false (by omega)
      rw [List.take_of_length_le (by have := HVL.out; omega)]
      go_wp2_with fail
      go_ret
      exact ⟨rfl, hb.out⟩
end Go.Proofs.YtafdijfbgkcnnaaDoor.wcp
/- What an assignment costs that is none: the program's. -/
namespace Go.Proofs.YtafdijfbgkcnnaaDoor.wcp
open Go Go.RowKit Go.ChangeShapes Go.WideShapes Go.ChangeAt Go.Maps Go.Proofs.YtafdijfbgkcnnaaDoor.words Go.Proofs.YtafdijfbgkcnnaaDoor.scn
set_option linter.unusedVariables false
set_option maxRecDepth 100000 in
set_option maxHeartbeats 8000000 in
theorem val_bad {w : World} {g : Nat} {f : Fil} {SA : Option Addr} {sc : Nat} {FA : Option Addr} {fc : Nat} {V : List FT} (h : FilW w g f SA sc FA fc V) (hok : OkFile f) (hlin : linesOf f.funs ≤ 16384)
    (A : Option Addr) (n cap : Nat) (xs : List Int) (hr : Reads w w.heap.size 1 A n (nums xs)) (hn : n ≤ 1000000) (ha : ¬ InS f.sizes xs) :
    Calls Tryd.prog 14 #[.pointer (some ⟨g, 0, none⟩), .slice A n cap] w fun e w' => e = .returned (.tuple #[.int .i64 0, .int .i64 3]) ∧ Below w.heap.size w w' := by
  have hl := nums_len hr
  subst hl
  have hrt := fright_any h hok hlin
  have HH := Lib.hid h
  have HR := Lib.hid hr
  have HA := Lib.hid ha
  have hs64 := hok.s2
  clear h hok hlin ha hr
  by_cases hlz : (xs.length : Int) = (f.sizes.length : Int)
  · have hlb : ((xs.length : Int) != (f.sizes.length : Int)) = false := by simp [hlz]
    have HLZ := Lib.hid hlz
    clear hlz
    go_enter Tryd.func14, Tryd.ntmps14
    go_wp2_with fail
    refine hrt.mono ?_
    rintro e w1 ⟨rfl, hb1⟩
    clear hrt
    have hw1 := HH.out.below hb1
    obtain ⟨q0, q1, q2, q3, -⟩ := Blk.four (t := 51) hw1.2.1
    have HB1 := Lib.hid hb1
    have hS := Reads.of_own hw1.2.2.1
    have hX := HR.out.below hb1
    clear hw1 hb1
    go_wp2_with fail
    go_loopw [7, 8, 34] (fun _ _ jv wr => ∃ j : Nat, jv = .int .i64 j ∧ j ≤ xs.length ∧ w1 = wr ∧ Hid (∀ (i : Nat) (v k : Int), i < j → xs[i]? = some v → f.sizes[i]? = some k → 0 ≤ v ∧ v < k)) (fun _ _ jv _ => xs.length - (intOf jv).toNat)
    case atStart => exact ⟨0, rfl, Nat.zero_le _, rfl, fun i v k h => by omega⟩
    case round =>
      obtain ⟨j, rfl, hj, rfl, hin⟩ := hrel
      by_cases hlt : j < xs.length
      · obtain ⟨ad, v, rfl, _, hv, hc⟩ := hX.num hlt
        obtain ⟨ad2, k, rfl, _, hk, hc2⟩ := hS.num (k := j) (by have := HLZ.out; omega)
        have i0 : (0 : Int) ≤ (j : Int) := Int.natCast_nonneg _
        have jI : decide ((j : Int) < (xs.length : Int)) = true := decide_eq_true (by omega)
        have hjl : (j : Int) < (f.sizes.length : Int) := by have := HLZ.out; omega
        have HV := Lib.hid hv
        have HK := Lib.hid hk
        clear hv hk hS hX
        by_cases h0 : v < 0
        · have hI0 : decide (v < 0) = true := decide_eq_true h0
          go_wp2_with fail
          go_ret2
          exact ⟨rfl, HB1.out⟩
        · have hI0 : decide (v < 0) = false := decide_eq_false h0
          by_cases h1 : k ≤ v
          · have hI1 : decide (k ≤ v) = true := decide_eq_true h1
            go_wp2_with fail
            go_ret2
            exact ⟨rfl, HB1.out⟩
          · have hI1 : decide (k ≤ v) = false := decide_eq_false h1
            go_wp2_with fail
            go_roundw
            case measure => simp [intOf]; omega
            case rel =>
              refine ⟨j + 1, by go_num, by omega, by first | rfl | trivial, fun i a b hi h2 h3 => ?_⟩
              by_cases e : i = j
              · subst e
                rw [HV.out] at h2
                rw [HK.out] at h3
                injection h2 with h2
                injection h3 with h3
                omega
              · exact hin.out i a b (by omega) h2 h3
      · obtain rfl : j = xs.length := by omega
        exact absurd ⟨by have := HLZ.out; omega, fun i v k h2 h3 => hin.out i v k (List.getElem?_eq_some_iff.1 h2).1 h2 h3⟩ HA.out
  · have hlb : ((xs.length : Int) != (f.sizes.length : Int)) = true := by simp; omega
    clear hlz
    go_enter Tryd.func14, Tryd.ntmps14
    go_wp2_with fail
    refine hrt.mono ?_
    rintro e w1 ⟨rfl, hb1⟩
    clear hrt
    have hw1 := HH.out.below hb1
    obtain ⟨q0, q1, q2, q3, -⟩ := Blk.four (t := 51) hw1.2.1
    have HB1 := Lib.hid hb1
    clear hw1 hb1
    go_wp2_with fail
    go_ret2
    exact ⟨rfl, HB1.out⟩
end Go.Proofs.YtafdijfbgkcnnaaDoor.wcp
/- Every text has words; more behind a blank changes none of them: plain. -/
namespace Go.Proofs.YtafdijfbgkcnnaaDoor.wcp
open Go Go.Proofs.YtafdijfbgkcnnaaDoor.scn
set_option linter.unusedVariables false
theorem skip_total (bs : List UInt8) : ∀ (d a : Nat), bs.length - a ≤ d → a ≤ bs.length → ∃ i, Skip bs a i := by
  intro d
  induction d with
  | zero => intro a h1 h2; exact ⟨a, Nat.le_refl _, h2, fun j h3 h4 => by omega, fun h => by omega⟩
  | succ d ih =>
    intro a h1 h2
    by_cases h : a < bs.length ∧ isB (at_ bs a) = true
    · obtain ⟨i, h3, h4, h5, h6⟩ := ih (a + 1) (by omega) (by omega)
      refine ⟨i, by omega, h4, fun j g1 g2 => ?_, h6⟩
      rcases Nat.lt_or_eq_of_le g1 with g | g
      · exact h5 j (by omega) g2
      · rw [← g]; exact h.2
    · exact ⟨a, Nat.le_refl _, h2, fun j h3 h4 => by omega, fun hl => by
        cases hb : isB (at_ bs a) with
        | false => rfl
        | true => exact absurd ⟨hl, hb⟩ h⟩
theorem ins_total (bs : List UInt8) : ∀ (d a : Nat), bs.length - a ≤ d → a ≤ bs.length → ∃ i, Ins bs a i := by
  intro d
  induction d with
  | zero => intro a h1 h2; exact ⟨a, Nat.le_refl _, h2, fun j h3 h4 => by omega, fun h => by omega⟩
  | succ d ih =>
    intro a h1 h2
    by_cases h : a < bs.length ∧ isIn (at_ bs a) = true
    · obtain ⟨i, h3, h4, h5, h6⟩ := ih (a + 1) (by omega) (by omega)
      refine ⟨i, by omega, h4, fun j g1 g2 => ?_, h6⟩
      rcases Nat.lt_or_eq_of_le g1 with g | g
      · exact h5 j (by omega) g2
      · rw [← g]; exact h.2
    · exact ⟨a, Nat.le_refl _, h2, fun j h3 h4 => by omega, fun hl => by
        cases hb : isIn (at_ bs a) with
        | false => rfl
        | true => exact absurd ⟨hl, hb⟩ h⟩
theorem next_total (bs : List UInt8) (a : Nat) (ha : a ≤ bs.length) : ∃ r, scn.Next bs a r := by
  obtain ⟨i, hi⟩ := skip_total bs _ a (Nat.le_refl _) ha
  obtain ⟨j, hj⟩ := ins_total bs _ i (Nat.le_refl _) hi.len
  by_cases hw : Wrong bs j
  · exact ⟨.bad j, i, j, hi, hj, .inl ⟨hw, rfl⟩⟩
  · rcases Nat.lt_or_eq_of_le hj.le with h | h
    · exact ⟨.word i j, i, j, hi, hj, .inr (.inr ⟨hw, h, rfl⟩)⟩
    · exact ⟨.none, i, j, hi, hj, .inr (.inl ⟨hw, h, rfl⟩)⟩
def EndAt (bs : List UInt8) (z : Nat) (wb : Int) : Prop := (wb = -1 ∧ scn.Next bs z .none) ∨ ∃ b : Nat, wb = b ∧ scn.Next bs z (.bad b)
theorem chain_total (bs : List UInt8) : ∀ (d a : Nat), bs.length - a ≤ d → a ≤ bs.length → ∃ l z wb, Chain bs a l z ∧ EndAt bs z wb := by
  intro d
  induction d with
  | zero =>
    intro a h1 h2
    obtain ⟨r, hr⟩ := next_total bs a h2
    cases r with
    | bad b => exact ⟨[], a, b, .nil a, .inr ⟨b, rfl, hr⟩⟩
    | none => exact ⟨[], a, -1, .nil a, .inl ⟨rfl, hr⟩⟩
    | word i j =>
      have hw := hr.word_at
      have := hw.1.le; have := hw.2.1.len; have := hw.2.2.2
      omega
  | succ d ih =>
    intro a h1 h2
    obtain ⟨r, hr⟩ := next_total bs a h2
    cases r with
    | bad b => exact ⟨[], a, b, .nil a, .inr ⟨b, rfl, hr⟩⟩
    | none => exact ⟨[], a, -1, .nil a, .inl ⟨rfl, hr⟩⟩
    | word i j =>
      have hw := hr.word_at
      have := hw.1.le; have := hw.2.1.len; have := hw.2.2.2
      obtain ⟨l, z, wb, hc, he⟩ := ih j (by omega) (by omega)
      exact ⟨_, z, wb, .cons hr hc, he⟩
theorem told_total (bs : List UInt8) : ∃ l wb, scn.Told bs l wb := by
  obtain ⟨l, z, wb, hc, he⟩ := chain_total bs _ 0 (Nat.le_refl _) (Nat.zero_le _)
  exact ⟨l, wb, z, hc, he⟩
theorem at_app {bs ext : List UInt8} {j : Nat} (h : j < bs.length) : at_ (bs ++ ext) j = at_ bs j := by
  unfold at_; simp [List.getD_eq_getElem?_getD, List.getElem?_append_left h]
theorem at_mid {bs ext : List UInt8} : at_ (bs ++ 32 :: ext) bs.length = 32 := by
  unfold at_; simp [List.getD_eq_getElem?_getD]
theorem sub_app {bs ext : List UInt8} {i j : Nat} (hj : j ≤ bs.length) : sub (bs ++ ext) i j = sub bs i j := by
  unfold sub; rw [List.take_append_of_le_length hj]
theorem skip_app {bs ext : List UInt8} {a i : Nat} (h : Skip bs a i) (hi : i < bs.length) : Skip (bs ++ ext) a i :=
  ⟨h.le, by simp; omega, fun j h1 h2 => by rw [at_app (by omega)]; exact h.all j h1 h2, fun _ => by rw [at_app hi]; exact h.stop hi⟩
/-- a word, or a wrong byte, stays -/
theorem word_app {bs ext : List UInt8} {a i j : Nat} (h : scn.Next bs a (.word i j)) : scn.Next (bs ++ 32 :: ext) a (.word i j) := by
  obtain ⟨h1, h2, h3, h4⟩ := h.word_at
  have hj := h2.len
  refine ⟨i, j, skip_app h1 (by omega), ⟨h2.le, by simp; omega, fun q g1 g2 => by rw [at_app (by omega)]; exact h2.all q g1 g2, fun _ => ?_⟩, .inr (.inr ⟨fun hw => ?_, h4, rfl⟩)⟩
  · rcases Nat.lt_or_eq_of_le hj with g | g
    · rw [at_app g]; exact h2.stop g
    · rw [g, at_mid]; rfl
  · rcases Nat.lt_or_eq_of_le hj with g | g
    · exact h3 ⟨g, by rw [← at_app g]; exact hw.2⟩
    · have := hw.2; rw [g, at_mid] at this; cases this
theorem bad_app {bs ext : List UInt8} {a b : Nat} (h : scn.Next bs a (.bad b)) : scn.Next (bs ++ ext) a (.bad b) := by
  obtain ⟨i, h1, h2, h3⟩ := h.bad_at
  have hb := h3.1
  have hi := h2.le
  exact ⟨i, b, skip_app h1 (by omega), ⟨h2.le, by simp; omega, fun q g1 g2 => by rw [at_app (by omega)]; exact h2.all q g1 g2, fun _ => by rw [at_app hb]; exact h2.stop hb⟩, .inl ⟨⟨by simp; omega, by rw [at_app hb]; exact h3.2⟩, rfl⟩⟩
theorem chain_app {bs ext : List UInt8} {a z : Nat} {l : List Wd} (h : Chain bs a l z) : Chain (bs ++ 32 :: ext) a l z := by
  induction h with
  | nil a => exact .nil a
  | cons h1 _ ih =>
    rename_i i j _ _ _
    have := Chain.cons (word_app (ext := ext) h1) ih
    rw [sub_app h1.word_at.2.1.len] at this
    exact this
theorem chain_join {bs : List UInt8} {a z y : Nat} {l m : List Wd} (h : Chain bs a l z) (k : Chain bs z m y) : Chain bs a (l ++ m) y := by
  induction h with
  | nil a => exact k
  | cons h1 _ ih => exact .cons h1 (ih k)
theorem chain_end {bs : List UInt8} {a z : Nat} {l : List Wd} (h : Chain bs a l z) : a ≤ bs.length → z ≤ bs.length := by
  induction h with
  | nil a => exact id
  | cons h1 _ ih => exact fun _ => ih h1.word_at.2.1.len
theorem told_more {bs ext : List UInt8} {l : List Wd} {wb : Int} (h : scn.Told bs l wb) : ∃ l2 wb2, scn.Told (bs ++ 32 :: ext) (l ++ l2) wb2 ∧ (wb ≠ -1 → l2 = [] ∧ wb2 = wb) := by
  obtain ⟨z, hc, he⟩ := h
  have hz := chain_end hc (Nat.zero_le _)
  rcases he with ⟨rfl, hn⟩ | ⟨b, rfl, hn⟩
  · obtain ⟨l2, y, wb2, h2, h3⟩ := chain_total (bs ++ 32 :: ext) _ z (Nat.le_refl _) (by simp; omega)
    exact ⟨l2, wb2, ⟨y, chain_join (chain_app hc) h2, h3⟩, fun h => absurd rfl h⟩
  · exact ⟨[], b, ⟨z, by rw [List.append_nil]; exact chain_app hc, .inr ⟨b, rfl, bad_app hn⟩⟩, fun _ => ⟨rfl, rfl⟩⟩
/-- an error ahead of the end stays at its place -/
theorem places {bs ext : List UInt8} {l : List Wd} {wb e x : Int} (h : scn.Told bs l wb) (hp : pread (enOf bs wb) (eeOf wb) l = .err e x) (h5 : e ≠ 5) (hx : x ≠ bs.length) :
    ∃ l2 wb2, scn.Told (bs ++ 32 :: ext) l2 wb2 ∧ pread (enOf (bs ++ 32 :: ext) wb2) (eeOf wb2) l2 = .err e x := by
  obtain ⟨l2, wb2, h2, h3⟩ := told_more (ext := ext) h
  refine ⟨_, wb2, h2, ?_⟩
  by_cases hw : wb = -1
  · subst hw
    refine pread_more hp h5 ?_ ?_
    · unfold enOf; rw [if_pos rfl]; intro h; injection h with _ h; exact hx h
    · unfold eeOf; rw [if_pos rfl]; intro h; exact absurd h (by decide)
  · obtain ⟨rfl, rfl⟩ := h3 hw
    rw [List.append_nil]
    unfold enOf at hp ⊢
    rw [if_neg hw] at hp ⊢
    exact hp
end Go.Proofs.YtafdijfbgkcnnaaDoor.wcp
/- The document's words without their places. -/
namespace Go.Proofs.YtafdijfbgkcnnaaDoor.scn
open Go Go.RowKit Go.ChangeShapes Go.WideShapes Go.ChangeAt Go.Proofs.YtafdijfbgkcnnaaDoor.words
set_option linter.unusedVariables false
def lenSum (l : List Wd) : Nat := l.foldr (fun w n => w.1.length + n) 0
theorem lenSum_cons (w : Wd) (l : List Wd) : lenSum (w :: l) = w.1.length + lenSum l := rfl
theorem sub_in {bs : List UInt8} {i j : Nat} (h : Ins bs i j) : (sub bs i j).all (fun b => isIn b.toNat) = true := by
  rw [List.all_eq_true]
  intro b hb
  obtain ⟨q, hq⟩ := List.mem_iff_getElem?.1 hb
  have hl := (List.getElem?_eq_some_iff.1 hq).1
  have hj := h.len
  have hs := sub_len (bs := bs) (i := i) hj
  have h1 := h.all (i + q) (by omega) (by omega)
  unfold sub at hq
  rw [List.getElem?_drop, List.getElem?_take_of_lt (by omega)] at hq
  unfold at_ at h1
  rw [List.getD_eq_getElem?_getD, hq] at h1
  exact h1
theorem chain_words {bs : List UInt8} {a z : Nat} {l : List Wd} (h : Chain bs a l z) : a ≤ bs.length → (∀ w ∈ l, w.1 ≠ [] ∧ w.1.all (fun b => isIn b.toNat) = true) ∧ a + lenSum l ≤ z ∧ z ≤ bs.length ∧ l.length ≤ lenSum l := by
  induction h with
  | nil a => intro ha; exact ⟨fun w hw => (by cases hw), Nat.le_refl _, ha, Nat.le_refl _⟩
  | cons h1 k ih =>
    rename_i a i j z l
    intro ha
    obtain ⟨g1, g2, g3, g4⟩ := h1.word_at
    have gl := g2.len
    have gi := g1.le
    obtain ⟨i1, i2, i3, i4⟩ := ih gl
    have hs := sub_len (bs := bs) (i := i) gl
    refine ⟨fun w hw => ?_, ?_, i3, ?_⟩
    · rcases List.mem_cons.1 hw with rfl | hw
      · refine ⟨fun e => ?_, sub_in g2⟩
        dsimp only at e
        rw [e] at hs
        simp at hs
        omega
      · exact i1 w hw
    · rw [lenSum_cons]; dsimp only; omega
    · rw [lenSum_cons, List.length_cons]; dsimp only; omega
theorem told_words {bs : List UInt8} {l : List Wd} {bad : Int} (h : Told bs l bad) : (∀ w ∈ l, w.1 ≠ [] ∧ w.1.all (fun b => isIn b.toNat) = true) ∧ lenSum l ≤ bs.length ∧ l.length ≤ lenSum l := by
  obtain ⟨z, hc, _⟩ := h
  obtain ⟨h1, h2, h3, h4⟩ := chain_words hc (Nat.zero_le _)
  exact ⟨h1, by omega, h4⟩
def strs (ws : List (List UInt8)) : List Value := ws.map strV
theorem infoS : (Tryd.prog.info? 9).map (fun i => (i.zero, i.size, i.bytes)) = some (some (.string ⟨#[]⟩), 1, 16) := by kernel_rfl
def FieldsR (bs : List UInt8) (w : World) (e : Ending) (w' : World) : Prop :=
  ∃ l bad A c, e = .returned (.slice A l.length c) ∧ Told bs l bad ∧ w'.ownsRow w.heap.size 9 1 (.slice A l.length c) l.length (strs (l.map Prod.fst)) ∧ Below w.heap.size w w'
set_option maxRecDepth 100000 in
set_option maxHeartbeats 4000000 in
theorem fields_any (A : Option Addr) (n cap B : Nat) (bs : List UInt8) (w : World) (hl : bs.length = n) (hn : n ≤ 1000) (ho : w.ownsRow B 5 1 (.slice A n cap) n (bv bs)) :
    Calls Tryd.prog 21 #[.slice A n cap] w fun e w' => FieldsR bs w e w' := by
  obtain ⟨i0, hi0, hz0, hz1, hz2⟩ := info_parts infoS
  have hw := words_all A n cap B bs w hl hn ho
  clear ho
  go_enter Tryd.func21, Tryd.ntmps21
  go_wp2_with fail
  refine hw.mono ?_
  rintro e w1 ⟨l, bad, AW, cW, rfl, hT, hR, hb⟩
  have hll := (told_words hT).2
  have HT := Lib.hid hT
  have hl1 : l.length ≤ 1000 := by omega
  clear hw hT hll
  go_wp2_with fail
  go_loopw [5, 15] (fun ov iv wr => ∃ (i : Nat) (A5 : Option Addr) (c5 : Nat), iv = .int .i64 i ∧ i ≤ l.length ∧ ov = .slice A5 i c5 ∧ wr.ownsRow w.heap.size 9 1 (.slice A5 i c5) i (strs ((l.take i).map Prod.fst)) ∧ Row w l AW cW wr ∧ Below w.heap.size w wr) (fun _ iv _ => l.length - (intOf iv).toNat)
  case atStart => exact ⟨0, none, 0, rfl, Nat.zero_le _, rfl, World.ownsRow_nil _ _ _ _, hR, hb⟩
  case round =>
    clear hR hb
    obtain ⟨i, A5, c5, rfl, hi, rfl, ho5, hR, hb⟩ := hrel
    by_cases hlt : i < l.length
    · obtain ⟨v, s, hvs⟩ : ∃ v s, l[i]? = some (v, s) := ⟨(l[i]).1, (l[i]).2, by rw [List.getElem?_eq_getElem hlt]⟩
      obtain ⟨q, rfl, hc0, hc1⟩ := hR.at_ hvs
      have hcap := own_cap hR
      have HTK : Hid (strs ((l.take (i + 1)).map Prod.fst) = strs ((l.take i).map Prod.fst) ++ [strV v]) := by
        rw [Hid, List.take_add_one, hvs]
        simp [strs]
      have ho1 := own_under ho5 (bone wr (.cells #[strV v, .int .i64 (s : Nat)] 100))
      have ho2 := Lib.hid (own_under ho1 (bone _ (.cells #[strV v] 9)))
      have hR2 : Row w l (some ⟨q, 0, none⟩) cW ((wr.alloc (.cells #[strV v, .int .i64 (s : Nat)] 100)).alloc (.cells #[strV v] 9)) := (hR.below (bone _ _)).below (bone _ _)
      have hB2 := Lib.hid (bnew (bnew hb (.cells #[strV v, .int .i64 (s : Nat)] 100)) (.cells #[strV v] 9))
      have hr1 : Reads ((wr.alloc (.cells #[strV v, .int .i64 (s : Nat)] 100)).alloc (.cells #[strV v] 9)) ((wr.alloc (.cells #[strV v, .int .i64 (s : Nat)] 100)).alloc (.cells #[strV v] 9)).heap.size 1 (some ⟨(wr.alloc (.cells #[strV v, .int .i64 (s : Nat)] 100)).heap.size, 0, none⟩) 1 [strV v] := reads_block (t := 9) (heap_alloc_new _ _) rfl
      have hone : ∀ u ∈ ([strV v] : List Value), u.oneCell' = true := fun u hu => by rw [List.mem_singleton.1 hu]; rfl
      have hsz : w.heap.size ≤ ((wr.alloc (.cells #[strV v, .int .i64 (s : Nat)] 100)).alloc (.cells #[strV v] 9)).heap.size := hB2.out.size
      rw [show (wr.alloc (.cells #[strV v, .int .i64 (s : Nat)] 100)).heap.size = wr.heap.size + 1 by simp] at hr1
      have HR2 := Lib.hid hR2
      clear ho1 hR2 hR hb
      have ho3 := ho2.out
      go_wp2_with (first
        | (at_builtin; refine wpList_append_any _ rfl (.tmp 19) (.tmp 22) _ rfl w.heap.size 9 i0 _ 1 16 Tryd.underlying59 hi0 hz0 hz1 hz2 rfl (by omega) (.slice A5 i c5) i _ rfl ho3 _ _ 1 1 [strV v] rfl hr1 hone (by simp only [maxLen]; omega) (by omega) hsz ?_; intro v6 w6 hown6 hg6 hat6; clear hat6; obtain ⟨A6, c6, rfl⟩ := own_shape hown6; have HO6 := Lib.hid hown6; have HG6 := Lib.hid hg6; clear hown6 hg6 ho3 hr1)
        | fail)
      go_roundw
      case measure => simp [intOf]; omega
      case rel =>
        have hg := HG6.out
        exact ⟨i + 1, A6, c6, by go_num, by omega, rfl, by rw [HTK.out]; exact HO6.out, own_keep HR2.out ho2.out (by decide) hg, hB2.out.grown hg hsz (fun g hg => (own_in ho2.out hg).1)⟩
    · obtain rfl : i = l.length := by omega
      have HO := Lib.hid ho5
      have HB := Lib.hid hb
      clear ho5 hb hR
      go_wp2_with fail
      go_ret
      exact ⟨l, bad, A5, c5, rfl, HT.out, by have := HO.out; rw [List.take_length] at this; exact this, HB.out⟩
end Go.Proofs.YtafdijfbgkcnnaaDoor.scn
/- A file that was read is one that there may be: plain. -/
namespace Go.Proofs.YtafdijfbgkcnnaaDoor.wcp
open Go Go.Proofs.YtafdijfbgkcnnaaDoor.scn
set_option linter.unusedVariables false
theorem pread_inv {en : Int} {l : List Wd} {f : Fil} (h : pread en 4 l = .file f) : ∃ s, pbody en 4 ⟨l, none, 0, []⟩ = .ok f s ∧ s.big = none := by
  unfold pread at h
  cases hb : pbody en 4 ⟨l, none, 0, []⟩ with
  | bad e x => rw [hb] at h; cases h
  | ok f' s =>
    rw [hb] at h
    obtain ⟨sl, sb, st, ss⟩ := s
    cases sl with
    | cons w r => cases h
    | nil =>
      dsimp only at h
      rw [if_neg (by decide)] at h
      cases sb with
      | some x => cases h
      | none => injection h with h; subst h; exact ⟨_, rfl, rfl⟩
theorem bind_inv {α β : Type} {r : Res α} {g : α → Ps → Res β} {b : β} {s' : Ps} (h : r.bind g = .ok b s') : ∃ a s, r = .ok a s ∧ g a s = .ok b s' := by
  cases r with
  | ok a s => exact ⟨a, s, rfl, h⟩
  | bad e x => cases h
theorem pread_ok {en : Int} {l : List Wd} {f : Fil} (h : pread en 4 l = .file f) (hl : l.length ≤ 65536) :
    (∃ w r, l = w :: r ∧ f.name = w.1) ∧ f.name.length ≤ 64 ∧ 1 ≤ f.k ∧ f.k ≤ 2147483648 ∧ 1 ≤ f.sizes.length ∧ f.sizes.length ≤ 64 ∧ (∀ v ∈ f.sizes, 1 ≤ v ∧ v ≤ 32) ∧ f.funs.length ≤ 256 ∧ f.funs.length ≤ l.length ∧
      ∀ x ∈ f.funs, okF x f.k ∧ FitF f.sizes x ∧ great x.sizes = false ∧ x.lines.length ≤ l.length := by
  obtain ⟨s', hb, hbig⟩ := pread_inv h
  unfold pbody at hb
  obtain ⟨w, s1, e1, hb⟩ := bind_inv hb
  obtain ⟨n, s2, e2, hb⟩ := bind_inv hb
  obtain ⟨most, s3, e3, hb⟩ := bind_inv hb
  obtain ⟨count, s4, e4, hb⟩ := bind_inv hb
  obtain ⟨k, s5, e5, hb⟩ := bind_inv hb
  obtain ⟨sizes, s6, e6, hb⟩ := bind_inv hb
  obtain ⟨fs, s7, e7, hb⟩ := bind_inv hb
  injection hb with hf hs
  subst hf hs
  obtain ⟨a1, a2, a3, a4, a5, a6⟩ := pnum_ok e2
  obtain ⟨b1, b2, b3, b4, b5, b6⟩ := pnum_ok e3
  obtain ⟨c1, c2, c3, c4, c5, c6⟩ := pnum_ok e4
  obtain ⟨d1, d2, d3, d4, d5, d6⟩ := pnum_ok e5
  obtain ⟨w1, w2, w3⟩ := pword_len' e1
  obtain ⟨l1, l1', l1''⟩ := plarge_l (decide (w.1.length > 64)) w.2 s1
  obtain ⟨l2, l2', l2''⟩ := plarge_l (decide (n.1 > 64)) n.2 s2
  obtain ⟨l4, l4', l4''⟩ := plarge_l (decide (count.1 > 256)) count.2 s4
  obtain ⟨l5, l5', l5''⟩ := plarge_l (decide (k.1 > 2147483648)) k.2 s5
  obtain ⟨p1, p2, p3, p4, p5⟩ := psizes_ok _ e6
  have hlen6 : s6.l.length ≤ l.length := by
    rw [l5] at p5; rw [l4] at d6; rw [l2] at b6; rw [l1] at a6
    have h0 : (⟨l, none, 0, []⟩ : Ps).l.length = l.length := rfl
    omega
  have hsh : s6.sh = [] := by rw [p3, l5', d3, l4', c3, b3, l2', a3, l1', w1]
  have htold : s6.told = 0 := by rw [p4, l5'', d4, l4'', c4, b4, l2'', a4, l1'', w2]
  have hall : ∀ v ∈ sizes, 1 ≤ v := fun v hv => (p2 v hv).1
  obtain ⟨q1, q2, q3, q4, q5⟩ := pfuns_big (N := l.length) (K := k.1) (by omega) hall _ e7 (fun p hp => by rw [hsh] at hp; cases hp) hlen6
  obtain ⟨r1, r2, r3⟩ := pfuns_ok (N := l.length) _ e7 ⟨by rw [htold]; omega, by rw [htold]; omega, by rw [hsh]; simpa using hlen6⟩
  obtain ⟨f6, g6⟩ := psizes_big _ e6 (q3 hbig)
  obtain ⟨f5, g5⟩ := plarge_none f6
  rw [d5] at g5
  obtain ⟨f4, g4⟩ := plarge_none g5
  rw [c5, b5] at g4
  obtain ⟨f2, g2⟩ := plarge_none g4
  rw [a5] at g2
  obtain ⟨f1, g1⟩ := plarge_none g2
  simp only [decide_eq_false_iff_not] at f1 f2 f4 f5
  have hfit := q5 hbig g6 d1 (by omega)
  refine ⟨?_, ?_, d1, ?_, ?_, ?_, fun v hv => ⟨hall v hv, g6 v hv⟩, ?_, ?_, fun x hx => ?_⟩
  · cases l with
    | nil => cases e1
    | cons w0 r =>
      have e1' : Res.ok w0 ⟨r, none, 0, []⟩ = .ok w s1 := e1
      injection e1' with e1' _
      exact ⟨w0, r, rfl, by rw [e1']⟩
  · dsimp only; omega
  · dsimp only; omega
  · dsimp only; omega
  · dsimp only; omega
  · dsimp only; omega
  · dsimp only; omega
  · obtain ⟨h1, h2, h3, h4⟩ := q4 x hx
    exact ⟨(hfit x hx).1, ⟨h1, h2, h3⟩, (hfit x hx).2, h4⟩
/-- a text's words are words -/
theorem isWord_of {bs : List UInt8} {l : List Wd} {bad : Int} (h : scn.Told bs l bad) {w : Wd} (hw : w ∈ l) : IsWord w.1 := by
  obtain ⟨h1, h2⟩ := (scn.told_words h).1 w hw
  refine ⟨h1, fun q hq => ?_⟩
  rw [List.all_eq_true] at h2
  refine h2 _ ?_
  rw [List.getD_eq_getElem?_getD, List.getElem?_eq_getElem hq]
  exact List.getElem_mem hq
theorem okFile_of {bs : List UInt8} {l : List Wd} {en : Int} {f : Fil} (hT : scn.Told bs l (-1)) (h : pread en 4 l = .file f) (hl : l.length ≤ 65536) : OkFile f := by
  obtain ⟨⟨w, r, rfl, hn⟩, h1, h2, h3, h4, h5, h6, h7, h8, h9⟩ := pread_ok h hl
  exact ⟨by rw [hn]; exact isWord_of hT (by simp), h1, h2, h3, (fun e => by rw [e] at h4; simp at h4), h6, h5, h7, fun x hx => ⟨(h9 x hx).1, (h9 x hx).2.1, (h9 x hx).2.2.1⟩⟩
end Go.Proofs.YtafdijfbgkcnnaaDoor.wcp
/- A short text has few lines. -/
namespace Go.Proofs.YtafdijfbgkcnnaaDoor.wcp
open Go Go.Proofs.YtafdijfbgkcnnaaDoor.scn Go.Proofs.YtafdijfbgkcnnaaDoor.words
set_option linter.unusedVariables false
theorem ins_stop {bs : List UInt8} {i j : Nat} (h : Ins bs i j) : isIn (at_ bs j) = false := by
  by_cases hj : j < bs.length
  · exact h.stop hj
  · have : at_ bs j = 0 := by unfold at_; rw [List.getD_eq_getElem?_getD, List.getElem?_eq_none (by omega)]; rfl
    rw [this]; rfl
theorem chain_two {bs : List UInt8} {a z : Nat} {l : List Wd} (h : Chain bs a l z) : (isIn (at_ bs a) = false → 2 * l.length + a ≤ z) ∧ 2 * l.length + a ≤ z + 1 := by
  induction h with
  | nil a => exact ⟨fun _ => by simp, by simp⟩
  | @cons a i j z l h1 hk ih =>
    obtain ⟨s1, s2, -, s4⟩ := h1.word_at
    have h5 := ih.1 (ins_stop s2)
    have h6 := s2.all _ (Nat.le_refl _) s4
    have h7 := s1.le
    simp only [List.length_cons]
    refine ⟨fun hs => ?_, by omega⟩
    have h8 : i ≠ a := fun e => by rw [← e, h6] at hs; cases hs
    omega
theorem told_two {bs : List UInt8} {l : List Wd} {bad : Int} (h : scn.Told bs l bad) : 2 * l.length ≤ bs.length + 1 := by
  obtain ⟨z, hc, _⟩ := h
  have h1 := (chain_two hc).2
  have h2 := (hc.len (Nat.zero_le _)).2
  omega
variable {en ee : Int}
theorem pfun_three {all : List Int} {s s' : Ps} {f : Raw} (h : pfun en ee all s = .ok f s') (h0 : 0 ≤ s.told) : s'.l.length + 3 ≤ s.l.length := by
  unfold pfun at h
  obtain ⟨a, s1, e1, h⟩ := bind_inv h
  obtain ⟨sc, s2, e2, h⟩ := bind_inv h
  obtain ⟨o, s3, e3, h⟩ := bind_inv h
  obtain ⟨ls, s4, e4, h⟩ := bind_inv h
  injection h with _ h
  have q1 := pnum_ok e1
  have q2 := pscope_ok _ _ e2
  have q3 := pnum_ok e3
  have ql := plarge_l (decide ((a.1.natAbs : Int) > 6) || great (sc.map fun v => all.getD v.toNat 0)) a.2 s2
  have q4 := pall_ok e4 (by rw [q3.2.2.2.1, ql.2.2, q2.2.2.1, q1.2.2.2.1]; exact h0)
  have h5 : s'.l = s4.l := by rw [← h]; split <;> rfl
  have b1 := q1.2.2.2.2.2
  have b2 := q2.2.2.2.2.1
  have b3 := q3.2.2.2.2.2
  rw [ql.1] at b3
  have b4 := q4.2.1
  rw [h5]
  omega
theorem pfuns_three {all : List Int} : ∀ (k : Nat) {s s' : Ps} {out : List Raw}, pfuns en ee all k [] s = .ok out s' → 0 ≤ s.told → out.length = k ∧ 3 * k + s'.l.length ≤ s.l.length ∧ 0 ≤ s'.told := by
  intro k
  induction k with
  | zero => intro s s' out h h0; injection h with h1 h2; subst h1 h2; exact ⟨rfl, by omega, h0⟩
  | succ k ih =>
    intro s s' out h h0
    rw [pfuns_snoc] at h
    obtain ⟨o1, s1, e1, h⟩ := bind_inv h
    obtain ⟨f, s2, e2, h⟩ := bind_inv h
    injection h with h1 h2
    subst h1 h2
    obtain ⟨a1, a2, a3⟩ := ih e1 h0
    have b1 := pfun_three e2 a3
    have b2 := pfun_ok e2 a3
    exact ⟨by simp [a1], by omega, b2.2.1⟩
theorem pread_three {l : List Wd} {f : Fil} (h : pread en 4 l = .file f) : 3 * f.funs.length ≤ l.length := by
  obtain ⟨s', hb, hbig⟩ := pread_inv h
  unfold pbody at hb
  obtain ⟨w, s1, e1, hb⟩ := bind_inv hb
  obtain ⟨n, s2, e2, hb⟩ := bind_inv hb
  obtain ⟨most, s3, e3, hb⟩ := bind_inv hb
  obtain ⟨count, s4, e4, hb⟩ := bind_inv hb
  obtain ⟨k, s5, e5, hb⟩ := bind_inv hb
  obtain ⟨sizes, s6, e6, hb⟩ := bind_inv hb
  obtain ⟨fs, s7, e7, hb⟩ := bind_inv hb
  injection hb with hb _
  subst hb
  have q1 : s1.told = 0 ∧ s1.l.length ≤ l.length := by
    unfold pword at e1
    cases l with
    | nil => cases e1
    | cons a l => injection e1 with _ e1; rw [← e1]; exact ⟨rfl, by simp⟩
  have q2 := pnum_ok e2
  have q3 := pnum_ok e3
  have q4 := pnum_ok e4
  have q5 := pnum_ok e5
  have q6 := psizes_ok _ e6
  have l2 := plarge_l (decide (w.1.length > 64)) w.2 s1
  have l3 := plarge_l (decide (n.1 > 64)) n.2 s2
  have l5 := plarge_l (decide (count.1 > 256)) count.2 s4
  have l6 := plarge_l (decide (k.1 > 2147483648)) k.2 s5
  have ht : s6.told = 0 := by rw [q6.2.2.2.1, l6.2.2, q5.2.2.2.1, l5.2.2, q4.2.2.2.1, q3.2.2.2.1, l3.2.2, q2.2.2.2.1, l2.2.2, q1.1]
  obtain ⟨a1, a2, -⟩ := pfuns_three _ e7 (by rw [ht]; exact Int.le_refl _)
  have b2 := q2.2.2.2.2.2
  have b3 := q3.2.2.2.2.2
  have b4 := q4.2.2.2.2.2
  have b5 := q5.2.2.2.2.2
  have b6 := q6.2.2.2.2
  rw [l2.1] at b2
  rw [l3.1] at b3
  rw [l5.1] at b5
  rw [l6.1] at b6
  dsimp only
  rw [a1]
  omega
theorem linesOf_le {M : Nat} : ∀ fs : List Raw, (∀ x ∈ fs, x.lines.length ≤ M) → linesOf fs ≤ fs.length * M
  | [], _ => by simp [linesOf]
  | x :: fs, h => by
    have h1 := linesOf_le fs fun y hy => h y (by simp [hy])
    have h2 := h x (by simp)
    show x.lines.length + linesOf fs ≤ (fs.length + 1) * M
    rw [Nat.add_mul]
    omega
/-- few lines in four hundred bytes -/
theorem lines_short {bs : List UInt8} {l : List Wd} {f : Fil} (hT : scn.Told bs l (-1)) (h : pread en 4 l = .file f) (hb : bs.length ≤ 400) : linesOf f.funs ≤ 16384 := by
  have h1 := told_two hT
  have h2 := pread_three h
  have h3 := (pread_ok h (by omega)).2.2.2.2.2.2.2.2.2
  have h4 := linesOf_le (M := 200) f.funs fun x hx => by have := (h3 x hx).2.2.2; omega
  have h5 : f.funs.length * 200 ≤ 66 * 200 := Nat.mul_le_mul_right _ (by omega)
  omega
end Go.Proofs.YtafdijfbgkcnnaaDoor.wcp
/- The loop of WcspVals: the document's assignments. -/
namespace Go.Proofs.YtafdijfbgkcnnaaDoor.wcp
open Go Go.RowKit Go.ChangeShapes Go.WideShapes Go.ChangeAt Go.Maps Go.Proofs.YtafdijfbgkcnnaaDoor.words Go.Proofs.YtafdijfbgkcnnaaDoor.scn
set_option linter.unusedVariables false
noncomputable def vbody : Code := Tryd.f3.body.getD .skip
def trial (sizes : List Int) (k n : Nat) : List Int := sizes.mapIdx fun i z => ((k : Int) * ((i : Int) + 1) + (n : Int)) % z
theorem trial_len (sizes : List Int) (k n : Nat) : (trial sizes k n).length = sizes.length := by simp [trial]
theorem trial_at {sizes : List Int} {k n i : Nat} {z : Int} (h : sizes[i]? = some z) : (trial sizes k n)[i]? = some (((k : Int) * ((i : Int) + 1) + (n : Int)) % z) := by unfold trial; rw [List.getElem?_mapIdx, h]; rfl
theorem trial_in {sizes : List Int} (hs : ∀ z ∈ sizes, 1 ≤ z) (k n : Nat) : InS sizes (trial sizes k n) := by
  refine ⟨trial_len _ _ _, fun i v z hv hz => ?_⟩
  rw [trial_at hz] at hv
  injection hv with hv
  have := hs z (List.mem_of_getElem? hz)
  rw [← hv]
  exact ⟨Int.emod_nonneg _ (by omega), Int.emod_lt_of_pos _ (by omega)⟩
set_option maxRecDepth 1000000 in
set_option maxHeartbeats 8000000 in
theorem vals_loop {w w0 : World} {P : Option Addr} {pc : Nat} {bs : List UInt8} {gf gx B : Nat} {f : Fil} {SA : Option Addr} {sc : Nat} {FA : Option Addr} {fc : Nat} {V : List FT} (h : FilW w0 gf f SA sc FA fc V) (hq : QFileV w0 B gx f) (hok : OkFile f) (hlin : linesOf f.funs ≤ 16384) (hb : Below w.heap.size w w0) (hbl : bs.length ≤ 400)
    {k1 k2 k3 k4 k6 k7 k9 k10 k11 k12 k13 k14 k15 k16 k17 k18 k19 k20 k21 k22 k23 k24 k25 k26 k27 k28 k29 k30 k31 k32 k33 k34 k35 k36 k37 k38 k39 k40 k41 k42 k43 k44 k45 k46 k47 k48 k49 k50 k51 k52 k53 k54 k55 k56 k57 k58 k59 k60 k61 k62 k63 k64 k65 k66 k67 k68 k69 k70 k71 k72 k73 k74 k75 k76 k77 k78 k79 k80 k81 k82 k83 k84 k85 k86 k87 k88 k89 k90 k91 k92 k93 k94 k95 k96 k97 k98 k99 k100 k101 k102 k103 k104 k105 k106 k107 k108 k109 k110 k111 k112 k113 k114 k115 k116 k117 k118 k119 k120 k121 k122 k123 k124 k125 k126 k127 k128 k129 k130 k131 k132 k133 k134 k135 k136 k137 k138 k139 k140 k141 k142 k143 k144 k145 k146 k147 k148 k149 k150 k151 k152 k153 k154 k155 k156 k157 k158 k159 k160 k161 k162 k163 k164 k165 : Value} :
    Code.wp Tryd.prog (sfx 11 vbody) (bodyPost Tryd.prog Tryd.f3 fun e w' => e = .returned (.bool true) ∧ Below w.heap.size w w') ⟨#[.slice P bs.length pc, k1, k2, k3, k4, .pointer (some ⟨gf, 0, none⟩), k6, k7, .pointer (some ⟨gx, 0, none⟩), k9, k10, k11, k12, k13, k14, k15, k16, k17, k18, k19, k20, k21, k22, k23, k24, k25, k26, k27, k28, k29, k30, k31, k32, k33, k34, k35, k36, k37, k38, k39, k40, k41, k42, k43, k44, k45, k46, k47, k48, k49, k50, k51, k52, k53, k54, k55, k56, k57, k58, k59, k60, k61, k62, k63, k64, k65, k66, k67, k68, k69, k70, k71, k72, k73, k74, k75, k76, k77, k78, k79, k80, k81, k82, k83, k84, k85, k86, k87, k88, k89, k90, k91, k92, k93, k94, k95, k96, k97, k98, k99, k100, k101, k102, k103, k104, k105, k106, k107, k108, k109, k110, k111, k112, k113, k114, k115, k116, k117, k118, k119, k120, k121, k122, k123, k124, k125, k126, k127, k128, k129, k130, k131, k132, k133, k134, k135, k136, k137, k138, k139, k140, k141, k142, k143, k144, k145, k146, k147, k148, k149, k150, k151, k152, k153, k154, k155, k156, k157, k158, k159, k160, k161, k162, k163, k164, k165], []⟩ w0 := by
  conv => arg 2; whnf
  obtain ⟨i6, h60, h61, h62, h63⟩ := info_parts info64
  obtain ⟨iI, hI0, hI1, hI2, hI3⟩ := info_parts infoI
  obtain ⟨vz, vf, VQ, hV, hfb, hzr, -, -, -⟩ := id hq
  obtain ⟨ZA, zc, rfl⟩ := hzr.1
  have hs64 := hok.s2
  have HZR := Lib.hid hzr.2
  have HFB := Lib.hid hfb
  have HQ := Lib.hid hq
  have HF := Lib.hid h
  have HOK := Lib.hid hok
  have HB := Lib.hid hb
  have HLI := Lib.hid hlin
  clear h hq hok hlin hb hV hfb hzr
  go_wp2_with fail
  go_loopw [111] (fun kv wr => ∃ k : Nat, kv = .int .i64 k ∧ k ≤ 12 ∧ Hid (Below w0.heap.size w0 wr)) (fun kv _ => 12 - (intOf kv).toNat)
  case atStart => exact ⟨0, rfl, by omega, Below.refl _ _⟩
  case round =>
    obtain ⟨k, rfl, hk, hbr⟩ := hrel
    obtain ⟨wl, hwl⟩ : ∃ wl, wl = wr := ⟨_, rfl⟩
    subst hwl
    by_cases hk12 : k < 12
    · have kI : decide ((k : Int) < 12) = true := decide_eq_true (by omega)
      obtain ⟨x0, x1, x2, x3, -⟩ := Blk.four (t := 37) (HFB.out.under hbr.out)
      have hmk := fun W => run_make_rowN (P := Tryd.prog) 23 3 iI _ Tryd.underlying23 hI0 hI1 .i64 .i64 f.sizes.length f.sizes.length (Nat.le_refl _) (by rw [hI3]; omega) (by omega) W
      obtain ⟨ts, hts⟩ : ∃ ts, trial f.sizes k bs.length = ts := ⟨_, rfl⟩
      have htl : ts.length = f.sizes.length := by rw [← hts]; exact trial_len _ _ _
      have hown : (wl.alloc (.cells (madeCells #[.int .i64 0] f.sizes.length) 3)).ownsRow wl.heap.size 3 1 (.slice (some ⟨wl.heap.size, 0, none⟩) f.sizes.length f.sizes.length) f.sizes.length (nums (ts.take 0 ++ List.replicate (ts.length - 0) 0)) := by
        rw [List.take_zero, List.nil_append, Nat.sub_zero, htl, ← nums_rep]
        exact World.ownsRow_lit wl _ f.sizes.length (Nat.le_refl _) (by unfold maxLen; omega) (by simp [madeCells])
      have hbm := bone wl (.cells (madeCells #[.int .i64 0] f.sizes.length) 3)
      obtain ⟨X0, X1, X2, X3, -⟩ := Blk.four (t := 37) ((HFB.out.under hbr.out).under hbm)
      obtain ⟨pb, hpb⟩ : ∃ pb, wl.heap.size = pb := ⟨_, rfl⟩
      obtain ⟨wm, hwm⟩ : ∃ wm, wl.alloc (.cells (madeCells #[.int .i64 0] f.sizes.length) 3) = wm := ⟨_, rfl⟩
      rw [hwm] at hown hbm X0 X1 X2 X3
      rw [hpb] at hown
      have hsm : wm.heap.size = pb + 1 := by rw [← hwm, ← hpb]; simp
      have HTS := Lib.hid hts
      have HTL := Lib.hid htl
      have HOW := Lib.hid hown
      have HBM := Lib.hid hbm
      clear hts htl hown hbm
      go_wp2_with fail
      clear hmk hwm x0 x1 x2 x3 X0 X1 X2 X3
      go_loopw [18, 125] (fun yv iv wy => ∃ (i : Nat) (Y : Option Addr) (c : Nat), iv = .int .i64 i ∧ yv = .slice Y i c ∧ i ≤ f.sizes.length ∧ Hid (wy.ownsRow pb 3 1 (.slice (some ⟨pb, 0, none⟩) f.sizes.length f.sizes.length) f.sizes.length (nums (ts.take i ++ List.replicate (ts.length - i) 0))) ∧ Hid (wy.ownsRow (pb + 1) 2 1 (.slice Y i c) i (nums (ts.take i))) ∧ Hid (Below wl.heap.size wl wy)) (fun _ iv _ => f.sizes.length - (intOf iv).toNat)
      case atStart => exact ⟨0, none, 0, rfl, rfl, Nat.zero_le _, HOW, World.ownsRow_nil _ _ _ _, HBM⟩
      case round =>
        clear HOW
        obtain ⟨i, Y, c, rfl, rfl, hi, ht, hy, hbq⟩ := hrel
        by_cases hil : i < f.sizes.length
        · obtain ⟨ad, z, hZA, -, hz, hc⟩ := (Reads.of_own (own_under HZR.out (hbr.out.trans (hbq.out.mono hbr.out.size)))).num hil
          subst hZA
          obtain ⟨z1, z2⟩ := HOK.out.s1 z (List.mem_of_getElem? hz)
          have iI : decide ((i : Int) < (f.sizes.length : Int)) = true := decide_eq_true (by omega)
          have hzn : (z == 0) = false := by simp; omega
          have hzne : z ≠ 0 := by omega
          have hm1 : (0 : Int) ≤ (k : Int) * ((i : Int) + 1) := Int.mul_nonneg (by omega) (by omega)
          have hm2 : (k : Int) * ((i : Int) + 1) ≤ 12 * 65 := Int.mul_le_mul (by omega) (by omega) (by omega) (by omega)
          have l0 : (0 : Int) ≤ (i : Int) := Int.natCast_nonneg _
          have l1 : (i : Int) < (f.sizes.length : Int) := by omega
          have hfz := ht.out.frozenAt i
          obtain ⟨u, hu⟩ : ∃ u, (nums (ts.take i ++ List.replicate (ts.length - i) 0))[i]? = some u := ⟨_, List.getElem?_eq_getElem (by have := HTL.out; simp [nums]; omega)⟩
          have hcj := (ht.out.cellAt i (by omega)).trans hu
          have hti : ts[i]? = some (((k : Int) * ((i : Int) + 1) + (bs.length : Int)) % z) := by rw [← HTS.out]; exact trial_at hz
          obtain ⟨v, hv⟩ : ∃ v, ((k : Int) * ((i : Int) + 1) + (bs.length : Int)) % z = v := ⟨_, rfl⟩
          rw [hv] at hti
          have T1 : Tch wr (wr.setCell ⟨pb, i, none⟩ (.int .i64 v)) (fun q => q = pb) := Tch.put (S := fun q => q = pb) (Tch.refl wr _) (p := ⟨pb, i, none⟩) _ rfl
          have ht1 : (wr.setCell ⟨pb, i, none⟩ (.int .i64 v)).ownsRow pb 3 1 (.slice (some ⟨pb, 0, none⟩) f.sizes.length f.sizes.length) f.sizes.length (nums (ts.take (i + 1) ++ List.replicate (ts.length - (i + 1)) 0)) := by rw [← set_part hti]; exact (ht.out.stored i _).1
          have hy1 := own_off hy.out T1 (off_below fun q hq => by omega)
          have hb1 : Below wl.heap.size wl (wr.setCell ⟨pb, i, none⟩ (.int .i64 v)) := hbq.out.trans (T1.below hbq.out.size fun q hq e => by omega)
          have hmid := (ht1.cellAt i (by omega)).trans (show (nums (ts.take (i + 1) ++ List.replicate (ts.length - (i + 1)) 0))[i]? = some (.int .i64 v) by
            rw [← set_part hti, List.getElem?_set_self (by simp [nums]; have := HTL.out; omega)])
          obtain ⟨W1, hW1⟩ : ∃ W1, wr.setCell ⟨pb, i, none⟩ (.int .i64 v) = W1 := ⟨_, rfl⟩
          rw [hW1] at ht1 hy1 hb1 hmid
          have hA6 := hy1.alloc (.cells #[.int .i64 v] 2)
          have hr6 : Reads (W1.alloc (.cells #[.int .i64 v] 2)) (W1.alloc (.cells #[.int .i64 v] 2)).heap.size 1 (some ⟨W1.heap.size, 0, none⟩) 1 (nums [v]) := reads_block (t := 2) (heap_alloc_new _ _) rfl
          have hpw : pb < W1.heap.size := by have := (own_in ht1 rfl).2; exact this
          have hs6 : pb + 1 ≤ (W1.alloc (.cells #[.int .i64 v] 2)).heap.size := by simp; omega
          have HT1 := Lib.hid ht1
          have HB1 := Lib.hid hb1
          have HTI := Lib.hid hti
          clear hu hz ht1 hb1 hy1 T1 hti
          go_wp2_with (first
            | (at_builtin; refine wpList_append_any _ rfl (.tmp 142) (.tmp 147) _ rfl (pb + 1) 2 i6 _ 1 8 Tryd.underlying34 h60 h61 h62 h63 rfl (by omega) (.slice Y i c) i _ rfl hA6 (W1.alloc (.cells #[.int .i64 v] 2)).heap.size (some ⟨W1.heap.size, 0, none⟩) 1 1 (nums [v]) rfl hr6 nums_one (by simp only [maxLen]; omega) (by omega) hs6 ?_; intro v6 w6 hown6 hg6 hat6; obtain ⟨A6, c6, rfl⟩ := own_shape hown6; have HO6 := Lib.hid hown6; have T6 : Tch (W1.alloc (.cells #[.int .i64 v] 2)) w6 (fun q => some q = (Value.slice Y i c).ownBlock) := Tch.of_grown hg6 fun q _ hq => hq; have HT6 := Lib.hid (T6.own (HT1.out.alloc (.cells #[.int .i64 v] 2)) (fun q hq hk => by have h1 := (own_in hA6 hk.symm).1; have h2 : pb = q := (by injection hq); omega)); have HB6 := Lib.hid ((HB1.out.trans ((bone W1 (.cells #[.int .i64 v] 2)).mono HB1.out.size)).trans (T6.below (by have := HB1.out.size; simp; omega) (fun q hq hk => by have h1 := (own_in hA6 hk.symm).1; omega))); clear T6 hown6 hg6 hat6 hA6 hr6)
            | fail)
          go_roundw
          case measure => simp [intOf]; omega
          case rel => exact ⟨i + 1, A6, c6, by go_num, rfl, hil, HT6, by rw [List.take_add_one, HTI.out, show nums (ts.take i ++ (some v).toList) = nums (ts.take i) ++ nums [v] by simp [nums]]; exact HO6.out, HB6⟩
        · obtain rfl : i = f.sizes.length := by omega
          have iI : decide ((f.sizes.length : Int) < (f.sizes.length : Int)) = false := decide_eq_false (by omega)
          have hbw : Below w0.heap.size w0 wr := hbr.out.trans (hbq.out.mono hbr.out.size)
          have ht2 := ht.out
          have hy2 := hy.out
          rw [List.take_of_length_le (by have := HTL.out; omega), show ts.length - f.sizes.length = 0 by have := HTL.out; omega, List.replicate_zero, List.append_nil] at ht2
          rw [List.take_of_length_le (by have := HTL.out; omega)] at hy2
          have hin : InS f.sizes ts := by rw [← HTS.out]; exact trial_in (fun z hz => (HOK.out.s1 z hz).1) k bs.length
          have hv1 := val_any (HF.out.below hbw) HOK.out HLI.out (some ⟨pb, 0, none⟩) f.sizes.length f.sizes.length ts (Reads.of_own ht2) hin
          obtain ⟨VT, hVT⟩ : ∃ VT, valTo f ts f.funs = VT := ⟨_, rfl⟩
          rw [hVT] at hv1
          have HBW := Lib.hid hbw
          have HY2 := Lib.hid hy2
          have HIN := Lib.hid hin
          have HVT := Lib.hid hVT
          clear ht2 hy2 hin hbw hVT
          go_wp2_with fail
          refine hv1.mono ?_
          rintro e w7 ⟨rfl, hb7⟩
          have hb8 := bto HBW.out hb7
          have hv2 := qval_any (HQ.out.below hb8) HOK.out Y f.sizes.length c ts (Reads.of_own (own_under HY2.out hb7)) HIN.out
          rw [HVT.out] at hv2
          have HB8 := Lib.hid hb8
          clear hv1 hb7 hb8
          have hvv : (VT != VT) = false := by simp
          go_wp2_with fail
          refine hv2.mono ?_
          rintro e w8 ⟨rfl, hb9⟩
          have HB9 := Lib.hid (bto HB8.out hb9)
          clear hv2 hb9
          go_wp2_with fail
          go_roundw
          case measure => simp [intOf]; omega
          case rel => exact ⟨k + 1, by go_num, by omega, HB9⟩
    · obtain rfl : k = 12 := by omega
      have kI : decide (((12 : Nat) : Int) < 12) = false := rfl
      go_wp2_with fail
      go_ret
      exact ⟨rfl, HB.out.trans (hbr.out.mono HB.out.size)⟩
end Go.Proofs.YtafdijfbgkcnnaaDoor.wcp
