/- A function of a file, of what was told. -/
import Derived.Test.YtafdijfbgkcnnaaDoorTpGet
import Derived.Test.YtafdijfbgkcnnaaDoorRdInts
import Derived.Test.YtafdijfbgkcnnaaDoorReads
import Derived.Deep.RegionHeld3
namespace Go.Proofs.YtafdijfbgkcnnaaDoor.wcp
open Go Go.RowKit Go.ChangeShapes Go.WideShapes Go.ChangeAt Go.Maps Go.Proofs.YtafdijfbgkcnnaaDoor.words Go.Proofs.YtafdijfbgkcnnaaDoor.scn
set_option linter.unusedVariables false
def tp0 (f : Raw) (K : Int) : TpH := ⟨f.sizes, K, min f.other K, fun _ => none⟩
def tpOf (f : Raw) (K : Int) (ls : List (List Int × Int)) : TpH := ls.foldl (fun T l => putF T l.1 (min l.2 K)) (tp0 f K)
theorem putF_same (T : TpH) (t : List Int) (c : Int) : (putF T t c).sizes = T.sizes ∧ (putF T t c).k = T.k ∧ (putF T t c).other = T.other := ⟨rfl, rfl, rfl⟩
theorem tpOf_same (f : Raw) (K : Int) (ls : List (List Int × Int)) : (tpOf f K ls).sizes = f.sizes ∧ (tpOf f K ls).k = K ∧ (tpOf f K ls).other = min f.other K := by
  have : ∀ (ls : List (List Int × Int)) (T : TpH), (ls.foldl (fun T l => putF T l.1 (min l.2 K)) T).sizes = T.sizes ∧ (ls.foldl (fun T l => putF T l.1 (min l.2 K)) T).k = T.k ∧ (ls.foldl (fun T l => putF T l.1 (min l.2 K)) T).other = T.other := by
    intro ls
    induction ls with
    | nil => exact fun T => ⟨rfl, rfl, rfl⟩
    | cons l ls ih => exact fun T => ih _
  exact this ls _
theorem tpOf_snoc (f : Raw) (K : Int) (ls : List (List Int × Int)) (l : List Int × Int) : tpOf f K (ls ++ [l]) = putF (tpOf f K ls) l.1 (min l.2 K) := by unfold tpOf; rw [List.foldl_append]; rfl
theorem lc_at {L : List LT} {i : Nat} {p : LT} (h : L[i]? = some p) : (lcells L)[i * 2]? = some p.1 ∧ (lcells L)[i * 2 + 1]? = some (.int .i64 p.2.2) := by
  induction L generalizing i with
  | nil => simp at h
  | cons q L ih =>
    cases i with
    | zero => simp at h; subst h; exact ⟨rfl, rfl⟩
    | succ i =>
      have := ih (i := i) (by simpa using h)
      rw [show (i + 1) * 2 = i * 2 + 1 + 1 by omega]
      exact this
/-- a function that is no larger than it may be -/
def okF (f : Raw) (K : Int) : Prop := f.sizes.length ≤ 6 ∧ (∀ k ∈ f.sizes, 1 ≤ k ∧ k ≤ 32) ∧ 1 ≤ K ∧ K ≤ 2147483648 ∧ 0 ≤ f.other ∧ (∀ l ∈ f.lines, InS f.sizes l.1 ∧ 0 ≤ l.2) ∧ f.lines.length ≤ 100000 ∧ f.scope.length ≤ 6
theorem okF.top {f : Raw} {K : Int} (h : okF f K) : inB (min f.other K) K = true := by obtain ⟨_, _, h1, h2, h3, _⟩ := h; unfold inB; exact decide_eq_true (by omega)
theorem okF.tp {f : Raw} {K : Int} (h : okF f K) (ls : List (List Int × Int)) : okT (tpOf f K ls) := by
  obtain ⟨e1, e2, e3⟩ := tpOf_same f K ls
  unfold okT
  rw [e1, e2, e3]
  exact ⟨h.1, h.2.1, h.top⟩
def RowI (w : World) (base : Nat) (v : Value) (xs : List Int) : Prop := (∃ A c, v = .slice A xs.length c) ∧ w.ownsRow base 3 1 v xs.length (nums xs)
/-- the function's value in a file; all of it in F -/
def FunV (w : World) (F : Nat → Prop) (v : Value) (f : Raw) (K : Int) : Prop :=
  ∃ v1 tg, v = .agg #[v1, .pointer (some ⟨tg, 0, none⟩)] ∧ RowI w 0 v1 f.scope ∧ (∀ k, v1.ownBlock = some k → F k) ∧ TpV w tg F f.lines.length (tpOf f K f.lines)
def FileFunR (w : World) (f : Raw) (K : Int) (e : Ending) (w' : World) : Prop :=
  ∃ v, e = .returned v ∧ FunV w' (fun k => w.heap.size ≤ k) v f K ∧ Below w.heap.size w w'
theorem TpV.lim {w : World} {g n : Nat} {F : Nat → Prop} {T : TpH} (h : TpV w g F n T) : TpV w g (fun k => F k ∧ k < w.heap.size) n T := by
  obtain ⟨hg, A, c, mb, D, hb, ho, hf, hm, hmb, hd⟩ := h
  exact ⟨⟨hg, Blk.lt hb⟩, A, c, mb, D, hb, ho, fun k hk => ⟨hf k hk, (own_in ho hk).2⟩, hm, ⟨hmb, World.ownsMap.lt hm⟩, hd⟩
set_option maxRecDepth 100000 in
set_option maxHeartbeats 8000000 in
theorem filefun_any {w : World} {g : Nat} {cs : Array Value} {v : Value} {f : Raw} {K : Int} (hg : Blk w g 51 cs) (hK : cs[1]? = some (.int .i64 K)) (hv : RawV w v f) (hok : okF f K) :
    Calls Tryd.prog 38 #[.pointer (some ⟨g, 0, none⟩), v] w fun e w' => FileFunR w f K e w' := by
  obtain ⟨v1, v2, v4, rfl, ⟨⟨A1, c1, rfl⟩, h1⟩, ⟨⟨A2, c2, rfl⟩, h2⟩, ⟨L, hL, ⟨A4, c4, rfl⟩, h4, h5⟩⟩ := hv
  have q1 := (hg.cell 1).trans hK
  obtain ⟨wa, hwa⟩ : ∃ wa, (w.alloc (.cells #[.slice A1 f.scope.length c1, .slice A2 f.sizes.length c2, .int .i64 f.other, .slice A4 L.length c4] 86)).alloc (.cells #[.slice none 0 0, .pointer none] 55) = wa := ⟨_, rfl⟩
  have hB : Below w.heap.size w wa := by rw [← hwa]; exact bnew (bone w _) _
  have hx : Blk wa w.heap.size 86 #[.slice A1 f.scope.length c1, .slice A2 f.sizes.length c2, .int .i64 f.other, .slice A4 L.length c4] := by rw [← hwa]; exact (Blk.new w _ _).alloc _
  have hr : Blk wa (w.heap.size + 1) 55 #[.slice none 0 0, .pointer none] := by
    rw [← hwa]
    have := Blk.new (w.alloc (.cells #[.slice A1 f.scope.length c1, .slice A2 f.sizes.length c2, .int .i64 f.other, .slice A4 L.length c4] 86)) 55 #[.slice none 0 0, .pointer none]
    rw [show (w.alloc (.cells #[.slice A1 f.scope.length c1, .slice A2 f.sizes.length c2, .int .i64 f.other, .slice A4 L.length c4] 86)).heap.size = w.heap.size + 1 by simp] at this
    exact this
  have HOK := Lib.hid hok
  have HG := Lib.hid hg
  have HH1 := Lib.hid h1
  have HH2 := Lib.hid h2
  have HH4 := Lib.hid h4
  have HH5 := Lib.hid h5
  have HL := Lib.hid hL
  have HB := Lib.hid hB
  have HX := Lib.hid hx
  have HR := Lib.hid hr
  clear hg h1 h2 h4 h5 hL hok hB hx hr hK
  go_enter Tryd.func38, Tryd.ntmps38
  go_upto_region 1 with fail
  obtain ⟨b, hb⟩ : ∃ b, w.heap.size = b := ⟨_, rfl⟩
  rw [hb] at HX HR ⊢
  clear hwa
  obtain ⟨y0, y1, y2, y3, -⟩ := Blk.four (t := 86) HX.out
  have qa : wa.cell? ⟨g, 1, none⟩ = some (.int .i64 K) := ((bcell HB.out).1 g 1 (Blk.lt HG.out)).trans q1
  have hgl : g < wa.heap.size := by have := Blk.lt HG.out; have := HB.out.size; omega
  have hsz2 : Reads wa wa.heap.size 1 A2 f.sizes.length (nums f.sizes) := Reads.of_own (own_under HH2.out HB.out)
  have hin := ints_any A2 f.sizes.length c2 f.sizes wa.drew (by have := HOK.out.1; omega) (show Reads wa.drew wa.drew.heap.size 1 A2 f.sizes.length (nums f.sizes) from hsz2)
  have hnew : ∀ (W : World) (A : Option Addr) (n c : Nat), n ≤ 6 → Reads W W.heap.size 1 A n (nums f.sizes) → Calls Tryd.prog 25 #[.slice A n c, .int .i64 K, .int .i64 (min f.other K)] W fun e w' => NewR W f.sizes K (min f.other K) e w' := fun W A n c hn hr =>
    tnew_any A n c f.sizes K (min f.other K) W hn hr HOK.out.2.1 HOK.out.top
  have HWS : Hid (w.heap.size = b) := hb
  clear hb
  go_cut [5] (fun tv wq => ∃ tg, tv = .pointer (some ⟨tg, 0, none⟩) ∧ TpV wq tg (fun k => wa.heap.size ≤ k) 0 (tp0 f K) ∧ Below wa.heap.size wa wq)
  case first =>
    have y1d : wa.drew.cell? ⟨b, 1, none⟩ = some (.slice A2 f.sizes.length c2) := y1
    have y2d : wa.drew.cell? ⟨b, 2, none⟩ = some (.int .i64 f.other) := y2
    have qad : wa.drew.cell? ⟨g, 1, none⟩ = some (.int .i64 K) := qa
    go_region_held3 (fun W => W.cell? ⟨b, 1, none⟩ = some (.slice A2 f.sizes.length c2) ∧ W.cell? ⟨b, 2, none⟩ = some (.int .i64 f.other) ∧ W.cell? ⟨g, 1, none⟩ = some (.int .i64 K)) (first | exact ⟨y1d, y2d, qad⟩ | exact HS2 | exact HS3) (first
      | (go_at_call 37; refine hin.mono ?_; rintro e w2 ⟨rfl, hown2, hb2⟩; have HS2 : w2.cell? ⟨b, 1, none⟩ = some (.slice A2 f.sizes.length c2) ∧ w2.cell? ⟨b, 2, none⟩ = some (.int .i64 f.other) ∧ w2.cell? ⟨g, 1, none⟩ = some (.int .i64 K) := ⟨((bcell hb2).1 b 1 (Blk.lt HX.out)).trans y1, ((bcell hb2).1 b 2 (Blk.lt HX.out)).trans y2, ((bcell hb2).1 g 1 hgl).trans qa⟩; have hn2 := hnew w2 _ f.sizes.length f.sizes.length HOK.out.1 (Reads.of_own hown2); have HB2 := Lib.hid hb2; clear hown2 hb2)
      | (go_at_call 25; refine hn2.mono ?_; rintro e w3 ⟨tg, rfl, htp, hb3⟩; have HS3 : w3.cell? ⟨b, 1, none⟩ = some (.slice A2 f.sizes.length c2) ∧ w3.cell? ⟨b, 2, none⟩ = some (.int .i64 f.other) ∧ w3.cell? ⟨g, 1, none⟩ = some (.int .i64 K) := ⟨((bcell hb3).1 b 1 (World.block_lt_of_cell? _ _ HS2.1)).trans HS2.1, ((bcell hb3).1 b 2 (World.block_lt_of_cell? _ _ HS2.1)).trans HS2.2.1, ((bcell hb3).1 g 1 (World.block_lt_of_cell? _ _ HS2.2.2)).trans HS2.2.2⟩; have HTP := Lib.hid htp; have HB3 := Lib.hid hb3; clear htp hb3))
    all_goals
      go_wp2_with fail
      go_meet
      case rel => exact ⟨tg, rfl, HTP.out.mono fun k hk => by have := HB2.out.size; exact Nat.le_trans this hk, bto (show Below wa.heap.size wa w2 from ⟨HB2.out.os, HB2.out.tape, HB2.out.output, HB2.out.size, HB2.out.block⟩) HB3.out⟩
  case rest =>
    obtain ⟨tg, rfl, htp, hbw⟩ := hcut
    have HLL : Hid (L.length = f.lines.length) := by have := HL.out; rw [Hid, ← this]; simp
    have hxc := HX.out.under hbw
    obtain ⟨z0, z1, z2, z3, -⟩ := Blk.four (t := 86) hxc
    have htp := htp.lim
    obtain ⟨lim, hlim⟩ : ∃ lim, wc.heap.size = lim := ⟨_, rfl⟩
    rw [hlim] at htp
    have HLIM := Lib.hid hlim
    clear hlim
    have HTP := Lib.hid htp
    have HBW := Lib.hid hbw
    have hwl : L.length ≤ 1000000 := by have := HLL.out; have := HOK.out.2.2.2.2.2.2.1; omega
    clear htp hbw hxc hin hnew hsz2 y0 y1 y2 y3 qa
    go_wp2_with fail
    clear z0 z1 z2 z3
    go_loopw [8, 30] (fun _ jv wr => ∃ j : Nat, jv = .int .i64 j ∧ j ≤ L.length ∧ TpV wr tg (fun k => wa.heap.size ≤ k ∧ k < lim) j (tpOf f K (f.lines.take j)) ∧ Below wa.heap.size wa wr ∧ lim ≤ wr.heap.size) (fun _ jv _ => L.length - (intOf jv).toNat)
    case atStart => exact ⟨0, rfl, Nat.zero_le _, HTP.out, HBW.out, Nat.le_of_eq HLIM.out.symm⟩
    case round =>
      obtain ⟨j, rfl, hj, htp, hbw, hlm⟩ := hrel
      by_cases hlt : j < L.length
      · have hB1 : Below w.heap.size w wr := HB.out.trans (hbw.mono HB.out.size)
        obtain ⟨pp, hpp⟩ : ∃ pp, L[j]? = some pp := ⟨_, List.getElem?_eq_getElem hlt⟩
        have h4' := own_under HH4.out hB1
        obtain ⟨q4, rfl, _, _⟩ := own_some h4' (by omega)
        have hrow := HH5.out pp (List.mem_of_getElem? hpp)
        obtain ⟨tv, tt, cc⟩ := pp
        obtain ⟨⟨tA, tC, htv⟩, hro⟩ := hrow
        dsimp only at htv hro
        subst htv
        have hfl : f.lines[j]? = some (tt, cc) := by rw [← HL.out, List.getElem?_map, hpp]; rfl
        obtain ⟨e1, e2⟩ := lc_at hpp
        have c40 := (h4'.cellAt (j * 2) (by omega)).trans e1
        have c41 := (h4'.cellAt (j * 2 + 1) (by omega)).trans e2
        have hro' := own_under hro hB1
        obtain ⟨hins, hc0⟩ := HOK.out.2.2.2.2.2.1 (tt, cc) (List.mem_of_getElem? hfl)
        dsimp only at hins hc0
        have hrd : ∀ o : Obj, Reads (wr.alloc o).drew (wr.alloc o).drew.heap.size 1 tA tt.length (nums tt) := fun o => show Reads (wr.alloc o) (wr.alloc o).heap.size 1 tA tt.length (nums tt) from Reads.of_own (hro'.alloc o)
        have htl6 : tt.length ≤ 6 := by rw [hins.1]; exact HOK.out.1
        have HFL := Lib.hid hfl
        have HTPR := Lib.hid htp
        have HBWR := Lib.hid hbw
        have HINS := Lib.hid hins
        have hK2 : wr.cell? ⟨g, 1, none⟩ = some (.int .i64 K) := ((bcell hB1).1 g 1 (Blk.lt HG.out)).trans q1
        have hgw : g < wr.heap.size := by have := hB1.size; have := Blk.lt HG.out; omega
        have i0 : (0 : Int) ≤ (j : Int) := Int.natCast_nonneg _
        have i1 : (j : Int) < (L.length : Int) := by omega
        clear hpp h4' hro hfl e1 e2 hro' htp hbw hins
        go_upto_region 5 with fail
        obtain ⟨lb, hlb⟩ : ∃ lb, wr.heap.size = lb := ⟨_, rfl⟩
        have hbl := bone wr (.cells #[.slice tA tt.length tC, .int .i64 cc] 146)
        have hlx : Blk (wr.alloc (.cells #[.slice tA tt.length tC, .int .i64 cc] 146)) wr.heap.size 146 #[.slice tA tt.length tC, .int .i64 cc] := Blk.new _ _ _
        have hin := ints_any tA tt.length tC tt (wr.alloc (.cells #[.slice tA tt.length tC, .int .i64 cc] 146)).drew (by omega) (hrd _)
        obtain ⟨wl, hwl⟩ : ∃ wl, wr.alloc (.cells #[.slice tA tt.length tC, .int .i64 cc] 146) = wl := ⟨_, rfl⟩
        rw [hwl, hlb] at hlx
        rw [hwl] at hin hbl ⊢
        rw [hlb]
        have hkl : wl.cell? ⟨g, 1, none⟩ = some (.int .i64 K) := ((bcell hbl).1 g 1 hgw).trans hK2
        obtain ⟨l0, l1⟩ := hlx.two
        have l0d : wl.drew.cell? ⟨lb, 0, none⟩ = some (.slice tA tt.length tC) := l0
        have l1d : wl.drew.cell? ⟨lb, 1, none⟩ = some (.int .i64 cc) := l1
        have kld : wl.drew.cell? ⟨g, 1, none⟩ = some (.int .i64 K) := hkl
        have hlbw : lb < wl.heap.size ∧ g < wl.heap.size := ⟨Blk.lt hlx, by have := hbl.size; omega⟩
        have hgne : g < wa.heap.size := hgl
        have hput : ∀ (W : World) (A : Option Addr) (n c : Nat), Below wl.heap.size wl W → Reads W W.heap.size 1 A n (nums tt) → Calls Tryd.prog 20 #[.pointer (some ⟨tg, 0, none⟩), .slice A n c, .int .i64 (min cc K)] W fun e w' => e = .returned (.int .i64 0) ∧ TpV w' tg (fun k => wa.heap.size ≤ k ∧ k < lim) (j + 1) (putF (tpOf f K (f.lines.take j)) tt (min cc K)) ∧ Tch W w' (fun k => wa.heap.size ≤ k ∧ k < lim) := fun W A n c hb hr => by
          have h1 := (HTPR.out.keep (Tch.of_below hbl (fun _ => False)) fun _ _ h => h).keep (Tch.of_below hb (fun _ => False)) fun _ _ h => h
          refine (tput_any h1 (HOK.out.tp _) A n c tt (min cc K) hr ?_ ?_ (by omega)).mono fun e w' ⟨a, b, c⟩ => ⟨a, b, c.mono fun k _ h => h.1⟩
          · rw [(tpOf_same f K _).1]; exact HINS.out
          · rw [(tpOf_same f K _).2.1]; obtain ⟨_, _, k1, k2, _⟩ := HOK.out; unfold inB; exact decide_eq_true (by omega)
        have HBL := Lib.hid hbl
        clear hwl hlx hbl l0 l1 hkl hrd hK2
        go_region_held3 (fun W => W.cell? ⟨lb, 0, none⟩ = some (.slice tA tt.length tC) ∧ W.cell? ⟨lb, 1, none⟩ = some (.int .i64 cc) ∧ W.cell? ⟨g, 1, none⟩ = some (.int .i64 K)) (first | exact ⟨l0d, l1d, kld⟩ | exact HS2 | exact HS3) (first
          | (go_at_call 37; refine hin.mono ?_; rintro e w2 ⟨rfl, hown2, hb2⟩; have HS2 : w2.cell? ⟨lb, 0, none⟩ = some (.slice tA tt.length tC) ∧ w2.cell? ⟨lb, 1, none⟩ = some (.int .i64 cc) ∧ w2.cell? ⟨g, 1, none⟩ = some (.int .i64 K) := ⟨((bcell hb2).1 lb 0 hlbw.1).trans l0d, ((bcell hb2).1 lb 1 hlbw.1).trans l1d, ((bcell hb2).1 g 1 hlbw.2).trans kld⟩; have hp2 := hput w2 _ tt.length tt.length ⟨hb2.os, hb2.tape, hb2.output, hb2.size, hb2.block⟩ (Reads.of_own hown2); have HB2 : Hid (Below wl.heap.size wl w2) := ⟨hb2.os, hb2.tape, hb2.output, hb2.size, hb2.block⟩; clear hown2 hb2)
          | (go_at_call 20; refine hp2.mono ?_; rintro e w3 ⟨rfl, htp3, ht3⟩; have HS3 : w3.cell? ⟨lb, 0, none⟩ = some (.slice tA tt.length tC) ∧ w3.cell? ⟨lb, 1, none⟩ = some (.int .i64 cc) ∧ w3.cell? ⟨g, 1, none⟩ = some (.int .i64 K) := ⟨(World.cell?_of_block (ht3.block lb (World.block_lt_of_cell? _ _ HS2.1) (by omega))).trans HS2.1, (World.cell?_of_block (ht3.block lb (World.block_lt_of_cell? _ _ HS2.1) (by omega))).trans HS2.2.1, (World.cell?_of_block (ht3.block g (World.block_lt_of_cell? _ _ HS2.2.2) (by omega))).trans HS2.2.2⟩; have HTP3 := Lib.hid htp3; have HT3 := Lib.hid ht3; clear htp3 ht3))
        all_goals
          go_wp2_with fail
          go_roundw
          case measure => simp [intOf]; omega
          case rel =>
            have hsz : wl.heap.size ≤ w2.heap.size ∧ w2.heap.size ≤ w3.heap.size ∧ wr.heap.size ≤ wl.heap.size := ⟨HB2.out.size, HT3.out.size, HBL.out.size⟩
            refine ⟨j + 1, by go_num, by omega, ?_, ?_, by omega⟩
            · rw [List.take_add_one, HFL.out, Option.toList_some, tpOf_snoc]; exact HTP3.out
            · exact ((HBWR.out.trans (HBL.out.mono HBWR.out.size)).trans (HB2.out.mono (by have := HBWR.out.size; omega))).trans (HT3.out.below (by have := HBWR.out.size; omega) fun i hi h => by omega)
      · obtain rfl : j = L.length := by omega
        have hB1 : Below w.heap.size w wr := HB.out.trans (hbw.mono HB.out.size)
        have hrw := HR.out.below hbw (Blk.lt HR.out)
        have hin := ints_any A1 f.scope.length c1 f.scope wr (by have := HOK.out.2.2.2.2.2.2.2; omega) (Reads.of_own (own_under HH1.out hB1))
        have hxw := HX.out.below hbw (Blk.lt HX.out)
        obtain ⟨z0, -⟩ := Blk.four (t := 86) hxw
        have HTPR := Lib.hid htp
        have HBWR := Lib.hid hbw
        have HRW := Lib.hid hrw
        have HB1 := Lib.hid hB1
        clear htp hbw hrw hB1 hxw
        go_wp2_with fail
        refine hin.mono ?_
        rintro e w2 ⟨rfl, hown2, hb2⟩
        clear hin
        have hr2 := HRW.out.under hb2
        obtain ⟨r0, r1⟩ := hr2.two
        have rf0 := hr2.frozen 0
        have rf1 := hr2.frozen 1
        have HR2 := Lib.hid hr2
        have HO2 := Lib.hid hown2
        have HB2 := Lib.hid hb2
        clear hr2 hown2 hb2
        go_wp2_with fail
        obtain ⟨wf, hwf⟩ : ∃ wf, (w2.setCell ⟨b + 1, 0, none⟩ (.slice (some ⟨wr.heap.size, 0, none⟩) f.scope.length f.scope.length)).setCell ⟨b + 1, 1, none⟩ (.pointer (some ⟨tg, 0, none⟩)) = wf := ⟨_, rfl⟩
        have hfb : Blk wf (b + 1) 55 #[.slice (some ⟨wr.heap.size, 0, none⟩) f.scope.length f.scope.length, .pointer (some ⟨tg, 0, none⟩)] := by rw [← hwf]; exact ((HR2.out.set_ 0 _).set_ 1 _)
        have hft : Tch w2 wf (fun k => k = b + 1) := by rw [← hwf]; exact ((Tch.refl w2 (fun k => k = b + 1)).put (p := ⟨b + 1, 0, none⟩) _ rfl).put (p := ⟨b + 1, 1, none⟩) _ rfl
        rw [hwf]
        obtain ⟨k0, k1⟩ := hfb.two
        have hbl2 : b + 1 < wa.heap.size := Blk.lt HR.out
        have hws := HWS.out
        have hwsz : w.heap.size ≤ wa.heap.size ∧ wa.heap.size ≤ wr.heap.size ∧ wr.heap.size ≤ w2.heap.size := ⟨HB.out.size, HBWR.out.size, HB2.out.size⟩
        refine bodyPost_ret (v := .agg #[.slice (some ⟨wr.heap.size, 0, none⟩) f.scope.length f.scope.length, .pointer (some ⟨tg, 0, none⟩)]) (by simp [results, Tryd.results38, go_sem, k0, k1]) rfl ⟨_, rfl, ⟨_, tg, rfl, ⟨⟨_, _, rfl⟩, ?_⟩, ?_, ?_⟩, ?_⟩
        · exact own_base (own_off HO2.out hft (off_below fun k hk => by omega)) (Nat.zero_le _)
        · intro k hk
          have h2 : wr.heap.size = k := Option.some.inj hk
          omega
        · have := HTPR.out
          rw [HLL.out, List.take_of_length_le (Nat.le_refl _)] at this
          exact ((this.keep (Tch.of_below HB2.out (fun _ => False)) fun _ _ h => h).keep hft fun k hk e => by omega).mono fun k hk => by omega
        · exact (bto HB1.out HB2.out).trans (hft.below (by omega) fun i hi e => by omega)
end Go.Proofs.YtafdijfbgkcnnaaDoor.wcp
