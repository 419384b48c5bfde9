/- A trail's Forget. -/
import Derived.Test.YtgojncgdmcpkiaaTrMark
import Derived.Deep.LoopGhost
import Derived.Deep.CutBlock
import Derived.StillTailTactics
import Derived.Deep.RegionWith
namespace Go.Proofs.Ytgojncgdmcpkiaa.trl
open Go Go.RowKit Go.ChangeShapes Go.WideShapes Go.ChangeAt Go.Proofs.Ytgojncgdmcpkiaa.words
set_option linter.unusedVariables false
variable {g : Nat} {F : Nat → Prop} {cs : List Cl} {os : List Ol} {ms : List Mk} {ev : Nat}
theorem own_cut {w : World} {base s n c m : Nat} {e : TypeId} {A : Option Addr} {xs : List Value} (h : w.ownsRow base e s (.slice A n c) n xs) (hm : m ≤ n) : w.ownsRow base e s (.slice A m c) m (xs.take (m * s)) := by
  obtain ⟨hl, h2⟩ := h
  have hms : m * s ≤ n * s := Nat.mul_le_mul_right _ hm
  refine ⟨by rw [List.length_take, hl, Nat.min_eq_left hms], ?_⟩
  rcases h2 with ⟨h0, hn⟩ | ⟨g', cap', cur, hv, hg, hh, hn, hcap, hsz, htake⟩
  · injection h0 with h1 h2 h3
    subst h1; subst h3
    obtain rfl : m = 0 := by omega
    exact .inl ⟨rfl, rfl⟩
  · injection hv with h1 _ h3
    subst h1; subst h3
    refine .inr ⟨g', c, cur, rfl, hg, hh, by omega, hcap, hsz, ?_⟩
    rw [← htake, List.take_take, Nat.min_eq_left hms]
theorem flat_cut {α : Type} (f : α → List Value) (s : Nat) (hs : ∀ x, (f x).length = s) (zs : List α) (m : Nat) : (zs.flatMap f).take (m * s) = (zs.take m).flatMap f := by
  induction zs generalizing m with
  | nil => simp
  | cons z zs ih =>
    cases m with
    | zero => simp
    | succ m =>
      rw [List.take_succ_cons, List.flatMap_cons, List.flatMap_cons, Nat.succ_mul, ← ih m, List.take_append, hs]
      rw [List.take_of_length_le (by rw [hs]; omega)]
      congr 2
      omega
/-- heads cut short: olds to mo, marks to m -/
theorem TR.cut {w : World} (h : TR w g F cs os ms ev) {mo m : Nat} (hmo : mo ≤ os.length) (hm : m ≤ ms.length) : ∃ A2 c2 A3 c3, w.cell? ⟨g, 1, none⟩ = some (.slice A2 os.length c2) ∧ w.cell? ⟨g, 2, none⟩ = some (.slice A3 ms.length c3) ∧ os.length ≤ c2 ∧ ms.length ≤ c3 ∧ w.frozen? ⟨g, 1, none⟩ = false ∧ w.frozen? ⟨g, 2, none⟩ = false ∧
    w.ownsRow 0 66 3 (.slice A2 os.length c2) os.length (os.flatMap fol) ∧ (∀ k, (Value.slice A2 os.length c2).ownBlock = some k → F k) ∧
    TR ((w.setCell ⟨g, 2, none⟩ (.slice A3 m c3)).setCell ⟨g, 1, none⟩ (.slice A2 mo c2)) g F cs (os.take mo) (ms.take m) ev ∧ Tch w ((w.setCell ⟨g, 2, none⟩ (.slice A3 m c3)).setCell ⟨g, 1, none⟩ (.slice A2 mo c2)) (· = g) ∧ F g := by
  obtain ⟨hg, A1, c1, A2, c2, A3, c3, hb, h1, f1, h2, f2, h3, f3⟩ := h
  have ht : Tch w ((w.setCell ⟨g, 2, none⟩ (.slice A3 m c3)).setCell ⟨g, 1, none⟩ (.slice A2 mo c2)) (· = g) := (Tch.set_ w (S := (· = g)) (p := ⟨g, 2, none⟩) _ rfl).put (p := ⟨g, 1, none⟩) _ rfl
  have hb' := (hb.set_ 2 (.slice A3 m c3)).set_ 1 (.slice A2 mo c2)
  have o1 := ht.own h1 (fun q hq e => own_blk_ne h1 hb (by decide) (by rw [hq, e]))
  have o2 := own_cut (ht.own h2 (fun q hq e => own_blk_ne h2 hb (by decide) (by rw [hq, e]))) hmo
  have o3 := own_cut (ht.own h3 (fun q hq e => own_blk_ne h3 hb (by decide) (by rw [hq, e]))) hm
  rw [flat_cut fol 3 (fun _ => rfl)] at o2
  rw [flat_cut fmk 3 (fun _ => rfl)] at o3
  have l2 : (os.take mo).length = mo := by rw [List.length_take]; omega
  have l3 : (ms.take m).length = m := by rw [List.length_take]; omega
  refine ⟨A2, c2, A3, c3, hb.cell 1, hb.cell 2, own_cap h2, own_cap h3, hb.frozen 1, hb.frozen 2, h2, f2, ⟨hg, A1, c1, A2, c2, A3, c3, by rw [l2, l3]; exact hb', o1, f1, by rw [l2]; exact o2, fun k hk => f2 k (by rw [← hk]; cases A2 <;> rfl), by rw [l3]; exact o3, fun k hk => f3 k (by rw [← hk]; cases A3 <;> rfl)⟩, ht, hg⟩
set_option maxRecDepth 100000 in
set_option maxHeartbeats 8000000 in
theorem forget_zero (w : World) (h : TR w g F cs os ms ev) {mo mc mst : Nat} (hm : ms[0]? = some (mo, mc, mst)) (hob : os.length ≤ 1000000) (hmb : ms.length ≤ 1000000) (hmo : mo ≤ os.length) :
    Calls Try.prog 23 #[.pointer (some ⟨g, 0, none⟩), .int .i64 0] w fun e w' => e = .returned (.int .i64 0) ∧ Left w g F cs (os.take mo) [] ev w' := by
  have hml := get_lt hm
  have hop := open_of _ _ w 0 (depth_any w h) true (by simp; omega)
  obtain ⟨A2, c2, A3, c3, q1, q2, k2, k3, f1, f2, hown, hF, hT, ht, hFg⟩ := h.cut hmo (Nat.zero_le ms.length)
  rw [List.take_zero] at hT
  obtain ⟨r3, d0⟩ : ∃ r3, A3 = some ⟨r3, 0, none⟩ ∧ w.cell? ⟨r3, 0, none⟩ = some (.int .i64 mo) := by
    obtain ⟨hg, A1, c1, A2', c2', A3', c3', hb, h1, f1, h2, f2, h3, f3⟩ := h
    obtain ⟨r3, rfl, d0, _, _⟩ := marks_at h3 hm hml
    rw [hb.cell 2] at q2
    have q2' := Option.some.inj q2
    injection q2' with e1 _ _
    exact ⟨r3, e1.symm, by simpa using d0⟩
  obtain ⟨rfl, d0⟩ := d0
  obtain ⟨n2, hn2⟩ : ∃ n, os.length = n := ⟨_, rfl⟩
  obtain ⟨n3, hn3⟩ : ∃ n, ms.length = n := ⟨_, rfl⟩
  rw [hn2] at q1 hob hmo k2 hown
  rw [hn3] at q2 hml hmb k3
  have s0 : (0 : Int) ≤ (mo : Int) := Int.natCast_nonneg _
  have s1 : (mo : Int) ≤ (n2 : Int) := by omega
  have s2 : (n2 : Int) ≤ (c2 : Int) := by omega
  have s3 : (mo : Int) ≤ (c2 : Int) := by omega
  have s4 : (0 : Int) < (n3 : Int) := by omega
  have s5 : (0 : Int) ≤ (c3 : Int) := Int.natCast_nonneg _
  have HL : Hid (Left w g F cs (os.take mo) [] ev ((w.setCell ⟨g, 2, none⟩ (.slice (some ⟨r3, 0, none⟩) 0 c3)).setCell ⟨g, 1, none⟩ (.slice A2 mo c2))) := ⟨hT.mono fun k hk => .inl hk, ht.mono fun k _ e => by rw [e]; exact hFg⟩
  have hsh : (A2 = none ∧ n2 = 0 ∧ c2 = 0) ∨ (∃ r2, A2 = some ⟨r2, 0, none⟩) := by
    rcases hown.2 with ⟨h0, h1⟩ | ⟨r2, _, _, h0, _⟩
    · injection h0 with h0 _ h2; exact .inl ⟨h0, h1, h2⟩
    · injection h0 with h0; exact .inr ⟨r2, h0⟩
  clear hT ht hm h hown hF hn2 hn3
  go_enter Try.func23, Try.ntmps23
  go_wp2_with fail
  refine hop.mono ?_
  rintro e w' ⟨rfl, rfl⟩
  clear hop
  rcases hsh with ⟨rfl, rfl, rfl⟩ | ⟨r2, rfl⟩
  · obtain rfl : mo = 0 := by omega
    go_wp2_with fail
    go_ret
    exact ⟨rfl, HL.out⟩
  · by_cases hcm : c2 = mo
    · subst hcm
      go_wp2_with fail
      go_ret
      exact ⟨rfl, HL.out⟩
    · go_wp2_with fail
      go_ret
      exact ⟨rfl, HL.out⟩
/-- the olds kept of the first j -/
def kp (os : List Ol) (mo : Nat) (last : Mk) (j : Nat) : List Ol := ((os.drop mo).take j).filter (kept last)
theorem kp_le (os : List Ol) (mo : Nat) (last : Mk) (j : Nat) : (kp os mo last j).length ≤ j := Nat.le_trans (List.length_filter_le _ _) (by rw [List.length_take]; omega)
theorem kp_next {os : List Ol} {mo : Nat} {last : Mk} {j : Nat} {o : Ol} (ho : os[mo + j]? = some o) : kp os mo last (j + 1) = kp os mo last j ++ (if kept last o then [o] else []) := by
  unfold kp
  rw [List.take_add_one, List.getElem?_drop, ho, List.filter_append]
  congr 1
  simp only [Option.toList_some, List.filter_cons, List.filter_nil]
/-- what the loop keeps: j olds are seen; the row whole holds X -/
structure FS (w0 : World) (g : Nat) (F : Nat → Prop) (cs : List Cl) (os : List Ol) (ms' : List Mk) (ev mo : Nat) (last : Mk) (A2 : Option Addr) (c2 Bl j : Nat) (X : List Ol) (wr : World) : Prop where
  len : X.length = os.length
  head : X.take (mo + (kp os mo last j).length) = os.take mo ++ kp os mo last j
  rest : X.drop (mo + j) = os.drop (mo + j)
  tr : TR wr g (fun k => F k ∨ w0.heap.size ≤ k) cs (os.take mo ++ kp os mo last j) ms' ev
  hd : wr.cell? ⟨g, 1, none⟩ = some (.slice A2 (mo + (kp os mo last j).length) c2)
  own : wr.ownsRow 0 66 3 (.slice A2 os.length c2) os.length (X.flatMap fol)
  box : Blk wr Bl 62 #[.int .i64 last.1, .int .i64 last.2.1, .int .u64 last.2.2]
  tch : Tch w0 wr F
  fo : ∀ k, (Value.slice A2 os.length c2).ownBlock = some k → F k
section
variable {w0 wr : World} {mo c2 Bl j : Nat} {last : Mk} {A2 : Option Addr} {X : List Ol}
theorem FS.below {w' : World} (h : FS w0 g F cs os ms ev mo last A2 c2 Bl j X wr) (hb : Below wr.heap.size wr w') : FS w0 g F cs os ms ev mo last A2 c2 Bl j X w' := by
  have hgl : g < wr.heap.size := by obtain ⟨_, _, _, _, _, _, _, hb, _⟩ := h.tr; exact hb.lt
  exact ⟨h.len, h.head, h.rest, h.tr.below hb, (hb.cell (p := ⟨g, 1, none⟩) hgl).trans h.hd, own_under h.own hb, h.box.under hb, h.tch.trans (Tch.of_below hb F) fun _ _ h => h, h.fo⟩
theorem FS.skip {o : Ol} (h : FS w0 g F cs os ms ev mo last A2 c2 Bl j X wr) (ho : os[mo + j]? = some o) (hk : kept last o = false) : FS w0 g F cs os ms ev mo last A2 c2 Bl (j + 1) X wr := by
  have e : kp os mo last (j + 1) = kp os mo last j := by rw [kp_next ho, hk]; simp
  refine ⟨h.len, by rw [e]; exact h.head, ?_, by rw [e]; exact h.tr, by rw [e]; exact h.hd, h.own, h.box, h.tch, h.fo⟩
  have := congrArg (List.drop 1) h.rest
  rwa [List.drop_drop, List.drop_drop] at this
theorem own_put {w : World} {r n c p : Nat} {o x : Ol} (h : w.ownsRow 0 66 3 (.slice (some ⟨r, 0, none⟩) n c) n (X.flatMap fol)) (hx : X[p]? = some x) :
    (((w.setCell ⟨r, p * 3, none⟩ (.int .i64 o.1)).setCell ⟨r, p * 3 + 1, none⟩ (.int .i64 o.2.1)).setCell ⟨r, p * 3 + 2, none⟩ (.int .u64 o.2.2)).ownsRow 0 66 3 (.slice (some ⟨r, 0, none⟩) n c) n ((X.set p o).flatMap fol) := by
  have hp := get_lt hx
  have a := (h.stored (p * 3) (.int .i64 o.1)).1
  rw [show p * 3 = p * 3 + 0 from rfl, flat_set fol 3 (fun _ => rfl) X p x hp 0 _ (o.1, x.2) rfl hx (by omega)] at a
  have b := (a.stored (p * 3 + 1) (.int .i64 o.2.1)).1
  rw [flat_set fol 3 (fun _ => rfl) _ p (o.1, x.2) (by rw [List.length_set]; exact hp) 1 _ (o.1, o.2.1, x.2.2) rfl (by rw [List.getElem?_set_self hp]) (by omega), List.set_set] at b
  have c := (b.stored (p * 3 + 2) (.int .u64 o.2.2)).1
  rw [flat_set fol 3 (fun _ => rfl) _ p (o.1, o.2.1, x.2.2) (by rw [List.length_set]; exact hp) 2 _ (o.1, o.2.1, o.2.2) rfl (by rw [List.getElem?_set_self hp]) (by omega), List.set_set] at c
  exact c
theorem FS.put {r : Nat} {o : Ol} (h : FS w0 g F cs os ms ev mo last (some ⟨r, 0, none⟩) c2 Bl j X wr) (ho : os[mo + j]? = some o) (hk : kept last o = true) (p : Nat) (hp : p = mo + (kp os mo last j).length) :
    FS w0 g F cs os ms ev mo last (some ⟨r, 0, none⟩) c2 Bl (j + 1) (X.set p o) ((((wr.setCell ⟨r, p * 3, none⟩ (.int .i64 o.1)).setCell ⟨r, p * 3 + 1, none⟩ (.int .i64 o.2.1)).setCell ⟨r, p * 3 + 2, none⟩ (.int .u64 o.2.2)).setCell ⟨g, 1, none⟩ (.slice (some ⟨r, 0, none⟩) (p + 1) c2)) ∧
    (∀ b t xs, t ≠ 59 → t ≠ 66 → Blk wr b t xs → b ≠ g ∧ b ≠ r) ∧ g ≠ r ∧ g < wr.heap.size := by
  have hkl := kp_le os mo last j
  have hol := get_lt ho
  have e : kp os mo last (j + 1) = kp os mo last j ++ [o] := by rw [kp_next ho, hk]; simp
  have hpl : p < X.length := by rw [h.len]; omega
  obtain ⟨x, hx⟩ : ∃ x, X[p]? = some x := ⟨_, List.getElem?_eq_getElem hpl⟩
  have hfull := own_put (o := o) h.own hx
  obtain ⟨hg, A1, c1, A2', c2', A3, c3, hb, h1, f1, h2, f2, h3, f3⟩ := h.tr
  have hFr : F r := h.fo r rfl
  have neg : g ≠ r := fun e => own_blk_ne h.own hb (by decide) (by rw [e]; rfl)
  have ht4 : Tch wr (((wr.setCell ⟨r, p * 3, none⟩ (.int .i64 o.1)).setCell ⟨r, p * 3 + 1, none⟩ (.int .i64 o.2.1)).setCell ⟨r, p * 3 + 2, none⟩ (.int .u64 o.2.2)) (· = r) := ((Tch.set_ wr (S := (· = r)) (p := ⟨r, p * 3, none⟩) _ rfl).put (p := ⟨r, p * 3 + 1, none⟩) _ rfl).put (p := ⟨r, p * 3 + 2, none⟩) _ rfl
  have hbx := h.box
  obtain ⟨w4, hw4⟩ : ∃ w4, ((wr.setCell ⟨r, p * 3, none⟩ (.int .i64 o.1)).setCell ⟨r, p * 3 + 1, none⟩ (.int .i64 o.2.1)).setCell ⟨r, p * 3 + 2, none⟩ (.int .u64 o.2.2) = w4 := ⟨_, rfl⟩
  rw [hw4] at ht4 hfull ⊢
  have hb4 := ht4.blk hb neg
  have o1 := ht4.own h1 (fun q hq e => own_own_ne h1 h.own (by decide) hq (by rw [e]; rfl))
  have o3 := ht4.own h3 (fun q hq e => own_own_ne h3 h.own (by decide) hq (by rw [e]; rfl))
  have o2 := own_cut hfull (show p + 1 ≤ os.length by omega)
  rw [flat_cut fol 3 (fun _ => rfl)] at o2
  have hx2 : (X.set p o).take (p + 1) = os.take mo ++ kp os mo last (j + 1) := by
    rw [List.take_add_one, List.getElem?_set_self hpl, List.take_set_of_le (Nat.le_refl _), hp, h.head, e, List.append_assoc]; rfl
  rw [hx2] at o2
  have l2 : (os.take mo ++ kp os mo last (j + 1)).length = p + 1 := by rw [e, List.length_append, List.length_take, List.length_append, hp]; simp; omega
  have hd4 : (#[.slice A1 cs.length c1, .slice A2' (os.take mo ++ kp os mo last j).length c2', .slice A3 ms.length c3, .int .u64 ev] : Array Value).setIfInBounds 1 (.slice (some ⟨r, 0, none⟩) (p + 1) c2) = #[.slice A1 cs.length c1, .slice (some ⟨r, 0, none⟩) (os.take mo ++ kp os mo last (j + 1)).length c2, .slice A3 ms.length c3, .int .u64 ev] := by rw [l2]; rfl
  have htr := tr_upd (F' := fun k => F k ∨ w0.heap.size ≤ k) (cs := cs) (os := os.take mo ++ kp os mo last (j + 1)) (ms := ms) hg hb4 1 hd4 o1 f1 (by rw [l2]; exact o2) (fun k hk => .inl (h.fo k (by rw [← hk]; rfl))) o3 f3
  have hnb : ∀ b t xs, t ≠ 59 → t ≠ 66 → Blk wr b t xs → b ≠ g ∧ b ≠ r := fun b t xs n1 n2 hx => ⟨fun e => Blk.ne_ hx hb n1 e, fun e => own_blk_ne h.own hx (fun e => n2 e.symm) (by rw [e]; rfl)⟩
  have hbn := hnb _ _ _ (by decide) (by decide) hbx
  refine ⟨⟨by rw [List.length_set]; exact h.len, ?_, ?_, htr.1, ?_, htr.2.own hfull (fun q hq e => neg (by have h0 := Option.some.inj hq; dsimp only at h0; omega)), htr.2.blk (ht4.blk hbx hbn.2) hbn.1, ?_, h.fo⟩, hnb, neg, hb.lt⟩
  · rw [show mo + (kp os mo last (j + 1)).length = p + 1 by rw [e, List.length_append, hp]; simp; omega]; exact hx2
  · rw [List.drop_set_of_lt (by omega)]
    have := congrArg (List.drop 1) h.rest
    rwa [List.drop_drop, List.drop_drop] at this
  · rw [show mo + (kp os mo last (j + 1)).length = p + 1 by rw [e, List.length_append, hp]; simp; omega]
    exact World.cell?_setCell_same' _ _ _ (by rw [hb4.cell 1]; rfl)
  · have hgF : g < w0.heap.size → F g := fun hlt => hg.elim id fun h => absurd h (by omega)
    exact (h.tch.trans (ht4.mono (S' := F) fun q _ e => by rw [e]; exact hFr) fun _ _ h => h).trans htr.2 fun i hi e => by
      rw [e] at hi ⊢; exact hgF hi
theorem FS.stamp (h : FS w0 g F cs os ms ev mo last A2 c2 Bl j X wr) {i cst : Nat} {cv : Int} (hca : cs[i]? = some (cv, cst)) : ∃ r c1, wr.cell? ⟨g, 0, none⟩ = some (.slice (some ⟨r, 0, none⟩) cs.length c1) ∧ cs.length ≤ c1 ∧ wr.cell? ⟨r, i * 2 + 1, none⟩ = some (.int .u64 cst) ∧ wr.frozen? ⟨r, i * 2 + 1, none⟩ = false ∧
    FS w0 g F cs os ms ev mo last A2 c2 Bl j X (wr.setCell ⟨r, i * 2 + 1, none⟩ (.int .u64 cst)) := by
  obtain ⟨hg, A1, c1, A2', c2', A3, c3, hb, h1, f1, h2, f2, h3, f3⟩ := h.tr
  obtain ⟨r, rfl, d0, d1⟩ := cells_at h1 hca (get_lt hca)
  have ht : Tch wr (wr.setCell ⟨r, i * 2 + 1, none⟩ (.int .u64 cst)) (· = r) := Tch.set_ wr _ rfl
  have h1' := cells_sets h1 hca cst
  have hset : cs.set i (cv, cst) = cs := by
    apply List.ext_getElem?
    intro j
    by_cases e : i = j
    · subst e; rw [List.getElem?_set_self (get_lt hca), hca]
    · rw [List.getElem?_set_ne e]
  dsimp only at h1'
  rw [hset] at h1'
  have neg : g ≠ r := fun e => own_blk_ne h1 hb (by decide) (by rw [e]; rfl)
  have hFr := f1 r rfl
  refine ⟨r, c1, hb.cell 0, own_cap h1, d1, h1.frozenAt _, h.len, h.head, h.rest, ⟨hg, some ⟨r, 0, none⟩, c1, A2', c2', A3, c3, ht.blk hb neg, h1', f1, ht.own h2 (fun q hq e => own_own_ne h2 h1 (by decide) hq (by rw [e]; rfl)), f2, ht.own h3 (fun q hq e => own_own_ne h3 h1 (by decide) hq (by rw [e]; rfl)), f3⟩,
    (World.cell?_of_block (ht.block g hb.lt neg)).trans h.hd, ht.own h.own (fun q hq e => own_own_ne h.own h1 (by decide) hq (by rw [e]; rfl)), ht.blk h.box (fun e => own_blk_ne h1 h.box (by decide) (by rw [e]; rfl)), h.tch.trans ht fun i hi e => ?_, h.fo⟩
  rw [e] at hi ⊢
  exact hFr.elim id fun h => absurd h (by omega)
end
set_option maxRecDepth 100000 in
set_option maxHeartbeats 8000000 in
theorem forget_in (w : World) (h : TR w g F cs os ms ev) {m k mo mc mst lo lc ls : Nat} (hk : m + 1 = k) (hm : ms[k]? = some (mo, mc, mst)) (hl : ms[m]? = some (lo, lc, ls)) (hn : cs.length ≤ 1000000) (hob : os.length ≤ 1000000) (hmb : ms.length ≤ 1000000) (hmo : mo ≤ os.length)
    (hbump : ∀ o ∈ os.drop mo, ∃ c, cs[o.1]? = some c ∧ ls ≤ c.2) :
    Calls Try.prog 23 #[.pointer (some ⟨g, 0, none⟩), .int .i64 k] w fun e w' => e = .returned (.int .i64 0) ∧ Left w g F cs (os.take mo ++ (os.drop mo).filter (kept (lo, lc, ls))) (ms.take k) ev w' := by
  have hml := get_lt hm
  have hop := open_of _ _ w (k : Int) (depth_any w h) true (by simp; omega)
  obtain ⟨A2, c2, A3, c3, q1, q2, k2, k3, f1, f2, hown, hF, hT, ht, hFg⟩ := h.cut hmo (Nat.le_of_lt hml)
  obtain ⟨r3, e3, d0, g0, g1, g2⟩ : ∃ r3, A3 = some ⟨r3, 0, none⟩ ∧ w.cell? ⟨r3, k * 3, none⟩ = some (.int .i64 mo) ∧ (∀ w', Tch w w' (· = g) → w'.cell? ⟨r3, m * 3, none⟩ = some (.int .i64 lo)) ∧ (∀ w', Tch w w' (· = g) → w'.cell? ⟨r3, m * 3 + 1, none⟩ = some (.int .i64 lc)) ∧ (∀ w', Tch w w' (· = g) → w'.cell? ⟨r3, m * 3 + 2, none⟩ = some (.int .u64 ls)) := by
    obtain ⟨hg, A1, c1, A2', c2', A3', c3', hb, h1, f1, h2, f2, h3, f3⟩ := h
    obtain ⟨r3, rfl, d0, _, _⟩ := marks_at h3 hm hml
    rw [hb.cell 2] at q2
    have q2' := Option.some.inj q2
    injection q2' with e1 _ _
    have at_ : ∀ w', Tch w w' (· = g) → w'.ownsRow 0 62 3 (.slice (some ⟨r3, 0, none⟩) ms.length c3') ms.length (ms.flatMap fmk) := fun w' hw => hw.own h3 (fun q hq e => own_blk_ne h3 hb (by decide) (by rw [hq, e]))
    refine ⟨r3, e1.symm, d0, fun w' hw => ?_, fun w' hw => ?_, fun w' hw => ?_⟩
    all_goals
      obtain ⟨r3', hr, a0, a1, a2⟩ := marks_at (at_ w' hw) hl (get_lt hl)
      injection hr with hr; injection hr with hr; subst hr
      first | exact a0 | exact a1 | exact a2
  subst e3
  obtain ⟨n2, hn2⟩ : ∃ n, os.length = n := ⟨_, rfl⟩
  obtain ⟨n3, hn3⟩ : ∃ n, ms.length = n := ⟨_, rfl⟩
  have hown0 := hown
  rw [hn2] at q1 hob hmo k2 hown
  rw [hn3] at q2 hml hmb k3
  have s0 : (0 : Int) ≤ (mo : Int) := Int.natCast_nonneg _
  have s1 : (mo : Int) ≤ (n2 : Int) := by omega
  have s2 : (n2 : Int) ≤ (c2 : Int) := by omega
  have s3 : (mo : Int) ≤ (c2 : Int) := by omega
  have s4 : (0 : Int) ≤ (k : Int) := Int.natCast_nonneg _
  have s5 : (k : Int) < (n3 : Int) := by omega
  have s6 : (k : Int) ≤ (c3 : Int) := by omega
  have s7 : ((k : Int) == 0) = false := by simp; omega
  have s8 : (k : Int) - 1 = (m : Int) := by omega
  have s9 : (m : Int) < (k : Int) := by omega
  obtain ⟨W5, hW5⟩ : ∃ W5, w.setCell ⟨g, 2, none⟩ (.slice (some ⟨r3, 0, none⟩) k c3) = W5 := ⟨_, rfl⟩
  have q1' : W5.cell? ⟨g, 1, none⟩ = some (.slice A2 n2 c2) := by
    rw [← hW5]; exact (World.cell?_setCell_other w ⟨g, 2, none⟩ ⟨g, 1, none⟩ _ (by simp)).trans q1
  have f1' : W5.frozen? ⟨g, 1, none⟩ = false := by rw [← hW5, World.frozen?_setCell]; exact f1
  have q2' : W5.cell? ⟨g, 2, none⟩ = some (.slice (some ⟨r3, 0, none⟩) k c3) := by rw [← hW5]; exact World.cell?_setCell_same' _ _ _ (by rw [q2]; rfl)
  rw [hW5] at hT ht
  obtain ⟨W6, hW6⟩ : ∃ W6, W5.setCell ⟨g, 1, none⟩ (.slice A2 mo c2) = W6 := ⟨_, rfl⟩
  have p3 : W6.cell? ⟨g, 2, none⟩ = some (.slice (some ⟨r3, 0, none⟩) k c3) := by
    rw [← hW6]; exact (World.cell?_setCell_other W5 ⟨g, 1, none⟩ ⟨g, 2, none⟩ _ (by simp)).trans q2'
  have p4 : W6.cell? ⟨g, 1, none⟩ = some (.slice A2 mo c2) := by rw [← hW6]; exact World.cell?_setCell_same' _ _ _ (by rw [q1']; rfl)
  rw [hW6] at hT ht
  have p0 := g0 W6 ht
  have p1 := g1 W6 ht
  have p2 := g2 W6 ht
  have hown6 : W6.ownsRow 0 66 3 (.slice A2 os.length c2) os.length (os.flatMap fol) := by
    obtain ⟨_, _, _, _, _, _, _, hb, _⟩ := h
    exact ht.own hown0 (fun q hq e => own_blk_ne hown0 hb (by decide) (by rw [hq, e]))
  obtain ⟨W7, hW7⟩ : ∃ W7, W6.alloc (.cells #[.int .i64 lo, .int .i64 lc, .int .u64 ls] 62) = W7 := ⟨_, rfl⟩
  have hFS : FS w g F cs os (ms.take k) ev mo (lo, lc, ls) A2 c2 W6.heap.size 0 os W7 := by
    have e0 : kp os mo (lo, lc, ls) 0 = [] := by simp [kp]
    have hb7 : Below W6.heap.size W6 W7 := by rw [← hW7]; exact bone _ _
    have hgl : g < W6.heap.size := by obtain ⟨_, _, _, _, _, _, _, hb, _⟩ := hT; exact hb.lt
    refine ⟨rfl, by rw [e0]; simp, rfl, by rw [e0, List.append_nil]; exact (hT.below hb7).mono fun i hi => .inl hi, by rw [e0]; exact (hb7.cell (p := ⟨g, 1, none⟩) hgl).trans p4, own_under hown6 hb7, by rw [← hW7]; exact Blk.new _ _ _, (ht.mono (S' := F) fun i _ e => by rw [e]; exact hFg).trans (Tch.of_below hb7 F) fun _ _ h => h, hF⟩
  have hsh : (A2 = none ∧ n2 = 0 ∧ c2 = 0) ∨ (∃ r2, A2 = some ⟨r2, 0, none⟩) := by
    rcases hown.2 with ⟨h0, h1⟩ | ⟨r2, _, _, h0, _⟩
    · injection h0 with h0 _ h2; exact .inl ⟨h0, h1, h2⟩
    · injection h0 with h0; exact .inr ⟨r2, h0⟩
  obtain ⟨j0, hi0, hz0, hz1, hz2⟩ := info_parts infoO
  have HFS := Lib.hid hFS
  have HB := Lib.hid hbump
  have HN2 := Lib.hid hn2
  have HI0 := Lib.hid hi0
  have HZ1 := Lib.hid hz1
  clear hT ht hown hown0 hown6 hF hFg hbump hn2 hn3 hm hl h g0 g1 g2 hFS q2' p4 hi0 hz0 hz1 hz2
  go_enter Try.func23, Try.ntmps23
  go_wp2_with fail
  refine hop.mono ?_
  rintro e w' ⟨rfl, rfl⟩
  clear hop
  go_upto_region 5 with (fail)
  go_cut [6] (fun rv wx => ∃ A5 c5, rv = .slice A5 (n2 - mo) c5 ∧ wx = W5 ∧ (n2 ≤ mo ∨ ∃ r2, A2 = some ⟨r2, 0, none⟩ ∧ A5 = some ⟨r2, mo * 3, none⟩ ∧ n2 - mo ≤ c5))
  case first =>
    rcases hsh with ⟨rfl, rfl, rfl⟩ | ⟨r2, rfl⟩
    · obtain rfl : mo = 0 := by omega
      go_wp2_with fail
      go_meet
      case rel => exact ⟨_, _, rfl, rfl, .inl (Nat.zero_le _)⟩
    · by_cases hcm : c2 = mo
      · have hnm : n2 = mo := by omega
        subst hcm
        go_wp2_with fail
        go_meet
        case rel => exact ⟨_, 0, by rw [show n2 - c2 = 0 by omega], rfl, .inl (Nat.le_of_eq hnm)⟩
      · go_wp2_with fail
        go_meet
        case rel => exact ⟨_, _, rfl, rfl, .inr ⟨r2, rfl, by first | rfl | (rw [if_neg hcm]), by omega⟩⟩
  case rest =>
    obtain ⟨A5, c5, rfl, rfl, hrest⟩ := hcut
    have HR := Lib.hid hrest
    clear hrest hsh q1 q2 f2
    go_wp2_with fail
    clear hW5 hW6 hW7 q1' f1' p0 p1 p2 p3 d0 f1 
    go_loopw [58] (fun jv wr => ∃ (j : Nat) (X : List Ol), j ≤ n2 - mo ∧ jv = .int .i64 j ∧ FS w g F cs os (ms.take k) ev mo (lo, lc, ls) A2 c2 W6.heap.size j X wr) (fun jv _ => n2 - mo - (intOf jv).toNat)
    case atStart => exact ⟨0, os, by omega, rfl, HFS.out⟩
    case round =>
      clear HFS
      obtain ⟨j, X, hj, rfl, hF⟩ := hrel
      by_cases hlt : j < n2 - mo
      · rcases HR.out with h | ⟨r2, e1, e2, e3⟩
        · exact absurd h (by omega)
        subst e1
        subst e2
        obtain ⟨⟨at_, v, st⟩, ho⟩ : ∃ o, os[mo + j]? = some o := ⟨_, List.getElem?_eq_getElem (by rw [HN2.out]; omega)⟩
        have hXo : X[mo + j]? = some (at_, v, st) := by
          have := congrArg (fun l => l[0]?) hF.rest
          simpa [List.getElem?_drop, ho] using this
        obtain ⟨r', hr, a0, a1, a2⟩ := olds_at hF.own hXo (by rw [HN2.out]; omega)
        injection hr with hr; injection hr with hr; subst hr
        rw [show (mo + j) * 3 = mo * 3 + j * 3 by omega] at a0 a1 a2
        obtain ⟨⟨cv, cst⟩, hca, hcl⟩ := HB.out (at_, v, st) (by
          have : (os.drop mo)[j]? = some (at_, v, st) := by rw [List.getElem?_drop]; exact ho
          exact List.mem_of_getElem? this)
        obtain ⟨Wb, hWb⟩ : ∃ Wb, wr.alloc (.cells #[.int .i64 at_, .int .i64 v, .int .u64 st] 66) = Wb := ⟨_, rfl⟩
        have hbb : Below wr.heap.size wr Wb := by rw [← hWb]; exact bone _ _
        have hFb := hF.below hbb
        have hob : Blk Wb wr.heap.size 66 #[.int .i64 at_, .int .i64 v, .int .u64 st] := by rw [← hWb]; exact Blk.new _ _ _
        have b1 := hFb.box.cell 1
        have b2 := hFb.box.cell 2
        have o0 := hob.cell 0
        have o1 := hob.cell 1
        have o2 := hob.cell 2
        have jl : (j : Int) < ((n2 - mo : Nat) : Int) := by omega
        have HF := Lib.hid hF
        have HFb := Lib.hid hFb
        have HOb := Lib.hid hob
        have HO := Lib.hid ho
        have HCA := Lib.hid hca
        have HCL := Lib.hid hcl
        have HJ := Lib.hid hlt
        clear hF hFb hob ho hca hcl hXo hbb
        go_upto_region 13 with (fail)
        clear hWb a0 a1 a2
        go_cut [74] from 62 to 74 (fun cv wx => cv = .bool (kept (lo, lc, ls) (at_, v, st)) ∧ wx = Wb)
        case first =>
          by_cases h1 : st < ls
          · have t0 : decide (st < ls) = true := decide_eq_true h1
            by_cases h2 : at_ < lc
            · have t1 : decide (at_ < lc) = true := decide_eq_true h2
              have hk : kept (lo, lc, ls) (at_, v, st) = true := kept_iff.2 ⟨h1, h2⟩
              clear h1 h2
              go_wp2_with fail
              go_meet
              case rel => exact ⟨by rw [hk], rfl⟩
            · have t1 : decide (at_ < lc) = false := decide_eq_false h2
              have hk : kept (lo, lc, ls) (at_, v, st) = false := Bool.eq_false_iff.2 fun e => h2 (kept_iff.1 e).2
              clear h1 h2
              go_wp2_with fail
              go_meet
              case rel => exact ⟨by rw [hk], rfl⟩
          · have t0 : decide (st < ls) = false := decide_eq_false h1
            have hk : kept (lo, lc, ls) (at_, v, st) = false := Bool.eq_false_iff.2 fun e => h1 (kept_iff.1 e).1
            clear h1
            go_wp2_with fail
            go_meet
            case rel => exact ⟨by rw [hk], rfl⟩
        case rest =>
        obtain ⟨rfl, hwc⟩ := hcut
        rw [hwc]
        clear hwc
        go_upto_if 74 with (fail)
        go_cut [] from 74 to 84 (fun wx => ∃ X', FS w g F cs os (ms.take k) ev mo (lo, lc, ls) (some ⟨r2, 0, none⟩) c2 W6.heap.size (j + 1) X' wx ∧ Blk wx wr.heap.size 66 #[.int .i64 at_, .int .i64 v, .int .u64 st])
        case first =>
          cases hk : kept (lo, lc, ls) (at_, v, st) with
          | false =>
            have hskip := HFb.out.skip HO.out hk
            have HS := Lib.hid hskip
            clear hk hskip
            go_wp2_with fail
            go_meet
            case rel => exact ⟨X, HS.out, HOb.out⟩
          | true =>
            obtain ⟨p, hp⟩ : ∃ p, mo + (kp os mo (lo, lc, ls) j).length = p := ⟨_, rfl⟩
            have hpj : p ≤ mo + j := by have := kp_le os mo (lo, lc, ls) j; omega
            have hd := HFb.out.hd
            rw [hp] at hd
            have hFc := HFb.out.below (bone Wb (.cells #[.int .i64 at_, .int .i64 v, .int .u64 st] 66)).drew
            have hput := hFc.put HO.out hk p hp.symm
            have hdc := hFc.hd
            rw [hp] at hdc
            obtain ⟨hfs, hnb, hgr, hgl⟩ := hput
            have hspare : ∀ i, i < 3 → ((Wb.alloc (.cells #[.int .i64 at_, .int .i64 v, .int .u64 st] 66)).drew.cell? ⟨r2, 0 + p * 3 + i, none⟩).isSome = true ∧ (Wb.alloc (.cells #[.int .i64 at_, .int .i64 v, .int .u64 st] 66)).drew.frozen? ⟨r2, 0 + p * 3 + i, none⟩ = false := fun i hi => by
              rw [Nat.zero_add]
              refine ⟨?_, hFc.own.frozenAt _⟩
              have hlt2 : p * 3 + i < os.length * 3 := by rw [HN2.out]; have := HJ.out; omega
              rw [hFc.own.cellAt (p * 3 + i) hlt2, List.getElem?_eq_getElem (by rw [hFc.own.1]; exact hlt2)]; rfl
            have hnews : ∀ (i : Nat) (u : Value), ([.int .i64 at_, .int .i64 v, .int .u64 st] : List Value)[i]? = some u → (Wb.alloc (.cells #[.int .i64 at_, .int .i64 v, .int .u64 st] 66)).drew.cell? (Addr.add ⟨Wb.heap.size, 0, none⟩ i) = some u := fun i u hu => by
              have hr1 := reads_three (t := 66) (heap_alloc_new Wb (.cells #[.int .i64 at_, .int .i64 v, .int .u64 st] 66))
              obtain ⟨ad, e, _, hc⟩ := hr1.2 (by omega)
              injection e with e; subst e
              exact hc i u hu
            have hone : ∀ u ∈ ([.int .i64 at_, .int .i64 v, .int .u64 st] : List Value), u.oneCell' = true := fun u hu => by simp at hu; rcases hu with rfl | rfl | rfl <;> rfl
            have hroom : p + 1 ≤ c2 := by have := HJ.out; omega
            have hobc : Blk (Wb.alloc (.cells #[.int .i64 at_, .int .i64 v, .int .u64 st] 66)).drew wr.heap.size 66 #[.int .i64 at_, .int .i64 v, .int .u64 st] := (HOb.out.alloc _).drew
            have hne : wr.heap.size ≠ g ∧ wr.heap.size ≠ r2 := by
              constructor
              · intro e
                have h0 := HF.out.tr
                obtain ⟨_, _, _, _, _, _, _, hb, _⟩ := h0
                have := hb.lt
                omega
              · intro e
                have := (own_in HF.out.own (q := r2) rfl).2
                omega
            have k1 : ((Wb.alloc (.cells #[.int .i64 at_, .int .i64 v, .int .u64 st] 66)).drew.setCells r2 (p * 3) [.int .i64 at_, .int .i64 v, .int .u64 st]).cell? ⟨g, 1, none⟩ = some (.slice (some ⟨r2, 0, none⟩) p c2) := (World.cell?_setCells_out r2 _ _ _ ⟨g, 1, none⟩ (fun e => absurd e hgr)).trans hdc
            have k2 : ((Wb.alloc (.cells #[.int .i64 at_, .int .i64 v, .int .u64 st] 66)).drew.setCells r2 (p * 3) [.int .i64 at_, .int .i64 v, .int .u64 st]).frozen? ⟨g, 1, none⟩ = false := by
              rw [World.frozen?_setCells]
              obtain ⟨_, _, _, _, _, _, _, hb, _⟩ := hFc.tr
              exact hb.frozen 1
            have HFS2 := Lib.hid hfs
            have HOBC := Lib.hid hobc
            have HNE := Lib.hid hne
            have hI0 := HI0.out
            have hZ1 := HZ1.out
            clear hk hp hpj hfs hnb hgl hobc hne hgr hFc
            go_wp2_with fail
            go_region_law (refine step_append_room rfl (.tmp 79) (.tmp 81) 55 rfl 66 j0 3 Try.underlying55 hI0 hZ1 r2 0 p c2 rfl ⟨Wb.heap.size, 0, none⟩ 1 1 [.int .i64 at_, .int .i64 v, .int .u64 st] rfl rfl hnews hone hroom hspare ?_)
            all_goals
              go_wp2_with fail
              go_meet
              case rel =>
                refine ⟨_, HFS2.out, ?_⟩
                exact ((((HOBC.out.far (p := ⟨r2, p * 3, none⟩) HNE.out.2 _).far (p := ⟨r2, p * 3 + 1, none⟩) HNE.out.2 _).far (p := ⟨r2, p * 3 + 2, none⟩) HNE.out.2 _).far (p := ⟨g, 1, none⟩) HNE.out.1 _)
        case rest =>
          obtain ⟨X', hF', hob'⟩ := hcut
          obtain ⟨r1, c1, q0, hc1, e1, e4, hst⟩ := hF'.stamp HCA.out
          have hal := get_lt HCA.out
          have x0 := hob'.cell 0
          have x2 := hF'.box.cell 2
          have hmx : (if (cst : Int) < (ls : Int) then (ls : Int) else (cst : Int)) = (cst : Int) := if_neg (by have := HCL.out; dsimp only at this; omega)
          have hmx2 : (if cst < ls then (ls : Int) else (cst : Int)) = (cst : Int) := if_neg (by have := HCL.out; dsimp only at this; omega)
          have y0 : (0 : Int) ≤ (at_ : Int) := Int.natCast_nonneg _
          obtain ⟨n, hn'⟩ : ∃ n, cs.length = n := ⟨_, rfl⟩
          rw [hn'] at q0 hal hn
          have y1 : (at_ : Int) < (n : Int) := by omega
          have HST := Lib.hid hst
          clear hF' hob' hst hn' b1 b2 o0 o1 o2 hc1
          go_wp2_with fail
          go_still_tail 20, (by kernel_rfl)
          go_wp2_with fail
          go_roundw
          case rel => exact ⟨j + 1, X', by have := HJ.out; omega, by go_num, HST.out.below (Below.refl _ _).drew⟩
          case measure =>
            have := HJ.out
            first | (simp [intOf]; done) | (simp [intOf]; omega)
      · obtain rfl : j = n2 - mo := by omega
        have hkp : kp os mo (lo, lc, ls) (n2 - mo) = (os.drop mo).filter (kept (lo, lc, ls)) := by
          unfold kp
          rw [List.take_of_length_le (by rw [List.length_drop, HN2.out]; exact Nat.le_refl _)]
        have HK := Lib.hid hkp
        clear hkp hlt
        go_wp2_with fail
        go_ret
        refine ⟨rfl, ?_, hF.tch⟩
        rw [← HK.out]; exact hF.tr
end Go.Proofs.Ytgojncgdmcpkiaa.trl
