/- The reader's next function. -/
import Derived.Test.YtafdijfbgkcnnaaDoorRdLinesU
import Derived.Test.YtafdijfbgkcnnaaDoorRdGreat
import Derived.Deep.RegionLaw
import Derived.Deep.RegionHeld3
import Derived.Deep.DeepCutAuto
namespace Go.Proofs.YtafdijfbgkcnnaaDoor.wcp
open Go Go.RowKit Go.ChangeShapes Go.WideShapes Go.ChangeAt Go.Maps Go.Proofs.YtafdijfbgkcnnaaDoor.words Go.Proofs.YtafdijfbgkcnnaaDoor.scn
set_option linter.unusedVariables false
theorem infoSh : (Tryd.prog.info? 143).map (fun i => (i.zero, i.size, i.bytes)) = some (some (.agg #[.slice none 0 0, .slice none 0 0]), 2, 48) := by kernel_rfl
/-- a function as it was told -/
def RawV (w : World) (v : Value) (f : Raw) : Prop :=
  ∃ v1 v2 v4, v = .agg #[v1, v2, .int .i64 f.other, v4] ∧ Row64 w 0 v1 f.scope ∧ Row64 w 0 v2 f.sizes ∧ LinesOwn w 0 v4 f.lines
theorem RawV.tch {w w' : World} {S : Nat → Prop} {v : Value} {f : Raw} (h : RawV w v f) (ht : Tch w w' S) (h1 : Off w 0 S 2) (h2 : Off w 0 S 146) : RawV w' v f := by
  obtain ⟨v1, v2, v4, e, a, b, c⟩ := h
  exact ⟨v1, v2, v4, e, a.tch ht h1, b.tch ht h1, c.tch ht h1 h2⟩
variable {w : World} {gr gs : Nat} {bs : List UInt8} {wb : Int} {sv : Value} {α : Type} {r : Res α}
theorem Rbad.share {er x : Int} (h : Rbad w gr gs er x sv) (u : Value) : Rbad (w.setCell ⟨gr, 6, none⟩ u) gr gs er x u := by
  obtain ⟨big, bigAt, told, hr, he⟩ := h
  exact ⟨big, bigAt, told, hr.set_ 6 u, he⟩
theorem Rok.share {s s' : Ps} (h : Rok w gr gs bs wb s sv) (u : Value) (hne : gr ≠ gs) (h1 : s'.l = s.l) (h2 : s'.big = s.big) (h3 : s'.told = s.told) : Rok (w.setCell ⟨gr, 6, none⟩ u) gr gs bs wb s' u := by
  obtain ⟨a, big, badAt, bigAt, hr, hs, hl, hg⟩ := h
  refine ⟨a, big, badAt, bigAt, by rw [h3]; exact hr.set_ 6 u, ?_, by rw [h1]; exact hl, by rw [h2]; exact hg⟩
  exact hs.tch (Tch.put (S := fun k => k = gr) (Tch.refl w _) (p := ⟨gr, 6, none⟩) u rfl) (fun e => hne e.symm) fun q cs hq hb => by subst hq; exact Blk.ne_ hr hb (by decide) rfl
theorem Blk.four {w : World} {g : Nat} {t : TypeId} {a b c d : Value} (h : Blk w g t #[a, b, c, d]) : w.cell? ⟨g, 0, none⟩ = some a ∧ w.cell? ⟨g, 1, none⟩ = some b ∧ w.cell? ⟨g, 2, none⟩ = some c ∧ w.cell? ⟨g, 3, none⟩ = some d ∧
    w.frozen? ⟨g, 0, none⟩ = false ∧ w.frozen? ⟨g, 1, none⟩ = false ∧ w.frozen? ⟨g, 2, none⟩ = false ∧ w.frozen? ⟨g, 3, none⟩ = false := ⟨h.cell 0, h.cell 1, h.cell 2, h.cell 3, h.frozen 0, h.frozen 1, h.frozen 2, h.frozen 3⟩
/-- four cells stored -/
theorem raw_put {w : World} {g : Nat} {t : TypeId} {a b c d : Value} {x y z u : Value} (h : Blk w g t #[x, y, z, u]) {w' : World} (hw : (((w.setCell ⟨g, 0, none⟩ a).setCell ⟨g, 1, none⟩ b).setCell ⟨g, 2, none⟩ c).setCell ⟨g, 3, none⟩ d = w') :
    Blk w' g t #[a, b, c, d] ∧ Tch w w' (fun k => k = g) := by
  subst hw
  exact ⟨((((h.set_ 0 a).set_ 1 b).set_ 2 c).set_ 3 d), ((((Tch.refl w (fun k => k = g)).put (p := ⟨g, 0, none⟩) a rfl).put (p := ⟨g, 1, none⟩) b rfl).put (p := ⟨g, 2, none⟩) c rfl).put (p := ⟨g, 3, none⟩) d rfl⟩
/-- what the next function leaves -/
def FunR (w : World) (gr gs : Nat) (bs : List UInt8) (wb : Int) (all : List Int) (s : Ps) (sv : Value) (e : Ending) (w' : World) : Prop :=
  ∃ v f' sv', e = .returned v ∧ (∀ k, sv'.ownBlock = some k → sv.ownBlock = some k ∨ w.heap.size ≤ k) ∧ Tch w w' (fun k => k = gr ∨ k = gs ∨ some k = sv.ownBlock) ∧ RawV w' v f' ∧ RS w' gr gs bs wb sv' (pfun (enOf bs wb) (eeOf wb) all s) ∧
    (∀ f s', pfun (enOf bs wb) (eeOf wb) all s = .ok f s' → f = f' ∧ ShV w' sv' s'.sh)
def psz (all sc : List Int) : List Int := sc.map fun v => all.getD v.toNat 0
theorem fun_end {en ee : Int} {s3 : Ps} {sizes : List Int} {o xo : Int} {ls : List (List Int × Int)} {mk : Int → List (List Int × Int) → Raw} {f : List (List Int × Int) → Ps → Ps}
    (h1 : ∀ v s', ((.ok () s3 : Res Unit).bind fun _ s => pnum en ee 0 far s) = .ok v s' → o = v.1 ∧ xo = v.2)
    (h2 : ∀ a s', (((.ok () s3 : Res Unit).bind fun _ s => pnum en ee 0 far s).bind fun _ s => pall en ee sizes s) = .ok a s' → a = ls) :
    (∃ er x, (((.ok () s3 : Res Unit).bind fun _ s => pnum en ee 0 far s).bind fun _ s => pall en ee sizes s) = .bad er x ∧ ((pnum en ee 0 far s3).bind fun o s => (pall en ee sizes s).bind fun ls s => .ok (mk o.1 ls) (f ls s)) = .bad er x) ∨
    (∃ s6, (((.ok () s3 : Res Unit).bind fun _ s => pnum en ee 0 far s).bind fun _ s => pall en ee sizes s) = .ok ls s6 ∧ ((pnum en ee 0 far s3).bind fun o s => (pall en ee sizes s).bind fun ls s => .ok (mk o.1 ls) (f ls s)) = .ok (mk o ls) (f ls s6) ∧ (0 ≤ s3.told → s6.sh = s3.sh)) := by
  rw [Res.bind_ok] at h1 h2 ⊢
  cases hp : pnum en ee 0 far s3 with
  | bad e x => exact .inl ⟨e, x, rfl, rfl⟩
  | ok v s4 =>
    rw [hp, Res.bind_ok] at h2
    rw [Res.bind_ok, Res.bind_ok]
    obtain ⟨rfl, rfl⟩ := h1 v s4 hp
    cases hq : pall en ee sizes s4 with
    | bad e x => exact .inl ⟨e, x, rfl, rfl⟩
    | ok a s6 =>
      obtain rfl := h2 a s6 hq
      obtain ⟨_, _, p3, p4, _, _⟩ := pnum_ok hp
      exact .inr ⟨s6, rfl, rfl, fun h0 => ((pall_ok hq (by rw [p4]; exact h0)).1).trans p3⟩
set_option maxRecDepth 100000 in
set_option maxHeartbeats 8000000 in
theorem rfun_any {s : Ps} (h : Rok w gr gs bs wb s sv) (hne : gr ≠ gs) (hgr : gr < w.heap.size) (hgs : gs < w.heap.size) (hn : bs.length ≤ 1000000) (ht : Tab w) (hG1 : 0 < gr) (hG2 : 0 < gs)
    (A : Option Addr) (c0 : Nat) (all : List Int) (hal : w.ownsRow 0 2 1 (.slice A all.length c0) all.length (nums all)) (ha1 : ∀ y ∈ all, 1 ≤ y ∧ y ≤ 4611686018427387904) (hall : all.length ≤ 1000000)
    (ht0 : 0 ≤ s.told) (ht1 : s.told ≤ 1000000) (hsh : ShV w sv s.sh) (hshl : s.sh.length ≤ 900000) :
    Calls Tryd.prog 34 #[.pointer (some ⟨gr, 0, none⟩), .slice A all.length c0] w fun e w' => FunR w gr gs bs wb all s sv e w' := by
  obtain ⟨iS, hS0, hS1, hS2, hS3⟩ := info_parts infoSh
  obtain ⟨i6, h60, h61, h62, h63⟩ := info_parts info64
  have hb0 := bone w (.cells #[.slice none 0 0, .slice none 0 0, .int .i64 0, .slice none 0 0] 86)
  have hnum := rnum_any (h.below hb0) hne hn (-4611686018427387904) 4611686018427387904
  have O64 := Lib.hid (h.off (base := 0) (t := 2) (by decide) (by decide))
  have OL := Lib.hid (h.off (base := 0) (t := 146) (by decide) (by decide))
  have OS := Lib.hid (h.off (base := 0) (t := 143) (by decide) (by decide))
  have hgsn : ∀ k, sv.ownBlock = some k → k ≠ gs := fun k hk e => by
    subst e
    obtain ⟨_, _, _, ho, _⟩ := hsh
    obtain ⟨cs, hb⟩ := own_is ho hk
    obtain ⟨_, _, _, _, _, ⟨_, _, hs, _⟩, _⟩ := h
    exact Blk.ne_ hs hb (by decide) rfl
  have HLEFT := Lib.hid h.left
  have HTAB := Lib.hid ht
  have HAL := Lib.hid hal
  have HSH := Lib.hid hsh
  have HB0 := Lib.hid hb0
  clear h ht hal hsh hb0
  go_enter Tryd.func34, Tryd.ntmps34
  go_wp2_with fail
  refine hnum.mono ?_
  rintro e w1 ⟨n, x, rfl, ht1', hm1⟩
  have HT1 := Lib.hid (HB0.out |> fun hb => (Tch.of_below hb (fun k => k = gr ∨ k = gs)).trans ht1' fun _ _ h => h)
  have hrb1 := ht1'.blk (Blk.new w 86 #[.slice none 0 0, .slice none 0 0, .int .i64 0, .slice none 0 0]) (by rintro (h | h) <;> omega)
  obtain ⟨rb, hrbe⟩ : ∃ rb, w.heap.size = rb := ⟨_, rfl⟩
  rw [hrbe] at hrb1 ⊢
  have HRBE := Lib.hid hrbe
  have HRB1 := Lib.hid hrb1
  clear hnum ht1' hrbe hrb1
  cases hp : pnum (enOf bs wb) (eeOf wb) (-4611686018427387904) 4611686018427387904 s with
  | bad er at_ =>
    rw [hp] at hm1
    dsimp only at hm1
    obtain ⟨rfl, hb1⟩ := hm1
    have HGOAL : Hid (pfun (enOf bs wb) (eeOf wb) all s = .bad er at_) := by
      unfold pfun
      rw [show pnum (enOf bs wb) (eeOf wb) (-far) far s = .bad er at_ from hp]
      rfl
    have hsc := rscope_bad hb1 (all.length : Int)
    have HB1 := Lib.hid hb1
    clear hp hb1
    go_wp2_with fail
    refine hsc.mono ?_
    rintro e w2 ⟨rfl, rfl⟩
    clear hsc
    go_wp2_with fail
    have hx2 := Blk.new w1 86 #[.slice none 0 0, .slice none 0 0, .int .i64 0, .slice none 0 0]
    have hr2 := (HRB1.out).under (bone w1 (.cells #[.slice none 0 0, .slice none 0 0, .int .i64 0, .slice none 0 0] 86))
    obtain ⟨wx, hwx⟩ : ∃ wx, w1.alloc (.cells #[.slice none 0 0, .slice none 0 0, .int .i64 0, .slice none 0 0] 86) = wx := ⟨_, rfl⟩
    have hTx : Tch w1 wx (fun _ => False) := by rw [← hwx]; exact Tch.of_below (bone w1 _) _
    have HTX := Lib.hid (HT1.out.trans hTx fun _ _ h => h.elim)
    obtain ⟨xb, hxb⟩ : ∃ xb, w1.heap.size = xb := ⟨_, rfl⟩
    rw [hwx, hxb] at hx2
    rw [hwx] at hr2
    rw [hwx, hxb]
    have hbx := HB1.out.tch hTx id
    have HBX := Lib.hid hbx
    have hrow : Row64 wx 0 (.slice none 0 0) [] := ⟨⟨none, 0, rfl⟩, World.ownsRow_nil _ _ _ _⟩
    have HROW := Lib.hid hrow
    have HG : Hid (pfun (enOf bs wb) (eeOf wb) all s = .bad er at_) := HGOAL.out
    clear hwx hTx hxb hrow
    obtain ⟨big, bigAt, told, hrx, hex⟩ := hbx
    have hok := ok_any hrx
    rw [decide_eq_false hex] at hok
    obtain ⟨y0, y1, y2, y3, -⟩ := Blk.four (t := 86) hx2
    obtain ⟨z0, z1, z2, z3, zf0, zf1, zf2, zf3⟩ := Blk.four (t := 86) hr2
    have HR2 := Lib.hid hr2
    clear hrx hex hx2 hr2
    refine hok.mono ?_
    rintro e w3 ⟨rfl, rfl⟩
    clear hok
    go_wp2_with fail
    obtain ⟨wf, hwf⟩ : ∃ wf, (((wx.setCell ⟨rb, 0, none⟩ (.slice none 0 0)).setCell ⟨rb, 1, none⟩ (.slice none 0 0)).setCell ⟨rb, 2, none⟩ (.int .i64 0)).setCell ⟨rb, 3, none⟩ (.slice none 0 0) = wf := ⟨_, rfl⟩
    obtain ⟨hfb, hft⟩ := raw_put HR2.out hwf
    rw [hwf]
    obtain ⟨k0, k1, k2, k3, -⟩ := Blk.four (t := 86) hfb
    have hrge : w.heap.size ≤ rb := by have := HRBE.out; omega
    have hoff : ∀ t, Off wx 0 (fun k => k = rb) t ∨ t = 86 := fun t => by
      by_cases e : t = 86
      · exact .inr e
      · exact .inl fun k hk => .inr fun cs hb => Blk.ne_ HR2.out hb (fun h => e h.symm) hk.symm
    refine bodyPost_ret (v := .agg #[.slice none 0 0, .slice none 0 0, .int .i64 0, .slice none 0 0]) (by simp [results, Tryd.results34, go_sem, k0, k1, k2, k3]) rfl ⟨_, ⟨[], [], 0, []⟩, sv, rfl, fun k hk => .inl hk, ?_, ?_, ?_⟩
    · exact (HTX.out.mono (S' := fun k => k = gr ∨ k = gs ∨ some k = sv.ownBlock) fun k _ h => h.elim Or.inl fun h => Or.inr (Or.inl h)).trans hft fun k hk e => by omega
    · exact ⟨_, _, _, rfl, HROW.out.tch hft ((hoff _).resolve_right (by decide)), ⟨⟨_, _, rfl⟩, World.ownsRow_nil _ _ _ _⟩, LinesOwn.nil _ _⟩
    · rw [HG.out]
      exact ⟨HBX.out.tch hft (fun e => by omega), fun f s' he => by cases he⟩
  | ok nv s1 =>
    rw [hp] at hm1
    dsimp only at hm1
    obtain ⟨rfl, rfl, hr1⟩ := hm1
    obtain ⟨n, xx⟩ := nv
    obtain ⟨p1, p2, p3, p4, p5, p6⟩ := pnum_ok hp
    dsimp only at p1 p2
    obtain ⟨k, hk⟩ : ∃ k : Nat, n.natAbs = k := ⟨_, rfl⟩
    have HG1 : Hid (pfun (enOf bs wb) (eeOf wb) all s = (pscope (enOf bs wb) (eeOf wb) all.length k [] s1).bind fun sc s =>
        (pnum (enOf bs wb) (eeOf wb) 0 far (plarge (decide ((k : Int) > 6) || great (psz all sc)) xx s)).bind fun o s =>
        (pall (enOf bs wb) (eeOf wb) (psz all sc) s).bind fun ls s =>
        .ok ⟨sc, psz all sc, o.1, ls⟩ (if n < 0 then { s with sh := s.sh ++ [(psz all sc, ls)] } else s)) := by
      unfold pfun
      rw [show pnum (enOf bs wb) (eeOf wb) (-far) far s = .ok (n, xx) s1 from hp, Res.bind_ok]
      dsimp only
      rw [hk]
      rfl
    clear hp
    dsimp only
    have hmax : max n (-n) = (k : Int) := by omega
    have hkb : k ≤ 4611686018427387904 := by omega
    have HS1 : Hid (s1.sh = s.sh ∧ s1.told = s.told ∧ s1.l.length + 1 = s.l.length) := ⟨p3, p4, p6⟩
    have hsc := rscope_any hr1 hne (by have := HT1.out.size; omega) (by have := HT1.out.size; omega) hn k all.length hkb (by omega) (by omega)
    clear hr1 p3 p4 p5 p6 hk
    go_wp2_with fail
    refine hsc.mono ?_
    rintro e w2 ⟨out, OA, OC, rfl, hown, ht2, hol, hm2⟩
    clear hsc
    have HT2 := Lib.hid (HT1.out.trans ht2 fun _ _ h => h)
    have ht3s : Hid (w1.heap.size ≤ w2.heap.size) := ht2.size
    have HRB2 := Lib.hid (ht2.blk HRB1.out (by have := HRBE.out; rintro (h | h) <;> omega))
    have hob : Hid (w.heap.size < w1.heap.size) := by have := HT1.out.size; have h2 := Blk.lt HRB1.out; have := HRBE.out; rw [Hid]; omega
    have HROW2 : Hid (Row64 w2 w1.heap.size (.slice OA out.length OC) out) := ⟨⟨_, _, rfl⟩, hown⟩
    clear ht2 hown
    go_wp2_with fail
    have hx2 : Blk (w2.alloc (.cells #[.slice OA out.length OC, .slice none 0 0, .int .i64 0, .slice none 0 0] 86)) w2.heap.size 86 #[.slice OA out.length OC, .slice none 0 0, .int .i64 0, .slice none 0 0] := Blk.new _ _ _
    have hr2 := (HRB2.out).under (bone w2 (.cells #[.slice OA out.length OC, .slice none 0 0, .int .i64 0, .slice none 0 0] 86))
    obtain ⟨wx, hwx⟩ : ∃ wx, w2.alloc (.cells #[.slice OA out.length OC, .slice none 0 0, .int .i64 0, .slice none 0 0] 86) = wx := ⟨_, rfl⟩
    have hTx : Tch w2 wx (fun _ => False) := by rw [← hwx]; exact Tch.of_below (bone w2 _) _
    have HTX := Lib.hid (HT2.out.trans hTx fun _ _ h => h.elim)
    obtain ⟨xb, hxb⟩ : ∃ xb, w2.heap.size = xb := ⟨_, rfl⟩
    have HXL : Hid (rb < xb ∧ wx.heap.size = xb + 1) := ⟨by have := Blk.lt HRB2.out; omega, by rw [← hwx, ← hxb]; simp⟩
    rw [hwx, hxb] at hx2
    rw [hwx] at hr2
    rw [hwx, hxb]
    have HROW := Lib.hid ((HROW2.out.down (Nat.zero_le _)).tch hTx (fun k hk => hk.elim))
    have HROWX := Lib.hid (HROW2.out.tch hTx (fun k hk => hk.elim))
    have HW1 : Hid (w1.heap.size ≤ xb ∧ gr < w1.heap.size ∧ gs < w1.heap.size) := by have := HT1.out.size; have := HT2.out.size; have := hob.out; have h3 := ht3s.out; exact ⟨by omega, by omega, by omega⟩
    cases hps : pscope (enOf bs wb) (eeOf wb) all.length k [] s1 with
    | bad er at_ =>
      rw [hps] at hm2
      have hbx : Rbad wx gr gs er at_ sv := Rbad.tch hm2 hTx id
      have HBX := Lib.hid hbx
      have HG : Hid (pfun (enOf bs wb) (eeOf wb) all s = .bad er at_) := by rw [Hid, HG1.out, hps]; rfl
      clear hwx hTx hxb hps hm2
      obtain ⟨big, bigAt, told, hrx, hex⟩ := hbx
      have hok := ok_any hrx
      rw [decide_eq_false hex] at hok
      obtain ⟨y0, y1, y2, y3, -⟩ := Blk.four (t := 86) hx2
      obtain ⟨z0, z1, z2, z3, zf0, zf1, zf2, zf3⟩ := Blk.four (t := 86) hr2
      have HR2 := Lib.hid hr2
      clear hrx hex hx2 hr2
      refine hok.mono ?_
      rintro e w3 ⟨rfl, rfl⟩
      clear hok
      go_wp2_with fail
      obtain ⟨wf, hwf⟩ : ∃ wf, (((wx.setCell ⟨rb, 0, none⟩ (.slice OA out.length OC)).setCell ⟨rb, 1, none⟩ (.slice none 0 0)).setCell ⟨rb, 2, none⟩ (.int .i64 0)).setCell ⟨rb, 3, none⟩ (.slice none 0 0) = wf := ⟨_, rfl⟩
      obtain ⟨hfb, hft⟩ := raw_put HR2.out hwf
      rw [hwf]
      obtain ⟨k0, k1, k2, k3, -⟩ := Blk.four (t := 86) hfb
      have hrge : w.heap.size ≤ rb := by have := HRBE.out; omega
      have hoff : ∀ t, Off wx 0 (fun k => k = rb) t ∨ t = 86 := fun t => by
        by_cases e : t = 86
        · exact .inr e
        · exact .inl fun k hk => .inr fun cs hb => Blk.ne_ HR2.out hb (fun h => e h.symm) hk.symm
      refine bodyPost_ret (v := .agg #[.slice OA out.length OC, .slice none 0 0, .int .i64 0, .slice none 0 0]) (by simp [results, Tryd.results34, go_sem, k0, k1, k2, k3]) rfl ⟨_, ⟨out, [], 0, []⟩, sv, rfl, fun k hk => .inl hk, ?_, ?_, ?_⟩
      · exact (HTX.out.mono (S' := fun k => k = gr ∨ k = gs ∨ some k = sv.ownBlock) fun k _ h => h.elim Or.inl fun h => Or.inr (Or.inl h)).trans hft fun k hk e => by omega
      · exact ⟨_, _, _, rfl, HROW.out.tch hft ((hoff _).resolve_right (by decide)), ⟨⟨_, _, rfl⟩, World.ownsRow_nil _ _ _ _⟩, LinesOwn.nil _ _⟩
      · rw [HG.out]
        exact ⟨HBX.out.tch hft (fun e => by omega), fun f s' he => by cases he⟩
    | ok sc s2 =>
      rw [hps] at hm2
      dsimp only at hm2
      obtain ⟨rfl, hrk⟩ := hm2
      obtain ⟨u1, u2, u3, u4, u5, u6, u7⟩ := pscope_ok _ _ hps
      have HS2 : Hid (s2.sh = s1.sh ∧ s2.told = s1.told ∧ s2.l.length + k = s1.l.length) := ⟨u2, u3, u5⟩
      have HOK : Hid (out.length = k) := by have := u1; simp at this; exact this
      have hrange : ∀ v ∈ out, 0 ≤ v ∧ v < (all.length : Int) := u6 (by simp)
      have HG2 : Hid (pfun (enOf bs wb) (eeOf wb) all s = (pnum (enOf bs wb) (eeOf wb) 0 far (plarge (decide ((k : Int) > 6) || great (psz all out)) xx s2)).bind fun o s =>
        (pall (enOf bs wb) (eeOf wb) (psz all out) s).bind fun ls s =>
        .ok ⟨out, psz all out, o.1, ls⟩ (if n < 0 then { s with sh := s.sh ++ [(psz all out, ls)] } else s)) := by
        rw [Hid, HG1.out, hps, Res.bind_ok]
      have hrx : Rok wx gr gs bs wb s2 sv := hrk.tch hTx id id fun k cs h => h.elim
      have hok := ok_un (RS.ok (a := ()) hrx)
      rw [show (Res.ok () s2 : Res Unit).good = true from rfl] at hok
      have HRX := Lib.hid hrx
      have HX2 := Lib.hid hx2
      have HR2 := Lib.hid hr2
      have hxc := Blk.four (t := 86) hx2
      obtain ⟨y0, -⟩ := hxc
      have HRG := Lib.hid hrange
      clear u1 u2 u3 u4 u5 u6 u7 hps hrk hwx hTx hxb hx2 hr2 hrange
      refine hok.mono ?_
      rintro e w3 ⟨rfl, rfl⟩
      clear hok
      go_wp2_with fail
      have hin : Blk wx xb 86 #[.slice OA out.length OC, .slice none 0 0, .int .i64 0, .slice none 0 0] := HX2.out
      go_loopw [10, 35] (fun _ jv wr => ∃ (j : Nat) (FA : Option Addr) (fc : Nat), jv = .int .i64 j ∧ j ≤ out.length ∧ Blk wr xb 86 #[.slice OA out.length OC, .slice FA j fc, .int .i64 0, .slice none 0 0] ∧ wr.ownsRow (xb + 1) 2 1 (.slice FA j fc) j (nums (psz all (out.take j))) ∧ Tch wx wr (fun k => k = xb)) (fun _ jv _ => out.length - (intOf jv).toNat)
      case atStart => exact ⟨0, none, 0, rfl, Nat.zero_le _, hin, World.ownsRow_nil _ _ _ _, Tch.refl _ _⟩
      case round =>
        clear hin y0
        obtain ⟨j, FA, fc, rfl, hj, hxr, hor, htr⟩ := hrel
        have hraw : ∀ t, t ≠ 86 → Off wx 0 (fun k => k = xb) t := fun t e k hk => .inr fun cs hb => Blk.ne_ HX2.out hb (fun h => e h.symm) hk.symm
        have HRAW := Lib.hid hraw
        by_cases hlt : j < out.length
        · obtain ⟨ad, v, hA1, _, hv, hc⟩ := (Reads.of_own (HROW.out.tch htr (hraw _ (by decide))).2).num hlt
          subst hA1
          obtain ⟨hv0, hv1⟩ := HRG.out v (List.mem_of_getElem? hv)
          obtain ⟨m, rfl⟩ : ∃ m : Nat, v = (m : Int) := ⟨v.toNat, by omega⟩
          have hml : m < all.length := by omega
          have hTw := HTX.out.trans htr (S' := fun k => k = xb) fun k hk e => by have := HXL.out; have := HRBE.out; omega
          have hal2 := own_off HAL.out hTw O64.out
          obtain ⟨ad2, y, hA2, hbl2, hy, hc2⟩ := (Reads.of_own hal2).num hml
          subst hA2
          have HY := Lib.hid hy
          have HV := Lib.hid hv
          obtain ⟨y0, y1, y2, y3, yf0, yf1, -⟩ := Blk.four (t := 86) hxr
          have hA6 := (hor.alloc (.cells #[.int .i64 y] 2)).drew
          have hr6 : Reads (wr.alloc (.cells #[.int .i64 y] 2)).drew (wr.alloc (.cells #[.int .i64 y] 2)).heap.size 1 (some ⟨wr.heap.size, 0, none⟩) 1 (nums [y]) := reads_block (t := 2) (heap_alloc_new _ _) rfl
          have Y1 := (Blk.four (t := 86) (hxr.alloc (.cells #[.int .i64 y] 2))).2.1
          have HC2 : (wr.alloc (.cells #[.int .i64 y] 2)).cell? (ad2.add m) = some (.int .i64 y) := (World.cell?_alloc_lt wr _ _ (by rw [block_of_add]; exact hbl2)).trans hc2
          have hxl : xb + 1 ≤ wr.heap.size := Blk.lt hxr
          have HXR := Lib.hid hxr
          have HOR := Lib.hid hor
          have HTR := Lib.hid htr
          clear hy hv hxr hor htr hTw hal2 hraw
          go_upto_region 10 with fail
          go_region_law (refine step_append_any _ rfl (.tmp 40) (.tmp 45) 34 rfl (xb + 1) 2 i6 _ 1 8 Tryd.underlying34 h60 h61 h62 h63 rfl (by omega) (.slice FA j fc) j _ rfl hA6 (wr.alloc (.cells #[.int .i64 y] 2)).heap.size (some ⟨wr.heap.size, 0, none⟩) 1 1 (nums [y]) rfl hr6 nums_one (by simp only [maxLen]; omega) (by omega) (by simp; omega) ?_; intro v6 w6 hown6 hg6 hat6; obtain ⟨A6, c6, rfl⟩ := own_shape hown6; have hx6 := (HXR.out.alloc (.cells #[.int .i64 y] 2)).drew.grown hg6 (fun e => by have := (own_in hA6 e.symm).1; omega); have d61 := (Blk.four (t := 86) hx6).2.1; have d6f := hx6.frozen 1; have HX6 := Lib.hid hx6; have HO6 := Lib.hid hown6; have HG6 := Lib.hid hg6; clear hx6 hown6 hg6 hat6)
          all_goals
            go_wp2_with fail
            go_roundw
            case rel =>
              have hnw : nums (psz all (out.take j)) ++ nums [y] = nums (psz all (out.take (j + 1))) := by
                rw [List.take_add_one, HV.out]
                unfold psz nums
                simp [List.getD_eq_getElem?_getD, HY.out]
              refine ⟨j + 1, A6, c6, by go_num, by omega, HX6.out.set_ 1 _, ?_, ?_⟩
              · rw [← hnw]
                exact own_off HO6.out (Tch.put (S := fun k => k = xb) (Tch.refl w6 _) (p := ⟨xb, 1, none⟩) _ rfl) (off_below fun k hk => by omega)
              · exact (((HTR.out.trans (Tch.of_below (bone wr (.cells #[.int .i64 y] 2)) (fun _ => False)) fun _ _ h => h.elim).drew).trans (Tch.of_grown HG6.out (S := fun k => some k = (Value.slice FA j fc).ownBlock) fun q _ hq => hq) fun k hk e => by have := (own_in HOR.out e.symm).1; have := HXL.out; omega).put (p := ⟨xb, 1, none⟩) _ rfl
            case measure => simp [intOf]; omega
        · obtain rfl : j = out.length := by omega
          rw [List.take_of_length_le (Nat.le_refl _)] at hor
          obtain ⟨y0, y1, y2, y3, yf0, yf1, yf2, yf3⟩ := Blk.four (t := 86) hxr
          have hpl : (psz all out).length = out.length := by simp [psz]
          have hp1 : ∀ z ∈ psz all out, 1 ≤ z ∧ z ≤ 4611686018427387904 := fun z hz => by
            obtain ⟨v, hv, rfl⟩ := List.mem_map.1 hz
            obtain ⟨v0, v1⟩ := HRG.out v hv
            have hvl : v.toNat < all.length := by omega
            rw [List.getD_eq_getElem?_getD, List.getElem?_eq_getElem hvl]
            exact ha1 _ (List.getElem_mem _)
          have HP1 := Lib.hid hp1
          have HPL := Lib.hid hpl
          have HXR := Lib.hid hxr
          have HTR0 := Lib.hid htr
          have HORB : Hid (Row64 wr (xb + 1) (.slice FA out.length fc) (psz all out)) := ⟨⟨FA, fc, by rw [hpl]⟩, by rw [hpl]; exact hor⟩
          have HOR : Hid (wr.ownsRow 0 2 1 (.slice FA (psz all out).length fc) (psz all out).length (nums (psz all out))) := by
            have := own_base hor (Nat.zero_le _)
            rw [Hid, hpl]; exact this
          have HTW := Lib.hid (HTX.out.trans htr (S' := fun k => k = xb) fun k hk e => by have := HXL.out; have := HRBE.out; omega)
          have hrs : RS wr gr gs bs wb sv (.ok () s2 : Res Unit) := RS.ok (HRX.out.tch htr (fun e => by have := HXL.out; have := HRBE.out; omega) (fun e => by have := HXL.out; have := HRBE.out; omega) fun q cs hq hb => by subst hq; exact Blk.ne_ HX2.out hb (by decide) rfl)
          have HBR := Lib.hid (htr.blk HR2.out (fun e => by have := HXL.out; omega))
          have hgt := great_any FA out.length fc (psz all out) wr (by omega) (by have := Reads.of_own HOR.out; rw [hpl] at this; exact this) fun z hz => (hp1 z hz).1
          have HRS := Lib.hid hrs
          obtain ⟨B, hB⟩ : ∃ B, (decide ((k : Int) > 6) || great (psz all out)) = B := ⟨_, rfl⟩
          have HG3 := HG2.out
          rw [hB] at HG3
          have HG3 := Lib.hid HG3
          have hlg := large_un hrs hne B xx
          clear hxr hor htr hrs hp1 hpl hraw
          go_upto_region 12 with fail
          go_cut [] (fun wl => RS wl gr gs bs wb sv (.ok () (plarge B xx s2) : Res Unit) ∧ Tch wr wl (fun k => k = gr))
          case first =>
            by_cases hk6 : 6 < k
            · have hkI : decide ((6 : Int) < (k : Int)) = true := decide_eq_true (by omega)
              obtain rfl : B = true := by rw [← hB, decide_eq_true (show (k : Int) > 6 by omega)]; rfl
              clear hB hgt
              go_wp2_with fail
              refine hlg.mono ?_
              rintro e wl ⟨⟨vl, rfl⟩, hrl, htl⟩
              go_wp2_with fail
              go_meet
              case rel => exact ⟨hrl, htl⟩
            · have hkI : decide ((6 : Int) < (k : Int)) = false := decide_eq_false (by omega)
              have hgB : great (psz all out) = B := by rw [← hB, decide_eq_false (show ¬ (k : Int) > 6 by omega)]; rfl
              rw [hgB] at hgt
              clear hB hgB
              go_wp2_with fail
              refine hgt.mono ?_
              rintro e wg ⟨rfl, rfl⟩
              go_wp2_with fail
              refine hlg.mono ?_
              rintro e wl ⟨⟨vl, rfl⟩, hrl, htl⟩
              go_wp2_with fail
              go_meet
              case rel => exact ⟨hrl, htl⟩
          case rest =>
            clear hlg hgt hB y0 y1 y2 y3 yf0 yf1 yf2 yf3
            obtain ⟨hrl, htl⟩ := hcut
            have hs3l := plarge_l B xx s2
            obtain ⟨s3, hs3⟩ : ∃ s3, plarge B xx s2 = s3 := ⟨_, rfl⟩
            rw [hs3] at hrl hs3l
            have HG4 := HG3.out
            rw [hs3] at HG4
            have HG4 := Lib.hid HG4
            obtain ⟨e31, e32, e33⟩ := hs3l
            have HS3 : Hid (s3.sh = s.sh ∧ s3.told = s.told ∧ s3.l.length ≤ bs.length) := ⟨e32.trans (HS2.out.1.trans HS1.out.1), e33.trans (HS2.out.2.1.trans HS1.out.2.1), by rw [e31]; have := HS2.out.2.2; have := HS1.out.2.2; have := HLEFT.out; omega⟩
            have hnum2 := rnum_un hrl hne hn 0 4611686018427387904
            have hneX : gr ≠ xb ∧ gs ≠ xb ∧ gr ≠ rb ∧ gs ≠ rb ∧ rb ≠ xb := by have := HXL.out; have := HRBE.out; omega
            have HXC := Lib.hid (htl.blk HXR.out (fun e => hneX.1 e.symm))
            have HRC := Lib.hid (htl.blk HBR.out (fun e => hneX.2.2.1 e.symm))
            have HTC := Lib.hid (HTW.out.trans (htl.mono (S' := fun k => k = gr ∨ k = gs) fun k _ h => Or.inl h) fun _ _ h => h)
            have HTWC := Lib.hid htl
            clear hrl htl hs3 e31 e32 e33
            go_wp2_with fail
            refine hnum2.mono ?_
            rintro e w5 ⟨o, xo, rfl, ht5, hrs5, hv5, hz5⟩
            clear hnum2
            have HX5 := Lib.hid (ht5.blk HXC.out (by rintro (h | h) <;> omega))
            have HR5 := Lib.hid (ht5.blk HRC.out (by rintro (h | h) <;> omega))
            have HT5 := Lib.hid (HTC.out.trans ht5 fun _ _ h => h)
            have HRS5 := Lib.hid hrs5
            have HV5 := Lib.hid hv5
            have HTC5 := Lib.hid ht5
            clear ht5 hrs5 hv5 hz5
            obtain ⟨y0, y1, y2, y3, yf0, yf1, yf2, yf3⟩ := Blk.four (t := 86) HX5.out
            go_wp2_with fail
            have T6 : Tch w5 (w5.setCell ⟨xb, 2, none⟩ (.int .i64 o)) (fun k => k = xb) := Tch.put (S := fun k => k = xb) (Tch.refl w5 _) (p := ⟨xb, 2, none⟩) _ rfl
            have hx6 : Blk (w5.setCell ⟨xb, 2, none⟩ (.int .i64 o)) xb 86 #[.slice OA out.length OC, .slice FA out.length fc, .int .i64 o, .slice none 0 0] := HX5.out.set_ 2 _
            have hxoff : ∀ t, t ≠ 86 → Off w5 0 (fun k => k = xb) t := fun t e k hk => .inr fun cs hb => Blk.ne_ HX5.out hb (fun h => e h.symm) hk.symm
            have ht6 := HT5.out.trans T6 (S' := fun k => k = xb) fun k hk e => by have := HXL.out; have := HRBE.out; omega
            have rs6 := HRS5.out.tch T6 hneX.1 hneX.2.1 (fun q cs hq hb => by subst hq; exact Blk.ne_ HX5.out hb (by decide) rfl)
            have hr6 := T6.blk HR5.out hneX.2.2.2.2
            obtain ⟨w6, hw6⟩ : ∃ w6, w5.setCell ⟨xb, 2, none⟩ (.int .i64 o) = w6 := ⟨_, rfl⟩
            rw [hw6] at hx6 ht6 rs6 hr6 ⊢
            have HTR6 : Hid (Tch wr w6 (fun k => k = gr ∨ k = gs ∨ k = xb)) := ((HTWC.out.mono (S' := fun k => k = gr ∨ k = gs ∨ k = xb) fun k _ h => .inl h).trans HTC5.out fun k _ h => h.elim Or.inl fun h => Or.inr (Or.inl h)).trans (by rw [← hw6]; exact T6) fun k _ h => Or.inr (Or.inr h)
            have HSZ6 := Lib.hid (HORB.out.tch HTR6.out (off_below fun k hk => by have := HXL.out; have := HRBE.out; omega))
            have HSC6 := Lib.hid (HROWX.out.tch ((HTR0.out.mono (S' := fun k => k = gr ∨ k = gs ∨ k = xb) fun k _ h => .inr (.inr h)).trans HTR6.out fun _ _ h => h) (fun k hk => by
              rcases hk with h | h | h
              · exact .inl (by have := HW1.out; omega)
              · exact .inl (by have := HW1.out; omega)
              · exact .inr fun cs hb => Blk.ne_ HX2.out hb (by decide) h.symm))
            have HSH6 := Lib.hid (HSH.out.tch ht6 O64.out OL.out OS.out)
            have hsr := (HSZ6.out.down (Nat.zero_le _)).2
            have hln := lines_un rs6 hne (by have := ht6.size; omega) (by have := ht6.size; omega) hn (tab_tch HTAB.out ht6 (by omega)) hG1 hG2 FA fc (psz all out) (by rw [HPL.out] at hsr ⊢; exact hsr) HP1.out (by rw [HPL.out]; exact (by
              have := HOK.out; have := HS2.out.2.2; have := HS1.out.2.2; have := HLEFT.out; omega)) s.sh HSH6.out (by omega) (fun a s' he => by
              obtain ⟨_, _, p3, p4, _, _⟩ := pnum_ok (show pnum (enOf bs wb) (eeOf wb) 0 4611686018427387904 s3 = .ok a s' from he)
              have := HS3.out
              exact ⟨by omega, by omega, p3.trans this.1⟩)
            rw [HPL.out] at hln
            have HX6 := Lib.hid hx6
            have HR6 := Lib.hid hr6
            have HT6 := Lib.hid ht6
            obtain ⟨y0, y1, y2, y3, yf0, yf1, yf2, yf3⟩ := Blk.four (t := 86) hx6
            clear hw6 T6 hx6 hr6 ht6 rs6 hxoff hsr
            go_wp2_with fail
            refine hln.mono ?_
            rintro e w7 ⟨lv, ls, rfl, ht7, hlo, hrs7, hls⟩
            clear hln
            obtain ⟨L, hL, ⟨LA, lc, rfl⟩, hlo2⟩ := hlo
            have HLO7 : Hid (LinesOwn w7 0 (.slice LA L.length lc) ls) := ⟨L, hL, ⟨LA, lc, rfl⟩, hlo2⟩
            have HX7 := Lib.hid (ht7.blk HX6.out (by rintro (h | h) <;> omega))
            have HR7 := Lib.hid (ht7.blk HR6.out (by rintro (h | h) <;> omega))
            have HSZ7 := Lib.hid (HSZ6.out.tch ht7 (off_below fun k hk => by have := HXL.out; have := HRBE.out; omega))
            have HSC7 := Lib.hid (HSC6.out.tch ht7 (off_below fun k hk => by have := HW1.out; omega))
            have HSH7 := Lib.hid (HSH.out.tch (HT6.out.trans ht7 fun _ _ h => h) O64.out OL.out OS.out)
            have HT7 := Lib.hid (HT6.out.trans ht7 fun _ _ h => h)
            have HRS7 := Lib.hid hrs7
            have HLS := Lib.hid hls
            clear ht7 hlo2 hrs7 hls hL y0 y1 y2 y3 yf0 yf1 yf2 yf3
            obtain ⟨y0, y1, y2, y3, yf0, yf1, yf2, yf3⟩ := Blk.four (t := 86) HX7.out
            obtain ⟨w8, hw8⟩ : ∃ w8, w7.setCell ⟨xb, 3, none⟩ (.slice LA L.length lc) = w8 := ⟨_, rfl⟩
            have T8 : Tch w7 w8 (fun k => k = xb) := by rw [← hw8]; exact Tch.put (S := fun k => k = xb) (Tch.refl w7 _) (p := ⟨xb, 3, none⟩) _ rfl
            have hx8 : Blk w8 xb 86 #[.slice OA out.length OC, .slice FA out.length fc, .int .i64 o, .slice LA L.length lc] := by rw [← hw8]; exact HX7.out.set_ 3 _
            have hxoff : ∀ B t, t ≠ 86 → Off w7 B (fun k => k = xb) t := fun B t e k hk => .inr fun cs hb => Blk.ne_ HX7.out hb (fun h => e h.symm) hk.symm
            have HR8 := Lib.hid (T8.blk HR7.out hneX.2.2.2.2)
            have HSZ8 := Lib.hid (HSZ7.out.tch T8 (hxoff _ _ (by decide)))
            have HSC8 := Lib.hid (HSC7.out.tch T8 (hxoff _ _ (by decide)))
            have HLO8 := Lib.hid (HLO7.out.tch T8 (hxoff _ _ (by decide)) (hxoff _ _ (by decide)))
            have HSH8 := Lib.hid (HSH7.out.tch T8 (hxoff _ _ (by decide)) (hxoff _ _ (by decide)) (hxoff _ _ (by decide)))
            have HT8 := Lib.hid (HT7.out.trans T8 (S' := fun k => k = xb) fun k hk e => by have := HXL.out; have := HRBE.out; omega)
            have HRS8 := Lib.hid (HRS7.out.tch T8 hneX.1 hneX.2.1 (fun q cs hq hb => by subst hq; exact Blk.ne_ HX7.out hb (by decide) rfl))
            have HX8 := Lib.hid hx8
            clear T8 hx8 hxoff
            have hend := fun_end (mk := fun o ls => (⟨out, psz all out, o, ls⟩ : Raw)) (f := fun ls s => if n < 0 then { s with sh := s.sh ++ [(psz all out, ls)] } else s) HV5.out HLS.out
            have HEND := Lib.hid hend
            clear hend
            go_upto_region 15 with fail
            clear hw8 y0 y1 y2 y3 yf0 yf1 yf2 yf3
            obtain ⟨y0, y1, y2, y3, yf0, yf1, yf2, yf3⟩ := Blk.four (t := 86) HX8.out
            by_cases hneg : n < 0
            · have hnI : decide (n < 0) = true := decide_eq_true hneg
              obtain ⟨SL, hSL, ⟨SA, scp, rfl⟩, hso, hsp⟩ := HSH8.out
              have hSLl : SL.length ≤ 900000 := by rw [← hSL] at hshl; simpa using hshl
              obtain ⟨bad, big, badAt, bigAt, told, hrb8, -, -⟩ := HRS8.out.blk
              have g6 := (RdB.cells hrb8).2.2.2.2.2.2.1
              have hrb8a := Blk.alloc hrb8 (.cells #[.slice FA out.length fc, .slice LA L.length lc] 143)
              have G6 := (RdB.cells hrb8a).2.2.2.2.2.2.1
              obtain ⟨Y0, Y1, Y2, Y3, -⟩ := Blk.four (t := 86) (HX8.out.alloc (.cells #[.slice FA out.length fc, .slice LA L.length lc] 143))
              have hA9 := (hso.alloc (.cells #[.slice FA out.length fc, .slice LA L.length lc] 143)).drew
              have hr9 : Reads (w8.alloc (.cells #[.slice FA out.length fc, .slice LA L.length lc] 143)).drew (w8.alloc (.cells #[.slice FA out.length fc, .slice LA L.length lc] 143)).heap.size 2 (some ⟨w8.heap.size, 0, none⟩) 1 [.slice FA out.length fc, .slice LA L.length lc] := reads_two (t := 143) (heap_alloc_new _ _)
              have hone : ∀ u ∈ [Value.slice FA out.length fc, .slice LA L.length lc], u.oneCell' = true := fun u hu => by
                rcases List.mem_cons.1 hu with rfl | hu
                · rfl
                · rw [List.mem_singleton.1 hu]; rfl
              have HSO := Lib.hid hso
              have HSP := Lib.hid hsp
              have HSL := Lib.hid hSL
              have HONE := Lib.hid hone
              have HRB8 := Lib.hid hrb8a
              have hrneg : ∀ k, (Value.slice SA SL.length scp).ownBlock = some k → k ≠ gr ∧ k ≠ xb ∧ k ≠ rb := fun k hk =>
                ⟨fun e => own_blk_ne hso hrb8 (by decide) (by rw [hk, e]), fun e => own_blk_ne hso HX8.out (by decide) (by rw [hk, e]), fun e => own_blk_ne hso HR8.out (by decide) (by rw [hk, e])⟩
              clear hso hsp hSL hone hrb8 hrb8a
              go_upto_region 16 with fail
              clear hnI
              go_cut [7] (fun _ wq => ∃ A9 c9 w9, w9.ownsRow 0 143 2 (.slice A9 (SL.length + 1) c9) (SL.length + 1) (shcells SL ++ [.slice FA out.length fc, .slice LA L.length lc]) ∧ ((w8.alloc (.cells #[.slice FA out.length fc, .slice LA L.length lc] 143)).drew.grownBy w9 (Value.slice SA SL.length scp).ownBlock) ∧ ((Value.slice A9 (SL.length + 1) c9).ownBlock = (Value.slice SA SL.length scp).ownBlock ∨ (Value.slice A9 (SL.length + 1) c9).ownBlock = some (w8.alloc (.cells #[.slice FA out.length fc, .slice LA L.length lc] 143)).drew.heap.size) ∧ wq = w9.setCell ⟨gr, 6, none⟩ (.slice A9 (SL.length + 1) c9))
              case first =>
                go_region_law (refine step_append_any _ rfl (.tmp 75) (.tmp 81) 75 rfl 0 143 iS _ 2 48 Tryd.underlying75 hS0 hS1 hS2 hS3 rfl (by omega) (.slice SA SL.length scp) SL.length _ rfl hA9 (w8.alloc (.cells #[.slice FA out.length fc, .slice LA L.length lc] 143)).heap.size (some ⟨w8.heap.size, 0, none⟩) 1 1 [.slice FA out.length fc, .slice LA L.length lc] rfl hr9 HONE.out (by simp only [maxLen]; omega) (by omega) (Nat.zero_le _) ?_; intro v9 w9 hown9 hg9 hat9; obtain ⟨A9, c9, rfl⟩ := own_shape hown9; have hx9 := (Blk.grown (Blk.drew HRB8.out) hg9 (fun e => (hrneg _ e.symm).1 rfl)); have g96 := (RdB.cells hx9).2.2.2.2.2.2.1; have g9f := (RdB.cells hx9).2.2.2.2.2.2.2 6; have HO9 := Lib.hid hown9; have HG9 := Lib.hid hg9; have HA9 := Lib.hid hat9; clear hx9 hown9 hg9 hat9)
                all_goals
                  go_wp2_with fail
                  go_meet
                  case rel => exact ⟨A9, c9, w9, HO9.out, HG9.out, HA9.out, rfl⟩
              case rest =>
                obtain ⟨A9, c9, w9, ho9, hg9, hat9, rfl⟩ := hcut
                obtain ⟨wq, hwq⟩ : ∃ wq, w9.setCell ⟨gr, 6, none⟩ (.slice A9 (SL.length + 1) c9) = wq := ⟨_, rfl⟩
                rw [hwq]
                have Ta : Tch w8 (w8.alloc (.cells #[.slice FA out.length fc, .slice LA L.length lc] 143)).drew (fun _ => False) := (Tch.of_below (bone w8 _) _).drew
                have Tb : Tch (w8.alloc (.cells #[.slice FA out.length fc, .slice LA L.length lc] 143)).drew w9 (fun k => some k = (Value.slice SA SL.length scp).ownBlock) := Tch.of_grown hg9 fun q _ hq => hq
                have Tc : Tch w9 wq (fun k => k = gr) := by rw [← hwq]; exact Tch.put (S := fun k => k = gr) (Tch.refl w9 _) (p := ⟨gr, 6, none⟩) _ rfl
                have hg9b : ∀ t, 77 ≠ t → Off w9 0 (fun k => k = gr) t := fun t e k hk => .inr fun cs hb => by
                  have := Blk.grown (Blk.drew HRB8.out) hg9 (fun e => (hrneg _ e.symm).1 rfl)
                  exact Blk.ne_ this hb e hk.symm
                have hTsv : Tch w8 w9 (fun k => some k = (Value.slice SA SL.length scp).ownBlock) := (Ta.mono (S' := fun k => some k = (Value.slice SA SL.length scp).ownBlock) fun _ _ h => h.elim).trans Tb fun _ _ h => h
                have hofs : ∀ t, 143 ≠ t → Off w8 0 (fun k => some k = (Value.slice SA SL.length scp).ownBlock) t := fun t e => off_own HSO.out e
                have hx9 := Tc.blk (hTsv.blk HX8.out (fun e => (hrneg _ e.symm).2.1 rfl)) (fun e => hneX.1 e.symm)
                have hr9' := Tc.blk (hTsv.blk HR8.out (fun e => (hrneg _ e.symm).2.2 rfl)) (fun e => hneX.2.2.1 e.symm)
                have hsz9 := (HSZ8.out.tch hTsv (fun k hk => (hofs _ (by decide) k hk).elim (fun h => by omega) Or.inr)).tch Tc (fun k hk => .inl (by have := HXL.out; have := HRBE.out; omega))
                have hsc9 := (HSC8.out.tch hTsv (fun k hk => (hofs _ (by decide) k hk).elim (fun h => by omega) Or.inr)).tch Tc (fun k hk => .inl (by have := HW1.out; omega))
                have hlo9 := (HLO8.out.tch hTsv (hofs _ (by decide)) (hofs _ (by decide))).tch Tc (hg9b _ (by decide)) (hg9b _ (by decide))
                have hshq : ∀ sh, SL.map (·.2.2) = sh → ShV wq (.slice A9 (SL.length + 1) c9) (sh ++ [(psz all out, ls)]) := fun sh e => by
                  refine ⟨SL ++ [(.slice FA out.length fc, .slice LA L.length lc, (psz all out, ls))], by rw [List.map_append, e]; rfl, ⟨A9, c9, by simp⟩, ?_, fun p hp => ?_⟩
                  · rw [show (SL ++ [((Value.slice FA out.length fc, Value.slice LA L.length lc, (psz all out, ls)) : ST)]).length = SL.length + 1 by simp, show shcells (SL ++ [(.slice FA out.length fc, .slice LA L.length lc, (psz all out, ls))]) = shcells SL ++ [.slice FA out.length fc, .slice LA L.length lc] by simp [shcells]]
                    exact own_off ho9 Tc (hg9b _ (by decide))
                  · rcases List.mem_append.1 hp with hp | hp
                    · obtain ⟨h1, h2, h3⟩ := HSP.out p hp
                      exact ⟨(h1.tch hTsv (hofs _ (by decide))).tch Tc (hg9b _ (by decide)), (h2.tch hTsv (hofs _ (by decide)) (hofs _ (by decide))).tch Tc (hg9b _ (by decide)) (hg9b _ (by decide)), h3⟩
                    · rw [List.mem_singleton.1 hp]
                      refine ⟨hsz9.down (Nat.zero_le _), hlo9, ?_⟩
                      have h1 := HOK.out; have h2 := HS2.out.2.2; have h3 := HS1.out.2.2; have h4 := HLEFT.out; have h5 := HPL.out
                      dsimp only
                      omega
                have hrq : RS wq gr gs bs wb (.slice A9 (SL.length + 1) c9) (pfun (enOf bs wb) (eeOf wb) all s) ∧ (∀ f s', pfun (enOf bs wb) (eeOf wb) all s = .ok f s' → f = ⟨out, psz all out, o, ls⟩ ∧ ShV wq (.slice A9 (SL.length + 1) c9) s'.sh) := by
                  rw [HG4.out]
                  have hsu : ∀ k cs, some k = (Value.slice SA SL.length scp).ownBlock → ¬ Blk w8 k 5 cs := fun k cs hk hb => own_blk_ne HSO.out hb (by decide) hk.symm
                  have hsg : ¬ some gs = (Value.slice SA SL.length scp).ownBlock := fun e => hgsn gs e.symm rfl
                  have h8 := HRS8.out.tch hTsv (fun e => (hrneg _ e.symm).1 rfl) hsg hsu
                  rcases HEND.out with ⟨er, x0, e1, e2⟩ | ⟨s6, e1, e2, e3⟩
                  · rw [show (pnum (enOf bs wb) (eeOf wb) 0 4611686018427387904 : Ps → _) = pnum (enOf bs wb) (eeOf wb) 0 far from rfl, e1] at h8
                    rw [e2, ← hwq]
                    exact ⟨Rbad.share h8 _, fun f s' he => by cases he⟩
                  · rw [show (pnum (enOf bs wb) (eeOf wb) 0 4611686018427387904 : Ps → _) = pnum (enOf bs wb) (eeOf wb) 0 far from rfl, e1] at h8
                    rw [e2, if_pos hneg]
                    have hs6 := e3 (by have := HS3.out; omega)
                    refine ⟨by rw [← hwq]; exact Rok.share h8 _ hne rfl rfl rfl, fun f s' he => ?_⟩
                    injection he with h1 h2
                    subst h2
                    exact ⟨h1.symm, hshq _ (by rw [HSL.out, hs6, HS3.out.1])⟩
                have hsvb : ∀ k, (Value.slice A9 (SL.length + 1) c9).ownBlock = some k → (Value.slice SA SL.length scp).ownBlock = some k ∨ w.heap.size ≤ k := fun k hk => by
                  rcases hat9 with h | h
                  · exact .inl (h ▸ hk)
                  · right
                    rw [h] at hk
                    have h1 := Option.some.inj hk
                    have h2 := HT8.out.size
                    simp at h1
                    omega
                obtain ⟨svq, hsvq⟩ : ∃ x, x = Value.slice A9 (SL.length + 1) c9 := ⟨_, rfl⟩
                rw [← hsvq] at hrq hsvb
                have HSVB := Lib.hid hsvb
                clear hsvq hsvb hat9
                have HRQ := Lib.hid hrq
                have HTQ : Hid (Tch w wq (fun k => k = gr ∨ k = gs ∨ some k = (Value.slice SA SL.length scp).ownBlock)) := ((HT8.out.mono (S' := fun k => k = gr ∨ k = gs ∨ some k = (Value.slice SA SL.length scp).ownBlock) fun k _ h => h.elim Or.inl fun h => Or.inr (Or.inl h)).trans hTsv fun k _ h => Or.inr (Or.inr h)).trans Tc fun k _ h => Or.inl h
                have HR8 := Lib.hid hr9'
                have HSZ8 := Lib.hid hsz9
                have HSC8 := Lib.hid hsc9
                have HLO8 := Lib.hid hlo9
                obtain ⟨z0, z1, z2, z3, zf0, zf1, zf2, zf3⟩ := Blk.four (t := 86) hr9'
                clear y0 y1 y2 y3 yf0 yf1 yf2 yf3 Y0 Y1 Y2 Y3
                obtain ⟨y0, y1, y2, y3, yf0, yf1, yf2, yf3⟩ := Blk.four (t := 86) hx9
                clear hrq hwq Ta Tb Tc hTsv ho9 hg9 hx9 hr9' hsz9 hsc9 hlo9 hshq hofs hg9b hA9 hr9 g6 G6
                go_wp2_with fail
                obtain ⟨wf, hwf⟩ : ∃ wf, (((wq.setCell ⟨rb, 0, none⟩ (.slice OA out.length OC)).setCell ⟨rb, 1, none⟩ (.slice FA out.length fc)).setCell ⟨rb, 2, none⟩ (.int .i64 o)).setCell ⟨rb, 3, none⟩ (.slice LA L.length lc) = wf := ⟨_, rfl⟩
                obtain ⟨hfb, hft⟩ := raw_put HR8.out hwf
                rw [hwf]
                obtain ⟨k0, k1, k2, k3, -⟩ := Blk.four (t := 86) hfb
                have hrge : w.heap.size ≤ rb := by have := HRBE.out; omega
                have hoff : ∀ t, t ≠ 86 → Off wq 0 (fun k => k = rb) t := fun t e k hk => .inr fun cs hb => Blk.ne_ HR8.out hb (fun h => e h.symm) hk.symm
                refine bodyPost_ret (v := .agg #[.slice OA out.length OC, .slice FA out.length fc, .int .i64 o, .slice LA L.length lc]) (by simp [results, Tryd.results34, go_sem, k0, k1, k2, k3]) rfl ⟨_, ⟨out, psz all out, o, ls⟩, svq, rfl, HSVB.out, ?_, ?_, ?_, ?_⟩
                · exact HTQ.out.trans hft fun k hk e => by omega
                · exact ⟨_, _, _, rfl, (HSC8.out.down (Nat.zero_le _)).tch hft (hoff _ (by decide)), (HSZ8.out.down (Nat.zero_le _)).tch hft (hoff _ (by decide)), HLO8.out.tch hft (hoff _ (by decide)) (hoff _ (by decide))⟩
                · exact HRQ.out.1.tch hft hneX.2.2.1 hneX.2.2.2.1 fun q cs hq hb => by subst hq; exact Blk.ne_ HR8.out hb (by decide) rfl
                · intro f s' he
                  obtain ⟨h1, h2⟩ := HRQ.out.2 f s' he
                  exact ⟨h1, h2.tch hft (hoff _ (by decide)) (hoff _ (by decide)) (hoff _ (by decide))⟩
            · have hnI : decide (n < 0) = false := decide_eq_false hneg
              obtain ⟨z0, z1, z2, z3, zf0, zf1, zf2, zf3⟩ := Blk.four (t := 86) HR8.out
              have hrq : RS w8 gr gs bs wb sv (pfun (enOf bs wb) (eeOf wb) all s) ∧ (∀ f s', pfun (enOf bs wb) (eeOf wb) all s = .ok f s' → f = ⟨out, psz all out, o, ls⟩ ∧ ShV w8 sv s'.sh) := by
                rw [HG4.out]
                have h8 := HRS8.out
                rcases HEND.out with ⟨er, x0, e1, e2⟩ | ⟨s6, e1, e2, e3⟩
                · rw [show (pnum (enOf bs wb) (eeOf wb) 0 4611686018427387904 : Ps → _) = pnum (enOf bs wb) (eeOf wb) 0 far from rfl, e1] at h8
                  rw [e2]
                  exact ⟨h8, fun f s' he => by cases he⟩
                · rw [show (pnum (enOf bs wb) (eeOf wb) 0 4611686018427387904 : Ps → _) = pnum (enOf bs wb) (eeOf wb) 0 far from rfl, e1] at h8
                  rw [e2, if_neg hneg]
                  have hs6 := e3 (by have := HS3.out; omega)
                  refine ⟨h8, fun f s' he => ?_⟩
                  injection he with h1 h2
                  subst h2
                  exact ⟨h1.symm, by rw [hs6, HS3.out.1]; exact HSH8.out⟩
              have HSVB : Hid (∀ k, sv.ownBlock = some k → sv.ownBlock = some k ∨ w.heap.size ≤ k) := fun k hk => .inl hk
              have HRQ := Lib.hid hrq
              have HTQ : Hid (Tch w w8 (fun k => k = gr ∨ k = gs ∨ some k = sv.ownBlock)) := HT8.out.mono fun k _ h => h.elim Or.inl fun h => Or.inr (Or.inl h)
              clear hrq hnI
              go_wp2_with fail
              obtain ⟨wf, hwf⟩ : ∃ wf, (((w8.setCell ⟨rb, 0, none⟩ (.slice OA out.length OC)).setCell ⟨rb, 1, none⟩ (.slice FA out.length fc)).setCell ⟨rb, 2, none⟩ (.int .i64 o)).setCell ⟨rb, 3, none⟩ (.slice LA L.length lc) = wf := ⟨_, rfl⟩
              obtain ⟨hfb, hft⟩ := raw_put HR8.out hwf
              rw [hwf]
              obtain ⟨k0, k1, k2, k3, -⟩ := Blk.four (t := 86) hfb
              have hrge : w.heap.size ≤ rb := by have := HRBE.out; omega
              have hoff : ∀ t, t ≠ 86 → Off w8 0 (fun k => k = rb) t := fun t e k hk => .inr fun cs hb => Blk.ne_ HR8.out hb (fun h => e h.symm) hk.symm
              refine bodyPost_ret (v := .agg #[.slice OA out.length OC, .slice FA out.length fc, .int .i64 o, .slice LA L.length lc]) (by simp [results, Tryd.results34, go_sem, k0, k1, k2, k3]) rfl ⟨_, ⟨out, psz all out, o, ls⟩, sv, rfl, HSVB.out, ?_, ?_, ?_, ?_⟩
              · exact HTQ.out.trans hft fun k hk e => by omega
              · exact ⟨_, _, _, rfl, (HSC8.out.down (Nat.zero_le _)).tch hft (hoff _ (by decide)), (HSZ8.out.down (Nat.zero_le _)).tch hft (hoff _ (by decide)), HLO8.out.tch hft (hoff _ (by decide)) (hoff _ (by decide))⟩
              · exact HRQ.out.1.tch hft hneX.2.2.1 hneX.2.2.2.1 fun q cs hq hb => by subst hq; exact Blk.ne_ HR8.out hb (by decide) rfl
              · intro f s' he
                obtain ⟨h1, h2⟩ := HRQ.out.2 f s' he
                exact ⟨h1, h2.tch hft (hoff _ (by decide)) (hoff _ (by decide)) (hoff _ (by decide))⟩
end Go.Proofs.YtafdijfbgkcnnaaDoor.wcp
