/- A trail's Mark. -/
import Derived.Test.YtgojncgdmcpkiaaTrSet
namespace Go.Proofs.Ytgojncgdmcpkiaa.trl
open Go Go.RowKit Go.ChangeShapes Go.WideShapes Go.ChangeAt Go.Proofs.Ytgojncgdmcpkiaa.words
set_option linter.unusedVariables false
variable {g : Nat} {F : Nat → Prop} {cs : List Cl} {os : List Ol} {ms : List Mk} {ev : Nat}
theorem tr_append_marks {wb w0 w4 : World} (h : TR wb g F cs os ms ev) {A3 : Option Addr} {c3 : Nat} (hc : wb.cell? ⟨g, 2, none⟩ = some (.slice A3 ms.length c3)) (m : Mk) (hbl : Below wb.heap.size wb w0) (hg4 : w0.grownBy w4 (Value.slice A3 ms.length c3).ownBlock)
    {A4 : Option Addr} {c4 : Nat} (hown4 : w4.ownsRow 0 62 3 (.slice A4 (ms.length + 1) c4) (ms.length + 1) (ms.flatMap fmk ++ fmk m)) (hat : (Value.slice A4 (ms.length + 1) c4).ownBlock = (Value.slice A3 ms.length c3).ownBlock ∨ (Value.slice A4 (ms.length + 1) c4).ownBlock = some w0.heap.size) :
    Left wb g F cs os (ms ++ [m]) ev (w4.setCell ⟨g, 2, none⟩ (.slice A4 (ms.length + 1) c4)) := by
  obtain ⟨hg, A1, c1, A2, c2, A3', c3', hb, h1, f1, h2, f2, h3, f3⟩ := h
  rw [hb.cell 2] at hc
  have hc' : (Value.slice A3' ms.length c3') = .slice A3 ms.length c3 := by injection hc
  injection hc' with e1 _ e2
  subst e1; subst e2
  have hb4 : Blk w4 g 59 #[.slice A1 cs.length c1, .slice A2 os.length c2, .slice A3' ms.length c3', .int .u64 ev] := (hb.under hbl).grown hg4 fun e => own_blk_ne h3 hb (by decide) e.symm
  have hl : (ms ++ [m]).length = ms.length + 1 := by simp
  have hlen : (#[.slice A1 cs.length c1, .slice A2 os.length c2, .slice A3' ms.length c3', .int .u64 ev] : Array Value).setIfInBounds 2 (.slice A4 (ms.length + 1) c4) = #[.slice A1 cs.length c1, .slice A2 os.length c2, .slice A4 (ms ++ [m]).length c4, .int .u64 ev] := by rw [hl]; rfl
  have hF4 : ∀ k, (Value.slice A4 (ms ++ [m]).length c4).ownBlock = some k → F k ∨ wb.heap.size ≤ k := fun k hk => by
    have hk' : (Value.slice A4 (ms.length + 1) c4).ownBlock = some k := by rw [← hk]; cases A4 <;> rfl
    rcases hat with e | e
    · exact .inl (f3 k (e.symm.trans hk'))
    · rw [hk'] at e; have := Option.some.inj e; exact .inr (by have := hbl.size; omega)
  have := tr_upd (F' := fun k => F k ∨ wb.heap.size ≤ k) (cs := cs) (os := os) (ms := ms ++ [m]) (.inl hg) hb4 2 hlen (own_kept_ne h1 h3 (by decide) hbl hg4) (fun k hk => .inl (f1 k hk))
    (own_kept_ne h2 h3 (by decide) hbl hg4) (fun k hk => .inl (f2 k hk)) (by rw [hl, List.flatMap_append]; simpa using hown4) hF4
  have ht4 : Tch wb w4 F := (Tch.of_below hbl F).trans (Tch.of_grown hg4 (S := F) fun q _ hq => f3 q hq.symm) fun _ _ h => h
  exact ⟨this.1, ht4.trans (this.2.mono fun q _ e => by rw [e]; exact hg) fun _ _ h => h⟩
theorem mark_none (w : World) : Calls Try.prog 13 #[.pointer none] w fun e w' => e = .returned (.int .i64 0) ∧ w = w' := by
  go_enter Try.func13, Try.ntmps13
  go_wp2
  go_ret
  exact ⟨rfl, rfl⟩
set_option maxHeartbeats 8000000 in
theorem mark_any (w : World) (h : TR w g F cs os ms ev) (hn : cs.length ≤ 1000000) (hmb : ms.length ≤ 1000000) (hob : os.length ≤ 1000000) (hev : ev ≤ 1000000) :
    Calls Try.prog 13 #[.pointer (some ⟨g, 0, none⟩)] w fun e w' => e = .returned (.int .i64 ms.length) ∧ Left w g F cs os (ms ++ [(os.length, cs.length, ev + 1)]) (ev + 1) w' := by
  obtain ⟨j0, hi0, hz0, hz1, hz2⟩ := info_parts infoM
  obtain ⟨e1, he1⟩ : ∃ e1, ev + 1 = e1 := ⟨_, rfl⟩
  have hE : (ev : Int) + 1 = (e1 : Int) := by omega
  have hEw : IntKind.u64.wrap (e1 : Int) = (e1 : Int) := by rw [IntKind.wrap_u64]; omega
  rw [he1]
  obtain ⟨A1, c1, A2, c2, A3, c3, hb, h1, f1, h2, f2, h3, f3, hg⟩ : ∃ A1 c1 A2 c2 A3 c3, Blk w g 59 #[.slice A1 cs.length c1, .slice A2 os.length c2, .slice A3 ms.length c3, .int .u64 ev] ∧ w.ownsRow 0 64 2 (.slice A1 cs.length c1) cs.length (cs.flatMap fcl) ∧ (∀ k, (Value.slice A1 cs.length c1).ownBlock = some k → F k) ∧
    w.ownsRow 0 66 3 (.slice A2 os.length c2) os.length (os.flatMap fol) ∧ (∀ k, (Value.slice A2 os.length c2).ownBlock = some k → F k) ∧
    w.ownsRow 0 62 3 (.slice A3 ms.length c3) ms.length (ms.flatMap fmk) ∧ (∀ k, (Value.slice A3 ms.length c3).ownBlock = some k → F k) ∧ F g := by
    obtain ⟨hg, A1, c1, A2, c2, A3, c3, hb, h1, f1, h2, f2, h3, f3⟩ := h
    exact ⟨A1, c1, A2, c2, A3, c3, hb, h1, f1, h2, f2, h3, f3, hg⟩
  have hup := tr_upd (F' := F) (ev := e1) hg hb 3 (x := .int .u64 e1) rfl h1 f1 h2 f2 h3 f3
  obtain ⟨q0, q1, q2, q3⟩ := four hb
  have q3f := hb.frozen 3
  have hbb := hb.set_ 3 (.int .u64 e1)
  obtain ⟨wb, hwb⟩ : ∃ wb, w.setCell ⟨g, 3, none⟩ (.int .u64 (e1 : Int)) = wb := ⟨_, rfl⟩
  have hwb' : w.setCell ⟨g, 3, none⟩ (.int .u64 (e1 : Int)) = wb := hwb
  rw [hwb] at hup hbb
  obtain ⟨p0, p1, p2, p3⟩ := four (show Blk wb g 59 #[.slice A1 cs.length c1, .slice A2 os.length c2, .slice A3 ms.length c3, .int .u64 e1] from hbb)
  have hbA := fun o => (hbb.alloc o)
  obtain ⟨n, hn'⟩ : ∃ n, cs.length = n := ⟨_, rfl⟩
  obtain ⟨n2, hn2⟩ : ∃ n, os.length = n := ⟨_, rfl⟩
  obtain ⟨n3, hn3⟩ : ∃ n, ms.length = n := ⟨_, rfl⟩
  have h3b : wb.ownsRow 0 62 3 (.slice A3 ms.length c3) ms.length (ms.flatMap fmk) := hup.2.own h3 (fun q hq e => own_blk_ne h3 hb (by decide) (by rw [hq, e]))
  have hneg : (Value.slice A3 ms.length c3).ownBlock ≠ some g := own_blk_ne h3 hb (by decide)
  have hra := (h3b.alloc (.cells #[.int .i64 (n2 : Int), .int .i64 (n : Int), .int .u64 (e1 : Int)] 62)).drew
  have hba2 := (hbA (.cells #[.int .i64 (n2 : Int), .int .i64 (n : Int), .int .u64 (e1 : Int)] 62)).drew
  have hr1 : Reads (wb.alloc (.cells #[.int .i64 (n2 : Int), .int .i64 (n : Int), .int .u64 (e1 : Int)] 62)).drew (wb.alloc (.cells #[.int .i64 (n2 : Int), .int .i64 (n : Int), .int .u64 (e1 : Int)] 62)).heap.size 3 (some ⟨wb.heap.size, 0, none⟩) 1 [.int .i64 n2, .int .i64 n, .int .u64 e1] := reads_three (t := 62) (heap_alloc_new wb (.cells #[.int .i64 (n2 : Int), .int .i64 (n : Int), .int .u64 (e1 : Int)] 62))
  have hone : ∀ u ∈ ([.int .i64 n2, .int .i64 n, .int .u64 e1] : List Value), u.oneCell' = true := fun u hu => by simp at hu; rcases hu with rfl | rfl | rfl <;> rfl
  obtain ⟨P0, P1, P2, P3⟩ := four (show Blk (wb.alloc (.cells #[.int .i64 (n2 : Int), .int .i64 (n : Int), .int .u64 (e1 : Int)] 62)) g 59 #[.slice A1 cs.length c1, .slice A2 os.length c2, .slice A3 ms.length c3, .int .u64 e1] from hbA _)
  have HUP := Lib.hid hup
  have HPC : Hid (wb.cell? ⟨g, 2, none⟩ = some (.slice A3 ms.length c3)) := p2
  rw [hn'] at q0 hn p0 P0
  rw [hn2] at q1 hob p1 P1
  rw [hn3] at q2 hmb p2 P2 hra hneg ⊢
  have HN := Lib.hid hn'
  have HN2 := Lib.hid hn2
  have HN3 := Lib.hid hn3
  have HT := Lib.hid (Tch.set_ w (S := (· = g)) (p := ⟨g, 3, none⟩) (.int .u64 (e1 : Int)) rfl)
  have HG := Lib.hid hg
  have hX1 : w.cell? ⟨g, 3, none⟩ = some (.int .u64 ev) := q3
  clear h hb h1 f1 h2 f2 h3 f3 hup h3b hn' hn2 hn3 hbb hbA hwb' he1 hg
  go_enter Try.func13, Try.ntmps13
  go_wp2_with fail
  clear q0 q1 q2 q3 q3f hX1 hwb
  have hwx : ∃ u, (wb.alloc (.cells #[.int .i64 (n2 : Int), .int .i64 (n : Int), .int .u64 (e1 : Int)] 62)).drew.cell? ⟨g, 2, none⟩ = some u := ⟨_, P2⟩
  go_cut [] (fun wx => Left wb g F cs os (ms ++ [(n2, n, e1)]) e1 wx)
  case first =>
    have Hra := Lib.hid hra
    have Hr1 := Lib.hid hr1
    have Hone := Lib.hid hone
    have Hba := Lib.hid hba2
    have Hneg := Lib.hid hneg
    have Hm1 := Lib.hid (show n3 + 1 ≤ maxLen by simp only [maxLen]; omega)
    have Hm2 := Lib.hid (show (n3 + 1) * 24 ≤ 140737488355328 by omega)
    have Hi0 := Lib.hid hi0
    have Hz0 := Lib.hid hz0
    have Hz1 := Lib.hid hz1
    have Hz2 := Lib.hid hz2
    clear hra hr1 hone hba2 hneg hwx hE hEw hn hmb hob hev hi0 hz0 hz1 hz2
    go_region_law (refine step_append_any _ rfl (.tmp 16) (.tmp 32) 56 rfl 0 62 j0 _ 3 24 Try.underlying56 Hi0.out Hz0.out Hz1.out Hz2.out rfl (by omega) (.slice A3 n3 c3) n3 _ rfl Hra.out (wb.alloc (.cells #[.int .i64 (n2 : Int), .int .i64 (n : Int), .int .u64 (e1 : Int)] 62)).heap.size (some ⟨wb.heap.size, 0, none⟩) 1 1 [.int .i64 n2, .int .i64 n, .int .u64 e1] rfl Hr1.out Hone.out Hm1.out Hm2.out (Nat.zero_le _) ?_; intro v4 w4 hown4 hg4 hat; obtain ⟨A4, c4, rfl⟩ := own_shape hown4; have hb4 := Hba.out.grown hg4 (fun e => Hneg.out e.symm); have k1 : w4.cell? ⟨g, 2, none⟩ = _ := (hb4.cell 2).trans rfl; have k2 := hb4.frozen 2)
    all_goals
      have hfin := tr_append_marks (w0 := (wb.alloc (.cells #[.int .i64 (n2 : Int), .int .i64 (n : Int), .int .u64 (e1 : Int)] 62)).drew) HUP.out.1 HPC.out (n2, n, e1) (bone wb _).drew (by rw [HN3.out]; exact hg4) (A4 := A4) (c4 := c4) (by rw [HN3.out]; exact hown4) (by rw [HN3.out]; exact hat)
      rw [HN3.out] at hfin
      go_wp2_with fail
      go_meet
      case rel => exact hfin
  case rest =>
    clear p0 p1 p2 p3 P0 P1 P2 P3 hra hr1 hone hba2 hneg hwx
    have hL : Left w g F cs os (ms ++ [(n2, n, e1)]) e1 wc := ⟨hcut.1.mono fun k hk => hk.elim .inl fun hk => .inr (Nat.le_trans HUP.out.2.size hk), (HUP.out.2.mono fun q _ e => by rw [e]; exact HG.out).trans hcut.2 fun _ _ h => h⟩
    obtain ⟨B1, d1, B2, d2, B3, d3, _, _, _, hc⟩ := hcut.1.heads
    have q2 := (hc wc (Below.refl _ _)).2.2.1
    obtain ⟨n4, hn4⟩ : ∃ n4, n3 + 1 = n4 := ⟨_, rfl⟩
    rw [show (ms ++ [(n2, n, e1)]).length = n4 by simp [HN3.out]; exact hn4] at q2
    rw [← HN.out, ← HN2.out] at hL
    have W1 : (n4 : Int) - 1 = (n3 : Int) := by omega
    have HL := Lib.hid hL
    clear hL hc hcut hn4
    go_wp2_with fail
    go_ret
    exact ⟨rfl, HL.out⟩
end Go.Proofs.Ytgojncgdmcpkiaa.trl
