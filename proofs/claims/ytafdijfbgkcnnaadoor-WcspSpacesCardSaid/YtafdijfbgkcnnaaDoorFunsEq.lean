/- Functions alike, one by one. -/
import Derived.Test.YtafdijfbgkcnnaaDoorTpSame
import Derived.Test.YtafdijfbgkcnnaaDoorRight
namespace Go.Proofs.YtafdijfbgkcnnaaDoor.wcp
open Go Go.RowKit Go.ChangeShapes Go.WideShapes Go.ChangeAt Go.Maps Go.Proofs.YtafdijfbgkcnnaaDoor.words
set_option linter.unusedVariables false
set_option maxRecDepth 100000 in
set_option maxHeartbeats 8000000 in
theorem spcl_any {w : World} {F G : Nat → Prop} {va vb : Value} {r : Raw} {K : Int} (hx : FunV w F va r K) (hy : FunV w G vb r K) (hok : okF r K) :
    Calls Tryd.prog 24 #[va, vb] w fun e w' => e = .returned (.bool true) ∧ Below w.heap.size w w' := by
  obtain ⟨v1, tg, rfl, ⟨⟨A, c, rfl⟩, ho⟩, _, hT⟩ := hx
  obtain ⟨v2, tu, rfl, ⟨⟨B, d, rfl⟩, hp⟩, _, hU⟩ := hy
  have hlen : r.scope.length ≤ 9223372036854775807 := by have := hok.2.2.2.2.2.2.2; omega
  have hln : r.lines.length ≤ 1000000 := by have := hok.2.2.2.2.2.2.1; omega
  have hk := hok.tp r.lines
  have hb1 := bone w (.cells #[.slice A r.scope.length c, .pointer (some ⟨tg, 0, none⟩)] 55)
  have hb2 := bnew hb1 (.cells #[.slice B r.scope.length d, .pointer (some ⟨tu, 0, none⟩)] 55)
  have hx0 : Blk ((w.alloc (.cells #[.slice A r.scope.length c, .pointer (some ⟨tg, 0, none⟩)] 55)).alloc (.cells #[.slice B r.scope.length d, .pointer (some ⟨tu, 0, none⟩)] 55)) w.heap.size 55 #[.slice A r.scope.length c, .pointer (some ⟨tg, 0, none⟩)] := (Blk.new _ _ _).alloc _
  have hy0 : Blk ((w.alloc (.cells #[.slice A r.scope.length c, .pointer (some ⟨tg, 0, none⟩)] 55)).alloc (.cells #[.slice B r.scope.length d, .pointer (some ⟨tu, 0, none⟩)] 55)) (w.heap.size + 1) 55 #[.slice B r.scope.length d, .pointer (some ⟨tu, 0, none⟩)] := by
    have := Blk.new (w.alloc (.cells #[.slice A r.scope.length c, .pointer (some ⟨tg, 0, none⟩)] 55)) 55 #[.slice B r.scope.length d, .pointer (some ⟨tu, 0, none⟩)]
    rw [show (w.alloc (.cells #[.slice A r.scope.length c, .pointer (some ⟨tg, 0, none⟩)] 55)).heap.size = w.heap.size + 1 by simp] at this
    exact this
  go_enter Tryd.func24, Tryd.ntmps24
  go_upto_region 1 with fail
  obtain ⟨W, hW⟩ : ∃ W, ((w.alloc (.cells #[.slice A r.scope.length c, .pointer (some ⟨tg, 0, none⟩)] 55)).alloc (.cells #[.slice B r.scope.length d, .pointer (some ⟨tu, 0, none⟩)] 55)) = W := ⟨_, rfl⟩
  rw [hW] at hb2 hx0 hy0 ⊢
  have heq := equalI_any A B r.scope.length r.scope.length c d r.scope r.scope W hlen hlen (Reads.of_own (own_under ho hb2)) (Reads.of_own (own_under hp hb2))
  rw [show eqB r.scope r.scope = true from decide_eq_true rfl] at heq
  have HSAME := Lib.hid (fun (V : World) (hV : Below w.heap.size w V) => same_any (hT.keep (Tch.of_below hV (fun _ => False)) (fun _ _ h => h)) (hU.keep (Tch.of_below hV (fun _ => False)) (fun _ _ h => h)) hk hk hln hln rfl)
  have HCELL : Hid (∀ V : World, Below W.heap.size W V → V.cell? ⟨w.heap.size, 0, none⟩ = some (.slice A r.scope.length c) ∧ V.cell? ⟨w.heap.size, 1, none⟩ = some (.pointer (some ⟨tg, 0, none⟩)) ∧ V.cell? ⟨w.heap.size + 1, 0, none⟩ = some (.slice B r.scope.length d) ∧ V.cell? ⟨w.heap.size + 1, 1, none⟩ = some (.pointer (some ⟨tu, 0, none⟩))) := fun V hV =>
    ⟨(Blk.cell (Blk.under hx0 hV) 0).trans rfl, (Blk.cell (Blk.under hx0 hV) 1).trans rfl, (Blk.cell (Blk.under hy0 hV) 0).trans rfl, (Blk.cell (Blk.under hy0 hV) 1).trans rfl⟩
  obtain ⟨y0, y1, y2, y3⟩ := HCELL.out W (Below.refl _ _)
  have HB2 := Lib.hid hb2
  clear ho hp hT hU hb1 hb2 hx0 hy0 hW hk
  go_wp2_with fail
  refine heq.mono ?_
  rintro e w5 ⟨rfl, hb5⟩
  have hsm := HSAME.out w5 (bto HB2.out hb5)
  obtain ⟨z0, z1, z2, z3⟩ := HCELL.out w5 hb5
  have HK5 := Lib.hid hb5
  clear heq hb5 y0 y1 y2 y3
  go_wp2_with fail
  refine hsm.mono ?_
  rintro e w6 ⟨b, rfl, hbi, hb6⟩
  obtain rfl : b = true := hbi.2 ⟨rfl, rfl, fun _ _ => rfl, .inl rfl⟩
  have HK6 := Lib.hid (bto HK5.out hb6)
  clear hsm hbi hb6
  go_wp2_with fail
  go_ret
  exact ⟨rfl, bto HB2.out HK6.out⟩
set_option maxRecDepth 100000 in
set_option maxHeartbeats 8000000 in
theorem funseq_any {w : World} {g g2 : Nat} {f : Fil} {SA SB FA GA : Option Addr} {sc sd fc gc : Nat} {V U : List FT} (h : FilW w g f SA sc FA fc V) (h2 : FilW w g2 f SB sd GA gc U) (hok : OkFile f) :
    Calls Tryd.prog 23 #[.slice FA V.length fc, .slice GA U.length gc, .func (.func 24) #[] #[]] w fun e w' => e = .returned (.bool true) ∧ Below w.heap.size w w' := by
  have hVl : V.length = f.funs.length := by have := congrArg List.length h.1; simpa using this
  have hUl : U.length = f.funs.length := by have := congrArg List.length h2.1; simpa using this
  have hfl := hok.n
  have hagV : ∀ p ∈ V, ∃ a b, p.1 = .agg #[a, b] := fun p hp => by
    obtain ⟨v1, tg, e, _⟩ := h.2.2.2.2 p hp
    exact ⟨_, _, e⟩
  have hagU : ∀ p ∈ U, ∃ a b, p.1 = .agg #[a, b] := fun p hp => by
    obtain ⟨v1, tg, e, _⟩ := h2.2.2.2.2 p hp
    exact ⟨_, _, e⟩
  have HH := Lib.hid h
  have HI := Lib.hid h2
  have HOK := Lib.hid hok
  have HGV := Lib.hid hagV
  have HGU := Lib.hid hagU
  have HVL := Lib.hid hVl
  have HUL := Lib.hid hUl
  obtain ⟨m, hm⟩ : ∃ m, f.funs.length = m := ⟨_, rfl⟩
  rw [hVl, hUl, hm]
  rw [hm] at hfl
  have HM := Lib.hid hm
  clear h h2 hok hagV hagU hVl hUl hm
  go_enter Tryd.func23, Tryd.ntmps23
  go_wp2_with fail
  go_loopw [17] (fun jv wr => ∃ j : Nat, jv = .int .i64 j ∧ j ≤ m ∧ Below w.heap.size w wr) (fun jv _ => m - (intOf jv).toNat)
  case atStart => exact ⟨0, rfl, Nat.zero_le _, Below.refl _ _⟩
  case round =>
    obtain ⟨j, rfl, hj, hb⟩ := hrel
    by_cases hlt : j < m
    · obtain ⟨hV, -, -, hrowV, hfvV⟩ := HH.out.below hb
      obtain ⟨hU, -, -, hrowU, hfvU⟩ := HI.out.below hb
      obtain ⟨p, hp⟩ : ∃ p, V[j]? = some p := ⟨_, List.getElem?_eq_getElem (by have := HVL.out; have := HM.out; omega)⟩
      obtain ⟨q, hq⟩ : ∃ q, U[j]? = some q := ⟨_, List.getElem?_eq_getElem (by have := HUL.out; have := HM.out; omega)⟩
      have hpq : q.2.2.2 = p.2.2.2 := by
        have h1 : (V.map (·.2.2.2))[j]? = some p.2.2.2 := by rw [List.getElem?_map, hp]; rfl
        have h3 : (U.map (·.2.2.2))[j]? = some q.2.2.2 := by rw [List.getElem?_map, hq]; rfl
        rw [hV] at h1
        rw [hU, h1] at h3
        exact (Option.some.inj h3).symm
      have hfp := hfvV p (List.mem_of_getElem? hp)
      have hfq := hfvU q (List.mem_of_getElem? hq)
      rw [hpq] at hfq
      have hpx : p.2.2.2 ∈ f.funs := by rw [← hV]; exact List.mem_map_of_mem (List.mem_of_getElem? hp)
      have ho1 := (HOK.out.fs _ hpx).1
      obtain ⟨a, b, hab⟩ := HGV.out p (List.mem_of_getElem? hp)
      obtain ⟨a2, b2, hab2⟩ := HGU.out q (List.mem_of_getElem? hq)
      obtain ⟨pv, lo, hi, pf⟩ := p
      obtain ⟨qv, lo2, hi2, qf⟩ := q
      dsimp only at hab hab2 hfp hfq hpx ho1 hpq
      subst hab hab2 hpq
      obtain ⟨c0, c1⟩ := fc_at HGV.out hp
      obtain ⟨d0, d1⟩ := fc_at HGU.out hq
      obtain ⟨fq, rfl, _, _⟩ := own_some hrowV (by have := HVL.out; have := HM.out; omega)
      obtain ⟨gq, rfl, _, _⟩ := own_some hrowU (by have := HUL.out; have := HM.out; omega)
      have k0 := (hrowV.cellAt (j * 2) (by have := HVL.out; have := HM.out; omega)).trans c0
      have k1 := (hrowV.cellAt (j * 2 + 1) (by have := HVL.out; have := HM.out; omega)).trans c1
      have m0 := (hrowU.cellAt (j * 2) (by have := HUL.out; have := HM.out; omega)).trans d0
      have m1 := (hrowU.cellAt (j * 2 + 1) (by have := HUL.out; have := HM.out; omega)).trans d1
      have hcl := fun (W : World) (hW : Below wr.heap.size wr W) => spcl_any (hfp.off (S := fun _ => False) (Tch.of_below hW _) fun k h => h.elim) (hfq.off (S := fun _ => False) (Tch.of_below hW _) fun k h => h.elim) ho1
      have i0 : (0 : Int) ≤ (j : Int) := Int.natCast_nonneg _
      have i1 : (j : Int) < (m : Int) := by omega
      have HB := Lib.hid hb
      have hba := bnew (bone wr (.cells #[a, b] 55)) (.cells #[a2, b2] 55)
      have hc2 := hcl _ hba
      have HBA := Lib.hid hba
      obtain ⟨v1, tg, e1, ⟨⟨C1, k1', e2⟩, _⟩, _⟩ := hfp
      injection e1 with e1
      obtain ⟨rfl, rfl⟩ : a = v1 ∧ b = .pointer (some ⟨tg, 0, none⟩) := by simpa using e1
      subst e2
      obtain ⟨v2, tu, e3, ⟨⟨C2, k2', e4⟩, _⟩, _⟩ := hfq
      injection e3 with e3
      obtain ⟨rfl, rfl⟩ : a2 = v2 ∧ b2 = .pointer (some ⟨tu, 0, none⟩) := by simpa using e3
      subst e4
      clear hV hU hrowV hrowU hfvV hfvU hp hq c0 c1 d0 d1 hb e1 e3 hpx ho1 hcl hba
      go_wp2_with fail
      refine hc2.mono ?_
      rintro e w2 ⟨rfl, hb2⟩
      have HB2 := Lib.hid (bto HB.out (bto HBA.out hb2))
      clear hc2 hb2 k0 k1 m0 m1
      go_wp2_with fail
      go_roundw
      case measure => simp [intOf]; omega
      case rel => exact ⟨j + 1, by go_num, by omega, HB2.out⟩
    · obtain rfl : j = m := by omega
      have HB := Lib.hid hb
      clear hb
      go_wp2_with fail
      go_ret
      exact ⟨rfl, HB.out⟩
end Go.Proofs.YtafdijfbgkcnnaaDoor.wcp
