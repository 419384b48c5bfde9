/- ErrsLoop, ErrsBase. -/
import Derived.Test.YtjpkkkphhaajgaaGreatDoorQeTakes
import Derived.Test.YtjpkkkphhaajgaaGreatDoorQeP25
import Derived.Test.YtjpkkkphhaajgaaGreatDoorQeP30
import Derived.Test.YtjpkkkphhaajgaaGreatDoorQeP10
set_option linter.all false
namespace Go.Proofs.YtjpkkkphhaajgaaGreatDoor.wcp
open Go Go.RowKit Go.Shelf Go.ChangeShapes Go.WideShapes Go.ChangeAt Go.Maps Go.Proofs.YtjpkkkphhaajgaaGreatDoor.words Go.Proofs.YtjpkkkphhaajgaaGreatDoor.scn
def BaseS (f f2 : Fil) : Prop := f.name = f2.name ∧ f.k = f2.k ∧ f.sizes = f2.sizes ∧ f.funs.length = f2.funs.length
def UpS (f f2 : Fil) (j : Nat) : Prop := BaseS f f2 ∧ ∀ (i : Nat) x y, i < j → f.funs[i]? = some x → f2.funs[i]? = some y → FunS f.k x y
theorem upS_zero {f f2 : Fil} : UpS f f2 0 ↔ BaseS f f2 := ⟨fun h => h.1, fun h => ⟨h, fun i _ _ hi => absurd hi (Nat.not_lt_zero _)⟩⟩
theorem upS_all {f f2 : Fil} : UpS f f2 f.funs.length ↔ FilS f f2 := ⟨fun h => ⟨h.1.1, h.1.2.1, h.1.2.2.1, h.1.2.2.2, fun i x y hx hy => h.2 i x y (List.getElem?_eq_some_iff.1 hx).1 hx hy⟩, fun h => ⟨⟨h.1, h.2.1, h.2.2.1, h.2.2.2.1⟩, fun i x y _ hx hy => h.2.2.2.2 i x y hx hy⟩⟩
theorem upS_succ {f f2 : Fil} {j : Nat} {x y : Raw} (hx : f.funs[j]? = some x) (hy : f2.funs[j]? = some y) : UpS f f2 (j + 1) ↔ UpS f f2 j ∧ FunS f.k x y := by
 refine ⟨fun h => ⟨⟨h.1, fun i a b hi => h.2 i a b (by omega)⟩, h.2 j x y (by omega) hx hy⟩, fun h => ⟨h.1.1, fun i a b hi ha hb => ?_⟩⟩;rcases Nat.lt_succ_iff_lt_or_eq.1 hi with h1 | rfl
 ·exact h.1.2 i a b h1 ha hb
 ·rw [hx] at ha
  rw [hy] at hb
  cases ha
  cases hb
  exact h.2
theorem upS_no {f f2 : Fil} {j : Nat} (h : ¬ UpS f f2 j) : ¬ UpS f f2 (j + 1) := fun h' => h ⟨h'.1, fun i a b hi => h'.2 i a b (by omega)⟩
set_option maxRecDepth 1000000 in
set_option maxHeartbeats 8000000 in
theorem errs_loop {w wq : World} {gf gg : Nat} {f f2 : Fil} {SA FA SB GA : Option Addr} {sc fc sd gc : Nat} {V U : List FT} {y : List UInt8} {al : Bool} (hw : Below w.heap.size w wq) (h1 : FilW wq gf f SA sc FA fc V) (h2 : FilW wq gg f2 SB sd GA gc U) (ok1 : OkFile f) (ok2 : OkFile f2) (hal : al = true ↔ BaseS f f2) (hyl : y.length ≤ maxLen)
 {c0 c1 c3 c4 c5 c6 c7 c8 c10 c12 c14 c15 c16 c17 c18 c19 c20 c21 c22 c23 c24 c25 c26 c27 c28 c29 c30 c31 c32 c33 c34 c35 c36 c37 c38 c39 c40 c41 c42 c43 c44 c45 c46 c47 c48 c49 c50 c51 c52 c53 c54 c55 c56 c57 c58 c59 c60 c61 c62 c63 c64 c65 c66 c67 c68 c69 c70 c71 c72 c73 c74 c75 c76 c77 c78 c79 c80 c81 c82 c83 c84 c85 c86 c87 c88 c89 c90 c91 c92 c93 c94 c95 c96 c97 c98 c99 c100 c101 c102 c103 c104 c105 c106 c107 c108 c109 c110 c111 c112 c113 c114 c115 c116 c117 c118 c119 c120 c121 c122 c123 c124 c125 c126 c127 c128 c129 c130 c131 c132 c133 c134 c135 c136 c137 c138 c139 c140 c141 c142 c143 c144 c145 c146 c147 c148 c149 c150 c151 c152 c153 c154 c155 c156 c157 c158 c159 c160 c161 c162 c163 c164 c165 c166 c167 c168 c169 c170 c171 c172 c173 c174 c175 c176 c177 c178 c179 c180 c181 c182 c183 c184 c185 c186 c187 c188 c189 c190 c191 c192 c193 c194 c195 c196 c197 c198 c199 c200 : Value} :
 Code.wp Tryz.prog (sfx 7 ebody) (bodyPost Tryz.prog Tryz.f7 fun e w' => e = .returned (.bool true) ∧ Below w.heap.size w w') ⟨#[c0, c1, .string ⟨y.toArray⟩, c3, c4, c5, c6, c7, c8, .pointer (some ⟨gf, 0, none⟩), c10, .pointer (some ⟨gg, 0, none⟩), c12, .bool al, c14, c15, c16, c17, c18, c19, c20, c21, c22, c23, c24, c25, c26, c27, c28, c29, c30, c31, c32, c33, c34, c35, c36, c37, c38, c39, c40, c41, c42, c43, c44, c45, c46, c47, c48, c49, c50, c51, c52, c53, c54, c55, c56, c57, c58, c59, c60, c61, c62, c63, c64, c65, c66, c67, c68, c69, c70, c71, c72, c73, c74, c75, c76, c77, c78, c79, c80, c81, c82, c83, c84, c85, c86, c87, c88, c89, c90, c91, c92, c93, c94, c95, c96, c97, c98, c99, c100, c101, c102, c103, c104, c105, c106, c107, c108, c109, c110, c111, c112, c113, c114, c115, c116, c117, c118, c119, c120, c121, c122, c123, c124, c125, c126, c127, c128, c129, c130, c131, c132, c133, c134, c135, c136, c137, c138, c139, c140, c141, c142, c143, c144, c145, c146, c147, c148, c149, c150, c151, c152, c153, c154, c155, c156, c157, c158, c159, c160, c161, c162, c163, c164, c165, c166, c167, c168, c169, c170, c171, c172, c173, c174, c175, c176, c177, c178, c179, c180, c181, c182, c183, c184, c185, c186, c187, c188, c189, c190, c191, c192, c193, c194, c195, c196, c197, c198, c199, c200], []⟩ wq := by
 have hVl : V.length = f.funs.length := by have := congrArg List.length h1.1; simpa using this
 obtain ⟨m, hm⟩ : ∃ m, V.length = m := ⟨_, rfl⟩;have hml : m ≤ 256 := by have := ok1.n; omega
 have hx := Blk.four (t := 34) h1.2.1;rw [hm] at hx;obtain ⟨q0, q1, q2, q3, -⟩ := hx;have H1 := Hd h1;have H2 := Hd h2;have OK1 := Hd ok1;have OK2 := Hd ok2;have HW := Hd hw;have HAL := Hd hal;have HVL := Hd hVl;have HM := Hd hm;clear h1 h2 ok1 ok2 hw hal hVl hm
 conv => arg 2; whnf
 go_wp2_with fail;clear q0 q1 q2 q3
 go_loopw [13, 108] (fun av jv wr => ∃ (j : Nat) (b : Bool), av = .bool b ∧ jv = .int .i64 j ∧ j ≤ m ∧ Hid (b = true ↔ UpS f f2 j) ∧ Hid (Below wq.heap.size wq wr)) (fun _ jv _ => m - (intOf jv).toNat)
 case atStart => exact ⟨0, al, rfl, rfl, Nat.zero_le _, Hd (HAL.out.trans upS_zero.symm), Hd (Below.refl _ _)⟩
 case round =>
  obtain ⟨j, b, rfl, rfl, hj, hup, hb⟩ := hrel;by_cases hlt : j < m
  ·have i0 : (0 : Int) ≤ (j : Int) := Int.natCast_nonneg _
   have i1 : (j : Int) < (m : Int) := by omega
   go_upto_region 13 with fail;obtain ⟨w0, hwd⟩ : ∃ w0, wr.drew = w0 := ⟨_, rfl⟩;have hb0 : Below wq.heap.size wq w0 := by rw [← hwd]; exact hb.out.drew
   have HB0 := Hd hb0
   cases b with
   | false =>
     have HNO : Hid (¬ UpS f f2 (j + 1)) := Hd (upS_no fun h => by have h1 := hup.out; simp [h] at h1);refine wp_region_held_drew (S := (fun W => True)) (by kernel_rfl) trivial (fun hHeld => ?_);rw [hwd];clear hwd hb0 hup;refine takes [0, 1, 2, 3, 4, 5, 6, 7, 8, 9, 10, 11, 12, 13, 14, 15, 16, 17] hHeld (by kernel_rfl) (fun _ _ _ _ _ h => h) ?_
     iterate 2
      conv => whnf
      refine ⟨?_, .inl ⟨by kernel_rfl, fun w hSw => ?_⟩, ?_⟩
      rotate_left
      ·(try dsimp only at hSw); go_simp; try with_reducible rfl
      try simp only [Act.put, List.setIfInBounds_toArray, List.set_cons_zero, List.set_cons_succ]
     iterate 16
      conv => whnf
      refine ⟨_, .inr ⟨by kernel_rfl, rfl⟩, ?_⟩
      try simp only [Act.put, List.setIfInBounds_toArray, List.set_cons_zero, List.set_cons_succ]
     refine Yt.nil ?_;refine wpAnyH_ready (rs := [18]) (by kernel_rfl) (by simp) ?_;refine AllReadyH.cons rfl (fun Kc hKc => ?_) AllReadyH.nil;go_simp;refine hKc.out _ _ trivial (fun hHy => ?_);clear hKc Kc;refine takes [19, 20, 21, 22, 23, 24, 25, 26, 27, 28, 29, 30, 31, 32, 33, 34, 35, 36] hHy (by kernel_rfl) (fun _ _ _ _ _ h => h) ?_
     iterate 2
      conv => whnf
      refine ⟨?_, .inl ⟨by kernel_rfl, fun w hSw => ?_⟩, ?_⟩
      rotate_left
      ·(try dsimp only at hSw); go_simp; try with_reducible rfl
      try simp only [Act.put, List.setIfInBounds_toArray, List.set_cons_zero, List.set_cons_succ]
     iterate 16
      conv => whnf
      refine ⟨_, .inr ⟨by kernel_rfl, rfl⟩, ?_⟩
      try simp only [Act.put, List.setIfInBounds_toArray, List.set_cons_zero, List.set_cons_succ]
     refine Yt.nil ?_;refine wpAnyH_ready (rs := [37]) (by kernel_rfl) (by simp) ?_;refine AllReadyH.cons rfl (fun Kc hKc => ?_) AllReadyH.nil;go_simp;refine hKc.out _ _ trivial (fun hHz => ?_);clear hKc Kc;refine takes [38, 39] hHz (by kernel_rfl) (fun _ _ _ _ _ h => h) ?_
     iterate 2
      conv => whnf
      refine ⟨?_, .inl ⟨by kernel_rfl, fun w hSw => ?_⟩, ?_⟩
      rotate_left
      ·(try dsimp only at hSw); go_simp; try with_reducible rfl
      try simp only [Act.put, List.setIfInBounds_toArray, List.set_cons_zero, List.set_cons_succ]
     refine Yt.nil ?_;refine wpAnyH_done (by kernel_rfl) ?_ _;go_simp
     try go_wp2_with fail
     go_roundw
     case measure => simp [intOf]; omega
     case rel => exact ⟨j + 1, false, rfl, by go_num, by omega, Hd ⟨fun h => by simp at h, fun h => absurd h HNO.out⟩, Hd HB0.out⟩
   | true =>
     have hupj : UpS f f2 j := hup.out.1 rfl
     have hUl : U.length = m := by
      have h3 := congrArg List.length H2.out.1;have h4 := hupj.1.2.2.2;have h5 := HM.out;have h6 := HVL.out;simp at h3;omega
     have HUPJ := Hd hupj;obtain ⟨hVm, hBf, -, hrow, hfv⟩ := H1.out.below hb0;obtain ⟨hUm, hBg, -, hrowU, hfu⟩ := H2.out.below hb0;obtain ⟨p, hp⟩ : ∃ p, V[j]? = some p := ⟨_, List.getElem?_eq_getElem (by have := HM.out; omega)⟩;obtain ⟨q, hq⟩ : ∃ q, U[j]? = some q := ⟨_, List.getElem?_eq_getElem (by omega)⟩
     have hagV : ∀ p ∈ V, ∃ a b, p.1 = .agg #[a, b] := fun p hp => by
      obtain ⟨v1, tg, e, _⟩ := hfv p hp;exact ⟨_, _, e⟩
     have hagU : ∀ p ∈ U, ∃ a b, p.1 = .agg #[a, b] := fun p hp => by
      obtain ⟨v1, tg, e, _⟩ := hfu p hp;exact ⟨_, _, e⟩
     have hfx : f.funs[j]? = some p.2.2.2 := by rw [← hVm, List.getElem?_map, hp]; rfl
     have hfy : f2.funs[j]? = some q.2.2.2 := by rw [← hUm, List.getElem?_map, hq]; rfl
     have hfp := hfv p (List.mem_of_getElem? hp);have hfq := hfu q (List.mem_of_getElem? hq);have o1 := OK1.out.fs _ (List.mem_of_getElem? hfx);have o2 := OK2.out.fs _ (List.mem_of_getElem? hfy);rw [← hupj.1.2.1] at hfq o2
     have hsz : p.2.2.2.scope = q.2.2.2.scope → p.2.2.2.sizes = q.2.2.2.sizes := fun he => by
      rw [o1.2.1.2.2, o2.2.1.2.2, he, hupj.1.2.2.1]
     obtain ⟨pv, lo, hi, r⟩ := p;obtain ⟨qv, lo2, hi2, r'⟩ := q;dsimp only at hfp hfq hfx hfy o1 o2 hsz;obtain ⟨v1, tg, rfl, ⟨⟨C1, k1, rfl⟩, hcs⟩, -, hT⟩ := hfp;obtain ⟨v2, tu, rfl, ⟨⟨C2, k2, rfl⟩, hds⟩, -, hT2⟩ := hfq;obtain ⟨x0, x1⟩ := fc_at hagV hp;obtain ⟨y0, y1⟩ := fc_at hagU hq;obtain ⟨fb, rfl, -, -⟩ := own_some hrow (by have := HM.out; omega);obtain ⟨gb, rfl, -, -⟩ := own_some hrowU (by omega);rw [HM.out] at hrow hBf;rw [hUl] at hrowU hBg;have c0 := (hrow.cellAt (j * 2) (by omega)).trans x0;have c1 := (hrow.cellAt (j * 2 + 1) (by omega)).trans x1;have d0 := (hrowU.cellAt (j * 2) (by omega)).trans y0;have d1 := (hrowU.cellAt (j * 2 + 1) (by omega)).trans y1;have hs0 := And.intro (Blk.four (t := 34) hBf).2.2.2.1 (And.intro (Blk.four (t := 34) hBg).2.2.2.1 (And.intro c0 (And.intro c1 (And.intro d0 d1))))
     have HC : Hid (∀ W, Below w0.heap.size w0 W → W.cell? ⟨gf, 3, none⟩ = some (.slice (some ⟨fb, 0, none⟩) m fc) ∧ W.cell? ⟨gg, 3, none⟩ = some (.slice (some ⟨gb, 0, none⟩) m gc) ∧ W.cell? ⟨fb, j * 2, none⟩ = some (.slice C1 r.scope.length k1) ∧ W.cell? ⟨fb, j * 2 + 1, none⟩ = some (.pointer (some ⟨tg, 0, none⟩)) ∧ W.cell? ⟨gb, j * 2, none⟩ = some (.slice C2 r'.scope.length k2) ∧ W.cell? ⟨gb, j * 2 + 1, none⟩ = some (.pointer (some ⟨tu, 0, none⟩))) := Hd (fun W hW => by
      have a1 := own_under hrow hW;have a2 := own_under hrowU hW;have b0 := (a1.cellAt (j * 2) (by omega)).trans x0;have b1 := (a1.cellAt (j * 2 + 1) (by omega)).trans x1;have b2 := (a2.cellAt (j * 2) (by omega)).trans y0;have b3 := (a2.cellAt (j * 2 + 1) (by omega)).trans y1
      exact ⟨(Blk.four (t := 34) (Blk.under hBf hW)).2.2.2.1, (Blk.four (t := 34) (Blk.under hBg hW)).2.2.2.1, b0, b1, b2, b3⟩)
     have heq := equalI_any C1 C2 r.scope.length r'.scope.length k1 k2 r.scope r'.scope w0 (by have := o1.1.2.2.2.2.2.2.2; omega) (by have := o2.1.2.2.2.2.2.2.2; omega) (Reads.of_own hcs) (Reads.of_own hds);obtain ⟨s, hs⟩ : ∃ s, eqB r.scope r'.scope = s := ⟨_, rfl⟩;have HSQ : Hid (s = true ↔ r.scope = r'.scope) := Hd (by rw [← hs]; exact ⟨fun h => of_decide_eq_true h, fun h => decide_eq_true h⟩);rw [hs] at heq;have HSAME := Hd (fun (W : World) (hW : Below w0.heap.size w0 W) (he : r.scope = r'.scope) => same_any (hT.keep (Tch.of_below hW (fun _ => False)) (fun _ _ h => h)) (hT2.keep (Tch.of_below hW (fun _ => False)) (fun _ _ h => h)) (o1.1.tp r.lines) (o2.1.tp r'.lines) (by have := o1.1.2.2.2.2.2.2.1; omega) (by have := o2.1.2.2.2.2.2.2.1; omega) (by rw [(tpOf_same _ _ _).1, (tpOf_same _ _ _).1]; exact hsz he));have HEQ := Hd heq;have HSU := Hd (upS_succ hfx hfy);have hs0 := HC.out w0 (Below.refl _ _);clear hupj hup hVm hBf hrow hfv hUm hBg hrowU hfu hp hq hagV hagU hfx hfy hsz hcs hT hds hT2 x0 x1 y0 y1 c0 c1 d0 d1 o1 o2 heq hs hb0;refine wp_region_held_drew (S := (fun W => W.cell? ⟨gf, 3, none⟩ = some (.slice (some ⟨fb, 0, none⟩) m fc) ∧ W.cell? ⟨gg, 3, none⟩ = some (.slice (some ⟨gb, 0, none⟩) m gc) ∧ W.cell? ⟨fb, j * 2, none⟩ = some (.slice C1 r.scope.length k1) ∧ W.cell? ⟨fb, j * 2 + 1, none⟩ = some (.pointer (some ⟨tg, 0, none⟩)) ∧ W.cell? ⟨gb, j * 2, none⟩ = some (.slice C2 r'.scope.length k2) ∧ W.cell? ⟨gb, j * 2 + 1, none⟩ = some (.pointer (some ⟨tu, 0, none⟩)))) (by kernel_rfl) (by rw [hwd]; exact hs0) (fun hHeld => ?_);rw [hwd] at hHeld ⊢;clear hwd;refine takes [0, 1, 2, 3, 4, 5, 6, 7, 8, 9, 10, 11, 12, 13, 14, 15, 16, 17] hHeld (by kernel_rfl) (fun _ _ _ _ _ h => h) ?_
     iterate 18
      conv => whnf
      refine ⟨?_, .inl ⟨by kernel_rfl, fun w hSw => ?_⟩, ?_⟩
      rotate_left
      ·(try dsimp only at hSw); go_simp; try with_reducible rfl
      try simp only [Act.put, List.setIfInBounds_toArray, List.set_cons_zero, List.set_cons_succ]
     refine Yt.nil ?_;refine wpAnyH_ready (rs := [18]) (by kernel_rfl) (by simp) ?_;refine AllReadyH.cons rfl (fun Kc hKc => ?_) AllReadyH.nil;go_simp;refine HEQ.out.mono ?_;rintro e wa ⟨rfl, hba⟩;dsimp only;have HBA := Hd hba;have hsa := HC.out wa hba;refine hKc.out _ _ hsa (fun hHa => ?_);clear hKc Kc hba
     cases s with
     | false =>
       have HNO : Hid (¬ UpS f f2 (j + 1)) := Hd (fun h => by have h1 := (HSU.out.1 h).2.1; have h2 := HSQ.out; simp [h1] at h2);refine takes [19, 20, 21, 22, 23, 24, 25, 26, 27, 28, 29, 30, 31, 32, 33, 34, 35, 36] hHa (by kernel_rfl) (fun _ _ _ _ _ h => h) ?_
       iterate 2
        conv => whnf
        refine ⟨?_, .inl ⟨by kernel_rfl, fun w hSw => ?_⟩, ?_⟩
        rotate_left
        ·(try dsimp only at hSw); go_simp; try with_reducible rfl
        try simp only [Act.put, List.setIfInBounds_toArray, List.set_cons_zero, List.set_cons_succ]
       iterate 16
        conv => whnf
        refine ⟨_, .inr ⟨by kernel_rfl, rfl⟩, ?_⟩
        try simp only [Act.put, List.setIfInBounds_toArray, List.set_cons_zero, List.set_cons_succ]
       refine Yt.nil ?_;refine wpAnyH_ready (rs := [37]) (by kernel_rfl) (by simp) ?_;refine AllReadyH.cons rfl (fun Kc hKc => ?_) AllReadyH.nil;go_simp;refine hKc.out _ _ hsa (fun hHz => ?_);clear hKc Kc;refine takes [38, 39] hHz (by kernel_rfl) (fun _ _ _ _ _ h => h) ?_
       iterate 2
        conv => whnf
        refine ⟨?_, .inl ⟨by kernel_rfl, fun w hSw => ?_⟩, ?_⟩
        rotate_left
        ·(try dsimp only at hSw); go_simp; try with_reducible rfl
        try simp only [Act.put, List.setIfInBounds_toArray, List.set_cons_zero, List.set_cons_succ]
       refine Yt.nil ?_;refine wpAnyH_done (by kernel_rfl) ?_ _;go_simp
       try go_wp2_with fail
       go_roundw
       case measure => simp [intOf]; omega
       case rel => exact ⟨j + 1, false, rfl, by go_num, by omega, Hd ⟨fun h => by simp at h, fun h => absurd h HNO.out⟩, Hd (bto HB0.out HBA.out)⟩
     | true =>
       have hsm := HSAME.out wa HBA.out (HSQ.out.1 rfl);refine takes [19, 20, 21, 22, 23, 24, 25, 26, 27, 28, 29, 30, 31, 32, 33, 34, 35, 36] hHa (by kernel_rfl) (fun _ _ _ _ _ h => h) ?_
       iterate 18
        conv => whnf
        refine ⟨?_, .inl ⟨by kernel_rfl, fun w hSw => ?_⟩, ?_⟩
        rotate_left
        ·(try dsimp only at hSw); go_simp; try with_reducible rfl
        try simp only [Act.put, List.setIfInBounds_toArray, List.set_cons_zero, List.set_cons_succ]
       refine Yt.nil ?_;refine wpAnyH_ready (rs := [37]) (by kernel_rfl) (by simp) ?_;refine AllReadyH.cons rfl (fun Kc hKc => ?_) AllReadyH.nil;go_simp;refine hsm.mono ?_;rintro e wb ⟨b, rfl, hbi, hbb⟩;dsimp only;have HBB := Hd (bto HBA.out hbb);have HBI := Hd hbi;refine hKc.out _ _ (HC.out wb HBB.out) (fun hHb => ?_);clear hKc Kc hbb hbi hsm;have HR : Hid (b = true ↔ UpS f f2 (j + 1)) := Hd (HBI.out.trans (⟨fun h => HSU.out.2 ⟨HUPJ.out, HSQ.out.1 rfl, h⟩, fun h => (HSU.out.1 h).2.2⟩));refine takes [38, 39] hHb (by kernel_rfl) (fun _ _ _ _ _ h => h) ?_
       iterate 2
        conv => whnf
        refine ⟨?_, .inl ⟨by kernel_rfl, fun w hSw => ?_⟩, ?_⟩
        rotate_left
        ·(try dsimp only at hSw); go_simp; try with_reducible rfl
        try simp only [Act.put, List.setIfInBounds_toArray, List.set_cons_zero, List.set_cons_succ]
       refine Yt.nil ?_;refine wpAnyH_done (by kernel_rfl) ?_ _;go_simp
       try go_wp2_with fail
       go_roundw
       case measure => simp [intOf]; omega
       case rel => exact ⟨j + 1, b, rfl, by go_num, by omega, HR, Hd (bto HB0.out HBB.out)⟩
  ·obtain rfl : j = m := by omega
   have hup2 : b = true ↔ FilS f f2 := by
    have h1 := hup.out;rw [← HM.out, HVL.out] at h1;exact h1.trans upS_all
   repeat (first | (exact errs_end (bto HW.out hb.out) (H1.out.below hb.out) (H2.out.below hb.out) OK1.out OK2.out hup2 hyl) | go_step | dsimp only)
set_option maxRecDepth 1000000 in
set_option maxHeartbeats 8000000 in
theorem errs_base {w wq : World} {gf gg gx gy B1 B2 : Nat} {f f2 : Fil} {SA FA SB GA : Option Addr} {sc fc sd gc : Nat} {V U : List FT} {y : List UInt8} (hw : Below w.heap.size w wq) (h1 : FilW wq gf f SA sc FA fc V) (h2 : FilW wq gg f2 SB sd GA gc U) (hq1 : QFileV wq B1 gx f) (hq2 : QFileV wq B2 gy f2) (ok1 : OkFile f) (ok2 : OkFile f2) (hyl : y.length ≤ maxLen)
 {c0 c1 c3 c4 c5 c6 c7 c8 c13 c14 c15 c16 c17 c18 c19 c20 c21 c22 c23 c24 c25 c26 c27 c28 c29 c30 c31 c32 c33 c34 c35 c36 c37 c38 c39 c40 c41 c42 c43 c44 c45 c46 c47 c48 c49 c50 c51 c52 c53 c54 c55 c56 c57 c58 c59 c60 c61 c62 c63 c64 c65 c66 c67 c68 c69 c70 c71 c72 c73 c74 c75 c76 c77 c78 c79 c80 c81 c82 c83 c84 c85 c86 c87 c88 c89 c90 c91 c92 c93 c94 c95 c96 c97 c98 c99 c100 c101 c102 c103 c104 c105 c106 c107 c108 c109 c110 c111 c112 c113 c114 c115 c116 c117 c118 c119 c120 c121 c122 c123 c124 c125 c126 c127 c128 c129 c130 c131 c132 c133 c134 c135 c136 c137 c138 c139 c140 c141 c142 c143 c144 c145 c146 c147 c148 c149 c150 c151 c152 c153 c154 c155 c156 c157 c158 c159 c160 c161 c162 c163 c164 c165 c166 c167 c168 c169 c170 c171 c172 c173 c174 c175 c176 c177 c178 c179 c180 c181 c182 c183 c184 c185 c186 c187 c188 c189 c190 c191 c192 c193 c194 c195 c196 c197 c198 c199 c200 : Value} :
 Code.wp Tryz.prog (sfx 6 ebody) (bodyPost Tryz.prog Tryz.f7 fun e w' => e = .returned (.bool true) ∧ Below w.heap.size w w') ⟨#[c0, c1, .string ⟨y.toArray⟩, c3, c4, c5, c6, c7, c8, .pointer (some ⟨gf, 0, none⟩), .pointer (some ⟨gx, 0, none⟩), .pointer (some ⟨gg, 0, none⟩), .pointer (some ⟨gy, 0, none⟩), c13, c14, c15, c16, c17, c18, c19, c20, c21, c22, c23, c24, c25, c26, c27, c28, c29, c30, c31, c32, c33, c34, c35, c36, c37, c38, c39, c40, c41, c42, c43, c44, c45, c46, c47, c48, c49, c50, c51, c52, c53, c54, c55, c56, c57, c58, c59, c60, c61, c62, c63, c64, c65, c66, c67, c68, c69, c70, c71, c72, c73, c74, c75, c76, c77, c78, c79, c80, c81, c82, c83, c84, c85, c86, c87, c88, c89, c90, c91, c92, c93, c94, c95, c96, c97, c98, c99, c100, c101, c102, c103, c104, c105, c106, c107, c108, c109, c110, c111, c112, c113, c114, c115, c116, c117, c118, c119, c120, c121, c122, c123, c124, c125, c126, c127, c128, c129, c130, c131, c132, c133, c134, c135, c136, c137, c138, c139, c140, c141, c142, c143, c144, c145, c146, c147, c148, c149, c150, c151, c152, c153, c154, c155, c156, c157, c158, c159, c160, c161, c162, c163, c164, c165, c166, c167, c168, c169, c170, c171, c172, c173, c174, c175, c176, c177, c178, c179, c180, c181, c182, c183, c184, c185, c186, c187, c188, c189, c190, c191, c192, c193, c194, c195, c196, c197, c198, c199, c200], []⟩ wq := by
 obtain ⟨vz1, vf1, V1, hV1, hbx, ⟨⟨ZA, zc, rfl⟩, hz1⟩, ⟨XA, xc, rfl⟩, -, -⟩ := hq1;obtain ⟨vz2, vf2, V2, hV2, hby, ⟨⟨ZB, zd, rfl⟩, hz2⟩, ⟨XB, xd, rfl⟩, -, -⟩ := hq2;have hl1 : V1.length = f.funs.length := by have := congrArg List.length hV1; simpa using this
 have hl2 : V2.length = f2.funs.length := by have := congrArg List.length hV2; simpa using this
 obtain ⟨lv, hlv⟩ : ∃ lv, V1.length = lv := ⟨_, rfl⟩;obtain ⟨lu, hlu⟩ : ∃ lu, V2.length = lu := ⟨_, rfl⟩;obtain ⟨ls, hls⟩ : ∃ ls, f.sizes.length = ls := ⟨_, rfl⟩;obtain ⟨lz, hlz⟩ : ∃ lz, f2.sizes.length = lz := ⟨_, rfl⟩;obtain ⟨n1, hnm⟩ : ∃ nm, (⟨f.name.toArray⟩ : ByteArray) = nm := ⟨_, rfl⟩;obtain ⟨n2, hnm2⟩ : ∃ nm, (⟨f2.name.toArray⟩ : ByteArray) = nm := ⟨_, rfl⟩;obtain ⟨fk, hfk⟩ : ∃ k, f.k = k := ⟨_, rfl⟩;obtain ⟨fk2, hfk2⟩ : ∃ k, f2.k = k := ⟨_, rfl⟩;have heq := fun (W : World) (hW : Below wq.heap.size wq W) => equal64_any ZA ZB f.sizes.length f2.sizes.length zc zd f.sizes f2.sizes W (by have := ok1.s2; omega) (by have := ok2.s2; omega) (Reads.of_own (own_under hz1 hW)) (Reads.of_own (own_under hz2 hW))
 have hx := fun (W : World) (hW : Below wq.heap.size wq W) => Blk.four (t := 49) (Blk.under hbx hW)
 have hy := fun (W : World) (hW : Below wq.heap.size wq W) => Blk.four (t := 49) (Blk.under hby hW)
 rw [hlv, hls, show strV f.name = .string n1 from congrArg Value.string hnm, hfk] at hx;rw [hlu, hlz, show strV f2.name = .string n2 from congrArg Value.string hnm2, hfk2] at hy;rw [hls, hlz] at heq;obtain ⟨q, hq⟩ : ∃ q, eqB f.sizes f2.sizes = q := ⟨_, rfl⟩;rw [hq] at heq;have HQ : Hid (q = true ↔ f.sizes = f2.sizes) := by rw [← hq]; exact ⟨fun h => of_decide_eq_true h, fun h => decide_eq_true h⟩
 have HK : Hid (f.k = fk ∧ f2.k = fk2) := ⟨hfk, hfk2⟩;have HL : Hid (lv = f.funs.length ∧ lu = f2.funs.length) := ⟨hlv ▸ hl1, hlu ▸ hl2⟩;have HX := Hd hx;have HY := Hd hy;have HE := Hd heq;have HN : Hid (n1.toList = f.name ∧ n2.toList = f2.name) := by rw [← hnm, ← hnm2, ba_toList, ba_toList]; exact ⟨by simp, by simp⟩
 have H1 := Hd h1;have H2 := Hd h2;have OK1 := Hd ok1;have OK2 := Hd ok2;have HW := Hd hw;clear h1 h2 ok1 ok2 hw hlv hlu hls hlz hfk hfk2 hnm hnm2 hx hy heq hq hl1 hl2 hz1 hz2 hbx hby hV1 hV2
 conv => arg 2; whnf
 go_upto_region 9 with fail;obtain ⟨w0, hwd⟩ : ∃ w0, wq.drew = w0 := ⟨_, rfl⟩;have hb0 : Below wq.heap.size wq w0 := by rw [← hwd]; exact (Below.refl _ _).drew
 have HB0 := Hd hb0
 have HC : Hid (∀ W, Below wq.heap.size wq W → W.cell? ⟨gx, 0, none⟩ = some (.string n1) ∧ W.cell? ⟨gx, 1, none⟩ = some (.int .i64 fk) ∧ W.cell? ⟨gx, 2, none⟩ = some (.slice ZA ls zc) ∧ W.cell? ⟨gx, 3, none⟩ = some (.slice XA lv xc) ∧ W.cell? ⟨gy, 0, none⟩ = some (.string n2) ∧ W.cell? ⟨gy, 1, none⟩ = some (.int .i64 fk2) ∧ W.cell? ⟨gy, 2, none⟩ = some (.slice ZB lz zd) ∧ W.cell? ⟨gy, 3, none⟩ = some (.slice XB lu xd)) := Hd (fun W hW => by
  obtain ⟨a0, a1, a2, a3, -⟩ := HX.out W hW;obtain ⟨b0, b1, b2, b3, -⟩ := HY.out W hW
  exact ⟨a0, a1, a2, a3, b0, b1, b2, b3⟩)
 refine wp_region_held_drew (S := (fun W => W.cell? ⟨gx, 0, none⟩ = some (.string n1) ∧ W.cell? ⟨gx, 1, none⟩ = some (.int .i64 fk) ∧ W.cell? ⟨gx, 2, none⟩ = some (.slice ZA ls zc) ∧ W.cell? ⟨gx, 3, none⟩ = some (.slice XA lv xc) ∧ W.cell? ⟨gy, 0, none⟩ = some (.string n2) ∧ W.cell? ⟨gy, 1, none⟩ = some (.int .i64 fk2) ∧ W.cell? ⟨gy, 2, none⟩ = some (.slice ZB lz zd) ∧ W.cell? ⟨gy, 3, none⟩ = some (.slice XB lu xd))) (by kernel_rfl) (by rw [hwd]; exact HC.out w0 hb0) (fun hHeld => ?_);rw [hwd] at hHeld ⊢;clear hwd hb0;have hs0 := HC.out w0 HB0.out;refine takes [0, 1, 2, 3, 4, 5, 6, 7, 8] hHeld (by kernel_rfl) (fun _ _ _ _ _ h => h) ?_
 iterate 9
  conv => whnf
  refine ⟨?_, .inl ⟨by kernel_rfl, fun w hSw => ?_⟩, ?_⟩
  rotate_left
  ·(try dsimp only at hSw); go_simp; try with_reducible rfl
  try simp only [Act.put, List.setIfInBounds_toArray, List.set_cons_zero, List.set_cons_succ]
 refine Yt.nil ?_;by_cases hn : n1.toList = n2.toList
 rotate_left
 ·have e9 : (n1.toList == n2.toList) = false := by simp [hn]
  have HNO : Hid (¬ BaseS f f2) := Hd (fun h => hn (by have h1 := HN.out; rw [h1.1, h1.2, h.1]));refine takes [9, 10, 11, 12, 13, 14, 15, 16, 17, 18, 19, 20, 21, 22, 23, 24, 25, 26, 27, 28] hHeld (by kernel_rfl) (fun _ _ _ _ _ h => h) ?_
  iterate 1
   conv => whnf
   refine ⟨?_, .inl ⟨by kernel_rfl, fun w hSw => ?_⟩, ?_⟩
   rotate_left
   ·(try dsimp only at hSw); go_simp; try with_reducible rfl
   try simp only [Act.put, List.setIfInBounds_toArray, List.set_cons_zero, List.set_cons_succ]
  iterate 9
   conv => whnf
   refine ⟨_, .inr ⟨by kernel_rfl, rfl⟩, ?_⟩
   try simp only [Act.put, List.setIfInBounds_toArray, List.set_cons_zero, List.set_cons_succ]
  iterate 2
   conv => whnf
   refine ⟨?_, .inl ⟨by kernel_rfl, fun w hSw => ?_⟩, ?_⟩
   rotate_left
   ·(try dsimp only at hSw); go_simp; try with_reducible rfl
   try simp only [Act.put, List.setIfInBounds_toArray, List.set_cons_zero, List.set_cons_succ]
  iterate 8
   conv => whnf
   refine ⟨_, .inr ⟨by kernel_rfl, rfl⟩, ?_⟩
   try simp only [Act.put, List.setIfInBounds_toArray, List.set_cons_zero, List.set_cons_succ]
  refine Yt.nil ?_;refine wpAnyH_ready (rs := [29]) (by kernel_rfl) (by simp) ?_;refine AllReadyH.cons rfl (fun Kc hKc => ?_) AllReadyH.nil;go_simp;refine hKc.out _ _ hs0 (fun hHeldz => ?_);clear hKc Kc;refine takes [30, 31, 32, 33, 34, 35, 36, 37, 38, 39, 40, 41, 42, 43, 44] hHeldz (by kernel_rfl) (fun _ _ _ _ _ h => h) ?_
  iterate 2
   conv => whnf
   refine ⟨?_, .inl ⟨by kernel_rfl, fun w hSw => ?_⟩, ?_⟩
   rotate_left
   ·(try dsimp only at hSw); go_simp; try with_reducible rfl
   try simp only [Act.put, List.setIfInBounds_toArray, List.set_cons_zero, List.set_cons_succ]
  iterate 11
   conv => whnf
   refine ⟨_, .inr ⟨by kernel_rfl, rfl⟩, ?_⟩
   try simp only [Act.put, List.setIfInBounds_toArray, List.set_cons_zero, List.set_cons_succ]
  iterate 2
   conv => whnf
   refine ⟨?_, .inl ⟨by kernel_rfl, fun w hSw => ?_⟩, ?_⟩
   rotate_left
   ·(try dsimp only at hSw); go_simp; try with_reducible rfl
   try simp only [Act.put, List.setIfInBounds_toArray, List.set_cons_zero, List.set_cons_succ]
  refine Yt.nil ?_;have hal : false = true ↔ BaseS f f2 := ⟨fun h => by simp at h, fun h => absurd h HNO.out⟩;refine wpAnyH_done (by kernel_rfl) ?_ _;go_simp
  repeat (first | (exact errs_loop (bto HW.out HB0.out) (H1.out.below HB0.out) (H2.out.below HB0.out) OK1.out OK2.out hal hyl) | go_step | dsimp only)
 have e9 : (n1.toList == n2.toList) = true := by simp [hn]
 have HNT : Hid (f.name = f2.name) := Hd (by have h1 := HN.out; rw [← h1.1, ← h1.2, hn]);refine takes [9, 10, 11, 12, 13, 14, 15, 16, 17] hHeld (by kernel_rfl) (fun _ _ _ _ _ h => h) ?_
 iterate 9
  conv => whnf
  refine ⟨?_, .inl ⟨by kernel_rfl, fun w hSw => ?_⟩, ?_⟩
  rotate_left
  ·(try dsimp only at hSw); go_simp; try with_reducible rfl
  try simp only [Act.put, List.setIfInBounds_toArray, List.set_cons_zero, List.set_cons_succ]
 refine Yt.nil ?_;by_cases hk : fk = fk2
 rotate_left
 ·have e18 : (fk == fk2) = false := by simp [hk]
  have HNO : Hid (¬ BaseS f f2) := Hd (fun h => hk (by have h1 := HK.out; rw [← h1.1, ← h1.2, h.2.1]));clear hk;refine takes [18, 19, 20, 21, 22, 23, 24, 25, 26, 27, 28] hHeld (by kernel_rfl) (fun _ _ _ _ _ h => h) ?_
  iterate 3
   conv => whnf
   refine ⟨?_, .inl ⟨by kernel_rfl, fun w hSw => ?_⟩, ?_⟩
   rotate_left
   ·(try dsimp only at hSw); go_simp; try with_reducible rfl
   try simp only [Act.put, List.setIfInBounds_toArray, List.set_cons_zero, List.set_cons_succ]
  iterate 8
   conv => whnf
   refine ⟨_, .inr ⟨by kernel_rfl, rfl⟩, ?_⟩
   try simp only [Act.put, List.setIfInBounds_toArray, List.set_cons_zero, List.set_cons_succ]
  refine Yt.nil ?_;refine wpAnyH_ready (rs := [29]) (by kernel_rfl) (by simp) ?_;refine AllReadyH.cons rfl (fun Kc hKc => ?_) AllReadyH.nil;go_simp;refine hKc.out _ _ hs0 (fun hHeldz => ?_);clear hKc Kc;refine takes [30, 31, 32, 33, 34, 35, 36, 37, 38, 39, 40, 41, 42, 43, 44] hHeldz (by kernel_rfl) (fun _ _ _ _ _ h => h) ?_
  iterate 2
   conv => whnf
   refine ⟨?_, .inl ⟨by kernel_rfl, fun w hSw => ?_⟩, ?_⟩
   rotate_left
   ·(try dsimp only at hSw); go_simp; try with_reducible rfl
   try simp only [Act.put, List.setIfInBounds_toArray, List.set_cons_zero, List.set_cons_succ]
  iterate 11
   conv => whnf
   refine ⟨_, .inr ⟨by kernel_rfl, rfl⟩, ?_⟩
   try simp only [Act.put, List.setIfInBounds_toArray, List.set_cons_zero, List.set_cons_succ]
  iterate 2
   conv => whnf
   refine ⟨?_, .inl ⟨by kernel_rfl, fun w hSw => ?_⟩, ?_⟩
   rotate_left
   ·(try dsimp only at hSw); go_simp; try with_reducible rfl
   try simp only [Act.put, List.setIfInBounds_toArray, List.set_cons_zero, List.set_cons_succ]
  refine Yt.nil ?_;have hal : false = true ↔ BaseS f f2 := ⟨fun h => by simp at h, fun h => absurd h HNO.out⟩;refine wpAnyH_done (by kernel_rfl) ?_ _;go_simp
  repeat (first | (exact errs_loop (bto HW.out HB0.out) (H1.out.below HB0.out) (H2.out.below HB0.out) OK1.out OK2.out hal hyl) | go_step | dsimp only)
 subst hk;have e18 : (fk == fk) = true := by simp
 refine takes [18, 19, 20, 21, 22, 23, 24, 25, 26, 27, 28] hHeld (by kernel_rfl) (fun _ _ _ _ _ h => h) ?_
 iterate 11
  conv => whnf
  refine ⟨?_, .inl ⟨by kernel_rfl, fun w hSw => ?_⟩, ?_⟩
  rotate_left
  ·(try dsimp only at hSw); go_simp; try with_reducible rfl
  try simp only [Act.put, List.setIfInBounds_toArray, List.set_cons_zero, List.set_cons_succ]
 refine Yt.nil ?_;refine wpAnyH_ready (rs := [29]) (by kernel_rfl) (by simp) ?_;refine AllReadyH.cons rfl (fun Kc hKc => ?_) AllReadyH.nil;go_simp;refine (HE.out w0 HB0.out).mono ?_;rintro e wa ⟨rfl, hba⟩;dsimp only;have HBA := Hd (bto HB0.out hba);have hsa := HC.out wa HBA.out;refine hKc.out _ _ hsa (fun hHa => ?_);clear hKc Kc hba
 cases q with
 | false =>
   have HNO : Hid (¬ BaseS f f2) := Hd (fun h => by have h2 := HQ.out; have h3 := h.2.2.1; simp [h3] at h2);refine takes [30, 31, 32, 33, 34, 35, 36, 37, 38, 39, 40, 41, 42, 43, 44] hHa (by kernel_rfl) (fun _ _ _ _ _ h => h) ?_
   iterate 2
    conv => whnf
    refine ⟨?_, .inl ⟨by kernel_rfl, fun w hSw => ?_⟩, ?_⟩
    rotate_left
    ·(try dsimp only at hSw); go_simp; try with_reducible rfl
    try simp only [Act.put, List.setIfInBounds_toArray, List.set_cons_zero, List.set_cons_succ]
   iterate 11
    conv => whnf
    refine ⟨_, .inr ⟨by kernel_rfl, rfl⟩, ?_⟩
    try simp only [Act.put, List.setIfInBounds_toArray, List.set_cons_zero, List.set_cons_succ]
   iterate 2
    conv => whnf
    refine ⟨?_, .inl ⟨by kernel_rfl, fun w hSw => ?_⟩, ?_⟩
    rotate_left
    ·(try dsimp only at hSw); go_simp; try with_reducible rfl
    try simp only [Act.put, List.setIfInBounds_toArray, List.set_cons_zero, List.set_cons_succ]
   refine Yt.nil ?_;have hal : false = true ↔ BaseS f f2 := ⟨fun h => by simp at h, fun h => absurd h HNO.out⟩;refine wpAnyH_done (by kernel_rfl) ?_ _;go_simp
   repeat (first | (exact errs_loop (bto HW.out HBA.out) (H1.out.below HBA.out) (H2.out.below HBA.out) OK1.out OK2.out hal hyl) | go_step | dsimp only)
 | true =>
   have HZ : Hid (f.sizes = f2.sizes) := Hd (HQ.out.1 rfl);refine takes [30, 31, 32, 33, 34, 35, 36, 37, 38, 39, 40, 41] hHa (by kernel_rfl) (fun _ _ _ _ _ h => h) ?_
   iterate 12
    conv => whnf
    refine ⟨?_, .inl ⟨by kernel_rfl, fun w hSw => ?_⟩, ?_⟩
    rotate_left
    ·(try dsimp only at hSw); go_simp; try with_reducible rfl
    try simp only [Act.put, List.setIfInBounds_toArray, List.set_cons_zero, List.set_cons_succ]
   refine Yt.nil ?_;by_cases hll : lv = lu
   ·have e42 : ((lv : Int) == (lu : Int)) = true := by simp [hll]
    have hal : true = true ↔ BaseS f f2 := ⟨fun _ => ⟨HNT.out, HK.out.1.trans HK.out.2.symm, HZ.out, by have := HL.out; omega⟩, fun _ => rfl⟩;clear hll;refine takes [42, 43, 44] hHa (by kernel_rfl) (fun _ _ _ _ _ h => h) ?_
    iterate 3
     conv => whnf
     refine ⟨?_, .inl ⟨by kernel_rfl, fun w hSw => ?_⟩, ?_⟩
     rotate_left
     ·(try dsimp only at hSw); go_simp; try with_reducible rfl
     try simp only [Act.put, List.setIfInBounds_toArray, List.set_cons_zero, List.set_cons_succ]
    refine Yt.nil ?_;refine wpAnyH_done (by kernel_rfl) ?_ _;go_simp
    repeat (first | (exact errs_loop (bto HW.out HBA.out) (H1.out.below HBA.out) (H2.out.below HBA.out) OK1.out OK2.out hal hyl) | go_step | dsimp only)
   ·have e42 : ((lv : Int) == (lu : Int)) = false := by simp; omega
    have HNO : Hid (¬ BaseS f f2) := Hd (fun h => hll (by have h1 := HL.out; have h2 := h.2.2.2; omega));clear hll;refine takes [42, 43, 44] hHa (by kernel_rfl) (fun _ _ _ _ _ h => h) ?_
    iterate 3
     conv => whnf
     refine ⟨?_, .inl ⟨by kernel_rfl, fun w hSw => ?_⟩, ?_⟩
     rotate_left
     ·(try dsimp only at hSw); go_simp; try with_reducible rfl
     try simp only [Act.put, List.setIfInBounds_toArray, List.set_cons_zero, List.set_cons_succ]
    refine Yt.nil ?_;have hal : false = true ↔ BaseS f f2 := ⟨fun h => by simp at h, fun h => absurd h HNO.out⟩;refine wpAnyH_done (by kernel_rfl) ?_ _;go_simp
    repeat (first | (exact errs_loop (bto HW.out HBA.out) (H1.out.below HBA.out) (H2.out.below HBA.out) OK1.out OK2.out hal hyl) | go_step | dsimp only)
end Go.Proofs.YtjpkkkphhaajgaaGreatDoor.wcp
