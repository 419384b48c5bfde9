/- a part -/
import Derived.Test.YtjpkkkphhaajgaaGreatDoorQdP38
set_option linter.all false
namespace Go.Proofs.YtjpkkkphhaajgaaGreatDoor.wcp
open Go RowKit Shelf ChangeShapes WideShapes ChangeAt Maps words scn told
open shp (Szs prodI InT idxI tupI allI)
attribute [local go_sem] Oper.semAt_some
theorem tabk_any {w:World}{g:Nat}{F R:Nat→Prop}{zs:List Int}{k:Int}{C:List Int}(h:TabV w g F R zs k C):Calls Tryz.prog 115 #[.pointer (some ⟨g,0,none⟩)] w fun e w'=>e = .returned (.int .i64 k)∧w=w':=by
 obtain⟨-,SA,sc,CA,cc,hb,-,-,-,-⟩:=h;obtain⟨q0,q1,q2⟩:=Blk.three (t:=117) hb;clear hb
 go_enter Tryz.func115,Tryz.ntmps115
 go_wp2
 go_ret;exact⟨rfl,rfl⟩
theorem tabshape_any {w:World}{g:Nat}{SA:Option Addr}{n sc:Nat}{b c:Value}(hb:Blk w g 117 #[.slice SA n sc,b,c]):Calls Tryz.prog 113 #[.pointer (some ⟨g,0,none⟩)] w fun e w'=>e = .returned (.agg #[.slice SA n sc])∧Below w.heap.size w w':=by
 obtain⟨w1,hw1⟩:∃w1,w.alloc (.cells #[.slice none 0 0] 115)=w1:=⟨_,rfl⟩;have hb1:Below w.heap.size w w1:=by rw[← hw1];exact bone w _
 have hx:Blk w1 w.heap.size 115 #[.slice none 0 0]:=by rw[← hw1];exact Blk.new _ _ _
 obtain⟨q0,q1,q2⟩:=Blk.three (t:=117) (hb.under hb1);obtain⟨x0,x1⟩:=hx.one;have HX:=Hd (hx.set_ 0 (.slice SA n sc));have HB:=Hd (hb1.setCell (p:=⟨w.heap.size,0,none⟩) (Nat.le_refl _) (.slice SA n sc));clear hb hx hb1
 go_enter Tryz.func113,Tryz.ntmps113
 go_wp2_with fail
 try rw[hw1]
 clear hw1;go_wp2_with fail;obtain⟨y0,-⟩:=(show Blk _ _ _ #[.slice SA n sc] from HX.out).one;exact bodyPost_ret (v := .agg #[.slice SA n sc]) (by simp[results,Tryz.results113,go_sem,y0]) rfl ⟨rfl,HB.out⟩
theorem TpV.under {w w':World}{g n:Nat}{F:Nat→Prop}{T:TpH}(h:TpV w g F n T)(hb:Below w.heap.size w w'):TpV w' g F n T:=h.keep (Tch.of_below hb fun _=>False) fun _ _ h=>h
theorem TpV.off {w w':World}{g n:Nat}{F S:Nat→Prop}{T:TpH}(h:TpV w g F n T)(ht:Tch w w' S)(hS:∀k,S k→∃t cs,Blk w k t cs∧t≠103∧t≠3):TpV w' g F n T:=by
 obtain⟨hg,A,c,mb,D,hb,ho,hf2,hm,hmb,hd⟩:=h
 have hoff:∀t,(t=103∨t=3)→∀k cs,Blk w k t cs→¬ S k:=fun t ht k cs hb hs=>by
  obtain⟨t',cs',h1,h2,h3⟩:=hS k hs;rcases ht with rfl | rfl
  ·exact Blk.ne_ h1 hb h2 rfl
  ·exact Blk.ne_ h1 hb h3 rfl
 refine⟨hg,A,c,mb,D,ht.blk hb (hoff _ (.inl rfl) _ _ hb),ht.own ho fun k hk hs=>?_,hf2,map_tch hm ht (fun hs=>?_),hmb,hd⟩
 ·obtain⟨cs,hb'⟩:=own_is ho hk
  exact hoff _ (.inr rfl) k cs hb' hs
 ·obtain⟨t',cs',h1,_⟩:=hS _ hs
  obtain⟨es,clock,hh,_⟩:=hm;unfold Blk at h1;rw[h1]at hh;cases hh
theorem keeps_tch {W W':World}{S:Nat→Prop}{B:Nat}(T:Tch W W' S)(h:∀i,S i→i<B):KeepsFrom B W W' :=
 ⟨T.size,fun i o hB hi _=>(T.block i (Array.getElem?_eq_some_iff.1 hi).1 fun hs=>by have:=h i hs;omega).trans hi⟩
set_option maxRecDepth 100000 in
set_option maxHeartbeats 16000000 in
theorem tof_any {w:World}{ga:Nat}{Fa Ra:Nat→Prop}{zsF:List Int}{K:Int}{g:CF}(hg:GoodC zsF K g)(ha:TabV w ga Fa Ra g.sizes K g.C) :
 Calls Tryz.prog 48 #[.pointer (some ⟨ga,0,none⟩)] w fun e w' => ∃g2,e = .returned (.pointer (some ⟨g2,0,none⟩))∧TpV w' g2 (fun q=>w.heap.size≤q) (linesC g).length (tpOf (rawC g) K (linesC g))∧Below w.heap.size w w':=by
 obtain⟨f,hgC,hfin⟩:=hg.tab;have hz:=hg.szs;have hP:=shp.szs_prod hz;obtain⟨N,hN⟩:∃N:Nat,prodI g.sizes=N:=⟨(prodI g.sizes).toNat,by omega⟩;have hCl:g.C.length=N:=by have:=tabF_len hz f;rw[← hgC]at this;omega
 have hN4:N≤4096:=by have:=hg.prod;omega
 have hN0:0<N:=by omega
 obtain⟨m,hm⟩:∃m,g.sizes.length=m:=⟨_,rfl⟩;have hm6:m≤6:=by have:=hz.1;omega
 have hwf:∀c∈g.C,(Lit.int .i64 c).wf=true:=fun c hc=>by
  have:=tab_in hg c hc;unfold inB at this;rw[decide_eq_true_eq]at this;exact WalkArith.wf_i64 (by omega)
 have hen:=entries_any ha (by omega);have HA:=Hd ha;have HG:=Hd hg;have HWF:=Hd hwf;have HCL:=Hd hCl;have HM:=Hd hm;have HZ:=Hd hz;have HGC:=Hd hgC;have HFIN:=Hd hfin;clear ha hg hwf hz hgC hfin hP;refine (callsIn_wide (n:=4)).1 ?_;refine callsIn_of_wp_marks Tryz.func48 rfl trivial ?_ rfl;simp only[Tryz.ntmps48,List.size_toArray,List.length_cons,List.length_nil,Nat.reduceAdd,Nat.reduceSub,Array.replicate_succ,Array.replicate_zero,List.push_toArray,List.append_toArray,List.nil_append,List.cons_append];refine wpIn_wide.2 ?_;refine Code.wp_mono NoPanic.imp ?_;go_wp2_with fail;refine hen.mono ?_;rintro e w1 ⟨A1,c1,rfl,ho1,hB1⟩;clear hen;rw[HCL.out]at ho1 ⊢;obtain⟨w2,hw2⟩:∃w2,(w1.alloc (.cells #[.slice none 0 0] 46)).setCell ⟨w1.heap.size,0,none⟩ (.slice A1 N c1)=w2:=⟨_,rfl⟩;have hB2:Below w1.heap.size w1 w2:=by rw[← hw2];exact (bone w1 _).setCell (p:=⟨w1.heap.size,0,none⟩) (Nat.le_refl _) _
 have hbl:Blk w2 w1.heap.size 46 #[.slice A1 N c1]:=by rw[← hw2];exact (Blk.new _ _ _).set_ 0 _
 have HB2:=Hd (bto hB1 hB2);have HO2:=Hd (own_under ho1 hB2);have HBL:=Hd hbl;have HS1:=Hd hB1.size;clear ho1 hB1 hB2 hbl;go_wp2_with fail
 try rw[hw2]
 clear hw2;go_upto_region 4 with fail;obtain⟨-,SA,sa,CA,ca,htb,hts,-,-,-⟩:=HA.out;rw[HM.out]at htb hts;have HTB:=Hd htb;have HTS:=Hd hts;clear htb hts;have cl:w2.drew.cell? ⟨w1.heap.size,0,none⟩=some (.slice A1 N c1):=HBL.out.one.1
 go_cut [4,5] from 12 to 22 (fun v4 v5 wq => ∃x g2,v4 = .pointer (some ⟨x,0,none⟩)∧v5 = .int .i64 0∧Blk wq x 35 #[.pointer (some ⟨g2,0,none⟩)]∧TpV wq g2 (fun q=>w2.heap.size≤q) 0 ⟨g.sizes,K,mostL g.C,fun _=>none⟩∧Below w2.heap.size w2 wq)
 case first =>
  refine wp_region_held_drew (S:=(fun W=>Below w2.heap.size w2 W∧W.cell? ⟨w1.heap.size,0,none⟩=some (.slice A1 N c1))) (by kernel_rfl) ⟨(Below.refl _ _).drew,cl⟩ (fun hHeld=>?_);obtain⟨wz,hwz⟩:∃wz,w2.drew=wz:=⟨_,rfl⟩;rw[hwz]at hHeld cl ⊢;clear hwz;refine takes [0,3,5] hHeld (by kernel_rfl) (fun _ _ _ _ _ h=>h) ?_
  iterate 3
   conv=>whnf
   refine⟨?_,.inl ⟨by kernel_rfl,fun w hSw=>?_⟩,?_⟩
   rotate_left
   ·(try dsimp only at hSw);go_simp;try with_reducible rfl
   try simp only[Act.put,ya,yb,yc]
  refine Yt.nil ?_;refine wpAnyH_ready (rs := [1,11]) (by kernel_rfl) (by simp) ?_;refine AllReadyH.cons rfl (fun Kc hKc=>?_) (AllReadyH.cons rfl (fun Kc hKc=>?_) AllReadyH.nil)
  ·go_simp
   refine (tabshape_any (HTB.out.under (bto HB2.out hHeld.1))).mono ?_;rintro e wc1 ⟨rfl,hbwc1⟩;dsimp only;have HBWwc1:=Hd hbwc1;have hbewc1:=bto hHeld.1 hbwc1;have hcewc1:=(HBL.out.under hbewc1).one.1;refine hKc.out _ _ ⟨hbewc1,hcewc1⟩ (fun hH2=>?_);clear hKc Kc hbewc1 hcewc1 hbwc1
   try simp only[Act.put,ya,yb,yc]
   refine wpAnyH_ready (rs := [2,11]) (by kernel_rfl) (by simp) ?_;refine AllReadyH.cons rfl (fun Kc hKc=>?_) (AllReadyH.cons rfl (fun Kc hKc=>?_) AllReadyH.nil)
   ·go_simp
    refine (shp.sizes_any SA m sa g.sizes wc1 (by omega) (Reads.of_own (own_under HTS.out (bto HB2.out hH2.1)))).mono ?_;rintro e wc3 ⟨AZ5,cz6,rfl,howc3,hbwc3⟩
    try rw[HM.out]at howc3 ⊢
    have HOZwc3:=Hd howc3;clear howc3;dsimp only;have HBWwc3:=Hd hbwc3;have hbewc3:=bto hH2.1 hbwc3;have hcewc3:=(HBL.out.under hbewc3).one.1;refine hKc.out _ _ ⟨hbewc3,hcewc3⟩ (fun hH4=>?_);clear hKc Kc hbewc3 hcewc3 hbwc3
    try simp only[Act.put,ya,yb,yc]
    refine wpAnyH_ready (rs := [4,11]) (by kernel_rfl) (by simp) ?_;refine AllReadyH.cons rfl (fun Kc hKc=>?_) (AllReadyH.cons rfl (fun Kc hKc=>?_) AllReadyH.nil)
    ·go_simp
     refine (tabk_any (HA.out.under (bto HB2.out hH4.1))).mono ?_;rintro e wc7 ⟨rfl,hWwc7⟩;have hbwc7:Below wc3.heap.size wc3 wc7:=by rw[← hWwc7];exact Below.refl _ _
     clear hWwc7;dsimp only;have HBWwc7:=Hd hbwc7;have hbewc7:=bto hH4.1 hbwc7;have hcewc7:=(HBL.out.under hbewc7).one.1;refine hKc.out _ _ ⟨hbewc7,hcewc7⟩ (fun hH8=>?_);clear hKc Kc hbewc7 hcewc7 hbwc7
     try simp only[Act.put,ya,yb,yc]
     refine wpAnyH_ready (rs := [6,11]) (by kernel_rfl) (by simp) ?_;refine AllReadyH.cons rfl (fun Kc hKc=>?_) (AllReadyH.cons rfl (fun Kc hKc=>?_) AllReadyH.nil)
     ·go_simp
      refine (most_any A1 N c1 g.C wc7 (Reads.of_own (own_under HO2.out hH8.1)) hN0 hN4 HWF.out).mono ?_;rintro e wc9 ⟨rfl,hbwc9⟩;dsimp only;have HBWwc9:=Hd hbwc9;have hbewc9:=bto hH8.1 hbwc9;have hcewc9:=(HBL.out.under hbewc9).one.1;refine hKc.out _ _ ⟨hbewc9,hcewc9⟩ (fun hH10=>?_);clear hKc Kc hbewc9 hcewc9 hbwc9
      try simp only[Act.put,ya,yb,yc]
      refine wpAnyH_ready (rs := [7,11]) (by kernel_rfl) (by simp) ?_;refine AllReadyH.cons rfl (fun Kc hKc=>?_) (AllReadyH.cons rfl (fun Kc hKc=>?_) AllReadyH.nil)
      ·go_simp
       refine (tnew_any AZ5 m cz6 g.sizes K (mostL g.C) wc9 hm6 (Reads.of_own (own_under (own_under HOZwc3.out HBWwc7.out) HBWwc9.out)) HZ.out.2 (most_in HG.out)).mono ?_;rintro e wc11 ⟨g13,rfl,htwc11,hbwc11⟩;have HTNwc11:=Hd (htwc11.mono fun q h=>Nat.le_trans hH10.1.size h);clear htwc11;dsimp only;have HBWwc11:=Hd hbwc11;have hbewc11:=bto hH10.1 hbwc11;have hcewc11:=(HBL.out.under hbewc11).one.1;refine hKc.out _ _ ⟨hbewc11,hcewc11⟩ (fun hH12=>?_);clear hKc Kc hbewc11 hcewc11 hbwc11
       try simp only[Act.put,ya,yb,yc]
       refine takes [8,9,10] hH12 (by kernel_rfl) (fun _ _ _ _ _ h=>h) ?_
       iterate 3
        conv=>whnf
        refine⟨?_,.inl ⟨by kernel_rfl,fun w hSw=>?_⟩,?_⟩
        rotate_left
        ·(try dsimp only at hSw);go_simp;try with_reducible rfl
        try simp only[Act.put,ya,yb,yc]
       refine Yt.nil ?_;refine wpAnyH_ready (rs := [11]) (by kernel_rfl) (by simp) ?_;refine AllReadyH.cons rfl (fun Kc hKc=>?_) AllReadyH.nil;go_simp;obtain⟨xl16,hxl16⟩:∃x,wc11.heap.size=x:=⟨_,rfl⟩;have hbkwl15:Blk (wc11.alloc (.cells #[.pointer none] 35)) xl16 35 #[.pointer none]:=by rw[← hxl16];exact Blk.new _ _ _
       have hbnwl15:=bone wc11 (.cells #[.pointer none] 35);have hbewl15:=bnew hH12.1 (.cells #[.pointer none] 35);have hcewl15:=(HBL.out.under hbewl15).one.1;have HLEwl15:Hid (w2.heap.size≤xl16):=by rw[Hid,← hxl16];exact hH12.1.size
       try rw[hxl16]
       obtain⟨wl15,hwl15⟩:∃x,wc11.alloc (.cells #[.pointer none] 35)=x:=⟨_,rfl⟩;rw[hwl15]at hbkwl15 hbnwl15 hbewl15 hcewl15 ⊢;have HBKwl15:=Hd hbkwl15;have HBNwl15:=Hd hbnwl15;clear hwl15 hxl16 hbkwl15 hbnwl15;refine hKc.out _ _ ⟨hbewl15,hcewl15⟩ (fun hH17=>?_);clear hKc Kc hbewl15 hcewl15
       try simp only[Act.put,ya,yb,yc]
       obtain⟨yc,yf⟩:=(HBKwl15.out).one;refine wpAnyH_ready (rs := [12]) (by kernel_rfl) (by simp) ?_;refine AllReadyH.cons rfl (fun Kc hKc=>?_) AllReadyH.nil;go_simp;have hxl:=HLEwl15.out;have hbs:=hH17.1.setCell (p:=⟨xl16,0,none⟩) hxl (.pointer (some ⟨g13,0,none⟩));refine hKc.out _ _ ⟨hbs,(HBL.out.under hbs).one.1⟩ (fun hHz=>?_);clear hKc Kc;refine takes [13] hHz (by kernel_rfl) (fun _ _ _ _ _ h=>h) ?_
       iterate 1
        conv=>whnf
        refine⟨?_,.inl ⟨by kernel_rfl,fun w hSw=>?_⟩,?_⟩
        rotate_left
        ·(try dsimp only at hSw);go_simp;try with_reducible rfl
        try simp only[Act.put,ya,yb,yc]
       refine Yt.nil ?_;refine wpAnyH_done (by kernel_rfl) ?_ _;go_simp
       try go_wp2_with fail
       go_meet
       case rel=>exact⟨xl16,g13,rfl,rfl,(HBKwl15.out).set_ 0 _,(HTNwc11.out.under HBNwl15.out).off (S:=fun q=>q=xl16) (Tch.set_ _ (p:=⟨xl16,0,none⟩) _ rfl) (fun q e=>by subst e;exact⟨_,_,HBKwl15.out,by decide,by decide⟩),hbs⟩
      ·go_simp
       obtain⟨xl20,hxl20⟩:∃x,wc9.heap.size=x:=⟨_,rfl⟩;have hbkwl19:Blk (wc9.alloc (.cells #[.pointer none] 35)) xl20 35 #[.pointer none]:=by rw[← hxl20];exact Blk.new _ _ _
       have hbnwl19:=bone wc9 (.cells #[.pointer none] 35);have hbewl19:=bnew hH10.1 (.cells #[.pointer none] 35);have hcewl19:=(HBL.out.under hbewl19).one.1;have HLEwl19:Hid (w2.heap.size≤xl20):=by rw[Hid,← hxl20];exact hH10.1.size
       try rw[hxl20]
       obtain⟨wl19,hwl19⟩:∃x,wc9.alloc (.cells #[.pointer none] 35)=x:=⟨_,rfl⟩;rw[hwl19]at hbkwl19 hbnwl19 hbewl19 hcewl19 ⊢;have HBKwl19:=Hd hbkwl19;have HBNwl19:=Hd hbnwl19;clear hwl19 hxl20 hbkwl19 hbnwl19;refine hKc.out _ _ ⟨hbewl19,hcewl19⟩ (fun hH21=>?_);clear hKc Kc hbewl19 hcewl19
       try simp only[Act.put,ya,yb,yc]
       refine wpAnyH_ready (rs := [7]) (by kernel_rfl) (by simp) ?_;refine AllReadyH.cons rfl (fun Kc hKc=>?_) AllReadyH.nil;go_simp;refine (tnew_any AZ5 m cz6 g.sizes K (mostL g.C) wl19 hm6 (Reads.of_own (own_under (own_under (own_under HOZwc3.out HBWwc7.out) HBWwc9.out) HBNwl19.out)) HZ.out.2 (most_in HG.out)).mono ?_;rintro e wc22 ⟨g24,rfl,htwc22,hbwc22⟩;have HTNwc22:=Hd (htwc22.mono fun q h=>Nat.le_trans hH21.1.size h);clear htwc22;dsimp only;have HBWwc22:=Hd hbwc22;have hbewc22:=bto hH21.1 hbwc22;have hcewc22:=(HBL.out.under hbewc22).one.1;refine hKc.out _ _ ⟨hbewc22,hcewc22⟩ (fun hH23=>?_);clear hKc Kc hbewc22 hcewc22 hbwc22
       try simp only[Act.put,ya,yb,yc]
       refine takes [8,9,10] hH23 (by kernel_rfl) (fun _ _ _ _ _ h=>h) ?_
       iterate 3
        conv=>whnf
        refine⟨?_,.inl ⟨by kernel_rfl,fun w hSw=>?_⟩,?_⟩
        rotate_left
        ·(try dsimp only at hSw);go_simp;try with_reducible rfl
        try simp only[Act.put,ya,yb,yc]
       refine Yt.nil ?_;obtain⟨yc,yf⟩:=((HBKwl19.out.under HBWwc22.out)).one;refine wpAnyH_ready (rs := [12]) (by kernel_rfl) (by simp) ?_;refine AllReadyH.cons rfl (fun Kc hKc=>?_) AllReadyH.nil;go_simp;have hxl:=HLEwl19.out;have hbs:=hH23.1.setCell (p:=⟨xl20,0,none⟩) hxl (.pointer (some ⟨g24,0,none⟩));refine hKc.out _ _ ⟨hbs,(HBL.out.under hbs).one.1⟩ (fun hHz=>?_);clear hKc Kc;refine takes [13] hHz (by kernel_rfl) (fun _ _ _ _ _ h=>h) ?_
       iterate 1
        conv=>whnf
        refine⟨?_,.inl ⟨by kernel_rfl,fun w hSw=>?_⟩,?_⟩
        rotate_left
        ·(try dsimp only at hSw);go_simp;try with_reducible rfl
        try simp only[Act.put,ya,yb,yc]
       refine Yt.nil ?_;refine wpAnyH_done (by kernel_rfl) ?_ _;go_simp
       try go_wp2_with fail
       go_meet
       case rel=>exact⟨xl20,g24,rfl,rfl,((HBKwl19.out.under HBWwc22.out)).set_ 0 _,HTNwc22.out.off (S:=fun q=>q=xl20) (Tch.set_ _ (p:=⟨xl20,0,none⟩) _ rfl) (fun q e=>by subst e;exact⟨_,_,(HBKwl19.out.under HBWwc22.out),by decide,by decide⟩),hbs⟩
     ·go_simp
      obtain⟨xl28,hxl28⟩:∃x,wc7.heap.size=x:=⟨_,rfl⟩;have hbkwl27:Blk (wc7.alloc (.cells #[.pointer none] 35)) xl28 35 #[.pointer none]:=by rw[← hxl28];exact Blk.new _ _ _
      have hbnwl27:=bone wc7 (.cells #[.pointer none] 35);have hbewl27:=bnew hH8.1 (.cells #[.pointer none] 35);have hcewl27:=(HBL.out.under hbewl27).one.1;have HLEwl27:Hid (w2.heap.size≤xl28):=by rw[Hid,← hxl28];exact hH8.1.size
      try rw[hxl28]
      obtain⟨wl27,hwl27⟩:∃x,wc7.alloc (.cells #[.pointer none] 35)=x:=⟨_,rfl⟩;rw[hwl27]at hbkwl27 hbnwl27 hbewl27 hcewl27 ⊢;have HBKwl27:=Hd hbkwl27;have HBNwl27:=Hd hbnwl27;clear hwl27 hxl28 hbkwl27 hbnwl27;refine hKc.out _ _ ⟨hbewl27,hcewl27⟩ (fun hH29=>?_);clear hKc Kc hbewl27 hcewl27
      try simp only[Act.put,ya,yb,yc]
      refine wpAnyH_ready (rs := [6]) (by kernel_rfl) (by simp) ?_;refine AllReadyH.cons rfl (fun Kc hKc=>?_) AllReadyH.nil;go_simp;refine (most_any A1 N c1 g.C wl27 (Reads.of_own (own_under HO2.out hH29.1)) hN0 hN4 HWF.out).mono ?_;rintro e wc30 ⟨rfl,hbwc30⟩;dsimp only;have HBWwc30:=Hd hbwc30;have hbewc30:=bto hH29.1 hbwc30;have hcewc30:=(HBL.out.under hbewc30).one.1;refine hKc.out _ _ ⟨hbewc30,hcewc30⟩ (fun hH31=>?_);clear hKc Kc hbewc30 hcewc30 hbwc30
      try simp only[Act.put,ya,yb,yc]
      refine wpAnyH_ready (rs := [7]) (by kernel_rfl) (by simp) ?_;refine AllReadyH.cons rfl (fun Kc hKc=>?_) AllReadyH.nil;go_simp;refine (tnew_any AZ5 m cz6 g.sizes K (mostL g.C) wc30 hm6 (Reads.of_own (own_under (own_under (own_under HOZwc3.out HBWwc7.out) HBNwl27.out) HBWwc30.out)) HZ.out.2 (most_in HG.out)).mono ?_;rintro e wc32 ⟨g34,rfl,htwc32,hbwc32⟩;have HTNwc32:=Hd (htwc32.mono fun q h=>Nat.le_trans hH31.1.size h);clear htwc32;dsimp only;have HBWwc32:=Hd hbwc32;have hbewc32:=bto hH31.1 hbwc32;have hcewc32:=(HBL.out.under hbewc32).one.1;refine hKc.out _ _ ⟨hbewc32,hcewc32⟩ (fun hH33=>?_);clear hKc Kc hbewc32 hcewc32 hbwc32
      try simp only[Act.put,ya,yb,yc]
      refine takes [8,9,10] hH33 (by kernel_rfl) (fun _ _ _ _ _ h=>h) ?_
      iterate 3
       conv=>whnf
       refine⟨?_,.inl ⟨by kernel_rfl,fun w hSw=>?_⟩,?_⟩
       rotate_left
       ·(try dsimp only at hSw);go_simp;try with_reducible rfl
       try simp only[Act.put,ya,yb,yc]
      refine Yt.nil ?_;obtain⟨yc,yf⟩:=(((HBKwl27.out.under HBWwc30.out).under HBWwc32.out)).one;refine wpAnyH_ready (rs := [12]) (by kernel_rfl) (by simp) ?_;refine AllReadyH.cons rfl (fun Kc hKc=>?_) AllReadyH.nil;go_simp;have hxl:=HLEwl27.out;have hbs:=hH33.1.setCell (p:=⟨xl28,0,none⟩) hxl (.pointer (some ⟨g34,0,none⟩));refine hKc.out _ _ ⟨hbs,(HBL.out.under hbs).one.1⟩ (fun hHz=>?_);clear hKc Kc;refine takes [13] hHz (by kernel_rfl) (fun _ _ _ _ _ h=>h) ?_
      iterate 1
       conv=>whnf
       refine⟨?_,.inl ⟨by kernel_rfl,fun w hSw=>?_⟩,?_⟩
       rotate_left
       ·(try dsimp only at hSw);go_simp;try with_reducible rfl
       try simp only[Act.put,ya,yb,yc]
      refine Yt.nil ?_;refine wpAnyH_done (by kernel_rfl) ?_ _;go_simp
      try go_wp2_with fail
      go_meet
      case rel=>exact⟨xl28,g34,rfl,rfl,(((HBKwl27.out.under HBWwc30.out).under HBWwc32.out)).set_ 0 _,HTNwc32.out.off (S:=fun q=>q=xl28) (Tch.set_ _ (p:=⟨xl28,0,none⟩) _ rfl) (fun q e=>by subst e;exact⟨_,_,((HBKwl27.out.under HBWwc30.out).under HBWwc32.out),by decide,by decide⟩),hbs⟩
    ·go_simp
     obtain⟨xl38,hxl38⟩:∃x,wc3.heap.size=x:=⟨_,rfl⟩;have hbkwl37:Blk (wc3.alloc (.cells #[.pointer none] 35)) xl38 35 #[.pointer none]:=by rw[← hxl38];exact Blk.new _ _ _
     have hbnwl37:=bone wc3 (.cells #[.pointer none] 35);have hbewl37:=bnew hH4.1 (.cells #[.pointer none] 35);have hcewl37:=(HBL.out.under hbewl37).one.1;have HLEwl37:Hid (w2.heap.size≤xl38):=by rw[Hid,← hxl38];exact hH4.1.size
     try rw[hxl38]
     obtain⟨wl37,hwl37⟩:∃x,wc3.alloc (.cells #[.pointer none] 35)=x:=⟨_,rfl⟩;rw[hwl37]at hbkwl37 hbnwl37 hbewl37 hcewl37 ⊢;have HBKwl37:=Hd hbkwl37;have HBNwl37:=Hd hbnwl37;clear hwl37 hxl38 hbkwl37 hbnwl37;refine hKc.out _ _ ⟨hbewl37,hcewl37⟩ (fun hH39=>?_);clear hKc Kc hbewl37 hcewl37
     try simp only[Act.put,ya,yb,yc]
     refine wpAnyH_ready (rs := [4]) (by kernel_rfl) (by simp) ?_;refine AllReadyH.cons rfl (fun Kc hKc=>?_) AllReadyH.nil;go_simp;refine (tabk_any (HA.out.under (bto HB2.out hH39.1))).mono ?_;rintro e wc40 ⟨rfl,hWwc40⟩;have hbwc40:Below wl37.heap.size wl37 wc40:=by rw[← hWwc40];exact Below.refl _ _
     clear hWwc40;dsimp only;have HBWwc40:=Hd hbwc40;have hbewc40:=bto hH39.1 hbwc40;have hcewc40:=(HBL.out.under hbewc40).one.1;refine hKc.out _ _ ⟨hbewc40,hcewc40⟩ (fun hH41=>?_);clear hKc Kc hbewc40 hcewc40 hbwc40
     try simp only[Act.put,ya,yb,yc]
     refine wpAnyH_ready (rs := [6]) (by kernel_rfl) (by simp) ?_;refine AllReadyH.cons rfl (fun Kc hKc=>?_) AllReadyH.nil;go_simp;refine (most_any A1 N c1 g.C wc40 (Reads.of_own (own_under HO2.out hH41.1)) hN0 hN4 HWF.out).mono ?_;rintro e wc42 ⟨rfl,hbwc42⟩;dsimp only;have HBWwc42:=Hd hbwc42;have hbewc42:=bto hH41.1 hbwc42;have hcewc42:=(HBL.out.under hbewc42).one.1;refine hKc.out _ _ ⟨hbewc42,hcewc42⟩ (fun hH43=>?_);clear hKc Kc hbewc42 hcewc42 hbwc42
     try simp only[Act.put,ya,yb,yc]
     refine wpAnyH_ready (rs := [7]) (by kernel_rfl) (by simp) ?_;refine AllReadyH.cons rfl (fun Kc hKc=>?_) AllReadyH.nil;go_simp;refine (tnew_any AZ5 m cz6 g.sizes K (mostL g.C) wc42 hm6 (Reads.of_own (own_under (own_under (own_under HOZwc3.out HBNwl37.out) HBWwc40.out) HBWwc42.out)) HZ.out.2 (most_in HG.out)).mono ?_;rintro e wc44 ⟨g46,rfl,htwc44,hbwc44⟩;have HTNwc44:=Hd (htwc44.mono fun q h=>Nat.le_trans hH43.1.size h);clear htwc44;dsimp only;have HBWwc44:=Hd hbwc44;have hbewc44:=bto hH43.1 hbwc44;have hcewc44:=(HBL.out.under hbewc44).one.1;refine hKc.out _ _ ⟨hbewc44,hcewc44⟩ (fun hH45=>?_);clear hKc Kc hbewc44 hcewc44 hbwc44
     try simp only[Act.put,ya,yb,yc]
     refine takes [8,9,10] hH45 (by kernel_rfl) (fun _ _ _ _ _ h=>h) ?_
     iterate 3
      conv=>whnf
      refine⟨?_,.inl ⟨by kernel_rfl,fun w hSw=>?_⟩,?_⟩
      rotate_left
      ·(try dsimp only at hSw);go_simp;try with_reducible rfl
      try simp only[Act.put,ya,yb,yc]
     refine Yt.nil ?_;obtain⟨yc,yf⟩:=((((HBKwl37.out.under HBWwc40.out).under HBWwc42.out).under HBWwc44.out)).one;refine wpAnyH_ready (rs := [12]) (by kernel_rfl) (by simp) ?_;refine AllReadyH.cons rfl (fun Kc hKc=>?_) AllReadyH.nil;go_simp;have hxl:=HLEwl37.out;have hbs:=hH45.1.setCell (p:=⟨xl38,0,none⟩) hxl (.pointer (some ⟨g46,0,none⟩));refine hKc.out _ _ ⟨hbs,(HBL.out.under hbs).one.1⟩ (fun hHz=>?_);clear hKc Kc;refine takes [13] hHz (by kernel_rfl) (fun _ _ _ _ _ h=>h) ?_
     iterate 1
      conv=>whnf
      refine⟨?_,.inl ⟨by kernel_rfl,fun w hSw=>?_⟩,?_⟩
      rotate_left
      ·(try dsimp only at hSw);go_simp;try with_reducible rfl
      try simp only[Act.put,ya,yb,yc]
     refine Yt.nil ?_;refine wpAnyH_done (by kernel_rfl) ?_ _;go_simp
     try go_wp2_with fail
     go_meet
     case rel=>exact⟨xl38,g46,rfl,rfl,((((HBKwl37.out.under HBWwc40.out).under HBWwc42.out).under HBWwc44.out)).set_ 0 _,HTNwc44.out.off (S:=fun q=>q=xl38) (Tch.set_ _ (p:=⟨xl38,0,none⟩) _ rfl) (fun q e=>by subst e;exact⟨_,_,(((HBKwl37.out.under HBWwc40.out).under HBWwc42.out).under HBWwc44.out),by decide,by decide⟩),hbs⟩
   ·go_simp
    obtain⟨xl50,hxl50⟩:∃x,wc1.heap.size=x:=⟨_,rfl⟩;have hbkwl49:Blk (wc1.alloc (.cells #[.pointer none] 35)) xl50 35 #[.pointer none]:=by rw[← hxl50];exact Blk.new _ _ _
    have hbnwl49:=bone wc1 (.cells #[.pointer none] 35);have hbewl49:=bnew hH2.1 (.cells #[.pointer none] 35);have hcewl49:=(HBL.out.under hbewl49).one.1;have HLEwl49:Hid (w2.heap.size≤xl50):=by rw[Hid,← hxl50];exact hH2.1.size
    try rw[hxl50]
    obtain⟨wl49,hwl49⟩:∃x,wc1.alloc (.cells #[.pointer none] 35)=x:=⟨_,rfl⟩;rw[hwl49]at hbkwl49 hbnwl49 hbewl49 hcewl49 ⊢;have HBKwl49:=Hd hbkwl49;have HBNwl49:=Hd hbnwl49;clear hwl49 hxl50 hbkwl49 hbnwl49;refine hKc.out _ _ ⟨hbewl49,hcewl49⟩ (fun hH51=>?_);clear hKc Kc hbewl49 hcewl49
    try simp only[Act.put,ya,yb,yc]
    refine wpAnyH_ready (rs := [2]) (by kernel_rfl) (by simp) ?_;refine AllReadyH.cons rfl (fun Kc hKc=>?_) AllReadyH.nil;go_simp;refine (shp.sizes_any SA m sa g.sizes wl49 (by omega) (Reads.of_own (own_under HTS.out (bto HB2.out hH51.1)))).mono ?_;rintro e wc52 ⟨AZ54,cz55,rfl,howc52,hbwc52⟩
    try rw[HM.out]at howc52 ⊢
    have HOZwc52:=Hd howc52;clear howc52;dsimp only;have HBWwc52:=Hd hbwc52;have hbewc52:=bto hH51.1 hbwc52;have hcewc52:=(HBL.out.under hbewc52).one.1;refine hKc.out _ _ ⟨hbewc52,hcewc52⟩ (fun hH53=>?_);clear hKc Kc hbewc52 hcewc52 hbwc52
    try simp only[Act.put,ya,yb,yc]
    refine wpAnyH_ready (rs := [4]) (by kernel_rfl) (by simp) ?_;refine AllReadyH.cons rfl (fun Kc hKc=>?_) AllReadyH.nil;go_simp;refine (tabk_any (HA.out.under (bto HB2.out hH53.1))).mono ?_;rintro e wc56 ⟨rfl,hWwc56⟩;have hbwc56:Below wc52.heap.size wc52 wc56:=by rw[← hWwc56];exact Below.refl _ _
    clear hWwc56;dsimp only;have HBWwc56:=Hd hbwc56;have hbewc56:=bto hH53.1 hbwc56;have hcewc56:=(HBL.out.under hbewc56).one.1;refine hKc.out _ _ ⟨hbewc56,hcewc56⟩ (fun hH57=>?_);clear hKc Kc hbewc56 hcewc56 hbwc56
    try simp only[Act.put,ya,yb,yc]
    refine wpAnyH_ready (rs := [6]) (by kernel_rfl) (by simp) ?_;refine AllReadyH.cons rfl (fun Kc hKc=>?_) AllReadyH.nil;go_simp;refine (most_any A1 N c1 g.C wc56 (Reads.of_own (own_under HO2.out hH57.1)) hN0 hN4 HWF.out).mono ?_;rintro e wc58 ⟨rfl,hbwc58⟩;dsimp only;have HBWwc58:=Hd hbwc58;have hbewc58:=bto hH57.1 hbwc58;have hcewc58:=(HBL.out.under hbewc58).one.1;refine hKc.out _ _ ⟨hbewc58,hcewc58⟩ (fun hH59=>?_);clear hKc Kc hbewc58 hcewc58 hbwc58
    try simp only[Act.put,ya,yb,yc]
    refine wpAnyH_ready (rs := [7]) (by kernel_rfl) (by simp) ?_;refine AllReadyH.cons rfl (fun Kc hKc=>?_) AllReadyH.nil;go_simp;refine (tnew_any AZ54 m cz55 g.sizes K (mostL g.C) wc58 hm6 (Reads.of_own (own_under (own_under HOZwc52.out HBWwc56.out) HBWwc58.out)) HZ.out.2 (most_in HG.out)).mono ?_;rintro e wc60 ⟨g62,rfl,htwc60,hbwc60⟩;have HTNwc60:=Hd (htwc60.mono fun q h=>Nat.le_trans hH59.1.size h);clear htwc60;dsimp only;have HBWwc60:=Hd hbwc60;have hbewc60:=bto hH59.1 hbwc60;have hcewc60:=(HBL.out.under hbewc60).one.1;refine hKc.out _ _ ⟨hbewc60,hcewc60⟩ (fun hH61=>?_);clear hKc Kc hbewc60 hcewc60 hbwc60
    try simp only[Act.put,ya,yb,yc]
    refine takes [8,9,10] hH61 (by kernel_rfl) (fun _ _ _ _ _ h=>h) ?_
    iterate 3
     conv=>whnf
     refine⟨?_,.inl ⟨by kernel_rfl,fun w hSw=>?_⟩,?_⟩
     rotate_left
     ·(try dsimp only at hSw);go_simp;try with_reducible rfl
     try simp only[Act.put,ya,yb,yc]
    refine Yt.nil ?_;obtain⟨yc,yf⟩:=(((((HBKwl49.out.under HBWwc52.out).under HBWwc56.out).under HBWwc58.out).under HBWwc60.out)).one;refine wpAnyH_ready (rs := [12]) (by kernel_rfl) (by simp) ?_;refine AllReadyH.cons rfl (fun Kc hKc=>?_) AllReadyH.nil;go_simp;have hxl:=HLEwl49.out;have hbs:=hH61.1.setCell (p:=⟨xl50,0,none⟩) hxl (.pointer (some ⟨g62,0,none⟩));refine hKc.out _ _ ⟨hbs,(HBL.out.under hbs).one.1⟩ (fun hHz=>?_);clear hKc Kc;refine takes [13] hHz (by kernel_rfl) (fun _ _ _ _ _ h=>h) ?_
    iterate 1
     conv=>whnf
     refine⟨?_,.inl ⟨by kernel_rfl,fun w hSw=>?_⟩,?_⟩
     rotate_left
     ·(try dsimp only at hSw);go_simp;try with_reducible rfl
     try simp only[Act.put,ya,yb,yc]
    refine Yt.nil ?_;refine wpAnyH_done (by kernel_rfl) ?_ _;go_simp
    try go_wp2_with fail
    go_meet
    case rel=>exact⟨xl50,g62,rfl,rfl,(((((HBKwl49.out.under HBWwc52.out).under HBWwc56.out).under HBWwc58.out).under HBWwc60.out)).set_ 0 _,HTNwc60.out.off (S:=fun q=>q=xl50) (Tch.set_ _ (p:=⟨xl50,0,none⟩) _ rfl) (fun q e=>by subst e;exact⟨_,_,((((HBKwl49.out.under HBWwc52.out).under HBWwc56.out).under HBWwc58.out).under HBWwc60.out),by decide,by decide⟩),hbs⟩
  ·go_simp
   obtain⟨xl66,hxl66⟩:∃x,wz.heap.size=x:=⟨_,rfl⟩;have hbkwl65:Blk (wz.alloc (.cells #[.pointer none] 35)) xl66 35 #[.pointer none]:=by rw[← hxl66];exact Blk.new _ _ _
   have hbnwl65:=bone wz (.cells #[.pointer none] 35);have hbewl65:=bnew hHeld.1 (.cells #[.pointer none] 35);have hcewl65:=(HBL.out.under hbewl65).one.1;have HLEwl65:Hid (w2.heap.size≤xl66):=by rw[Hid,← hxl66];exact hHeld.1.size
   try rw[hxl66]
   obtain⟨wl65,hwl65⟩:∃x,wz.alloc (.cells #[.pointer none] 35)=x:=⟨_,rfl⟩;rw[hwl65]at hbkwl65 hbnwl65 hbewl65 hcewl65 ⊢;have HBKwl65:=Hd hbkwl65;have HBNwl65:=Hd hbnwl65;clear hwl65 hxl66 hbkwl65 hbnwl65;refine hKc.out _ _ ⟨hbewl65,hcewl65⟩ (fun hH67=>?_);clear hKc Kc hbewl65 hcewl65
   try simp only[Act.put,ya,yb,yc]
   refine wpAnyH_ready (rs := [1]) (by kernel_rfl) (by simp) ?_;refine AllReadyH.cons rfl (fun Kc hKc=>?_) AllReadyH.nil;go_simp;refine (tabshape_any (HTB.out.under (bto HB2.out hH67.1))).mono ?_;rintro e wc68 ⟨rfl,hbwc68⟩;dsimp only;have HBWwc68:=Hd hbwc68;have hbewc68:=bto hH67.1 hbwc68;have hcewc68:=(HBL.out.under hbewc68).one.1;refine hKc.out _ _ ⟨hbewc68,hcewc68⟩ (fun hH69=>?_);clear hKc Kc hbewc68 hcewc68 hbwc68
   try simp only[Act.put,ya,yb,yc]
   refine wpAnyH_ready (rs := [2]) (by kernel_rfl) (by simp) ?_;refine AllReadyH.cons rfl (fun Kc hKc=>?_) AllReadyH.nil;go_simp;refine (shp.sizes_any SA m sa g.sizes wc68 (by omega) (Reads.of_own (own_under HTS.out (bto HB2.out hH69.1)))).mono ?_;rintro e wc70 ⟨AZ72,cz73,rfl,howc70,hbwc70⟩
   try rw[HM.out]at howc70 ⊢
   have HOZwc70:=Hd howc70;clear howc70;dsimp only;have HBWwc70:=Hd hbwc70;have hbewc70:=bto hH69.1 hbwc70;have hcewc70:=(HBL.out.under hbewc70).one.1;refine hKc.out _ _ ⟨hbewc70,hcewc70⟩ (fun hH71=>?_);clear hKc Kc hbewc70 hcewc70 hbwc70
   try simp only[Act.put,ya,yb,yc]
   refine wpAnyH_ready (rs := [4]) (by kernel_rfl) (by simp) ?_;refine AllReadyH.cons rfl (fun Kc hKc=>?_) AllReadyH.nil;go_simp;refine (tabk_any (HA.out.under (bto HB2.out hH71.1))).mono ?_;rintro e wc74 ⟨rfl,hWwc74⟩;have hbwc74:Below wc70.heap.size wc70 wc74:=by rw[← hWwc74];exact Below.refl _ _
   clear hWwc74;dsimp only;have HBWwc74:=Hd hbwc74;have hbewc74:=bto hH71.1 hbwc74;have hcewc74:=(HBL.out.under hbewc74).one.1;refine hKc.out _ _ ⟨hbewc74,hcewc74⟩ (fun hH75=>?_);clear hKc Kc hbewc74 hcewc74 hbwc74
   try simp only[Act.put,ya,yb,yc]
   refine wpAnyH_ready (rs := [6]) (by kernel_rfl) (by simp) ?_;refine AllReadyH.cons rfl (fun Kc hKc=>?_) AllReadyH.nil;go_simp;refine (most_any A1 N c1 g.C wc74 (Reads.of_own (own_under HO2.out hH75.1)) hN0 hN4 HWF.out).mono ?_;rintro e wc76 ⟨rfl,hbwc76⟩;dsimp only;have HBWwc76:=Hd hbwc76;have hbewc76:=bto hH75.1 hbwc76;have hcewc76:=(HBL.out.under hbewc76).one.1;refine hKc.out _ _ ⟨hbewc76,hcewc76⟩ (fun hH77=>?_);clear hKc Kc hbewc76 hcewc76 hbwc76
   try simp only[Act.put,ya,yb,yc]
   refine wpAnyH_ready (rs := [7]) (by kernel_rfl) (by simp) ?_;refine AllReadyH.cons rfl (fun Kc hKc=>?_) AllReadyH.nil;go_simp;refine (tnew_any AZ72 m cz73 g.sizes K (mostL g.C) wc76 hm6 (Reads.of_own (own_under (own_under HOZwc70.out HBWwc74.out) HBWwc76.out)) HZ.out.2 (most_in HG.out)).mono ?_;rintro e wc78 ⟨g80,rfl,htwc78,hbwc78⟩;have HTNwc78:=Hd (htwc78.mono fun q h=>Nat.le_trans hH77.1.size h);clear htwc78;dsimp only;have HBWwc78:=Hd hbwc78;have hbewc78:=bto hH77.1 hbwc78;have hcewc78:=(HBL.out.under hbewc78).one.1;refine hKc.out _ _ ⟨hbewc78,hcewc78⟩ (fun hH79=>?_);clear hKc Kc hbewc78 hcewc78 hbwc78
   try simp only[Act.put,ya,yb,yc]
   refine takes [8,9,10] hH79 (by kernel_rfl) (fun _ _ _ _ _ h=>h) ?_
   iterate 3
    conv=>whnf
    refine⟨?_,.inl ⟨by kernel_rfl,fun w hSw=>?_⟩,?_⟩
    rotate_left
    ·(try dsimp only at hSw);go_simp;try with_reducible rfl
    try simp only[Act.put,ya,yb,yc]
   refine Yt.nil ?_;obtain⟨yc,yf⟩:=((((((HBKwl65.out.under HBWwc68.out).under HBWwc70.out).under HBWwc74.out).under HBWwc76.out).under HBWwc78.out)).one;refine wpAnyH_ready (rs := [12]) (by kernel_rfl) (by simp) ?_;refine AllReadyH.cons rfl (fun Kc hKc=>?_) AllReadyH.nil;go_simp;have hxl:=HLEwl65.out;have hbs:=hH79.1.setCell (p:=⟨xl66,0,none⟩) hxl (.pointer (some ⟨g80,0,none⟩));refine hKc.out _ _ ⟨hbs,(HBL.out.under hbs).one.1⟩ (fun hHz=>?_);clear hKc Kc;refine takes [13] hHz (by kernel_rfl) (fun _ _ _ _ _ h=>h) ?_
   iterate 1
    conv=>whnf
    refine⟨?_,.inl ⟨by kernel_rfl,fun w hSw=>?_⟩,?_⟩
    rotate_left
    ·(try dsimp only at hSw);go_simp;try with_reducible rfl
    try simp only[Act.put,ya,yb,yc]
   refine Yt.nil ?_;refine wpAnyH_done (by kernel_rfl) ?_ _;go_simp
   try go_wp2_with fail
   go_meet
   case rel=>exact⟨xl66,g80,rfl,rfl,((((((HBKwl65.out.under HBWwc68.out).under HBWwc70.out).under HBWwc74.out).under HBWwc76.out).under HBWwc78.out)).set_ 0 _,HTNwc78.out.off (S:=fun q=>q=xl66) (Tch.set_ _ (p:=⟨xl66,0,none⟩) _ rfl) (fun q e=>by subst e;exact⟨_,_,(((((HBKwl65.out.under HBWwc68.out).under HBWwc70.out).under HBWwc74.out).under HBWwc76.out).under HBWwc78.out),by decide,by decide⟩),hbs⟩
 case rest =>
  obtain⟨x4,g2,rfl,rfl,hbu,htp,hbc⟩:=hcut;have HBC:=Hd hbc;have HBC0:=Hd (bto HB2.out hbc);have hsh:=tabshape_any (HTB.out.under HBC0.out);have HBU:=Hd hbu;have HTP:=Hd htp;clear hbc hbu htp cl;go_wp2_with fail;refine hsh.mono ?_;rintro e w5 ⟨rfl,hb5⟩;clear hsh;have hall:=shp.all_any SA m sa w5;have HB5:=Hd hb5;clear hb5;go_wp2_with fail;refine hall.mono ?_;rintro e w6 ⟨rfl,hw6⟩;clear hall;have HW6:=Hd hw6;clear hw6;go_wp2_with fail;have hB6:Below w5.heap.size w5 w6:=by rw[← HW6.out];exact bone w5 _
  have hgx:Blk w6 w5.heap.size 115 #[.slice SA m sa]:=by rw[← HW6.out];exact Blk.new _ _ _
  have hBc6:Below wc.heap.size wc w6:=bto HB5.out hB6;have hB26:Below w2.heap.size w2 w6:=bto HBC.out hBc6;have hs6:=own_under HTS.out (bto HB2.out hB26);have hbu6:=HBU.out.under hBc6;have hbl6:=HBL.out.under hB26;have ho6:=own_under HO2.out hB26;obtain⟨rb,rfl,hrb0,hrbl⟩:=own_some ho6 hN0;have hmsa:m≤sa:=own_cap hs6;obtain⟨F6,hF6⟩:∃F6:Nat→Prop,∀i,F6 i↔(w2.heap.size≤i∧i<w6.heap.size):=⟨_,fun i=>Iff.rfl⟩;have htp6:TpV w6 g2 F6 0 ⟨g.sizes,K,mostL g.C,fun _=>none⟩:=((HTP.out.under hBc6).lim).mono fun k h=>(hF6 k).2 h
  obtain⟨S,hS⟩:∃S:Nat→Prop,∀i,S i↔(w6.heap.size≤i∨(w2.heap.size≤i∧∀t cs,¬ Blk w6 i t cs)):=⟨_,fun i=>Iff.rfl⟩
  have hSB:∀ (i:Nat) (t:TypeId) (cs:Array Value),Blk w6 i t cs→¬ S i:=fun _ _ _ hb h=>by
   rcases (hS _).1 h with h | h
   ·have:=hb.lt;omega
   ·exact h.2 _ _ hb
  have HS:=Hd hS;have HF6:=Hd hF6;have HSB:=Hd hSB;have hwide:=hB26.size;have hs65:w5.heap.size<w6.heap.size:=hgx.lt;refine (wpIn_wide (n:=4)).1 ?_
  refine' range_told (by omega) (gf:=150) (lb := #[.pointer (some ⟨w5.heap.size,0,none⟩)]) rfl (enters_of Tryz.func150 (by kernel_rfl) rfl)
   (shp.all_toldO (4-1) (by omega) w5.heap.size m sa N S SA g.sizes HZ.out hN HM.out hmsa (hSB _ _ _ hgx) w6 hgx hs6 (fun q hq=>by obtain⟨cs,hcs⟩:=own_is hs6 hq;exact hSB _ _ _ hcs))
   shp.tchK_t (shp.tchK_b fun i hi=>(hS i).2 (.inl hi)) (Below.refl _ _) (fun _=>rfl)
   (fun pre W=>Tch w6 W S∧TpV W g2 F6 (lineN g pre.length) ((((allI g.sizes).zip g.C).take pre.length).foldl putP ⟨g.sizes,K,mostL g.C,fun _=>none⟩)) (fun _ _ _=>False) ?hI (fun _ _ _ _ _ hs _ _=>hs) (fun _ _ _ _ h=>h.2.2.1)
   (fun pre x W=>(Tch w6 W S∧TpV W g2 F6 (lineN g pre.length) ((((allI g.sizes).zip g.C).take pre.length).foldl putP ⟨g.sizes,K,mostL g.C,fun _=>none⟩))∧x.1=pre.length∧(x.1:Int)<N∧W.ownsRow w6.heap.size 3 1 (.slice (some ⟨x.2,0,none⟩) m m) m (nums (tupI g.sizes x.1))) ?hZ ?hIZ ⟨Tch.refl _ _,htp6⟩
   _ ?assign ?body ?done ?stop
  case hI =>
   rintro pre W W' row ⟨h1,h2⟩ hg hrow;exact⟨h1.trans (Tch.of_grown hg fun i _ e=>(hS i).2 (.inl (hrow i e.symm).1)) fun _ _ h=>h,h2.keep (Tch.of_grown hg (S:=fun i=>w6.heap.size≤i) fun i _ e=>(hrow i e.symm).1) fun k hk h=>by have:=(hF6 k).1 hk;omega⟩
  case hZ =>
   rintro pre x _ W W' row ⟨⟨h1,h2⟩,h3,h4,h5⟩ hg hrow;exact⟨⟨h1.trans (Tch.of_grown hg fun i _ e=>(hS i).2 (.inl (hrow i e.symm).1)) fun _ _ h=>h,h2.keep (Tch.of_grown hg (S:=fun i=>w6.heap.size≤i) fun i _ e=>(hrow i e.symm).1) fun k hk h=>by have:=(hF6 k).1 hk;omega⟩,h3,h4,own_kept h5 hg fun r e=>(hrow r e).2⟩
  case hIZ =>
   rintro pre x W0 W1 ⟨h1,h2⟩ ⟨h3,h4,h5,h6⟩ hle;rw[hN]at h4;exact⟨⟨h1.trans (Tch.of_below h5 S) fun _ _ h=>h,h2.under h5⟩,h3,h4,own_base h6 hle⟩
  case assign =>
   intro l x W K hK;dsimp only[shp.encT]
   gi_wp2
   exact hK
  case body =>
   rintro l pre ⟨i,q⟩ W hl' ⟨⟨hT,hTp⟩,hi,hiN,hox⟩ hlen;dsimp only at hi hiN hox ⊢;subst hi;obtain⟨kk,hkk⟩:∃kk,pre.length=kk:=⟨_,rfl⟩;rw[hkk]at hTp hiN hox hlen ⊢;obtain⟨x,hx⟩:∃x,tupI g.sizes (kk:Int)=x:=⟨_,rfl⟩;have hxT:=shp.tup_in HZ.out (kk:Int);have hxat:=shp.all_at HZ.out kk (by rw[hN];exact hiN);rw[hx]at hox hxT hxat;have hxI:=int_ins hxT;have hzip:((allI g.sizes).zip g.C)[kk]?=some (x,f x):=by rw[HGC.out];exact zip_at hxat
   have hck:g.C[kk]?=some (f x):=(List.getElem?_zip_eq_some.1 hzip).2;have hfx:=HFIN.out x hxI;have hdr:Below W.heap.size W W.drew:=(Below.refl _ _).drew;obtain⟨wh,hwh⟩:∃wh,W.drew=wh:=⟨_,rfl⟩;rw[hwh]at hdr;have eu:=((hT.blk hbu6 (hSB _ _ _ hbu6)).under hdr).one.1;have el:=((hT.blk hbl6 (hSB _ _ _ hbl6)).under hdr).one.1;have hoW:W.ownsRow w.heap.size 2 1 (.slice (some ⟨rb,0,none⟩) N c1) N (nums g.C):=hT.own ho6 fun p hp=>by obtain⟨cs,hcs⟩:=own_is ho6 hp;exact hSB _ _ _ hcs
   have ec:=((own_under hoW hdr).cellAt kk (by omega)).trans (show (nums g.C)[kk]?=some (.int .i64 (f x)) by rw[nums,List.getElem?_map,hck];rfl);obtain⟨T0,hT0⟩:∃T0,(((allI g.sizes).zip g.C).take kk).foldl putP ⟨g.sizes,K,mostL g.C,fun _=>none⟩=T0:=⟨_,rfl⟩;obtain⟨s1,s2,s3⟩:=putP_same (((allI g.sizes).zip g.C).take kk) ⟨g.sizes,K,mostL g.C,fun _=>none⟩;rw[hT0]at hTp s1 s2 s3;dsimp only at s1 s2 s3;have hok:okT T0:=by unfold okT;rw[s1,s2,s3];exact⟨HZ.out.1,HZ.out.2,most_in HG.out⟩
   have hput:=tput2_any (hTp.under hdr) hok (some ⟨q,0,none⟩) m m x (f x) (Reads.of_own (own_under hox hdr)) (by rw[s1];exact hxI) (by rw[s2];exact hfx) (by have:=lineN_le g kk;omega);have HPS:=Hd (putP_step (T:=⟨g.sizes,K,mostL g.C,fun _=>none⟩) hzip);have HLS:=Hd (lineN_step hzip);have HT:=Hd hT;have HKK:=Hd hkk;have HT0:=Hd hT0;have HS3:=Hd s3;have HDR:=Hd hdr;have i0:(0:Int)≤(kk:Int):=by omega
   have HLN:Hid (∀W',Tch wh W' (fun k=>F6 k∧∀t cs,¬ Blk wh k t cs)→W'.cell? ⟨x4,0,none⟩=some (.pointer (some ⟨g2,0,none⟩))∧W'.cell? ⟨w1.heap.size,0,none⟩=some (.slice (some ⟨rb,0,none⟩) N c1)∧W'.cell? ⟨rb,kk,none⟩=some (.int .i64 (f x))):=fun W' hW'=>by
    have b1:=(hT.blk hbu6 (hSB _ _ _ hbu6)).under hdr;have b2:=(hT.blk hbl6 (hSB _ _ _ hbl6)).under hdr;have b3:=own_under hoW hdr;refine⟨(hW'.blk b1 fun h=>h.2 _ _ b1).one.1,(hW'.blk b2 fun h=>h.2 _ _ b2).one.1,?_⟩;exact ((hW'.own b3 fun p hp h=>by obtain⟨cs,hcs⟩:=own_is b3 hp;exact h.2 _ _ hcs).cellAt kk (by omega)).trans (show (nums g.C)[kk]?=some (.int .i64 (f x)) by rw[nums,List.getElem?_map,hck];rfl)
   clear hT hTp hxT hxat hx hkk hxI hzip hck hfx hoW hT0 s1 s2 s3 hok hox hdr
   gi_upto_region 8 with fail
   refine wpIn_region_round (by kernel_rfl) (by kernel_rfl) (by rintro ⟨a,w',h⟩;exact h) ?_;rw[hwh];clear hwh;have hHeld:wh.cell? ⟨x4,0,none⟩=some (.pointer (some ⟨g2,0,none⟩))∧wh.cell? ⟨w1.heap.size,0,none⟩=some (.slice (some ⟨rb,0,none⟩) N c1)∧wh.cell? ⟨rb,kk,none⟩=some (.int .i64 (f x)):=⟨eu,el,ec⟩;refine wpAny_of_held (S:=(fun W'=>W'.cell? ⟨x4,0,none⟩=some (.pointer (some ⟨g2,0,none⟩))∧W'.cell? ⟨w1.heap.size,0,none⟩=some (.slice (some ⟨rb,0,none⟩) N c1)∧W'.cell? ⟨rb,kk,none⟩=some (.int .i64 (f x)))) _ _ _ _ ?_;refine takes [0,1,2,3,4,5] hHeld (by kernel_rfl) (fun _ _ _ _ _ h=>h) ?_
   iterate 6
    conv=>whnf
    refine⟨?_,.inl ⟨by kernel_rfl,fun w hSw=>?_⟩,?_⟩
    rotate_left
    ·(try dsimp only at hSw);go_simp;try with_reducible rfl
    try simp only[Act.put,ya,yb,yc]
   refine Yt.nil ?_;refine wpAnyH_ready (rs := [6]) (by kernel_rfl) (by simp) ?_;refine AllReadyH.cons rfl (fun K hK=>?_) AllReadyH.nil;go_simp;refine hput.mono ?_;rintro e wf ⟨rfl,htf,hTf⟩;dsimp only;refine hK.out _ _ (HLN.out wf hTf) (fun hHeldf=>?_);clear hK K hput;refine wpAnyH_done (by kernel_rfl) ?_ _;have T0':Tch W wf (fun k=>F6 k∧∀t cs,¬ Blk wh k t cs):=(Tch.of_below HDR.out _).trans hTf fun _ _ h=>h
   have T2:Tch W wf S:=T0'.mono fun k hk h=>(HS.out k).2 (.inr ⟨((HF6.out k).1 h.1).1,fun t cs hb=>h.2 t cs ((HT.out.blk hb (HSB.out _ _ _ hb)).under HDR.out)⟩)
   refine⟨keeps_tch T0' fun k h=>((HF6.out k).1 h.1).2,T2,HT.out.trans T2 fun _ _ h=>h,?_⟩;rw[List.length_append,HKK.out,show kk + [(kk,q)].length=kk+1 from rfl,HPS.out,HLS.out,HT0.out];rw[HS3.out]at htf;exact htf
  case done =>
   rintro D ys W hD hlen ⟨hT,hTp⟩ hDK;have hzl:((allI g.sizes).zip g.C).length≤N:=by rw[List.length_zip];have:=HCL.out;omega
   rw[hlen,List.take_of_length_le hzl,lineN_all g hzl,of_tp HG.out]at hTp;have eu:=(hT.blk hbu6 (hSB _ _ _ hbu6)).one.1
   have hBW:Below w.heap.size w W:=(bto HB2.out hB26).trans (hT.below (bto HB2.out hB26).size fun i hi h=>by
    have z1:=HB2.out.size;rcases (hS i).1 h with h | h
    ·omega
    ·omega)
   have HBW:=Hd hBW;have HTP2:=Hd hTp;have HDK:=Hd hDK;have HDL:Hid (w6.heap.size≤D):=hD;have HWS:Hid (w.heap.size≤w2.heap.size∧w2.heap.size≤w6.heap.size):=⟨HB2.out.size,hwide⟩;clear hT hTp hBW hDK;go_wp2_with fail;refine⟨by simp,.inl ⟨_,_,rfl,run_takeDeferred HDK.out,?_⟩⟩;have hfin:Tch W (W.putObj D (.deferred none)) (fun i=>i=D):=Tch.of_grown (grownBy_putObj' W D _) fun i _ e=>by injection e
   refine⟨_,results_tmp rfl _ _ _,g2,rfl,?_,?_⟩
   ·exact (HTP2.out.keep hfin fun k hk e=>by have:=(HF6.out k).1 hk;have:=HDL.out;omega).mono fun k hk=>by have:=(HF6.out k).1 hk;have:=HWS.out;omega
   ·exact HBW.out.trans (hfin.below HBW.out.size fun i hi h=>by have z2:=HDL.out;have z3:=HWS.out;omega)
  case stop =>
   rintro D c pre W _ _ h _;exact h.elim
end Go.Proofs.YtjpkkkphhaajgaaGreatDoor.wcp
