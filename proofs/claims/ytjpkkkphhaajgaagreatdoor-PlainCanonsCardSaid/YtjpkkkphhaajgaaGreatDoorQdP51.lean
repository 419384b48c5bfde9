/- a part -/
import Derived.Test.YtjpkkkphhaajgaaGreatDoorQdCanonsEnd
import Derived.Test.YtjpkkkphhaajgaaGreatDoorQdP49
import Derived.Test.YtjpkkkphhaajgaaGreatDoorQdAwk8
set_option linter.all false
namespace Go.Proofs.YtjpkkkphhaajgaaGreatDoor.wcp
open Go RowKit Shelf ChangeShapes WideShapes ChangeAt Maps words scn
open shp (Szs prodI InT idxI tupI allI)
theorem eqB_self (l:List Int):eqB l l=true:=decide_eq_true rfl
theorem raw_tab {g:CF}{zs:List Int}{K:Int}(h:GoodC zs K g):tabF g.sizes (tpOf (rawC g) K (linesC g)).get=g.C:=by
 obtain⟨f,hf,-⟩:=h.tab;rw[hf];exact tabF_congr (fun z hz=>(h.szs.2 z hz).1) fun t ht=>raw_get h hf ht
set_option maxRecDepth 1000000 in
set_option maxHeartbeats 16000000 in
theorem canons_mid {w w0:World}{gf gx gg n pc nW cW BX:Nat}{P A:Option Addr}{f:Fil}{SA FA SG FG:Option Addr}{sc fc sg fg:Nat}{V U:List FT}{X:List JT}(hw:Below w.heap.size w w0)(h1:FilW w0 gf f SA sc FA fc V)(h2:FilW w0 gg (canonF f) SG sg FG fg U)(hx:QFileV w0 BX gx f)(hok:OkFile f)(hlin:linesOf f.funs≤16384)(hn:n≤140737488351232)
 (hrow:w0.ownsRow w.heap.size 52 3 (.slice A nW cW) nW (jcells X)) (hX:X.length=nW) (hgr:∀p∈X,GR w0 w.heap.size p) (hmap:X.map (·.2)=canonL f.sizes f.k f.funs)
 {k1 k2 k6 k8 k9 kA kB kC kD kE kF kG kH kI kJ kK kL kM kN kO kP kQ kR kS kT kU kV kW kX kY kZ ka kb kc kd ke kf kg kh ki kj kk kl km kn ko kp kq kr ks kt ku kv kw kx ky kz j0 j1 j2 j3 j4 j5 j6 j7 j8 j9 jA jB jC jD jE jF jG jH jI jJ jK jL jM jN jO jP jQ jR jS jT jU jV jW jX jY jZ ja jb jc jd je jf jg jh ji jj jk jl jm jn jo jp jq jr js jt ju jv jw jx jy jz z0 z1 z2 z3 z4 z5 z6 z7 z8 z9 zA zB zC zD zE zF zG zH zI zJ zK zL zM zN zO zP zQ zR zS zT zU zV zW zX zY zZ za zb zc zd ze zf zg zh zi zj zk zl zm zn zo zp zq zr zs zt zu zv zw zx zy zz y0 y1 y2 y3 y4 y5 y6 y7 y8 y9 yA yB yC yD yE yF yG yH yI yJ yK yL yM yN yO yP yQ yR yS:Value} :
 Code.wp Tryz.prog (sfx 7 cbody) (bodyPost Tryz.prog Tryz.f4 fun e w'=>e = .returned (.bool true)∧Below w.heap.size w w') ⟨#[.slice P n pc,k1,k2,.pointer (some ⟨gf,0,none⟩),.pointer (some ⟨gx,0,none⟩),.pointer (some ⟨gg,0,none⟩),k6,.slice A nW cW,k8,k9,kA,kB,kC,kD,kE,kF,kG,kH,kI,kJ,kK,kL,kM,kN,kO,kP,kQ,kR,kS,kT,kU,kV,kW,kX,kY,kZ,ka,kb,kc,kd,ke,kf,kg,kh,ki,kj,kk,kl,km,kn,ko,kp,kq,kr,ks,kt,ku,kv,kw,kx,ky,kz,j0,j1,j2,j3,j4,j5,j6,j7,j8,j9,jA,jB,jC,jD,jE,jF,jG,jH,jI,jJ,jK,jL,jM,jN,jO,jP,jQ,jR,jS,jT,jU,jV,jW,jX,jY,jZ,ja,jb,jc,jd,je,jf,jg,jh,ji,jj,jk,jl,jm,jn,jo,jp,jq,jr,js,jt,ju,jv,jw,jx,jy,jz,z0,z1,z2,z3,z4,z5,z6,z7,z8,z9,zA,zB,zC,zD,zE,zF,zG,zH,zI,zJ,zK,zL,zM,zN,zO,zP,zQ,zR,zS,zT,zU,zV,zW,zX,zY,zZ,za,zb,zc,zd,ze,zf,zg,zh,zi,zj,zk,zl,zm,zn,zo,zp,zq,zr,zs,zt,zu,zv,zw,zx,zy,zz,y0,y1,y2,y3,y4,y5,y6,y7,y8,y9,yA,yB,yC,yD,yE,yF,yG,yH,yI,yJ,yK,yL,yM,yN,yO,yP,yQ,yR,yS],[]⟩ w0:=by
 obtain⟨vz,vf,UQ,hUQ,hfb,-,⟨GA,gc,rfl⟩,-,-⟩:=hx;have hok2:=canon_ok hok;have hcp:=canonL_p (K:=f.k) hok.fs
 have hnW:nW≤256:=by
  have h3:=congrArg List.length hmap;rw[List.length_map,hX]at h3;have h4:=canonL_len f.sizes f.k f.funs;have:=hok.n;omega
 have HW:=Hd hw;have HF:=Hd h1;have HG:=Hd h2;have HFB:=Hd hfb;have HOK:=Hd hok;have HLI:=Hd hlin;have HOK2:=Hd hok2;have HCP:=Hd hcp;have HROW:=Hd hrow;have HX:=Hd hX;have HGR:=Hd hgr;have HMAP:=Hd hmap;have H3:=Hd (GR.is3 hgr);clear hw h1 h2 hUQ hfb hok hlin hok2 hcp hrow hX hgr hmap
 conv=>arg 2;whnf
 go_wp2_with fail
 go_loopw [87] (fun iv wr => ∃i:Nat,iv = .int .i64 i∧i≤nW∧Hid (Below w0.heap.size w0 wr)) (fun iv _=>nW-(intOf iv).toNat)
 case atStart=>exact⟨0,rfl,Nat.zero_le _,Below.refl _ _⟩
 case round =>
  obtain⟨i,rfl,hi,HB⟩:=hrel;obtain⟨wl,rfl⟩:∃wl,wl=wr:=⟨_,rfl⟩;by_cases hli:i<nW
  ·obtain⟨p,hp⟩:∃p,X[i]?=some p:=⟨_,List.getElem?_eq_getElem (by rw[HX.out];exact hli)⟩
   have hgc:(canonL f.sizes f.k f.funs)[i]?=some p.2:=by rw[← HMAP.out,List.getElem?_map,hp];rfl
   have hgm:=List.mem_of_getElem? hgc;have hgood:=HCP.out.good p.2 hgm;obtain⟨v1,v2,v3,ep,⟨⟨A1,c1,rfl⟩,ho1⟩,⟨⟨A2,c2,rfl⟩,ho2⟩,⟨A3,c3,rfl⟩,ho3⟩:=HGR.out p (List.mem_of_getElem? hp);obtain⟨qx,rfl,-,-⟩:=own_some HROW.out (by omega);obtain⟨d0,d1,d2⟩:=row3_cells (own_under HROW.out HB.out) HX.out H3.out hp ep
   have hUl:U.length=nW:=by
    have h3:=congrArg List.length HG.out.1;have h4:=congrArg List.length HMAP.out;rw[List.length_map]at h3 h4;rw[h3];show ((canonL f.sizes f.k f.funs).map rawC).length=nW;rw[List.length_map,← h4,HX.out]
   obtain⟨u,hu⟩:∃u,U[i]?=some u:=⟨_,List.getElem?_eq_getElem (by omega)⟩;obtain⟨uv,lo,hh,ux⟩:=u
   have hux:ux=rawC p.2:=by
    have h3:=congrArg (fun l:List Raw=>l[i]?) HG.out.1;simp only[List.getElem?_map,hu]at h3
    have h4:(canonF f).funs[i]?=some (rawC p.2):=by
     show ((canonL f.sizes f.k f.funs).map rawC)[i]?=_;rw[List.getElem?_map,hgc];rfl
    rw[h4]at h3;injection h3
   subst hux;have hfv:=HG.out.2.2.2.2 _ (List.mem_of_getElem? hu);obtain⟨w1,tg,eu,⟨⟨A4,c4,rfl⟩,ho4⟩,-,hT⟩:=hfv;dsimp only at eu ho4 hT;subst eu;have hV2:∀r∈U,∃x y,r.1 = .agg #[x,y]:=fun r hr=>by obtain⟨v1,tg,e,-⟩:=HG.out.2.2.2.2 r hr;exact⟨_,_,e⟩
   obtain⟨e0,e1⟩:=fc_at hV2 hu;obtain⟨qu,rfl,-,-⟩:=own_some HG.out.2.2.2.1 (by omega);have hru:=own_under HG.out.2.2.2.1 HB.out;have m0:=(hru.cellAt (i*2) (by omega)).trans e0;have m1:=(hru.cellAt (i*2+1) (by omega)).trans e1;obtain⟨-,-,-,x3,-⟩:=Blk.four (t:=34) ((HG.out.2.1).under HB.out);obtain⟨-,y1,-,-,-⟩:=Blk.four (t:=49) (HFB.out.under HB.out);rw[hUl]at x3;have hokr:=(HOK2.out.fs (rawC p.2) (by rw[← HG.out.1];exact List.mem_map.2 ⟨_,List.mem_of_getElem? hu,rfl⟩)).1;obtain⟨ts1,ts2,ts3⟩:=tpOf_same (rawC p.2) (canonF f).k (rawC p.2).lines;have htab:=raw_tab hgood;have hin:=most_in hgood;obtain⟨s1,hs1⟩:∃s,p.2.scope.length=s:=⟨_,rfl⟩;obtain⟨s2,hs2⟩:∃s,p.2.sizes.length=s:=⟨_,rfl⟩;obtain⟨s3,hs3⟩:∃s,p.2.C.length=s:=⟨_,rfl⟩;have hs1b:s1≤6:=by have h3:=hgood.szs.1;rw[hgood.sizes,szOf_len,hs1]at h3;exact h3
   have hs3b:s3≤4096:=by
    obtain⟨fg,eg,-⟩:=hgood.tab;have h3:=tabF_len hgood.szs fg;have h4:=hgood.prod;rw[← eg,hs3]at h3;omega
   have h0':(0:Int)≤(i:Int):=Int.natCast_nonneg _;have h1':(i:Int)<(nW:Int):=by omega
   rw[hs1]at d0 ho1;rw[hs2]at d1 ho2;rw[hs3]at d2 ho3;have e4:(rawC p.2).scope.length=s1:=hs1;rw[e4]at m0 ho4;have HO1:=Hd ho1;have HO2:=Hd ho2;have HO3:=Hd ho3;have HO4:=Hd ho4;have HT:=Hd hT;have HOKR:=Hd hokr;have HTS:=Hd (And.intro ts1 (And.intro ts2 ts3));have HTAB:=Hd htab;have HIN:=Hd hin;have HGOOD:=Hd hgood;have HS1:=Hd hs1;have HS3:=Hd hs3;obtain⟨yb,hyb⟩:∃yb,wl.heap.size=yb:=⟨_,rfl⟩;obtain⟨wy,hwy⟩:∃wy,wl.alloc (.cells #[.slice A1 s1 c1,.slice A2 s2 c2,.slice A3 s3 c3] 52)=wy:=⟨_,rfl⟩;have hby:Below wl.heap.size wl wy:=by rw[← hwy];exact bone wl _
   have hblk:Blk wy yb 52 #[.slice A1 s1 c1,.slice A2 s2 c2,.slice A3 s3 c3]:=by rw[← hwy,← hyb];exact Blk.new _ _ _
   have hbY:=bto HB.out hby;have htt:=ttable_any (HT.out.off (S:=fun _=>False) (Tch.of_below hbY _) fun q h=>h.elim) (ok_val hokr) (by rw[ts1];exact hgood.prod) hokr.2.2.2.2.2.2.1;have HBY:=Hd hbY;have HBL:=Hd hby;have HYB:=Hd hblk;have HTT:=Hd htt;have k0:wy.cell? ⟨gg,3,none⟩=some (.slice (some ⟨qu,0,none⟩) nW fg):=some_below hby x3;have k1:wy.cell? ⟨qu,i*2+1,none⟩=some (.pointer (some ⟨tg,0,none⟩)):=some_below hby m1;clear hp hgc hgm hgood ep ho1 ho2 ho3 hu hV2 ho4 hT e0 e1 hru hokr htab hin hs1 hs2 hs3 htt hby hblk hbY ts1 ts2 ts3 e4 m1;go_upto_region 13 with fail
   try rw[hyb,hwy]
   clear hyb hwy d0 d1 d2;go_wp2_with fail;refine HTT.out.mono ?_;rintro e wt ⟨g2,rfl,htb,hbt⟩;have HBT:=Hd (bto HBY.out hbt);have HTB:=Hd htb;have HLT:=Hd (bto HBL.out hbt);have hyt:=HYB.out.under hbt;obtain⟨g0,g1,g2'⟩:=blk3 hyt
   have HK:Hid (∀W,Below wt.heap.size wt W→W.cell? ⟨gg,3,none⟩=some (.slice (some ⟨qu,0,none⟩) nW fg)∧W.cell? ⟨qu,i*2,none⟩=some (.slice A4 s1 c4)∧W.cell? ⟨qu,i*2+1,none⟩=some (.pointer (some ⟨tg,0,none⟩))∧W.cell? ⟨yb,0,none⟩=some (.slice A1 s1 c1)∧W.cell? ⟨yb,1,none⟩=some (.slice A2 s2 c2)∧W.cell? ⟨yb,2,none⟩=some (.slice A3 s3 c3)∧W.cell? ⟨gx,1,none⟩=some (.int .i64 f.k)):=fun W hW =>
    have hb:=bto HLT.out hW
    ⟨some_below hb x3,some_below hb m0,some_below hW (some_below hbt k1),some_below hW g0,some_below hW g1,some_below hW g2',some_below hb y1⟩
   clear hbt htb hyt k0 k1 x3 m0 y1 g0 g1 g2';go_upto_region 14 with fail;refine wp_region_held_drew (S:=fun W=>W.cell? ⟨gg,3,none⟩=some (.slice (some ⟨qu,0,none⟩) nW fg)∧W.cell? ⟨qu,i*2,none⟩=some (.slice A4 s1 c4)∧W.cell? ⟨qu,i*2+1,none⟩=some (.pointer (some ⟨tg,0,none⟩))∧W.cell? ⟨yb,0,none⟩=some (.slice A1 s1 c1)∧W.cell? ⟨yb,1,none⟩=some (.slice A2 s2 c2)∧W.cell? ⟨yb,2,none⟩=some (.slice A3 s3 c3)∧W.cell? ⟨gx,1,none⟩=some (.int .i64 f.k)) (by kernel_rfl) (HK.out _ (Below.refl _ _).drew) (fun hHeld=>?_);refine takes [0,1,2,3,4,5,6,7,8,9,10,11,12] hHeld (by kernel_rfl) (fun _ _ _ _ _ h=>h) ?_
   iterate 13
    conv=>whnf
    refine⟨?_,.inl ⟨by kernel_rfl,fun w hSw=>?_⟩,?_⟩
    rotate_left
    ·(try dsimp only at hSw);go_simp;try with_reducible rfl
    try simp only[Act.put,ya,yb,yc]
   refine Yt.nil ?_;have hE1:=fun W (hW:Below wt.heap.size wt W)=>equalI_any A4 A1 s1 s1 c4 c1 p.2.scope p.2.scope W (by omega) (by omega) (Reads.of_own (own_under HO4.out (bto HBT.out hW))) (Reads.of_own (own_under HO1.out (bto HBT.out hW)))
   obtain⟨wd,hwd⟩:∃wd,wt.drew=wd:=⟨_,rfl⟩;have hbd:Below wt.heap.size wt wd:=by rw[← hwd];exact (Below.refl _ _).drew
   have HBD:=Hd hbd;rw[hwd];rw[hwd]at hHeld;clear hwd hbd;refine wpAnyH_ready (rs := [13]) (by kernel_rfl) (by simp) ?_;refine AllReadyH.cons rfl (fun Kc hKc=>?_) AllReadyH.nil;go_simp
   with_reducible refine (hE1 wd HBD.out).mono ?_
   rintro e wa ⟨rfl,hba⟩;rw[eqB_self];dsimp only;have HBA:=Hd (bto HBD.out hba);clear hE1 hba;refine hKc.out _ _ (HK.out _ HBA.out) (fun hHa=>?_);clear hKc Kc
   try simp only[Act.put,ya,yb,yc]
   refine takes [14,15,16,17,19,20] hHa (by kernel_rfl) (fun _ _ _ _ _ h=>h) ?_
   iterate 6
    conv=>whnf
    refine⟨?_,.inl ⟨by kernel_rfl,fun w hSw=>?_⟩,?_⟩
    rotate_left
    ·(try dsimp only at hSw);go_simp;try with_reducible rfl
    try simp only[Act.put,ya,yb,yc]
   refine Yt.nil ?_;have e5:tabF (tpOf (rawC p.2) (canonF f).k (rawC p.2).lines).sizes (tpOf (rawC p.2) (canonF f).k (rawC p.2).lines).get=p.2.C:=by rw[HTS.out.1];exact HTAB.out
   have htb:=HTB.out;rw[e5]at htb;have hen:=entries_any (htb.keep (Tch.of_below HBA.out fun _=>False) (fun q _ h=>h) fun q _ h=>h) (by rw[HS3.out];exact hs3b);refine wpAnyH_ready (rs := [18]) (by kernel_rfl) (by simp) ?_;refine AllReadyH.cons rfl (fun Kc hKc=>?_) AllReadyH.nil;go_simp
   with_reducible refine hen.mono ?_
   rintro e wb ⟨A5,c5,rfl,ho5,hbb⟩;rw[HS3.out]at ho5 ⊢;dsimp only;have HBB:=Hd (bto HBA.out hbb);have HO5:=Hd ho5;clear hen hbb e5 htb ho5;refine hKc.out _ _ (HK.out _ HBB.out) (fun hHb=>?_);clear hKc Kc
   try simp only[Act.put,ya,yb,yc]
   have hE2:=equal64_any A5 A3 s3 s3 c5 c3 p.2.C p.2.C wb (by omega) (by omega) (Reads.of_own HO5.out) (Reads.of_own (own_under HO3.out (bto HBT.out HBB.out)));refine wpAnyH_ready (rs := [21]) (by kernel_rfl) (by simp) ?_;refine AllReadyH.cons rfl (fun Kc hKc=>?_) AllReadyH.nil;go_simp
   with_reducible refine hE2.mono ?_
   rintro e wc ⟨rfl,hbc⟩;rw[eqB_self];dsimp only;have HBC:=Hd (bto HBB.out hbc);clear hE2 hbc;refine hKc.out _ _ (HK.out _ HBC.out) (fun hHc=>?_);clear hKc Kc
   try simp only[Act.put,ya,yb,yc]
   refine takes [22,23,24,25,26,27,28,29,30,31,32,34,35,36,37,38,39,40,41,42] hHc (by kernel_rfl) (fun _ _ _ _ _ h=>h) ?_
   iterate 20
    conv=>whnf
    refine⟨?_,.inl ⟨by kernel_rfl,fun w hSw=>?_⟩,?_⟩
    rotate_left
    ·(try dsimp only at hSw);go_simp;try with_reducible rfl
    try simp only[Act.put,ya,yb,yc]
   refine Yt.nil ?_
   have hoth:(tpOf (rawC p.2) (canonF f).k (rawC p.2).lines).other=mostL p.2.C:=by
    rw[HTS.out.2.2];have h3:=HIN.out;unfold inB at h3;rw[decide_eq_true_eq]at h3;show min (mostL p.2.C) f.k=mostL p.2.C;omega
   obtain⟨M,hM⟩:∃M,mostL p.2.C=M:=⟨_,rfl⟩;have hot:=tother_any ((HT.out.off (S:=fun _=>False) (Tch.of_below (bto HBT.out HBC.out) _) fun q h=>h.elim));rw[hoth,hM]at hot;have hne:p.2.C ≠ []:=tab_ne HGOOD.out;have hms:=rmost_any A2 A3 s2 c2 s3 c3 f.k p.2.C wc (by omega) (Reads.of_own (own_under HO3.out (bto HBT.out HBC.out))) hne;rw[hM]at hms;clear hoth hM hne;refine wpAnyH_ready (rs := [33]) (by kernel_rfl) (by simp) ?_;refine AllReadyH.cons rfl (fun Kc hKc=>?_) AllReadyH.nil;go_simp
   with_reducible refine hot.mono ?_
   rintro e we ⟨rfl,rfl⟩;dsimp only;clear hot;refine hKc.out _ _ (HK.out _ HBC.out) (fun hHe=>?_);clear hKc Kc
   try simp only[Act.put,ya,yb,yc]
   refine wpAnyH_ready (rs := [43]) (by kernel_rfl) (by simp) ?_;refine AllReadyH.cons rfl (fun Kc hKc=>?_) AllReadyH.nil;go_simp
   with_reducible refine hms.mono ?_
   rintro e wf ⟨rfl,hbf⟩;dsimp only;have HBF:=Hd (bto HBC.out hbf);clear hms hbf;refine hKc.out _ _ (HK.out _ HBF.out) (fun hHf=>?_);clear hKc Kc
   try simp only[Act.put,ya,yb,yc]
   have hMM:(M != M)=false:=by simp
   refine takes [44,45] hHf (by kernel_rfl) (fun _ _ _ _ _ h=>h) ?_
   iterate 2
    conv=>whnf
    refine⟨?_,.inl ⟨by kernel_rfl,fun w hSw=>?_⟩,?_⟩
    rotate_left
    ·(try dsimp only at hSw);go_simp;try with_reducible rfl
    try simp only[Act.put,ya,yb,yc]
   refine Yt.nil ?_;have HBN:=Hd (bto HBT.out HBF.out);refine wpAnyH_done (by kernel_rfl) ?_ _;go_simp
   try go_wp2_with fail
   go_roundw
   case measure=>simp[intOf];omega
   case rel=>exact⟨i+1,by go_num,by omega,HBN⟩
  ·obtain rfl:i=nW:=by omega
   repeat (first | (exact canons_end (bto HW.out HB.out) (HF.out.below HB.out) (HG.out.below HB.out) HOK.out HLI.out hn) | go_step | dsimp only)
end Go.Proofs.YtjpkkkphhaajgaaGreatDoor.wcp
namespace Go.Proofs.YtjpkkkphhaajgaaGreatDoor.wcp
open Go RowKit Shelf ChangeShapes WideShapes ChangeAt Maps words scn
set_option maxRecDepth 1000000 in
set_option maxHeartbeats 16000000 in
theorem canons_core (A:Option Addr)(n cap:Nat)(xs:List UInt8)(w:World)(hn:n≤140737488351232)(hnc:n≤cap)(hr:Reads w w.heap.size 1 A n (bv xs))(ht:Tab w) :
 Calls Tryz.prog 4 #[.slice A n cap] w fun e w'=>e = .returned (.bool true)∧Below w.heap.size w w':=by
 have haw:=awake8_any w ht;have HT:=Hd ht;have HR:=Hd hr;clear hr ht
 go_enter Tryz.func4,Tryz.ntmps4
 go_wp2_with fail;refine haw.mono ?_;rintro e w1 ⟨rfl,hb1⟩;have hrd:=read8_w A n cap xs w1 (by omega) hnc ((HR.out.below hb1).more hb1.size) (HT.out.below hb1);have HB1:=Hd hb1;clear haw hb1;go_wp2_with fail;refine hrd.mono ?_;rintro e w2 ⟨hb2,hm⟩;have HB2:=Hd (bto HB1.out hb2);clear hrd hb2;rcases hm with rfl | ⟨gf,gx,B,f,SA,sc,FA,fc,V,rfl,hok,hli,hwt,hfw,hgf,hB,hBx,hqv⟩
 ·go_wp2_with fail
  go_ret;exact⟨rfl,HB2.out⟩
 ·have hc1:=canon_any hfw hok hli
  have HOK:=Hd hok;have HLI:=Hd hli;have HFW:=Hd hfw;have HQV:=Hd hqv;clear hok hli hwt hfw hqv hgf hB hBx;go_wp2_with fail;refine hc1.mono ?_;rintro e w3 ⟨gg,SG,sg,FG,fg,U,rfl,-,hgw,hb3⟩;have hrc:=rcanon_any (HQV.out.below hb3) HOK.out;have HB3:=Hd (bto HB2.out hb3);have HF3:=Hd (HFW.out.below hb3);have HQ3:=Hd (HQV.out.below hb3);have HG3:=Hd hgw;clear hc1 hb3 hgw;go_wp2_with fail;refine hrc.mono ?_;rintro e w4 ⟨RA,rc,X,rfl,hmap,hrow,hgr,hb4⟩;have HB4:=Hd (bto HB3.out hb4);have HF4:=Hd (HF3.out.below hb4);have HQ4:=Hd (HQ3.out.below hb4);have HG4:=Hd (HG3.out.below hb4);have HROW:=Hd (own_base hrow HB3.out.size)
  have HGR:Hid (∀p∈X,GR w4 w.heap.size p):=fun p hp=>by
   obtain⟨a,b,c,e,h⟩:=hgr p hp;exact⟨a,b,c,e,h.base HB3.out.size⟩
  have HMAP:=Hd hmap;clear hrc hb4 hmap hrow hgr;obtain⟨nW,hnW⟩:∃nW,X.length=nW:=⟨_,rfl⟩;have HNW:=Hd hnW
  have hUl:U.length=nW:=by
   have h3:=congrArg List.length HG4.out.1;have h4:=congrArg List.length HMAP.out;rw[List.length_map]at h3 h4;rw[h3];show ((canonL f.sizes f.k f.funs).map rawC).length=nW;rw[List.length_map,← h4,hnW]
  obtain⟨g0,g1,g2,g3,-⟩:=Blk.four (t:=34) HG4.out.2.1;obtain⟨-,-,f2,-,-⟩:=Blk.four (t:=34) HF4.out.2.1;obtain⟨vz,vf,UQ,-,hfb,-,-⟩:=id HQ4.out;obtain⟨x0,x1,-,-,-⟩:=Blk.four (t:=49) hfb;rw[hUl]at g3;rw[hnW];have hs64:=HOK.out.s2;have g0':w4.cell? ⟨gg,0,none⟩=some (strV f.name):=g0;have g1':w4.cell? ⟨gg,1,none⟩=some (.int .i64 f.k):=g1;have g2':w4.cell? ⟨gg,2,none⟩=some (.slice SG f.sizes.length sg):=g2;have HK:Hid (∀W,Below w4.heap.size w4 W→W.cell? ⟨gg,0,none⟩=some (strV f.name)∧W.cell? ⟨gg,1,none⟩=some (.int .i64 f.k)∧W.cell? ⟨gg,2,none⟩=some (.slice SG f.sizes.length sg)∧W.cell? ⟨gg,3,none⟩=some (.slice FG nW fg)∧W.cell? ⟨gf,2,none⟩=some (.slice SA f.sizes.length sc)∧W.cell? ⟨gx,0,none⟩=some (strV f.name)∧W.cell? ⟨gx,1,none⟩=some (.int .i64 f.k)):=fun W hW=>⟨some_below hW g0',some_below hW g1',some_below hW g2',some_below hW g3,some_below hW f2,some_below hW x0,some_below hW x1⟩
  clear g0 g1 g2 g3 f2 x0 x1 g0' g1' g2' hfb hUl;go_upto_region 8 with fail;refine wp_region_held_drew (S:=fun W=>W.cell? ⟨gg,0,none⟩=some (strV f.name)∧W.cell? ⟨gg,1,none⟩=some (.int .i64 f.k)∧W.cell? ⟨gg,2,none⟩=some (.slice SG f.sizes.length sg)∧W.cell? ⟨gg,3,none⟩=some (.slice FG nW fg)∧W.cell? ⟨gf,2,none⟩=some (.slice SA f.sizes.length sc)∧W.cell? ⟨gx,0,none⟩=some (strV f.name)∧W.cell? ⟨gx,1,none⟩=some (.int .i64 f.k)) (by kernel_rfl) (HK.out _ (Below.refl _ _).drew) (fun hHeld=>?_);obtain⟨wd,hwd⟩:∃wd,w4.drew=wd:=⟨_,rfl⟩;have hbd:Below w4.heap.size w4 wd:=by rw[← hwd];exact (Below.refl _ _).drew
  have HBD:=Hd hbd;rw[hwd];rw[hwd]at hHeld;clear hwd hbd;have hnm:(f.name.toArray.toList==f.name.toArray.toList)=true:=by simp
  have hnm2:(f.name.toArray.toList != f.name.toArray.toList)=false:=by simp
  have hkk:(f.k != f.k)=false:=by simp
  have hkk2:(f.k==f.k)=true:=by simp
  have hll:((nW:Int) != (nW:Int))=false:=by simp
  have hll2:((nW:Int)==(nW:Int))=true:=by simp
  refine takes [0,1,2,3,4,5,6,7,8,9,10,11,12,13,14,15,16,17,18,19,20,21,22,23,24,25,26,27,28,29,30,31,32] hHeld (by kernel_rfl) (fun _ _ _ _ _ h=>h) ?_
  iterate 33
   conv=>whnf
   refine⟨?_,.inl ⟨by kernel_rfl,fun w hSw=>?_⟩,?_⟩
   rotate_left
   ·(try dsimp only at hSw);go_simp;try with_reducible rfl
   try simp only[Act.put,ya,yb,yc]
  refine Yt.nil ?_;have hE:=equalI_any SG SA f.sizes.length f.sizes.length sg sc f.sizes f.sizes wd (by omega) (by omega) (Reads.of_own (own_under HG4.out.2.2.1 HBD.out)) (Reads.of_own (own_under HF4.out.2.2.1 HBD.out));refine wpAnyH_ready (rs := [33]) (by kernel_rfl) (by simp) ?_;refine AllReadyH.cons rfl (fun Kc hKc=>?_) AllReadyH.nil;go_simp
  with_reducible refine hE.mono ?_
  rintro e wa ⟨rfl,hba⟩;rw[eqB_self];dsimp only;have HBA:=Hd (bto HBD.out hba);clear hE hba;refine hKc.out _ _ (HK.out _ HBA.out) (fun hHa=>?_);clear hKc Kc
  try simp only[Act.put,ya,yb,yc]
  refine takes [34,35,36,37,38,39,40,41,42,43,44,45] hHa (by kernel_rfl) (fun _ _ _ _ _ h=>h) ?_
  iterate 12
   conv=>whnf
   refine⟨?_,.inl ⟨by kernel_rfl,fun w hSw=>?_⟩,?_⟩
   rotate_left
   ·(try dsimp only at hSw);go_simp;try with_reducible rfl
   try simp only[Act.put,ya,yb,yc]
  refine Yt.nil ?_;refine wpAnyH_done (by kernel_rfl) ?_ _;go_simp;have hx:=HQ4.out.below HBA.out;have hgr:∀p∈X,GR wa w.heap.size p:=fun p hp=>(HGR.out p hp).under HBA.out
  have hro:=own_under HROW.out HBA.out;rw[HNW.out]at hro;clear hnm hnm2 hkk hkk2 hll hll2 hHeld hHa
  repeat (first | (exact canons_mid (bto HB4.out HBA.out) (HF4.out.below HBA.out) (HG4.out.below HBA.out) hx HOK.out HLI.out hn hro HNW.out hgr HMAP.out) | go_step | dsimp only)
end Go.Proofs.YtjpkkkphhaajgaaGreatDoor.wcp
