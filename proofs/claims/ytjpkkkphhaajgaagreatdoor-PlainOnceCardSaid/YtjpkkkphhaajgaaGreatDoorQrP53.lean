/- OnceEnd, OnceCore. -/
import Derived.Test.YtjpkkkphhaajgaaGreatDoorQrTakes
import Derived.Test.YtjpkkkphhaajgaaGreatDoorQrP52
import Derived.Test.YtjpkkkphhaajgaaGreatDoorQrP48
import Derived.Test.YtjpkkkphhaajgaaGreatDoorQrP35
import Derived.Test.YtjpkkkphhaajgaaGreatDoorQrAwk8
import Derived.Test.YtjpkkkphhaajgaaGreatDoorQrP45
import Derived.Test.YtjpkkkphhaajgaaGreatDoorQrReads3
import Derived.Deep.RegionHeld
import Derived.Deep.CutRange
set_option linter.all false
namespace Go.Proofs.YtjpkkkphhaajgaaGreatDoor.wcp
open Go Go.RowKit Go.Shelf Go.ChangeShapes Go.WideShapes Go.ChangeAt Go.Maps Go.Proofs.YtjpkkkphhaajgaaGreatDoor.words Go.Proofs.YtjpkkkphhaajgaaGreatDoor.scn
noncomputable def obody:Code:=Tryz.f6.body.getD .skip
theorem fils_refl (f:Fil):FilS f f:=⟨rfl,rfl,rfl,rfl,fun j x y hx hy=>by
 rw[hx]at hy;injection hy with hy
 subst hy
 exact⟨rfl,same_self _⟩⟩
theorem prn_same2 {f:Fil}(h:OkFile f):FilS (prn f) f:=by
 refine⟨rfl,rfl,rfl,by show (f.funs.map (prnF f.k)).length=_;rw[List.length_map],fun j y x hy hx=>?_⟩;have hy':(f.funs.map (prnF f.k))[j]?=some y:=hy;rw[List.getElem?_map,hx]at hy';injection hy' with hy'
 subst hy';refine⟨rfl,?_⟩;show SameP (tpOf (prnF f.k x) f.k (prnF f.k x).lines) _;rw[prn_tp (h.fs x (List.mem_of_getElem? hx)).1];exact same_self _
set_option maxRecDepth 1000000 in
set_option maxHeartbeats 8000000 in
theorem once_end {w wq:World}{gf gg:Nat}{f f2:Fil}{gs:List Raw}{SA FA SG FG:Option Addr}{sc fc sg fg:Nat}{V U:List FT}(hw:Below w.heap.size w wq)(h1:FilW wq gf f SA sc FA fc V)(h2:FilW wq gg (swF f2 gs) SG sg FG fg U)(hcf:CpF f f2)(hp:gs.Perm f2.funs)(hok:OkFile f)(hlin:linesOf f.funs≤16384)(hwt:wtF f.funs≤65000)(ht:Tab wq)
 {k0 k1 k2 k3 k4 k6 k8 k9 k10 k11 k12 k13 k14 k15 k16 k17 k18 k19 k20 k21 k22 k23 k24 k25 k26 k27 k28 k29 k30 k31 k32 k33 k34 k35 k36 k37 k38 k39 k40 k41 k42 k43 k44 k45 k46 k47 k48 k49 k50 k51 k52 k53 k54 k55 k56 k57 k58 k59 k60 k61 k62 k63 k64 k65 k66 k67 k68 k69 k70 k71 k72 k73 k74 k75 k76 k77 k78 k79 k80 k81 k82 k83 k84 k85 k86 k87 k88 k89 k90 k91 k92 k93 k94 k95 k96 k97 k98 k99 k100 k101 k102 k103 k104 k105 k106 k107 k108 k109 k110 k111 k112 k113 k114 k115 k116 k117 k118 k119 k120 k121 k122 k123 k124 k125 k126 k127 k128 k129 k130 k131 k132 k133 k134 k135 k136 k137 k138 k139:Value} :
 Code.wp Tryz.prog (sfx 6 obody) (bodyPost Tryz.prog Tryz.f6 fun e w'=>e = .returned (.bool true)∧Below w.heap.size w w') ⟨#[k0,k1,k2,k3,k4,.pointer (some ⟨gf,0,none⟩),k6,.pointer (some ⟨gg,0,none⟩),k8,k9,k10,k11,k12,k13,k14,k15,k16,k17,k18,k19,k20,k21,k22,k23,k24,k25,k26,k27,k28,k29,k30,k31,k32,k33,k34,k35,k36,k37,k38,k39,k40,k41,k42,k43,k44,k45,k46,k47,k48,k49,k50,k51,k52,k53,k54,k55,k56,k57,k58,k59,k60,k61,k62,k63,k64,k65,k66,k67,k68,k69,k70,k71,k72,k73,k74,k75,k76,k77,k78,k79,k80,k81,k82,k83,k84,k85,k86,k87,k88,k89,k90,k91,k92,k93,k94,k95,k96,k97,k98,k99,k100,k101,k102,k103,k104,k105,k106,k107,k108,k109,k110,k111,k112,k113,k114,k115,k116,k117,k118,k119,k120,k121,k122,k123,k124,k125,k126,k127,k128,k129,k130,k131,k132,k133,k134,k135,k136,k137,k138,k139],[]⟩ wq:=by
 have hc1:=canon_any h1 hok hlin;have HOK2:=Hd (sw_ok hcf hp hok);have HLI2:=Hd (Nat.le_trans (sw_lines hcf hp) hlin);have hE:=sw_canon hcf hp hok;have hokc:=canon_ok hok;have hlc:=Nat.le_trans (canon_lines hok) hlin;have hwc:=Nat.le_trans (canon_wt hok) hwt;obtain⟨c,hc⟩:∃c,canonF f=c:=⟨_,rfl⟩;rw[hc]at hE hokc hlc hwc;have hlen:=prn_le hokc hlc hwc;obtain⟨l,hT,hpr⟩:=text_read (prn_filP hokc hlc);obtain⟨t,htt⟩:∃t,textF (prn c)=t:=⟨_,rfl⟩;have h0:=prn_text_pos c;have HTT:=Hd htt;rw[htt]at hT hpr h0;have HL0:=Hd h0;have HT0:=Hd hT;have HPR:=Hd hpr;have HE:=Hd hE;have HC:=Hd hc;have HOKC:=Hd hokc;have HLC:=Hd hlc;have HLEN:=Hd hlen;have H2:=Hd h2;have HW:=Hd hw;have HT:=Hd ht;clear hw h1 h2 hcf hp hok hlin hwt ht hE hokc hlc hwc hlen hT hpr htt hc h0
 conv=>arg 2;whnf
 go_wp2_with fail;refine hc1.mono ?_;rintro e w3 ⟨ga,S3,s3,F3,c3,V3,rfl,-,hfa,hb3⟩;rw[HC.out]at hfa;have hc2:=canon_any (H2.out.below hb3) HOK2.out HLI2.out;have HFA:=Hd hfa;have HB3:=Hd (bto HW.out hb3);have HT3:=Hd (HT.out.below hb3);clear hc1 hfa hb3;go_wp2_with fail;refine hc2.mono ?_;rintro e w4 ⟨gb,S4,s4,F4,c4,V4,rfl,-,hfb,hb4⟩;rw[HE.out]at hfb;have hs1:=psame_any (HFA.out.below hb4) hfb HOKC.out HOKC.out;have HFA4:=Hd (HFA.out.below hb4);have HFB:=Hd hfb;have HB4:=Hd (bto HB3.out hb4);have HT4:=Hd (HT3.out.below hb4);clear hc2 hfb hb4;go_wp2_with fail;refine hs1.mono ?_;rintro e w5 ⟨b,rfl,hbi,hb5⟩;obtain rfl:b=true:=hbi.2 (fils_refl c);have hpa:=print_any (HFA4.out.below hb5) HOKC.out HLC.out HLEN.out (HT4.out.below hb5);have HFA5:=Hd (HFA4.out.below hb5);have HFB5:=Hd (HFB.out.below hb5);have HB5:=Hd (bto HB4.out hb5);have HT5:=Hd (HT4.out.below hb5);clear hs1 hbi hb5;go_wp2_with fail;refine hpa.mono ?_;rintro e w6 ⟨PA,pc,rfl,hra,hb6⟩;have hpb:=print_any (HFB5.out.below hb6) HOKC.out HLC.out HLEN.out (HT5.out.below hb6);have HFA6:=Hd (HFA5.out.below hb6);have HB6:=Hd (bto HB5.out hb6);have HT6:=Hd (HT5.out.below hb6);rw[HTT.out]at hra;have HRA:=Hd hra;clear hpa hb6 hra;go_wp2_with fail;refine hpb.mono ?_;rintro e w7 ⟨PB,pd,rfl,hrb,hb7⟩;have HFA7:=Hd (HFA6.out.below hb7);have HB7:=Hd (bto HB6.out hb7);have HT7:=Hd (HT6.out.below hb7);rw[HTT.out]at hrb;have hra:=(HRA.out.below hb7).more hb7.size;have HRA7:=Hd hra;have HRB:=Hd hrb;have hl6:=HLEN.out;rw[HTT.out]at hl6 ⊢;have hrd:=read_any PA t.length pc t (-1) l w7 rfl hra (by omega) HT0.out HT7.out;clear hpb hb7 hra hrb hl6;go_wp2_with fail;refine hrd.mono ?_;rintro e w8 ⟨hb8,hm8⟩;rw[HPR.out]at hm8;obtain⟨g8,rfl,hfv⟩:=hm8;obtain⟨-,S8,s8,F8,c8,V8,hfw⟩:=hfv.filw;have hs2:=psame_any hfw (HFA7.out.below hb8) (prn_ok HOKC.out) HOKC.out;have hca:=conv_read (c:=pc) ((HRA7.out.below hb8).more hb8.size) rfl HL0.out
 have hcb:=conv_read (c:=pd) ((HRB.out.below hb8).more hb8.size) rfl HL0.out;have HB8:=Hd (bto HB7.out hb8);have htl:(t.toArray.toList==t.toArray.toList)=true:=by simp
 clear hrd hfv hfw hb8;go_wp2_with fail;refine hs2.mono ?_;rintro e w9 ⟨b,rfl,hbi,hb9⟩;obtain rfl:b=true:=hbi.2 (prn_same2 HOKC.out);have HB9:=Hd (bto HB8.out hb9);clear hs2 hbi hb9;go_wp2_with fail;go_ret;exact⟨rfl,HB9.out⟩
end Go.Proofs.YtjpkkkphhaajgaaGreatDoor.wcp
namespace Go.Proofs.YtjpkkkphhaajgaaGreatDoor.wcp
open Go Go.RowKit Go.Shelf Go.ChangeShapes Go.WideShapes Go.ChangeAt Go.Maps Go.Proofs.YtjpkkkphhaajgaaGreatDoor.words Go.Proofs.YtjpkkkphhaajgaaGreatDoor.rdw Go.Proofs.YtjpkkkphhaajgaaGreatDoor.scn
theorem wp_last {P:Program}{c:Code}{Q:Exit→Act→World→Prop}{a:Act}{w:World}(h:∀K:Act→World→Prop,(∀a w,Q .normal a w→K a w)→c.wp P (Exit.then K Q) a w):c.wp P Q a w :=
 Code.wp_mono (fun e a w h=>by cases e<;>exact h) (h (Q .normal) fun _ _ h=>h)
set_option maxRecDepth 1000000 in
set_option maxHeartbeats 16000000 in
theorem once_core (A:Option Addr)(n cap:Nat)(xs:List UInt8)(OA:Option Addr)(on oc:Nat)(ys:List UInt8)(w:World)(hn:n≤9223372036854775807)(hnc:n≤cap)(hr:Reads w w.heap.size 1 A n (bv xs))(hon:on≤9223372036854775807)(hor:Reads w w.heap.size 1 OA on (bv ys))(ht:Tab w) :
 Calls Tryz.prog 6 #[.slice A n cap,.slice OA on oc] w fun e w'=>e = .returned (.bool true)∧Below w.heap.size w w':=by
 have haw:=awake8_any w ht;have HT:=Hd ht;have HR:=Hd hr;have HOR:=Hd hor;clear hr ht hor
 go_enter Tryz.func6,Tryz.ntmps6
 go_wp2_with fail;refine haw.mono ?_;rintro e w1 ⟨rfl,hb1⟩;have hrd:=read8_w A n cap xs w1 hn hnc ((HR.out.below hb1).more hb1.size) (HT.out.below hb1);have HB1:=Hd hb1;clear haw hb1;go_wp2_with fail;refine hrd.mono ?_;rintro e w2 ⟨hb2,hm⟩;have HB2:=Hd (bto HB1.out hb2);clear hrd hb2;rcases hm with rfl | ⟨gf,gx,B,f,SA,sc,FA,fc,V,rfl,hok,hli,hwt,hfw,hgf,hB,hBx,hqv⟩
 ·go_wp2_with fail
  go_ret;exact⟨rfl,HB2.out⟩
 ·have hcp:=fcopy_any hfw hok
  have HOK:=Hd hok;have HLI:=Hd hli;have HWT:=Hd hwt;have HFW:=Hd hfw;clear hok hli hwt hfw hqv hgf hB hBx;go_wp2_with fail;refine hcp.mono ?_;rintro e w3 ⟨g2,f2,SA2,sc2,FA2,fc2,V2,rfl,hb3,hg2,hcf,hfw2,hrow⟩;have HCF:=Hd hcf;have HF2:=Hd hfw2;have HROW:=Hd hrow;have HB3:=Hd hb3;obtain⟨nv,hnv⟩:∃nv,V2.length=nv:=⟨_,rfl⟩;obtain⟨x0,x1,x2,x3,-⟩:=Blk.four (t:=34) hfw2.2.1;rw[hnv]at x3;have HNV:=Hd hnv
  have hv256:nv≤256:=by
   have h1:=congrArg List.length hfw2.1;rw[List.length_map]at h1;have:=hcf.2.2.2.1;have:=HOK.out.n;omega
  clear hcp hb3 hg2 hcf hrow hnv;go_wp2_with fail;clear x0 x1 x2 x3
  go_loopw [8,9,39] (fun _ _ iv wr => ∃ (i:Nat) (U:List FT),iv = .int .i64 i∧i≤nv∧Hid (U.Perm V2)∧Hid (FilW wr g2 (swF f2 (U.map (·.2.2.2))) SA2 sc2 FA2 fc2 U)∧Hid (wr.ownsRow w2.heap.size 37 2 (.slice FA2 U.length fc2) U.length (fcells U))∧Hid (Below w2.heap.size w2 wr)) (fun _ _ iv _=>nv-(intOf iv).toNat)
  case atStart =>
   have e:swF f2 (V2.map (·.2.2.2))=f2:=by unfold swF;rw[hfw2.1]
   exact⟨0,V2,rfl,Nat.zero_le _,List.Perm.refl _,by rw[Hid,e];exact hfw2,HROW.out,HB3.out⟩
  case round =>
   obtain⟨i,U,rfl,hi,HP,HFU,HRU,HBU⟩:=hrel;by_cases hlt:i<nv
   ·have i0:(0:Int)≤(i:Int):=Int.natCast_nonneg _
    have i1:(i:Int)<(nv:Int):=by omega
    have hUl:U.length=nv:=by rw[HP.out.length_eq,HNV.out]
    by_cases hio:i<on
    ·obtain⟨oa,u,rfl,-,hu,hcell⟩:=(HOR.out.below (bto HB2.out HBU.out)).at_ hio
     have hib:(i:Int)<(on:Int):=by omega
     have hRU:=HRU.out;rw[hUl]at hRU;obtain⟨qs,rfl,-,-⟩:=own_some hRU (by omega);obtain⟨-,-,-,x3,-⟩:=Blk.four (t:=34) HFU.out.2.1;rw[hUl]at x3
     obtain⟨y,hy⟩:∃y,ys[i]?=some y:=by
      unfold bv at hu;rw[List.getElem?_map]at hu
      cases hc:ys[i]? with
      |none=>rw[hc]at hu;cases hu
      |some y=>exact⟨y,rfl⟩
     unfold bv at hu;rw[List.getElem?_map,hy]at hu;injection hu with hu
     subst hu;go_upto_region 11 with fail;refine wp_region_held_drew (S:=fun W=>W.cell? (oa.add i)=some (.int .u8 (y.toNat:Int))∧W.cell? ⟨g2,3,none⟩=some (.slice (some ⟨qs,0,none⟩) nv fc2)) (by kernel_rfl) ⟨hcell,x3⟩ (fun hHeld=>?_)
     obtain⟨j,hj⟩:∃j:Nat,(i:Int)+(y.toNat:Int).tmod ((nv:Int)-(i:Int))=(j:Int)∧i≤j∧j<nv:=by
      have h0:(0:Int)≤(y.toNat:Int):=Int.natCast_nonneg _;have h1:=Int.tmod_nonneg ((nv:Int)-(i:Int)) h0;have h2:=Int.tmod_lt_of_pos (y.toNat:Int) (show (0:Int)<(nv:Int)-(i:Int) by omega);exact⟨i+((y.toNat:Int).tmod ((nv:Int)-(i:Int))).toNat,by omega,by omega,by omega⟩
     obtain⟨hj1,hj2,hj3⟩:=hj;have hw1:IntKind.i64.wrap ((nv:Int)-(i:Int))=(nv:Int)-(i:Int):=by rw[IntKind.wrap_i64];omega
     have hw2:IntKind.i64.wrap (y.toNat:Int)=(y.toNat:Int):=by have:=y.toNat_lt;rw[IntKind.wrap_i64];omega
     have hw3:IntKind.i64.wrap (j:Int)=(j:Int):=by rw[IntKind.wrap_i64];omega
     have hne:¬ (nv:Int)-(i:Int)=0:=by omega
     refine takes [0,1,2,3,4,5,6,7,8,9,10,11,12] hHeld (by kernel_rfl) (fun _ _ _ _ _ h=>h) ?_
     iterate 13
      conv=>whnf
      refine⟨?_,.inl ⟨by kernel_rfl,fun w hSw=>?_⟩,?_⟩
      rotate_left
      ·(try dsimp only at hSw);go_simp;try with_reducible rfl
      try simp only[Act.put,List.setIfInBounds_toArray,List.set_cons_zero,List.set_cons_succ]
     refine Yt.nil ?_;refine takes [13] hHeld (by kernel_rfl) (fun _ _ _ _ _ h=>h) ?_
     conv=>whnf
     refine⟨.int .i64 ((y.toNat:Int).tmod ((nv:Int)-(i:Int))),.inl ⟨by kernel_rfl,fun w hSw=>?_⟩,?_⟩
     ·go_simp
     try simp only[Act.put,List.setIfInBounds_toArray,List.set_cons_zero,List.set_cons_succ]
     refine Yt.nil ?_;refine takes [14] hHeld (by kernel_rfl) (fun _ _ _ _ _ h=>h) ?_
     conv=>whnf
     refine⟨.int .i64 (j:Int),.inl ⟨by kernel_rfl,fun w hSw=>?_⟩,?_⟩
     ·go_simp
     try simp only[Act.put,List.setIfInBounds_toArray,List.set_cons_zero,List.set_cons_succ]
     refine Yt.nil ?_;refine takes [15] hHeld (by kernel_rfl) (fun _ _ _ _ _ h=>h) ?_
     iterate 1
      conv=>whnf
      refine⟨?_,.inl ⟨by kernel_rfl,fun w hSw=>?_⟩,?_⟩
      rotate_left
      ·(try dsimp only at hSw);go_simp;try with_reducible rfl
      try simp only[Act.put,List.setIfInBounds_toArray,List.set_cons_zero,List.set_cons_succ]
     refine Yt.nil ?_;refine wpAnyH_done (by kernel_rfl) ?_ _;go_simp;obtain⟨W0,hW0⟩:∃W0,wr.drew.drew=W0:=⟨_,rfl⟩;obtain⟨p,hp⟩:∃p,U[i]?=some p:=⟨_,List.getElem?_eq_getElem (by omega)⟩;obtain⟨q,hq⟩:∃q,U[j]?=some q:=⟨_,List.getElem?_eq_getElem (by omega)⟩;have hV2:∀r∈U,∃x y,r.1 = .agg #[x,y]:=fun r hr=>by obtain⟨v1,tg,e,-⟩:=HFU.out.2.2.2.2 r hr;exact⟨_,_,e⟩
     obtain⟨v1,tg1,ep,⟨⟨A1,c1,rfl⟩,-⟩,-⟩:=HFU.out.2.2.2.2 p (List.mem_of_getElem? hp);obtain⟨v2,tg2,eq,⟨⟨A2,c2,rfl⟩,-⟩,-⟩:=HFU.out.2.2.2.2 q (List.mem_of_getElem? hq);obtain⟨l1,hl1⟩:∃l,p.2.2.2.scope.length=l:=⟨_,rfl⟩;obtain⟨l2,hl2⟩:∃l,q.2.2.2.scope.length=l:=⟨_,rfl⟩;rw[hl1]at ep;rw[hl2]at eq;have hb0:Below wr.heap.size wr W0:=by rw[← hW0];exact (Below.refl _ _).drew.drew
     have hro:W0.ownsRow w2.heap.size 37 2 (.slice (some ⟨qs,0,none⟩) nv fc2) nv (fcells U):=own_under hRU hb0;have hfw0:=HFU.out.below hb0;obtain⟨ha1,hb1,hf1,hf2⟩:=row_cells hro hUl hV2 hp ep;obtain⟨ha2,hb2,-,-⟩:=row_cells hro hUl hV2 hq eq;obtain⟨W1,hW1⟩:∃W1,(W0.setCell ⟨qs,i*2,none⟩ (.slice A2 l2 c2)).setCell ⟨qs,i*2+1,none⟩ (.pointer (some ⟨tg2,0,none⟩))=W1:=⟨_,rfl⟩;have hr1:=row_set hro hV2 eq (show i<U.length by omega);rw[hW1]at hr1;obtain⟨ha3,hb3,hf3,hf4⟩:=row_cells hr1 (by rw[List.length_set];exact hUl) (set_two hV2 eq) (set_has hq (by omega)) eq;have hr2:=row_set hr1 (set_two hV2 eq) ep (show j<(U.set i q).length by rw[List.length_set];omega);have hfs:=filw_swap hfw0 hp hq ep eq;rw[hW1]at hfs
     have hBW:Below w2.heap.size w2 W1:=by
      have hq0:=(own_in hRU (q:=qs) rfl).1;rw[← hW1];exact ((HBU.out.trans (hb0.mono HBU.out.size)).setCell (p:=⟨qs,i*2,none⟩) hq0 _).setCell (p:=⟨qs,i*2+1,none⟩) hq0 _
     have HPW:=Hd ((swL_perm hp hq).trans HP.out);have HFS:=Hd hfs;have HR2:=Hd hr2;have HBW:=Hd hBW;have HQ0:=Hd (own_in hRU (q:=qs) rfl).1;have HP0:=Hd hp;have HQ1:=Hd hq;clear hp hq hV2 ep eq hro hfw0 hr1 hr2 hfs hBW hl1 hl2 hb0;have j0:(0:Int)≤(j:Int):=Int.natCast_nonneg _;have j1:(j:Int)<(nv:Int):=by omega
     have X3:W0.cell? ⟨g2,3,none⟩=some (.slice (some ⟨qs,0,none⟩) nv fc2):=by rw[← hW0];exact x3
     have X31:wr.drew.cell? ⟨g2,3,none⟩=some (.slice (some ⟨qs,0,none⟩) nv fc2):=x3;have HRU2:=Hd hRU;clear hcell x3 hw1 hw2 hw3 hj1 hne hRU;go_upto_region 12 with fail;clear X31;have HW0:=Hd hW0;have HW1:=Hd hW1;clear hW0 hW1;refine wp_last fun Kl hKl=>?_
     go_cut [] from 61 to 86 (fun wx=>Hid (wx=(W1.setCell ⟨qs,j*2,none⟩ (.slice A1 l1 c1)).setCell ⟨qs,j*2+1,none⟩ (.pointer (some ⟨tg1,0,none⟩))))
     case first =>
      refine wp_region_any (by kernel_rfl) ?_;rw[show ({ wr.drew with drawn:=wr.drew.drawn+1 }:World)=W0 from HW0.out];refine wpAny_reads3 (g:=4) (by kernel_rfl) ?hnp ?hlo [0,1,2,3,4,5,6,7,8,10,11,12,13,14,15,16,17,18,19,20,21,22,23,24] _ _ (closed_none3 _) (by kernel_rfl) ?_ (fun _ h=>h)
      case hnp=>intro c a w h;dsimp +zetaDelta only[Exit.then,Exit.inBlock,bodyPost]at h;cases h.2.1
      case hlo=>rintro ⟨a,w1,h⟩;(try dsimp +zetaDelta only[Exit.then,Exit.inBlock,bodyPost]at h);cases h.1
      repeat still_step
      try refine wpStill_nil ?_
      refine wpAny_take (i:=9) (v := .int .i64 j) rfl (by kernel_rfl) (by kernel_rfl) (by kernel_rfl) (fun c a w h=>h) (Or.inl ⟨by go_simp,fun w=>by go_simp⟩) ?_;go_simp;refine wpAny_br3 (rs := [25]) (by kernel_rfl) (by simp) ?_;intro i hi;simp only[List.mem_cons,List.not_mem_nil,or_false]at hi;subst hi;intro K hK;unfold wpOp;go_simp;rw[HW1.out];refine Or.inl (hK _ _ ?_);clear hK K;refine wpAny_take (i:=26) (v := .pointer (some ⟨qs,j*2,none⟩)) rfl (by kernel_rfl) (by kernel_rfl) (by kernel_rfl) (fun c a w h=>h) (Or.inl ⟨by go_simp,fun w=>by go_simp⟩) ?_;go_simp;refine wpAny_br3 (rs := [27]) (by kernel_rfl) (by simp) ?_;intro i hi;simp only[List.mem_cons,List.not_mem_nil,or_false]at hi;subst hi;intro K hK;unfold wpOp;go_simp;refine Or.inl (hK _ _ ?_);clear hK K;refine wpAny_done (by kernel_rfl) ?_ _;go_wp2_with fail
      go_meet
      case rel=>exact rfl
     case rest =>
      have HWX:=hcut;clear hcut;refine hKl _ _ ?_;go_wp2_with fail;go_roundw
      case measure=>simp[intOf];omega
      case rel =>
       have e:wc=(W1.setCell ⟨qs,j*2,none⟩ (.slice A1 l1 c1)).setCell ⟨qs,j*2+1,none⟩ (.pointer (some ⟨tg1,0,none⟩)):=HWX.out;subst e;have hlen:(swL U i j p q).length=nv:=by unfold swL;rw[List.length_set,List.length_set];exact hUl
       refine⟨i+1,swL U i j p q,by go_num,by omega,HPW,HFS.out,?_,(HBW.out.setCell (p:=⟨qs,j*2,none⟩) HQ0.out _).setCell (p:=⟨qs,j*2+1,none⟩) HQ0.out _⟩;rw[hlen];exact HR2.out
    ·have hib:¬ (i:Int)<(on:Int):=by omega
     go_wp2_with fail;go_roundw
     case measure=>simp[intOf];omega
     case rel=>exact⟨i+1,U,by go_num,by omega,HP,HFU,HRU,HBU⟩
   ·obtain rfl:i=nv:=by omega
    have hb:=bto HB2.out HBU.out
    repeat (first | (exact once_end hb (HFW.out.below HBU.out) HFU.out HCF.out (by have:=HP.out.map (fun p:FT=>p.2.2.2);rw[hfw2.1]at this;exact this) HOK.out HLI.out HWT.out (HT.out.below hb)) | go_step | dsimp only)
end Go.Proofs.YtjpkkkphhaajgaaGreatDoor.wcp
