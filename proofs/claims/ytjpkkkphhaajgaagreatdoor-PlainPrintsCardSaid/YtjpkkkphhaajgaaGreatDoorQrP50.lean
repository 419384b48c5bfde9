/- PpFuns, PpSize, PpHead. -/
import Derived.Test.YtjpkkkphhaajgaaGreatDoorQrP48
import Derived.Test.YtjpkkkphhaajgaaGreatDoorQrP45
import Derived.Test.YtjpkkkphhaajgaaGreatDoorQrShapeRef
import Derived.Test.YtjpkkkphhaajgaaGreatDoorQrP22
import Derived.Test.YtjpkkkphhaajgaaGreatDoorQrP43
import Derived.Test.YtjpkkkphhaajgaaGreatDoorQrTakes
import Derived.Deep.RegionHeld
set_option linter.all false
namespace Go.Proofs.YtjpkkkphhaajgaaGreatDoor.wcp
open Go Go.RowKit Go.Shelf Go.ChangeShapes Go.WideShapes Go.ChangeAt Go.Maps Go.Proofs.YtjpkkkphhaajgaaGreatDoor.words Go.Proofs.YtjpkkkphhaajgaaGreatDoor.scn
open Go.Proofs.YtjpkkkphhaajgaaGreatDoor.shp (Szs prodI InT idxI tupI allI)
theorem wl_len {f:Fil}{j:Nat}{x:Raw}(h:f.funs[j]?=some x)(hok:okF x f.k)(hle:(textF (prn f)).length≤65536)(k:Nat):((wl (tpOf x f.k x.lines) ((allI x.sizes).take k)).flatMap linT).length≤65536:=by
 have h1:=upF_le (f:=f) (j+1);rw[upF_step h,List.length_append,fun_text hok,List.length_append]at h1
 have e:wl (tpOf x f.k x.lines) (allI x.sizes)=wl (tpOf x f.k x.lines) ((allI x.sizes).take k)++wl (tpOf x f.k x.lines) ((allI x.sizes).drop k):=by
  unfold wl;rw[← List.map_append,← List.filter_append,List.take_append_drop]
 have h2:((wl (tpOf x f.k x.lines) (allI x.sizes)).flatMap linT).length=((wl (tpOf x f.k x.lines) ((allI x.sizes).take k)).flatMap linT).length+((wl (tpOf x f.k x.lines) ((allI x.sizes).drop k)).flatMap linT).length:=by
  rw[e,List.flatMap_append,List.length_append]
 omega
theorem wl_num (T:TpH)(L:List (List Int))(k:Nat):(wl T (L.take k)).length≤k:=by
 unfold wl;rw[List.length_map];exact Nat.le_trans (List.length_filter_le _ _) (by rw[List.length_take];omega)
theorem oneT_le (xs:List Int)(h:∀v∈xs,-9223372036854775808≤v∧v≤9223372036854775807):(oneT xs).length≤22*xs.length:=by
 induction xs with
 |nil=>simp[oneT]
 | cons v xs ih =>
   have h1:=ih fun u hu=>h u (by simp[hu])
   have h2:=itoa_21 (h v (by simp)).1 (h v (by simp)).2;have e:oneT (v::xs)=(Lib.itoa v ++ [32])++oneT xs:=rfl;rw[e,List.length_append,List.length_append,List.length_cons];simp;omega
theorem numT_le22 (xs:List Int)(h:∀v∈xs,-9223372036854775808≤v∧v≤9223372036854775807):(numT xs).length≤22*xs.length:=by
 induction xs with
 |nil=>simp[numT]
 | cons v xs ih =>
   have h1:=ih fun u hu=>h u (by simp[hu])
   have h2:=itoa_21 (h v (by simp)).1 (h v (by simp)).2;rw[numT_cons,List.length_append,List.length_cons,List.length_cons];omega
set_option maxRecDepth 1000000 in
set_option maxHeartbeats 16000000 in
theorem pp_funs {w wq:World}{gf gx N c B:Nat}{A:Option Addr}{f:Fil}{SA FA:Option Addr}{sc fc:Nat}{V:List FT}{t:List UInt8}(hw:Below w.heap.size w wq)(h1:FilW wq gf f SA sc FA fc V)(hx:QFileV wq B gx f)(hok:OkFile f)(hlin:linesOf f.funs≤16384)(hle:(textF (prn f)).length≤65536)(htt:textF (prn f)=t)(hq:Reads wq wq.heap.size 1 A N (bv t))(hN:t.length=N)(ht:Tab wq)
 {k0 k1 k2 k5 k7 k9 k10 k11 k13 k14 k15 k16 k17 k18 k19 k20 k21 k22 k23 k24 k25 k26 k27 k28 k29 k30 k31 k32 k33 k34 k35 k36 k37 k38 k39 k40 k41 k42 k43 k44 k45 k46 k47 k48 k49 k50 k51 k52 k53 k54 k55 k56 k57 k58 k59 k60 k61 k62 k63 k64 k65 k66 k67 k68 k69 k70 k71 k72 k73 k74 k75 k76 k77 k78 k79 k80 k81 k82 k83 k84 k85 k86 k87 k88 k89 k90 k91 k92 k93 k94 k95 k96 k97 k98 k99 k100 k101 k102 k103 k104 k105 k106 k107 k108 k109 k110 k111 k112 k113 k114 k115 k116 k117 k118 k119 k120 k121 k122 k123 k124 k125 k126 k127 k128 k129 k130 k131 k132 k133 k134 k135 k136 k137 k138 k139 k140 k141 k142 k143 k144 k145 k146 k147 k148 k149 k150 k151 k152 k153 k154 k155 k156 k157 k158 k159 k160 k161 k162 k163 k164 k165 k166 k167 k168 k169 k170 k171 k172 k173 k174 k175 k176 k177 k178 k179 k180 k181 k182 k183 k184 k185 k186 k187 k188 k189 k190 k191 k192 k193 k194 k195 k196 k197 k198 k199 k200 k201 k202 k203 k204 k205 k206 k207 k208 k209 k210 k211 k212 k213 k214 k215 k216 k217 k218 k219 k220 k221 k222 k223 k224 k225 k226 k227 k228 k229 k230 k231 k232 k233 k234 k235 k236 k237 k238 k239 k240 k241 k242 k243 k244 k245 k246 k247 k248 k249 k250 k251 k252 k253 k254 k255:Value} :
 Code.wp Tryz.prog (sfx 14 ppbody) (bodyPost Tryz.prog Tryz.f5 fun e w'=>e = .returned (.bool true)∧Below w.heap.size w w') ⟨#[k0,k1,k2,.pointer (some ⟨gf,0,none⟩),.pointer (some ⟨gx,0,none⟩),k5,.slice A N c,k7,.func (.func 27) #[] #[],k9,k10,k11,strV (preF f),k13,k14,k15,k16,k17,k18,k19,k20,k21,k22,k23,k24,k25,k26,k27,k28,k29,k30,k31,k32,k33,k34,k35,k36,k37,k38,k39,k40,k41,k42,k43,k44,k45,k46,k47,k48,k49,k50,k51,k52,k53,k54,k55,k56,k57,k58,k59,k60,k61,k62,k63,k64,k65,k66,k67,k68,k69,k70,k71,k72,k73,k74,k75,k76,k77,k78,k79,k80,k81,k82,k83,k84,k85,k86,k87,k88,k89,k90,k91,k92,k93,k94,k95,k96,k97,k98,k99,k100,k101,k102,k103,k104,k105,k106,k107,k108,k109,k110,k111,k112,k113,k114,k115,k116,k117,k118,k119,k120,k121,k122,k123,k124,k125,k126,k127,k128,k129,k130,k131,k132,k133,k134,k135,k136,k137,k138,k139,k140,k141,k142,k143,k144,k145,k146,k147,k148,k149,k150,k151,k152,k153,k154,k155,k156,k157,k158,k159,k160,k161,k162,k163,k164,k165,k166,k167,k168,k169,k170,k171,k172,k173,k174,k175,k176,k177,k178,k179,k180,k181,k182,k183,k184,k185,k186,k187,k188,k189,k190,k191,k192,k193,k194,k195,k196,k197,k198,k199,k200,k201,k202,k203,k204,k205,k206,k207,k208,k209,k210,k211,k212,k213,k214,k215,k216,k217,k218,k219,k220,k221,k222,k223,k224,k225,k226,k227,k228,k229,k230,k231,k232,k233,k234,k235,k236,k237,k238,k239,k240,k241,k242,k243,k244,k245,k246,k247,k248,k249,k250,k251,k252,k253,k254,k255],[]⟩ wq:=by
 obtain⟨i0,hi0,hz0,hz1,hz2⟩:=info_parts infoInt8;obtain⟨i6,h60,h61,h62,h63⟩:=info_parts info64;obtain⟨vz,vf,U,hU,hfb,hzr,⟨GA,gc,rfl⟩,hfo,hfv⟩:=hx;have hUl:U.length=f.funs.length:=by rw[← hU];simp
 obtain⟨n,hn⟩:∃n,U.length=n:=⟨_,rfl⟩;have hn256:n≤256:=by have:=hok.n;omega
 rw[hn]at hfb hfo;obtain⟨x0,x1,x2,x3,-⟩:=Blk.four (t:=49) hfb;have HU:=Hd hU;have HFB:=Hd hfb;have HFO:=Hd hfo;have HFV:=Hd hfv;have HOK:=Hd hok;have HN:=Hd hn;have HUL:=Hd hUl;have HW:=Hd hw;have HH:=Hd h1;have HLIN:=Hd hlin;have HLE:=Hd hle;have HTT:=Hd htt;have HQ:=Hd hq;have HNN:=Hd hN;have HT:=Hd ht;have kk1:=hok.k1;have kk2:=hok.k2;clear hU hfb hzr hfo hfv hok hn hUl hw h1 hlin hle htt hq hN ht
 conv=>arg 2;whnf
 go_wp2_with fail;clear x0 x1 x2 x3
 go_loopw [12,133] (fun ov iv wr => ∃j:Nat,iv = .int .i64 j∧j≤n∧ov=strV (upF f j)∧Hid (Below wq.heap.size wq wr)) (fun _ iv _=>n-(intOf iv).toNat)
 case atStart=>exact⟨0,rfl,Nat.zero_le _,by unfold upF;simp,Below.refl _ _⟩
 case round =>
  obtain⟨j,rfl,hj,rfl,HB⟩:=hrel;obtain⟨wb,rfl⟩:∃wb,wb=wr:=⟨_,rfl⟩;by_cases hlt:j<n
  ·obtain⟨p,hp⟩:∃p,U[j]?=some p:=⟨_,List.getElem?_eq_getElem (by rw[HN.out];exact hlt)⟩
   have ho:=own_under HFO.out HB.out;obtain⟨q4,rfl,-,-⟩:=own_some ho (by omega);have hpm:=List.mem_of_getElem? hp;have hfn:=(HFV.out p hpm).below HB.out;obtain⟨⟨v1,v2,o,v4⟩,x⟩:=p;obtain⟨e0,e1,e2,e3⟩:=qc_at hp;dsimp only at hfn e0 e1 e2 e3;have hxf:f.funs[j]?=some x:=by rw[← HU.out,List.getElem?_map,hp];rfl
   have hxm:x∈f.funs:=List.mem_of_getElem? hxf;obtain⟨rfl,⟨⟨S1,d1,rfl⟩,hso⟩,⟨⟨S2,d2,rfl⟩,hzo⟩,hl4⟩:=id hfn;obtain⟨L4,hL4,⟨S4',d4,rfl⟩,hlo,hlr⟩:=hl4;have c40:=(ho.cellAt (j*4) (by omega)).trans e0;have c41:=(ho.cellAt (j*4+1) (by omega)).trans e1;have c42:=(ho.cellAt (j*4+2) (by omega)).trans e2;have c43:=(ho.cellAt (j*4+3) (by omega)).trans e3;have i0':(0:Int)≤(j:Int):=Int.natCast_nonneg _;have i1':(j:Int)<(n:Int):=by omega
   obtain⟨ns,hns⟩:∃ns,x.scope.length=ns:=⟨_,rfl⟩;obtain⟨nz,hnz⟩:∃nz,x.sizes.length=nz:=⟨_,rfl⟩;rw[hns]at hso c40;rw[hnz]at hzo c41;have hby:=bone wb (.cells #[.slice S1 ns d1,.slice S2 nz d2,.int .i64 x.other,.slice S4' L4.length d4] 70);have hyb:Blk (wb.alloc (.cells #[.slice S1 ns d1,.slice S2 nz d2,.int .i64 x.other,.slice S4' L4.length d4] 70)) wb.heap.size 70 #[.slice S1 ns d1,.slice S2 nz d2,.int .i64 x.other,.slice S4' L4.length d4]:=Blk.new _ _ _;obtain⟨wy,hwy⟩:∃wy,wb.alloc (.cells #[.slice S1 ns d1,.slice S2 nz d2,.int .i64 x.other,.slice S4' L4.length d4] 70)=wy:=⟨_,rfl⟩;rw[hwy]at hby hyb;obtain⟨z0,z1,z2,z3,-⟩:=Blk.four (t:=70) hyb;have hbb:=bto HB.out hby;obtain⟨hokx,hfit,hgrx⟩:=HOK.out.fs x hxm;have HSO:=Hd (own_under hso hby);have HZO:=Hd (own_under hzo hby);have HFN:=Hd (hfn.below hby);have HYB:=Hd hyb;have HBB:=Hd hbb;have HOKX:=Hd hokx;have HFIT:=Hd hfit;have HGRX:=Hd hgrx;have HXF:=Hd hxf;have HNS:=Hd hns;have HNZ:=Hd hnz;have HWY:=Hd hwy;obtain⟨-,y1,-,-,-⟩:=Blk.four (t:=49) (HFB.out.under hbb);have hns6:ns≤6:=by have:=hokx.2.2.2.2.2.2.2;omega
   have hnz6:nz≤6:=by have:=hokx.1;omega
   have hot0:=hokx.2.2.2.2.1;clear hp ho hpm hfn e0 e1 e2 e3 hxf hxm hso hzo hlo hlr hL4 hby hyb hbb hokx hfit hgrx hns hnz;go_wp2_with fail;clear c40 c41 c42 c43 hwy;obtain⟨oo,hoo⟩:∃oo,min x.other f.k=oo:=⟨_,rfl⟩;have hmn:(if f.k<x.other then f.k else x.other)=oo:=by rw[← hoo];split<;>omega
   have hoob:0≤oo∧oo≤2147483648:=by omega
   have HOO:=Hd hoo;clear hoo;refine wp_region_held_drew (S:=fun W=>W.cell? ⟨wb.heap.size,2,none⟩=some (.int .i64 x.other)∧W.cell? ⟨gx,1,none⟩=some (.int .i64 f.k)) (by kernel_rfl) ⟨z2,y1⟩ (fun hHeld=>?_);refine takes [0,1,2,3,4,5,6,7] hHeld (by kernel_rfl) (fun _ _ _ _ _ h=>h) ?_
   iterate 8
    conv=>whnf
    refine⟨?_,.inl ⟨by kernel_rfl,fun w hSw=>?_⟩,?_⟩
    rotate_left
    ·(try dsimp only at hSw);go_simp;try with_reducible rfl
    try simp only[Act.put,List.setIfInBounds_toArray,List.set_cons_zero,List.set_cons_succ]
   refine Yt.nil ?_;refine wpAnyH_done (by kernel_rfl) ?_ _;go_simp;rw[HOO.out];clear hHeld z2 y1 hmn z1 z3;obtain⟨wA,hwA⟩:∃wA,wy.drew=wA:=⟨_,rfl⟩;have hbA:Below wy.heap.size wy wA:=by rw[← hwA];exact (Below.refl _ _).drew
   obtain⟨a0,a1,a2,a3,-⟩:=Blk.four (t:=70) (HYB.out.under hbA);have HBA:=Hd (bto HBB.out hbA);have HYA:=Hd (HYB.out.under hbA);have HSA:=Hd (own_under HSO.out hbA);have HZA:=Hd (own_under HZO.out hbA);have HFA:=Hd (HFN.out.below hbA)
   try rw[hwA]
   clear hwA z0 hbA HBB HYB HSO HZO HFN;obtain⟨hd,hhd⟩:∃hd:List UInt8,Lib.itoa (ns:Int)=hd:=⟨_,rfl⟩;have hd21:hd.length≤21:=by rw[← hhd];exact itoa_21 (by omega) (by omega)
   have hdec0:=dec_any (ns:Int) wA (by omega) (by omega);rw[hhd]at hdec0;have HHD:=Hd hhd;clear hhd a2 a3;go_wp2_with fail;refine hdec0.mono ?_;rintro e w' ⟨rfl,rfl⟩;clear hdec0;go_wp2_with fail;clear a0
   go_loopw [19,151] (fun lv iv wr => ∃p:Nat,iv = .int .i64 p∧p≤ns∧lv=strV (hd++numT (x.scope.take p))∧wA=wr) (fun _ iv _=>ns-(intOf iv).toNat)
   case atStart=>exact⟨0,rfl,Nat.zero_le _,by simp[numT],rfl⟩
   case round =>
    obtain⟨p,rfl,hp,rfl,rfl⟩:=hrel;by_cases hlp:p<ns
    ·obtain⟨v,hv⟩:∃v,x.scope[p]?=some v:=⟨_,List.getElem?_eq_getElem (by have:=HNS.out;omega)⟩
     have hsa:=HSA.out;obtain⟨qs,rfl,-,-⟩:=own_some hsa (by omega);have hcv:=(hsa.cellAt p (by omega)).trans (show (nums x.scope)[p]?=some (.int .i64 v) by unfold nums;rw[List.getElem?_map,hv];rfl);obtain⟨hv0,hv1⟩:=HFIT.out.1 v (List.mem_of_getElem? hv);have hs2:=HOK.out.s2;have hd1:=d1_any v wA (by omega) (by omega);have hi21:(Lib.itoa v).length≤21:=itoa_21 (by omega) (by omega);obtain⟨cur,hcur⟩:∃cur,hd++numT (x.scope.take p)=cur:=⟨_,rfl⟩
     have hcl:cur.length≤100000:=by
      rw[← hcur,List.length_append];have:=numT_le22 (x.scope.take p) (fun u hu=>by have:=HFIT.out.1 u (List.mem_of_mem_take hu);omega);rw[List.length_take]at this;omega
     have hadd:=sadd cur (32::Lib.itoa v) (by simp;omega);have HNX:Hid (hd++numT (x.scope.take (p+1))=cur++(32::Lib.itoa v)):=by rw[Hid,numT_take hv,← hcur,List.append_assoc]
     rw[hcur];have p0:(0:Int)≤(p:Int):=Int.natCast_nonneg _;have p1:(p:Int)<(ns:Int):=by omega
     clear hv hv0 hv1 hcur hsa hs2;go_wp2_with fail;refine hd1.mono ?_;rintro e w' ⟨rfl,rfl⟩;clear hd1;go_wp2_with fail;go_roundw
     case measure=>simp[intOf];omega
     case rel=>exact⟨p+1,by go_num,hlp,by rw[HNX.out],trivial⟩
    ·obtain rfl:p=ns:=by omega
     have htk:x.scope.take p=x.scope:=by rw[← HNS.out,List.take_length]
     rw[htk];obtain⟨hdr,hhdr⟩:∃hdr,hd++numT x.scope=hdr:=⟨_,rfl⟩
     have hdrl:hdr.length≤100000:=by
      rw[← hhdr,List.length_append];have:=numT_le22 x.scope (fun u hu=>by have:=HFIT.out.1 u hu;have:=HOK.out.s2;omega);have:=HNS.out;omega
     have HHDR:=Hd hhdr;rw[hhdr];clear htk hlp hhdr;go_wp2_with fail;clear a1
     go_loopw [24,164] (fun ov iv wr => ∃ (q m co:Nat) (Ao:Option Addr) (O:List Int),iv = .int .i64 q∧q≤nz∧ov = .slice Ao m co∧Hid (O=x.sizes.take q)∧Hid (wr.ownsRow wA.heap.size 3 1 (.slice Ao m co) m (nums O))∧Hid (Below wA.heap.size wA wr)) (fun _ iv _=>nz-(intOf iv).toNat)
     case atStart=>exact⟨0,0,0,none,[],rfl,Nat.zero_le _,rfl,rfl,World.ownsRow_nil _ _ _ _,Below.refl _ _⟩
     case round =>
      obtain⟨q,m,co,Ao,O,rfl,hq,rfl,HOW,HOO2,HBQ⟩:=hrel;by_cases hlq:q<nz
      ·obtain⟨v,hv⟩:∃v,x.sizes[q]?=some v:=⟨_,List.getElem?_eq_getElem (by have:=HNZ.out;omega)⟩
       have hsa:=own_under HZA.out HBQ.out;obtain⟨qs,rfl,-,-⟩:=own_some hsa (by omega);have hcv:=(hsa.cellAt q (by omega)).trans (show (nums x.sizes)[q]?=some (.int .i64 v) by unfold nums;rw[List.getElem?_map,hv];rfl);have HST:Hid (x.sizes.take (q+1)=x.sizes.take q ++ [v]):=by rw[Hid,List.take_add_one,hv];rfl
       have hm2:m≤1000:=by
        have h1:=nums_own_len HOO2.out;have h2:=congrArg List.length HOW.out;rw[List.length_take]at h2;omega
       have HB3:=Hd (bnew HBQ.out (.cells #[.int .i64 v] 3));have ho3:=own_under HOO2.out (bone wr (.cells #[.int .i64 v] 3));have hr1:Reads (wr.alloc (.cells #[.int .i64 v] 3)) (wr.alloc (.cells #[.int .i64 v] 3)).heap.size 1 (some ⟨wr.heap.size,0,none⟩) 1 (nums [v]):=reads_block (t:=3) (heap_alloc_new _ _) rfl;have hsz:wA.heap.size≤(wr.alloc (.cells #[.int .i64 v] 3)).heap.size:=HB3.out.size;have q0:(0:Int)≤(q:Int):=Int.natCast_nonneg _;have q1:(q:Int)<(nz:Int):=by omega
       clear hv hsa
       go_wp2_with (first
        |(at_builtin;refine wpList_append_any _ rfl (.tmp 168) (.tmp 170) _ rfl wA.heap.size 3 i0 _ 1 8 Tryz.underlying31 hi0 hz0 hz1 hz2 rfl (by omega) (.slice Ao m co) m _ rfl ho3 _ _ 1 1 (nums [v]) rfl hr1 nums_one (by simp only[maxLen];omega) (by omega) hsz ?_;intro v6 w7 hown6 hg6 hat6;clear hat6;obtain⟨A6,c6,rfl⟩:=own_shape hown6;have HO7:=Hd hown6;have HG7:=Hd (HB3.out.grown hg6 hsz (fun g hg=>(own_in ho3 hg).1));clear hown6 hg6 ho3 hr1)
        |fail)
       all_goals
        go_roundw
        case measure=>simp[intOf];omega
        case rel=>exact⟨q+1,m+1,c6,A6,O ++ [v],by go_num,hlq,rfl,by rw[Hid,HST.out,HOW.out],by rw[Hid];unfold nums at *;rw[List.map_append];exact HO7.out,HG7⟩
      ·obtain rfl:q=nz:=by omega
       obtain⟨wz,rfl⟩:∃wz,wz=wr:=⟨_,rfl⟩;have hO:O=x.sizes:=by rw[HOW.out,← HNZ.out,List.take_length]
       subst hO;have hml:=nums_own_len HOO2.out;have hSz:Szs x.sizes:=⟨HOKX.out.1,HOKX.out.2.1⟩;have hcap:=own_cap HOO2.out;have hall:=shp.ref_all x.sizes Ao m co wz hcap (Reads.of_own HOO2.out) hSz;have HSZ:=Hd hSz;clear hlq hml hSz hcap;go_wp2_with fail;refine hall.mono ?_;rintro e wB ⟨AA,cA,rfl,hrows,hbB⟩;obtain⟨L,hL⟩:∃L,allI x.sizes=L:=⟨_,rfl⟩;rw[hL]at hrows;rw[hL];obtain⟨N2,hN2⟩:∃N2,L.length=N2:=⟨_,rfl⟩;have HL:=Hd hL;have HN2:=Hd hN2;have HROWS:=Hd hrows;have hbzB:=bto HBQ.out hbB;have HBB:=Hd hbzB;have HYB:=Hd (HYA.out.under hbzB);have HFB2:=Hd (HFA.out.below hbzB);have HFX:=Hd ((HFB.out.under HBA.out).under hbzB)
       have hN4:N2≤4096:=by
        have h1:=shp.all_len (xs:=x.sizes) fun k hk=>(HSZ.out.2 k hk).1
        have h2:=great_prod HSZ.out.2;rw[HGRX.out]at h2;have h3:=of_decide_eq_false h2.symm;rw[HL.out,HN2.out]at h1;omega
       obtain⟨T,hTd⟩:∃T,tpOf x f.k x.lines=T:=⟨_,rfl⟩;have HTD:=Hd hTd;rw[hN2];clear hall hrows hbB hbzB hL hN2 hTd HYA HFA HBQ HOO2 HOW;go_wp2_with fail
       go_loopw [22,23,176] (fun lv nv iv wr => ∃ (k m:Nat) (lt:List UInt8),iv = .int .i64 k∧k≤N2∧lv=strV lt∧nv = .int .i64 m∧Hid (lt=(wl T (L.take k)).flatMap linT)∧Hid (m=(wl T (L.take k)).length)∧Hid (Below wB.heap.size wB wr)) (fun _ _ iv _=>N2-(intOf iv).toNat)
       case atStart=>exact⟨0,0,[],rfl,Nat.zero_le _,rfl,rfl,rfl,rfl,Below.refl _ _⟩
       case round =>
        obtain⟨k,m,lt,rfl,hk,rfl,rfl,HLT,HM,HBk⟩:=hrel;obtain⟨wj,rfl⟩:∃wj,wj=wr:=⟨_,rfl⟩;have hwl:=wl_len HXF.out HOKX.out HLE.out k;rw[HTD.out,HL.out,← HLT.out]at hwl;have hmk:m≤4096:=by rw[HM.out];have:=wl_num T L k;omega
        by_cases hlk:k<N2
        ·obtain⟨tt,htt⟩:∃tt,L[k]?=some tt:=⟨_,List.getElem?_eq_getElem (by rw[HN2.out];exact hlk)⟩
         have hrj:=HROWS.out.under HBk.out;obtain⟨gA,At,ct,rfl,hct,-,htc,hot,-⟩:=hrj.at_ htt;have hin:InS x.sizes tt:=(mem_all fun z hz=>(HSZ.out.2 z hz).1).1 (by rw[HL.out];exact List.mem_of_getElem? htt);obtain⟨tl,htl⟩:∃tl,tt.length=tl:=⟨_,rfl⟩;have htl6:tl≤6:=by have h1:=hin.1;have h2:=HSZ.out.1;omega
         have htb:∀v∈tt,0≤v∧v≤31:=fun v hv=>by
          obtain⟨i,hi⟩:=List.getElem?_of_mem hv;have hl2:i<x.sizes.length:=by have:=(List.getElem?_eq_some_iff.1 hi).1;rw[hin.1]at this;exact this
          have h3:=hin.2 i v _ hi (List.getElem?_eq_getElem hl2);have h4:=HSZ.out.2 _ (List.getElem_mem hl2);omega
         rw[htl]at hct htc hot;have HOT:=Hd hot;have HTT2:=Hd htt;have HTL:=Hd htl;have HTB:=Hd htb;have HIN:=Hd hin;have HWL:=Hd hwl;have b0:(0:Int)≤(k:Int):=Int.natCast_nonneg _;have b1:(k:Int)<(N2:Int):=by omega
         clear hrj htt htl hot htb hin hwl;go_wp2_with fail;clear hct
         go_loopw [29,30,182] (fun ov sv iv wr => ∃ (i m2 co2:Nat) (Ao2:Option Addr) (O2:List Int) (one:List UInt8),iv = .int .i64 i∧i≤tl∧ov = .slice Ao2 m2 co2∧sv=strV one∧Hid (O2=tt.take i)∧Hid (one=oneT (tt.take i))∧Hid (wr.ownsRow wj.heap.size 2 1 (.slice Ao2 m2 co2) m2 (nums O2))∧Hid (Below wj.heap.size wj wr)) (fun _ _ iv _=>tl-(intOf iv).toNat)
         case atStart=>exact⟨0,0,0,none,[],[],rfl,Nat.zero_le _,rfl,rfl,rfl,rfl,World.ownsRow_nil _ _ _ _,Below.refl _ _⟩
         case round =>
          obtain⟨i,m2,co2,Ao2,O2,one,rfl,hi,rfl,rfl,HO2,HONE,HR2,HB2⟩:=hrel;by_cases hli:i<tl
          ·obtain⟨v,hv⟩:∃v,tt[i]?=some v:=⟨_,List.getElem?_eq_getElem (by have:=HTL.out;omega)⟩
           have hot:=own_under HOT.out HB2.out;obtain⟨qt,rfl,-,-⟩:=own_some hot (by omega);have hcv:=(hot.cellAt i (by omega)).trans (show (nums tt)[i]?=some (.int .i64 v) by unfold nums;rw[List.getElem?_map,hv];rfl);have hvb:=HTB.out v (List.mem_of_getElem? hv);have HST:Hid (tt.take (i+1)=tt.take i ++ [v]):=by rw[Hid,List.take_add_one,hv];rfl
           have HSO2:=Hd (oneT_take hv)
           have hm2:m2≤6:=by
            have h1:=nums_own_len HR2.out;have h2:=congrArg List.length HO2.out;rw[List.length_take]at h2;omega
           have hol:one.length≤1000:=by
            rw[HONE.out];have h1:=oneT_le (tt.take i) (fun u hu=>by have:=HTB.out u (List.mem_of_mem_take hu);omega);rw[List.length_take]at h1;omega
           have HB3:=Hd (bnew HB2.out (.cells #[.int .i64 v] 2));have ho3:=own_under HR2.out (bone wr (.cells #[.int .i64 v] 2));have hr1:Reads (wr.alloc (.cells #[.int .i64 v] 2)) (wr.alloc (.cells #[.int .i64 v] 2)).heap.size 1 (some ⟨wr.heap.size,0,none⟩) 1 (nums [v]):=reads_block (t:=2) (heap_alloc_new _ _) rfl;have hsz:wj.heap.size≤(wr.alloc (.cells #[.int .i64 v] 2)).heap.size:=HB3.out.size;have i21:(Lib.itoa v).length≤21:=itoa_21 (by omega) (by omega);have hae:=sadd_end (Lib.itoa v) 32 (by omega);have hao:=sadd one (Lib.itoa v ++ [32]) (by rw[List.length_append];simp;omega);have q0:(0:Int)≤(i:Int):=Int.natCast_nonneg _;have q1:(i:Int)<(tl:Int):=by omega
           clear hv hot
           go_wp2_with (first
            |(at_builtin;refine wpList_append_any _ rfl (.tmp 186) (.tmp 188) _ rfl wj.heap.size 2 i6 _ 1 8 Tryz.underlying46 h60 h61 h62 h63 rfl (by omega) (.slice Ao2 m2 co2) m2 _ rfl ho3 _ _ 1 1 (nums [v]) rfl hr1 nums_one (by simp only[maxLen];omega) (by omega) hsz ?_;intro v6 w7 hown6 hg6 hat6;clear hat6;obtain⟨A6,c6,rfl⟩:=own_shape hown6;have HO7:=Hd hown6;have HG7:=Hd (HB3.out.grown hg6 hsz (fun g hg=>(own_in ho3 hg).1));clear hown6 hg6 ho3 hr1)
            |(go_at_call 28;(with_reducible refine (dec_any v _ (by omega) (by omega)).mono ?_);rintro e w' ⟨rfl,rfl⟩)
            |fail)
           all_goals
            go_roundw
            case measure=>simp[intOf];omega
            case rel=>exact⟨i+1,m2+1,c6,A6,O2 ++ [v],one++(Lib.itoa v ++ [32]),by go_num,hli,rfl,rfl,by rw[Hid,HST.out,HO2.out],by rw[Hid,HSO2.out,HONE.out],by rw[Hid];unfold nums at *;rw[List.map_append];exact HO7.out,HG7⟩
          ·obtain rfl:i=tl:=by omega
           obtain⟨wk,rfl⟩:∃wk,wk=wr:=⟨_,rfl⟩;have htk:tt.take i=tt:=by rw[← HTL.out,List.take_length]
           have hO:O2=tt:=by rw[HO2.out,htk]
           have hone:one=oneT tt:=by rw[HONE.out,htk]
           rw[hO]at HR2;have hml:=nums_own_len HR2.out
           have hol:one.length≤1000:=by
            rw[hone];have h1:=oneT_le tt (fun u hu=>by have:=HTB.out u hu;omega);rw[HTL.out]at h1;omega
           have hbk:=bto HBk.out HB2.out;have hcost:=qcost_any (w:=wk.drew) (HFB2.out.below hbk.drew) Ao2 m2 co2 tt (show Reads wk.drew wk.drew.heap.size 1 Ao2 m2 (nums tt) from Reads.of_own HR2.out) (by rw[← hml,HTL.out];omega) f.k;have hval:min (lastC x.other x.lines tt) f.k=T.get tt:=by rw[← HTD.out,get_last]
           rw[hval,HNS.out,HNZ.out]at hcost;have hci:=get_in HOKX.out tt;rw[HTD.out]at hci;obtain⟨cv,hcv⟩:∃cv,T.get tt=cv:=⟨_,rfl⟩;rw[hcv]at hcost hci;obtain⟨z0,z1,z2,z3,-⟩:=Blk.four (t:=70) (HYB.out.under hbk);obtain⟨-,y1,-,-,-⟩:=Blk.four (t:=49) (HFX.out.under hbk);have HCV:=Hd hcv;have HOE:=Hd hone;have HBK:=Hd hbk;have HTO:Hid (T.other=oo):=by rw[Hid,← HTD.out,(tpOf_same x f.k x.lines).2.2];exact HOO.out
           clear htk hO hone hml hbk hval hcv hli;go_upto_region 53 with fail;refine wp_region_held_drew (S:=fun W=>W.cell? ⟨wb.heap.size,0,none⟩=some (.slice S1 p d1)∧W.cell? ⟨wb.heap.size,1,none⟩=some (.slice S2 q d2)∧W.cell? ⟨wb.heap.size,2,none⟩=some (.int .i64 x.other)∧W.cell? ⟨wb.heap.size,3,none⟩=some (.slice S4' L4.length d4)∧W.cell? ⟨gx,1,none⟩=some (.int .i64 f.k)) (by kernel_rfl) ⟨z0,z1,z2,z3,y1⟩ (fun hHeld=>?_);clear z0 z1 z2 z3 y1;refine takes [0,1,2,3,4,5] hHeld (by kernel_rfl) (fun _ _ _ _ _ h=>h) ?_
           iterate 6
            conv=>whnf
            refine⟨?_,.inl ⟨by kernel_rfl,fun w hSw=>?_⟩,?_⟩
            rotate_left
            ·(try dsimp only at hSw);go_simp;try with_reducible rfl
            try simp only[Act.put,List.setIfInBounds_toArray,List.set_cons_zero,List.set_cons_succ]
           refine Yt.nil ?_;refine wpAnyH_ready (rs := [6]) (by kernel_rfl) (by simp) ?_;refine AllReadyH.cons rfl (fun K hK=>?_) AllReadyH.nil;go_simp
           (with_reducible refine hcost.mono ?_)
           rintro e w8 ⟨rfl,hb8⟩;dsimp only;have hb8':Below wk.heap.size wk w8:=⟨hb8.os,hb8.tape,hb8.output,hb8.size,hb8.block⟩;obtain⟨z0,z1,z2,z3,-⟩:=Blk.four (t:=70) ((HYB.out.under HBK.out).under hb8');obtain⟨-,y1,-,-,-⟩:=Blk.four (t:=49) ((HFX.out.under HBK.out).under hb8');refine hK.out _ _ ⟨z0,z1,z2,z3,y1⟩ (fun hHeld2=>?_);have HB8:=Hd (bto HBK.out hb8');clear hK K hHeld hcost hb8 hb8' z0 z1 z2 z3 y1;refine takes [7] hHeld2 (by kernel_rfl) (fun _ _ _ _ _ h=>h) ?_
           iterate 1
            conv=>whnf
            refine⟨?_,.inl ⟨by kernel_rfl,fun w hSw=>?_⟩,?_⟩
            rotate_left
            ·(try dsimp only at hSw);go_simp;try with_reducible rfl
            try simp only[Act.put,List.setIfInBounds_toArray,List.set_cons_zero,List.set_cons_succ]
           refine Yt.nil ?_;refine wpAnyH_done (by kernel_rfl) ?_ _;go_simp;clear hHeld2;have hstep:=wl_take (T:=T) HTT2.out;rw[HCV.out,HTO.out]at hstep;by_cases hce:cv=oo
           ·have hne:(cv != oo)=false:=by simp[hce]
            have HST:Hid (wl T (L.take (k+1))=wl T (L.take k)):=by rw[Hid,hstep,if_pos hce]
            clear hce hstep;go_wp2_with fail;go_roundw
            case measure=>simp[intOf];omega
            case rel=>exact⟨k+1,m,lt,by go_num,hlk,rfl,rfl,by rw[Hid,HST.out];exact HLT.out,by rw[Hid,HST.out];exact HM.out,HB8⟩
           ·have hne:(cv != oo)=true:=by simp[hce]
            have HST:Hid (wl T (L.take (k+1))=wl T (L.take k) ++ [(tt,cv)]):=by rw[Hid,hstep,if_neg hce]
            have hdc:=dec_any cv w8 (by omega) (by omega);have c21:(Lib.itoa cv).length≤21:=itoa_21 (by omega) (by omega);have hwl:=HWL.out;have hs1:=sadd one (Lib.itoa cv) (by omega);have hs2:=sadd_end (one++Lib.itoa cv) 10 (by rw[List.length_append];omega);rw[List.append_assoc]at hs2;have hs3:=sadd lt (one++(Lib.itoa cv ++ [10])) (by rw[List.length_append,List.length_append];simp;omega);clear hce hstep hwl;go_wp2_with fail
            (with_reducible refine hdc.mono ?_)
            rintro e w' ⟨rfl,rfl⟩;clear hdc;go_wp2_with fail;go_roundw
            case measure=>simp[intOf];omega
            case rel=>exact⟨k+1,m+1,lt++(one++(Lib.itoa cv ++ [10])),by go_num,hlk,rfl,by go_num,by rw[Hid,HST.out,List.flatMap_append,← HLT.out,HOE.out];simp[lin_text],by rw[Hid,HST.out,List.length_append,← HM.out];rfl,HB8⟩
        ·obtain rfl:k=N2:=by omega
         have htk:L.take k=L:=by rw[← HN2.out,List.take_length]
         rw[htk]at HLT HM;have hd1:=d1_any oo wj (by omega) (by omega);have hd2:=d1_any (m:Int) wj (by omega) (by omega);have o21:(Lib.itoa oo).length≤21:=itoa_21 (by omega) (by omega);have m21:(Lib.itoa (m:Int)).length≤21:=itoa_21 (by omega) (by omega);have hupl:=upF_le (f:=f) j;have hle2:=HLE.out;obtain⟨s1,hs1⟩:∃s1,hdr++(32::Lib.itoa oo)=s1:=⟨_,rfl⟩;have l1:s1.length≤110000:=by rw[← hs1,List.length_append,List.length_cons];omega
         have g1:=sadd hdr (32::Lib.itoa oo) (by rw[List.length_cons];omega);rw[hs1]at g1;obtain⟨s2,hs2⟩:∃s2,s1++(32::Lib.itoa (m:Int))=s2:=⟨_,rfl⟩;have l2:s2.length≤120000:=by rw[← hs2,List.length_append,List.length_cons];omega
         have g2:=sadd s1 (32::Lib.itoa (m:Int)) (by rw[List.length_cons];omega);rw[hs2]at g2;obtain⟨s3,hs3⟩:∃s3,s2 ++ [10]=s3:=⟨_,rfl⟩;have l3:s3.length≤130000:=by rw[← hs3,List.length_append];simp;omega
         have g3:=sadd_end s2 10 (by omega);rw[hs3]at g3;obtain⟨s4,hs4⟩:∃s4,s3++lt=s4:=⟨_,rfl⟩;have l4:s4.length≤200000:=by rw[← hs4,List.length_append];omega
         have g4:=sadd s3 lt (by omega);rw[hs4]at g4;obtain⟨up,hup⟩:∃up,upF f j=up:=⟨_,rfl⟩;rw[hup]at hupl;have g5:=sadd up s4 (by omega)
         have HFIN:Hid (upF f (j+1)=up++s4):=by
          rw[Hid,upF_step HXF.out,fun_text HOKX.out,HTD.out,HL.out,← HM.out,← HLT.out,HOO.out,HNS.out,HHD.out,HHDR.out,hup,hs1,hs2,hs3,hs4]
         rw[hup];clear hs1 hs2 hs3 hs4 hup hupl hle2 htk hlk
         go_wp2_with (first
          |(go_at_call 27;(with_reducible refine hd1.mono ?_);rintro e w' ⟨rfl,rfl⟩)
          |(go_at_call 27;(with_reducible refine hd2.mono ?_);rintro e w' ⟨rfl,rfl⟩)
          |fail)
         go_roundw
         case measure=>simp[intOf];omega
         case rel=>exact⟨j+1,by go_num,hlt,by rw[HFIN.out],bto HBA.out (bto HBB.out HBk.out)⟩
  ·obtain rfl:j=n:=by omega
   have hup:upF f j=t:=by
    rw[← HTT.out,← upF_all];have h1:=HUL.out;have h2:=HN.out;rw[show f.funs.length=j by omega]
   rw[hup]
   repeat (first | (exact pp_end (bto HW.out HB.out) (HH.out.below HB.out) HOK.out HLIN.out HLE.out HTT.out ((HQ.out.below HB.out).more HB.out.size) HNN.out (HT.out.below HB.out)) | go_step | dsimp only)
end Go.Proofs.YtjpkkkphhaajgaaGreatDoor.wcp
namespace Go.Proofs.YtjpkkkphhaajgaaGreatDoor.wcp
open Go Go.RowKit Go.Shelf Go.ChangeShapes Go.WideShapes Go.ChangeAt Go.Maps Go.Proofs.YtjpkkkphhaajgaaGreatDoor.words Go.Proofs.YtjpkkkphhaajgaaGreatDoor.scn
theorem drop1 (c:UInt8)(bs:List UInt8):(⟨(c::bs).toArray⟩:ByteArray).extract 1 (bs.length+1)=⟨bs.toArray⟩:=by
 apply ByteArray.ext
 rw[ByteArray.data_extract];simp
set_option maxRecDepth 1000000 in
set_option maxHeartbeats 16000000 in
theorem pp_size {w wq:World}{gf gx N c B:Nat}{A:Option Addr}{f:Fil}{SA FA:Option Addr}{sc fc:Nat}{V:List FT}{t:List UInt8}(hw:Below w.heap.size w wq)(h1:FilW wq gf f SA sc FA fc V)(hx:QFileV wq B gx f)(hok:OkFile f)(hlin:linesOf f.funs≤16384)(hle:(textF (prn f)).length≤65536)(htt:textF (prn f)=t)(hq:Reads wq wq.heap.size 1 A N (bv t))(hN:t.length=N)(ht:Tab wq){hdl:List UInt8}(hhl:f.name++numT (headN f) ++ [10]=hdl)
 {k0 k1 k2 k5 k7 k9 k10 k11 k13 k14 k15 k16 k17 k18 k19 k20 k21 k22 k23 k24 k25 k26 k27 k28 k29 k30 k31 k32 k33 k34 k35 k36 k37 k38 k39 k40 k41 k42 k43 k44 k45 k46 k47 k48 k49 k50 k51 k52 k53 k54 k55 k56 k57 k58 k59 k60 k61 k62 k63 k64 k65 k66 k67 k68 k69 k70 k71 k72 k73 k74 k75 k76 k77 k78 k79 k80 k81 k82 k83 k84 k85 k86 k87 k88 k89 k90 k91 k92 k93 k94 k95 k96 k97 k98 k99 k100 k101 k102 k103 k104 k105 k106 k107 k108 k109 k110 k111 k112 k113 k114 k115 k116 k117 k118 k119 k120 k121 k122 k123 k124 k125 k126 k127 k128 k129 k130 k131 k132 k133 k134 k135 k136 k137 k138 k139 k140 k141 k142 k143 k144 k145 k146 k147 k148 k149 k150 k151 k152 k153 k154 k155 k156 k157 k158 k159 k160 k161 k162 k163 k164 k165 k166 k167 k168 k169 k170 k171 k172 k173 k174 k175 k176 k177 k178 k179 k180 k181 k182 k183 k184 k185 k186 k187 k188 k189 k190 k191 k192 k193 k194 k195 k196 k197 k198 k199 k200 k201 k202 k203 k204 k205 k206 k207 k208 k209 k210 k211 k212 k213 k214 k215 k216 k217 k218 k219 k220 k221 k222 k223 k224 k225 k226 k227 k228 k229 k230 k231 k232 k233 k234 k235 k236 k237 k238 k239 k240 k241 k242 k243 k244 k245 k246 k247 k248 k249 k250 k251 k252 k253 k254 k255:Value} :
 Code.wp Tryz.prog (sfx 11 ppbody) (bodyPost Tryz.prog Tryz.f5 fun e w'=>e = .returned (.bool true)∧Below w.heap.size w w') ⟨#[k0,k1,k2,.pointer (some ⟨gf,0,none⟩),.pointer (some ⟨gx,0,none⟩),k5,.slice A N c,k7,.func (.func 27) #[] #[],k9,k10,k11,strV hdl,k13,k14,k15,k16,k17,k18,k19,k20,k21,k22,k23,k24,k25,k26,k27,k28,k29,k30,k31,k32,k33,k34,k35,k36,k37,k38,k39,k40,k41,k42,k43,k44,k45,k46,k47,k48,k49,k50,k51,k52,k53,k54,k55,k56,k57,k58,k59,k60,k61,k62,k63,k64,k65,k66,k67,k68,k69,k70,k71,k72,k73,k74,k75,k76,k77,k78,k79,k80,k81,k82,k83,k84,k85,k86,k87,k88,k89,k90,k91,k92,k93,k94,k95,k96,k97,k98,k99,k100,k101,k102,k103,k104,k105,k106,k107,k108,k109,k110,k111,k112,k113,k114,k115,k116,k117,k118,k119,k120,k121,k122,k123,k124,k125,k126,k127,k128,k129,k130,k131,k132,k133,k134,k135,k136,k137,k138,k139,k140,k141,k142,k143,k144,k145,k146,k147,k148,k149,k150,k151,k152,k153,k154,k155,k156,k157,k158,k159,k160,k161,k162,k163,k164,k165,k166,k167,k168,k169,k170,k171,k172,k173,k174,k175,k176,k177,k178,k179,k180,k181,k182,k183,k184,k185,k186,k187,k188,k189,k190,k191,k192,k193,k194,k195,k196,k197,k198,k199,k200,k201,k202,k203,k204,k205,k206,k207,k208,k209,k210,k211,k212,k213,k214,k215,k216,k217,k218,k219,k220,k221,k222,k223,k224,k225,k226,k227,k228,k229,k230,k231,k232,k233,k234,k235,k236,k237,k238,k239,k240,k241,k242,k243,k244,k245,k246,k247,k248,k249,k250,k251,k252,k253,k254,k255],[]⟩ wq:=by
 obtain⟨vz,vf,U,hU,hfb,hzr,⟨GA,gc,rfl⟩,hfo,hfv⟩:=id hx;obtain⟨⟨ZA,zc,rfl⟩,hzo⟩:=hzr;obtain⟨nz,hnz⟩:∃nz,f.sizes.length=nz:=⟨_,rfl⟩;rw[hnz]at hfb hzo;obtain⟨x0,x1,x2,x3,-⟩:=Blk.four (t:=49) hfb;have hz64:nz≤64:=by have:=hok.s2;omega
 have hz0:0<nz:=by have:=List.length_pos_iff.2 hok.s0;omega
 have hup:upF f 0=preF f:=by unfold upF;simp
 have hpl:=upF_le (f:=f) 0;rw[hup]at hpl
 have hpre:preF f=hdl++((numT f.sizes).drop 1 ++ [10]):=by
  unfold preF;rw[head_text,hhl,nums_text hok.s0]
 rw[hpre,List.length_append]at hpl;have HPRE:=Hd hpre;have HZO:=Hd hzo;have HNZ:=Hd hnz;have HX:=Hd hx;have HW:=Hd hw;have HH:=Hd h1;have HOK:=Hd hok;have HLIN:=Hd hlin;have HLE:=Hd hle;have HTT:=Hd htt;have HQ:=Hd hq;have HNN:=Hd hN;have HT:=Hd ht;have HPL:=Hd hpl;clear hU hfb hfo hfv hok hw h1 hlin hle htt hq hN ht hx hzo hup hpl hpre hnz hhl
 conv=>arg 2;whnf
 go_wp2_with fail;clear x0 x1 x2 x3
 go_loopw [13,113] (fun lv iv wr => ∃q:Nat,iv = .int .i64 q∧q≤nz∧lv=strV (numT (f.sizes.take q))∧wq=wr) (fun _ iv _=>nz-(intOf iv).toNat)
 case atStart=>exact⟨0,rfl,Nat.zero_le _,rfl,rfl⟩
 case round =>
  obtain⟨q,rfl,hq,rfl,rfl⟩:=hrel;by_cases hlq:q<nz
  ·obtain⟨v,hv⟩:∃v,f.sizes[q]?=some v:=⟨_,List.getElem?_eq_getElem (by have:=HNZ.out;omega)⟩
   have hsa:=HZO.out;obtain⟨qs,rfl,-,-⟩:=own_some hsa (by omega);have hcv:=(hsa.cellAt q (by omega)).trans (show (nums f.sizes)[q]?=some (.int .i64 v) by unfold nums;rw[List.getElem?_map,hv];rfl);obtain⟨hv0,hv1⟩:=HOK.out.s1 v (List.mem_of_getElem? hv);have hd1:=d1_any v wq (by omega) (by omega);have hi21:(Lib.itoa v).length≤21:=itoa_21 (by omega) (by omega);obtain⟨cur,hcur⟩:∃cur,numT (f.sizes.take q)=cur:=⟨_,rfl⟩
   have hcl:cur.length≤100000:=by
    rw[← hcur];have:=numT_le22 (f.sizes.take q) (fun u hu=>by have:=HOK.out.s1 u (List.mem_of_mem_take hu);omega);rw[List.length_take]at this;omega
   have hadd:=sadd cur (32::Lib.itoa v) (by simp;omega);have HNX:Hid (numT (f.sizes.take (q+1))=cur++(32::Lib.itoa v)):=by rw[Hid,numT_take hv,← hcur]
   rw[hcur];have p0:(0:Int)≤(q:Int):=Int.natCast_nonneg _;have p1:(q:Int)<(nz:Int):=by omega
   clear hv hv0 hv1 hcur hsa;go_wp2_with fail;refine hd1.mono ?_;rintro e w' ⟨rfl,rfl⟩;clear hd1;go_wp2_with fail;go_roundw
   case measure=>simp[intOf];omega
   case rel=>exact⟨q+1,by go_num,hlq,by rw[HNX.out],trivial⟩
  ·obtain rfl:q=nz:=by omega
   have htk:f.sizes.take q=f.sizes:=by rw[← HNZ.out,List.take_length]
   rw[htk]
   obtain⟨sz,hsz⟩:∃sz,numT f.sizes=32::sz:=by
    obtain⟨a,l,e⟩:=List.exists_cons_of_ne_nil HOK.out.s0;rw[e,numT_cons];exact⟨_,rfl⟩
   have hpr:=HPRE.out;have hpl:=HPL.out;have hle:=HLE.out;rw[hsz]at hpr hpl;rw[hsz];rw[show (32::sz).drop 1=sz from rfl]at hpr hpl;rw[List.length_append]at hpl;have g0:=sadd_end sz 10 (by omega);have g1:∀w:World,(Op.stringOp .add ((⟨(32::sz).toArray⟩:ByteArray).extract 1 (sz.length+1)) ⟨#[10]⟩).run Tryz.prog w = .ok (strV (sz ++ [10])) w:=by rw[drop1];exact g0
   have g2:=sadd hdl (sz ++ [10]) (by rw[List.length_append];omega);rw[← hpr]at g2;clear g0 htk hlq hpr hpl hle hsz
   repeat (first | (exact pp_funs HW.out HH.out HX.out HOK.out HLIN.out HLE.out HTT.out HQ.out HNN.out HT.out) | go_step | dsimp only)
theorem max0 (l:List Int)(h:l ≠ [])(h0:∀v∈l,0≤v):l.foldl max 0=maxI l:=by
 obtain⟨a,t,rfl⟩:=List.exists_cons_of_ne_nil h;have:=h0 a (by simp);unfold maxI;simp only[List.foldl_cons,List.headD_cons];rw[show max 0 a=a by omega,show max a a=a by omega]
set_option maxRecDepth 1000000 in
set_option maxHeartbeats 16000000 in
theorem pp_head {w wq:World}{gf gx N c B:Nat}{A:Option Addr}{f:Fil}{SA FA:Option Addr}{sc fc:Nat}{V:List FT}{t:List UInt8}(hw:Below w.heap.size w wq)(h1:FilW wq gf f SA sc FA fc V)(hx:QFileV wq B gx f)(hok:OkFile f)(hlin:linesOf f.funs≤16384)(hle:(textF (prn f)).length≤65536)(htt:textF (prn f)=t)(hq:Reads wq wq.heap.size 1 A N (bv t))(hN:t.length=N)(ht:Tab wq)
 {k0 k1 k2 k5 k7 k8 k9 k10 k11 k12 k13 k14 k15 k16 k17 k18 k19 k20 k21 k22 k23 k24 k25 k26 k27 k28 k29 k30 k31 k32 k33 k34 k35 k36 k37 k38 k39 k40 k41 k42 k43 k44 k45 k46 k47 k48 k49 k50 k51 k52 k53 k54 k55 k56 k57 k58 k59 k60 k61 k62 k63 k64 k65 k66 k67 k68 k69 k70 k71 k72 k73 k74 k75 k76 k77 k78 k79 k80 k81 k82 k83 k84 k85 k86 k87 k88 k89 k90 k91 k92 k93 k94 k95 k96 k97 k98 k99 k100 k101 k102 k103 k104 k105 k106 k107 k108 k109 k110 k111 k112 k113 k114 k115 k116 k117 k118 k119 k120 k121 k122 k123 k124 k125 k126 k127 k128 k129 k130 k131 k132 k133 k134 k135 k136 k137 k138 k139 k140 k141 k142 k143 k144 k145 k146 k147 k148 k149 k150 k151 k152 k153 k154 k155 k156 k157 k158 k159 k160 k161 k162 k163 k164 k165 k166 k167 k168 k169 k170 k171 k172 k173 k174 k175 k176 k177 k178 k179 k180 k181 k182 k183 k184 k185 k186 k187 k188 k189 k190 k191 k192 k193 k194 k195 k196 k197 k198 k199 k200 k201 k202 k203 k204 k205 k206 k207 k208 k209 k210 k211 k212 k213 k214 k215 k216 k217 k218 k219 k220 k221 k222 k223 k224 k225 k226 k227 k228 k229 k230 k231 k232 k233 k234 k235 k236 k237 k238 k239 k240 k241 k242 k243 k244 k245 k246 k247 k248 k249 k250 k251 k252 k253 k254 k255:Value} :
 Code.wp Tryz.prog (sfx 7 ppbody) (bodyPost Tryz.prog Tryz.f5 fun e w'=>e = .returned (.bool true)∧Below w.heap.size w w') ⟨#[k0,k1,k2,.pointer (some ⟨gf,0,none⟩),.pointer (some ⟨gx,0,none⟩),k5,.slice A N c,k7,k8,k9,k10,k11,k12,k13,k14,k15,k16,k17,k18,k19,k20,k21,k22,k23,k24,k25,k26,k27,k28,k29,k30,k31,k32,k33,k34,k35,k36,k37,k38,k39,k40,k41,k42,k43,k44,k45,k46,k47,k48,k49,k50,k51,k52,k53,k54,k55,k56,k57,k58,k59,k60,k61,k62,k63,k64,k65,k66,k67,k68,k69,k70,k71,k72,k73,k74,k75,k76,k77,k78,k79,k80,k81,k82,k83,k84,k85,k86,k87,k88,k89,k90,k91,k92,k93,k94,k95,k96,k97,k98,k99,k100,k101,k102,k103,k104,k105,k106,k107,k108,k109,k110,k111,k112,k113,k114,k115,k116,k117,k118,k119,k120,k121,k122,k123,k124,k125,k126,k127,k128,k129,k130,k131,k132,k133,k134,k135,k136,k137,k138,k139,k140,k141,k142,k143,k144,k145,k146,k147,k148,k149,k150,k151,k152,k153,k154,k155,k156,k157,k158,k159,k160,k161,k162,k163,k164,k165,k166,k167,k168,k169,k170,k171,k172,k173,k174,k175,k176,k177,k178,k179,k180,k181,k182,k183,k184,k185,k186,k187,k188,k189,k190,k191,k192,k193,k194,k195,k196,k197,k198,k199,k200,k201,k202,k203,k204,k205,k206,k207,k208,k209,k210,k211,k212,k213,k214,k215,k216,k217,k218,k219,k220,k221,k222,k223,k224,k225,k226,k227,k228,k229,k230,k231,k232,k233,k234,k235,k236,k237,k238,k239,k240,k241,k242,k243,k244,k245,k246,k247,k248,k249,k250,k251,k252,k253,k254,k255],[]⟩ wq:=by
 obtain⟨vz,vf,U,hU,hfb,hzr,⟨GA,gc,rfl⟩,hfo,hfv⟩:=id hx;obtain⟨⟨ZA,zc,rfl⟩,hzo⟩:=hzr;have hUl:U.length=f.funs.length:=by rw[← hU];simp
 obtain⟨n,hn⟩:∃n,U.length=n:=⟨_,rfl⟩;obtain⟨nz,hnz⟩:∃nz,f.sizes.length=nz:=⟨_,rfl⟩;rw[hnz]at hfb hzo;rw[hn]at hfb;obtain⟨x0,x1,x2,x3,-⟩:=Blk.four (t:=49) hfb;have hz64:nz≤64:=by have:=hok.s2;omega
 have hn256:n≤256:=by have:=hok.n;omega
 have kk1:=hok.k1;have kk2:=hok.k2;have hnl:=hok.nlen;have HZO:=Hd hzo;have HNZ:=Hd hnz;have HN:=Hd hn;have HUL:=Hd hUl;have HX:=Hd hx;have HW:=Hd hw;have HH:=Hd h1;have HOK:=Hd hok;have HLIN:=Hd hlin;have HLE:=Hd hle;have HTT:=Hd htt;have HQ:=Hd hq;have HNN:=Hd hN;have HT:=Hd ht;have HX0:=Hd x0;have HX1:=Hd x1;have HX2:=Hd x2;have HX3:=Hd x3;clear hU hfb hfo hfv hok hw h1 hlin hle htt hq hN ht hx hzo hnz hn hUl x0 x1 x3
 conv=>arg 2;whnf
 go_wp2_with fail;clear x2
 go_loopw [9,68] (fun mv iv wr => ∃q:Nat,iv = .int .i64 q∧q≤nz∧mv = .int .i64 ((f.sizes.take q).foldl max 0)∧wq=wr) (fun _ iv _=>nz-(intOf iv).toNat)
 case atStart=>exact⟨0,rfl,Nat.zero_le _,rfl,rfl⟩
 case round =>
  obtain⟨q,rfl,hq,rfl,rfl⟩:=hrel;by_cases hlq:q<nz
  ·obtain⟨v,hv⟩:∃v,f.sizes[q]?=some v:=⟨_,List.getElem?_eq_getElem (by have:=HNZ.out;omega)⟩
   have hsa:=HZO.out;obtain⟨qs,rfl,-,-⟩:=own_some hsa (by omega);have hcv:=(hsa.cellAt q (by omega)).trans (show (nums f.sizes)[q]?=some (.int .i64 v) by unfold nums;rw[List.getElem?_map,hv];rfl);obtain⟨mo,hmo⟩:∃mo,(f.sizes.take q).foldl max 0=mo:=⟨_,rfl⟩;have HNX:Hid ((f.sizes.take (q+1)).foldl max 0=max mo v):=by rw[Hid,List.take_add_one,hv,List.foldl_append,hmo];rfl
   rw[hmo];have p0:(0:Int)≤(q:Int):=Int.natCast_nonneg _;have p1:(q:Int)<(nz:Int):=by omega
   clear hv hmo hsa;go_wp2_with fail;go_roundw
   case measure=>simp[intOf];omega
   case rel=>exact⟨q+1,by go_num,hlq,by rw[HNX.out],trivial⟩
  ·obtain rfl:q=nz:=by omega
   have htk:f.sizes.take q=f.sizes:=by rw[← HNZ.out,List.take_length]
   rw[htk,max0 f.sizes HOK.out.s0 (fun v hv=>by have:=(HOK.out.s1 v hv).1;omega)];obtain⟨mx,hmx⟩:∃mx,maxI f.sizes=mx:=⟨_,rfl⟩
   have hmr:0≤mx∧mx≤32:=by
    rw[← hmx];refine⟨?_,maxI_le HOK.out.s0 fun v hv=>(HOK.out.s1 v hv).2⟩;obtain⟨v,l,e⟩:=List.exists_cons_of_ne_nil HOK.out.s0;have h1:=HOK.out.s1 v (by rw[e];simp);have h2:=maxI_ge v (show v∈f.sizes by rw[e];simp);omega
   rw[hmx];have c1:=d1_any (q:Int) wq.drew (by omega) (by omega);have c2:=d1_any mx wq.drew (by omega) (by omega);have c3:=d1_any (n:Int) wq.drew (by omega) (by omega);have c4:=d1_any f.k wq.drew (by omega) (by omega);have i1:(Lib.itoa (q:Int)).length≤21:=itoa_21 (by omega) (by omega);have i2:(Lib.itoa mx).length≤21:=itoa_21 (by omega) (by omega);have i3:(Lib.itoa (n:Int)).length≤21:=itoa_21 (by omega) (by omega);have i4:(Lib.itoa f.k).length≤21:=itoa_21 (by omega) (by omega);obtain⟨s1,hs1⟩:∃s1,f.name++(32::Lib.itoa (q:Int))=s1:=⟨_,rfl⟩;have l1:s1.length≤90:=by rw[← hs1,List.length_append,List.length_cons];omega
   have g1:=sadd f.name (32::Lib.itoa (q:Int)) (by rw[List.length_cons];omega);rw[hs1]at g1;obtain⟨s2,hs2⟩:∃s2,s1++(32::Lib.itoa mx)=s2:=⟨_,rfl⟩;have l2:s2.length≤120:=by rw[← hs2,List.length_append,List.length_cons];omega
   have g2:=sadd s1 (32::Lib.itoa mx) (by rw[List.length_cons];omega);rw[hs2]at g2;obtain⟨s3,hs3⟩:∃s3,s2++(32::Lib.itoa (n:Int))=s3:=⟨_,rfl⟩;have l3:s3.length≤150:=by rw[← hs3,List.length_append,List.length_cons];omega
   have g3:=sadd s2 (32::Lib.itoa (n:Int)) (by rw[List.length_cons];omega);rw[hs3]at g3;obtain⟨s4,hs4⟩:∃s4,s3++(32::Lib.itoa f.k)=s4:=⟨_,rfl⟩;have l4:s4.length≤180:=by rw[← hs4,List.length_append,List.length_cons];omega
   have g4:=sadd s3 (32::Lib.itoa f.k) (by rw[List.length_cons];omega);rw[hs4]at g4;obtain⟨s5,hs5⟩:∃s5,s4 ++ [10]=s5:=⟨_,rfl⟩;have g5:=sadd_end s4 10 (by omega);rw[hs5]at g5
   have HFIN:Hid (f.name++numT (headN f) ++ [10]=s5):=by
    have e:numT (headN f)=(32::Lib.itoa (q:Int))++((32::Lib.itoa mx)++((32::Lib.itoa (n:Int))++(32::Lib.itoa f.k))):=by
     unfold headN;rw[HNZ.out,← HUL.out,HN.out,hmx];unfold numT;simp
    rw[Hid,e,← hs5,← hs4,← hs3,← hs2,← hs1];simp only[List.append_assoc]
   have HB:=Hd (bdr wq);have hbw:Below wq.heap.size wq wq.drew:=bdr wq;clear htk hlq hmx hs1 hs2 hs3 hs4 hs5 l1 l2 l3 l4 i1 i2 i3 i4;go_upto_region 17 with fail;refine wp_region_held_drew (S:=fun W=>W.cell? ⟨gx,0,none⟩=some (strV f.name)∧W.cell? ⟨gx,1,none⟩=some (.int .i64 f.k)∧W.cell? ⟨gx,2,none⟩=some (.slice ZA q zc)∧W.cell? ⟨gx,3,none⟩=some (.slice GA n gc)) (by kernel_rfl) ⟨HX0.out,HX1.out,HX2.out,HX3.out⟩ (fun hHeld=>?_);refine takes [0,1,2,3,4,5,6,7,8,9,12,13,16,17,18,19,20,21,24,25,26,27,28] hHeld (by kernel_rfl) (fun _ _ _ _ _ h=>h) ?_
   iterate 23
    conv=>whnf
    refine⟨?_,.inl ⟨by kernel_rfl,fun w hSw=>?_⟩,?_⟩
    rotate_left
    ·(try dsimp only at hSw);go_simp;try with_reducible rfl
    try simp only[Act.put,List.setIfInBounds_toArray,List.set_cons_zero,List.set_cons_succ]
   refine Yt.nil ?_;refine wpAnyH_ready (rs := [10]) (by kernel_rfl) (by simp) ?_;refine AllReadyH.cons rfl (fun K hK=>?_) AllReadyH.nil;go_simp
   (with_reducible refine c1.mono ?_)
   rintro e w8 ⟨rfl,rfl⟩;dsimp only;refine hK.out _ _ ⟨HX0.out,HX1.out,HX2.out,HX3.out⟩ (fun hHeld2=>?_);clear hK K hHeld c1;refine takes [11] hHeld2 (by kernel_rfl) (fun _ _ _ _ _ h=>h) ?_
   iterate 1
    conv=>whnf
    refine⟨?_,.inl ⟨by kernel_rfl,fun w hSw=>?_⟩,?_⟩
    rotate_left
    ·(try dsimp only at hSw);go_simp;try with_reducible rfl
    try simp only[Act.put,List.setIfInBounds_toArray,List.set_cons_zero,List.set_cons_succ]
   refine Yt.nil ?_;refine wpAnyH_ready (rs := [14]) (by kernel_rfl) (by simp) ?_;refine AllReadyH.cons rfl (fun K hK=>?_) AllReadyH.nil;go_simp
   (with_reducible refine c2.mono ?_)
   rintro e w8 ⟨rfl,rfl⟩;dsimp only;refine hK.out _ _ ⟨HX0.out,HX1.out,HX2.out,HX3.out⟩ (fun hHeld3=>?_);clear hK K hHeld2 c2;refine takes [15] hHeld3 (by kernel_rfl) (fun _ _ _ _ _ h=>h) ?_
   iterate 1
    conv=>whnf
    refine⟨?_,.inl ⟨by kernel_rfl,fun w hSw=>?_⟩,?_⟩
    rotate_left
    ·(try dsimp only at hSw);go_simp;try with_reducible rfl
    try simp only[Act.put,List.setIfInBounds_toArray,List.set_cons_zero,List.set_cons_succ]
   refine Yt.nil ?_;refine wpAnyH_ready (rs := [22]) (by kernel_rfl) (by simp) ?_;refine AllReadyH.cons rfl (fun K hK=>?_) AllReadyH.nil;go_simp
   (with_reducible refine c3.mono ?_)
   rintro e w8 ⟨rfl,rfl⟩;dsimp only;refine hK.out _ _ ⟨HX0.out,HX1.out,HX2.out,HX3.out⟩ (fun hHeld4=>?_);clear hK K hHeld3 c3;refine takes [23] hHeld4 (by kernel_rfl) (fun _ _ _ _ _ h=>h) ?_
   iterate 1
    conv=>whnf
    refine⟨?_,.inl ⟨by kernel_rfl,fun w hSw=>?_⟩,?_⟩
    rotate_left
    ·(try dsimp only at hSw);go_simp;try with_reducible rfl
    try simp only[Act.put,List.setIfInBounds_toArray,List.set_cons_zero,List.set_cons_succ]
   refine Yt.nil ?_;refine wpAnyH_ready (rs := [29]) (by kernel_rfl) (by simp) ?_;refine AllReadyH.cons rfl (fun K hK=>?_) AllReadyH.nil;go_simp
   (with_reducible refine c4.mono ?_)
   rintro e w8 ⟨rfl,rfl⟩;dsimp only;refine hK.out _ _ ⟨HX0.out,HX1.out,HX2.out,HX3.out⟩ (fun hHeld5=>?_);clear hK K hHeld4 c4;refine takes [30,31,32] hHeld5 (by kernel_rfl) (fun _ _ _ _ _ h=>h) ?_
   iterate 3
    conv=>whnf
    refine⟨?_,.inl ⟨by kernel_rfl,fun w hSw=>?_⟩,?_⟩
    rotate_left
    ·(try dsimp only at hSw);go_simp;try with_reducible rfl
    try simp only[Act.put,List.setIfInBounds_toArray,List.set_cons_zero,List.set_cons_succ]
   refine Yt.nil ?_;refine wpAnyH_done (by kernel_rfl) ?_ _;go_simp;clear hHeld5
   repeat (first | (exact pp_size (bto HW.out HB.out) (HH.out.below HB.out) (HX.out.below HB.out) HOK.out HLIN.out HLE.out HTT.out ((HQ.out.below HB.out).more HB.out.size) HNN.out (HT.out.below HB.out) HFIN.out) | go_step | dsimp only)
end Go.Proofs.YtjpkkkphhaajgaaGreatDoor.wcp
