/- a part -/
import Derived.Test.YtjpkkkphhaajgaaGreatDoorQdP40
import Derived.Test.YtjpkkkphhaajgaaGreatDoorQdP42
set_option linter.all false
namespace Go.Proofs.YtjpkkkphhaajgaaGreatDoor.wcp
open Go RowKit Shelf ChangeShapes WideShapes ChangeAt Maps words scn
noncomputable def cbody:Code:=Tryz.f4.body.getD .skip
theorem fils_self (f:Fil):FilS f f:=⟨rfl,rfl,rfl,rfl,fun j x y hx hy=>by
 rw[hx]at hy;injection hy with hy
 subst hy
 exact⟨rfl,⟨rfl,rfl,fun _ _=>rfl,.inl rfl⟩⟩⟩
def tria (sizes:List Int)(k n:Nat):List Int:=sizes.mapIdx fun i z=>((k:Int)*((i:Int)+2)+(n:Int)) % z
theorem tria_len (sizes:List Int)(k n:Nat):(tria sizes k n).length=sizes.length:=by simp[tria]
theorem tria_at {sizes:List Int}{k n i:Nat}{z:Int}(h:sizes[i]?=some z):(tria sizes k n)[i]?=some (((k:Int)*((i:Int)+2)+(n:Int)) % z):=by unfold tria;rw[List.getElem?_mapIdx,h];rfl
theorem tria_in {sizes:List Int}(hs:∀z∈sizes,1≤z)(k n:Nat):InS sizes (tria sizes k n):=by
 refine⟨tria_len _ _ _,fun i v z hv hz=>?_⟩;rw[tria_at hz]at hv;injection hv with hv
 have:=hs z (List.mem_of_getElem? hz);rw[← hv];exact⟨Int.emod_nonneg _ (by omega),Int.emod_lt_of_pos _ (by omega)⟩
set_option maxRecDepth 1000000 in
set_option maxHeartbeats 8000000 in
theorem canons_end {w w0:World}{gf gg n pc:Nat}{P:Option Addr}{f:Fil}{SA FA SG FG:Option Addr}{sc fc sg fg:Nat}{V U:List FT}(hw:Below w.heap.size w w0)(h1:FilW w0 gf f SA sc FA fc V)(h2:FilW w0 gg (canonF f) SG sg FG fg U)(hok:OkFile f)(hlin:linesOf f.funs≤16384)(hn:n≤140737488351232)
 {k1 k2 k4 k6 k7 k8 k9 kA kB kC kD kE kF kG kH kI kJ kK kL kM kN kO kP kQ kR kS kT kU kV kW kX kY kZ ka kb kc kd ke kf kg kh ki kj kk kl km kn ko kp kq kr ks kt ku kv kw kx ky kz j0 j1 j2 j3 j4 j5 j6 j7 j8 j9 jA jB jC jD jE jF jG jH jI jJ jK jL jM jN jO jP jQ jR jS jT jU jV jW jX jY jZ ja jb jc jd je jf jg jh ji jj jk jl jm jn jo jp jq jr js jt ju jv jw jx jy jz z0 z1 z2 z3 z4 z5 z6 z7 z8 z9 zA zB zC zD zE zF zG zH zI zJ zK zL zM zN zO zP zQ zR zS zT zU zV zW zX zY zZ za zb zc zd ze zf zg zh zi zj zk zl zm zn zo zp zq zr zs zt zu zv zw zx zy zz y0 y1 y2 y3 y4 y5 y6 y7 y8 y9 yA yB yC yD yE yF yG yH yI yJ yK yL yM yN yO yP yQ yR yS:Value} :
 Code.wp Tryz.prog (sfx 8 cbody) (bodyPost Tryz.prog Tryz.f4 fun e w'=>e = .returned (.bool true)∧Below w.heap.size w w') ⟨#[.slice P n pc,k1,k2,.pointer (some ⟨gf,0,none⟩),k4,.pointer (some ⟨gg,0,none⟩),k6,k7,k8,k9,kA,kB,kC,kD,kE,kF,kG,kH,kI,kJ,kK,kL,kM,kN,kO,kP,kQ,kR,kS,kT,kU,kV,kW,kX,kY,kZ,ka,kb,kc,kd,ke,kf,kg,kh,ki,kj,kk,kl,km,kn,ko,kp,kq,kr,ks,kt,ku,kv,kw,kx,ky,kz,j0,j1,j2,j3,j4,j5,j6,j7,j8,j9,jA,jB,jC,jD,jE,jF,jG,jH,jI,jJ,jK,jL,jM,jN,jO,jP,jQ,jR,jS,jT,jU,jV,jW,jX,jY,jZ,ja,jb,jc,jd,je,jf,jg,jh,ji,jj,jk,jl,jm,jn,jo,jp,jq,jr,js,jt,ju,jv,jw,jx,jy,jz,z0,z1,z2,z3,z4,z5,z6,z7,z8,z9,zA,zB,zC,zD,zE,zF,zG,zH,zI,zJ,zK,zL,zM,zN,zO,zP,zQ,zR,zS,zT,zU,zV,zW,zX,zY,zZ,za,zb,zc,zd,ze,zf,zg,zh,zi,zj,zk,zl,zm,zn,zo,zp,zq,zr,zs,zt,zu,zv,zw,zx,zy,zz,y0,y1,y2,y3,y4,y5,y6,y7,y8,y9,yA,yB,yC,yD,yE,yF,yG,yH,yI,yJ,yK,yL,yM,yN,yO,yP,yQ,yR,yS],[]⟩ w0:=by
 have hok2:=canon_ok hok;have hlin2:=Nat.le_trans (canon_lines hok) hlin;have hc2:=canon_twice hok;have hs64:=hok.s2;have HW:=Hd hw;have HF:=Hd h1;have HG:=Hd h2;have HOK:=Hd hok;have HLI:=Hd hlin;have HOK2:=Hd hok2;have HLI2:=Hd hlin2;have HC2:=Hd hc2;clear hw h1 h2 hok hlin hok2 hlin2 hc2
 conv=>arg 2;whnf
 obtain⟨iI,hI0,hI1,hI2,hI3⟩:=info_parts infoI;go_wp2_with fail
 go_loopw [151] (fun kv wr => ∃k:Nat,kv = .int .i64 k∧k≤8∧Hid (Below w0.heap.size w0 wr)) (fun kv _=>8-(intOf kv).toNat)
 case atStart=>exact⟨0,rfl,by omega,Below.refl _ _⟩
 case round =>
  obtain⟨k,rfl,hk,hbr⟩:=hrel;obtain⟨wl,hwl⟩:∃wl,wl=wr:=⟨_,rfl⟩;subst hwl;by_cases hk8:k<8
  ·have kI:decide ((k:Int)<8)=true:=decide_eq_true (by omega)
   obtain⟨-,-,x2,-,-⟩:=Blk.four (t:=34) ((HF.out.2.1).under hbr.out);have hmk:=fun W=>run_make_rowN (P:=Tryz.prog) 31 3 iI _ Tryz.underlying31 hI0 hI1 .i64 .i64 f.sizes.length f.sizes.length (Nat.le_refl _) (by rw[hI3];omega) (by omega) W
   obtain⟨ts,hts⟩:∃ts,tria f.sizes k n=ts:=⟨_,rfl⟩;have htl:ts.length=f.sizes.length:=by rw[← hts];exact tria_len _ _ _
   have hown:(wl.alloc (.cells (madeCells #[.int .i64 0] f.sizes.length) 3)).ownsRow wl.heap.size 3 1 (.slice (some ⟨wl.heap.size,0,none⟩) f.sizes.length f.sizes.length) f.sizes.length (nums (ts.take 0++List.replicate (ts.length-0) 0)):=by
    rw[List.take_zero,List.nil_append,Nat.sub_zero,htl,← nums_rep];exact World.ownsRow_lit wl _ f.sizes.length (Nat.le_refl _) (by unfold maxLen;omega) (by simp[madeCells])
   have hbm:=bone wl (.cells (madeCells #[.int .i64 0] f.sizes.length) 3);obtain⟨-,-,X2,-,-⟩:=Blk.four (t:=34) (((HF.out.2.1).under hbr.out).under hbm);obtain⟨pb,hpb⟩:∃pb,wl.heap.size=pb:=⟨_,rfl⟩;obtain⟨wm,hwm⟩:∃wm,wl.alloc (.cells (madeCells #[.int .i64 0] f.sizes.length) 3)=wm:=⟨_,rfl⟩;rw[hwm]at hown hbm X2;rw[hpb]at hown;have HTS:=Hd hts;have HTL:=Hd htl;have HOW:=Hd hown;have HBM:=Hd hbm;clear hts htl hown hbm;go_wp2_with fail;clear hmk hwm x2 X2
   go_loopw [165] (fun iv wy => ∃ (i:Nat),iv = .int .i64 i∧i≤f.sizes.length∧Hid (wy.ownsRow pb 3 1 (.slice (some ⟨pb,0,none⟩) f.sizes.length f.sizes.length) f.sizes.length (nums (ts.take i++List.replicate (ts.length-i) 0)))∧Hid (Below wl.heap.size wl wy)) (fun iv _=>f.sizes.length-(intOf iv).toNat)
   case atStart=>exact⟨0,rfl,Nat.zero_le _,HOW,HBM⟩
   case round =>
    clear HOW;obtain⟨i,rfl,hi,ht,hbq⟩:=hrel;by_cases hil:i<f.sizes.length
    ·obtain⟨ad,z,hZA,-,hz,hc⟩:=(Reads.of_own (own_under HF.out.2.2.1 (hbr.out.trans (hbq.out.mono hbr.out.size)))).num hil
     subst hZA;obtain⟨z1,z2⟩:=HOK.out.s1 z (List.mem_of_getElem? hz);have iI:decide ((i:Int)<(f.sizes.length:Int))=true:=decide_eq_true (by omega);have hzn:(z==0)=false:=by simp;omega
     have hzne:z≠0:=by omega
     have hm1:(0:Int)≤(k:Int)*((i:Int)+2):=Int.mul_nonneg (by omega) (by omega);have hm2:(k:Int)*((i:Int)+2)≤8*66:=Int.mul_le_mul (by omega) (by omega) (by omega) (by omega);have l0:(0:Int)≤(i:Int):=Int.natCast_nonneg _;have l1:(i:Int)<(f.sizes.length:Int):=by omega
     have hfz:=ht.out.frozenAt i;obtain⟨u,hu⟩:∃u,(nums (ts.take i++List.replicate (ts.length-i) 0))[i]?=some u:=⟨_,List.getElem?_eq_getElem (by have:=HTL.out;simp[nums];omega)⟩;have hcj:=(ht.out.cellAt i (by omega)).trans hu;have hti:ts[i]?=some (((k:Int)*((i:Int)+2)+(n:Int)) % z):=by rw[← HTS.out];exact tria_at hz
     obtain⟨v,hv⟩:∃v,((k:Int)*((i:Int)+2)+(n:Int)) % z=v:=⟨_,rfl⟩;rw[hv]at hti;have T1:Tch wr (wr.setCell ⟨pb,i,none⟩ (.int .i64 v)) (fun q=>q=pb):=Tch.put (S:=fun q=>q=pb) (Tch.refl wr _) (p:=⟨pb,i,none⟩) _ rfl;have ht1:(wr.setCell ⟨pb,i,none⟩ (.int .i64 v)).ownsRow pb 3 1 (.slice (some ⟨pb,0,none⟩) f.sizes.length f.sizes.length) f.sizes.length (nums (ts.take (i+1)++List.replicate (ts.length-(i+1)) 0)):=by rw[← set_part hti];exact (ht.out.stored i _).1
     have hb1:Below wl.heap.size wl (wr.setCell ⟨pb,i,none⟩ (.int .i64 v)):=hbq.out.trans (T1.below hbq.out.size fun q hq e=>by omega);have HT1:=Hd ht1;have HB1:=Hd hb1;clear hu hz ht1 hb1 T1 hti;go_wp2_with fail;go_roundw
     case measure=>simp[intOf];omega
     case rel=>exact⟨i+1,by go_num,hil,HT1,HB1⟩
    ·obtain rfl:i=f.sizes.length:=by omega
     have iI:decide ((f.sizes.length:Int)<(f.sizes.length:Int))=false:=decide_eq_false (by omega);have hbw:Below w0.heap.size w0 wr:=hbr.out.trans (hbq.out.mono hbr.out.size);have ht2:=ht.out;rw[List.take_of_length_le (by have:=HTL.out;omega),show ts.length-f.sizes.length=0 by have:=HTL.out;omega,List.replicate_zero,List.append_nil]at ht2;have hin:InS f.sizes ts:=by rw[← HTS.out];exact tria_in (fun z hz=>(HOK.out.s1 z hz).1) k n
     have hv1:=val_any (HF.out.below hbw) HOK.out HLI.out (some ⟨pb,0,none⟩) f.sizes.length f.sizes.length ts (Reads.of_own ht2) hin;have hve:=canon_val HOK.out hin;obtain⟨VT,hVT⟩:∃VT,valTo f ts f.funs=VT:=⟨_,rfl⟩;rw[hVT]at hv1 hve;have HBW:=Hd hbw;have HT2:=Hd ht2;have HIN:=Hd hin;have HVE:=Hd hve;clear ht2 hin hbw hVT hve;go_wp2_with fail;refine hv1.mono ?_;rintro e w7 ⟨rfl,hb7⟩;have hb8:=bto HBW.out hb7;have hv2:=val_any (HG.out.below hb8) HOK2.out HLI2.out (some ⟨pb,0,none⟩) f.sizes.length f.sizes.length ts (Reads.of_own (own_under HT2.out hb7)) HIN.out;rw[HVE.out]at hv2;have HB8:=Hd hb8;clear hv1 hb7 hb8;have hvv:(VT != VT)=false:=by simp
     go_wp2_with fail;refine hv2.mono ?_;rintro e w8 ⟨rfl,hb9⟩;have HB9:=Hd (bto HB8.out hb9);clear hv2 hb9;go_wp2_with fail;go_roundw
     case measure=>simp[intOf];omega
     case rel=>exact⟨k+1,by go_num,by omega,HB9⟩
  ·obtain rfl:k=8:=by omega
   have kI:decide (((8:Nat):Int)<8)=false:=rfl;have hc:=canon_any (HG.out.below hbr.out) HOK2.out HLI2.out;go_wp2_with fail;refine hc.mono ?_;rintro e w3 ⟨ga,S3,s3,F3,c3,V3,rfl,-,hfa,hb3⟩;rw[HC2.out]at hfa;have hb:=bto hbr.out hb3;have hs1:=psame_any (HG.out.below hb) hfa HOK2.out HOK2.out;have HB3:=Hd (bto HW.out hb);clear hc hfa hb3 hb;go_wp2_with fail;refine hs1.mono ?_;rintro e w5 ⟨b,rfl,hbi,hb5⟩;obtain rfl:b=true:=hbi.2 (fils_self _);have HB5:=Hd (bto HB3.out hb5);clear hs1 hbi hb5;go_wp2_with fail;go_ret;exact⟨rfl,HB5.out⟩
end Go.Proofs.YtjpkkkphhaajgaaGreatDoor.wcp
