/- a part -/
import Derived.Test.YtjpkkkphhaajgaaGreatDoorQdTpSame
import Derived.Test.YtjpkkkphhaajgaaGreatDoorQdP16
set_option linter.all false
namespace Go.Proofs.YtjpkkkphhaajgaaGreatDoor.wcp
open Go RowKit ChangeShapes WideShapes ChangeAt Maps words
def FunS (K:Int)(r r':Raw):Prop:=r.scope=r'.scope∧SameP (tpOf r K r.lines) (tpOf r' K r'.lines)
set_option maxRecDepth 100000 in
set_option maxHeartbeats 8000000 in
theorem psame1_any {w:World}{F G:Nat→Prop}{va vb:Value}{r r':Raw}{K:Int}(hx:FunV w F va r K)(hy:FunV w G vb r' K)(hok:okF r K)(hok':okF r' K)(hsz:r.scope=r'.scope→r.sizes=r'.sizes) :
 Calls Tryz.prog 60 #[va,vb] w fun e w' => ∃b:Bool,e = .returned (.bool b)∧(b=true↔FunS K r r')∧Below w.heap.size w w':=by
 obtain⟨v1,tg,rfl,⟨⟨A,c,rfl⟩,ho⟩,_,hT⟩:=hx;obtain⟨v2,tu,rfl,⟨⟨B,d,rfl⟩,hp⟩,_,hU⟩:=hy;have hlen:r.scope.length≤9223372036854775807:=by have:=hok.2.2.2.2.2.2.2;omega
 have hlen':r'.scope.length≤9223372036854775807:=by have:=hok'.2.2.2.2.2.2.2;omega
 have hln:r.lines.length≤1000000:=by have:=hok.2.2.2.2.2.2.1;omega
 have hln':r'.lines.length≤1000000:=by have:=hok'.2.2.2.2.2.2.1;omega
 have hk:=hok.tp r.lines;have hk':=hok'.tp r'.lines;have hb1:=bone w (.cells #[.slice A r.scope.length c,.pointer (some ⟨tg,0,none⟩)] 37);have hb2:=bnew hb1 (.cells #[.slice B r'.scope.length d,.pointer (some ⟨tu,0,none⟩)] 37);have hx0:Blk ((w.alloc (.cells #[.slice A r.scope.length c,.pointer (some ⟨tg,0,none⟩)] 37)).alloc (.cells #[.slice B r'.scope.length d,.pointer (some ⟨tu,0,none⟩)] 37)) w.heap.size 37 #[.slice A r.scope.length c,.pointer (some ⟨tg,0,none⟩)]:=(Blk.new _ _ _).alloc _
 have hy0:Blk ((w.alloc (.cells #[.slice A r.scope.length c,.pointer (some ⟨tg,0,none⟩)] 37)).alloc (.cells #[.slice B r'.scope.length d,.pointer (some ⟨tu,0,none⟩)] 37)) (w.heap.size+1) 37 #[.slice B r'.scope.length d,.pointer (some ⟨tu,0,none⟩)]:=by
  have:=Blk.new (w.alloc (.cells #[.slice A r.scope.length c,.pointer (some ⟨tg,0,none⟩)] 37)) 37 #[.slice B r'.scope.length d,.pointer (some ⟨tu,0,none⟩)];rw[show (w.alloc (.cells #[.slice A r.scope.length c,.pointer (some ⟨tg,0,none⟩)] 37)).heap.size=w.heap.size+1 by simp]at this;exact this
 go_enter Tryz.func60,Tryz.ntmps60
 go_upto_region 1 with fail;obtain⟨W,hW⟩:∃W,((w.alloc (.cells #[.slice A r.scope.length c,.pointer (some ⟨tg,0,none⟩)] 37)).alloc (.cells #[.slice B r'.scope.length d,.pointer (some ⟨tu,0,none⟩)] 37))=W:=⟨_,rfl⟩;rw[hW]at hb2 hx0 hy0 ⊢;have heq:=equalI_any A B r.scope.length r'.scope.length c d r.scope r'.scope W hlen hlen' (Reads.of_own (own_under ho hb2)) (Reads.of_own (own_under hp hb2));obtain⟨q,hq⟩:∃q,eqB r.scope r'.scope=q:=⟨_,rfl⟩;have hqe:q=true↔r.scope=r'.scope:=by rw[← hq];exact⟨fun h=>of_decide_eq_true h,fun h=>decide_eq_true h⟩
 rw[hq]at heq;have HSZ:Hid (q=true→(tpOf r K r.lines).sizes=(tpOf r' K r'.lines).sizes):=fun h=>by rw[(tpOf_same _ _ _).1,(tpOf_same _ _ _).1];exact hsz (hqe.1 h)
 have HQ:=Hd hqe;have HSAME:=Hd (fun (V:World) (hV:Below w.heap.size w V) (hs:(tpOf r K r.lines).sizes=(tpOf r' K r'.lines).sizes)=>same_any (hT.keep (Tch.of_below hV (fun _=>False)) (fun _ _ h=>h)) (hU.keep (Tch.of_below hV (fun _=>False)) (fun _ _ h=>h)) hk hk' hln hln' hs)
 have HCELL:Hid (∀V:World,Below W.heap.size W V→V.cell? ⟨w.heap.size,0,none⟩=some (.slice A r.scope.length c)∧V.cell? ⟨w.heap.size,1,none⟩=some (.pointer (some ⟨tg,0,none⟩))∧V.cell? ⟨w.heap.size+1,0,none⟩=some (.slice B r'.scope.length d)∧V.cell? ⟨w.heap.size+1,1,none⟩=some (.pointer (some ⟨tu,0,none⟩))):=fun V hV =>
  ⟨(Blk.cell (Blk.under hx0 hV) 0).trans rfl,(Blk.cell (Blk.under hx0 hV) 1).trans rfl,(Blk.cell (Blk.under hy0 hV) 0).trans rfl,(Blk.cell (Blk.under hy0 hV) 1).trans rfl⟩
 obtain⟨y0,y1,y2,y3⟩:=HCELL.out W (Below.refl _ _);have HB2:=Hd hb2;clear ho hp hT hU hb1 hb2 hx0 hy0 hW hk hk' hqe hq hsz
 cases q with
 | false =>
   go_wp2_with fail;refine heq.mono ?_;rintro e w5 ⟨rfl,hb5⟩;have HK5:=Hd hb5;clear heq hb5 y0 y1 y2 y3;go_wp2_with fail;go_ret
   exact⟨false,rfl,by have:=HQ.out;unfold FunS;simp_all,bto HB2.out HK5.out⟩
 | true =>
   go_wp2_with fail;refine heq.mono ?_;rintro e w5 ⟨rfl,hb5⟩;have hsm:=HSAME.out w5 (bto HB2.out hb5) (HSZ.out trivial);obtain⟨z0,z1,z2,z3⟩:=HCELL.out w5 hb5;have HK5:=Hd hb5;clear heq hb5 y0 y1 y2 y3;go_wp2_with fail;refine hsm.mono ?_;rintro e w6 ⟨b,rfl,hbi,hb6⟩;have HBI:=Hd hbi;have HK6:=Hd (bto HK5.out hb6);clear hsm hbi hb6
   cases b with
   | false =>
     go_wp2_with fail;go_ret
     exact⟨false,rfl,by have:=HBI.out;unfold FunS;simp_all,bto HB2.out HK6.out⟩
   | true =>
     go_wp2_with fail;go_ret;exact⟨true,rfl,by have h1:=HQ.out;have h2:=HBI.out;unfold FunS;simp_all,bto HB2.out HK6.out⟩
def FunsS (K:Int)(fs gs:List Raw):Prop:=fs.length=gs.length∧∀ (j:Nat) x y,fs[j]?=some x→gs[j]?=some y→FunS K x y
theorem funsS_no {K:Int}{fs gs:List Raw}(h:fs.length≠gs.length):Hid (¬ FunsS K fs gs):=fun h'=>h h'.1
set_option maxRecDepth 100000 in
set_option maxHeartbeats 8000000 in
theorem peqf_any {w:World}{g g2:Nat}{f f2:Fil}{SA SB FA GA:Option Addr}{sc sd fc gc:Nat}{V U:List FT}(h:FilW w g f SA sc FA fc V)(h2:FilW w g2 f2 SB sd GA gc U)(hok:OkFile f)(hok2:OkFile f2)(hk:f.k=f2.k)(hzs:f.sizes=f2.sizes) :
 Calls Tryz.prog 61 #[.slice FA V.length fc,.slice GA U.length gc,.func (.func 60) #[] #[]] w fun e w' => ∃b:Bool,e = .returned (.bool b)∧(b=true↔FunsS f.k f.funs f2.funs)∧Below w.heap.size w w':=by
 have hVl:V.length=f.funs.length:=by have:=congrArg List.length h.1;simpa using this
 have hUl:U.length=f2.funs.length:=by have:=congrArg List.length h2.1;simpa using this
 have hfl:=hok.n;have hfl2:=hok2.n
 have hagV:∀p∈V,∃a b,p.1 = .agg #[a,b]:=fun p hp=>by
  obtain⟨v1,tg,e,_⟩:=h.2.2.2.2 p hp;exact⟨_,_,e⟩
 have hagU:∀p∈U,∃a b,p.1 = .agg #[a,b]:=fun p hp=>by
  obtain⟨v1,tg,e,_⟩:=h2.2.2.2.2 p hp;exact⟨_,_,e⟩
 have HH:=Hd h;have HI:=Hd h2;have HOK:=Hd hok;have HOK2:=Hd hok2;have HGV:=Hd hagV;have HGU:=Hd hagU;have HVL:=Hd hVl;have HUL:=Hd hUl;have HK:=Hd hk;have HZ:=Hd hzs;obtain⟨m,hm⟩:∃m,f.funs.length=m:=⟨_,rfl⟩;obtain⟨m2,hm2⟩:∃m,f2.funs.length=m:=⟨_,rfl⟩;rw[hVl,hUl,hm,hm2];rw[hm]at hfl;rw[hm2]at hfl2;have HM:=Hd hm;have HM2:=Hd hm2;clear h h2 hok hok2 hagV hagU hVl hUl hm hm2 hk hzs;by_cases hmm:m=m2
 ·subst hmm
  go_enter Tryz.func61,Tryz.ntmps61
  go_wp2_with fail
  go_loopw [17] (fun jv wr => ∃j:Nat,jv = .int .i64 j∧j≤m∧(∀ (i:Nat) x y,i<j→f.funs[i]?=some x→f2.funs[i]?=some y→FunS f.k x y)∧Below w.heap.size w wr) (fun jv _=>m-(intOf jv).toNat)
  case atStart=>exact⟨0,rfl,Nat.zero_le _,fun i _ _ hi=>absurd hi (Nat.not_lt_zero _),Below.refl _ _⟩
  case round =>
   obtain⟨j,rfl,hj,hsofar,hb⟩:=hrel;have HSO:=Hd hsofar;clear hsofar;by_cases hlt:j<m
   ·obtain⟨hV,-,-,hrowV,hfvV⟩:=HH.out.below hb
    obtain⟨hU,-,-,hrowU,hfvU⟩:=HI.out.below hb;obtain⟨p,hp⟩:∃p,V[j]?=some p:=⟨_,List.getElem?_eq_getElem (by have:=HVL.out;have:=HM.out;omega)⟩;obtain⟨q,hq⟩:∃q,U[j]?=some q:=⟨_,List.getElem?_eq_getElem (by have:=HUL.out;have:=HM2.out;omega)⟩;have hfx:f.funs[j]?=some p.2.2.2:=by rw[← hV,List.getElem?_map,hp];rfl
    have hfy:f2.funs[j]?=some q.2.2.2:=by rw[← hU,List.getElem?_map,hq];rfl
    have hfp:=hfvV p (List.mem_of_getElem? hp);have hfq:=hfvU q (List.mem_of_getElem? hq);rw[← HK.out]at hfq;have hpx:p.2.2.2∈f.funs:=List.mem_of_getElem? hfx;have hqx:q.2.2.2∈f2.funs:=List.mem_of_getElem? hfy;have ho1:=(HOK.out.fs _ hpx).1;have ho2:=(HOK2.out.fs _ hqx).1;rw[← HK.out]at ho2
    have hsz:p.2.2.2.scope=q.2.2.2.scope→p.2.2.2.sizes=q.2.2.2.sizes:=fun he=>by
     rw[(HOK.out.fs _ hpx).2.1.2.2,(HOK2.out.fs _ hqx).2.1.2.2,he,HZ.out]
    obtain⟨a,b,hab⟩:=HGV.out p (List.mem_of_getElem? hp);obtain⟨a2,b2,hab2⟩:=HGU.out q (List.mem_of_getElem? hq);obtain⟨pv,lo,hi,pf⟩:=p;obtain⟨qv,lo2,hi2,qf⟩:=q;dsimp only at hab hab2 hfp hfq hpx ho1 hqx ho2 hfx hfy hsz;subst hab hab2;obtain⟨c0,c1⟩:=fc_at HGV.out hp;obtain⟨d0,d1⟩:=fc_at HGU.out hq;obtain⟨fq,rfl,_,_⟩:=own_some hrowV (by have:=HVL.out;have:=HM.out;omega);obtain⟨gq,rfl,_,_⟩:=own_some hrowU (by have:=HUL.out;have:=HM2.out;omega);have k0:=(hrowV.cellAt (j*2) (by have:=HVL.out;have:=HM.out;omega)).trans c0;have k1:=(hrowV.cellAt (j*2+1) (by have:=HVL.out;have:=HM.out;omega)).trans c1;have m0:=(hrowU.cellAt (j*2) (by have:=HUL.out;have:=HM2.out;omega)).trans d0;have m1:=(hrowU.cellAt (j*2+1) (by have:=HUL.out;have:=HM2.out;omega)).trans d1;have hcl:=fun (W:World) (hW:Below wr.heap.size wr W)=>psame1_any (hfp.off (S:=fun _=>False) (Tch.of_below hW _) fun k h=>h.elim) (hfq.off (S:=fun _=>False) (Tch.of_below hW _) fun k h=>h.elim) ho1 ho2 hsz
    have i0:(0:Int)≤(j:Int):=Int.natCast_nonneg _;have i1:(j:Int)<(m:Int):=by omega
    have HB:=Hd hb;have HFX:=Hd hfx;have HFY:=Hd hfy;have hba:=bnew (bone wr (.cells #[a,b] 37)) (.cells #[a2,b2] 37);have hc2:=hcl _ hba;have HBA:=Hd hba;obtain⟨v1,tg,e1,⟨⟨C1,k1',e2⟩,_⟩,_⟩:=hfp;injection e1 with e1
    obtain⟨rfl,rfl⟩:a=v1∧b = .pointer (some ⟨tg,0,none⟩):=by simpa using e1
    subst e2;obtain⟨v2,tu,e3,⟨⟨C2,k2',e4⟩,_⟩,_⟩:=hfq;injection e3 with e3
    obtain⟨rfl,rfl⟩:a2=v2∧b2 = .pointer (some ⟨tu,0,none⟩):=by simpa using e3
    subst e4;clear hV hU hrowV hrowU hfvV hfvU hp hq c0 c1 d0 d1 hb e1 e3 hpx ho1 hqx ho2 hcl hba hfx hfy hsz;go_wp2_with fail;refine hc2.mono ?_;rintro e w2 ⟨bb,rfl,hbb,hb2⟩;have HB2:=Hd (bto HB.out (bto HBA.out hb2));have HBB:=Hd hbb;clear hc2 hb2 k0 k1 m0 m1 hbb
    cases bb with
    | false =>
      go_wp2_with fail;go_ret;refine⟨false,rfl,?_,HB2.out⟩;have hno:¬ FunS f.k pf qf:=fun hf=>by have:=HBB.out;simp[hf]at this
      exact⟨fun h=>by simp at h,fun h=>absurd (h.2 j _ _ HFX.out HFY.out) hno⟩
    | true =>
      go_wp2_with fail;go_roundw
      case measure=>simp[intOf];omega
      case rel =>
       refine⟨j+1,by go_num,by omega,fun i x y hi hx hy=>?_,HB2.out⟩;rcases Nat.lt_succ_iff_lt_or_eq.1 hi with h1 | rfl
       ·exact HSO.out i x y h1 hx hy
       ·have hyes:FunS f.k pf qf:=by have:=HBB.out;simpa using this
        rw[HFX.out]at hx;rw[HFY.out]at hy
        cases hx
        cases hy
        exact hyes
   ·obtain rfl:j=m:=by omega
    have HB:=Hd hb;clear hb;go_wp2_with fail;go_ret;refine⟨true,rfl,⟨fun _=>⟨by rw[HM.out,HM2.out],fun i x y hx hy=>HSO.out i x y ?_ hx hy⟩,fun _=>rfl⟩,HB.out⟩;have:=(List.getElem?_eq_some_iff.1 hx).1;have:=HM.out;omega
 ·have HN:=funsS_no (K:=f.k) (fs:=f.funs) (gs:=f2.funs) (by have:=HM.out;have:=HM2.out;omega)
  go_enter Tryz.func61,Tryz.ntmps61
  go_wp2_with fail;go_ret;exact⟨false,rfl,⟨fun h=>by simp at h,fun h=>absurd h HN.out⟩,Below.refl _ _⟩
end Go.Proofs.YtjpkkkphhaajgaaGreatDoor.wcp
namespace Go.Proofs.YtjpkkkphhaajgaaGreatDoor.wcp
open Go RowKit ChangeShapes WideShapes ChangeAt Maps words scn
def FilS (f f2:Fil):Prop:=f.name=f2.name∧f.k=f2.k∧f.sizes=f2.sizes∧FunsS f.k f.funs f2.funs
def PSameR (w:World)(f f2:Fil)(e:Ending)(w':World):Prop := ∃b:Bool,e = .returned (.bool b)∧(b=true↔FilS f f2)∧Below w.heap.size w w'
theorem ba_loop (b:ByteArray):∀ (n i:Nat) (r:List UInt8),b.size-i=n→ByteArray.toList.loop b i r=r.reverse++b.data.toList.drop i:=by
 have hsz:b.data.toList.length=b.size:=by rw[Array.length_toList];rfl
 intro n
 induction n with
 | zero =>
   intro i r h;rw[ByteArray.toList.loop];have:¬ i<b.size:=by omega
   rw[if_neg this,List.drop_of_length_le (by omega),List.append_nil]
 | succ n ih =>
   intro i r h;have hi:i<b.size:=by omega
   rw[ByteArray.toList.loop,if_pos hi,ih (i+1) _ (by omega)];have hl:i<b.data.toList.length:=by omega
   rw[List.drop_eq_getElem_cons hl,List.reverse_cons,List.append_assoc]
   congr 2
   simp[ByteArray.get!,getElem!_pos,hi]
theorem ba_toList (b:ByteArray):b.toList=b.data.toList:=by
 unfold ByteArray.toList;rw[ba_loop b _ 0 [] rfl];simp
set_option maxRecDepth 100000 in
set_option maxHeartbeats 8000000 in
theorem psame_any {w:World}{g g2:Nat}{f f2:Fil}{SA SB FA GA:Option Addr}{sc sd fc gc:Nat}{V U:List FT}(h:FilW w g f SA sc FA fc V)(h2:FilW w g2 f2 SB sd GA gc U)(hok:OkFile f)(hok2:OkFile f2) :
 Calls Tryz.prog 24 #[.pointer (some ⟨g,0,none⟩),.pointer (some ⟨g2,0,none⟩)] w fun e w'=>PSameR w f f2 e w':=by
 have HH:=Hd h;have HI:=Hd h2;have HOK:=Hd hok;have HOK2:=Hd hok2;obtain⟨lv,hlv⟩:∃lv,V.length=lv:=⟨_,rfl⟩;obtain⟨lu,hlu⟩:∃lu,U.length=lu:=⟨_,rfl⟩;obtain⟨ls,hls⟩:∃ls,f.sizes.length=ls:=⟨_,rfl⟩;obtain⟨lz,hlz⟩:∃lz,f2.sizes.length=lz:=⟨_,rfl⟩;obtain⟨n1,hnm⟩:∃nm,(⟨f.name.toArray⟩:ByteArray)=nm:=⟨_,rfl⟩;obtain⟨n2,hnm2⟩:∃nm,(⟨f2.name.toArray⟩:ByteArray)=nm:=⟨_,rfl⟩;obtain⟨fk,hfk⟩:∃k,f.k=k:=⟨_,rfl⟩;obtain⟨fk2,hfk2⟩:∃k,f2.k=k:=⟨_,rfl⟩;have heq:=fun (W:World) (hW:Below w.heap.size w W)=>equalI_any SA SB f.sizes.length f2.sizes.length sc sd f.sizes f2.sizes W (by have:=hok.s2;omega) (by have:=hok2.s2;omega) (Reads.of_own (own_under h.2.2.1 hW)) (Reads.of_own (own_under h2.2.2.1 hW))
 have hx:=fun (W:World) (hW:Below w.heap.size w W)=>Blk.four (t:=34) (Blk.under h.2.1 hW)
 have hy:=fun (W:World) (hW:Below w.heap.size w W)=>Blk.four (t:=34) (Blk.under h2.2.1 hW)
 rw[hlv,hls,show strV f.name = .string n1 from congrArg Value.string hnm,hfk]at hx;rw[hlu,hlz,show strV f2.name = .string n2 from congrArg Value.string hnm2,hfk2]at hy;rw[hls,hlz]at heq;obtain⟨q,hq⟩:∃q,eqB f.sizes f2.sizes=q:=⟨_,rfl⟩;rw[hq]at heq;have HQ:Hid (q=true↔f.sizes=f2.sizes):=by rw[← hq];exact⟨fun h=>of_decide_eq_true h,fun h=>decide_eq_true h⟩
 have HK:Hid (f.k=fk∧f2.k=fk2):=⟨hfk,hfk2⟩;have HL:Hid (V.length=lv∧U.length=lu):=⟨hlv,hlu⟩;have HX:=Hd hx;have HY:=Hd hy;have HE:=Hd heq;have HN:Hid (n1.toList=f.name∧n2.toList=f2.name):=by rw[← hnm,← hnm2,ba_toList,ba_toList];exact⟨by simp,by simp⟩
 clear h h2 hok hok2 hlv hlu hls hlz hfk hfk2 hnm hnm2 hx hy heq hq
 go_enter Tryz.func24,Tryz.ntmps24
 go_upto_region 4 with fail;obtain⟨w0,hwd⟩:∃w0,w.drew=w0:=⟨_,rfl⟩;have hb0:Below w.heap.size w w0:=by rw[← hwd];exact (Below.refl _ _).drew
 have HB0:=Hd hb0
 have HC:Hid (∀W,Below w.heap.size w W→W.cell? ⟨g,0,none⟩=some (.string n1)∧W.cell? ⟨g,1,none⟩=some (.int .i64 fk)∧W.cell? ⟨g,2,none⟩=some (.slice SA ls sc)∧W.cell? ⟨g,3,none⟩=some (.slice FA lv fc)∧W.cell? ⟨g2,0,none⟩=some (.string n2)∧W.cell? ⟨g2,1,none⟩=some (.int .i64 fk2)∧W.cell? ⟨g2,2,none⟩=some (.slice SB lz sd)∧W.cell? ⟨g2,3,none⟩=some (.slice GA lu gc)):=fun W hW=>by
  obtain⟨a0,a1,a2,a3,-⟩:=HX.out W hW;obtain⟨b0,b1,b2,b3,-⟩:=HY.out W hW;exact⟨a0,a1,a2,a3,b0,b1,b2,b3⟩
 refine wp_region_held_drew (S:=(fun W=>W.cell? ⟨g,0,none⟩=some (.string n1)∧W.cell? ⟨g,1,none⟩=some (.int .i64 fk)∧W.cell? ⟨g,2,none⟩=some (.slice SA ls sc)∧W.cell? ⟨g,3,none⟩=some (.slice FA lv fc)∧W.cell? ⟨g2,0,none⟩=some (.string n2)∧W.cell? ⟨g2,1,none⟩=some (.int .i64 fk2)∧W.cell? ⟨g2,2,none⟩=some (.slice SB lz sd)∧W.cell? ⟨g2,3,none⟩=some (.slice GA lu gc))) (by kernel_rfl) (by rw[hwd];exact HC.out w0 hb0) (fun hHeld=>?_);rw[hwd]at hHeld ⊢;clear hwd hb0;have hs0:=HC.out w0 HB0.out;refine takes [0,1,2,3,4,5,6,7,8] hHeld (by kernel_rfl) (fun _ _ _ _ _ h=>h) ?_
 iterate 9
  conv=>whnf
  refine⟨?_,.inl ⟨by kernel_rfl,fun w hSw=>?_⟩,?_⟩
  rotate_left
  ·(try dsimp only at hSw);go_simp;try with_reducible rfl
  try simp only[Act.put,ya,yb,yc]
 refine Yt.nil ?_;by_cases hn:n1.toList=n2.toList
 rotate_left
 ·have e9:(n1.toList==n2.toList)=false:=by simp[hn]
  have HNO:Hid (¬ FilS f f2):=fun h=>hn (by have h1:=HN.out;rw[h1.1,h1.2,h.1])
  refine takes [9,10,11,12,13,14,15,16,17,18,19,20,21,22,23,24,25,26,27,28] hHeld (by kernel_rfl) (fun _ _ _ _ _ h=>h) ?_
  iterate 1
   conv=>whnf
   refine⟨?_,.inl ⟨by kernel_rfl,fun w hSw=>?_⟩,?_⟩
   rotate_left
   ·(try dsimp only at hSw);go_simp;try with_reducible rfl
   try simp only[Act.put,ya,yb,yc]
  iterate 9
   conv=>whnf
   refine⟨_,.inr ⟨by kernel_rfl,rfl⟩,?_⟩
   try simp only[Act.put,ya,yb,yc]
  iterate 2
   conv=>whnf
   refine⟨?_,.inl ⟨by kernel_rfl,fun w hSw=>?_⟩,?_⟩
   rotate_left
   ·(try dsimp only at hSw);go_simp;try with_reducible rfl
   try simp only[Act.put,ya,yb,yc]
  iterate 8
   conv=>whnf
   refine⟨_,.inr ⟨by kernel_rfl,rfl⟩,?_⟩
   try simp only[Act.put,ya,yb,yc]
  refine Yt.nil ?_;refine wpAnyH_ready (rs := [29]) (by kernel_rfl) (by simp) ?_;refine AllReadyH.cons rfl (fun Kc hKc=>?_) AllReadyH.nil;go_simp;refine hKc.out _ _ hs0 (fun hHeldz=>?_);clear hKc Kc;refine takes [30,31,32,33,34,35,36,37,38,39,40] hHeldz (by kernel_rfl) (fun _ _ _ _ _ h=>h) ?_
  iterate 2
   conv=>whnf
   refine⟨?_,.inl ⟨by kernel_rfl,fun w hSw=>?_⟩,?_⟩
   rotate_left
   ·(try dsimp only at hSw);go_simp;try with_reducible rfl
   try simp only[Act.put,ya,yb,yc]
  iterate 9
   conv=>whnf
   refine⟨_,.inr ⟨by kernel_rfl,rfl⟩,?_⟩
   try simp only[Act.put,ya,yb,yc]
  refine Yt.nil ?_;refine wpAnyH_ready (rs := [41]) (by kernel_rfl) (by simp) ?_;refine AllReadyH.cons rfl (fun Kc hKc=>?_) AllReadyH.nil;go_simp;refine hKc.out _ _ hs0 (fun hHeldzy=>?_);clear hKc Kc;refine takes [42] hHeldzy (by kernel_rfl) (fun _ _ _ _ _ h=>h) ?_
  iterate 1
   conv=>whnf
   refine⟨?_,.inl ⟨by kernel_rfl,fun w hSw=>?_⟩,?_⟩
   rotate_left
   ·(try dsimp only at hSw);go_simp;try with_reducible rfl
   try simp only[Act.put,ya,yb,yc]
  refine Yt.nil ?_;refine wpAnyH_take (i:=43) (oi:=_) (v:=?v42) rfl (by kernel_rfl) (by kernel_rfl) (by kernel_rfl) (fun _ _ _ h=>h) (Or.inl ⟨by kernel_rfl,?hy42⟩) hHeldzy ?rest42
  case hy42=>(intro w hSw;(try dsimp only at hSw);go_simp;try with_reducible rfl)
  try simp only[Act.put,ya,yb,yc]
  refine wpAnyH_done (by kernel_rfl) ?_ _;go_simp
  try go_wp2_with fail
  try go_ret
  exact⟨false,rfl,⟨fun h=>by simp at h,fun h=>absurd h HNO.out⟩,HB0.out⟩
 have e9:(n1.toList==n2.toList)=true:=by simp[hn]
 have HNT:Hid (f.name=f2.name):=Hd (by have h1:=HN.out;rw[← h1.1,← h1.2,hn]);refine takes [9,10,11,12,13,14,15,16,17] hHeld (by kernel_rfl) (fun _ _ _ _ _ h=>h) ?_
 iterate 9
  conv=>whnf
  refine⟨?_,.inl ⟨by kernel_rfl,fun w hSw=>?_⟩,?_⟩
  rotate_left
  ·(try dsimp only at hSw);go_simp;try with_reducible rfl
  try simp only[Act.put,ya,yb,yc]
 refine Yt.nil ?_;by_cases hk:fk=fk2
 rotate_left
 ·have e18:(fk==fk2)=false:=by simp[hk]
  have HNO:Hid (¬ FilS f f2):=fun h=>hk (by have h1:=HK.out;rw[← h1.1,← h1.2,h.2.1])
  clear hk;refine takes [18,19,20,21,22,23,24,25,26,27,28] hHeld (by kernel_rfl) (fun _ _ _ _ _ h=>h) ?_
  iterate 3
   conv=>whnf
   refine⟨?_,.inl ⟨by kernel_rfl,fun w hSw=>?_⟩,?_⟩
   rotate_left
   ·(try dsimp only at hSw);go_simp;try with_reducible rfl
   try simp only[Act.put,ya,yb,yc]
  iterate 8
   conv=>whnf
   refine⟨_,.inr ⟨by kernel_rfl,rfl⟩,?_⟩
   try simp only[Act.put,ya,yb,yc]
  refine Yt.nil ?_;refine wpAnyH_ready (rs := [29]) (by kernel_rfl) (by simp) ?_;refine AllReadyH.cons rfl (fun Kc hKc=>?_) AllReadyH.nil;go_simp;refine hKc.out _ _ hs0 (fun hHeldz=>?_);clear hKc Kc;refine takes [30,31,32,33,34,35,36,37,38,39,40] hHeldz (by kernel_rfl) (fun _ _ _ _ _ h=>h) ?_
  iterate 2
   conv=>whnf
   refine⟨?_,.inl ⟨by kernel_rfl,fun w hSw=>?_⟩,?_⟩
   rotate_left
   ·(try dsimp only at hSw);go_simp;try with_reducible rfl
   try simp only[Act.put,ya,yb,yc]
  iterate 9
   conv=>whnf
   refine⟨_,.inr ⟨by kernel_rfl,rfl⟩,?_⟩
   try simp only[Act.put,ya,yb,yc]
  refine Yt.nil ?_;refine wpAnyH_ready (rs := [41]) (by kernel_rfl) (by simp) ?_;refine AllReadyH.cons rfl (fun Kc hKc=>?_) AllReadyH.nil;go_simp;refine hKc.out _ _ hs0 (fun hHeldzy=>?_);clear hKc Kc;refine takes [42] hHeldzy (by kernel_rfl) (fun _ _ _ _ _ h=>h) ?_
  iterate 1
   conv=>whnf
   refine⟨?_,.inl ⟨by kernel_rfl,fun w hSw=>?_⟩,?_⟩
   rotate_left
   ·(try dsimp only at hSw);go_simp;try with_reducible rfl
   try simp only[Act.put,ya,yb,yc]
  refine Yt.nil ?_;refine wpAnyH_take (i:=43) (oi:=_) (v:=?v75) rfl (by kernel_rfl) (by kernel_rfl) (by kernel_rfl) (fun _ _ _ h=>h) (Or.inl ⟨by kernel_rfl,?hy75⟩) hHeldzy ?rest75
  case hy75=>(intro w hSw;(try dsimp only at hSw);go_simp;try with_reducible rfl)
  try simp only[Act.put,ya,yb,yc]
  refine wpAnyH_done (by kernel_rfl) ?_ _;go_simp
  try go_wp2_with fail
  try go_ret
  exact⟨false,rfl,⟨fun h=>by simp at h,fun h=>absurd h HNO.out⟩,HB0.out⟩
 subst hk;have e18:(fk==fk)=true:=by simp
 refine takes [18,19,20,21,22,23,24,25,26,27,28] hHeld (by kernel_rfl) (fun _ _ _ _ _ h=>h) ?_
 iterate 11
  conv=>whnf
  refine⟨?_,.inl ⟨by kernel_rfl,fun w hSw=>?_⟩,?_⟩
  rotate_left
  ·(try dsimp only at hSw);go_simp;try with_reducible rfl
  try simp only[Act.put,ya,yb,yc]
 refine Yt.nil ?_;refine wpAnyH_ready (rs := [29]) (by kernel_rfl) (by simp) ?_;refine AllReadyH.cons rfl (fun Kc hKc=>?_) AllReadyH.nil;go_simp;refine (HE.out w0 HB0.out).mono ?_;rintro e wa ⟨rfl,hba⟩;dsimp only;have HBA:=Hd (bto HB0.out hba);have hsa:=HC.out wa HBA.out;refine hKc.out _ _ hsa (fun hHa=>?_);clear hKc Kc hba
 cases q with
 | false =>
   have HNO:Hid (¬ FilS f f2):=fun h=>by have h2:=HQ.out;have h3:=h.2.2.1;simp[h3]at h2
   refine takes [30,31,32,33,34,35,36,37,38,39,40] hHa (by kernel_rfl) (fun _ _ _ _ _ h=>h) ?_
   iterate 2
    conv=>whnf
    refine⟨?_,.inl ⟨by kernel_rfl,fun w hSw=>?_⟩,?_⟩
    rotate_left
    ·(try dsimp only at hSw);go_simp;try with_reducible rfl
    try simp only[Act.put,ya,yb,yc]
   iterate 9
    conv=>whnf
    refine⟨_,.inr ⟨by kernel_rfl,rfl⟩,?_⟩
    try simp only[Act.put,ya,yb,yc]
   refine Yt.nil ?_;refine wpAnyH_ready (rs := [41]) (by kernel_rfl) (by simp) ?_;refine AllReadyH.cons rfl (fun Kc hKc=>?_) AllReadyH.nil;go_simp;refine hKc.out _ _ hsa (fun hHay=>?_);clear hKc Kc;refine takes [42] hHay (by kernel_rfl) (fun _ _ _ _ _ h=>h) ?_
   iterate 1
    conv=>whnf
    refine⟨?_,.inl ⟨by kernel_rfl,fun w hSw=>?_⟩,?_⟩
    rotate_left
    ·(try dsimp only at hSw);go_simp;try with_reducible rfl
    try simp only[Act.put,ya,yb,yc]
   refine Yt.nil ?_;refine wpAnyH_take (i:=43) (oi:=_) (v:=?v99) rfl (by kernel_rfl) (by kernel_rfl) (by kernel_rfl) (fun _ _ _ h=>h) (Or.inl ⟨by kernel_rfl,?hy99⟩) hHay ?rest99
   case hy99=>(intro w hSw;(try dsimp only at hSw);go_simp;try with_reducible rfl)
   try simp only[Act.put,ya,yb,yc]
   refine wpAnyH_done (by kernel_rfl) ?_ _;go_simp
   try go_wp2_with fail
   try go_ret
   exact⟨false,rfl,⟨fun h=>by simp at h,fun h=>absurd h HNO.out⟩,HBA.out⟩
 | true =>
   have hzz:f.sizes=f2.sizes:=HQ.out.1 rfl;have hpe:=peqf_any (HH.out.below HBA.out) (HI.out.below HBA.out) HOK.out HOK2.out (HK.out.1.trans HK.out.2.symm) hzz;rw[HL.out.1,HL.out.2]at hpe;have HZ:=Hd hzz;have HPE:=Hd hpe;clear hzz hpe;refine takes [30,31,32,33,34,35,36,37,38,39,40] hHa (by kernel_rfl) (fun _ _ _ _ _ h=>h) ?_
   iterate 11
    conv=>whnf
    refine⟨?_,.inl ⟨by kernel_rfl,fun w hSw=>?_⟩,?_⟩
    rotate_left
    ·(try dsimp only at hSw);go_simp;try with_reducible rfl
    try simp only[Act.put,ya,yb,yc]
   refine Yt.nil ?_;refine wpAnyH_ready (rs := [41]) (by kernel_rfl) (by simp) ?_;refine AllReadyH.cons rfl (fun Kc hKc=>?_) AllReadyH.nil;go_simp;refine HPE.out.mono ?_;rintro e wb ⟨b,rfl,hbi,hbb⟩;dsimp only;have HBB:=Hd (bto HBA.out hbb);refine hKc.out _ _ (HC.out wb HBB.out) (fun hHb=>?_);clear hKc Kc hbb;have HR:Hid (b=true↔FilS f f2):=⟨fun h=>⟨HNT.out,HK.out.1.trans HK.out.2.symm,HZ.out,hbi.1 h⟩,fun h=>hbi.2 h.2.2.2⟩;clear hbi;refine takes [42] hHb (by kernel_rfl) (fun _ _ _ _ _ h=>h) ?_
   iterate 1
    conv=>whnf
    refine⟨?_,.inl ⟨by kernel_rfl,fun w hSw=>?_⟩,?_⟩
    rotate_left
    ·(try dsimp only at hSw);go_simp;try with_reducible rfl
    try simp only[Act.put,ya,yb,yc]
   refine Yt.nil ?_;refine wpAnyH_take (i:=43) (oi:=_) (v:=?v112) rfl (by kernel_rfl) (by kernel_rfl) (by kernel_rfl) (fun _ _ _ h=>h) (Or.inl ⟨by kernel_rfl,?hy112⟩) hHb ?rest112
   case hy112=>(intro w hSw;(try dsimp only at hSw);go_simp;try with_reducible rfl)
   try simp only[Act.put,ya,yb,yc]
   refine wpAnyH_done (by kernel_rfl) ?_ _;go_simp
   try go_wp2_with fail
   try go_ret
   exact⟨b,rfl,HR.out,HBB.out⟩
end Go.Proofs.YtjpkkkphhaajgaaGreatDoor.wcp
