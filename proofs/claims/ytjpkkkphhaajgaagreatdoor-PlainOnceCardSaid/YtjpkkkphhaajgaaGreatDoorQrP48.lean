/- PrTail, PrPrint, PpEnd, PpD. -/
import Derived.Test.YtjpkkkphhaajgaaGreatDoorQrP46
import Derived.Test.YtjpkkkphhaajgaaGreatDoorQrP47
import Derived.Test.YtjpkkkphhaajgaaGreatDoorQrP45
import Derived.Test.YtjpkkkphhaajgaaGreatDoorQrP42
import Derived.Test.YtjpkkkphhaajgaaGreatDoorQrP27
import Derived.Test.YtjpkkkphhaajgaaGreatDoorQrP16
import Derived.Test.YtjpkkkphhaajgaaGreatDoorQrP11
import Derived.Deep.RegionHeld3
import Derived.Deep.RegionHeld
import Derived.Test.YtjpkkkphhaajgaaGreatDoorQrTakes
import Derived.Test.YtjpkkkphhaajgaaGreatDoorQrP21
import Derived.Test.YtjpkkkphhaajgaaGreatDoorQrTpOf
import Derived.Deep.Cut
import Derived.Test.YtjpkkkphhaajgaaGreatDoorQrP44
import Derived.Test.YtjpkkkphhaajgaaGreatDoorQrP22
import Derived.Test.YtjpkkkphhaajgaaGreatDoorQrP09
set_option linter.all false
namespace Go.Proofs.YtjpkkkphhaajgaaGreatDoor.wcp
open Go Go.RowKit Go.Shelf Go.ChangeShapes Go.WideShapes Go.ChangeAt Go.Maps Go.Proofs.YtjpkkkphhaajgaaGreatDoor.words Go.Proofs.YtjpkkkphhaajgaaGreatDoor.scn
theorem tlens_any {w:World}{g n:Nat}{F:Nat→Prop}{T:TpH}(hT:TpV w g F n T)(hv:okV T):Calls Tryz.prog 14 #[.pointer (some ⟨g,0,none⟩)] w fun e w'=>e = .returned (.int .i64 (prnT T).length)∧w=w':=by
 refine (tlenL_any hT).mono ?_;rintro e w' ⟨⟨L,h1,h2,h3,rfl⟩,rfl⟩;refine⟨?_,rfl⟩;have hd:=domL_is hv;have hp:L.Perm (domL T):=(List.perm_ext_iff_of_nodup h1 hd.nd).2 fun t=>by rw[h2 t,hd.mem t]
 have e:(prnT T).length=L.length:=by unfold prnT linesT;rw[List.length_map,hp.length_eq]
 rw[e]
theorem head_le (name:List UInt8)(ns:List Int)(h0:name.length≤100)(h:∀v∈ns,0≤v∧v≤2147483648)(hl:ns.length≤1000):(joinW (name::decs ns)).length≤999999:=by
 have h1:=lineW_len (ws:=name::decs ns) (by simp);have h2:=decs_le 9 ns fun v hv=>by have:=h v hv;omega
 rw[lenW_cons]at h1;unfold lineW at h1;rw[List.length_append]at h1;have:([10]:List UInt8).length=1:=rfl;omega
theorem nums_le (ns:List Int)(h0:ns ≠ [])(h:∀v∈ns,0≤v∧v≤2147483648)(hl:ns.length≤1000):(joinW (decs ns)).length≤999999:=by
 obtain⟨a,l,rfl⟩:=List.exists_cons_of_ne_nil h0;have h1:=h a (by simp);have h2:=itoa_le 9 h1.1 (by omega);exact head_le (Lib.itoa a) l (by omega) (fun v hv=>h v (by simp[hv])) (by simp at hl;omega)
theorem bdr (w:World):Below w.heap.size w w.drew:=⟨rfl,rfl,rfl,Nat.le_refl _,fun _ _=>rfl⟩
def S4 (g:Nat)(a b c d:Value)(W:World):Prop:=W.cell? ⟨g,0,none⟩=some a∧W.cell? ⟨g,1,none⟩=some b∧W.cell? ⟨g,2,none⟩=some c∧W.cell? ⟨g,3,none⟩=some d
theorem S4.keep {g B:Nat}{a b c d:Value}{w w':World}(h:S4 g a b c d w)(hb:Below B w w')(hg:g<B):S4 g a b c d w' :=
 ⟨(hb.cell (p:=⟨g,0,none⟩) hg).trans h.1,(hb.cell (p:=⟨g,1,none⟩) hg).trans h.2.1,(hb.cell (p:=⟨g,2,none⟩) hg).trans h.2.2.1,(hb.cell (p:=⟨g,3,none⟩) hg).trans h.2.2.2⟩
noncomputable def pbodyP:Code:=Tryz.f26.body.getD .skip
def PrintR (w:World)(f:Fil)(e:Ending)(w':World):Prop := ∃A c,e = .returned (.tuple #[.slice A (textF (prn f)).length c,.int .i64 0])∧Reads w' w'.heap.size 1 A (textF (prn f)).length (bv (textF (prn f)))∧Below w.heap.size w w'
def preF (f:Fil):List UInt8:=lineW (f.name::decs (headN f))++lineW (decs f.sizes)
def upF (f:Fil)(j:Nat):List UInt8:=preF f++(f.funs.take j).flatMap fun x=>funT (prnF f.k x)
theorem upF_all (f:Fil):upF f f.funs.length=textF (prn f):=by
 unfold upF preF textF;rw[List.take_length];show _=lineW (f.name::decs (headN (prn f)))++(lineW (decs f.sizes)++(f.funs.map (prnF f.k)).flatMap funT);rw[List.flatMap_map,List.append_assoc];have:headN (prn f)=headN f:=by unfold headN prn;simp
 rw[this]
theorem upF_step {f:Fil}{j:Nat}{x:Raw}(h:f.funs[j]?=some x):upF f (j+1)=upF f j++funT (prnF f.k x):=by
 unfold upF;rw[List.take_add_one,h,List.flatMap_append];simp
theorem upF_le {f:Fil}(j:Nat):(upF f j).length≤(textF (prn f)).length:=by
 rw[← upF_all]
 have:upF f f.funs.length=upF f j++(f.funs.drop j).flatMap fun x=>funT (prnF f.k x):=by
  unfold upF;rw[List.take_length,List.append_assoc,← List.flatMap_append,List.take_append_drop]
 rw[this,List.length_append];omega
theorem prn_text_pos (f:Fil):0<(textF (prn f)).length:=by
 unfold textF;rw[List.length_append,lineW_len (by simp),lenW_cons];omega
theorem bds_ne {B b k:Nat}{bs:List UInt8}{w:World}{t:TypeId}{cs:Array Value}(h:Bd B b bs w)(hk:Blk w k t cs)(h1:126≠t)(h2:5≠t):¬ BdS w b k:=by
 rintro (rfl | ⟨cs',fz,e⟩)
 ·rcases h with⟨-,v,hb,-⟩ | ⟨-,v,hb,-⟩
  ·have:=hb.symm.trans hk
   injection this with this
   injection this with _ h3 _
   exact h1 h3
  ·have:=hb.symm.trans hk
   injection this with this
   injection this with _ h3 _
   exact h1 h3
 ·have:=e.symm.trans hk
  injection this with this
  injection this with _ h3 _
  exact h2 h3
theorem bds_off {B b base:Nat}{bs:List UInt8}{w:World}{t:TypeId}(h:Bd B b bs w)(h1:126≠t)(h2:5≠t):Off w base (BdS w b) t:=fun k hk => .inr fun cs hb=>bds_ne h hb h1 h2 hk
def upL (f:Fil)(j:Nat)(x:Raw)(q:Nat):List UInt8:=upF f j++(lineW (decs (funH (prnF f.k x)))++((prnF f.k x).lines.take q).flatMap linT)
theorem upL_all {f:Fil}{j:Nat}{x:Raw}(h:f.funs[j]?=some x):upL f j x (prnF f.k x).lines.length=upF f (j+1):=by
 unfold upL;rw[List.take_length,upF_step h];rfl
theorem upL_step {f:Fil}{j q:Nat}{x:Raw}{l:List Int × Int}(h:(prnF f.k x).lines[q]?=some l):upL f j x (q+1)=upL f j x q++linT l:=by
 unfold upL;rw[List.take_add_one,h,List.flatMap_append];simp
theorem upL_le {f:Fil}{j q:Nat}{x:Raw}(h:f.funs[j]?=some x):(upL f j x q).length≤(textF (prn f)).length:=by
 refine Nat.le_trans ?_ (upF_le (j+1));rw[← upL_all h];unfold upL;rw[List.take_length,List.length_append,List.length_append,List.length_append,List.length_append]
 have h5:((prnF f.k x).lines.flatMap linT).length=(((prnF f.k x).lines.take q).flatMap linT).length+(((prnF f.k x).lines.drop q).flatMap linT).length:=by
  rw[← List.length_append,← List.flatMap_append,List.take_append_drop]
 omega
set_option maxRecDepth 1000000 in
set_option maxHeartbeats 8000000 in
theorem print_tail {w w4:World}{g bb n:Nat}{f:Fil}{SA:Option Addr}{sc:Nat}{FA:Option Addr}{fc:Nat}{V:List FT}(h:FilW w g f SA sc FA fc V)(hok:OkFile f)(hlen:(textF (prn f)).length≤65536)(ht:Tab w)(hn:V.length=n)(hB4:Below w.heap.size w w4)(hbd:Bd w.heap.size bb (lineW (f.name::decs (headN f))) w4)
 {c1 c2 c3 c4 c6 c7 c8 c9 c10 c11 c12 c13 c14 c15 c16 c17 c18 c19 c20 c21 c22 c23 c24 c25 c26 c27 c28 c29 c30 c31 c32 c33 c34 c35 c36 c37 c38 c39 c40 c41 c42 c43 c44 c45 c46 c47 c48 c49 c50 c51 c52 c53 c54 c55 c56 c57 c58 c59 c60 c61 c62 c63 c64 c65 c66 c67 c68 c69 c70 c71 c72 c73 c74 c75 c76 c77 c78 c79 c80 c81 c82 c83 c84 c85 c86 c87 c88 c89 c90 c91 c92 c93 c94 c95 c96 c97 c98 c99 c100 c101 c102 c103:Value} :
 Code.wp Tryz.prog (sfx 4 pbodyP) (bodyPost Tryz.prog Tryz.f26 fun e w'=>PrintR w f e w') ⟨#[.pointer (some ⟨g,0,none⟩),c1,c2,c3,c4,.pointer (some ⟨bb,0,none⟩),c6,c7,c8,c9,c10,c11,c12,c13,c14,c15,c16,c17,c18,c19,c20,c21,c22,c23,c24,c25,c26,c27,c28,c29,c30,c31,c32,c33,c34,c35,c36,c37,c38,c39,c40,c41,c42,c43,c44,c45,c46,c47,c48,c49,c50,c51,c52,c53,c54,c55,c56,c57,c58,c59,c60,c61,c62,c63,c64,c65,c66,c67,c68,c69,c70,c71,c72,c73,c74,c75,c76,c77,c78,c79,c80,c81,c82,c83,c84,c85,c86,c87,c88,c89,c90,c91,c92,c93,c94,c95,c96,c97,c98,c99,c100,c101,c102,c103],[]⟩ w4:=by
 conv=>arg 2;whnf
 have hVl:V.length=f.funs.length:=by have:=congrArg List.length h.1;simpa using this
 have hn256:n≤256:=by have:=hok.n;omega
 have hsl:=hok.s2
 have h2:∀p∈V,∃a b,p.1 = .agg #[a,b]:=fun p hp=>by
  obtain⟨v1,tg,e,_⟩:=h.2.2.2.2 p hp;exact⟨_,_,e⟩
 have hw4:=h.below hB4;have hbw:=bone w4 (.cells #[.iface 31 (.slice SA f.sizes.length sc)] 20)
 have hline2:=line_any (some ⟨w4.heap.size,0,none⟩) 1 1 [.l SA sc f.sizes] (w4.alloc (.cells #[.iface 31 (.slice SA f.sizes.length sc)] 20))
  (by omega) (reads_block (t:=20) (heap_alloc_new _ _) rfl) (fun t ht=>by
   rw[List.mem_singleton.1 ht];have hrow:=own_under hw4.2.2.1 hbw
   exact⟨by omega,own_cap hrow,Reads.of_own hrow,fun v hv=>by have:=hok.s1 v hv;omega⟩)
  (by show (decs f.sizes ++ []).length≤_;simp[decs];omega)
  (by
   show (joinW (decs f.sizes ++ [])).length≤_;rw[List.append_nil]
   exact nums_le f.sizes hok.s0 (fun v hv=>by have:=hok.s1 v hv;omega) (by omega))
  ((ht.below hB4).below hbw)
 rw[show lineI [Itm.l SA sc f.sizes]=decs f.sizes by simp[lineI,Itm.ws]]at hline2;obtain⟨q0,q1,q2,q3,-⟩:=Blk.four (t:=34) hw4.2.1;rw[hn]at q3;have HH:=Hd h;have HOK:=Hd hok;have HLEN:=Hd hlen;have HT:=Hd ht;have HN:=Hd hn;have HVL:=Hd hVl;have HB4:=Hd hB4;have HBD:=Hd hbd;have H2:=Hd h2
 have hpre:Hid ((preF f).length≤65536):=by
  have:=upF_le (f:=f) 0;have e:upF f 0=preF f:=by unfold upF;simp
  rw[e]at this;exact Nat.le_trans this hlen
 clear h hok hlen ht hn hVl hB4 hbd h2 hw4 hbw;go_wp2_with fail
 (with_reducible refine hline2.mono ?_)
 rintro e w5 ⟨rfl,hb5⟩;have hb45:=bto (bone w4 (.cells #[.iface 31 (.slice SA f.sizes.length sc)] 20)) hb5;have hwr:=bwrite_any (s:=lineW (decs f.sizes)) (bd_under HBD.out hb45) (by have:=hpre.out;unfold preF at this;rw[List.length_append]at this;omega) (Nat.le_trans HB4.out.size hb45.size);have HB5:=Hd (bto HB4.out hb45);clear hline2 hb5 hb45 q0 q1 q2 q3;go_wp2_with fail
 (with_reducible refine hwr.mono ?_)
 rintro e w6 ⟨rfl,hbd6,hb6,-⟩
 have HBD6:Hid (Bd w.heap.size bb (upF f 0) w6):=by
  have e:upF f 0=preF f:=by unfold upF;simp
  rw[e];exact hbd6
 have HB6:=Hd (HB5.out.trans hb6);obtain⟨q0,q1,q2,q3,-⟩:=Blk.four (t:=34) (HH.out.below HB6.out).2.1;rw[HN.out]at q3;clear hwr hbd6 hb6 HBD HB5 HB4 q0 q1 q2;go_wp2_with fail;clear q3
 go_loopw [59] (fun jv wr => ∃j:Nat,jv = .int .i64 j∧j≤n∧Hid (Bd w.heap.size bb (upF f j) wr)∧Hid (Below w.heap.size w wr)) (fun jv _=>n-(intOf jv).toNat)
 case atStart=>exact⟨0,rfl,Nat.zero_le _,HBD6,HB6⟩
 case round =>
  obtain⟨j,rfl,hj,HBD,HB⟩:=hrel;by_cases hlt:j<n
  ·have hw:=HH.out.below HB.out
   obtain⟨hV,hgb,hs,hrow,hfv⟩:=hw;obtain⟨p,hp⟩:∃p,V[j]?=some p:=⟨_,List.getElem?_eq_getElem (by rw[HN.out];exact hlt)⟩;have hpm:=List.mem_of_getElem? hp;have hfp:=hfv p hpm;have hpx:p.2.2.2∈f.funs:=by rw[← hV];exact List.mem_map_of_mem hpm
   have hxj:f.funs[j]?=some p.2.2.2:=by rw[← hV,List.getElem?_map,hp];rfl
   obtain⟨o1,o2,o3⟩:=HOK.out.fs _ hpx;obtain⟨a,b,hab⟩:=H2.out p hpm;have HPM:=Hd hpm;obtain⟨pv,lo,hi,x⟩:=p;dsimp only at hab hfp hpx hxj o1 o2 o3;subst hab;obtain⟨c0',c1'⟩:=fc_at H2.out hp;rw[HN.out]at hrow;obtain⟨fq,rfl,_,_⟩:=own_some hrow (by omega);have d0:=(hrow.cellAt (j*2) (by omega)).trans c0';have d1:=(hrow.cellAt (j*2+1) (by omega)).trans c1';have hfp0:=hfp;obtain⟨v1,tg,e1,⟨⟨C1,k1,e2⟩,hs1⟩,_,hT⟩:=hfp0;injection e1 with e1
   obtain⟨rfl,rfl⟩:a=v1∧b = .pointer (some ⟨tg,0,none⟩):=by simpa using e1
   subst e2;obtain⟨m,hm⟩:∃m,x.scope.length=m:=⟨_,rfl⟩;have hm6:m≤6:=by rw[← hm];exact o1.2.2.2.2.2.2.2
   obtain⟨w7,hw7⟩:∃w7,wr.alloc (.cells #[.slice C1 m k1,.pointer (some ⟨tg,0,none⟩)] 37)=w7:=⟨_,rfl⟩;have hB7:Below wr.heap.size wr w7:=by rw[← hw7];exact bone wr _
   have hbx:Blk w7 wr.heap.size 37 #[.slice C1 m k1,.pointer (some ⟨tg,0,none⟩)]:=by rw[← hw7];exact Blk.new _ _ _
   have hv:=ok_val o1;obtain⟨T,hTd⟩:∃T,tpOf x f.k x.lines=T:=⟨_,rfl⟩;rw[hTd]at hT hv;rw[hm]at d0 hs1;have hT7:=hT.under hB7;have hoth:=tother_any (w:=w7.drew) (show TpV w7.drew tg (fun k=>lo≤k∧k<hi) x.lines.length T from hT7);have hlens:=tlens_any (w:=w7.drew) (show TpV w7.drew tg (fun k=>lo≤k∧k<hi) x.lines.length T from hT7) hv;obtain⟨nl,hnl⟩:∃nl,(prnT T).length=nl:=⟨_,rfl⟩;obtain⟨oo,hoo⟩:∃oo,T.other=oo:=⟨_,rfl⟩;rw[hnl]at hlens;rw[hoo]at hoth;have hoo2:oo=min x.other f.k:=by rw[← hoo,← hTd];exact (tpOf_same x f.k x.lines).2.2
   have hnl2:nl≤4096:=by
    have h1:=shp.all_len (xs:=x.sizes) fun k hk=>(o1.2.1 k hk).1
    have h2:=great_prod o1.2.1;rw[o3]at h2;have h3:=of_decide_eq_false h2.symm;have h4:(prnT T).length≤(shp.allI T.sizes).length:=by unfold prnT linesT domL;rw[List.length_map];exact List.length_filter_le _ _
    rw[← hTd,(tpOf_same x f.k x.lines).1,hTd]at h4;omega
   have hfH:funH (prnF f.k x)=(m:Int)::(x.scope ++ [oo,(nl:Int)]):=by
    unfold funH prnF;dsimp only;rw[hm,hTd,hnl,hoo2]
   have ok1:=HOK.out.k1;have ok2:=HOK.out.k2;have hoob:0≤oo∧oo≤2147483648:=by have:=o1.2.2.2.2.1;omega
   have hscb:∀v∈x.scope,0≤v∧v≤2147483648:=fun v hv=>by have:=o2.1 v hv;omega
   have hs7:=own_under hs1 hB7;have hLI:lineI [Itm.i m,.l C1 k1 x.scope,.n oo,.i nl]=decs ((m:Int)::(x.scope ++ [oo,(nl:Int)])):=by simp[lineI,Itm.ws,decs]
   have hfb:∀v∈((m:Int)::(x.scope ++ [oo,(nl:Int)])),0≤v∧v≤2147483648:=fun v hv=>by
    rcases List.mem_cons.1 hv with rfl | hv
    ·omega
    ·rcases List.mem_append.1 hv with hv | hv
     ·exact hscb v hv
     ·simp only[List.mem_cons,List.not_mem_nil,or_false]at hv
      rcases hv with rfl | rfl<;>omega
   have hline:=line_any (some ⟨w7.heap.size,0,none⟩) 4 4 [.i m,.l C1 k1 x.scope,.n oo,.i nl] (w7.alloc (.cells #[.iface 3 (.int .i64 m),.iface 31 (.slice C1 m k1),.iface 2 (.int .i64 oo),.iface 3 (.int .i64 nl)] 20)).drew
    (by omega) (by have:=(reads_block (t:=20) (heap_alloc_new w7 (.cells #[.iface 3 (.int .i64 m),.iface 31 (.slice C1 m k1),.iface 2 (.int .i64 oo),.iface 3 (.int .i64 nl)] 20)) (xs := [.iface 3 (.int .i64 m),.iface 31 (.slice C1 m k1),.iface 2 (.int .i64 oo),.iface 3 (.int .i64 nl)]) rfl);unfold Itm.val;rw[← hm]at this ⊢;exact this) (fun t ht=>by
     simp only[List.mem_cons,List.not_mem_nil,or_false]at ht;rcases ht with rfl | rfl | rfl | rfl
     ·exact⟨by omega,by omega⟩
     ·have hrow:=own_under hs7 (bone w7 (.cells #[.iface 3 (.int .i64 m),.iface 31 (.slice C1 m k1),.iface 2 (.int .i64 oo),.iface 3 (.int .i64 nl)] 20))
      have hrow2:(w7.alloc (.cells #[.iface 3 (.int .i64 m),.iface 31 (.slice C1 m k1),.iface 2 (.int .i64 oo),.iface 3 (.int .i64 nl)] 20)).drew.ownsRow 0 3 1 (.slice C1 x.scope.length k1) x.scope.length (nums x.scope):=by rw[hm];exact hrow
      exact⟨by omega,own_cap hrow2,Reads.of_own hrow2,fun v hv=>by have:=hscb v hv;omega⟩
     ·exact⟨by omega,by omega⟩
     ·exact⟨by omega,by omega⟩)
    (by show (lineI [Itm.i m,.l C1 k1 x.scope,.n oo,.i nl]).length≤_;rw[hLI];simp[decs];omega)
    (by rw[hLI];exact nums_le _ (by simp) hfb (by simp;omega))
    (((HT.out.below HB.out).below hB7).below (bone w7 _).drew)
   rw[hLI,← hfH]at hline;have hup:=upL_le (f:=f) (j:=j) (q:=0) hxj;have hup0:upL f j x 0=upF f j++lineW (decs (funH (prnF f.k x))):=by unfold upL;simp
   obtain⟨y0,y1⟩:=hbx.two;have HXJ:=Hd hxj;have HUP:=Hd hup;have HUP0:=Hd hup0;have HFP:=Hd hfp;have HV:=Hd hv;have HTD:=Hd hTd;have HB7:=Hd hB7;have HBX:=Hd hbx;have HO6:=Hd o1.1;have HSZ:=Hd o1.2.1;have HOK1:=Hd o1;have HNL:=Hd hnl;have HM:=Hd hm;have j0:(0:Int)≤(j:Int):=Int.natCast_nonneg _;have j1:(j:Int)<(n:Int):=by omega
   clear hV hgb hs hrow hfv hp hpm hfp hpx hxj o1 o2 o3 c0' c1' hs1 hT hv hTd hT7 hnl hoo hoo2 hfH hscb hs7 hup hup0 hm hLI hfb e1 hB7 hbx ok1 ok2;go_wp2_with fail
   try rw[hw7]
   clear hw7 d0 d1;refine wp_region_held_drew (S:=fun W=>W.cell? ⟨wr.heap.size,0,none⟩=some (.slice C1 m k1)∧W.cell? ⟨wr.heap.size,1,none⟩=some (.pointer (some ⟨tg,0,none⟩))) (by kernel_rfl) ⟨y0,y1⟩ (fun hHeld=>?_);clear y0 y1;refine takes [0,1,2,3,4,5,6,7,8,11,12] hHeld (by kernel_rfl) (fun _ _ _ _ _ h=>h) ?_
   iterate 11
    conv=>whnf
    refine⟨?_,.inl ⟨by kernel_rfl,fun w hSw=>?_⟩,?_⟩
    rotate_left
    ·(try dsimp only at hSw);go_simp;try with_reducible rfl
    try simp only[Act.put,List.setIfInBounds_toArray,List.set_cons_zero,List.set_cons_succ]
   refine Yt.nil ?_;refine wpAnyH_ready (rs := [9]) (by kernel_rfl) (by simp) ?_;refine AllReadyH.cons rfl (fun K hK=>?_) AllReadyH.nil;go_simp
   (with_reducible refine hoth.mono ?_)
   rintro e w' ⟨rfl,rfl⟩;dsimp only;refine hK.out _ _ hHeld (fun hHeld2=>?_);clear hK K hoth hHeld;refine takes [10] hHeld2 (by kernel_rfl) (fun _ _ _ _ _ h=>h) ?_
   iterate 1
    conv=>whnf
    refine⟨?_,.inl ⟨by kernel_rfl,fun w hSw=>?_⟩,?_⟩
    rotate_left
    ·(try dsimp only at hSw);go_simp;try with_reducible rfl
    try simp only[Act.put,List.setIfInBounds_toArray,List.set_cons_zero,List.set_cons_succ]
   refine Yt.nil ?_;refine wpAnyH_ready (rs := [13]) (by kernel_rfl) (by simp) ?_;refine AllReadyH.cons rfl (fun K hK=>?_) AllReadyH.nil;go_simp
   (with_reducible refine hlens.mono ?_)
   rintro e w' ⟨rfl,rfl⟩;dsimp only;refine hK.out _ _ hHeld2 (fun hHeld3=>?_);clear hK K hlens hHeld2;refine takes [14] hHeld3 (by kernel_rfl) (fun _ _ _ _ _ h=>h) ?_
   iterate 1
    conv=>whnf
    refine⟨?_,.inl ⟨by kernel_rfl,fun w hSw=>?_⟩,?_⟩
    rotate_left
    ·(try dsimp only at hSw);go_simp;try with_reducible rfl
    try simp only[Act.put,List.setIfInBounds_toArray,List.set_cons_zero,List.set_cons_succ]
   refine Yt.nil ?_;refine wpAnyH_ready (rs := [15]) (by kernel_rfl) (by simp) ?_;refine AllReadyH.cons rfl (fun K hK=>?_) AllReadyH.nil;go_simp;have hbA:=Below.drew (bone w7 (.cells #[.iface 3 (.int .i64 m),.iface 31 (.slice C1 m k1),.iface 2 (.int .i64 oo),.iface 3 (.int .i64 nl)] 20));refine hK.out _ _ (HBX.out.under hbA).two (fun hHeld4=>?_);clear hK K hHeld3;refine wpAnyH_ready (rs := [16]) (by kernel_rfl) (by simp) ?_;refine AllReadyH.cons rfl (fun K hK=>?_) AllReadyH.nil;go_simp
   (with_reducible refine hline.mono ?_)
   rintro e w8 ⟨rfl,hb8⟩;dsimp only;have hb8':=bto hbA hb8;have hbx8:=HBX.out.under hb8';refine hK.out _ _ hbx8.two (fun hHeld5=>?_);have HB8:=Hd (bto (bto HB.out HB7.out) hb8');have hbd8:=bd_under (bd_under HBD.out HB7.out) hb8';have hwr:=bwrite_any (s:=lineW (decs (funH (prnF f.k x)))) hbd8 (by have h1:=HUP.out;rw[HUP0.out,List.length_append]at h1;have:=HLEN.out;omega) (Nat.le_trans HB.out.size (Nat.le_trans HB7.out.size hb8'.size));have HBD8:=Hd hbd8;have HBX8:=Hd hbx8;clear hK K hHeld4 hline hb8 hb8' hbA hbx8 hbd8;refine wpAnyH_ready (rs := [17]) (by kernel_rfl) (by simp) ?_;refine AllReadyH.cons rfl (fun K hK=>?_) AllReadyH.nil;go_simp
   (with_reducible refine hwr.mono ?_)
   rintro e w9 ⟨rfl,hbd9,hb9,ht9⟩;dsimp only;have hbx9:=ht9.blk HBX8.out (bds_ne HBD8.out HBX8.out (by decide) (by decide));refine hK.out _ _ hbx9.two (fun hHeld6=>?_);clear hK K hHeld5 hwr;refine wpAnyH_done (by kernel_rfl) ?_ _;go_simp;rw[← HUP0.out]at hbd9;have HBD9:=Hd hbd9;have HBX9:=Hd hbx9;have HB9:=Hd (HB8.out.trans hb9);obtain⟨-,-,-,-,hfv9⟩:=HH.out.below HB9.out;obtain⟨v1,tg',e1,-,-,hT9⟩:=hfv9 _ HPM.out;injection e1 with e1
   obtain⟨-,e2⟩:Value.slice C1 m k1=v1∧Value.pointer (some ⟨tg,0,none⟩) = .pointer (some ⟨tg',0,none⟩):=by rw[← HM.out];simpa using e1
   injection e2 with e2
   injection e2 with e2
   injection e2 with e2 _
   subst e2;dsimp only at hT9;rw[HTD.out]at hT9;have hli:=tlines_any hT9 (by rw[← HTD.out,(tpOf_same x f.k x.lines).1];exact HO6.out) HOK1.out.2.2.2.2.2.2.1;obtain⟨y0,y1⟩:=hbx9.two;clear hHeld6 hbd9 hb9 ht9 hbx9 hfv9 hT9 HB8 HBD8 HBX8 HB7 HBX e1;go_wp2_with fail
   (with_reducible refine hli.mono ?_)
   rintro e w10 ⟨v,L,rfl,hL,⟨Lv,hLv,⟨AL,cL,rfl⟩,hLo,hLr⟩,hLn,hb10⟩;clear hli y0 y1;have hLd:=dom_uniq HV.out hL;subst hLd;have hLv2:Lv.map (·.2)=(prnF f.k x).lines:=by rw[hLv,← HTD.out];rfl
   obtain⟨nq,hnq⟩:∃nq,Lv.length=nq:=⟨_,rfl⟩;have HLV:=Hd hLv2;have HNQ:=Hd hnq;have HBD10:=Hd (bd_under HBD9.out hb10);have HB10:=Hd (bto HB9.out hb10);have HTL10:Hid (TLRow w10 w9.heap.size (.slice AL Lv.length cL) Lv):=⟨⟨AL,cL,rfl⟩,hLo,hLr⟩
   have hnq4:nq≤4096:=by
    have h1:=congrArg List.length hLv2;rw[List.length_map,hnq]at h1;have h2:(prnF f.k x).lines.length=(prnT T).length:=by rw[← HTD.out];rfl
    rw[HNL.out]at h2;omega
   rw[hnq]at HTL10;rw[hnq];clear hL hLv hLv2 hLo hLr hLn hb10 hnq HBD9 HBX9 HB9;go_wp2_with fail;have e0:upL f j x 0=upL f j x 0:=rfl
   go_loopw [85] (fun jv wy => ∃q:Nat,jv = .int .i64 q∧q≤nq∧Hid (Bd w.heap.size bb (upL f j x q) wy)∧Hid (TLRow wy w9.heap.size (.slice AL nq cL) Lv)∧Hid (Below w.heap.size w wy)) (fun jv _=>nq-(intOf jv).toNat)
   case atStart=>exact⟨0,rfl,Nat.zero_le _,HBD10,HTL10,HB10⟩
   case round =>
    obtain⟨q,rfl,hq,HBDq,HTLq,HBq⟩:=hrel;obtain⟨wy,rfl⟩:∃wy,wy=wr:=⟨_,rfl⟩;by_cases hlq:q<nq
    ·obtain⟨-,hro,hri⟩:=HTLq.out
     obtain⟨p2,hp2⟩:∃p2,Lv[q]?=some p2:=⟨_,List.getElem?_eq_getElem (by rw[HNQ.out];exact hlq)⟩;rw[HNQ.out]at hro;obtain⟨⟨At,ct,htv⟩,hto⟩:=hri p2 (List.mem_of_getElem? hp2);obtain⟨e1,e2⟩:=lc_at hp2;obtain⟨tv,t,c⟩:=p2;dsimp only at htv hto e1 e2;subst htv;have hlx:(prnF f.k x).lines[q]?=some (t,c):=by rw[← HLV.out,List.getElem?_map,hp2];rfl
     obtain⟨p1,p2,p3,-,-⟩:=prn_lines HOK1.out _ (List.mem_of_getElem? hlx);dsimp only at p1 p2 p3;obtain⟨qa,rfl,_,_⟩:=own_some hro (by omega);have d0:=(hro.cellAt (q*2) (by omega)).trans e1;have d1:=(hro.cellAt (q*2+1) (by omega)).trans e2;obtain⟨tl,htl⟩:∃tl,t.length=tl:=⟨_,rfl⟩;have htl6:tl≤6:=by have h1:=p1.1;have h2:=HO6.out;omega
     have htb:∀v∈t,0≤v∧v≤31:=fun v hv=>by
      obtain⟨i,hi⟩:=List.getElem?_of_mem hv;have hl2:i<x.sizes.length:=by have:=(List.getElem?_eq_some_iff.1 hi).1;rw[p1.1]at this;exact this
      have h3:=p1.2 i v _ hi (List.getElem?_eq_getElem hl2);have h4:=HSZ.out _ (List.getElem_mem hl2);omega
     have hc31:c≤2147483648:=by have:=HOK.out.k2;omega
     obtain⟨wz,hwz⟩:∃wz,wy.alloc (.cells #[.slice At tl ct,.int .i64 c] 111)=wz:=⟨_,rfl⟩;have hbz:Below wy.heap.size wy wz:=by rw[← hwz];exact bone wy _
     obtain⟨y0,y1⟩:=(show Blk wz wy.heap.size 111 #[.slice At tl ct,.int .i64 c] by rw[← hwz];exact Blk.new _ _ _).two;have hbA:=bto hbz (bone wz (.cells #[.iface 31 (.slice At tl ct),.iface 2 (.int .i64 c)] 20));have hLI:lineI [Itm.l At ct t,.n c]=decs (t ++ [c]):=by simp[lineI,Itm.ws,decs]
     have hline:=line_any (some ⟨wz.heap.size,0,none⟩) 2 2 [.l At ct t,.n c] (wz.alloc (.cells #[.iface 31 (.slice At tl ct),.iface 2 (.int .i64 c)] 20))
      (by omega) (by have:=(reads_block (t:=20) (heap_alloc_new wz (.cells #[.iface 31 (.slice At tl ct),.iface 2 (.int .i64 c)] 20)) (xs := [.iface 31 (.slice At tl ct),.iface 2 (.int .i64 c)]) rfl);unfold Itm.val;rw[← htl]at this ⊢;exact this) (fun u hu=>by
       simp only[List.mem_cons,List.not_mem_nil,or_false]at hu;rcases hu with rfl | rfl
       ·have hrow:=own_under hto hbA
        exact⟨by omega,own_cap hrow,Reads.of_own hrow,fun v hv=>by have:=htb v hv;omega⟩
       ·exact⟨by omega,by omega⟩)
      (by rw[hLI];simp[decs];omega)
      (by rw[hLI];exact nums_le _ (by simp) (fun v hv=>by
          rcases List.mem_append.1 hv with hv | hv
          ·have:=htb v hv;omega
          ·rw[List.mem_singleton.1 hv];omega) (by simp;omega))
      ((HT.out.below HBq.out).below hbA)
     rw[hLI]at hline;have hup:=upL_step (f:=f) (j:=j) hlx;have hule:=upL_le (f:=f) (j:=j) (q:=q+1) HXJ.out
     have hul2:(upL f j x q).length+(lineW (decs (t ++ [c]))).length≤1000000:=by
      rw[hup,List.length_append]at hule;have h1:(linT (t,c)).length=(lineW (decs (t ++ [c]))).length:=rfl;have:=HLEN.out;omega
     have HUP2:=Hd hup;have HBA:=Hd hbA;have HWZ:=Hd hwz;rw[htl]at d0;have q0:(0:Int)≤(q:Int):=Int.natCast_nonneg _;have q1:(q:Int)<(nq:Int):=by omega
     clear hro hri hp2 hto e1 e2 hlx p1 p2 p3 htb hbz hbA hLI hup hule htl;go_wp2_with fail
     (with_reducible refine hline.mono ?_)
     rintro e w11 ⟨rfl,hb11⟩;have hbB:=bto HBA.out hb11;have hbd11:=bd_under HBDq.out hbB;have hwr:=bwrite_any (s:=lineW (decs (t ++ [c]))) hbd11 hul2 (Nat.le_trans HBq.out.size hbB.size);have HTL11:=Hd (HTLq.out.under hbB);have HBD11:=Hd hbd11;have HB11:=Hd (bto HBq.out hbB);clear hline hb11 hbB hbd11 d0 d1 hwz y0 y1;go_wp2_with fail
     (with_reducible refine hwr.mono ?_)
     rintro e w12 ⟨rfl,hbd12,hb12,ht12⟩;have hbd12':Hid (Bd w.heap.size bb (upL f j x (q+1)) w12):=by rw[Hid,HUP2.out];exact hbd12
     have HTL12:=Hd (HTL11.out.tch ht12 (bds_off HBD11.out (by decide) (by decide)) (bds_off HBD11.out (by decide) (by decide)));have HB12:=Hd (HB11.out.trans hb12);clear hwr hbd12 hb12 ht12;go_wp2_with fail;go_roundw
     case measure=>simp[intOf];omega
     case rel=>exact⟨q+1,by go_num,hlq,hbd12',HTL12,HB12⟩
    ·obtain rfl:q=nq:=by omega
     have hfinq:Hid (Bd w.heap.size bb (upF f (j+1)) wy):=by
      rw[Hid,← upL_all HXJ.out];have h1:=congrArg List.length HLV.out;rw[List.length_map,HNQ.out]at h1;rw[← h1];exact HBDq.out
     go_wp2_with fail;go_roundw
     case measure=>simp[intOf];omega
     case rel=>exact⟨j+1,by go_num,hlt,hfinq,HBq⟩
  ·obtain rfl:j=n:=by omega
   have htx:upF f j=textF (prn f):=by
    rw[← upF_all];have h1:=HVL.out;have h2:=HN.out;rw[show f.funs.length=j by omega]
   have hbd:=HBD.out;rw[htx]at hbd;obtain⟨txt,htxt⟩:∃txt,textF (prn f)=txt:=⟨_,rfl⟩;rw[htxt]at hbd;have HLEN2:=HLEN;rw[htxt]at HLEN2;have hbl:=blen_any hbd;have hgt:decide ((65536:Int)<(txt.length:Int))=false:=decide_eq_false (by have:=HLEN2.out;omega);have hbs:=bstr_any hbd HB.out.size;have HTX:=Hd htxt;clear hbd htx htxt hlt;go_wp2_with fail
   (with_reducible refine hbl.mono ?_)
   rintro e w' ⟨rfl,rfl⟩;clear hbl;go_wp2_with fail
   (with_reducible refine hbs.mono ?_)
   rintro e w12 ⟨rfl,hb12⟩;have hcv:=conv_str txt w12;have HB12:=Hd (HB.out.trans hb12);clear hbs hb12;go_wp2_with fail;go_ret2;obtain rfl:=HTX.out;exact⟨_,_,rfl,bw_reads _ _,bto HB12.out (bw_below _ _)⟩
set_option maxRecDepth 100000 in
set_option maxHeartbeats 8000000 in
theorem print_any {w:World}{g:Nat}{f:Fil}{SA:Option Addr}{sc:Nat}{FA:Option Addr}{fc:Nat}{V:List FT}(h:FilW w g f SA sc FA fc V)(hok:OkFile f)(hlin:linesOf f.funs≤16384)(hlen:(textF (prn f)).length≤65536)(ht:Tab w) :
 Calls Tryz.prog 26 #[.pointer (some ⟨g,0,none⟩)] w fun e w'=>PrintR w f e w':=by
 have hrt:=fright_any h hok hlin;have hVl:V.length=f.funs.length:=by have:=congrArg List.length h.1;simpa using this
 have hlt:=h.2.1.lt;have HH:=Hd h;have HOK:=Hd hok;have HLEN:=Hd hlen;have HT:=Hd ht;have HVL:=Hd hVl;obtain⟨n,hn⟩:∃n,V.length=n:=⟨_,rfl⟩;have HN:=Hd hn;clear h hok hlin hlen ht hVl hn
 go_enter Tryz.func26,Tryz.ntmps26
 go_wp2_with fail;refine hrt.mono ?_;rintro e w1 ⟨rfl,hb1⟩;clear hrt;go_wp2_with fail;obtain⟨w2,hw2⟩:∃w2,w1.alloc (.cells #[.pointer none,.slice none 0 0] 126)=w2:=⟨_,rfl⟩;have hB2:Below w.heap.size w w2:=by rw[← hw2];exact bnew hb1 _
 have HB2:=Hd hB2;have hbd:Bd w.heap.size w1.heap.size [] w2:=by rw[← hw2];exact bd_new w1 hb1.size
 obtain⟨bb,hbb⟩:∃bb,w1.heap.size=bb:=⟨_,rfl⟩
 try rw[hw2]
 rw[hbb]at hbd
 try rw[hbb]
 have hw:=HH.out.below hB2;obtain⟨q0,q1,q2,q3,-⟩:=Blk.four (t:=34) hw.2.1;rw[HN.out]at q3;obtain⟨mx,hmx⟩:∃mx,maxI f.sizes=mx:=⟨_,rfl⟩;have hmax:=max_any (w:=w2.drew) (hw.2.2.1) HOK.out.s0 (by have:=HOK.out.s2;omega);rw[hmx]at hmax
 have hmx32:0≤mx∧mx≤32:=by
  rw[← hmx];refine⟨?_,maxI_le HOK.out.s0 fun v hv=>(HOK.out.s1 v hv).2⟩;obtain⟨v,hv⟩:=List.exists_mem_of_ne_nil _ HOK.out.s0;have h1:=(HOK.out.s1 v hv).1;have h2:=maxI_ge v hv;omega
 have hn256:n≤256:=by have h1:=HOK.out.n;have h2:=HN.out;have h3:=HVL.out;omega
 have hsl:=HOK.out.s2;obtain⟨head,hhead⟩:∃head,f.name::decs [(f.sizes.length:Int),mx,(n:Int),f.k]=head:=⟨_,rfl⟩
 have hjw:(joinW (f.name::decs [(f.sizes.length:Int),mx,(n:Int),f.k])).length≤999999:=head_le f.name [(f.sizes.length:Int),mx,(n:Int),f.k] (by have:=HOK.out.nlen;omega) (fun v hv=>by
  have h1:=HOK.out.k1;have h2:=HOK.out.k2;simp only[List.mem_cons,List.not_mem_nil,or_false]at hv
  rcases hv with rfl | rfl | rfl | rfl<;>omega) (by simp)
 have hline:=line_any (some ⟨w2.heap.size,0,none⟩) 5 5 [.s f.name,.i f.sizes.length,.i mx,.i n,.n f.k] (w2.alloc (.cells #[.iface 9 (strV f.name),.iface 3 (.int .i64 f.sizes.length),.iface 3 (.int .i64 mx),.iface 3 (.int .i64 n),.iface 2 (.int .i64 f.k)] 20)).drew
  (by omega) (reads_block (t:=20) (heap_alloc_new _ _) rfl) (fun t ht=>by
   simp only[List.mem_cons,List.not_mem_nil,or_false]at ht;have h1:=HOK.out.k1;have h2:=HOK.out.k2;rcases ht with rfl | rfl | rfl | rfl | rfl
   ·trivial
   ·exact⟨by omega,by omega⟩
   ·exact⟨by omega,by omega⟩
   ·exact⟨by omega,by omega⟩
   ·exact⟨by omega,by omega⟩)
  (by show (f.name::decs [(f.sizes.length:Int),mx,(n:Int),f.k]).length≤_;simp[decs])
  hjw
  ((HT.out.below HB2.out).below (bone w2 _).drew)
 rw[show lineI [Itm.s f.name,.i f.sizes.length,.i mx,.i n,.n f.k]=head from hhead]at hline
 have hhl:([]:List UInt8).length+(lineW head).length≤1000000:=by
  rw[hhead]at hjw;unfold lineW;rw[List.length_append];simp;omega
 have HMX:=Hd hmx;have HHEAD:=Hd hhead;have HBD:=Hd hbd;have hglt:g<w2.heap.size:=Nat.lt_of_lt_of_le hlt HB2.out.size;clear hw hmx hhead hbd hB2 hb1 hjw
 try rw[hw2]
 clear hw2;go_upto_region 5 with fail;have HS4:Hid (S4 g (strV f.name) (.int .i64 f.k) (.slice SA f.sizes.length sc) (.slice FA n fc) w2):=⟨q0,q1,q2,q3⟩;refine wp_region_held_drew (S:=fun W=>W.cell? ⟨g,0,none⟩=some (strV f.name)∧W.cell? ⟨g,1,none⟩=some (.int .i64 f.k)∧W.cell? ⟨g,2,none⟩=some (.slice SA f.sizes.length sc)∧W.cell? ⟨g,3,none⟩=some (.slice FA n fc)) (by kernel_rfl) ⟨q0,q1,q2,q3⟩ (fun hHeld=>?_);clear q0 q1 q2 q3;refine takes [0,1,2,3,4,5,6,7,8,9,10,11,12,13,14,17,18,19,20,21,22,23,24,25,26,27] hHeld (by kernel_rfl) (fun _ _ _ _ _ h=>h) ?_
 iterate 26
  conv=>whnf
  refine⟨?_,.inl ⟨by kernel_rfl,fun w hSw=>?_⟩,?_⟩
  rotate_left
  ·(try dsimp only at hSw);go_simp;try with_reducible rfl
  try simp only[Act.put,List.setIfInBounds_toArray,List.set_cons_zero,List.set_cons_succ]
 refine Yt.nil ?_;refine wpAnyH_ready (rs := [15]) (by kernel_rfl) (by simp) ?_;refine AllReadyH.cons rfl (fun K hK=>?_) AllReadyH.nil;go_simp
 (with_reducible refine hmax.mono ?_)
 rintro e w' ⟨rfl,rfl⟩;dsimp only;refine hK.out _ _ hHeld (fun hHeld2=>?_);clear hK K hmax hHeld;refine takes [16] hHeld2 (by kernel_rfl) (fun _ _ _ _ _ h=>h) ?_
 iterate 1
  conv=>whnf
  refine⟨?_,.inl ⟨by kernel_rfl,fun w hSw=>?_⟩,?_⟩
  rotate_left
  ·(try dsimp only at hSw);go_simp;try with_reducible rfl
  try simp only[Act.put,List.setIfInBounds_toArray,List.set_cons_zero,List.set_cons_succ]
 refine Yt.nil ?_;refine wpAnyH_ready (rs := [28]) (by kernel_rfl) (by simp) ?_;refine AllReadyH.cons rfl (fun K hK=>?_) AllReadyH.nil;go_simp;have hbA:=Below.drew (bone w2 (.cells #[.iface 9 (strV f.name),.iface 3 (.int .i64 f.sizes.length),.iface 3 (.int .i64 mx),.iface 3 (.int .i64 n),.iface 2 (.int .i64 f.k)] 20));refine hK.out _ _ (HS4.out.keep hbA hglt) (fun hHeld3=>?_);clear hK K hHeld2;refine wpAnyH_ready (rs := [29]) (by kernel_rfl) (by simp) ?_;refine AllReadyH.cons rfl (fun K hK=>?_) AllReadyH.nil;go_simp
 (with_reducible refine hline.mono ?_)
 rintro e w3 ⟨rfl,hb3⟩;dsimp only;have hb3':=bto hbA hb3;refine hK.out _ _ (HS4.out.keep hb3' hglt) (fun hHeld4=>?_);have hwr:=bwrite_any (s:=lineW head) (bd_under HBD.out hb3') hhl (Nat.le_trans HB2.out.size hb3'.size);have HB3:=Hd (bto HB2.out hb3');have HS43:=Hd (HS4.out.keep hb3' hglt);clear hK K hHeld3 hline hb3 hb3' hbA;refine wpAnyH_ready (rs := [30]) (by kernel_rfl) (by simp) ?_;refine AllReadyH.cons rfl (fun K hK=>?_) AllReadyH.nil;go_simp
 (with_reducible refine hwr.mono ?_)
 rintro e w4 ⟨rfl,hbd4,hb4,-⟩;dsimp only;refine hK.out _ _ (HS43.out.keep hb4 hlt) (fun hHeld5=>?_);clear hK K hHeld4 hwr;refine wpAnyH_done (by kernel_rfl) ?_ _;go_simp;rw[List.nil_append]at hbd4
 have hfin:f.name::decs (headN f)=head:=by
  rw[← HHEAD.out];unfold headN;rw[HMX.out,show (f.funs.length:Int)=(n:Int) by have:=HVL.out;have:=HN.out;omega]
 rw[← hfin]at hbd4;have hb4':=HB3.out.trans hb4
 repeat (first | (exact print_tail HH.out HOK.out HLEN.out HT.out HN.out hb4' hbd4) | go_step | dsimp only)
noncomputable def ppbody:Code:=Tryz.f5.body.getD .skip
theorem conv_read {w:World}{A:Option Addr}{N c:Nat}{bs:List UInt8}(h:Reads w w.heap.size 1 A N (bv bs))(hN:bs.length=N)(h0:0<N):(convert 22 9 (.slice A N c)).run Tryz.prog w = .ok (strV bs) w:=by
 obtain⟨ad,u,rfl,-,-,-⟩:=h.at_ h0
 have:=run_convert_bytes_back (P:=Tryz.prog) w 22 9 5 ad c bs Tryz.underlying22 Tryz.underlying5 Tryz.underlying9 (fun q hq=>by
  obtain⟨ad',u,e,-,hu,hc⟩:=h.at_ (k:=q) (by omega);obtain rfl:ad=ad':=Option.some.inj e;rw[hc];unfold bv at hu;rw[List.getElem?_map,List.getElem?_eq_getElem hq]at hu
  exact congrArg some (Option.some.inj hu).symm)
 rw[hN]at this;exact this
set_option maxRecDepth 1000000 in
set_option maxHeartbeats 8000000 in
theorem pp_end {w wq:World}{gf N c:Nat}{A:Option Addr}{f:Fil}{SA FA:Option Addr}{sc fc:Nat}{V:List FT}{t:List UInt8}(hw:Below w.heap.size w wq)(h1:FilW wq gf f SA sc FA fc V)(hok:OkFile f)(hlin:linesOf f.funs≤16384)(hle:(textF (prn f)).length≤65536)(htt:textF (prn f)=t)(hq:Reads wq wq.heap.size 1 A N (bv t))(hN:t.length=N)(ht:Tab wq)
 {k0 k1 k2 k4 k5 k7 k8 k9 k10 k11 k13 k14 k15 k16 k17 k18 k19 k20 k21 k22 k23 k24 k25 k26 k27 k28 k29 k30 k31 k32 k33 k34 k35 k36 k37 k38 k39 k40 k41 k42 k43 k44 k45 k46 k47 k48 k49 k50 k51 k52 k53 k54 k55 k56 k57 k58 k59 k60 k61 k62 k63 k64 k65 k66 k67 k68 k69 k70 k71 k72 k73 k74 k75 k76 k77 k78 k79 k80 k81 k82 k83 k84 k85 k86 k87 k88 k89 k90 k91 k92 k93 k94 k95 k96 k97 k98 k99 k100 k101 k102 k103 k104 k105 k106 k107 k108 k109 k110 k111 k112 k113 k114 k115 k116 k117 k118 k119 k120 k121 k122 k123 k124 k125 k126 k127 k128 k129 k130 k131 k132 k133 k134 k135 k136 k137 k138 k139 k140 k141 k142 k143 k144 k145 k146 k147 k148 k149 k150 k151 k152 k153 k154 k155 k156 k157 k158 k159 k160 k161 k162 k163 k164 k165 k166 k167 k168 k169 k170 k171 k172 k173 k174 k175 k176 k177 k178 k179 k180 k181 k182 k183 k184 k185 k186 k187 k188 k189 k190 k191 k192 k193 k194 k195 k196 k197 k198 k199 k200 k201 k202 k203 k204 k205 k206 k207 k208 k209 k210 k211 k212 k213 k214 k215 k216 k217 k218 k219 k220 k221 k222 k223 k224 k225 k226 k227 k228 k229 k230 k231 k232 k233 k234 k235 k236 k237 k238 k239 k240 k241 k242 k243 k244 k245 k246 k247 k248 k249 k250 k251 k252 k253 k254 k255:Value} :
 Code.wp Tryz.prog (sfx 15 ppbody) (bodyPost Tryz.prog Tryz.f5 fun e w'=>e = .returned (.bool true)∧Below w.heap.size w w') ⟨#[k0,k1,k2,.pointer (some ⟨gf,0,none⟩),k4,k5,.slice A N c,k7,k8,k9,k10,k11,strV t,k13,k14,k15,k16,k17,k18,k19,k20,k21,k22,k23,k24,k25,k26,k27,k28,k29,k30,k31,k32,k33,k34,k35,k36,k37,k38,k39,k40,k41,k42,k43,k44,k45,k46,k47,k48,k49,k50,k51,k52,k53,k54,k55,k56,k57,k58,k59,k60,k61,k62,k63,k64,k65,k66,k67,k68,k69,k70,k71,k72,k73,k74,k75,k76,k77,k78,k79,k80,k81,k82,k83,k84,k85,k86,k87,k88,k89,k90,k91,k92,k93,k94,k95,k96,k97,k98,k99,k100,k101,k102,k103,k104,k105,k106,k107,k108,k109,k110,k111,k112,k113,k114,k115,k116,k117,k118,k119,k120,k121,k122,k123,k124,k125,k126,k127,k128,k129,k130,k131,k132,k133,k134,k135,k136,k137,k138,k139,k140,k141,k142,k143,k144,k145,k146,k147,k148,k149,k150,k151,k152,k153,k154,k155,k156,k157,k158,k159,k160,k161,k162,k163,k164,k165,k166,k167,k168,k169,k170,k171,k172,k173,k174,k175,k176,k177,k178,k179,k180,k181,k182,k183,k184,k185,k186,k187,k188,k189,k190,k191,k192,k193,k194,k195,k196,k197,k198,k199,k200,k201,k202,k203,k204,k205,k206,k207,k208,k209,k210,k211,k212,k213,k214,k215,k216,k217,k218,k219,k220,k221,k222,k223,k224,k225,k226,k227,k228,k229,k230,k231,k232,k233,k234,k235,k236,k237,k238,k239,k240,k241,k242,k243,k244,k245,k246,k247,k248,k249,k250,k251,k252,k253,k254,k255],[]⟩ wq:=by
 obtain⟨l,hT,hp⟩:=text_read (prn_filP hok hlin);rw[htt]at hT hp hle
 have h0:0<N:=by
  have:=prn_text_pos f;rw[htt]at this;omega
 have hrd:=read_any A N c t (-1) l wq hN hq (by omega) hT ht;have HH:=Hd h1;have HOK:=Hd hok;have HW:=Hd hw;have HP:=Hd hp;have HQ:=Hd hq;have HNN:=Hd hN;clear h1 hok hw hp hT hle htt hlin hq ht hN
 conv=>arg 2;whnf
 go_wp2_with fail;refine hrd.mono ?_;rintro e w2 ⟨hb2,hm2⟩;rw[HP.out]at hm2;obtain⟨gg,rfl,hfv⟩:=hm2;obtain⟨-,SB,sd,GA,gc,U,hfw⟩:=hfv.filw;have hsm:=psame_any (HH.out.below hb2) hfw HOK.out (prn_ok HOK.out);have hcv:=conv_read (c:=c) ((HQ.out.below hb2).more hb2.size) HNN.out h0;have HB2:=Hd (bto HW.out hb2);have hNN:(t.length:Int)=(N:Int):=by rw[HNN.out]
 have htt:(t.toArray.toList==t.toArray.toList)=true:=by simp
 rw[hNN];have hnn:((N:Int)==(N:Int))=true:=by simp
 clear hrd hfv hfw hb2 hNN;go_wp2_with fail;refine hsm.mono ?_;rintro e w3 ⟨b,rfl,hbi,hb3⟩;obtain rfl:b=true:=hbi.2 (prn_same HOK.out);have HB3:=Hd (bto HB2.out hb3);clear hsm hbi hb3;go_wp2_with fail;go_ret;exact⟨rfl,HB3.out⟩
end Go.Proofs.YtjpkkkphhaajgaaGreatDoor.wcp
namespace Go.Proofs.YtjpkkkphhaajgaaGreatDoor.wcp
open Go Go.RowKit Go.ChangeShapes Go.WideShapes Go.ChangeAt Go.Proofs.YtjpkkkphhaajgaaGreatDoor.words Go.Proofs.YtjpkkkphhaajgaaGreatDoor.scn
theorem itoa_21 {n:Int}(h0 : -9223372036854775808≤n)(h1:n≤9223372036854775807):(Lib.itoa n).length≤21:=itoa_len n h0 h1
theorem sadd (a b:List UInt8)(h:a.length+b.length≤1000000):∀w:World,(Op.stringOp .add ⟨a.toArray⟩ ⟨b.toArray⟩).run Tryz.prog w = .ok (strV (a++b)) w:=fun w=>by
 rw[run_string_add_sum w _ _ (by simp[ByteArray.size];omega),ByteArray.mk_append_mk]
theorem sadd_const (c:UInt8)(b:List UInt8)(h:b.length≤999999):∀w:World,(Op.stringOp .add ⟨#[c]⟩ ⟨b.toArray⟩).run Tryz.prog w = .ok (strV (c::b)) w:=sadd [c] b (by show 1+b.length≤1000000;omega)
theorem sadd_end (a:List UInt8)(c:UInt8)(h:a.length≤900000):∀w:World,(Op.stringOp .add ⟨a.toArray⟩ ⟨#[c]⟩).run Tryz.prog w = .ok (strV (a ++ [c])) w:=sadd a [c] (by show a.length+1≤1000000;omega)
theorem d1_any (n:Int)(w:World)(h0 : -9223372036854775808≤n)(h1:n≤9223372036854775807) :
 Calls Tryz.prog 27 #[.int .i64 n] w fun e w'=>e = .returned (strV (32::Lib.itoa n))∧w=w':=by
 have hd:=dec_any n w h0 h1;have ha:=sadd_const 32 (Lib.itoa n) (by have:=itoa_21 h0 h1;omega);clear h0 h1
 go_enter Tryz.func27,Tryz.ntmps27
 go_wp2_with fail;refine hd.mono ?_;rintro e w' ⟨rfl,rfl⟩;clear hd;go_wp2_with fail;go_ret;exact⟨rfl,rfl⟩
end Go.Proofs.YtjpkkkphhaajgaaGreatDoor.wcp
