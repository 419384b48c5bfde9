/- a part -/
import Derived.Test.YtjpkkkphhaajgaaGreatDoorQdP11
import Derived.Test.YtjpkkkphhaajgaaGreatDoorQdReads
set_option linter.all false
namespace Go.Proofs.YtjpkkkphhaajgaaGreatDoor.wcp
open Go RowKit ChangeShapes WideShapes ChangeAt Maps words scn
def tp0 (f:Raw)(K:Int):TpH:=⟨f.sizes,K,min f.other K,fun _=>none⟩
def tpOf (f:Raw)(K:Int)(ls:List (List Int × Int)):TpH:=ls.foldl (fun T l=>putF T l.1 (min l.2 K)) (tp0 f K)
theorem tpOf_same (f:Raw)(K:Int)(ls:List (List Int × Int)):(tpOf f K ls).sizes=f.sizes∧(tpOf f K ls).k=K∧(tpOf f K ls).other=min f.other K:=by
 have:∀ (ls:List (List Int × Int)) (T:TpH),(ls.foldl (fun T l=>putF T l.1 (min l.2 K)) T).sizes=T.sizes∧(ls.foldl (fun T l=>putF T l.1 (min l.2 K)) T).k=T.k∧(ls.foldl (fun T l=>putF T l.1 (min l.2 K)) T).other=T.other:=by
  intro ls
  induction ls with
  |nil=>exact fun T=>⟨rfl,rfl,rfl⟩
  |cons l ls ih=>exact fun T=>ih _
 exact this ls _
theorem tpOf_snoc (f:Raw)(K:Int)(ls:List (List Int × Int))(l:List Int × Int):tpOf f K (ls ++ [l])=putF (tpOf f K ls) l.1 (min l.2 K):=by unfold tpOf;rw[List.foldl_append];rfl
theorem lc_at {L:List LT}{i:Nat}{p:LT}(h:L[i]?=some p):(lcells L)[i*2]?=some p.1∧(lcells L)[i*2+1]?=some (.int .i64 p.2.2):=by
 induction L generalizing i with
 |nil=>simp at h
 | cons q L ih =>
   cases i with
   |zero=>simp at h;subst h;exact⟨rfl,rfl⟩
   | succ i =>
     have:=ih (i:=i) (by simpa using h);rw[show (i+1)*2=i*2+1+1 by omega];exact this
def okF (f:Raw)(K:Int):Prop:=f.sizes.length≤6∧(∀k∈f.sizes,1≤k∧k≤32)∧1≤K∧K≤2147483648∧0≤f.other∧(∀l∈f.lines,InS f.sizes l.1∧0≤l.2)∧f.lines.length≤100000∧f.scope.length≤6
theorem okF.top {f:Raw}{K:Int}(h:okF f K):inB (min f.other K) K=true:=by obtain⟨_,_,h1,h2,h3,_⟩:=h;unfold inB;exact decide_eq_true (by omega)
theorem okF.tp {f:Raw}{K:Int}(h:okF f K)(ls:List (List Int × Int)):okT (tpOf f K ls):=by
 obtain⟨e1,e2,e3⟩:=tpOf_same f K ls;unfold okT;rw[e1,e2,e3];exact⟨h.1,h.2.1,h.top⟩
def RowI (w:World)(base:Nat)(v:Value)(xs:List Int):Prop:=(∃A c,v = .slice A xs.length c)∧w.ownsRow base 3 1 v xs.length (nums xs)
def FunV (w:World)(F:Nat→Prop)(v:Value)(f:Raw)(K:Int):Prop :=
 ∃v1 tg,v = .agg #[v1,.pointer (some ⟨tg,0,none⟩)]∧RowI w 0 v1 f.scope∧(∀k,v1.ownBlock=some k→F k)∧TpV w tg F f.lines.length (tpOf f K f.lines)
def FileFunR (w:World)(f:Raw)(K:Int)(e:Ending)(w':World):Prop :=
 ∃v,e = .returned v∧FunV w' (fun k=>w.heap.size≤k) v f K∧Below w.heap.size w w'
theorem TpV.lim {w:World}{g n:Nat}{F:Nat→Prop}{T:TpH}(h:TpV w g F n T):TpV w g (fun k=>F k∧k<w.heap.size) n T:=by
 obtain⟨hg,A,c,mb,D,hb,ho,hf,hm,hmb,hd⟩:=h;exact⟨⟨hg,Blk.lt hb⟩,A,c,mb,D,hb,ho,fun k hk=>⟨hf k hk,(own_in ho hk).2⟩,hm,⟨hmb,World.ownsMap.lt hm⟩,hd⟩
set_option maxRecDepth 100000 in
set_option maxHeartbeats 8000000 in
theorem filefun_any {w:World}{g:Nat}{cs:Array Value}{v:Value}{f:Raw}{K:Int}(hg:Blk w g 34 cs)(hK:cs[1]?=some (.int .i64 K))(hv:RawV w v f)(hok:okF f K) :
 Calls Tryz.prog 83 #[.pointer (some ⟨g,0,none⟩),v] w fun e w'=>FileFunR w f K e w':=by
 obtain⟨v1,v2,v4,rfl,⟨⟨A1,c1,rfl⟩,h1⟩,⟨⟨A2,c2,rfl⟩,h2⟩,⟨L,hL,⟨A4,c4,rfl⟩,h4,h5⟩⟩:=hv;have q1:=(hg.cell 1).trans hK;obtain⟨wa,hwa⟩:∃wa,(w.alloc (.cells #[.slice A1 f.scope.length c1,.slice A2 f.sizes.length c2,.int .i64 f.other,.slice A4 L.length c4] 155)).alloc (.cells #[.slice none 0 0,.pointer none] 37)=wa:=⟨_,rfl⟩;have hB:Below w.heap.size w wa:=by rw[← hwa];exact bnew (bone w _) _
 have hx:Blk wa w.heap.size 155 #[.slice A1 f.scope.length c1,.slice A2 f.sizes.length c2,.int .i64 f.other,.slice A4 L.length c4]:=by rw[← hwa];exact (Blk.new w _ _).alloc _
 have hr:Blk wa (w.heap.size+1) 37 #[.slice none 0 0,.pointer none]:=by
  rw[← hwa];have:=Blk.new (w.alloc (.cells #[.slice A1 f.scope.length c1,.slice A2 f.sizes.length c2,.int .i64 f.other,.slice A4 L.length c4] 155)) 37 #[.slice none 0 0,.pointer none];rw[show (w.alloc (.cells #[.slice A1 f.scope.length c1,.slice A2 f.sizes.length c2,.int .i64 f.other,.slice A4 L.length c4] 155)).heap.size=w.heap.size+1 by simp]at this;exact this
 have HOK:=Hd hok;have HG:=Hd hg;have HH1:=Hd h1;have HH2:=Hd h2;have HH4:=Hd h4;have HH5:=Hd h5;have HL:=Hd hL;have HB:=Hd hB;have HX:=Hd hx;have HR:=Hd hr;clear hg h1 h2 h4 h5 hL hok hB hx hr hK
 go_enter Tryz.func83,Tryz.ntmps83
 go_upto_region 1 with fail;obtain⟨b,hb⟩:∃b,w.heap.size=b:=⟨_,rfl⟩;rw[hb]at HX HR ⊢;clear hwa;obtain⟨y0,y1,y2,y3,-⟩:=Blk.four (t:=155) HX.out;have qa:wa.cell? ⟨g,1,none⟩=some (.int .i64 K):=((bcell HB.out).1 g 1 (Blk.lt HG.out)).trans q1;have hgl:g<wa.heap.size:=by have:=Blk.lt HG.out;have:=HB.out.size;omega
 have hsz2:Reads wa wa.heap.size 1 A2 f.sizes.length (nums f.sizes):=Reads.of_own (own_under HH2.out HB.out);have hin:=ints_any A2 f.sizes.length c2 f.sizes wa.drew (by have:=HOK.out.1;omega) (show Reads wa.drew wa.drew.heap.size 1 A2 f.sizes.length (nums f.sizes) from hsz2)
 have hnew:∀ (W:World) (A:Option Addr) (n c:Nat),n≤6→Reads W W.heap.size 1 A n (nums f.sizes)→Calls Tryz.prog 62 #[.slice A n c,.int .i64 K,.int .i64 (min f.other K)] W fun e w'=>NewR W f.sizes K (min f.other K) e w':=fun W A n c hn hr =>
  tnew_any A n c f.sizes K (min f.other K) W hn hr HOK.out.2.1 HOK.out.top
 have HWS:Hid (w.heap.size=b):=hb;clear hb
 go_cut [5] (fun tv wq => ∃tg,tv = .pointer (some ⟨tg,0,none⟩)∧TpV wq tg (fun k=>wa.heap.size≤k) 0 (tp0 f K)∧Below wa.heap.size wa wq)
 case first =>
  have y1d:wa.drew.cell? ⟨b,1,none⟩=some (.slice A2 f.sizes.length c2):=y1;have y2d:wa.drew.cell? ⟨b,2,none⟩=some (.int .i64 f.other):=y2;have qad:wa.drew.cell? ⟨g,1,none⟩=some (.int .i64 K):=qa
  go_region_held3 (fun W=>W.cell? ⟨b,1,none⟩=some (.slice A2 f.sizes.length c2)∧W.cell? ⟨b,2,none⟩=some (.int .i64 f.other)∧W.cell? ⟨g,1,none⟩=some (.int .i64 K)) (first | exact⟨y1d,y2d,qad⟩ | exact HS2 | exact HS3) (first
   |(go_at_call 82;refine hin.mono ?_;rintro e w2 ⟨rfl,hown2,hb2⟩;have HS2:w2.cell? ⟨b,1,none⟩=some (.slice A2 f.sizes.length c2)∧w2.cell? ⟨b,2,none⟩=some (.int .i64 f.other)∧w2.cell? ⟨g,1,none⟩=some (.int .i64 K):=⟨((bcell hb2).1 b 1 (Blk.lt HX.out)).trans y1,((bcell hb2).1 b 2 (Blk.lt HX.out)).trans y2,((bcell hb2).1 g 1 hgl).trans qa⟩;have hn2:=hnew w2 _ f.sizes.length f.sizes.length HOK.out.1 (Reads.of_own hown2);have HB2:=Hd hb2;clear hown2 hb2)
   |(go_at_call 62;refine hn2.mono ?_;rintro e w3 ⟨tg,rfl,htp,hb3⟩;have HS3:w3.cell? ⟨b,1,none⟩=some (.slice A2 f.sizes.length c2)∧w3.cell? ⟨b,2,none⟩=some (.int .i64 f.other)∧w3.cell? ⟨g,1,none⟩=some (.int .i64 K):=⟨((bcell hb3).1 b 1 (World.block_lt_of_cell? _ _ HS2.1)).trans HS2.1,((bcell hb3).1 b 2 (World.block_lt_of_cell? _ _ HS2.1)).trans HS2.2.1,((bcell hb3).1 g 1 (World.block_lt_of_cell? _ _ HS2.2.2)).trans HS2.2.2⟩;have HTP:=Hd htp;have HB3:=Hd hb3;clear htp hb3))
  all_goals
   go_wp2_with fail
   go_meet
   case rel=>exact⟨tg,rfl,HTP.out.mono fun k hk=>by have:=HB2.out.size;exact Nat.le_trans this hk,bto (show Below wa.heap.size wa w2 from⟨HB2.out.os,HB2.out.tape,HB2.out.output,HB2.out.size,HB2.out.block⟩) HB3.out⟩
 case rest =>
  obtain⟨tg,rfl,htp,hbw⟩:=hcut;have HLL:Hid (L.length=f.lines.length):=by have:=HL.out;rw[Hid,← this];simp
  have hxc:=HX.out.under hbw;obtain⟨z0,z1,z2,z3,-⟩:=Blk.four (t:=155) hxc;have htp:=htp.lim;obtain⟨lim,hlim⟩:∃lim,wc.heap.size=lim:=⟨_,rfl⟩;rw[hlim]at htp;have HLIM:=Hd hlim;clear hlim;have HTP:=Hd htp;have HBW:=Hd hbw;have hwl:L.length≤1000000:=by have:=HLL.out;have:=HOK.out.2.2.2.2.2.2.1;omega
  clear htp hbw hxc hin hnew hsz2 y0 y1 y2 y3 qa;go_wp2_with fail;clear z0 z1 z2 z3
  go_loopw [8,30] (fun _ jv wr => ∃j:Nat,jv = .int .i64 j∧j≤L.length∧TpV wr tg (fun k=>wa.heap.size≤k∧k<lim) j (tpOf f K (f.lines.take j))∧Below wa.heap.size wa wr∧lim≤wr.heap.size) (fun _ jv _=>L.length-(intOf jv).toNat)
  case atStart=>exact⟨0,rfl,Nat.zero_le _,HTP.out,HBW.out,Nat.le_of_eq HLIM.out.symm⟩
  case round =>
   obtain⟨j,rfl,hj,htp,hbw,hlm⟩:=hrel;by_cases hlt:j<L.length
   ·have hB1:Below w.heap.size w wr:=HB.out.trans (hbw.mono HB.out.size)
    obtain⟨pp,hpp⟩:∃pp,L[j]?=some pp:=⟨_,List.getElem?_eq_getElem hlt⟩;have h4':=own_under HH4.out hB1;obtain⟨q4,rfl,_,_⟩:=own_some h4' (by omega);have hrow:=HH5.out pp (List.mem_of_getElem? hpp);obtain⟨tv,tt,cc⟩:=pp;obtain⟨⟨tA,tC,htv⟩,hro⟩:=hrow;dsimp only at htv hro;subst htv;have hfl:f.lines[j]?=some (tt,cc):=by rw[← HL.out,List.getElem?_map,hpp];rfl
    obtain⟨e1,e2⟩:=lc_at hpp;have c40:=(h4'.cellAt (j*2) (by omega)).trans e1;have c41:=(h4'.cellAt (j*2+1) (by omega)).trans e2;have hro':=own_under hro hB1;obtain⟨hins,hc0⟩:=HOK.out.2.2.2.2.2.1 (tt,cc) (List.mem_of_getElem? hfl);dsimp only at hins hc0;have hrd:∀o:Obj,Reads (wr.alloc o).drew (wr.alloc o).drew.heap.size 1 tA tt.length (nums tt):=fun o=>show Reads (wr.alloc o) (wr.alloc o).heap.size 1 tA tt.length (nums tt) from Reads.of_own (hro'.alloc o)
    have htl6:tt.length≤6:=by rw[hins.1];exact HOK.out.1
    have HFL:=Hd hfl;have HTPR:=Hd htp;have HBWR:=Hd hbw;have HINS:=Hd hins;have hK2:wr.cell? ⟨g,1,none⟩=some (.int .i64 K):=((bcell hB1).1 g 1 (Blk.lt HG.out)).trans q1;have hgw:g<wr.heap.size:=by have:=hB1.size;have:=Blk.lt HG.out;omega
    have i0:(0:Int)≤(j:Int):=Int.natCast_nonneg _;have i1:(j:Int)<(L.length:Int):=by omega
    clear hpp h4' hro hfl e1 e2 hro' htp hbw hins;go_upto_region 5 with fail;obtain⟨lb,hlb⟩:∃lb,wr.heap.size=lb:=⟨_,rfl⟩;have hbl:=bone wr (.cells #[.slice tA tt.length tC,.int .i64 cc] 236);have hlx:Blk (wr.alloc (.cells #[.slice tA tt.length tC,.int .i64 cc] 236)) wr.heap.size 236 #[.slice tA tt.length tC,.int .i64 cc]:=Blk.new _ _ _;have hin:=ints_any tA tt.length tC tt (wr.alloc (.cells #[.slice tA tt.length tC,.int .i64 cc] 236)).drew (by omega) (hrd _);obtain⟨wl,hwl⟩:∃wl,wr.alloc (.cells #[.slice tA tt.length tC,.int .i64 cc] 236)=wl:=⟨_,rfl⟩;rw[hwl,hlb]at hlx;rw[hwl]at hin hbl ⊢;rw[hlb];have hkl:wl.cell? ⟨g,1,none⟩=some (.int .i64 K):=((bcell hbl).1 g 1 hgw).trans hK2;obtain⟨l0,l1⟩:=hlx.two;have l0d:wl.drew.cell? ⟨lb,0,none⟩=some (.slice tA tt.length tC):=l0;have l1d:wl.drew.cell? ⟨lb,1,none⟩=some (.int .i64 cc):=l1;have kld:wl.drew.cell? ⟨g,1,none⟩=some (.int .i64 K):=hkl;have hlbw:lb<wl.heap.size∧g<wl.heap.size:=⟨Blk.lt hlx,by have:=hbl.size;omega⟩;have hgne:g<wa.heap.size:=hgl
    have hput:∀ (W:World) (A:Option Addr) (n c:Nat),Below wl.heap.size wl W→Reads W W.heap.size 1 A n (nums tt)→Calls Tryz.prog 65 #[.pointer (some ⟨tg,0,none⟩),.slice A n c,.int .i64 (min cc K)] W fun e w'=>e = .returned (.int .i64 0)∧TpV w' tg (fun k=>wa.heap.size≤k∧k<lim) (j+1) (putF (tpOf f K (f.lines.take j)) tt (min cc K))∧Tch W w' (fun k=>wa.heap.size≤k∧k<lim):=fun W A n c hb hr=>by
     have h1:=(HTPR.out.keep (Tch.of_below hbl (fun _=>False)) fun _ _ h=>h).keep (Tch.of_below hb (fun _=>False)) fun _ _ h=>h
     refine (tput_any h1 (HOK.out.tp _) A n c tt (min cc K) hr ?_ ?_ (by omega)).mono fun e w' ⟨a,b,c⟩=>⟨a,b,c.mono fun k _ h=>h.1⟩
     ·rw[(tpOf_same f K _).1];exact HINS.out
     ·rw[(tpOf_same f K _).2.1];obtain⟨_,_,k1,k2,_⟩:=HOK.out;unfold inB;exact decide_eq_true (by omega)
    have HBL:=Hd hbl;clear hwl hlx hbl l0 l1 hkl hrd hK2
    go_region_held3 (fun W=>W.cell? ⟨lb,0,none⟩=some (.slice tA tt.length tC)∧W.cell? ⟨lb,1,none⟩=some (.int .i64 cc)∧W.cell? ⟨g,1,none⟩=some (.int .i64 K)) (first | exact⟨l0d,l1d,kld⟩ | exact HS2 | exact HS3) (first
     |(go_at_call 82;refine hin.mono ?_;rintro e w2 ⟨rfl,hown2,hb2⟩;have HS2:w2.cell? ⟨lb,0,none⟩=some (.slice tA tt.length tC)∧w2.cell? ⟨lb,1,none⟩=some (.int .i64 cc)∧w2.cell? ⟨g,1,none⟩=some (.int .i64 K):=⟨((bcell hb2).1 lb 0 hlbw.1).trans l0d,((bcell hb2).1 lb 1 hlbw.1).trans l1d,((bcell hb2).1 g 1 hlbw.2).trans kld⟩;have hp2:=hput w2 _ tt.length tt.length ⟨hb2.os,hb2.tape,hb2.output,hb2.size,hb2.block⟩ (Reads.of_own hown2);have HB2:Hid (Below wl.heap.size wl w2):=⟨hb2.os,hb2.tape,hb2.output,hb2.size,hb2.block⟩;clear hown2 hb2)
     |(go_at_call 65;refine hp2.mono ?_;rintro e w3 ⟨rfl,htp3,ht3⟩;have HS3:w3.cell? ⟨lb,0,none⟩=some (.slice tA tt.length tC)∧w3.cell? ⟨lb,1,none⟩=some (.int .i64 cc)∧w3.cell? ⟨g,1,none⟩=some (.int .i64 K):=⟨(World.cell?_of_block (ht3.block lb (World.block_lt_of_cell? _ _ HS2.1) (by omega))).trans HS2.1,(World.cell?_of_block (ht3.block lb (World.block_lt_of_cell? _ _ HS2.1) (by omega))).trans HS2.2.1,(World.cell?_of_block (ht3.block g (World.block_lt_of_cell? _ _ HS2.2.2) (by omega))).trans HS2.2.2⟩;have HTP3:=Hd htp3;have HT3:=Hd ht3;clear htp3 ht3))
    all_goals
     go_wp2_with fail;go_roundw
     case measure=>simp[intOf];omega
     case rel =>
      have hsz:wl.heap.size≤w2.heap.size∧w2.heap.size≤w3.heap.size∧wr.heap.size≤wl.heap.size:=⟨HB2.out.size,HT3.out.size,HBL.out.size⟩;refine⟨j+1,by go_num,by omega,?_,?_,by omega⟩
      ·rw[List.take_add_one,HFL.out,Option.toList_some,tpOf_snoc];exact HTP3.out
      ·exact ((HBWR.out.trans (HBL.out.mono HBWR.out.size)).trans (HB2.out.mono (by have:=HBWR.out.size;omega))).trans (HT3.out.below (by have:=HBWR.out.size;omega) fun i hi h=>by omega)
   ·obtain rfl:j=L.length:=by omega
    have hB1:Below w.heap.size w wr:=HB.out.trans (hbw.mono HB.out.size);have hrw:=HR.out.below hbw (Blk.lt HR.out);have hin:=ints_any A1 f.scope.length c1 f.scope wr (by have:=HOK.out.2.2.2.2.2.2.2;omega) (Reads.of_own (own_under HH1.out hB1));have hxw:=HX.out.below hbw (Blk.lt HX.out);obtain⟨z0,-⟩:=Blk.four (t:=155) hxw;have HTPR:=Hd htp;have HBWR:=Hd hbw;have HRW:=Hd hrw;have HB1:=Hd hB1;clear htp hbw hrw hB1 hxw;go_wp2_with fail;refine hin.mono ?_;rintro e w2 ⟨rfl,hown2,hb2⟩;clear hin;have hr2:=HRW.out.under hb2;obtain⟨r0,r1⟩:=hr2.two;have rf0:=hr2.frozen 0;have rf1:=hr2.frozen 1;have HR2:=Hd hr2;have HO2:=Hd hown2;have HB2:=Hd hb2;clear hr2 hown2 hb2;go_wp2_with fail;obtain⟨wf,hwf⟩:∃wf,(w2.setCell ⟨b+1,0,none⟩ (.slice (some ⟨wr.heap.size,0,none⟩) f.scope.length f.scope.length)).setCell ⟨b+1,1,none⟩ (.pointer (some ⟨tg,0,none⟩))=wf:=⟨_,rfl⟩;have hfb:Blk wf (b+1) 37 #[.slice (some ⟨wr.heap.size,0,none⟩) f.scope.length f.scope.length,.pointer (some ⟨tg,0,none⟩)]:=by rw[← hwf];exact ((HR2.out.set_ 0 _).set_ 1 _)
    have hft:Tch w2 wf (fun k=>k=b+1):=by rw[← hwf];exact ((Tch.refl w2 (fun k=>k=b+1)).put (p:=⟨b+1,0,none⟩) _ rfl).put (p:=⟨b+1,1,none⟩) _ rfl
    rw[hwf];obtain⟨k0,k1⟩:=hfb.two;have hbl2:b+1<wa.heap.size:=Blk.lt HR.out;have hws:=HWS.out;have hwsz:w.heap.size≤wa.heap.size∧wa.heap.size≤wr.heap.size∧wr.heap.size≤w2.heap.size:=⟨HB.out.size,HBWR.out.size,HB2.out.size⟩;refine bodyPost_ret (v := .agg #[.slice (some ⟨wr.heap.size,0,none⟩) f.scope.length f.scope.length,.pointer (some ⟨tg,0,none⟩)]) (by simp[results,Tryz.results83,go_sem,k0,k1]) rfl ⟨_,rfl,⟨_,tg,rfl,⟨⟨_,_,rfl⟩,?_⟩,?_,?_⟩,?_⟩
    ·exact own_base (own_off HO2.out hft (off_below fun k hk=>by omega)) (Nat.zero_le _)
    ·intro k hk
     have h2:wr.heap.size=k:=Option.some.inj hk;omega
    ·have:=HTPR.out
     rw[HLL.out,List.take_of_length_le (Nat.le_refl _)]at this;exact ((this.keep (Tch.of_below HB2.out (fun _=>False)) fun _ _ h=>h).keep hft fun k hk e=>by omega).mono fun k hk=>by omega
    ·exact (bto HB1.out HB2.out).trans (hft.below (by omega) fun i hi e=>by omega)
end Go.Proofs.YtjpkkkphhaajgaaGreatDoor.wcp
namespace Go.Proofs.YtjpkkkphhaajgaaGreatDoor.wcp
open Go scn
variable {en ee:Int}
theorem ptup_ins:∀ (ks:List Int) {s s':Ps} {t:List Int},ptup en ee ks [] s = .ok t s'→InS ks t:=by
 intro ks
 induction ks with
 |nil=>intro s s' t h;injection h with h1 h2;subst h1;exact⟨rfl,fun i v k h=>by simp at h⟩
 | cons k ks ih =>
   intro s s' t h;unfold ptup at h
   cases hp:pnum en ee 0 (k-1) s with
   |bad e x=>rw[hp]at h;cases h
   | ok v s1 =>
     rw[hp,Res.bind_ok,ptup_acc]at h;obtain⟨p1,p2,_⟩:=pnum_ok hp
     cases hq:ptup en ee ks [] s1 with
     |bad e x=>rw[hq]at h;cases h
     | ok t2 s2 =>
       rw[hq,Res.bind_ok]at h;injection h with h1 h2
       subst h1;obtain⟨q1,q2⟩:=ih hq;refine⟨by simp[q1],fun i u m hu hm=>?_⟩
       cases i with
       |zero=>simp at hu hm;subst hu hm;omega
       |succ i=>exact q2 i u m (by simpa using hu) (by simpa using hm)
def LnOk (sizes:List Int)(ls:List (List Int × Int)):Prop := ∀l∈ls,InS sizes l.1∧0≤l.2
theorem plines_lnok {sizes:List Int}:∀ (k:Nat) {s s':Ps} {out:List (List Int × Int)},plines en ee sizes k [] s = .ok out s'→LnOk sizes out:=by
 intro k
 induction k with
 |zero=>intro s s' out h;injection h with h1 h2;subst h1;intro l hl;cases hl
 | succ k ih =>
   intro s s' out h;rw[plines_snoc]at h
   cases hp:plines en ee sizes k [] s with
   |bad e x=>rw[hp]at h;cases h
   | ok o s1 =>
     rw[hp,Res.bind_ok]at h;unfold pline at h
     cases h1:ptup en ee sizes [] s1 with
     |bad e x=>rw[h1]at h;cases h
     | ok t s2 =>
       rw[h1,Res.bind_ok]at h
       cases h2:pnum en ee 0 far s2 with
       |bad e x=>rw[h2]at h;cases h
       | ok c s3 =>
         rw[h2,Res.bind_ok]at h;split at h
         ·cases h
         ·injection h with e1 e2
          subst e1;intro l hl;rcases List.mem_append.1 hl with hl | hl
          ·exact ih hp l hl
          ·rw[List.mem_singleton.1 hl];exact⟨ptup_ins _ h1,(pnum_ok h2).1⟩
theorem ptup_big:∀ (ks:List Int) {s s':Ps} {t:List Int},ptup en ee ks [] s = .ok t s'→s'.big=s.big:=by
 intro ks
 induction ks with
 |nil=>intro s s' t h;injection h with h1 h2;subst h2;rfl
 | cons k ks ih =>
   intro s s' t h;unfold ptup at h
   cases hp:pnum en ee 0 (k-1) s with
   |bad e x=>rw[hp]at h;cases h
   | ok v s1 =>
     rw[hp,Res.bind_ok,ptup_acc]at h
     cases hq:ptup en ee ks [] s1 with
     |bad e x=>rw[hq]at h;cases h
     | ok t2 s2 =>
       rw[hq,Res.bind_ok]at h;injection h with h1 h2
       subst h2;rw[ih hq,(pnum_ok hp).2.2.2.2.1]
theorem plines_big {sizes:List Int}:∀ (k:Nat) {s s':Ps} {out:List (List Int × Int)},plines en ee sizes k [] s = .ok out s'→s'.big=none→s.big=none:=by
 intro k
 induction k with
 |zero=>intro s s' out h hb;injection h with h1 h2;subst h2;exact hb
 | succ k ih =>
   intro s s' out h hb;rw[plines_snoc]at h
   cases hp:plines en ee sizes k [] s with
   |bad e x=>rw[hp]at h;cases h
   | ok o s1 =>
     rw[hp,Res.bind_ok]at h;unfold pline at h
     cases h1:ptup en ee sizes [] s1 with
     |bad e x=>rw[h1]at h;cases h
     | ok t s2 =>
       rw[h1,Res.bind_ok]at h
       cases h2:pnum en ee 0 far s2 with
       |bad e x=>rw[h2]at h;cases h
       | ok c s3 =>
         rw[h2,Res.bind_ok]at h;split at h
         ·cases h
         ·injection h with e1 e2
          subst e2;exact ih hp (by rw[← ptup_big _ h1,← (pnum_ok h2).2.2.2.2.1];exact hb)
def ShOk (N:Nat)(s:Ps):Prop := ∀p∈s.sh,LnOk p.1 p.2∧p.2.length≤N
theorem pall_big {sizes:List Int}{s s':Ps}{out:List (List Int × Int)}{N:Nat}(h:pall en ee sizes s = .ok out s')(hs:ShOk N s)(hl:s.l.length≤N):LnOk sizes out∧out.length≤N∧(s'.big=none→s.big=none):=by
 unfold pall at h
 cases hp:pnum en ee (-far) far s with
 |bad e x=>rw[hp]at h;cases h
 | ok n s1 =>
   rw[hp,Res.bind_ok]at h;obtain⟨p1,p2,p3,p4,p5,p6⟩:=pnum_ok hp;split at h
   ·split at h
    ·cases h
    ·rename_i x hx
     split at h
     ·rename_i he
      injection h with h1 h2
      subst h1 h2;rw[p3]at hx;obtain⟨a,b⟩:=hs x (List.mem_of_getElem? hx);rw[he]at a;exact⟨a,b,fun hb=>by rw[← p5];exact hb⟩
     ·cases h
   ·obtain⟨q1,q2,q3,q4⟩:=plines_ok _ h
    obtain⟨l1,l2,l3⟩:=plarge_l (decide (min (s1.told+n.1) far>16384)) n.2 { s1 with told:=min (s1.told+n.1) far };rw[l1]at q4;dsimp only at q4;refine⟨plines_lnok _ h,by omega,fun hb=>?_⟩;have:=plines_big _ h hb;obtain⟨_,g⟩:=plarge_none this;dsimp only at g;rw[← p5];exact g
theorem pall_sh {sizes:List Int}{s s':Ps}{out:List (List Int × Int)}(h:pall en ee sizes s = .ok out s'):s'.sh=s.sh∧s'.l.length≤s.l.length:=by
 unfold pall at h
 cases hp:pnum en ee (-far) far s with
 |bad e x=>rw[hp]at h;cases h
 | ok n s1 =>
   rw[hp,Res.bind_ok]at h;obtain⟨p1,p2,p3,p4,p5,p6⟩:=pnum_ok hp;split at h
   ·split at h
    ·cases h
    ·split at h
     ·injection h with h1 h2
      subst h2;exact⟨p3,by omega⟩
     ·cases h
   ·obtain⟨q1,q2,q3,q4⟩:=plines_ok _ h
    obtain⟨l1,l2,l3⟩:=plarge_l (decide (min (s1.told+n.1) far>16384)) n.2 { s1 with told:=min (s1.told+n.1) far };rw[l1]at q4;rw[l2]at q2;exact⟨q2.trans p3,by dsimp only at q4;omega⟩
theorem pfun_len {all:List Int}{s s':Ps}{f:Raw}(h:pfun en ee all s = .ok f s'):s'.l.length≤s.l.length:=by
 unfold pfun at h
 cases h1:pnum en ee (-far) far s with
 |bad e x=>rw[h1]at h;cases h
 | ok a s1 =>
   rw[h1,Res.bind_ok]at h
   cases h2:pscope en ee all.length a.1.natAbs [] s1 with
   |bad e x=>rw[h2]at h;cases h
   | ok sc s2 =>
     rw[h2,Res.bind_ok]at h
     cases h3:pnum en ee 0 far (plarge (decide ((a.1.natAbs:Int)>6) || great (sc.map fun v=>all.getD v.toNat 0)) a.2 s2) with
     |bad e x=>rw[h3]at h;cases h
     | ok o s3 =>
       rw[h3,Res.bind_ok]at h
       cases h4:pall en ee (sc.map fun v=>all.getD v.toNat 0) s3 with
       |bad e x=>rw[h4]at h;cases h
       | ok ls s4 =>
         rw[h4,Res.bind_ok]at h;injection h with e1 e2
         have a6:=(pnum_ok h1).2.2.2.2.2;have b5:=(pscope_ok _ _ h2).2.2.2.2.1;have c6:=(pnum_ok h3).2.2.2.2.2;have d2:=(pall_sh h4).2;rw[(plarge_l _ _ _).1]at c6;have:s'.l=s4.l:=by rw[← e2];split<;>rfl
         rw[this];omega
theorem pfun_big {all:List Int}{s s':Ps}{f:Raw}{N:Nat}{K:Int}(h:pfun en ee all s = .ok f s')(hs:ShOk N s)(hl:s.l.length≤N)(hN:N≤100000)(hall:∀v∈all,1≤v) :
 ShOk N s'∧(s'.big=none→s.big=none)∧f.sizes.length=f.scope.length∧f.lines.length≤N∧(∀v∈f.scope,0≤v∧v<all.length)∧f.scope.Nodup∧f.sizes=f.scope.map (fun v=>all.getD v.toNat 0) ∧
 (s'.big=none→(∀v∈all,v≤32)→1≤K→K≤2147483648→okF f K∧great f.sizes=false):=by
 unfold pfun at h
 cases h1:pnum en ee (-far) far s with
 |bad e x=>rw[h1]at h;cases h
 | ok a s1 =>
   rw[h1,Res.bind_ok]at h;obtain⟨_,_,a3,a4,a5,a6⟩:=pnum_ok h1
   cases h2:pscope en ee all.length a.1.natAbs [] s1 with
   |bad e x=>rw[h2]at h;cases h
   | ok sc s2 =>
     rw[h2,Res.bind_ok]at h;obtain⟨b1,b2,b3,b4,b5,b6,b7⟩:=pscope_ok _ _ h2;have b6:=b6 (by simp);have b7:=b7 (by simp);simp at b1
     cases h3:pnum en ee 0 far (plarge (decide ((a.1.natAbs:Int)>6) || great (sc.map fun v=>all.getD v.toNat 0)) a.2 s2) with
     |bad e x=>rw[h3]at h;cases h
     | ok o s3 =>
       rw[h3,Res.bind_ok]at h;obtain⟨o1,o2,c3,c4,c5,c6⟩:=pnum_ok h3;obtain⟨l1,l2,l3⟩:=plarge_l (decide ((a.1.natAbs:Int)>6) || great (sc.map fun v=>all.getD v.toNat 0)) a.2 s2;rw[l2]at c3;rw[l3]at c4;rw[l1]at c6
       cases h4:pall en ee (sc.map fun v=>all.getD v.toNat 0) s3 with
       |bad e x=>rw[h4]at h;cases h
       | ok ls s4 =>
         rw[h4,Res.bind_ok]at h;have hs3:ShOk N s3:=by unfold ShOk;rw[c3,b2,a3];exact hs
         obtain⟨d1,d2,d3⟩:=pall_big h4 hs3 (by omega);have hsh4:s4.sh=s3.sh:=(pall_sh h4).1;injection h with e1 e2
         subst e1;have hbig:s'.big=s4.big:=by rw[← e2];split<;>rfl
         have hb4:s'.big=none→(decide ((a.1.natAbs:Int)>6) || great (sc.map fun v=>all.getD v.toNat 0))=false∧s.big=none:=fun hb=>by
          rw[hbig]at hb;have:=d3 hb;rw[c5]at this;obtain⟨f1,g1⟩:=plarge_none this;exact⟨f1,by rw[← a5,← b4];exact g1⟩
         refine⟨?_,fun hb=>(hb4 hb).2,by simp,d2,b6,b7,rfl,fun hb h32 k1 k2=>?_⟩
         ·subst e2
          split
          ·intro p hp
           dsimp only at hp;rcases List.mem_append.1 hp with hp | hp
           ·rw[hsh4]at hp;exact hs3 p hp
           ·rw[List.mem_singleton.1 hp];exact⟨d1,d2⟩
          ·unfold ShOk;rw[hsh4];exact hs3
         ·obtain⟨f1,_⟩:=hb4 hb
          rw[Bool.or_eq_false_iff]at f1;obtain⟨f1,f2⟩:=f1;simp only[decide_eq_false_iff_not]at f1;refine⟨⟨by simp;omega,fun v hv=>?_,k1,k2,o1,d1,Nat.le_trans d2 hN,by show sc.length≤6;omega⟩,f2⟩;obtain⟨x,hx,rfl⟩:=List.mem_map.1 hv;obtain⟨x0,x1⟩:=b6 x hx;have hxl:x.toNat<all.length:=by omega
          rw[List.getD_eq_getElem?_getD,List.getElem?_eq_getElem hxl];exact⟨hall _ (List.getElem_mem _),h32 _ (List.getElem_mem _)⟩
theorem pfuns_big {all:List Int}{N:Nat}{K:Int}(hN:N≤100000)(hall:∀v∈all,1≤v):∀ (k:Nat) {s s':Ps} {out:List Raw},pfuns en ee all k [] s = .ok out s'→ShOk N s→s.l.length≤N→s'.l.length≤N∧ShOk N s'∧(s'.big=none→s.big=none) ∧
 (∀f∈out,(∀v∈f.scope,0≤v∧v<all.length)∧f.scope.Nodup∧f.sizes=f.scope.map (fun v=>all.getD v.toNat 0)∧f.lines.length≤N)∧(s'.big=none→(∀v∈all,v≤32)→1≤K→K≤2147483648→∀f∈out,okF f K∧great f.sizes=false):=by
 intro k
 induction k with
 |zero=>intro s s' out h hs hl;injection h with h1 h2;subst h1 h2;exact⟨hl,hs,id,fun f hf=>(by cases hf),fun _ _ _ _ f hf=>(by cases hf)⟩
 | succ k ih =>
   intro s s' out h hs hl;rw[pfuns_snoc]at h
   cases hp:pfuns en ee all k [] s with
   |bad e x=>rw[hp]at h;cases h
   | ok o s1 =>
     rw[hp,Res.bind_ok]at h;obtain⟨i1,i2,i3,i4,i5⟩:=ih hp hs hl
     cases hq:pfun en ee all s1 with
     |bad e x=>rw[hq]at h;cases h
     | ok f s2 =>
       rw[hq,Res.bind_ok]at h;injection h with h1 h2
       subst h1 h2;obtain⟨j1,j2,j3,j4,j5,j6,j7,j8⟩:=pfun_big (K:=K) hq i2 i1 hN hall;refine⟨by have:=pfun_len hq;omega,j1,fun hb=>i3 (j2 hb),fun g hg=>?_,fun hb h32 k1 k2 g hg=>?_⟩
       ·rcases List.mem_append.1 hg with hg | hg
        ·exact i4 g hg
        ·rw[List.mem_singleton.1 hg];exact⟨j5,j6,j7,j4⟩
       ·rcases List.mem_append.1 hg with hg | hg
        ·exact i5 (j2 hb) h32 k1 k2 g hg
        ·rw[List.mem_singleton.1 hg];exact j8 hb h32 k1 k2
end Go.Proofs.YtjpkkkphhaajgaaGreatDoor.wcp
