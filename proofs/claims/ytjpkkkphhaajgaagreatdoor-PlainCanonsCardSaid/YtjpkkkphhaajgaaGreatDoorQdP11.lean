/- a part -/
import Derived.Test.YtjpkkkphhaajgaaGreatDoorQdP09
set_option linter.all false
namespace Go.Proofs.YtjpkkkphhaajgaaGreatDoor.wcp
open Go RowKit ChangeShapes WideShapes ChangeAt Maps words scn
theorem infoSh:(Tryz.prog.info? 233).map (fun i=>(i.zero,i.size,i.bytes))=some (some (.agg #[.slice none 0 0,.slice none 0 0]),2,48):=by kernel_rfl
def RawV (w:World)(v:Value)(f:Raw):Prop :=
 ∃v1 v2 v4,v = .agg #[v1,v2,.int .i64 f.other,v4]∧Row64 w 0 v1 f.scope∧Row64 w 0 v2 f.sizes∧LinesOwn w 0 v4 f.lines
theorem RawV.tch {w w':World}{S:Nat→Prop}{v:Value}{f:Raw}(h:RawV w v f)(ht:Tch w w' S)(h1:Off w 0 S 2)(h2:Off w 0 S 236):RawV w' v f:=by
 obtain⟨v1,v2,v4,e,a,b,c⟩:=h;exact⟨v1,v2,v4,e,a.tch ht h1,b.tch ht h1,c.tch ht h1 h2⟩
variable {w:World} {gr gs:Nat} {bs:List UInt8} {wb:Int} {sv:Value} {α:Type} {r:Res α}
theorem Rbad.share {er x:Int}(h:Rbad w gr gs er x sv)(u:Value):Rbad (w.setCell ⟨gr,6,none⟩ u) gr gs er x u:=by
 obtain⟨big,bigAt,told,hr,he⟩:=h;exact⟨big,bigAt,told,hr.set_ 6 u,he⟩
theorem Rok.share {s s':Ps}(h:Rok w gr gs bs wb s sv)(u:Value)(hne:gr≠gs)(h1:s'.l=s.l)(h2:s'.big=s.big)(h3:s'.told=s.told):Rok (w.setCell ⟨gr,6,none⟩ u) gr gs bs wb s' u:=by
 obtain⟨a,big,badAt,bigAt,hr,hs,hl,hg⟩:=h;refine⟨a,big,badAt,bigAt,by rw[h3];exact hr.set_ 6 u,?_,by rw[h1];exact hl,by rw[h2];exact hg⟩;exact hs.tch (Tch.put (S:=fun k=>k=gr) (Tch.refl w _) (p:=⟨gr,6,none⟩) u rfl) (fun e=>hne e.symm) fun q cs hq hb=>by subst hq;exact Blk.ne_ hr hb (by decide) rfl
theorem Blk.four {w:World}{g:Nat}{t:TypeId}{a b c d:Value}(h:Blk w g t #[a,b,c,d]):w.cell? ⟨g,0,none⟩=some a∧w.cell? ⟨g,1,none⟩=some b∧w.cell? ⟨g,2,none⟩=some c∧w.cell? ⟨g,3,none⟩=some d ∧
 w.frozen? ⟨g,0,none⟩=false∧w.frozen? ⟨g,1,none⟩=false∧w.frozen? ⟨g,2,none⟩=false∧w.frozen? ⟨g,3,none⟩=false:=⟨h.cell 0,h.cell 1,h.cell 2,h.cell 3,h.frozen 0,h.frozen 1,h.frozen 2,h.frozen 3⟩
theorem raw_put {w:World}{g:Nat}{t:TypeId}{a b c d:Value}{x y z u:Value}(h:Blk w g t #[x,y,z,u]){w':World}(hw:(((w.setCell ⟨g,0,none⟩ a).setCell ⟨g,1,none⟩ b).setCell ⟨g,2,none⟩ c).setCell ⟨g,3,none⟩ d=w') :
 Blk w' g t #[a,b,c,d]∧Tch w w' (fun k=>k=g):=by
 subst hw;exact⟨((((h.set_ 0 a).set_ 1 b).set_ 2 c).set_ 3 d),((((Tch.refl w (fun k=>k=g)).put (p:=⟨g,0,none⟩) a rfl).put (p:=⟨g,1,none⟩) b rfl).put (p:=⟨g,2,none⟩) c rfl).put (p:=⟨g,3,none⟩) d rfl⟩
def FunR (w:World)(gr gs:Nat)(bs:List UInt8)(wb:Int)(all:List Int)(s:Ps)(sv:Value)(e:Ending)(w':World):Prop :=
 ∃v f' sv',e = .returned v∧(∀k,sv'.ownBlock=some k→sv.ownBlock=some k∨w.heap.size≤k)∧Tch w w' (fun k=>k=gr∨k=gs∨some k=sv.ownBlock)∧RawV w' v f'∧RS w' gr gs bs wb sv' (pfun (enOf bs wb) (eeOf wb) all s) ∧
  (∀f s',pfun (enOf bs wb) (eeOf wb) all s = .ok f s'→f=f'∧ShV w' sv' s'.sh)
def psz (all sc:List Int):List Int:=sc.map fun v=>all.getD v.toNat 0
theorem fun_end {en ee:Int}{s3:Ps}{sizes:List Int}{o xo:Int}{ls:List (List Int × Int)}{mk:Int→List (List Int × Int)→Raw}{f:List (List Int × Int)→Ps→Ps}
 (h1:∀v s',((.ok () s3:Res Unit).bind fun _ s=>pnum en ee 0 far s) = .ok v s'→o=v.1∧xo=v.2)
 (h2:∀a s',(((.ok () s3:Res Unit).bind fun _ s=>pnum en ee 0 far s).bind fun _ s=>pall en ee sizes s) = .ok a s'→a=ls) :
 (∃er x,(((.ok () s3:Res Unit).bind fun _ s=>pnum en ee 0 far s).bind fun _ s=>pall en ee sizes s) = .bad er x∧((pnum en ee 0 far s3).bind fun o s=>(pall en ee sizes s).bind fun ls s => .ok (mk o.1 ls) (f ls s)) = .bad er x) ∨
 (∃s6,(((.ok () s3:Res Unit).bind fun _ s=>pnum en ee 0 far s).bind fun _ s=>pall en ee sizes s) = .ok ls s6∧((pnum en ee 0 far s3).bind fun o s=>(pall en ee sizes s).bind fun ls s => .ok (mk o.1 ls) (f ls s)) = .ok (mk o ls) (f ls s6)∧(0≤s3.told→s6.sh=s3.sh)):=by
 rw[Res.bind_ok]at h1 h2 ⊢
 cases hp:pnum en ee 0 far s3 with
 |bad e x=>exact .inl ⟨e,x,rfl,rfl⟩
 | ok v s4 =>
   rw[hp,Res.bind_ok]at h2;rw[Res.bind_ok,Res.bind_ok];obtain⟨rfl,rfl⟩:=h1 v s4 hp
   cases hq:pall en ee sizes s4 with
   |bad e x=>exact .inl ⟨e,x,rfl,rfl⟩
   | ok a s6 =>
     obtain rfl:=h2 a s6 hq;obtain⟨_,_,p3,p4,_,_⟩:=pnum_ok hp;exact .inr ⟨s6,rfl,rfl,fun h0=>((pall_ok hq (by rw[p4];exact h0)).1).trans p3⟩
set_option maxRecDepth 100000 in
set_option maxHeartbeats 8000000 in
theorem rfun_any {s:Ps}(h:Rok w gr gs bs wb s sv)(hne:gr≠gs)(hgr:gr<w.heap.size)(hgs:gs<w.heap.size)(hn:bs.length≤1000000)(ht:Tab w)(hG1:0<gr)(hG2:0<gs)
 (A:Option Addr) (c0:Nat) (all:List Int) (hal:w.ownsRow 0 2 1 (.slice A all.length c0) all.length (nums all)) (ha1:∀y∈all,1≤y∧y≤4611686018427387904) (hall:all.length≤1000000)
 (ht0:0≤s.told) (ht1:s.told≤1000000) (hsh:ShV w sv s.sh) (hshl:s.sh.length≤900000) :
 Calls Tryz.prog 79 #[.pointer (some ⟨gr,0,none⟩),.slice A all.length c0] w fun e w'=>FunR w gr gs bs wb all s sv e w':=by
 obtain⟨iS,hS0,hS1,hS2,hS3⟩:=info_parts infoSh;obtain⟨i6,h60,h61,h62,h63⟩:=info_parts info64;have hb0:=bone w (.cells #[.slice none 0 0,.slice none 0 0,.int .i64 0,.slice none 0 0] 155);have hnum:=rnum_any (h.below hb0) hne hn (-4611686018427387904) 4611686018427387904;have O64:=Hd (h.off (base:=0) (t:=2) (by decide) (by decide));have OL:=Hd (h.off (base:=0) (t:=236) (by decide) (by decide));have OS:=Hd (h.off (base:=0) (t:=233) (by decide) (by decide))
 have hgsn:∀k,sv.ownBlock=some k→k≠gs:=fun k hk e=>by
  subst e;obtain⟨_,_,_,ho,_⟩:=hsh;obtain⟨cs,hb⟩:=own_is ho hk;obtain⟨_,_,_,_,_,⟨_,_,hs,_⟩,_⟩:=h;exact Blk.ne_ hs hb (by decide) rfl
 have HLEFT:=Hd h.left;have HTAB:=Hd ht;have HAL:=Hd hal;have HSH:=Hd hsh;have HB0:=Hd hb0;clear h ht hal hsh hb0
 go_enter Tryz.func79,Tryz.ntmps79
 go_wp2_with fail;refine hnum.mono ?_;rintro e w1 ⟨n,x,rfl,ht1',hm1⟩;have HT1:=Hd (HB0.out |> fun hb=>(Tch.of_below hb (fun k=>k=gr∨k=gs)).trans ht1' fun _ _ h=>h);have hrb1:=ht1'.blk (Blk.new w 155 #[.slice none 0 0,.slice none 0 0,.int .i64 0,.slice none 0 0]) (by rintro (h | h)<;>omega);obtain⟨rb,hrbe⟩:∃rb,w.heap.size=rb:=⟨_,rfl⟩;rw[hrbe]at hrb1 ⊢;have HRBE:=Hd hrbe;have HRB1:=Hd hrb1;clear hnum ht1' hrbe hrb1
 cases hp:pnum (enOf bs wb) (eeOf wb) (-4611686018427387904) 4611686018427387904 s with
 | bad er at_ =>
   rw[hp]at hm1;dsimp only at hm1;obtain⟨rfl,hb1⟩:=hm1
   have HGOAL:Hid (pfun (enOf bs wb) (eeOf wb) all s = .bad er at_):=by
    unfold pfun;rw[show pnum (enOf bs wb) (eeOf wb) (-far) far s = .bad er at_ from hp];rfl
   have hsc:=rscope_bad hb1 (all.length:Int);have HB1:=Hd hb1;clear hp hb1;go_wp2_with fail;refine hsc.mono ?_;rintro e w2 ⟨rfl,rfl⟩;clear hsc;go_wp2_with fail;have hx2:=Blk.new w1 155 #[.slice none 0 0,.slice none 0 0,.int .i64 0,.slice none 0 0];have hr2:=(HRB1.out).under (bone w1 (.cells #[.slice none 0 0,.slice none 0 0,.int .i64 0,.slice none 0 0] 155));obtain⟨wx,hwx⟩:∃wx,w1.alloc (.cells #[.slice none 0 0,.slice none 0 0,.int .i64 0,.slice none 0 0] 155)=wx:=⟨_,rfl⟩;have hTx:Tch w1 wx (fun _=>False):=by rw[← hwx];exact Tch.of_below (bone w1 _) _
   have HTX:=Hd (HT1.out.trans hTx fun _ _ h=>h.elim);obtain⟨xb,hxb⟩:∃xb,w1.heap.size=xb:=⟨_,rfl⟩;rw[hwx,hxb]at hx2;rw[hwx]at hr2;rw[hwx,hxb];have hbx:=HB1.out.tch hTx id;have HBX:=Hd hbx;have hrow:Row64 wx 0 (.slice none 0 0) []:=⟨⟨none,0,rfl⟩,World.ownsRow_nil _ _ _ _⟩;have HROW:=Hd hrow;have HG:Hid (pfun (enOf bs wb) (eeOf wb) all s = .bad er at_):=HGOAL.out;clear hwx hTx hxb hrow;obtain⟨big,bigAt,told,hrx,hex⟩:=hbx;have hok:=ok_any hrx;rw[decide_eq_false hex]at hok;obtain⟨y0,y1,y2,y3,-⟩:=Blk.four (t:=155) hx2;obtain⟨z0,z1,z2,z3,zf0,zf1,zf2,zf3⟩:=Blk.four (t:=155) hr2;have HR2:=Hd hr2;clear hrx hex hx2 hr2;refine hok.mono ?_;rintro e w3 ⟨rfl,rfl⟩;clear hok;go_wp2_with fail;obtain⟨wf,hwf⟩:∃wf,(((wx.setCell ⟨rb,0,none⟩ (.slice none 0 0)).setCell ⟨rb,1,none⟩ (.slice none 0 0)).setCell ⟨rb,2,none⟩ (.int .i64 0)).setCell ⟨rb,3,none⟩ (.slice none 0 0)=wf:=⟨_,rfl⟩;obtain⟨hfb,hft⟩:=raw_put HR2.out hwf;rw[hwf];obtain⟨k0,k1,k2,k3,-⟩:=Blk.four (t:=155) hfb;have hrge:w.heap.size≤rb:=by have:=HRBE.out;omega
   have hoff:∀t,Off wx 0 (fun k=>k=rb) t∨t=155:=fun t=>by
    by_cases e:t=155
    ·exact .inr e
    ·exact .inl fun k hk => .inr fun cs hb=>Blk.ne_ HR2.out hb (fun h=>e h.symm) hk.symm
   refine bodyPost_ret (v := .agg #[.slice none 0 0,.slice none 0 0,.int .i64 0,.slice none 0 0]) (by simp[results,Tryz.results79,go_sem,k0,k1,k2,k3]) rfl ⟨_,⟨[],[],0,[]⟩,sv,rfl,fun k hk => .inl hk,?_,?_,?_⟩
   ·exact (HTX.out.mono (S':=fun k=>k=gr∨k=gs∨some k=sv.ownBlock) fun k _ h=>h.elim Or.inl fun h=>Or.inr (Or.inl h)).trans hft fun k hk e=>by omega
   ·exact⟨_,_,_,rfl,HROW.out.tch hft ((hoff _).resolve_right (by decide)),⟨⟨_,_,rfl⟩,World.ownsRow_nil _ _ _ _⟩,LinesOwn.nil _ _⟩
   ·rw[HG.out]
    exact⟨HBX.out.tch hft (fun e=>by omega),fun f s' he=>by cases he⟩
 | ok nv s1 =>
   rw[hp]at hm1;dsimp only at hm1;obtain⟨rfl,rfl,hr1⟩:=hm1;obtain⟨n,xx⟩:=nv;obtain⟨p1,p2,p3,p4,p5,p6⟩:=pnum_ok hp;dsimp only at p1 p2;obtain⟨k,hk⟩:∃k:Nat,n.natAbs=k:=⟨_,rfl⟩
   have HG1:Hid (pfun (enOf bs wb) (eeOf wb) all s=(pscope (enOf bs wb) (eeOf wb) all.length k [] s1).bind fun sc s =>
    (pnum (enOf bs wb) (eeOf wb) 0 far (plarge (decide ((k:Int)>6) || great (psz all sc)) xx s)).bind fun o s =>
    (pall (enOf bs wb) (eeOf wb) (psz all sc) s).bind fun ls s =>
    .ok ⟨sc,psz all sc,o.1,ls⟩ (if n<0 then { s with sh:=s.sh ++ [(psz all sc,ls)] } else s)):=by
    unfold pfun;rw[show pnum (enOf bs wb) (eeOf wb) (-far) far s = .ok (n,xx) s1 from hp,Res.bind_ok];dsimp only;rw[hk];rfl
   clear hp;dsimp only;have hmax:max n (-n)=(k:Int):=by omega
   have hkb:k≤4611686018427387904:=by omega
   have HS1:Hid (s1.sh=s.sh∧s1.told=s.told∧s1.l.length+1=s.l.length):=⟨p3,p4,p6⟩;have hsc:=rscope_any hr1 hne (by have:=HT1.out.size;omega) (by have:=HT1.out.size;omega) hn k all.length hkb (by omega) (by omega);clear hr1 p3 p4 p5 p6 hk;go_wp2_with fail;refine hsc.mono ?_;rintro e w2 ⟨out,OA,OC,rfl,hown,ht2,hol,hm2⟩;clear hsc;have HT2:=Hd (HT1.out.trans ht2 fun _ _ h=>h);have ht3s:Hid (w1.heap.size≤w2.heap.size):=ht2.size;have HRB2:=Hd (ht2.blk HRB1.out (by have:=HRBE.out;rintro (h | h)<;>omega));have hob:Hid (w.heap.size<w1.heap.size):=by have:=HT1.out.size;have h2:=Blk.lt HRB1.out;have:=HRBE.out;rw[Hid];omega
   have HROW2:Hid (Row64 w2 w1.heap.size (.slice OA out.length OC) out):=⟨⟨_,_,rfl⟩,hown⟩;clear ht2 hown;go_wp2_with fail;have hx2:Blk (w2.alloc (.cells #[.slice OA out.length OC,.slice none 0 0,.int .i64 0,.slice none 0 0] 155)) w2.heap.size 155 #[.slice OA out.length OC,.slice none 0 0,.int .i64 0,.slice none 0 0]:=Blk.new _ _ _;have hr2:=(HRB2.out).under (bone w2 (.cells #[.slice OA out.length OC,.slice none 0 0,.int .i64 0,.slice none 0 0] 155));obtain⟨wx,hwx⟩:∃wx,w2.alloc (.cells #[.slice OA out.length OC,.slice none 0 0,.int .i64 0,.slice none 0 0] 155)=wx:=⟨_,rfl⟩;have hTx:Tch w2 wx (fun _=>False):=by rw[← hwx];exact Tch.of_below (bone w2 _) _
   have HTX:=Hd (HT2.out.trans hTx fun _ _ h=>h.elim);obtain⟨xb,hxb⟩:∃xb,w2.heap.size=xb:=⟨_,rfl⟩;have HXL:Hid (rb<xb∧wx.heap.size=xb+1):=⟨by have:=Blk.lt HRB2.out;omega,by rw[← hwx,← hxb];simp⟩;rw[hwx,hxb]at hx2;rw[hwx]at hr2;rw[hwx,hxb];have HROW:=Hd ((HROW2.out.down (Nat.zero_le _)).tch hTx (fun k hk=>hk.elim));have HROWX:=Hd (HROW2.out.tch hTx (fun k hk=>hk.elim));have HW1:Hid (w1.heap.size≤xb∧gr<w1.heap.size∧gs<w1.heap.size):=by have:=HT1.out.size;have:=HT2.out.size;have:=hob.out;have h3:=ht3s.out;exact⟨by omega,by omega,by omega⟩
   cases hps:pscope (enOf bs wb) (eeOf wb) all.length k [] s1 with
   | bad er at_ =>
     rw[hps]at hm2;have hbx:Rbad wx gr gs er at_ sv:=Rbad.tch hm2 hTx id;have HBX:=Hd hbx;have HG:Hid (pfun (enOf bs wb) (eeOf wb) all s = .bad er at_):=by rw[Hid,HG1.out,hps];rfl
     clear hwx hTx hxb hps hm2;obtain⟨big,bigAt,told,hrx,hex⟩:=hbx;have hok:=ok_any hrx;rw[decide_eq_false hex]at hok;obtain⟨y0,y1,y2,y3,-⟩:=Blk.four (t:=155) hx2;obtain⟨z0,z1,z2,z3,zf0,zf1,zf2,zf3⟩:=Blk.four (t:=155) hr2;have HR2:=Hd hr2;clear hrx hex hx2 hr2;refine hok.mono ?_;rintro e w3 ⟨rfl,rfl⟩;clear hok;go_wp2_with fail;obtain⟨wf,hwf⟩:∃wf,(((wx.setCell ⟨rb,0,none⟩ (.slice OA out.length OC)).setCell ⟨rb,1,none⟩ (.slice none 0 0)).setCell ⟨rb,2,none⟩ (.int .i64 0)).setCell ⟨rb,3,none⟩ (.slice none 0 0)=wf:=⟨_,rfl⟩;obtain⟨hfb,hft⟩:=raw_put HR2.out hwf;rw[hwf];obtain⟨k0,k1,k2,k3,-⟩:=Blk.four (t:=155) hfb;have hrge:w.heap.size≤rb:=by have:=HRBE.out;omega
     have hoff:∀t,Off wx 0 (fun k=>k=rb) t∨t=155:=fun t=>by
      by_cases e:t=155
      ·exact .inr e
      ·exact .inl fun k hk => .inr fun cs hb=>Blk.ne_ HR2.out hb (fun h=>e h.symm) hk.symm
     refine bodyPost_ret (v := .agg #[.slice OA out.length OC,.slice none 0 0,.int .i64 0,.slice none 0 0]) (by simp[results,Tryz.results79,go_sem,k0,k1,k2,k3]) rfl ⟨_,⟨out,[],0,[]⟩,sv,rfl,fun k hk => .inl hk,?_,?_,?_⟩
     ·exact (HTX.out.mono (S':=fun k=>k=gr∨k=gs∨some k=sv.ownBlock) fun k _ h=>h.elim Or.inl fun h=>Or.inr (Or.inl h)).trans hft fun k hk e=>by omega
     ·exact⟨_,_,_,rfl,HROW.out.tch hft ((hoff _).resolve_right (by decide)),⟨⟨_,_,rfl⟩,World.ownsRow_nil _ _ _ _⟩,LinesOwn.nil _ _⟩
     ·rw[HG.out]
      exact⟨HBX.out.tch hft (fun e=>by omega),fun f s' he=>by cases he⟩
   | ok sc s2 =>
     rw[hps]at hm2;dsimp only at hm2;obtain⟨rfl,hrk⟩:=hm2;obtain⟨u1,u2,u3,u4,u5,u6,u7⟩:=pscope_ok _ _ hps;have HS2:Hid (s2.sh=s1.sh∧s2.told=s1.told∧s2.l.length+k=s1.l.length):=⟨u2,u3,u5⟩;have HOK:Hid (out.length=k):=by have:=u1;simp at this;exact this
     have hrange:∀v∈out,0≤v∧v<(all.length:Int):=u6 (by simp)
     have HG2:Hid (pfun (enOf bs wb) (eeOf wb) all s=(pnum (enOf bs wb) (eeOf wb) 0 far (plarge (decide ((k:Int)>6) || great (psz all out)) xx s2)).bind fun o s =>
      (pall (enOf bs wb) (eeOf wb) (psz all out) s).bind fun ls s =>
      .ok ⟨out,psz all out,o.1,ls⟩ (if n<0 then { s with sh:=s.sh ++ [(psz all out,ls)] } else s)):=by
      rw[Hid,HG1.out,hps,Res.bind_ok]
     have hrx:Rok wx gr gs bs wb s2 sv:=hrk.tch hTx id id fun k cs h=>h.elim
     have hok:=ok_un (RS.ok (a:=()) hrx);rw[show (Res.ok () s2:Res Unit).good=true from rfl]at hok;have HRX:=Hd hrx;have HX2:=Hd hx2;have HR2:=Hd hr2;have hxc:=Blk.four (t:=155) hx2;obtain⟨y0,-⟩:=hxc;have HRG:=Hd hrange;clear u1 u2 u3 u4 u5 u6 u7 hps hrk hwx hTx hxb hx2 hr2 hrange;refine hok.mono ?_;rintro e w3 ⟨rfl,rfl⟩;clear hok;go_wp2_with fail;have hin:Blk wx xb 155 #[.slice OA out.length OC,.slice none 0 0,.int .i64 0,.slice none 0 0]:=HX2.out
     go_loopw [10,35] (fun _ jv wr => ∃ (j:Nat) (FA:Option Addr) (fc:Nat),jv = .int .i64 j∧j≤out.length∧Blk wr xb 155 #[.slice OA out.length OC,.slice FA j fc,.int .i64 0,.slice none 0 0]∧wr.ownsRow (xb+1) 2 1 (.slice FA j fc) j (nums (psz all (out.take j)))∧Tch wx wr (fun k=>k=xb)) (fun _ jv _=>out.length-(intOf jv).toNat)
     case atStart=>exact⟨0,none,0,rfl,Nat.zero_le _,hin,World.ownsRow_nil _ _ _ _,Tch.refl _ _⟩
     case round =>
      clear hin y0;obtain⟨j,FA,fc,rfl,hj,hxr,hor,htr⟩:=hrel;have hraw:∀t,t≠155→Off wx 0 (fun k=>k=xb) t:=fun t e k hk => .inr fun cs hb=>Blk.ne_ HX2.out hb (fun h=>e h.symm) hk.symm
      have HRAW:=Hd hraw;by_cases hlt:j<out.length
      ·obtain⟨ad,v,hA1,_,hv,hc⟩:=(Reads.of_own (HROW.out.tch htr (hraw _ (by decide))).2).num hlt
       subst hA1;obtain⟨hv0,hv1⟩:=HRG.out v (List.mem_of_getElem? hv);obtain⟨m,rfl⟩:∃m:Nat,v=(m:Int):=⟨v.toNat,by omega⟩;have hml:m<all.length:=by omega
       have hTw:=HTX.out.trans htr (S':=fun k=>k=xb) fun k hk e=>by have:=HXL.out;have:=HRBE.out;omega
       have hal2:=own_off HAL.out hTw O64.out;obtain⟨ad2,y,hA2,hbl2,hy,hc2⟩:=(Reads.of_own hal2).num hml;subst hA2;have HY:=Hd hy;have HV:=Hd hv;obtain⟨y0,y1,y2,y3,yf0,yf1,-⟩:=Blk.four (t:=155) hxr;have hA6:=(hor.alloc (.cells #[.int .i64 y] 2)).drew;have hr6:Reads (wr.alloc (.cells #[.int .i64 y] 2)).drew (wr.alloc (.cells #[.int .i64 y] 2)).heap.size 1 (some ⟨wr.heap.size,0,none⟩) 1 (nums [y]):=reads_block (t:=2) (heap_alloc_new _ _) rfl;have Y1:=(Blk.four (t:=155) (hxr.alloc (.cells #[.int .i64 y] 2))).2.1;have HC2:(wr.alloc (.cells #[.int .i64 y] 2)).cell? (ad2.add m)=some (.int .i64 y):=(World.cell?_alloc_lt wr _ _ (by rw[block_of_add];exact hbl2)).trans hc2;have hxl:xb+1≤wr.heap.size:=Blk.lt hxr;have HXR:=Hd hxr;have HOR:=Hd hor;have HTR:=Hd htr;clear hy hv hxr hor htr hTw hal2 hraw;go_upto_region 10 with fail
       go_region_law (refine step_append_any _ rfl (.tmp 40) (.tmp 45) 46 rfl (xb+1) 2 i6 _ 1 8 Tryz.underlying46 h60 h61 h62 h63 rfl (by omega) (.slice FA j fc) j _ rfl hA6 (wr.alloc (.cells #[.int .i64 y] 2)).heap.size (some ⟨wr.heap.size,0,none⟩) 1 1 (nums [y]) rfl hr6 nums_one (by simp only[maxLen];omega) (by omega) (by simp;omega) ?_;intro v6 w6 hown6 hg6 hat6;obtain⟨A6,c6,rfl⟩:=own_shape hown6;have hx6:=(HXR.out.alloc (.cells #[.int .i64 y] 2)).drew.grown hg6 (fun e=>by have:=(own_in hA6 e.symm).1;omega);have d61:=(Blk.four (t:=155) hx6).2.1;have d6f:=hx6.frozen 1;have HX6:=Hd hx6;have HO6:=Hd hown6;have HG6:=Hd hg6;clear hx6 hown6 hg6 hat6)
       all_goals
        go_wp2_with fail;go_roundw
        case rel =>
         have hnw:nums (psz all (out.take j))++nums [y]=nums (psz all (out.take (j+1))):=by
          rw[List.take_add_one,HV.out];unfold psz nums;simp[List.getD_eq_getElem?_getD,HY.out]
         refine⟨j+1,A6,c6,by go_num,by omega,HX6.out.set_ 1 _,?_,?_⟩
         ·rw[← hnw]
          exact own_off HO6.out (Tch.put (S:=fun k=>k=xb) (Tch.refl w6 _) (p:=⟨xb,1,none⟩) _ rfl) (off_below fun k hk=>by omega)
         ·exact (((HTR.out.trans (Tch.of_below (bone wr (.cells #[.int .i64 y] 2)) (fun _=>False)) fun _ _ h=>h.elim).drew).trans (Tch.of_grown HG6.out (S:=fun k=>some k=(Value.slice FA j fc).ownBlock) fun q _ hq=>hq) fun k hk e=>by have:=(own_in HOR.out e.symm).1;have:=HXL.out;omega).put (p:=⟨xb,1,none⟩) _ rfl
        case measure=>simp[intOf];omega
      ·obtain rfl:j=out.length:=by omega
       rw[List.take_of_length_le (Nat.le_refl _)]at hor;obtain⟨y0,y1,y2,y3,yf0,yf1,yf2,yf3⟩:=Blk.four (t:=155) hxr;have hpl:(psz all out).length=out.length:=by simp[psz]
       have hp1:∀z∈psz all out,1≤z∧z≤4611686018427387904:=fun z hz=>by
        obtain⟨v,hv,rfl⟩:=List.mem_map.1 hz;obtain⟨v0,v1⟩:=HRG.out v hv;have hvl:v.toNat<all.length:=by omega
        rw[List.getD_eq_getElem?_getD,List.getElem?_eq_getElem hvl];exact ha1 _ (List.getElem_mem _)
       have HP1:=Hd hp1;have HPL:=Hd hpl;have HXR:=Hd hxr;have HTR0:=Hd htr;have HORB:Hid (Row64 wr (xb+1) (.slice FA out.length fc) (psz all out)):=⟨⟨FA,fc,by rw[hpl]⟩,by rw[hpl];exact hor⟩
       have HOR:Hid (wr.ownsRow 0 2 1 (.slice FA (psz all out).length fc) (psz all out).length (nums (psz all out))):=by
        have:=own_base hor (Nat.zero_le _);rw[Hid,hpl];exact this
       have HTW:=Hd (HTX.out.trans htr (S':=fun k=>k=xb) fun k hk e=>by have:=HXL.out;have:=HRBE.out;omega);have hrs:RS wr gr gs bs wb sv (.ok () s2:Res Unit):=RS.ok (HRX.out.tch htr (fun e=>by have:=HXL.out;have:=HRBE.out;omega) (fun e=>by have:=HXL.out;have:=HRBE.out;omega) fun q cs hq hb=>by subst hq;exact Blk.ne_ HX2.out hb (by decide) rfl);have HBR:=Hd (htr.blk HR2.out (fun e=>by have:=HXL.out;omega));have hgt:=great_any FA out.length fc (psz all out) wr (by omega) (by have:=Reads.of_own HOR.out;rw[hpl]at this;exact this) fun z hz=>(hp1 z hz).1
       have HRS:=Hd hrs;obtain⟨B,hB⟩:∃B,(decide ((k:Int)>6) || great (psz all out))=B:=⟨_,rfl⟩;have HG3:=HG2.out;rw[hB]at HG3;have HG3:=Hd HG3;have hlg:=large_un hrs hne B xx;clear hxr hor htr hrs hp1 hpl hraw;go_upto_region 12 with fail
       go_cut [] (fun wl=>RS wl gr gs bs wb sv (.ok () (plarge B xx s2):Res Unit)∧Tch wr wl (fun k=>k=gr))
       case first =>
        by_cases hk6:6<k
        ·have hkI:decide ((6:Int)<(k:Int))=true:=decide_eq_true (by omega)
         obtain rfl:B=true:=by rw[← hB,decide_eq_true (show (k:Int)>6 by omega)];rfl
         clear hB hgt;go_wp2_with fail;refine hlg.mono ?_;rintro e wl ⟨⟨vl,rfl⟩,hrl,htl⟩;go_wp2_with fail
         go_meet
         case rel=>exact⟨hrl,htl⟩
        ·have hkI:decide ((6:Int)<(k:Int))=false:=decide_eq_false (by omega)
         have hgB:great (psz all out)=B:=by rw[← hB,decide_eq_false (show ¬ (k:Int)>6 by omega)];rfl
         rw[hgB]at hgt;clear hB hgB;go_wp2_with fail;refine hgt.mono ?_;rintro e wg ⟨rfl,rfl⟩;go_wp2_with fail;refine hlg.mono ?_;rintro e wl ⟨⟨vl,rfl⟩,hrl,htl⟩;go_wp2_with fail
         go_meet
         case rel=>exact⟨hrl,htl⟩
       case rest =>
        clear hlg hgt hB y0 y1 y2 y3 yf0 yf1 yf2 yf3;obtain⟨hrl,htl⟩:=hcut;have hs3l:=plarge_l B xx s2;obtain⟨s3,hs3⟩:∃s3,plarge B xx s2=s3:=⟨_,rfl⟩;rw[hs3]at hrl hs3l;have HG4:=HG3.out;rw[hs3]at HG4;have HG4:=Hd HG4;obtain⟨e31,e32,e33⟩:=hs3l;have HS3:Hid (s3.sh=s.sh∧s3.told=s.told∧s3.l.length≤bs.length):=⟨e32.trans (HS2.out.1.trans HS1.out.1),e33.trans (HS2.out.2.1.trans HS1.out.2.1),by rw[e31];have:=HS2.out.2.2;have:=HS1.out.2.2;have:=HLEFT.out;omega⟩;have hnum2:=rnum_un hrl hne hn 0 4611686018427387904;have hneX:gr≠xb∧gs≠xb∧gr≠rb∧gs≠rb∧rb≠xb:=by have:=HXL.out;have:=HRBE.out;omega
        have HXC:=Hd (htl.blk HXR.out (fun e=>hneX.1 e.symm));have HRC:=Hd (htl.blk HBR.out (fun e=>hneX.2.2.1 e.symm));have HTC:=Hd (HTW.out.trans (htl.mono (S':=fun k=>k=gr∨k=gs) fun k _ h=>Or.inl h) fun _ _ h=>h);have HTWC:=Hd htl;clear hrl htl hs3 e31 e32 e33;go_wp2_with fail;refine hnum2.mono ?_;rintro e w5 ⟨o,xo,rfl,ht5,hrs5,hv5,hz5⟩;clear hnum2;have HX5:=Hd (ht5.blk HXC.out (by rintro (h | h)<;>omega));have HR5:=Hd (ht5.blk HRC.out (by rintro (h | h)<;>omega));have HT5:=Hd (HTC.out.trans ht5 fun _ _ h=>h);have HRS5:=Hd hrs5;have HV5:=Hd hv5;have HTC5:=Hd ht5;clear ht5 hrs5 hv5 hz5;obtain⟨y0,y1,y2,y3,yf0,yf1,yf2,yf3⟩:=Blk.four (t:=155) HX5.out;go_wp2_with fail;have T6:Tch w5 (w5.setCell ⟨xb,2,none⟩ (.int .i64 o)) (fun k=>k=xb):=Tch.put (S:=fun k=>k=xb) (Tch.refl w5 _) (p:=⟨xb,2,none⟩) _ rfl;have hx6:Blk (w5.setCell ⟨xb,2,none⟩ (.int .i64 o)) xb 155 #[.slice OA out.length OC,.slice FA out.length fc,.int .i64 o,.slice none 0 0]:=HX5.out.set_ 2 _;have hxoff:∀t,t≠155→Off w5 0 (fun k=>k=xb) t:=fun t e k hk => .inr fun cs hb=>Blk.ne_ HX5.out hb (fun h=>e h.symm) hk.symm
        have ht6:=HT5.out.trans T6 (S':=fun k=>k=xb) fun k hk e=>by have:=HXL.out;have:=HRBE.out;omega
        have rs6:=HRS5.out.tch T6 hneX.1 hneX.2.1 (fun q cs hq hb=>by subst hq;exact Blk.ne_ HX5.out hb (by decide) rfl);have hr6:=T6.blk HR5.out hneX.2.2.2.2;obtain⟨w6,hw6⟩:∃w6,w5.setCell ⟨xb,2,none⟩ (.int .i64 o)=w6:=⟨_,rfl⟩;rw[hw6]at hx6 ht6 rs6 hr6 ⊢;have HTR6:Hid (Tch wr w6 (fun k=>k=gr∨k=gs∨k=xb)):=((HTWC.out.mono (S':=fun k=>k=gr∨k=gs∨k=xb) fun k _ h => .inl h).trans HTC5.out fun k _ h=>h.elim Or.inl fun h=>Or.inr (Or.inl h)).trans (by rw[← hw6];exact T6) fun k _ h=>Or.inr (Or.inr h)
        have HSZ6:=Hd (HORB.out.tch HTR6.out (off_below fun k hk=>by have:=HXL.out;have:=HRBE.out;omega))
        have HSC6:=Hd (HROWX.out.tch ((HTR0.out.mono (S':=fun k=>k=gr∨k=gs∨k=xb) fun k _ h => .inr (.inr h)).trans HTR6.out fun _ _ h=>h) (fun k hk=>by
         rcases hk with h | h | h
         ·exact .inl (by have:=HW1.out;omega)
         ·exact .inl (by have:=HW1.out;omega)
         ·exact .inr fun cs hb=>Blk.ne_ HX2.out hb (by decide) h.symm))
        have HSH6:=Hd (HSH.out.tch ht6 O64.out OL.out OS.out);have hsr:=(HSZ6.out.down (Nat.zero_le _)).2
        have hln:=lines_un rs6 hne (by have:=ht6.size;omega) (by have:=ht6.size;omega) hn (tab_tch HTAB.out ht6 (by omega)) hG1 hG2 FA fc (psz all out) (by rw[HPL.out]at hsr ⊢;exact hsr) HP1.out (by rw[HPL.out];exact (by
         have:=HOK.out;have:=HS2.out.2.2;have:=HS1.out.2.2;have:=HLEFT.out;omega)) s.sh HSH6.out (by omega) (fun a s' he=>by
         obtain⟨_,_,p3,p4,_,_⟩:=pnum_ok (show pnum (enOf bs wb) (eeOf wb) 0 4611686018427387904 s3 = .ok a s' from he);have:=HS3.out
         exact⟨by omega,by omega,p3.trans this.1⟩)
        rw[HPL.out]at hln;have HX6:=Hd hx6;have HR6:=Hd hr6;have HT6:=Hd ht6;obtain⟨y0,y1,y2,y3,yf0,yf1,yf2,yf3⟩:=Blk.four (t:=155) hx6;clear hw6 T6 hx6 hr6 ht6 rs6 hxoff hsr;go_wp2_with fail;refine hln.mono ?_;rintro e w7 ⟨lv,ls,rfl,ht7,hlo,hrs7,hls⟩;clear hln;obtain⟨L,hL,⟨LA,lc,rfl⟩,hlo2⟩:=hlo;have HLO7:Hid (LinesOwn w7 0 (.slice LA L.length lc) ls):=⟨L,hL,⟨LA,lc,rfl⟩,hlo2⟩;have HX7:=Hd (ht7.blk HX6.out (by rintro (h | h)<;>omega));have HR7:=Hd (ht7.blk HR6.out (by rintro (h | h)<;>omega));have HSZ7:=Hd (HSZ6.out.tch ht7 (off_below fun k hk=>by have:=HXL.out;have:=HRBE.out;omega));have HSC7:=Hd (HSC6.out.tch ht7 (off_below fun k hk=>by have:=HW1.out;omega));have HSH7:=Hd (HSH.out.tch (HT6.out.trans ht7 fun _ _ h=>h) O64.out OL.out OS.out);have HT7:=Hd (HT6.out.trans ht7 fun _ _ h=>h);have HRS7:=Hd hrs7;have HLS:=Hd hls;clear ht7 hlo2 hrs7 hls hL y0 y1 y2 y3 yf0 yf1 yf2 yf3;obtain⟨y0,y1,y2,y3,yf0,yf1,yf2,yf3⟩:=Blk.four (t:=155) HX7.out;obtain⟨w8,hw8⟩:∃w8,w7.setCell ⟨xb,3,none⟩ (.slice LA L.length lc)=w8:=⟨_,rfl⟩;have T8:Tch w7 w8 (fun k=>k=xb):=by rw[← hw8];exact Tch.put (S:=fun k=>k=xb) (Tch.refl w7 _) (p:=⟨xb,3,none⟩) _ rfl
        have hx8:Blk w8 xb 155 #[.slice OA out.length OC,.slice FA out.length fc,.int .i64 o,.slice LA L.length lc]:=by rw[← hw8];exact HX7.out.set_ 3 _
        have hxoff:∀B t,t≠155→Off w7 B (fun k=>k=xb) t:=fun B t e k hk => .inr fun cs hb=>Blk.ne_ HX7.out hb (fun h=>e h.symm) hk.symm
        have HR8:=Hd (T8.blk HR7.out hneX.2.2.2.2);have HSZ8:=Hd (HSZ7.out.tch T8 (hxoff _ _ (by decide)));have HSC8:=Hd (HSC7.out.tch T8 (hxoff _ _ (by decide)));have HLO8:=Hd (HLO7.out.tch T8 (hxoff _ _ (by decide)) (hxoff _ _ (by decide)));have HSH8:=Hd (HSH7.out.tch T8 (hxoff _ _ (by decide)) (hxoff _ _ (by decide)) (hxoff _ _ (by decide)));have HT8:=Hd (HT7.out.trans T8 (S':=fun k=>k=xb) fun k hk e=>by have:=HXL.out;have:=HRBE.out;omega);have HRS8:=Hd (HRS7.out.tch T8 hneX.1 hneX.2.1 (fun q cs hq hb=>by subst hq;exact Blk.ne_ HX7.out hb (by decide) rfl));have HX8:=Hd hx8;clear T8 hx8 hxoff;have hend:=fun_end (mk:=fun o ls=>(⟨out,psz all out,o,ls⟩:Raw)) (f:=fun ls s=>if n<0 then { s with sh:=s.sh ++ [(psz all out,ls)] } else s) HV5.out HLS.out;have HEND:=Hd hend;clear hend;go_upto_region 15 with fail;clear hw8 y0 y1 y2 y3 yf0 yf1 yf2 yf3;obtain⟨y0,y1,y2,y3,yf0,yf1,yf2,yf3⟩:=Blk.four (t:=155) HX8.out;by_cases hneg:n<0
        ·have hnI:decide (n<0)=true:=decide_eq_true hneg
         obtain⟨SL,hSL,⟨SA,scp,rfl⟩,hso,hsp⟩:=HSH8.out;have hSLl:SL.length≤900000:=by rw[← hSL]at hshl;simpa using hshl
         obtain⟨bad,big,badAt,bigAt,told,hrb8,-,-⟩:=HRS8.out.blk;have g6:=(RdB.cells hrb8).2.2.2.2.2.2.1;have hrb8a:=Blk.alloc hrb8 (.cells #[.slice FA out.length fc,.slice LA L.length lc] 233);have G6:=(RdB.cells hrb8a).2.2.2.2.2.2.1;obtain⟨Y0,Y1,Y2,Y3,-⟩:=Blk.four (t:=155) (HX8.out.alloc (.cells #[.slice FA out.length fc,.slice LA L.length lc] 233));have hA9:=(hso.alloc (.cells #[.slice FA out.length fc,.slice LA L.length lc] 233)).drew;have hr9:Reads (w8.alloc (.cells #[.slice FA out.length fc,.slice LA L.length lc] 233)).drew (w8.alloc (.cells #[.slice FA out.length fc,.slice LA L.length lc] 233)).heap.size 2 (some ⟨w8.heap.size,0,none⟩) 1 [.slice FA out.length fc,.slice LA L.length lc]:=reads_two (t:=233) (heap_alloc_new _ _)
         have hone:∀u ∈ [Value.slice FA out.length fc,.slice LA L.length lc],u.oneCell'=true:=fun u hu=>by
          rcases List.mem_cons.1 hu with rfl | hu
          ·rfl
          ·rw[List.mem_singleton.1 hu];rfl
         have HSO:=Hd hso;have HSP:=Hd hsp;have HSL:=Hd hSL;have HONE:=Hd hone;have HRB8:=Hd hrb8a
         have hrneg:∀k,(Value.slice SA SL.length scp).ownBlock=some k→k≠gr∧k≠xb∧k≠rb:=fun k hk =>
          ⟨fun e=>own_blk_ne hso hrb8 (by decide) (by rw[hk,e]),fun e=>own_blk_ne hso HX8.out (by decide) (by rw[hk,e]),fun e=>own_blk_ne hso HR8.out (by decide) (by rw[hk,e])⟩
         clear hso hsp hSL hone hrb8 hrb8a;go_upto_region 16 with fail;clear hnI
         go_cut [7] (fun _ wq => ∃A9 c9 w9,w9.ownsRow 0 233 2 (.slice A9 (SL.length+1) c9) (SL.length+1) (shcells SL ++ [.slice FA out.length fc,.slice LA L.length lc])∧((w8.alloc (.cells #[.slice FA out.length fc,.slice LA L.length lc] 233)).drew.grownBy w9 (Value.slice SA SL.length scp).ownBlock)∧((Value.slice A9 (SL.length+1) c9).ownBlock=(Value.slice SA SL.length scp).ownBlock∨(Value.slice A9 (SL.length+1) c9).ownBlock=some (w8.alloc (.cells #[.slice FA out.length fc,.slice LA L.length lc] 233)).drew.heap.size)∧wq=w9.setCell ⟨gr,6,none⟩ (.slice A9 (SL.length+1) c9))
         case first =>
          go_region_law (refine step_append_any _ rfl (.tmp 75) (.tmp 81) 144 rfl 0 233 iS _ 2 48 Tryz.underlying144 hS0 hS1 hS2 hS3 rfl (by omega) (.slice SA SL.length scp) SL.length _ rfl hA9 (w8.alloc (.cells #[.slice FA out.length fc,.slice LA L.length lc] 233)).heap.size (some ⟨w8.heap.size,0,none⟩) 1 1 [.slice FA out.length fc,.slice LA L.length lc] rfl hr9 HONE.out (by simp only[maxLen];omega) (by omega) (Nat.zero_le _) ?_;intro v9 w9 hown9 hg9 hat9;obtain⟨A9,c9,rfl⟩:=own_shape hown9;have hx9:=(Blk.grown (Blk.drew HRB8.out) hg9 (fun e=>(hrneg _ e.symm).1 rfl));have g96:=(RdB.cells hx9).2.2.2.2.2.2.1;have g9f:=(RdB.cells hx9).2.2.2.2.2.2.2 6;have HO9:=Hd hown9;have HG9:=Hd hg9;have HA9:=Hd hat9;clear hx9 hown9 hg9 hat9)
          all_goals
           go_wp2_with fail
           go_meet
           case rel=>exact⟨A9,c9,w9,HO9.out,HG9.out,HA9.out,rfl⟩
         case rest =>
          obtain⟨A9,c9,w9,ho9,hg9,hat9,rfl⟩:=hcut;obtain⟨wq,hwq⟩:∃wq,w9.setCell ⟨gr,6,none⟩ (.slice A9 (SL.length+1) c9)=wq:=⟨_,rfl⟩;rw[hwq];have Ta:Tch w8 (w8.alloc (.cells #[.slice FA out.length fc,.slice LA L.length lc] 233)).drew (fun _=>False):=(Tch.of_below (bone w8 _) _).drew;have Tb:Tch (w8.alloc (.cells #[.slice FA out.length fc,.slice LA L.length lc] 233)).drew w9 (fun k=>some k=(Value.slice SA SL.length scp).ownBlock):=Tch.of_grown hg9 fun q _ hq=>hq
          have Tc:Tch w9 wq (fun k=>k=gr):=by rw[← hwq];exact Tch.put (S:=fun k=>k=gr) (Tch.refl w9 _) (p:=⟨gr,6,none⟩) _ rfl
          have hg9b:∀t,146≠t→Off w9 0 (fun k=>k=gr) t:=fun t e k hk => .inr fun cs hb=>by
           have:=Blk.grown (Blk.drew HRB8.out) hg9 (fun e=>(hrneg _ e.symm).1 rfl);exact Blk.ne_ this hb e hk.symm
          have hTsv:Tch w8 w9 (fun k=>some k=(Value.slice SA SL.length scp).ownBlock):=(Ta.mono (S':=fun k=>some k=(Value.slice SA SL.length scp).ownBlock) fun _ _ h=>h.elim).trans Tb fun _ _ h=>h
          have hofs:∀t,233≠t→Off w8 0 (fun k=>some k=(Value.slice SA SL.length scp).ownBlock) t:=fun t e=>off_own HSO.out e
          have hx9:=Tc.blk (hTsv.blk HX8.out (fun e=>(hrneg _ e.symm).2.1 rfl)) (fun e=>hneX.1 e.symm);have hr9':=Tc.blk (hTsv.blk HR8.out (fun e=>(hrneg _ e.symm).2.2 rfl)) (fun e=>hneX.2.2.1 e.symm);have hsz9:=(HSZ8.out.tch hTsv (fun k hk=>(hofs _ (by decide) k hk).elim (fun h=>by omega) Or.inr)).tch Tc (fun k hk => .inl (by have:=HXL.out;have:=HRBE.out;omega));have hsc9:=(HSC8.out.tch hTsv (fun k hk=>(hofs _ (by decide) k hk).elim (fun h=>by omega) Or.inr)).tch Tc (fun k hk => .inl (by have:=HW1.out;omega));have hlo9:=(HLO8.out.tch hTsv (hofs _ (by decide)) (hofs _ (by decide))).tch Tc (hg9b _ (by decide)) (hg9b _ (by decide))
          have hshq:∀sh,SL.map (·.2.2)=sh→ShV wq (.slice A9 (SL.length+1) c9) (sh ++ [(psz all out,ls)]):=fun sh e=>by
           refine⟨SL ++ [(.slice FA out.length fc,.slice LA L.length lc,(psz all out,ls))],by rw[List.map_append,e];rfl,⟨A9,c9,by simp⟩,?_,fun p hp=>?_⟩
           ·rw[show (SL ++ [((Value.slice FA out.length fc,Value.slice LA L.length lc,(psz all out,ls)):ST)]).length=SL.length+1 by simp,show shcells (SL ++ [(.slice FA out.length fc,.slice LA L.length lc,(psz all out,ls))])=shcells SL ++ [.slice FA out.length fc,.slice LA L.length lc] by simp[shcells]]
            exact own_off ho9 Tc (hg9b _ (by decide))
           ·rcases List.mem_append.1 hp with hp | hp
            ·obtain⟨h1,h2,h3⟩:=HSP.out p hp
             exact⟨(h1.tch hTsv (hofs _ (by decide))).tch Tc (hg9b _ (by decide)),(h2.tch hTsv (hofs _ (by decide)) (hofs _ (by decide))).tch Tc (hg9b _ (by decide)) (hg9b _ (by decide)),h3⟩
            ·rw[List.mem_singleton.1 hp]
             refine⟨hsz9.down (Nat.zero_le _),hlo9,?_⟩;have h1:=HOK.out;have h2:=HS2.out.2.2;have h3:=HS1.out.2.2;have h4:=HLEFT.out;have h5:=HPL.out;dsimp only;omega
          have hrq:RS wq gr gs bs wb (.slice A9 (SL.length+1) c9) (pfun (enOf bs wb) (eeOf wb) all s)∧(∀f s',pfun (enOf bs wb) (eeOf wb) all s = .ok f s'→f=⟨out,psz all out,o,ls⟩∧ShV wq (.slice A9 (SL.length+1) c9) s'.sh):=by
           rw[HG4.out];have hsu:∀k cs,some k=(Value.slice SA SL.length scp).ownBlock→¬ Blk w8 k 5 cs:=fun k cs hk hb=>own_blk_ne HSO.out hb (by decide) hk.symm
           have hsg:¬ some gs=(Value.slice SA SL.length scp).ownBlock:=fun e=>hgsn gs e.symm rfl
           have h8:=HRS8.out.tch hTsv (fun e=>(hrneg _ e.symm).1 rfl) hsg hsu;rcases HEND.out with⟨er,x0,e1,e2⟩ | ⟨s6,e1,e2,e3⟩
           ·rw[show (pnum (enOf bs wb) (eeOf wb) 0 4611686018427387904:Ps→_)=pnum (enOf bs wb) (eeOf wb) 0 far from rfl,e1]at h8
            rw[e2,← hwq];exact⟨Rbad.share h8 _,fun f s' he=>by cases he⟩
           ·rw[show (pnum (enOf bs wb) (eeOf wb) 0 4611686018427387904:Ps→_)=pnum (enOf bs wb) (eeOf wb) 0 far from rfl,e1]at h8
            rw[e2,if_pos hneg];have hs6:=e3 (by have:=HS3.out;omega);refine⟨by rw[← hwq];exact Rok.share h8 _ hne rfl rfl rfl,fun f s' he=>?_⟩;injection he with h1 h2
            subst h2;exact⟨h1.symm,hshq _ (by rw[HSL.out,hs6,HS3.out.1])⟩
          have hsvb:∀k,(Value.slice A9 (SL.length+1) c9).ownBlock=some k→(Value.slice SA SL.length scp).ownBlock=some k∨w.heap.size≤k:=fun k hk=>by
           rcases hat9 with h | h
           ·exact .inl (h ▸ hk)
           ·right
            rw[h]at hk;have h1:=Option.some.inj hk;have h2:=HT8.out.size;simp at h1;omega
          obtain⟨svq,hsvq⟩:∃x,x=Value.slice A9 (SL.length+1) c9:=⟨_,rfl⟩;rw[← hsvq]at hrq hsvb;have HSVB:=Hd hsvb;clear hsvq hsvb hat9;have HRQ:=Hd hrq;have HTQ:Hid (Tch w wq (fun k=>k=gr∨k=gs∨some k=(Value.slice SA SL.length scp).ownBlock)):=((HT8.out.mono (S':=fun k=>k=gr∨k=gs∨some k=(Value.slice SA SL.length scp).ownBlock) fun k _ h=>h.elim Or.inl fun h=>Or.inr (Or.inl h)).trans hTsv fun k _ h=>Or.inr (Or.inr h)).trans Tc fun k _ h=>Or.inl h
          have HR8:=Hd hr9';have HSZ8:=Hd hsz9;have HSC8:=Hd hsc9;have HLO8:=Hd hlo9;obtain⟨z0,z1,z2,z3,zf0,zf1,zf2,zf3⟩:=Blk.four (t:=155) hr9';clear y0 y1 y2 y3 yf0 yf1 yf2 yf3 Y0 Y1 Y2 Y3;obtain⟨y0,y1,y2,y3,yf0,yf1,yf2,yf3⟩:=Blk.four (t:=155) hx9;clear hrq hwq Ta Tb Tc hTsv ho9 hg9 hx9 hr9' hsz9 hsc9 hlo9 hshq hofs hg9b hA9 hr9 g6 G6;go_wp2_with fail;obtain⟨wf,hwf⟩:∃wf,(((wq.setCell ⟨rb,0,none⟩ (.slice OA out.length OC)).setCell ⟨rb,1,none⟩ (.slice FA out.length fc)).setCell ⟨rb,2,none⟩ (.int .i64 o)).setCell ⟨rb,3,none⟩ (.slice LA L.length lc)=wf:=⟨_,rfl⟩;obtain⟨hfb,hft⟩:=raw_put HR8.out hwf;rw[hwf];obtain⟨k0,k1,k2,k3,-⟩:=Blk.four (t:=155) hfb;have hrge:w.heap.size≤rb:=by have:=HRBE.out;omega
          have hoff:∀t,t≠155→Off wq 0 (fun k=>k=rb) t:=fun t e k hk => .inr fun cs hb=>Blk.ne_ HR8.out hb (fun h=>e h.symm) hk.symm
          refine bodyPost_ret (v := .agg #[.slice OA out.length OC,.slice FA out.length fc,.int .i64 o,.slice LA L.length lc]) (by simp[results,Tryz.results79,go_sem,k0,k1,k2,k3]) rfl ⟨_,⟨out,psz all out,o,ls⟩,svq,rfl,HSVB.out,?_,?_,?_,?_⟩
          ·exact HTQ.out.trans hft fun k hk e=>by omega
          ·exact⟨_,_,_,rfl,(HSC8.out.down (Nat.zero_le _)).tch hft (hoff _ (by decide)),(HSZ8.out.down (Nat.zero_le _)).tch hft (hoff _ (by decide)),HLO8.out.tch hft (hoff _ (by decide)) (hoff _ (by decide))⟩
          ·exact HRQ.out.1.tch hft hneX.2.2.1 hneX.2.2.2.1 fun q cs hq hb=>by subst hq;exact Blk.ne_ HR8.out hb (by decide) rfl
          ·intro f s' he
           obtain⟨h1,h2⟩:=HRQ.out.2 f s' he;exact⟨h1,h2.tch hft (hoff _ (by decide)) (hoff _ (by decide)) (hoff _ (by decide))⟩
        ·have hnI:decide (n<0)=false:=decide_eq_false hneg
         obtain⟨z0,z1,z2,z3,zf0,zf1,zf2,zf3⟩:=Blk.four (t:=155) HR8.out
         have hrq:RS w8 gr gs bs wb sv (pfun (enOf bs wb) (eeOf wb) all s)∧(∀f s',pfun (enOf bs wb) (eeOf wb) all s = .ok f s'→f=⟨out,psz all out,o,ls⟩∧ShV w8 sv s'.sh):=by
          rw[HG4.out];have h8:=HRS8.out;rcases HEND.out with⟨er,x0,e1,e2⟩ | ⟨s6,e1,e2,e3⟩
          ·rw[show (pnum (enOf bs wb) (eeOf wb) 0 4611686018427387904:Ps→_)=pnum (enOf bs wb) (eeOf wb) 0 far from rfl,e1]at h8
           rw[e2];exact⟨h8,fun f s' he=>by cases he⟩
          ·rw[show (pnum (enOf bs wb) (eeOf wb) 0 4611686018427387904:Ps→_)=pnum (enOf bs wb) (eeOf wb) 0 far from rfl,e1]at h8
           rw[e2,if_neg hneg];have hs6:=e3 (by have:=HS3.out;omega);refine⟨h8,fun f s' he=>?_⟩;injection he with h1 h2
           subst h2;exact⟨h1.symm,by rw[hs6,HS3.out.1];exact HSH8.out⟩
         have HSVB:Hid (∀k,sv.ownBlock=some k→sv.ownBlock=some k∨w.heap.size≤k):=fun k hk => .inl hk
         have HRQ:=Hd hrq;have HTQ:Hid (Tch w w8 (fun k=>k=gr∨k=gs∨some k=sv.ownBlock)):=HT8.out.mono fun k _ h=>h.elim Or.inl fun h=>Or.inr (Or.inl h)
         clear hrq hnI;go_wp2_with fail;obtain⟨wf,hwf⟩:∃wf,(((w8.setCell ⟨rb,0,none⟩ (.slice OA out.length OC)).setCell ⟨rb,1,none⟩ (.slice FA out.length fc)).setCell ⟨rb,2,none⟩ (.int .i64 o)).setCell ⟨rb,3,none⟩ (.slice LA L.length lc)=wf:=⟨_,rfl⟩;obtain⟨hfb,hft⟩:=raw_put HR8.out hwf;rw[hwf];obtain⟨k0,k1,k2,k3,-⟩:=Blk.four (t:=155) hfb;have hrge:w.heap.size≤rb:=by have:=HRBE.out;omega
         have hoff:∀t,t≠155→Off w8 0 (fun k=>k=rb) t:=fun t e k hk => .inr fun cs hb=>Blk.ne_ HR8.out hb (fun h=>e h.symm) hk.symm
         refine bodyPost_ret (v := .agg #[.slice OA out.length OC,.slice FA out.length fc,.int .i64 o,.slice LA L.length lc]) (by simp[results,Tryz.results79,go_sem,k0,k1,k2,k3]) rfl ⟨_,⟨out,psz all out,o,ls⟩,sv,rfl,HSVB.out,?_,?_,?_,?_⟩
         ·exact HTQ.out.trans hft fun k hk e=>by omega
         ·exact⟨_,_,_,rfl,(HSC8.out.down (Nat.zero_le _)).tch hft (hoff _ (by decide)),(HSZ8.out.down (Nat.zero_le _)).tch hft (hoff _ (by decide)),HLO8.out.tch hft (hoff _ (by decide)) (hoff _ (by decide))⟩
         ·exact HRQ.out.1.tch hft hneX.2.2.1 hneX.2.2.2.1 fun q cs hq hb=>by subst hq;exact Blk.ne_ HR8.out hb (by decide) rfl
         ·intro f s' he
          obtain⟨h1,h2⟩:=HRQ.out.2 f s' he;exact⟨h1,h2.tch hft (hoff _ (by decide)) (hoff _ (by decide)) (hoff _ (by decide))⟩
end Go.Proofs.YtjpkkkphhaajgaaGreatDoor.wcp
namespace Go.Proofs.YtjpkkkphhaajgaaGreatDoor.wcp
open Go RowKit ChangeShapes WideShapes ChangeAt Maps words scn
theorem laid_out:laidOutB Tryz.prog=true:=by kernel_rfl
theorem keyed6:Keyed Tryz.prog 166:=Keyed.of_law (deep_law_laid laid_out (m:=2) (by omega) (of_decide_eq_true (by kernel_rfl)) (by kernel_rfl) (by kernel_rfl))
def pad (t:List Int):List Int:=t++List.replicate (6-t.length) 0
theorem pad_len {t:List Int}(h:t.length≤6):(pad t).length=6:=by simp[pad];omega
def keyV (c:List Int):Value := .agg (c.map (Value.int .i8)).toArray
def keyL (c:List Int):Lit := .string (keyBytes (c.map fun n=>Lit.int .i8 n))
theorem keyOf6 {c:List Int}(hl:c.length=6)(hb:∀n∈c,-128≤n∧n≤127):keyOf Tryz.prog 166 (keyV c)=some (keyL c):=by
 have kt:Tryz.prog.keyType 166=true:=by kernel_rfl
 have c1:Tryz.prog.cellsOf 166=6:=by kernel_rfl
 have c2:Tryz.prog.cellsOf 164=1:=by kernel_rfl
 obtain⟨d,hd⟩:∃d,Tryz.prog.types.size+1=d+1+1:=⟨Tryz.prog.types.size-1,by
  have:2≤Tryz.prog.types.size:=of_decide_eq_true (by kernel_rfl)
  omega⟩
 have hw:∀n∈c,(Lit.int .i8 n).wf=true:=fun n hn=>by
  have:=hb n hn;simp[Lit.wf,IntKind.min,IntKind.max,IntKind.signed,IntKind.bits];omega
 match c,hl with
 | [a0,a1,a2,a3,a4,a5],_ =>
   have h0:=hw a0 (by simp);have h1:=hw a1 (by simp);have h2:=hw a2 (by simp);have h3:=hw a3 (by simp);have h4:=hw a4 (by simp);have h5:=hw a5 (by simp);have r6:List.range 6 = [0,1,2,3,4,5]:=rfl;unfold keyOf;rw[Tryz.underlying166]
   have hf:(keyV [a0,a1,a2,a3,a4,a5]).formed Tryz.prog 166=true:=by
    simp[keyV,Value.formed,Tryz.underlying166,c1]
   rw[kt,hf];simp only[Bool.and_true,if_true];rw[hd];unfold Program.keyLits;rw[Tryz.underlying166];simp[c1,c2,r6,keyV,Value.cells,Program.keyLits,Tryz.underlying164,h0,h1,h2,h3,h4,h5,keyL]
theorem key_list {c d:List Int}(h:keyV c=keyV d):c=d:=by
 have h4:(c.map (Value.int .i8)).toArray=(d.map (Value.int .i8)).toArray:=by unfold keyV at h;exact Value.agg.inj h
 have h5:c.map (Value.int .i8)=d.map (Value.int .i8):=by
  have:=congrArg Array.toList h4
  rwa [List.toList_toArray,List.toList_toArray]at this
 exact (List.map_inj_right (fun a b h=>(Value.int.inj h).2)).1 h5
theorem keyL_inj {c d:List Int}(hc:c.length=6)(hd:d.length=6)(hcb:∀n∈c,-128≤n∧n≤127)(hdb:∀n∈d,-128≤n∧n≤127)(h:keyL c=keyL d):c=d:=by
 have h1:=keyOf6 hc hcb;have h2:=keyOf6 hd hdb;rw[← h]at h2;have h3:keyV c=keyV d:=Keyed.inj keyed6 h1 h2;exact key_list h3
theorem pad_inj {t u:List Int}(h:t.length=u.length)(he:pad t=pad u):t=u:=by
 unfold pad at he;exact (List.append_inj he h).1
def Tpl_ (n:Nat)(t:List Int):Prop:=t.length=n∧n≤6∧∀v∈t,0≤v∧v<32
theorem Tpl_.pad {n:Nat}{t:List Int}(h:Tpl_ n t):(pad t).length=6∧∀v∈wcp.pad t,-128≤v∧v≤127:=by
 refine⟨pad_len (by rw[h.1];exact h.2.1),fun v hv=>?_⟩;unfold wcp.pad at hv;rcases List.mem_append.1 hv with hv | hv
 ·have:=h.2.2 v hv;omega
 ·have:=(List.mem_replicate.1 hv).2;omega
theorem kl_inj {n:Nat}{t u:List Int}(ht:Tpl_ n t)(hu:Tpl_ n u)(h:keyL (pad t)=keyL (pad u)):t=u :=
 pad_inj (by rw[ht.1,hu.1]) (keyL_inj ht.pad.1 hu.pad.1 ht.pad.2 hu.pad.2 h)
def TD (D:DataW Unit)(n:Nat)(f:List Int→Option Int):Prop :=
 (∀t,Tpl_ n t→Maps.has D (keyL (pad t))=(f t).isSome∧∀c,f t=some c→∀z,D.atKey (keyL (pad t)) z = .lit (.int .i64 c))∧∀kl,Maps.has D kl=true→∃t,Tpl_ n t∧kl=keyL (pad t)
theorem td_empty (n:Nat):TD (.map []) n (fun _=>none):=⟨fun t _=>⟨rfl,fun c h=>by cases h⟩,fun kl h=>by cases h⟩
theorem td_put {D:DataW Unit}{n:Nat}{f:List Int→Option Int}{t:List Int}{c:Int}(h:TD D n f)(hm:IsMap D)(ht:Tpl_ n t):TD (D.put (keyL (pad t)) (.lit (.int .i64 c))) n (fun u=>if u=t then some c else f u):=by
 have hk:WideAt.IsKeyLit (keyL (pad t)):=trivial
 refine⟨fun u hu=>?_,fun kl hkl=>by
  by_cases e:kl=keyL (pad t)
  ·exact⟨t,ht,e⟩
  ·rw[has_put_other e]at hkl;exact h.2 kl hkl⟩
 by_cases e:u=t
 ·subst e
  simp only[if_true];exact⟨by rw[has_put_same hm hk];rfl,fun c' h z=>by injection h with h;rw[← h];exact atKey_put_same hm hk _ _⟩
 ·have hne:keyL (pad u)≠keyL (pad t):=fun h=>e (kl_inj hu ht h)
  simp only[if_neg e];exact⟨by rw[has_put_other hne];exact (h.1 u hu).1,fun c' h' z=>by rw[atKey_put_other hne];exact (h.1 u hu).2 c' h' z⟩
theorem td_del {D:DataW Unit}{n:Nat}{f:List Int→Option Int}{t:List Int}(h:TD D n f)(ht:Tpl_ n t):TD (D.del (keyL (pad t))) n (fun u=>if u=t then none else f u):=by
 refine⟨fun u hu=>?_,fun kl hkl=>by
  by_cases e:kl=keyL (pad t)
  ·rw[e,has_del_same]at hkl;cases hkl
  ·rw[has_del_other e]at hkl;exact h.2 kl hkl⟩
 by_cases e:u=t
 ·subst e
  simp only[if_true];exact⟨by rw[has_del_same];rfl,fun c' h z=>by cases h⟩
 ·have hne:keyL (pad u)≠keyL (pad t):=fun h=>e (kl_inj hu ht h)
  simp only[if_neg e];exact⟨by rw[has_del_other hne];exact (h.1 u hu).1,fun c' h' z=>by rw[atKey_del_other hne];exact (h.1 u hu).2 c' h' z⟩
def rightB (k:Int):Bool:=decide (1≤k∧k≤2147483648)
def inB (a k:Int):Bool:=decide ((1≤k∧k≤2147483648)∧0≤a∧a≤k)
theorem right_any (k:Int)(w:World):Calls Tryz.prog 95 #[.int .i64 k] w fun e w'=>e = .returned (.bool (rightB k))∧w=w':=by
 by_cases h1:1≤k
 ·have e:rightB k=decide (k≤2147483648):=by unfold rightB;simp[h1]
  rw[e];clear e
  go_enter Tryz.func95,Tryz.ntmps95
  go_wp2
  go_ret;exact⟨rfl,rfl⟩
 ·have e:rightB k=false:=decide_eq_false fun h=>h1 h.1
  rw[e];clear e
  go_enter Tryz.func95,Tryz.ntmps95
  go_wp2
  go_ret;exact⟨rfl,rfl⟩
theorem in_any (a k:Int)(w:World):Calls Tryz.prog 119 #[.int .i64 a,.int .i64 k] w fun e w'=>e = .returned (.bool (inB a k))∧w=w':=by
 have hr:=right_any k w;by_cases hk:1≤k∧k≤2147483648
 ·rw[show rightB k=true from decide_eq_true hk]at hr
  by_cases h0:0≤a
  ·have e:inB a k=decide (a≤k):=by unfold inB;simp[hk,h0]
   rw[e];clear e hk
   go_enter Tryz.func119,Tryz.ntmps119
   go_wp2_with (go_at_call 95;refine hr.mono ?_;rintro e w' ⟨rfl,rfl⟩)
   go_ret;exact⟨rfl,rfl⟩
  ·have e:inB a k=false:=decide_eq_false fun h=>h0 h.2.1
   rw[e];clear e hk
   go_enter Tryz.func119,Tryz.ntmps119
   go_wp2_with (go_at_call 95;refine hr.mono ?_;rintro e w' ⟨rfl,rfl⟩)
   go_ret;exact⟨rfl,rfl⟩
 ·rw[show rightB k=false from decide_eq_false hk]at hr
  have e:inB a k=false:=decide_eq_false fun h=>hk h.1
  rw[e];clear e hk
  go_enter Tryz.func119,Tryz.ntmps119
  go_wp2_with (go_at_call 95;refine hr.mono ?_;rintro e w' ⟨rfl,rfl⟩)
  go_ret;exact⟨rfl,rfl⟩
theorem add_ok (a b k:Int)(w:World)(h1:inB a k=true)(h2:inB b k=true):Calls Tryz.prog 59 #[.int .i64 a,.int .i64 b,.int .i64 k] w fun e w'=>e = .returned (.tuple #[.int .i64 (min (a+b) k),.int .i64 0])∧w=w':=by
 have i1:=in_any a k w;have i2:=in_any b k w;rw[h1]at i1;rw[h2]at i2;unfold inB at h1 h2;rw[decide_eq_true_eq]at h1 h2;obtain⟨⟨k1,k2⟩,a1,a2⟩:=h1;obtain⟨_,b1,b2⟩:=h2
 go_enter Tryz.func59,Tryz.ntmps59
 go_wp2_with (go_at_call 119;first | ((with_reducible refine i1.mono ?_);rintro e w' ⟨rfl,rfl⟩) | ((with_reducible refine i2.mono ?_);rintro e w' ⟨rfl,rfl⟩))
 go_ret2;exact⟨rfl,rfl⟩
structure TpH where
 sizes:List Int
 k:Int
 other:Int
 f:List Int→Option Int
def TpV (w:World)(g:Nat)(F:Nat→Prop)(n:Nat)(T:TpH):Prop :=
 F g∧∃A c mb D,Blk w g 103 #[.slice A T.sizes.length c,.int .i64 T.k,.int .i64 T.other,.map (some mb)] ∧
  w.ownsRow 0 3 1 (.slice A T.sizes.length c) T.sizes.length (nums T.sizes)∧(∀k,(Value.slice A T.sizes.length c).ownBlock=some k→F k) ∧
  w.ownsMap Tryz.prog 166 (plainElem Tryz.prog 2) mb n D∧F mb∧TD D T.sizes.length T.f
def okT (T:TpH):Prop:=T.sizes.length≤6∧(∀k∈T.sizes,1≤k∧k≤32)∧inB T.other T.k=true
theorem TpV.keep {w w':World}{g n:Nat}{F S:Nat→Prop}{T:TpH}(h:TpV w g F n T)(ht:Tch w w' S)(hs:∀k,F k→¬ S k):TpV w' g F n T:=by
 obtain⟨hg,A,c,mb,D,hb,ho,hf,hm,hmb,hd⟩:=h;exact⟨hg,A,c,mb,D,ht.blk hb (hs _ hg),ht.own ho (fun k hk=>hs k (hf k hk)),hf,map_tch hm ht (hs _ hmb),hmb,hd⟩
theorem TpV.mono {w:World}{g n:Nat}{F F':Nat→Prop}{T:TpH}(h:TpV w g F n T)(hf':∀k,F k→F' k):TpV w g F' n T:=by
 obtain⟨hg,A,c,mb,D,hb,ho,hf,hm,hmb,hd⟩:=h;exact⟨hf' _ hg,A,c,mb,D,hb,ho,fun k hk=>hf' k (hf k hk),hm,hf' _ hmb,hd⟩
def NewR (w:World)(xs:List Int)(k other:Int)(e:Ending)(w':World):Prop :=
 ∃g,e = .returned (.tuple #[.pointer (some ⟨g,0,none⟩),.int .i64 0])∧TpV w' g (fun b=>w.heap.size≤b) 0 ⟨xs,k,other,fun _=>none⟩∧Below w.heap.size w w'
set_option maxHeartbeats 4000000 in
theorem tnew_any (A:Option Addr)(n cap:Nat)(xs:List Int)(k other:Int)(w:World)(hn:n≤6)(hr:Reads w w.heap.size 1 A n (nums xs))(h1:∀k∈xs,1≤k∧k≤32)(h2:inB other k=true) :
 Calls Tryz.prog 62 #[.slice A n cap,.int .i64 k,.int .i64 other] w fun e w'=>NewR w xs k other e w':=by
 have hl:=nums_len hr;have hmm:=@run_makeMap Tryz.prog;have hc:=contains_fn A n cap xs w (by unfold maxLen;omega) hr
 rw[show anyBad xs=false from by
  unfold anyBad;rw[List.any_eq_false];intro x hx;have:=h1 x hx;unfold badS;rw[decide_eq_true_eq];omega]at hc
 have hi:=in_any other k w;rw[h2]at hi;have hcl:=clone_any A n cap xs w (by omega) hr;subst hl
 go_enter Tryz.func62,Tryz.ntmps62
 go_wp2_with fail;refine hc.mono ?_;rintro e w1 ⟨rfl,rfl⟩;clear hc;go_wp2_with fail;refine hi.mono ?_;rintro e w1 ⟨rfl,rfl⟩;clear hi;go_wp2_with fail;refine hcl.mono ?_;rintro e w1 ⟨A1,c1,rfl,ho,hb⟩;clear hcl;go_wp2_with fail;go_ret2;have ho2:=(ho.alloc (.map #[] 0)).alloc (.cells #[.slice A1 xs.length c1,.int .i64 k,.int .i64 other,.map (some w1.heap.size)] 103);have hsz:=hb.size;refine⟨w1.heap.size+1,rfl,⟨by omega,A1,c1,w1.heap.size,.map [],?_,own_base ho2 (Nat.zero_le _),fun q hq=>(own_in ho hq).1,(World.ownsMap_made _ _ _ _).alloc _,hsz,td_empty _⟩,bnew (bnew hb _) _⟩;have:=Blk.new (w1.alloc (.map #[] 0)) 103 #[.slice A1 xs.length c1,.int .i64 k,.int .i64 other,.map (some w1.heap.size)];rw[show (w1.alloc (.map #[] 0)).heap.size=w1.heap.size+1 by simp]at this;exact this
def InS (sizes t:List Int):Prop:=t.length=sizes.length∧∀ (i:Nat) (v k:Int),t[i]?=some v→sizes[i]?=some k→0≤v∧v<k
theorem InS.tpl {sizes t:List Int}(h:InS sizes t)(h6:sizes.length≤6)(hs:∀k∈sizes,1≤k∧k≤32):Tpl_ sizes.length t:=by
 refine⟨h.1,h6,fun v hv=>?_⟩;obtain⟨i,hi⟩:=List.mem_iff_getElem?.1 hv;have hl:=(List.getElem?_eq_some_iff.1 hi).1;have hk:sizes[i]?=some (sizes[i]'(by rw[← h.1];exact hl)):=List.getElem?_eq_getElem _;have:=h.2 i v _ hi hk;have:=hs _ (List.mem_of_getElem? hk);omega
def k8 (l:List Int):List Value:=l.map (Value.int .i8)
theorem pad_step {t:List Int}{j:Nat}{v:Int}(hv:t[j]?=some v)(h6:t.length≤6):(k8 (pad (t.take j))).set j (.int .i8 v)=k8 (pad (t.take (j+1))):=by
 have hl:=(List.getElem?_eq_some_iff.1 hv).1;have e1:(t.take j).length=j:=by rw[List.length_take];omega
 have e2:(t.take (j+1)).length=j+1:=by rw[List.length_take];omega
 unfold pad k8;rw[e1,e2,List.take_add_one,hv];obtain⟨m,hm⟩:∃m,6-j=m+1:=⟨6-j-1,by omega⟩;rw[hm,show 6-(j+1)=m by omega,List.replicate_succ,show (Value.int .i8 v)=(Value.int .i8) v from rfl,← List.map_set,List.set_append_right _ _ (by omega),e1,Nat.sub_self];simp
theorem six {c:List Int}(h:c.length=6):∃a0 a1 a2 a3 a4 a5,c = [a0,a1,a2,a3,a4,a5]:=by
 match c,h with
 | [a0,a1,a2,a3,a4,a5],_=>exact⟨a0,a1,a2,a3,a4,a5,rfl⟩
theorem Blk.six {w:World}{g:Nat}{t:TypeId}{a b c d e f:Value}(h:Blk w g t #[a,b,c,d,e,f]):w.cell? ⟨g,0,none⟩=some a∧w.cell? ⟨g,1,none⟩=some b∧w.cell? ⟨g,2,none⟩=some c∧w.cell? ⟨g,3,none⟩=some d∧w.cell? ⟨g,4,none⟩=some e∧w.cell? ⟨g,5,none⟩=some f ∧
 w.frozen? ⟨g,0,none⟩=false∧w.frozen? ⟨g,1,none⟩=false∧w.frozen? ⟨g,2,none⟩=false∧w.frozen? ⟨g,3,none⟩=false∧w.frozen? ⟨g,4,none⟩=false∧w.frozen? ⟨g,5,none⟩=false :=
 ⟨h.cell 0,h.cell 1,h.cell 2,h.cell 3,h.cell 4,h.cell 5,h.frozen 0,h.frozen 1,h.frozen 2,h.frozen 3,h.frozen 4,h.frozen 5⟩
set_option maxRecDepth 100000 in
set_option maxHeartbeats 8000000 in
theorem tkey_any {w:World}{g n:Nat}{F:Nat→Prop}{T:TpH}(hT:TpV w g F n T)(h6:T.sizes.length≤6)(hs:∀k∈T.sizes,1≤k∧k≤32)(A:Option Addr)(m cap:Nat)(t:List Int)(hr:Reads w w.heap.size 1 A m (nums t))(hin:InS T.sizes t) :
 Calls Tryz.prog 127 #[.pointer (some ⟨g,0,none⟩),.slice A m cap] w fun e w'=>e = .returned (.tuple #[keyV (pad t),.int .i64 0])∧Below w.heap.size w w':=by
 have hl:=nums_len hr;subst hl;obtain⟨hFg,SA,sc,mb,D,hb,ho,hf,hm,hmb,hd⟩:=hT;have ht:=hin.tpl h6 hs;have hgl:=Blk.lt hb;have hS:=Reads.of_own ho;have HIN:=Hd hin;have HB:=Hd hb;have HT:=Hd ht;have hq:=(Blk.four (t:=103) hb).1;have HLEN:=Hd hin.1;have h6':t.length≤6:=by have:=hin.1;omega
 have hln:decide ((t.length:Int)=(T.sizes.length:Int))=true:=decide_eq_true (by have:=hin.1;omega);have hlz:(t.length:Int)=(T.sizes.length:Int):=by have:=hin.1;omega
 clear hFg hb ho hf hm hmb hd ht hin hln
 go_enter Tryz.func127,Tryz.ntmps127
 go_wp2_with fail;rw[← hlz];clear hlz;have hB:=bnew (bone w (.cells #[.int .i8 0,.int .i8 0,.int .i8 0,.int .i8 0,.int .i8 0,.int .i8 0] 166)) (.cells #[.int .i8 0,.int .i8 0,.int .i8 0,.int .i8 0,.int .i8 0,.int .i8 0] 166)
 have hx0:Blk ((w.alloc (.cells #[.int .i8 0,.int .i8 0,.int .i8 0,.int .i8 0,.int .i8 0,.int .i8 0] 166)).alloc (.cells #[.int .i8 0,.int .i8 0,.int .i8 0,.int .i8 0,.int .i8 0,.int .i8 0] 166)) (w.heap.size+1) 166 (k8 (pad (t.take 0))).toArray:=by
  have:=Blk.new (w.alloc (.cells #[.int .i8 0,.int .i8 0,.int .i8 0,.int .i8 0,.int .i8 0,.int .i8 0] 166)) 166 #[.int .i8 0,.int .i8 0,.int .i8 0,.int .i8 0,.int .i8 0,.int .i8 0];rw[show (w.alloc (.cells #[.int .i8 0,.int .i8 0,.int .i8 0,.int .i8 0,.int .i8 0,.int .i8 0] 166)).heap.size=w.heap.size+1 by simp]at this;exact this
 have hr0:Blk ((w.alloc (.cells #[.int .i8 0,.int .i8 0,.int .i8 0,.int .i8 0,.int .i8 0,.int .i8 0] 166)).alloc (.cells #[.int .i8 0,.int .i8 0,.int .i8 0,.int .i8 0,.int .i8 0,.int .i8 0] 166)) w.heap.size 166 #[.int .i8 0,.int .i8 0,.int .i8 0,.int .i8 0,.int .i8 0,.int .i8 0]:=(Blk.new w _ _).alloc _;obtain⟨B,hBs⟩:∃B,w.heap.size=B:=⟨_,rfl⟩;rw[hBs]at hx0 hr0 ⊢;have HBS:=Hd hBs;have HHB:=Hd hB;have HHR:=Hd hr;have HHS:=Hd hS;clear hB hBs hr hS
 go_loopw [7,8,23] (fun _ _ jv wr => ∃j:Nat,jv = .int .i64 j∧j≤t.length∧Blk wr (B+1) 166 (k8 (pad (t.take j))).toArray∧Blk wr B 166 #[.int .i8 0,.int .i8 0,.int .i8 0,.int .i8 0,.int .i8 0,.int .i8 0]∧Below w.heap.size w wr) (fun _ _ jv _=>t.length-(intOf jv).toNat)
 case atStart=>exact⟨0,rfl,Nat.zero_le _,hx0,hr0,HHB.out⟩
 case round =>
  clear hx0 hr0;obtain⟨j,rfl,hj,hx,hrb,hbw⟩:=hrel;by_cases hlt:j<t.length
  ·obtain⟨ad,v,rfl,_,hv,hc⟩:=(HHR.out.below hbw).num hlt
   obtain⟨ad2,k,rfl,_,hk,hc2⟩:=(HHS.out.below hbw).num (k:=j) (by have:=HLEN.out;omega);obtain⟨v0,v1⟩:=HIN.out.2 j v k hv hk;have hk32:=(hs k (List.mem_of_getElem? hk)).2;have hq2:wr.cell? ⟨g,0,none⟩=some (.slice (some ad2) T.sizes.length sc):=by rw[(bcell hbw).1 g 0 hgl];exact hq
   have hjl:(j:Int)<(T.sizes.length:Int):=by have:=HLEN.out;omega
   have hw8:IntKind.i8.wrap v=v:=by simp[IntKind.wrap,IntKind.signed,IntKind.bits];omega
   have hge:¬ (k≤v):=by omega
   obtain⟨u,hu⟩:∃u,(k8 (pad (t.take j)))[j]?=some u:=⟨_,List.getElem?_eq_getElem (by
    have e1:(t.take j).length=j:=by rw[List.length_take];omega
    simp only[k8,pad,List.length_map,List.length_append,List.length_replicate,e1];omega)⟩
   have hcj:wr.cell? ⟨B+1,j,none⟩=some u:=(Blk.cell hx j).trans (by simpa using hu);have hfj:=Blk.frozen hx j;have HPS:=Hd (pad_step hv h6');have HX:=Hd hx;have HRB:=Hd hrb;have HBW:=Hd hbw;have hj6:(j:Int)<6:=by omega
   clear hv hk hx hrb hbw hu hq;go_wp2_with fail;go_roundw
   case measure=>simp[intOf];omega
   case rel =>
    refine⟨j+1,by go_num,by omega,?_,(Blk.far HRB.out (p:=⟨B+1,j,none⟩) (by simp) _),HBW.out.setCell (p:=⟨B+1,j,none⟩) (by have:=HBS.out;simp;omega) _⟩;have:=HX.out.set_ j (.int .i8 v);rw[← HPS.out]
    simpa using this
  ·obtain rfl:j=t.length:=by omega
   rw[List.take_of_length_le (Nat.le_refl _)]at hx;obtain⟨a0,a1,a2,a3,a4,a5,hpd⟩:=six (HT.out.pad.1);rw[hpd]at hx;have HPD:=Hd hpd;obtain⟨x0,x1,x2,x3,x4,x5,-⟩:=Blk.six (t:=166) (show Blk wr (B+1) 166 #[.int .i8 a0,.int .i8 a1,.int .i8 a2,.int .i8 a3,.int .i8 a4,.int .i8 a5] from hx);obtain⟨r0,r1,r2,r3,r4,r5,rf0,rf1,rf2,rf3,rf4,rf5⟩:=Blk.six (t:=166) hrb;have HRB:=Hd hrb;have HBW:=Hd hbw;clear hpd hx hrb hbw hq;go_wp2_with fail;obtain⟨wf,hwf⟩:∃wf,(((((wr.setCell ⟨B,0,none⟩ (.int .i8 a0)).setCell ⟨B,1,none⟩ (.int .i8 a1)).setCell ⟨B,2,none⟩ (.int .i8 a2)).setCell ⟨B,3,none⟩ (.int .i8 a3)).setCell ⟨B,4,none⟩ (.int .i8 a4)).setCell ⟨B,5,none⟩ (.int .i8 a5)=wf:=⟨_,rfl⟩;have hfb:Blk wf B 166 #[.int .i8 a0,.int .i8 a1,.int .i8 a2,.int .i8 a3,.int .i8 a4,.int .i8 a5]:=by rw[← hwf];exact ((((((HRB.out.set_ 0 _).set_ 1 _).set_ 2 _).set_ 3 _).set_ 4 _).set_ 5 _)
   have hfw:Below w.heap.size w wf:=by
    have hh:=HBS.out;rw[← hwf,← hh];exact (((((HBW.out.setCell (p:=⟨w.heap.size,0,none⟩) (Nat.le_refl _) _).setCell (p:=⟨w.heap.size,1,none⟩) (Nat.le_refl _) _).setCell (p:=⟨w.heap.size,2,none⟩) (Nat.le_refl _) _).setCell (p:=⟨w.heap.size,3,none⟩) (Nat.le_refl _) _).setCell (p:=⟨w.heap.size,4,none⟩) (Nat.le_refl _) _).setCell (p:=⟨w.heap.size,5,none⟩) (Nat.le_refl _) _
   rw[hwf];obtain⟨k0,k1,k2,k3,k4,k5,-⟩:=Blk.six (t:=166) hfb;refine bodyPost_ret (v := .tuple #[.agg #[.int .i8 a0,.int .i8 a1,.int .i8 a2,.int .i8 a3,.int .i8 a4,.int .i8 a5],.int .i64 0]) (by simp[results,Tryz.results127,go_sem,k0,k1,k2,k3,k4,k5]) rfl ⟨by rw[HPD.out];rfl,hfw⟩
def putF (T:TpH)(t:List Int)(c:Int):TpH:={ T with f:=if c=T.other then (fun u=>if u=t then none else T.f u) else (fun u=>if u=t then some c else T.f u) }
set_option maxRecDepth 100000 in
set_option maxHeartbeats 8000000 in
theorem tput_any {w:World}{g n:Nat}{F:Nat→Prop}{T:TpH}(hT:TpV w g F n T)(hok:okT T)(A:Option Addr)(m cap:Nat)(t:List Int)(c:Int)(hr:Reads w w.heap.size 1 A m (nums t))(hin:InS T.sizes t)(hc:inB c T.k=true)(hn:n≤1000000) :
 Calls Tryz.prog 65 #[.pointer (some ⟨g,0,none⟩),.slice A m cap,.int .i64 c] w fun e w'=>e = .returned (.int .i64 0)∧TpV w' g F (n+1) (putF T t c)∧Tch w w' (fun k=>F k∧∀t cs,¬ Blk w k t cs):=by
 obtain⟨h6,hs,ho⟩:=hok;have hk:=tkey_any hT h6 hs A m cap t hr hin;have hT0:=Hd hT;obtain⟨hFg,SA,sc,mb,D,hb,hown,hf,hm,hmb,hd⟩:=hT;have ht:=hin.tpl h6 hs;obtain⟨a0,a1,a2,a3,a4,a5,hpd⟩:=six ht.pad.1;rw[hpd]at hk
 have hkey:keyOf Tryz.prog 166 (.agg #[.int .i8 a0,.int .i8 a1,.int .i8 a2,.int .i8 a3,.int .i8 a4,.int .i8 a5])=some (keyL (pad t)):=by
  have:=keyOf6 ht.pad.1 ht.pad.2;rw[hpd]at this ⊢;exact this
 have hi:=in_any c T.k;rw[hc]at hi
 have hcw:(Lit.int .i64 c).wf=true:=by
  unfold inB at hc;rw[decide_eq_true_eq]at hc;exact WalkArith.wf_i64 (by omega)
 have HB:=Hd hb;have HOWN:=Hd hown;have HF:=Hd hf;have HM:=Hd hm;have HMB:=Hd hmb;have HD:=Hd hd;have HT:=Hd ht;have HFG:=Hd hFg;clear hFg hb hown hf hm hmb hd ht hpd hr hin hc h6 hs ho
 go_enter Tryz.func65,Tryz.ntmps65
 go_wp2_with fail;refine hk.mono ?_;rintro e w1 ⟨rfl,hb1⟩;clear hk;rw[show keyV [a0,a1,a2,a3,a4,a5] = .agg #[.int .i8 a0,.int .i8 a1,.int .i8 a2,.int .i8 a3,.int .i8 a4,.int .i8 a5] from rfl];have hB2:=bto hb1 (bone w1 (.cells #[.int .i8 a0,.int .i8 a1,.int .i8 a2,.int .i8 a3,.int .i8 a4,.int .i8 a5] 166));have hx2:Blk (w1.alloc (.cells #[.int .i8 a0,.int .i8 a1,.int .i8 a2,.int .i8 a3,.int .i8 a4,.int .i8 a5] 166)) w1.heap.size 166 #[.int .i8 a0,.int .i8 a1,.int .i8 a2,.int .i8 a3,.int .i8 a4,.int .i8 a5]:=Blk.new _ _ _;have hb2:=Blk.under HB.out hB2;obtain⟨q0,q1,q2,q3,-⟩:=Blk.four (t:=103) hb2;obtain⟨x0,x1,x2,x3,x4,x5,-⟩:=Blk.six (t:=166) hx2;have hi2:=hi (w1.alloc (.cells #[.int .i8 a0,.int .i8 a1,.int .i8 a2,.int .i8 a3,.int .i8 a4,.int .i8 a5] 166));obtain⟨w2,hw2⟩:∃w2,w1.alloc (.cells #[.int .i8 a0,.int .i8 a1,.int .i8 a2,.int .i8 a3,.int .i8 a4,.int .i8 a5] 166)=w2:=⟨_,rfl⟩;rw[hw2]at q0 q1 q2 q3 x0 x1 x2 x3 x4 x5 hi2 hB2 hb2;have HB2:=Hd hB2;have hm2:w2.ownsMap Tryz.prog 166 (plainElem Tryz.prog 2) mb n D:=map_tch HM.out (Tch.of_below hB2 (fun _=>False)) id;have HM2:=Hd hm2;clear hB2 hb2 hx2 hi hm2 hb1
 have hdone:∀ (w3:World) (N:Nat) (D':DataW Unit) (f':List Int→Option Int),w3.ownsMap Tryz.prog 166 (plainElem Tryz.prog 2) mb N D'→N≤n+1→w2.drew.grownBy w3 (some mb)→TD D' T.sizes.length f'→TpV w3 g F (n+1) { T with f:=f' }∧Tch w w3 (fun k=>F k∧∀t cs,¬ Blk w k t cs):=fun w3 N D' f' h1 hN h2 h3=>by
  have t2:Tch w2 w3 (fun k=>k=mb):=((Tch.refl w2 (fun k=>k=mb)).drew).trans (Tch.of_grown h2 (S:=fun k=>k=mb) fun q _ hq=>Option.some.inj hq) fun _ _ h=>h
  have t1:Tch w w3 (fun k=>k=mb):=(Tch.of_below HB2.out (fun k=>k=mb)).trans t2 fun _ _ h=>h
  have hne:∀cs t,¬ Blk w mb t cs:=fun cs t hb=>by
   obtain⟨es,clock,hh,_⟩:=HM.out;unfold Blk at hb;rw[hb]at hh;cases hh
  refine⟨⟨HFG.out,SA,sc,mb,D',t1.blk HB.out (fun e=>hne _ _ (by rw[← e];exact HB.out)),own_off HOWN.out t1 (fun k hk => .inr fun cs hb=>hne cs _ (by rw[← hk];exact hb)),HF.out,h1.mono hN,HMB.out,h3⟩,t1.mono fun k _ e=>by rw[e];exact⟨HMB.out,fun t cs=>hne cs t⟩⟩
 have HDONE:=Hd hdone;clear hdone;go_wp2_with fail;refine hi2.mono ?_;rintro e w3 ⟨rfl,rfl⟩;clear hi2;by_cases hco:c=T.other
 ·have HCO:=Hd hco
  go_upto_region 8 with fail;clear hco hw2
  go_still_tail 5,(by kernel_rfl)
  change wpList _ _ _ _ _ w2.drew
  obtain⟨wd,hwd⟩:∃wd,w2.drew=wd:=⟨_,rfl⟩;have HD2:=HDONE.out;have hmd:=HM2.out.drew;rw[hwd]at HD2 hmd ⊢;have HD3:=Hd HD2;clear HD2 hwd
  go_wp2_with (first
   |(at_delete;refine wpList_delete_own _ rfl _ _ 101 166 rfl _ keyed6 Tryz.underlying101 _ mb n D rfl hmd _ (keyL (pad t)) rfl hkey ?_;intro w4 hown4 hturn4;have HO4:=Hd hown4;have HT4:=Hd hturn4;clear hown4 hturn4)
   |fail)
  go_ret;obtain⟨h1,h2⟩:=HD3.out w4 n _ (fun u=>if u=t then none else T.f u) HO4.out (by omega) HT4.out.grown (td_del HD.out HT.out);exact⟨rfl,by unfold putF;rw[if_pos HCO.out];exact h1,h2⟩
 ·have HCO:=Hd hco
  go_upto_region 2 with fail;clear hw2 hco
  go_still_tail 6,(by kernel_rfl)
  change wpList _ _ _ _ _ w2.drew
  obtain⟨wd,hwd⟩:∃wd,w2.drew=wd:=⟨_,rfl⟩;have HD2:=HDONE.out;have hmd:=HM2.out.drew;rw[hwd]at HD2 hmd ⊢;have HD3:=Hd HD2;clear HD2 hwd
  go_wp2_with (first
   |(at_mapUpdate;refine wpList_mapUpdate_own _ rfl _ _ _ 101 rfl 166 2 keyed6 Tryz.underlying101 _ mb n D rfl hmd (by simp only[maxLen];omega) _ _ (keyL (pad t)) rfl rfl hkey _ [] (plainElem_int Tryz.underlying2 hcw) ?_;intro w4 hown4 hgrow4;have HO4:=Hd hown4;have HG4:=Hd hgrow4;clear hown4 hgrow4)
   |fail)
  go_ret;obtain⟨h1,h2⟩:=HD3.out w4 (n+1) _ (fun u=>if u=t then some c else T.f u) HO4.out (Nat.le_refl _) HG4.out (td_put HD.out HM2.out.isMap HT.out);exact⟨rfl,by unfold putF;rw[if_neg HCO.out];exact h1,h2⟩
def TpH.get (T:TpH)(t:List Int):Int:=(T.f t).getD T.other
theorem zero64 (w:World):(zeroValue 2).run Tryz.prog w = .ok (.int .i64 0) w:=by kernel_rfl
set_option maxRecDepth 100000 in
set_option maxHeartbeats 8000000 in
theorem tget_any {w:World}{g n:Nat}{F:Nat→Prop}{T:TpH}(hT:TpV w g F n T)(h6:T.sizes.length≤6)(hs:∀k∈T.sizes,1≤k∧k≤32)(A:Option Addr)(m cap:Nat)(t:List Int)(hr:Reads w w.heap.size 1 A m (nums t))(hin:InS T.sizes t) :
 Calls Tryz.prog 58 #[.pointer (some ⟨g,0,none⟩),.slice A m cap] w fun e w'=>e = .returned (.tuple #[.int .i64 (T.get t),.int .i64 0])∧Below w.heap.size w w':=by
 have hk:=tkey_any hT h6 hs A m cap t hr hin;obtain⟨hFg,SA,sc,mb,D,hb,hown,hf,hm,hmb,hd⟩:=hT;have ht:=hin.tpl h6 hs;obtain⟨a0,a1,a2,a3,a4,a5,hpd⟩:=six ht.pad.1;rw[hpd]at hk
 have hkey:keyOf Tryz.prog 166 (.agg #[.int .i8 a0,.int .i8 a1,.int .i8 a2,.int .i8 a3,.int .i8 a4,.int .i8 a5])=some (keyL (pad t)):=by
  have:=keyOf6 ht.pad.1 ht.pad.2;rw[hpd]at this ⊢;exact this
 obtain⟨hd1,hd2⟩:=hd.1 t ht;have HB:=Hd hb;have HM:=Hd hm;clear hFg hb hown hf hm hmb hd ht hpd hr hin h6 hs
 go_enter Tryz.func58,Tryz.ntmps58
 go_wp2_with fail;refine hk.mono ?_;rintro e w1 ⟨rfl,hb1⟩;clear hk;rw[show keyV [a0,a1,a2,a3,a4,a5] = .agg #[.int .i8 a0,.int .i8 a1,.int .i8 a2,.int .i8 a3,.int .i8 a4,.int .i8 a5] from rfl];have hB2:=bto hb1 (bone w1 (.cells #[.int .i8 a0,.int .i8 a1,.int .i8 a2,.int .i8 a3,.int .i8 a4,.int .i8 a5] 166));have hx2:Blk (w1.alloc (.cells #[.int .i8 a0,.int .i8 a1,.int .i8 a2,.int .i8 a3,.int .i8 a4,.int .i8 a5] 166)) w1.heap.size 166 #[.int .i8 a0,.int .i8 a1,.int .i8 a2,.int .i8 a3,.int .i8 a4,.int .i8 a5]:=Blk.new _ _ _;have hb2:=Blk.under HB.out hB2;obtain⟨q0,q1,q2,q3,-⟩:=Blk.four (t:=103) hb2;obtain⟨x0,x1,x2,x3,x4,x5,-⟩:=Blk.six (t:=166) hx2;obtain⟨w2,hw2⟩:∃w2,w1.alloc (.cells #[.int .i8 a0,.int .i8 a1,.int .i8 a2,.int .i8 a3,.int .i8 a4,.int .i8 a5] 166)=w2:=⟨_,rfl⟩;rw[hw2]at q0 q1 q2 q3 x0 x1 x2 x3 x4 x5 hB2 hb2;have HB2:=Hd hB2;have hm2:w2.ownsMap Tryz.prog 166 (plainElem Tryz.prog 2) mb n D:=map_tch HM.out (Tch.of_below hB2 (fun _=>False)) id
 obtain⟨c0,hrun,hat,_⟩:∃c0,(∀k,(Instr.lookup 101 (.map (some mb)) (.agg #[.int .i8 a0,.int .i8 a1,.int .i8 a2,.int .i8 a3,.int .i8 a4,.int .i8 a5]) true).run Tryz.prog (w2.drewN k) = .ok (.tuple #[.int .i64 c0,.bool (Maps.has D (keyL (pad t)))]) (w2.drewN k))∧D.atKey (keyL (pad t)) (.lit (.int .i64 0)) = .lit (.int .i64 c0)∧True:=by
  have hone:∀k,∃c0,(Instr.lookup 101 (.map (some mb)) (.agg #[.int .i8 a0,.int .i8 a1,.int .i8 a2,.int .i8 a3,.int .i8 a4,.int .i8 a5]) true).run Tryz.prog (w2.drewN k) = .ok (.tuple #[.int .i64 c0,.bool (Maps.has D (keyL (pad t)))]) (w2.drewN k)∧D.atKey (keyL (pad t)) (.lit (.int .i64 0)) = .lit (.int .i64 c0):=fun k=>by
   have hm3:(w2.drewN k).ownsMap Tryz.prog 166 (plainElem Tryz.prog 2) mb n D:=hm2;obtain⟨v,ps,h1,h2⟩:=hm3.look_ok keyed6 Tryz.underlying101 (zero64 _) (zd := .lit (.int .i64 0)) (zp := []) (plainElem_int Tryz.underlying2 (by decide)) hkey;obtain⟨c0,rfl,hc,_⟩:=plainElem_int_inv Tryz.underlying2 h2;exact⟨c0,h1,congrArg Prod.fst hc⟩
  obtain⟨c0,_,h0⟩:=hone 0;refine⟨c0,fun k=>?_,h0,trivial⟩;obtain⟨c1,h1,h2⟩:=hone k;rw[h0]at h2;injection h2 with h2
  injection h2 with _ h2
  rw[h2];exact h1
 rw[hd1]at hrun;clear hB2 hb2 hx2 hm2 hb1 hkey;go_upto_region 4 with fail;clear hw2
 cases hf:T.f t with
 | none =>
   rw[hf]at hrun;have HG:Hid (T.get t=T.other):=by unfold TpH.get;rw[hf];rfl
   clear hat hd2 hf
   go_quiet (fail)
   go_wp2
   go_ret2
   exact⟨by rw[HG.out];rfl,below_drewN HB2.out _⟩
 | some c =>
   rw[hf]at hrun;have hc:=hd2 c hf (.lit (.int .i64 0));rw[hat]at hc;injection hc with hc
   injection hc with _ hc
   subst hc;have HG:Hid (T.get t=c0):=by unfold TpH.get;rw[hf];rfl
   clear hat hd2 hf
   go_quiet (fail)
   go_wp2
   go_ret2;exact⟨by rw[HG.out];rfl,below_drewN HB2.out _⟩
variable {w:World} {g n:Nat} {F:Nat→Prop} {T:TpH}
theorem tk_any (hT:TpV w g F n T):Calls Tryz.prog 64 #[.pointer (some ⟨g,0,none⟩)] w fun e w'=>e = .returned (.int .i64 T.k)∧w=w':=by
 obtain⟨hFg,SA,sc,mb,D,hb,hown,hf,hm,hmb,hd⟩:=hT;obtain⟨q0,q1,q2,q3,-⟩:=Blk.four (t:=103) hb;clear hFg hb hown hf hm hmb hd
 go_enter Tryz.func64,Tryz.ntmps64
 go_wp2
 go_ret;exact⟨rfl,rfl⟩
theorem tother_any (hT:TpV w g F n T):Calls Tryz.prog 15 #[.pointer (some ⟨g,0,none⟩)] w fun e w'=>e = .returned (.int .i64 T.other)∧w=w':=by
 obtain⟨hFg,SA,sc,mb,D,hb,hown,hf,hm,hmb,hd⟩:=hT;obtain⟨q0,q1,q2,q3,-⟩:=Blk.four (t:=103) hb;clear hFg hb hown hf hm hmb hd
 go_enter Tryz.func15,Tryz.ntmps15
 go_wp2
 go_ret;exact⟨rfl,rfl⟩
theorem tsizes_any (hT:TpV w g F n T)(h6:T.sizes.length≤6):Calls Tryz.prog 63 #[.pointer (some ⟨g,0,none⟩)] w fun e w'=>Copied w T.sizes e w':=by
 obtain⟨hFg,SA,sc,mb,D,hb,hown,hf,hm,hmb,hd⟩:=hT;obtain⟨q0,q1,q2,q3,-⟩:=Blk.four (t:=103) hb;have hc:=clone_any SA T.sizes.length sc T.sizes w (by omega) (Reads.of_own hown);clear hFg hb hown hf hm hmb hd
 go_enter Tryz.func63,Tryz.ntmps63
 go_wp2_with fail;refine hc.mono ?_;rintro e w1 ⟨A,c,rfl,ho,hb⟩;clear hc;go_wp2_with fail;go_ret;exact⟨A,c,rfl,ho,hb⟩
theorem tarity_any (hT:TpV w g F n T)(h6:T.sizes.length≤6):Calls Tryz.prog 174 #[.pointer (some ⟨g,0,none⟩)] w fun e w'=>e = .returned (.int .i64 T.sizes.length)∧Below w.heap.size w w':=by
 have hc:=tsizes_any hT h6;clear hT
 go_enter Tryz.func174,Tryz.ntmps174
 go_wp2_with fail;refine hc.mono ?_;rintro e w1 ⟨A,c,rfl,ho,hb⟩;clear hc;go_wp2_with fail;go_ret;exact⟨rfl,hb⟩
theorem tlen_any (hT:TpV w g F n T):Calls Tryz.prog 14 #[.pointer (some ⟨g,0,none⟩)] w fun e w'=>(∃m:Nat,e = .returned (.int .i64 m)∧m≤n)∧w=w':=by
 obtain⟨hFg,SA,sc,mb,D,hb,hown,hf,hm,hmb,hd⟩:=hT;obtain⟨q0,q1,q2,q3,-⟩:=Blk.four (t:=103) hb;have hlen:=fun ty=>hm.len Tryz.underlying101 ty
 have hle:=hm.size_le;obtain⟨m,hmm⟩:∃m,Maps.size D=m:=⟨_,rfl⟩;rw[hmm]at hle hlen;clear hFg hb hown hf hm hmb hd
 go_enter Tryz.func14,Tryz.ntmps14
 go_wp2
 go_ret;exact⟨⟨m,rfl,hle⟩,rfl⟩
end Go.Proofs.YtjpkkkphhaajgaaGreatDoor.wcp
