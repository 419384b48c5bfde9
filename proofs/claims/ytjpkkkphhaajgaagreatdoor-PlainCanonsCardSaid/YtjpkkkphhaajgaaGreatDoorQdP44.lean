/- a part -/
import Derived.Test.YtjpkkkphhaajgaaGreatDoorQdP11
set_option linter.all false
namespace Go.Proofs.YtjpkkkphhaajgaaGreatDoor.wcp
open Go RowKit ChangeShapes WideShapes ChangeAt words scn
def QB (w:World)(gr:Nat)(lv:Value)(en ee bad badAt big bigAt told:Int)(sv:Value):Prop :=
 Blk w gr 173 #[lv,.int .i64 en,.int .i64 ee,.int .i64 bad,.int .i64 badAt,.int .i64 big,.int .i64 bigAt,.int .i64 told,sv]
variable {w:World} {gr:Nat} {lv sv:Value} {en ee bad badAt big bigAt told:Int}
theorem QB.cells (h:QB w gr lv en ee bad badAt big bigAt told sv):w.cell? ⟨gr,0,none⟩=some lv∧w.cell? ⟨gr,1,none⟩=some (.int .i64 en)∧w.cell? ⟨gr,2,none⟩=some (.int .i64 ee)∧w.cell? ⟨gr,3,none⟩=some (.int .i64 bad) ∧
 w.cell? ⟨gr,4,none⟩=some (.int .i64 badAt)∧w.cell? ⟨gr,5,none⟩=some (.int .i64 big)∧w.cell? ⟨gr,6,none⟩=some (.int .i64 bigAt)∧w.cell? ⟨gr,7,none⟩=some (.int .i64 told)∧w.cell? ⟨gr,8,none⟩=some sv∧∀i,w.frozen? ⟨gr,i,none⟩=false :=
 ⟨(Blk.cell h 0).trans rfl,(Blk.cell h 1).trans rfl,(Blk.cell h 2).trans rfl,(Blk.cell h 3).trans rfl,(Blk.cell h 4).trans rfl,(Blk.cell h 5).trans rfl,(Blk.cell h 6).trans rfl,(Blk.cell h 7).trans rfl,(Blk.cell h 8).trans rfl,fun i=>Blk.frozen h i⟩
theorem qwrong_any (h:QB w gr lv en ee bad badAt big bigAt told sv)(er x:Int):Calls Tryz.prog 91 #[.pointer (some ⟨gr,0,none⟩),.int .i64 er,.int .i64 x] w fun e w' =>
 (∃v,e = .returned v)∧((bad=0∧QB w' gr lv en ee er x big bigAt told sv)∨(bad≠0∧QB w' gr lv en ee bad badAt big bigAt told sv))∧Tch w w' fun k=>k=gr:=by
 obtain⟨c0,c1,c2,c3,c4,c5,c6,c7,c8,cf⟩:=h.cells;have f3:=cf 3;have f4:=cf 4;by_cases hb:bad=0
 ·subst hb
  have h2:=(h.set_ 3 (.int .i64 er)).set_ 4 (.int .i64 x);have H2:Hid (QB _ gr lv en ee er x big bigAt told sv):=h2;clear h2
  go_enter Tryz.func91,Tryz.ntmps91
  go_wp2
  go_end0
  exact⟨⟨_,rfl⟩,.inl ⟨by simp,H2.out⟩,tch2 _ _ _ _ _ _⟩
 ·have hbf:(bad==0)=false:=by simp[hb]
  have HB:=Hd hb;clear hb
  go_enter Tryz.func91,Tryz.ntmps91
  go_wp2
  go_end0
  exact⟨⟨_,rfl⟩,.inr ⟨HB.out,h⟩,Tch.refl _ _⟩
theorem qlarge_any (h:QB w gr lv en ee bad badAt big bigAt told sv)(is:Bool)(x:Int):Calls Tryz.prog 88 #[.pointer (some ⟨gr,0,none⟩),.bool is,.int .i64 x] w fun e w' =>
 (∃v,e = .returned v)∧((is=true∧big=0∧bad=0∧QB w' gr lv en ee bad badAt 5 x told sv)∨(¬ (is=true∧big=0∧bad=0)∧QB w' gr lv en ee bad badAt big bigAt told sv))∧Tch w w' fun k=>k=gr:=by
 obtain⟨c0,c1,c2,c3,c4,c5,c6,c7,c8,cf⟩:=h.cells;have f5:=cf 5;have f6:=cf 6
 cases is with
 | false =>
   go_enter Tryz.func88,Tryz.ntmps88
   go_wp2
   go_end0
   exact⟨⟨_,rfl⟩,.inr ⟨by simp,h⟩,Tch.refl _ _⟩
 | true =>
   by_cases hg:big=0
   ·subst hg
    by_cases hb:bad=0
    ·subst hb
     have H2:Hid (QB _ gr lv en ee 0 badAt 5 x told sv):=(h.set_ 5 (.int .i64 5)).set_ 6 (.int .i64 x)
     go_enter Tryz.func88,Tryz.ntmps88
     go_wp2
     go_end0
     exact⟨⟨_,rfl⟩,.inl ⟨by simp,by simp,by simp,H2.out⟩,tch2 _ _ _ _ _ _⟩
    ·have hbf:(bad==0)=false:=by simp[hb]
     have HB:=Hd hb;clear hb
     go_enter Tryz.func88,Tryz.ntmps88
     go_wp2
     go_end0
     exact⟨⟨_,rfl⟩,.inr ⟨fun h=>HB.out h.2.2,h⟩,Tch.refl _ _⟩
   ·have hgf:(big==0)=false:=by simp[hg]
    have HG:=Hd hg;clear hg
    go_enter Tryz.func88,Tryz.ntmps88
    go_wp2
    go_end0
    exact⟨⟨_,rfl⟩,.inr ⟨fun h=>HG.out h.2.1,h⟩,Tch.refl _ _⟩
end Go.Proofs.YtjpkkkphhaajgaaGreatDoor.wcp
namespace Go.Proofs.YtjpkkkphhaajgaaGreatDoor.wcp
open Go RowKit ChangeShapes WideShapes ChangeAt words scn
def WRow (w:World)(lv:Value)(l:List Wd):Prop :=
 (l.length≤1000000∧∀x∈l,x.1.length≤1000000)∧((l = []∧∃A c,lv = .slice A 0 c)∨∃ (full:List Wd) (p q c:Nat),l=full.drop p∧p<full.length∧lv = .slice (some ⟨q,p*2,none⟩) (full.length-p) (c-p)∧w.ownsRow 0 175 2 (.slice (some ⟨q,0,none⟩) full.length c) full.length (full.flatMap wv))
theorem WRow.tch {w w':World}{S:Nat→Prop}{lv:Value}{l:List Wd}(h:WRow w lv l)(ht:Tch w w' S)(hs:∀k,S k→∀cs,¬ Blk w k 175 cs):WRow w' lv l:=by
 obtain⟨hbd,h⟩:=h;refine⟨hbd,?_⟩;rcases h with h | ⟨full,p,q,c,h1,h2,h3,h4⟩
 ·exact .inl h
 ·exact .inr ⟨full,p,q,c,h1,h2,h3,own_off h4 ht fun k hk => .inr (hs k hk)⟩
def Qok (w:World)(gr:Nat)(en ee:Int)(s:Ps)(sv:Value):Prop :=
 ∃ (lv:Value) (badAt big bigAt:Int),QB w gr lv en ee 0 badAt big bigAt s.told sv∧WRow w lv s.l∧((s.big=none∧big=0)∨∃x,s.big=some x∧big=5∧bigAt=x)
def Qbad (w:World)(gr:Nat)(en ee e x:Int)(sv:Value):Prop := ∃ (lv:Value) (big bigAt told:Int),QB w gr lv en ee e x big bigAt told sv∧e≠0
variable {w:World} {gr:Nat} {en ee:Int} {s:Ps} {sv:Value}
theorem Qok.tch {w':World}{S:Nat→Prop}(h:Qok w gr en ee s sv)(ht:Tch w w' S)(h1:¬ S gr)(hs:∀k,S k→∀cs,¬ Blk w k 175 cs):Qok w' gr en ee s sv:=by
 obtain⟨lv,badAt,big,bigAt,hr,hw,hg⟩:=h;exact⟨lv,badAt,big,bigAt,ht.blk hr h1,hw.tch ht hs,hg⟩
theorem Qbad.tch {w':World}{S:Nat→Prop}{e x:Int}(h:Qbad w gr en ee e x sv)(ht:Tch w w' S)(h1:¬ S gr):Qbad w' gr en ee e x sv:=by
 obtain⟨lv,big,bigAt,told,hr,he⟩:=h;exact⟨lv,big,bigAt,told,ht.blk hr h1,he⟩
theorem Qok.below {w':World}(h:Qok w gr en ee s sv)(hb:Below w.heap.size w w'):Qok w' gr en ee s sv:=h.tch (Tch.of_below hb (fun _=>False)) id fun _ h=>h.elim
theorem Qbad.below {w':World}{e x:Int}(h:Qbad w gr en ee e x sv)(hb:Below w.heap.size w w'):Qbad w' gr en ee e x sv:=h.tch (Tch.of_below hb (fun _=>False)) id
abbrev wdv (v:List UInt8) (x:Int):Value := .agg #[strV v,.int .i64 x]
def QWordR (w:World)(gr:Nat)(en ee:Int)(s:Ps)(sv:Value)(e:Ending)(w':World):Prop :=
 ∃ (v:List UInt8) (x:Int),e = .returned (wdv v x)∧Tch w w' (fun k=>k=gr) ∧
  match pword en ee s with
  | .ok wd s'=>v=wd.1∧x=wd.2∧Qok w' gr en ee s' sv
  | .bad er at_=>v = []∧Qbad w' gr en ee er at_ sv
theorem szset (w:World)(a:Addr)(v:Value):(w.setCell a v).heap.size=w.heap.size:=by simp[World.setCell]
theorem wrow_at {B q p:Nat}{full:List Wd}{wd:Wd}(h:Reads w B 2 (some ⟨q,0,none⟩) full.length (full.flatMap wv))(hw:full[p]?=some wd) :
 w.cell? ⟨q,p*2,none⟩=some (strV wd.1)∧w.cell? ⟨q,p*2+1,none⟩=some (.int .i64 wd.2):=by
 have hp:p<full.length:=(List.getElem?_eq_some_iff.1 hw).1;obtain⟨ad,e,_,hc⟩:=h.2 (by omega);injection e with e
 subst e
 have h0:(full.flatMap wv)[p*2]?=some (strV wd.1)∧(full.flatMap wv)[p*2+1]?=some (.int .i64 wd.2):=by
  clear h hc
  induction full generalizing p with
  |nil=>simp at hw
  | cons x l ih =>
    cases p with
    |zero=>simp at hw;subst hw;exact⟨rfl,rfl⟩
    | succ p =>
      have:=ih (by simpa using hw) (by simp at hp;omega);rw[show (p+1)*2=p*2+1+1 by omega];exact this
 have e1:=hc _ _ h0.1;have e2:=hc _ _ h0.2;rw[show (⟨q,0,none⟩:Addr).add (p*2)=⟨q,p*2,none⟩ by simp[Addr.add];omega]at e1;rw[show (⟨q,0,none⟩:Addr).add (p*2+1)=⟨q,p*2+1,none⟩ by simp[Addr.add]]at e2;exact⟨e1,e2⟩
theorem qword_done {V lv:Value}{bad badAt big bigAt told:Int}{r:List Wd}(h:QB w gr lv en ee bad badAt big bigAt told sv)(hv:WRow w V r)(o1 o2:Obj){wf:World}(hw:((w.setCell ⟨gr,0,none⟩ V).alloc o1).alloc o2=wf) :
 Tch w wf (fun k=>k=gr)∧QB wf gr V en ee bad badAt big bigAt told sv∧WRow wf V r:=by
 subst hw;have T1:Tch w (w.setCell ⟨gr,0,none⟩ V) (fun k=>k=gr):=(Tch.refl w (fun k=>k=gr)).put (p:=⟨gr,0,none⟩) V rfl;have T2:=Tch.of_below (bone (w.setCell ⟨gr,0,none⟩ V) o1) (fun k=>k=gr);have T3:=Tch.of_below (bone ((w.setCell ⟨gr,0,none⟩ V).alloc o1) o2) (fun k=>k=gr);have T:=(T1.trans T2 fun _ _ h=>h).trans T3 fun _ _ h=>h
 exact⟨T,Blk.under (Blk.under (h.set_ 0 V) (bone _ _)) (bone _ _),hv.tch T fun k hk cs hb=>by subst hk;exact Blk.ne_ h hb (by decide) rfl⟩
theorem wrow_next {full:List Wd}{p q c:Nat}(hp:p<full.length)(ho:w.ownsRow 0 175 2 (.slice (some ⟨q,0,none⟩) full.length c) full.length (full.flatMap wv))(A:Option Addr)(hA:p+1<full.length→A=some ⟨q,p*2+2,none⟩)(c':Nat)(hc:p+1<full.length→c'=c-p-1)(hbd:(full.drop p).length≤1000000∧∀x∈full.drop p,x.1.length≤1000000) :
 WRow w (.slice A (full.length-p-1) c') (full.drop (p+1)):=by
 refine⟨⟨by have:=hbd.1;simp at this ⊢;omega,fun x hx=>hbd.2 x (by rw[List.drop_eq_getElem_cons hp];exact List.mem_cons_of_mem _ hx)⟩,?_⟩;by_cases h:p+1<full.length
 ·rw[hA h,hc h]
  exact .inr ⟨full,p+1,q,c,rfl,h,by rw[show (p+1)*2=p*2+2 by omega,show full.length-p-1=full.length-(p+1) by omega,show c-p-1=c-(p+1) by omega],ho⟩
 ·rw[show full.length-p-1=0 by omega]
  exact .inl ⟨List.drop_eq_nil_iff.2 (by omega),A,c',rfl⟩
theorem qword_bad {er at_:Int}(h:Qbad w gr en ee er at_ sv):Calls Tryz.prog 87 #[.pointer (some ⟨gr,0,none⟩)] w fun e w'=>e = .returned (wdv [] 0)∧Below w.heap.size w w':=by
 obtain⟨lv,big,bigAt,told,hr,he⟩:=h;have hb1:=bone w (.cells #[.string ⟨#[]⟩,.int .i64 0] 175);obtain⟨c0,c1,c2,c3,c4,c5,c6,c7,c8,cf⟩:=QB.cells (Blk.under hr hb1);have hneb:(er != 0)=true:=by simp[he]
 have HB1:=Hd hb1;clear hr he cf hb1
 go_enter Tryz.func87,Tryz.ntmps87
 go_wp2_with fail;have hz:Blk (w.alloc (.cells #[.string ⟨#[]⟩,.int .i64 0] 175)) w.heap.size 175 #[.string ⟨#[]⟩,.int .i64 0]:=Blk.new _ _ _;have k0:=(Blk.cell hz 0).trans rfl;have k1:=(Blk.cell hz 1).trans rfl;exact bodyPost_ret (v:=wdv [] 0) (by simp[results,Tryz.results87,go_sem,k0,k1,wdv]) rfl ⟨rfl,HB1.out⟩
set_option maxHeartbeats 4000000 in
theorem qword_any (h:Qok w gr en ee s sv)(hee:ee≠0):Calls Tryz.prog 87 #[.pointer (some ⟨gr,0,none⟩)] w fun e w'=>QWordR w gr en ee s sv e w':=by
 obtain⟨lv,badAt,big,bigAt,hr,⟨hbd,hw⟩,hg⟩:=h;have HBD:=Hd hbd;clear hbd;have hb1:=bone w (.cells #[.string ⟨#[]⟩,.int .i64 0] 175);have hr1:QB (w.alloc (.cells #[.string ⟨#[]⟩,.int .i64 0] 175)) gr lv en ee 0 badAt big bigAt s.told sv:=Blk.under hr hb1;have hz:Blk (w.alloc (.cells #[.string ⟨#[]⟩,.int .i64 0] 175)) w.heap.size 175 #[.string ⟨#[]⟩,.int .i64 0]:=Blk.new _ _ _;have hgl:=Blk.lt hr;obtain⟨c0,c1,c2,c3,c4,c5,c6,c7,c8,cf⟩:=hr1.cells;have HZ:=Hd hz;have HR1:=Hd hr1;have HB1:=Hd hb1;have HG:=Hd hg;have HR:=Hd hr;rcases hw with⟨hl,A,c,rfl⟩ | ⟨full,p,q,c,hl,hp,rfl,ho⟩
 ·have hwr:=qwrong_any (w:=(w.alloc (.cells #[.string ⟨#[]⟩,.int .i64 0] 175)).drew) hr1 ee en
  have HL:=Hd hl;clear hr hr1 hz hb1 hg hl cf
  go_enter Tryz.func87,Tryz.ntmps87
  go_upto_region 4 with fail
  go_region_held3 (fun V=>V.cell? ⟨gr,1,none⟩=some (.int .i64 en)∧V.cell? ⟨gr,2,none⟩=some (.int .i64 ee)) (first | exact⟨c1,c2⟩ | exact HS1) (first
   |(go_at_call 91;refine hwr.mono ?_;rintro e w1 ⟨⟨u,rfl⟩,hc,ht⟩;have HS1:w1.cell? ⟨gr,1,none⟩=some (.int .i64 en)∧w1.cell? ⟨gr,2,none⟩=some (.int .i64 ee):=(by rcases hc with⟨_,hc⟩ | ⟨h0,_⟩<;>first | exact absurd rfl h0 | exact⟨(Blk.cell hc 1).trans rfl,(Blk.cell hc 2).trans rfl⟩);have HC:=Hd hc;have HT1:=Hd ht;have hz1:=ht.blk HZ.out (by omega);have z0:=(Blk.cell hz1 0).trans rfl;have z1:=(Blk.cell hz1 1).trans rfl;have zf0:=Blk.frozen hz1 0;have zf1:=Blk.frozen hz1 1;have HZ1:=Hd hz1;clear hwr hc ht hz1))
  all_goals go_wp2_with fail
  obtain⟨wf,hwf⟩:∃wf,(w1.setCell ⟨w.heap.size,0,none⟩ (.string ⟨#[]⟩)).setCell ⟨w.heap.size,1,none⟩ (.int .i64 0)=wf:=⟨_,rfl⟩;have TF:Tch w1 wf (fun k=>k=w.heap.size):=by rw[← hwf];exact ((Tch.refl w1 (fun k=>k=w.heap.size)).put (p:=⟨w.heap.size,0,none⟩) _ rfl).put (p:=⟨w.heap.size,1,none⟩) _ rfl
  have BF:Blk wf w.heap.size 175 #[.string ⟨#[]⟩,.int .i64 0]:=by rw[← hwf];exact (HZ1.out.set_ 0 _).set_ 1 _
  rw[hwf];have k0:=(Blk.cell BF 0).trans rfl;have k1:=(Blk.cell BF 1).trans rfl;refine bodyPost_ret (v:=wdv [] 0) (by simp[results,Tryz.results87,go_sem,k0,k1,wdv]) rfl ⟨[],0,rfl,((Tch.of_below (below_drewN HB1.out 1) (fun k=>k=gr)).trans HT1.out fun _ _ h=>h).trans TF fun k hk h=>by omega,?_⟩;have e1:pword en ee s = .bad ee en:=by unfold pword;rw[HL.out]
  rw[e1];refine⟨rfl,?_⟩;rcases HC.out with⟨_,hc⟩ | ⟨h0,_⟩
  ·exact⟨_,_,_,_,TF.blk hc (by omega),hee⟩
  ·exact absurd rfl h0
 ·have hfl:(full.flatMap wv).length=full.length*2:=ho.1
  have hre:=Reads.of_own (own_under ho hb1);have HL:=Hd hl;have HO:=Hd ho;have HP:=Hd hp;have hlenI:(((full.length-p:Nat):Int)==0)=false:=by simp;omega
  have hz0:=Blk.frozen hz 0;have hz1:=Blk.frozen hz 1;obtain⟨wd,hwd⟩:∃wd,full[p]?=some wd:=⟨full[p],List.getElem?_eq_getElem hp⟩;obtain⟨d0,d1⟩:=wrow_at hre hwd
  have E1:Hid (pword en ee s = .ok wd { s with l:=full.drop (p+1) }):=by
   have hl0:s.l=wd::full.drop (p+1):=by
    rw[hl,List.drop_eq_getElem_cons hp];rw[List.getElem?_eq_getElem hp]at hwd;injection hwd with hwd
    rw[hwd]
   unfold Hid pword;rw[hl0]
  have f0:=cf 0;clear hr hr1 hz hb1 hg hl cf ho hfl hre hwd
  go_enter Tryz.func87,Tryz.ntmps87
  have hcap:=own_cap HO.out;have hc1:1≤full.length-p:=by omega
  have hc2:full.length-p≤c-p:=by omega
  go_upto_region 7 with fail;go_wp2_with fail
  ·obtain⟨wf,hwf⟩:∃wf,((w.setCell ⟨gr,0,none⟩ (.slice (some ⟨q,p*2,none⟩) (full.length-p-1) 0)).alloc (.cells #[strV wd.1,.int .i64 wd.2] 175)).alloc (.cells #[strV wd.1,.int .i64 wd.2] 175)=wf:=⟨_,rfl⟩
   obtain⟨T,hq,hv⟩:=qword_done HR.out (wrow_next HP.out HO.out (some ⟨q,p*2,none⟩) (fun h=>by omega) 0 (fun h=>by omega) (by rw[← HL.out];exact HBD.out)) _ _ hwf
   have kb:Blk wf w.heap.size 175 #[strV wd.1,.int .i64 wd.2]:=by
    rw[← hwf];have:=Blk.new (w.setCell ⟨gr,0,none⟩ (.slice (some ⟨q,p*2,none⟩) (full.length-p-1) 0)) 175 #[strV wd.1,.int .i64 wd.2];rw[szset]at this;exact Blk.under this (bone _ _)
   have k0:=(Blk.cell kb 0).trans rfl;have k1:=(Blk.cell kb 1).trans rfl;rw[show strV wd.1 = .string ⟨wd.1.toArray⟩ from rfl]at hwf;rw[hwf];refine bodyPost_ret (v:=wdv wd.1 wd.2) (by simp[results,Tryz.results87,go_sem,k0,k1,wdv]) rfl ⟨wd.1,wd.2,rfl,T,?_⟩;rw[E1.out];exact⟨rfl,rfl,_,_,_,_,hq,hv,HG.out⟩
  ·obtain⟨wf,hwf⟩:∃wf,((w.setCell ⟨gr,0,none⟩ (.slice (some ⟨q,p*2+2,none⟩) (full.length-p-1) (c-p-1))).alloc (.cells #[strV wd.1,.int .i64 wd.2] 175)).alloc (.cells #[strV wd.1,.int .i64 wd.2] 175)=wf:=⟨_,rfl⟩
   obtain⟨T,hq,hv⟩:=qword_done HR.out (wrow_next HP.out HO.out (some ⟨q,p*2+2,none⟩) (fun h=>rfl) _ (fun h=>rfl) (by rw[← HL.out];exact HBD.out)) _ _ hwf
   have kb:Blk wf w.heap.size 175 #[strV wd.1,.int .i64 wd.2]:=by
    rw[← hwf];have:=Blk.new (w.setCell ⟨gr,0,none⟩ (.slice (some ⟨q,p*2+2,none⟩) (full.length-p-1) (c-p-1))) 175 #[strV wd.1,.int .i64 wd.2];rw[szset]at this;exact Blk.under this (bone _ _)
   have k0:=(Blk.cell kb 0).trans rfl;have k1:=(Blk.cell kb 1).trans rfl;rw[show strV wd.1 = .string ⟨wd.1.toArray⟩ from rfl]at hwf;rw[hwf];refine bodyPost_ret (v:=wdv wd.1 wd.2) (by simp[results,Tryz.results87,go_sem,k0,k1,wdv]) rfl ⟨wd.1,wd.2,rfl,T,?_⟩;rw[E1.out];exact⟨rfl,rfl,_,_,_,_,hq,hv,HG.out⟩
def QS {α:Type}(w:World)(gr:Nat)(en ee:Int)(sv:Value)(r:Res α):Prop :=
 match r with
 | .ok _ s=>Qok w gr en ee s sv
 | .bad e x=>Qbad w gr en ee e x sv
variable {α:Type} {r:Res α}
theorem QS.tch {w':World}{S:Nat→Prop}(h:QS w gr en ee sv r)(ht:Tch w w' S)(h1:¬ S gr)(hs:∀k,S k→∀cs,¬ Blk w k 175 cs):QS w' gr en ee sv r:=by
 cases r with
 |ok a s=>exact Qok.tch h ht h1 hs
 |bad e x=>exact Qbad.tch h ht h1
theorem QS.below {w':World}(h:QS w gr en ee sv r)(hb:Below w.heap.size w w'):QS w' gr en ee sv r:=by
 cases r with
 |ok a s=>exact Qok.below h hb
 |bad e x=>exact Qbad.below h hb
theorem QS.blk (h:QS w gr en ee sv r):∃lv bad badAt big bigAt told,QB w gr lv en ee bad badAt big bigAt told sv∧decide (bad=0)=r.good∧(∀a s,r = .ok a s→s.told=told):=by
 cases r with
 | ok a s =>
   obtain⟨lv,badAt,big,bigAt,hr,_⟩:=h
   exact⟨_,_,_,_,_,_,hr,decide_eq_true rfl,fun a' s' h=>by injection h with _ h;rw[h]⟩
 | bad e x =>
   obtain⟨lv,big,bigAt,told,hr,he⟩:=h;exact⟨_,_,_,_,_,_,hr,decide_eq_false he,fun a' s' h=>by cases h⟩
theorem QS.lt (h:QS w gr en ee sv r):gr<w.heap.size:=by
 obtain⟨_,_,_,_,_,_,hr,_⟩:=h.blk;exact Blk.lt hr
theorem QS.same {β:Type}{r':Res β}(h:QS w gr en ee sv r)(h1:∀a s,r = .ok a s→∃b,r' = .ok b s)(h2:∀e x,r = .bad e x→r' = .bad e x):QS w gr en ee sv r':=by
 cases r with
 |ok a s=>obtain⟨b,hb⟩:=h1 a s rfl;rw[hb];exact h
 |bad e x=>rw[h2 e x rfl];exact h
theorem Qok.left (h:Qok w gr en ee s sv):s.l.length≤1000000∧∀x∈s.l,x.1.length≤1000000:=by
 obtain⟨_,_,_,_,_,h,_⟩:=h;exact h.1
theorem qword_un (h:QS w gr en ee sv r)(hee:ee≠0):Calls Tryz.prog 87 #[.pointer (some ⟨gr,0,none⟩)] w fun e w' =>
 ∃ (v:List UInt8) (x:Int),e = .returned (wdv v x)∧v.length≤1000000∧Tch w w' (fun k=>k=gr)∧QS w' gr en ee sv (r.bind fun _ s=>pword en ee s)∧∀wd s',(r.bind fun _ s=>pword en ee s) = .ok wd s'→v=wd.1∧x=wd.2:=by
 cases r with
 | ok a s =>
   have hl:=Qok.left h;refine (qword_any h hee).mono ?_;rintro e w' ⟨v,x,rfl,ht,hm⟩;rw[Res.bind_ok]
   cases hp:pword en ee s with
   | ok wd s' =>
     rw[hp]at hm;dsimp only at hm;refine⟨v,x,rfl,?_,ht,hm.2.2,fun wd' s'' he=>by injection he with he _;rw[← he];exact⟨hm.1,hm.2.1⟩⟩;obtain⟨l,b,t,sh⟩:=s
     cases l with
     |nil=>have hp:(Res.bad ee en:Res Wd) = .ok wd s':=hp;cases hp
     | cons y l =>
       have hp:(Res.ok y ⟨l,b,t,sh⟩:Res Wd) = .ok wd s':=hp;injection hp with hp _
       rw[hm.1,← hp]
       exact hl.2 y (List.mem_cons_self ..)
   | bad er at_ =>
     rw[hp]at hm;dsimp only at hm
     exact⟨v,x,rfl,by rw[hm.1];simp,ht,hm.2,fun wd' s'' he=>by cases he⟩
 | bad er at_ =>
   refine (qword_bad h).mono ?_;rintro e w' ⟨rfl,hb⟩;exact⟨[],0,rfl,by simp,Tch.of_below hb _,QS.below (r:=(.bad er at_:Res Wd)) h hb,fun wd' s'' he=>by cases he⟩
theorem qwrong_un {a:α}{s:Ps}(h:Qok w gr en ee s sv)(er x:Int)(he:er≠0):Calls Tryz.prog 91 #[.pointer (some ⟨gr,0,none⟩),.int .i64 er,.int .i64 x] w fun e w' =>
 (∃v,e = .returned v)∧Qbad w' gr en ee er x sv∧Tch w w' fun k=>k=gr:=by
 obtain⟨lv,badAt,big,bigAt,hr,_⟩:=h;refine (qwrong_any hr er x).mono ?_;rintro e w' ⟨hv,hc,ht⟩;refine⟨hv,?_,ht⟩;rcases hc with⟨_,hc⟩ | ⟨h0,_⟩
 ·exact⟨_,_,_,_,hc,he⟩
 ·exact absurd rfl h0
theorem qlarge_un (h:QS w gr en ee sv r)(is:Bool)(x:Int):Calls Tryz.prog 88 #[.pointer (some ⟨gr,0,none⟩),.bool is,.int .i64 x] w fun e w' =>
 (∃v,e = .returned v)∧QS w' gr en ee sv (r.bind fun a s => .ok a (plarge is x s))∧Tch w w' fun k=>k=gr:=by
 cases r with
 | ok a s =>
   obtain⟨lv,badAt,big,bigAt,hr,hw,hg⟩:=h;refine (qlarge_any hr is x).mono ?_;rintro e w' ⟨hv,hc,ht⟩;refine⟨hv,?_,ht⟩
   have hw':=hw.tch ht fun k hk cs hb=>by
    subst hk;exact Blk.ne_ hr hb (by decide) rfl
   rw[Res.bind_ok];show Qok w' gr en ee (plarge is x s) sv;obtain⟨l1,l2,l3⟩:=plarge_l is x s;rcases hc with⟨h1,h2,h3,hc⟩ | ⟨h1,hc⟩
   ·refine⟨lv,badAt,5,x,by rw[l3];exact hc,by rw[l1];exact hw',?_⟩
    have hb:s.big=none:=by
     rcases hg with⟨hb,_⟩ | ⟨y,_,h5,_⟩
     ·exact hb
     ·omega
    unfold plarge;rw[if_pos ⟨h1,hb⟩];exact .inr ⟨x,rfl,rfl,rfl⟩
   ·refine⟨lv,badAt,big,bigAt,by rw[l3];exact hc,by rw[l1];exact hw',?_⟩
    have hb:¬ (is=true∧s.big=none):=fun⟨hi,hb⟩=>by
     rcases hg with⟨_,h0⟩ | ⟨y,h5,_⟩
     ·exact h1 ⟨hi,h0,rfl⟩
     ·rw[hb]at h5;cases h5
    unfold plarge;rw[if_neg hb]
    exact hg
 | bad er at_ =>
   obtain⟨lv,big,bigAt,told,hr,he⟩:=h;refine (qlarge_any hr is x).mono ?_;rintro e w' ⟨hv,hc,ht⟩;refine⟨hv,?_,ht⟩;rcases hc with⟨h1,h2,h3,hc⟩ | ⟨h1,hc⟩
   ·exact absurd h3 he
   ·exact⟨_,_,_,_,hc,he⟩
end Go.Proofs.YtjpkkkphhaajgaaGreatDoor.wcp
namespace Go.Proofs.YtjpkkkphhaajgaaGreatDoor.wcp
open Go RowKit ChangeShapes WideShapes ChangeAt words scn
variable {w:World} {gr:Nat} {en ee:Int} {s:Ps} {sv:Value} {α:Type} {r:Res α}
def QNumU (w:World)(gr:Nat)(en ee:Int)(lo hi:Int)(r:Res α)(sv:Value)(e:Ending)(w':World):Prop :=
 ∃ (n x:Int),e = .returned (.tuple #[.int .i64 n,.int .i64 x])∧Tch w w' (fun k=>k=gr) ∧
  QS w' gr en ee sv (r.bind fun _ s=>pnum en ee lo hi s) ∧
  (∀v s',(r.bind fun _ s=>pnum en ee lo hi s) = .ok v s'→n=v.1∧x=v.2) ∧
  ((r.bind fun _ s=>pnum en ee lo hi s).good=false→n=0)
def pnumW (lo hi:Int)(w:Wd)(s:Ps):Res (Int × Int) :=
 if (readW w.1).2≠0∨(readW w.1).1<lo∨(readW w.1).1>hi then .bad 4 w.2 else .ok ((readW w.1).1,(w.2:Int)) s
theorem pnum_word {α:Type}(en ee lo hi:Int)(r:Res α):(r.bind fun _ s=>pnum en ee lo hi s)=(r.bind fun _ s=>pword en ee s).bind fun w s=>pnumW lo hi w s:=by
 cases r<;>rfl
set_option maxHeartbeats 4000000 in
theorem qnum_un (h:QS w gr en ee sv r)(hee:ee≠0)(lo hi:Int) :
 Calls Tryz.prog 89 #[.pointer (some ⟨gr,0,none⟩),.int .i64 lo,.int .i64 hi] w fun e w'=>QNumU w gr en ee lo hi r sv e w':=by
 have hw:=qword_un h hee;have hgl:=h.lt;clear h;unfold QNumU
 go_enter Tryz.func89,Tryz.ntmps89
 go_wp2_with fail;refine hw.mono ?_;rintro e w1 ⟨v,x,rfl,hvl,ht1,hs1,hv1⟩;have hrd:=read_ref v (w1.alloc (.cells #[.string ⟨v.toArray⟩,.int .i64 x] 175)) hvl;have HT:=Hd (ht1.trans (Tch.of_below (bone w1 (.cells #[.string ⟨v.toArray⟩,.int .i64 x] 175)) (fun k=>k=gr)) fun _ _ h=>h);have HS1:=Hd (hs1.below (bone w1 (.cells #[.string ⟨v.toArray⟩,.int .i64 x] 175)));have hgl1:gr<w1.heap.size:=by have:=ht1.size;omega
 have HPN:=Hd (pnum_word en ee lo hi r);obtain⟨r1,hr1⟩:∃r1,(r.bind fun _ s=>pword en ee s)=r1:=⟨_,rfl⟩;rw[hr1]at HS1 HPN hv1;clear hw ht1 hs1 hr1
 cases r1 with
 | bad er at_ =>
   obtain⟨lv,big,bigAt,told,hr,he⟩:=HS1.out;obtain⟨c0,c1,c2,c3,c4,c5,c6,c7,c8,cf⟩:=hr.cells;have hef:(er==0)=false:=by simp[he]
   have het:(er != 0)=true:=by simp[he]
   clear hr cf hv1 he
   go_wp2_with (first | (go_at_call 139;refine hrd.mono ?_;rintro e w2 ⟨rfl,rfl⟩;clear hrd) | fail)
   go_ret2;refine⟨0,0,rfl,HT.out,?_⟩;rw[HPN.out,Res.bind_bad]
   exact⟨HS1.out,⟨fun v' s'' he=>(by cases he),fun _=>rfl⟩⟩
 | ok wd s' =>
   obtain⟨hv,hx⟩:=hv1 wd s' rfl;have HRK1:=Hd (show Qok _ gr en ee s' sv from HS1.out);obtain⟨lv,badAt,big,bigAt,hr,_⟩:=HRK1.out;obtain⟨c0,c1,c2,c3,c4,c5,c6,c7,c8,cf⟩:=hr.cells;obtain⟨N,hN⟩:∃N,(readW v).1=N:=⟨_,rfl⟩;obtain⟨E,hE⟩:∃E,(readW v).2=E:=⟨_,rfl⟩;rw[hN,hE]at hrd;have HX:=Hd hx;have HN:Hid ((readW wd.1).1=N∧(readW wd.1).2=E):=by rw[hv]at hN hE;exact⟨hN,hE⟩
   rw[Res.bind_ok]at HPN;clear hr cf hv1 hN hE hv hx;by_cases hE:E=0
   ·subst hE
    by_cases h1:N<lo
    ·have d1:decide (N<lo)=true:=decide_eq_true h1
     have HC:Hid ((readW wd.1).2≠0∨(readW wd.1).1<lo∨(readW wd.1).1>hi) := .inr (.inl (by rw[HN.out.1];exact h1));clear h1;have hwr:=qwrong_un (a:=()) HRK1.out 4 x (by decide)
     go_wp2_with (first | (go_at_call 139;refine hrd.mono ?_;rintro e w2 ⟨rfl,rfl⟩;clear hrd) | fail)
     refine hwr.mono ?_;rintro e w5 ⟨⟨u,rfl⟩,hc,ht5⟩;clear hwr;have HC5:=Hd hc;have HT5:=Hd ht5;obtain⟨lv5,big5,bigAt5,told5,hr5,he5⟩:=hc;have d3:=QB.cells hr5 |>.2.2.2.1;clear hr5 ht5;go_wp2_with fail;go_ret2;refine⟨0,0,rfl,HT.out.trans HT5.out fun _ _ h=>h,?_⟩;rw[HPN.out];unfold pnumW;rw[if_pos HC.out,← HX.out];exact⟨HC5.out,⟨fun v' s'' he=>(by cases he),fun _=>rfl⟩⟩
    ·have d1:decide (N<lo)=false:=decide_eq_false h1
     by_cases h2:hi<N
     ·have d2:decide (hi<N)=true:=decide_eq_true h2
      have HC:Hid ((readW wd.1).2≠0∨(readW wd.1).1<lo∨(readW wd.1).1>hi) := .inr (.inr (by rw[HN.out.1];exact h2));clear h1 h2;have hwr:=qwrong_un (a:=()) HRK1.out 4 x (by decide)
      go_wp2_with (first | (go_at_call 139;refine hrd.mono ?_;rintro e w2 ⟨rfl,rfl⟩;clear hrd) | fail)
      refine hwr.mono ?_;rintro e w5 ⟨⟨u,rfl⟩,hc,ht5⟩;clear hwr;have HC5:=Hd hc;have HT5:=Hd ht5;obtain⟨lv5,big5,bigAt5,told5,hr5,he5⟩:=hc;have d3:=QB.cells hr5 |>.2.2.2.1;clear hr5 ht5;go_wp2_with fail;go_ret2;refine⟨0,0,rfl,HT.out.trans HT5.out fun _ _ h=>h,?_⟩;rw[HPN.out];unfold pnumW;rw[if_pos HC.out,← HX.out];exact⟨HC5.out,⟨fun v' s'' he=>(by cases he),fun _=>rfl⟩⟩
     ·have d2:decide (hi<N)=false:=decide_eq_false h2
      have HC:Hid (¬ ((readW wd.1).2≠0∨(readW wd.1).1<lo∨(readW wd.1).1>hi)):=by rw[Hid,HN.out.1,HN.out.2];omega
      clear h1 h2;have z1:=(Blk.cell (Blk.new w1 175 #[.string ⟨v.toArray⟩,.int .i64 x]) 1).trans rfl
      go_upto_region 7 with (first | (go_at_call 139;refine hrd.mono ?_;rintro e w2 ⟨rfl,rfl⟩;clear hrd) | fail)
      go_region
      go_wp2_with fail;go_ret2;refine⟨N,x,rfl,HT.out.drew,?_⟩;rw[HPN.out];unfold pnumW;rw[if_neg HC.out];exact⟨HRK1.out,⟨fun v' s'' he=>(by injection he with he _;rw[← he];exact⟨HN.out.1.symm,HX.out⟩),fun he=>(by cases he)⟩⟩
   ·have hEb:(E != 0)=true:=by simp[hE]
    have HC:Hid ((readW wd.1).2≠0∨(readW wd.1).1<lo∨(readW wd.1).1>hi) := .inl (by rw[HN.out.2];exact hE);clear hE;have hwr:=qwrong_un (a:=()) HRK1.out 4 x (by decide)
    go_wp2_with (first | (go_at_call 139;refine hrd.mono ?_;rintro e w2 ⟨rfl,rfl⟩;clear hrd) | fail)
    refine hwr.mono ?_;rintro e w5 ⟨⟨u,rfl⟩,hc,ht5⟩;clear hwr;have HC5:=Hd hc;have HT5:=Hd ht5;obtain⟨lv5,big5,bigAt5,told5,hr5,he5⟩:=hc;have d3:=QB.cells hr5 |>.2.2.2.1;clear hr5 ht5;go_wp2_with fail;go_ret2;refine⟨0,0,rfl,HT.out.trans HT5.out fun _ _ h=>h,?_⟩;rw[HPN.out];unfold pnumW;rw[if_pos HC.out,← HX.out];exact⟨HC5.out,⟨fun v' s'' he=>(by cases he),fun _=>rfl⟩⟩
end Go.Proofs.YtjpkkkphhaajgaaGreatDoor.wcp
namespace Go.Proofs.YtjpkkkphhaajgaaGreatDoor.wcp
open Go RowKit ChangeShapes WideShapes ChangeAt Maps words scn
def QLRow (w:World)(base:Nat)(v:Value)(L:List LT):Prop:=(∃A c,v = .slice A L.length c)∧w.ownsRow base 137 2 v L.length (lcells L)∧∀p∈L,Row64 w base p.1 p.2.1
def QLines (w:World)(base:Nat)(v:Value)(ls:List (List Int × Int)):Prop := ∃L:List LT,L.map (·.2)=ls∧QLRow w base v L
abbrev QT:=(Value × Value × Int × Value) × Raw
def qcells (L:List QT):List Value:=L.flatMap fun p => [p.1.1,p.1.2.1,.int .i64 p.1.2.2.1,p.1.2.2.2]
def QFn (w:World)(v1 v2:Value)(o:Int)(v4:Value)(f:Raw):Prop:=o=f.other∧Row64 w 0 v1 f.scope∧Row64 w 0 v2 f.sizes∧QLines w 0 v4 f.lines
def QFns (w:World)(sv:Value)(fs:List Raw):Prop :=
 ∃L:List QT,L.map (·.2)=fs∧(∃A c,sv = .slice A L.length c)∧w.ownsRow 0 70 4 sv L.length (qcells L)∧∀p∈L,QFn w p.1.1 p.1.2.1 p.1.2.2.1 p.1.2.2.2 p.2
def QSh (w:World)(sv:Value)(sh:List (List Int × List (List Int × Int))):Prop := ∃fs:List Raw,(fs.map fun f=>(f.sizes,f.lines))=sh∧QFns w sv fs
variable {w w':World} {S:Nat→Prop} {base:Nat} {v:Value}
theorem QLRow.tch {L:List LT}(h:QLRow w base v L)(ht:Tch w w' S)(h1:Off w base S 2)(h2:Off w base S 137):QLRow w' base v L :=
 ⟨h.1,own_off h.2.1 ht h2,fun p hp=>(h.2.2 p hp).tch ht h1⟩
theorem QLines.tch {ls:List (List Int × Int)}(h:QLines w base v ls)(ht:Tch w w' S)(h1:Off w base S 2)(h2:Off w base S 137):QLines w' base v ls:=by
 obtain⟨L,hL,hr⟩:=h;exact⟨L,hL,hr.tch ht h1 h2⟩
theorem QLRow.down {b':Nat}{L:List LT}(h:QLRow w base v L)(hb:b'≤base):QLRow w b' v L:=⟨h.1,own_base h.2.1 hb,fun p hp=>(h.2.2 p hp).down hb⟩
theorem QLRow.nil (w:World)(base:Nat):QLRow w base (.slice none 0 0) []:=⟨⟨none,0,rfl⟩,World.ownsRow_nil _ _ _ _,fun p hp=>by cases hp⟩
theorem QLines.nil (w:World)(base:Nat):QLines w base (.slice none 0 0) []:=⟨[],rfl,QLRow.nil w base⟩
theorem QLines.down {b':Nat}{ls:List (List Int × Int)}(h:QLines w base v ls)(hb:b'≤base):QLines w b' v ls:=by
 obtain⟨L,hL,hr⟩:=h;exact⟨L,hL,hr.down hb⟩
theorem QFn.tch {v1 v2 v4:Value}{o:Int}{f:Raw}(h:QFn w v1 v2 o v4 f)(ht:Tch w w' S)(h1:Off w 0 S 2)(h2:Off w 0 S 137):QFn w' v1 v2 o v4 f :=
 ⟨h.1,h.2.1.tch ht h1,h.2.2.1.tch ht h1,h.2.2.2.tch ht h1 h2⟩
theorem QFns.tch {fs:List Raw}(h:QFns w v fs)(ht:Tch w w' S)(h1:Off w 0 S 2)(h2:Off w 0 S 137)(h3:Off w 0 S 70):QFns w' v fs:=by
 obtain⟨L,hL,hs,ho,hp⟩:=h;exact⟨L,hL,hs,own_off ho ht h3,fun p hm=>(hp p hm).tch ht h1 h2⟩
theorem QSh.tch {sh:List (List Int × List (List Int × Int))}(h:QSh w v sh)(ht:Tch w w' S)(h1:Off w 0 S 2)(h2:Off w 0 S 137)(h3:Off w 0 S 70):QSh w' v sh:=by
 obtain⟨fs,hL,hr⟩:=h;exact⟨fs,hL,hr.tch ht h1 h2 h3⟩
theorem qc_at {L:List QT}{i:Nat}{p:QT}(h:L[i]?=some p):(qcells L)[i*4]?=some p.1.1∧(qcells L)[i*4+1]?=some p.1.2.1∧(qcells L)[i*4+2]?=some (.int .i64 p.1.2.2.1)∧(qcells L)[i*4+3]?=some p.1.2.2.2:=by
 induction L generalizing i with
 |nil=>simp at h
 | cons q L ih =>
   cases i with
   |zero=>simp at h;subst h;exact⟨rfl,rfl,rfl,rfl⟩
   | succ i =>
     have:=ih (i:=i) (by simpa using h);rw[show (i+1)*4=i*4+1+1+1+1 by omega];exact this
theorem qc_snoc (L:List QT)(p:QT):qcells (L ++ [p])=qcells L ++ [p.1.1,p.1.2.1,.int .i64 p.1.2.2.1,p.1.2.2.2]:=by simp[qcells]
theorem infoQF:(Tryz.prog.info? 70).map (fun i=>(i.zero,i.size,i.bytes))=some (some (.agg #[.slice none 0 0,.slice none 0 0,.int .i64 0,.slice none 0 0]),4,80):=by kernel_rfl
theorem infoQL:(Tryz.prog.info? 137).map (fun i=>(i.zero,i.size,i.bytes))=some (some (.agg #[.slice none 0 0,.int .i64 0]),2,32):=by kernel_rfl
theorem QS.off {gr:Nat}{en ee:Int}{sv:Value}{α:Type}{r:Res α}(h:QS w gr en ee sv r){t:TypeId}(h1:173≠t):Off w base (fun k=>k=gr) t:=by
 obtain⟨_,_,_,_,_,_,hr,_⟩:=h.blk;rintro k rfl;exact .inr fun cs hb=>Blk.ne_ hr hb h1 rfl
section
variable {en ee:Int}
def pscope1 (en ee n:Int)(out:List Int)(s:Ps):Res (List Int):=(pnum en ee 0 (n-1) s).bind fun v s=>if v.1∈out then .bad 4 v.2 else .ok (out ++ [v.1]) s
theorem pscope_snoc (n:Int):∀ (k:Nat) (out:List Int) (s:Ps),pscope en ee n (k+1) out s=(pscope en ee n k out s).bind fun out s=>pscope1 en ee n out s
 | 0,out,s=>by
   show (pnum en ee 0 (n-1) s).bind (fun v s=>if v.1∈out then .bad 4 v.2 else pscope en ee n 0 (out ++ [v.1]) s)=pscope1 en ee n out s
   rfl
 | k+1,out,s=>by
   show (pnum en ee 0 (n-1) s).bind (fun v s=>if v.1∈out then .bad 4 v.2 else pscope en ee n (k+1) (out ++ [v.1]) s)=_;rw[show pscope en ee n (k+1) out s=(pnum en ee 0 (n-1) s).bind (fun v s=>if v.1∈out then .bad 4 v.2 else pscope en ee n k (out ++ [v.1]) s) from rfl,Res.bind_assoc]
   congr 1
   funext v s
   by_cases h:v.1∈out
   ·rw[if_pos h,if_pos h];rfl
   ·rw[if_neg h,if_neg h];exact pscope_snoc n k _ _
theorem pscope_bad {n e x:Int}{i:Nat}{s:Ps}(h:pscope en ee n i [] s = .bad e x):∀k,i≤k→pscope en ee n k [] s = .bad e x:=by
 intro k hk
 induction k with
 | zero => obtain rfl:i=0:=by omega
           exact h
 | succ k ih =>
   by_cases e1:i=k+1
   ·rw[← e1];exact h
   ·rw[pscope_snoc,ih (by omega)];rfl
end
end Go.Proofs.YtjpkkkphhaajgaaGreatDoor.wcp
namespace Go.Proofs.YtjpkkkphhaajgaaGreatDoor.wcp
open Go RowKit ChangeShapes WideShapes ChangeAt Maps words scn
variable {w wr:World} {gr:Nat} {en ee:Int} {sv:Value} {α:Type} {r:Res α}
structure F2 (w wr:World) (gr:Nat) (en ee:Int) (sv vs vz:Value) (o:Int) (vl:Value) (out zs:List Int) (r:Res α):Prop where
 rb:Blk wr w.heap.size 70 #[.slice none 0 0,.slice none 0 0,.int .i64 0,.slice none 0 0]
 fb:Blk wr (w.heap.size+1) 70 #[vs,vz,.int .i64 o,vl]
 sc:Row64 wr (w.heap.size+2) vs out
 sz:Row64 wr (w.heap.size+2) vz zs
 ne:∀q,vs.ownBlock=some q→vz.ownBlock=some q→False
 tc:Tch w wr (fun k=>k=gr)
 qs:QS wr gr en ee sv r
variable {vs vz vl:Value} {o:Int} {out zs:List Int}
theorem F2.tch {w':World}{β:Type}{r':Res β}(h:F2 w wr gr en ee sv vs vz o vl out zs r)(hgl:gr<w.heap.size)(ht:Tch wr w' (fun k=>k=gr))(hq:QS w' gr en ee sv r'):F2 w w' gr en ee sv vs vz o vl out zs r' :=
 ⟨ht.blk h.rb (by omega),ht.blk h.fb (by omega),h.sc.tch ht (h.qs.off (by decide)),h.sz.tch ht (h.qs.off (by decide)),h.ne,h.tc.trans ht fun _ _ h=>h,hq⟩
theorem F2.up {w':World}{S:Nat→Prop}(h:F2 w wr gr en ee sv vs vz o vl out zs r)(hgl:gr<w.heap.size)(ht:Tch wr w' S)(hS:∀k,S k→w.heap.size≤k∧∀cs,¬ Blk wr k 175 cs) :
 Tch w w' (fun k=>k=gr)∧QS w' gr en ee sv r :=
 ⟨h.tc.trans ht fun k hk hs=>by have:=(hS k hs).1;omega,h.qs.tch ht (fun hs=>by have:=(hS _ hs).1;omega) fun k hs=>(hS k hs).2⟩
theorem F2.size (h:F2 w wr gr en ee sv vs vz o vl out zs r):w.heap.size+2≤wr.heap.size:=by have:=Blk.lt h.fb;omega
theorem F2.mid {wb w6:World}{row:Option Nat}(h:F2 w wr gr en ee sv vs vz o vl out zs r)(hb:Below wr.heap.size wr wb)(hg:wb.grownBy w6 row)(hr:∀q,row=some q→w.heap.size+2≤q):Blk w6 (w.heap.size+1) 70 #[vs,vz,.int .i64 o,vl] :=
 (h.fb.under hb).grown hg fun e=>by have:=hr _ e.symm;omega
theorem F2.left {wb w6:World}{v6:Value}{v:Int}(h:F2 w wr gr en ee sv vs vz o vl out zs r)(hgl:gr<w.heap.size)(hb:Below wr.heap.size wr wb)(hown:w6.ownsRow (w.heap.size+2) 2 1 v6 (out.length+1) (nums out++nums [v]))(hg:wb.grownBy w6 vs.ownBlock)
 (hat:v6.ownBlock=vs.ownBlock∨v6.ownBlock=some wb.heap.size):F2 w (w6.setCell ⟨w.heap.size+1,0,none⟩ v6) gr en ee sv v6 vz o vl (out ++ [v]) zs r:=by
 have hin:∀q,vs.ownBlock=some q→w.heap.size+2≤q∧q<wr.heap.size:=fun q hq=>own_in h.sc.2 hq
 have hz:∀q,vz.ownBlock=some q→w.heap.size+2≤q∧q<wr.heap.size:=fun q hq=>own_in h.sz.2 hq
 have hm:=h.mid hb hg fun q hq=>(hin q hq).1
 have T1:Tch wr w6 (fun k=>some k=vs.ownBlock):=((Tch.of_below hb (fun k=>some k=vs.ownBlock)).trans (Tch.of_grown hg (S:=fun k=>some k=vs.ownBlock) fun q _ hq=>hq) fun _ _ h=>h);have T2:Tch w6 (w6.setCell ⟨w.heap.size+1,0,none⟩ v6) (fun k=>k=w.heap.size+1):=Tch.put (S:=fun k=>k=w.heap.size+1) (Tch.refl w6 _) (p:=⟨w.heap.size+1,0,none⟩) _ rfl;have T:Tch wr (w6.setCell ⟨w.heap.size+1,0,none⟩ v6) (fun k=>some k=vs.ownBlock∨k=w.heap.size+1):=(T1.mono (S':=fun k=>some k=vs.ownBlock∨k=w.heap.size+1) fun k _ h=>Or.inl h).trans T2 fun k _ h=>Or.inr h
 obtain⟨hT,hQ⟩:=h.up hgl T fun k hk=>by
  rcases hk with hk | rfl
  ·exact⟨by have:=(hin k hk.symm).1;omega,fun cs hb=>own_blk_ne h.sc.2 hb (by decide) hk.symm⟩
  ·exact⟨by omega,fun cs hb=>Blk.ne_ h.fb hb (by decide) rfl⟩
 have hl:(out ++ [v]).length=out.length+1:=by simp
 have hown':w6.ownsRow (w.heap.size+2) 2 1 v6 (out ++ [v]).length (nums (out ++ [v])):=by rw[hl,show nums (out ++ [v])=nums out++nums [v] by simp[nums]];exact hown
 refine⟨T.blk h.rb ?_,hm.set_ 0 v6,⟨?_,own_off hown' T2 (off_below fun k hk=>by omega)⟩,⟨h.sz.1,T.own h.sz.2 fun g hg hk=>?_⟩,fun q hq hq2=>?_,hT,hQ⟩
 ·rintro (hk | hk)
  ·have:=(hin _ hk.symm).1;omega
  ·omega
 ·obtain⟨A,c,rfl⟩:=own_shape hown';exact⟨A,c,rfl⟩
 ·rcases hk with hk | hk
  ·exact h.ne g hk.symm hg
  ·have:=(hz g hg).1;omega
 ·rcases hat with e | e
  ·rw[e]at hq;exact h.ne q hq hq2
  ·rw[e]at hq
   injection hq with hq
   have:=(hz q hq2).2;have:=hb.size;omega
theorem F2.right {wb w6:World}{v6:Value}{v:Int}(h:F2 w wr gr en ee sv vs vz o vl out zs r)(hgl:gr<w.heap.size)(hb:Below wr.heap.size wr wb)(hown:w6.ownsRow (w.heap.size+2) 2 1 v6 (zs.length+1) (nums zs++nums [v]))(hg:wb.grownBy w6 vz.ownBlock)
 (hat:v6.ownBlock=vz.ownBlock∨v6.ownBlock=some wb.heap.size):F2 w (w6.setCell ⟨w.heap.size+1,1,none⟩ v6) gr en ee sv vs v6 o vl out (zs ++ [v]) r:=by
 have hin:∀q,vz.ownBlock=some q→w.heap.size+2≤q∧q<wr.heap.size:=fun q hq=>own_in h.sz.2 hq
 have hz:∀q,vs.ownBlock=some q→w.heap.size+2≤q∧q<wr.heap.size:=fun q hq=>own_in h.sc.2 hq
 have hm:=h.mid hb hg fun q hq=>(hin q hq).1
 have T1:Tch wr w6 (fun k=>some k=vz.ownBlock):=((Tch.of_below hb (fun k=>some k=vz.ownBlock)).trans (Tch.of_grown hg (S:=fun k=>some k=vz.ownBlock) fun q _ hq=>hq) fun _ _ h=>h);have T2:Tch w6 (w6.setCell ⟨w.heap.size+1,1,none⟩ v6) (fun k=>k=w.heap.size+1):=Tch.put (S:=fun k=>k=w.heap.size+1) (Tch.refl w6 _) (p:=⟨w.heap.size+1,1,none⟩) _ rfl;have T:Tch wr (w6.setCell ⟨w.heap.size+1,1,none⟩ v6) (fun k=>some k=vz.ownBlock∨k=w.heap.size+1):=(T1.mono (S':=fun k=>some k=vz.ownBlock∨k=w.heap.size+1) fun k _ h=>Or.inl h).trans T2 fun k _ h=>Or.inr h
 obtain⟨hT,hQ⟩:=h.up hgl T fun k hk=>by
  rcases hk with hk | rfl
  ·exact⟨by have:=(hin k hk.symm).1;omega,fun cs hb=>own_blk_ne h.sz.2 hb (by decide) hk.symm⟩
  ·exact⟨by omega,fun cs hb=>Blk.ne_ h.fb hb (by decide) rfl⟩
 have hl:(zs ++ [v]).length=zs.length+1:=by simp
 have hown':w6.ownsRow (w.heap.size+2) 2 1 v6 (zs ++ [v]).length (nums (zs ++ [v])):=by rw[hl,show nums (zs ++ [v])=nums zs++nums [v] by simp[nums]];exact hown
 refine⟨T.blk h.rb ?_,hm.set_ 1 v6,⟨h.sc.1,T.own h.sc.2 fun g hg hk=>?_⟩,⟨?_,own_off hown' T2 (off_below fun k hk=>by omega)⟩,fun q hq2 hq=>?_,hT,hQ⟩
 ·rintro (hk | hk)
  ·have:=(hin _ hk.symm).1;omega
  ·omega
 ·rcases hk with hk | hk
  ·exact h.ne g hg hk.symm
  ·have:=(hz g hg).1;omega
 ·obtain⟨A,c,rfl⟩:=own_shape hown';exact⟨A,c,rfl⟩
 ·rcases hat with e | e
  ·rw[e]at hq;exact h.ne q hq2 hq
  ·rw[e]at hq
   injection hq with hq
   have:=(hz q hq2).2;have:=hb.size;omega
def QFunR (w:World)(gr:Nat)(en ee:Int)(all:List Int)(s:Ps)(sv:Value)(e:Ending)(w':World):Prop :=
 ∃v1 v2 o v4 sv',e = .returned (.agg #[v1,v2,.int .i64 o,v4])∧((∃A n c,v1 = .slice A n c)∧(∃A n c,v2 = .slice A n c)∧∃A n c,v4 = .slice A n c)∧(∀k,sv'.ownBlock=some k→sv.ownBlock=some k∨w.heap.size≤k)∧Tch w w' (fun k=>k=gr∨some k=sv.ownBlock)∧QS w' gr en ee sv' (pfun en ee all s) ∧
  (∀f s',pfun en ee all s = .ok f s'→QFn w' v1 v2 o v4 f∧QSh w' sv' s'.sh)
theorem QFunR.early {all:List Int}{s:Ps}{er x:Int}{β:Type}(h:F2 w wr gr en ee sv vs vz o vl out zs (.bad er x:Res β))(hgl:gr<w.heap.size)(hp:pfun en ee all s = .bad er x)(hl:∃A n c,vl = .slice A n c){wf:World}
 (hw:(((wr.setCell ⟨w.heap.size,0,none⟩ vs).setCell ⟨w.heap.size,1,none⟩ vz).setCell ⟨w.heap.size,2,none⟩ (.int .i64 o)).setCell ⟨w.heap.size,3,none⟩ vl=wf) :
 Blk wf w.heap.size 70 #[vs,vz,.int .i64 o,vl]∧QFunR w gr en ee all s sv (.returned (.agg #[vs,vz,.int .i64 o,vl])) wf:=by
 obtain⟨hb,ht⟩:=raw_put h.rb hw;obtain⟨A1,c1,e1⟩:=h.sc.1;obtain⟨A2,c2,e2⟩:=h.sz.1;obtain⟨hT,hQ⟩:=h.up hgl ht fun k hk=>⟨by omega,fun cs hb=>by subst hk;exact Blk.ne_ h.rb hb (by decide) rfl⟩
 refine⟨hb,vs,vz,o,vl,sv,rfl,⟨⟨A1,_,c1,e1⟩,⟨A2,_,c2,e2⟩,hl⟩,fun k hk => .inl hk,hT.mono fun k _ h => .inl h,?_,fun f s' he=>?_⟩
 ·rw[hp];exact hQ
 ·rw[hp]at he;cases he
structure ScQ (w wr:World) (gr:Nat) (en ee:Int) (all:List Int) (k:Nat) (r1:Res (Int × Int)) (sv vs vz:Value) (out:List Int) (i:Nat):Prop where
 f2:F2 w wr gr en ee sv vs vz 0 (.slice none 0 0) out (psz all out) (r1.bind fun _ s=>pscope en ee all.length i [] s)
 len:out.length=i
 le:i≤k
 ran:∀v∈out,0≤v∧v<(all.length:Int)
 ok:∀out' s',(r1.bind fun _ s=>pscope en ee all.length i [] s) = .ok out' s'→out'=out∧i+s'.l.length≤1000000
 bad:∀e x,(r1.bind fun _ s=>pscope en ee all.length i [] s) = .bad e x→k=0
theorem ScQ.next {all:List Int}{k i:Nat}{r1:Res (Int × Int)}{s2 s3:Ps}{v x y:Int}{out:List Int}{vx:Int × Int}(h9:F2 w wr gr en ee sv vs vz 0 (.slice none 0 0) (out ++ [v]) (psz all out ++ [y]) (.ok vx s3:Res (Int × Int)))
 (hR:(r1.bind fun _ s=>pscope en ee all.length i [] s) = .ok out s2) (hS:(r1.bind fun _ s=>pscope en ee all.length (i+1) [] s)=pscope1 en ee all.length out s2) (hp:pnum en ee 0 ((all.length:Int)-1) s2 = .ok (v,x) s3) (hn:v∉out) (hy:all[v.toNat]?=some y)
 (hlen:out.length=i) (hlt:i<k) (hll:i+s2.l.length≤1000000) (ran:∀v∈out,0≤v∧v<(all.length:Int)) (hv:0≤v∧v<(all.length:Int)):ScQ w wr gr en ee all k r1 sv vs vz (out ++ [v]) (i+1):=by
 have e:(r1.bind fun _ s=>pscope en ee all.length (i+1) [] s) = .ok (out ++ [v]) s3:=by
  rw[hS];unfold pscope1;rw[hp,Res.bind_ok,if_neg hn]
 have hz:psz all (out ++ [v])=psz all out ++ [y]:=by
  unfold psz;rw[List.map_append];simp[List.getD_eq_getElem?_getD,hy]
 refine⟨?_,by simp[hlen],hlt,fun u hu=>?_,fun out' s' he=>?_,fun e' x' he=>?_⟩
 ·rw[hz]
  exact⟨h9.rb,h9.fb,h9.sc,h9.sz,h9.ne,h9.tc,by rw[e];exact h9.qs⟩
 ·rcases List.mem_append.1 hu with hu | hu
  ·exact ran u hu
  ·rw[List.mem_singleton.1 hu];exact hv
 ·rw[e]at he
  injection he with h1 h2
  have:=pnum_len hp;rw[← h2];exact⟨h1.symm,by omega⟩
 ·rw[e]at he;cases he
theorem pfun_scope_bad {all:List Int}{s:Ps}{r1:Res (Int × Int)}{k i:Nat}{e x:Int}(h1:pnum en ee (-4611686018427387904) 4611686018427387904 s=r1)(hk:∀v s',r1 = .ok v s'→v.1.natAbs=k)
 (hb:(r1.bind fun _ s=>pscope en ee all.length i [] s) = .bad e x) (hi:i≤k):pfun en ee all s = .bad e x:=by
 unfold pfun;rw[show pnum en ee (-far) far s=r1 from h1]
 cases r1 with
 |bad e' x'=>rw[Res.bind_bad]at hb ⊢;injection hb with h2 h3;rw[h2,h3]
 | ok v s1 =>
   rw[Res.bind_ok]at hb ⊢;rw[hk v s1 rfl,pscope_bad hb k hi];rfl
theorem F2.oth (h:F2 w wr gr en ee sv vs vz o vl out zs r)(hgl:gr<w.heap.size)(u:Int):F2 w (wr.setCell ⟨w.heap.size+1,2,none⟩ (.int .i64 u)) gr en ee sv vs vz u vl out zs r:=by
 have T:Tch wr (wr.setCell ⟨w.heap.size+1,2,none⟩ (.int .i64 u)) (fun k=>k=w.heap.size+1):=Tch.put (S:=fun k=>k=w.heap.size+1) (Tch.refl wr _) (p:=⟨w.heap.size+1,2,none⟩) _ rfl
 obtain⟨hT,hQ⟩:=h.up hgl T fun k hk=>by
  subst hk;exact⟨by omega,fun cs hb=>Blk.ne_ h.fb hb (by decide) rfl⟩
 exact⟨T.blk h.rb (by omega),h.fb.set_ 2 _,h.sc.tch T (off_below fun k hk=>by omega),h.sz.tch T (off_below fun k hk=>by omega),h.ne,hT,hQ⟩
theorem F2.lin (h:F2 w wr gr en ee sv vs vz o vl out zs r)(hgl:gr<w.heap.size)(u:Value):F2 w (wr.setCell ⟨w.heap.size+1,3,none⟩ u) gr en ee sv vs vz o u out zs r:=by
 have T:Tch wr (wr.setCell ⟨w.heap.size+1,3,none⟩ u) (fun k=>k=w.heap.size+1):=Tch.put (S:=fun k=>k=w.heap.size+1) (Tch.refl wr _) (p:=⟨w.heap.size+1,3,none⟩) _ rfl
 obtain⟨hT,hQ⟩:=h.up hgl T fun k hk=>by
  subst hk;exact⟨by omega,fun cs hb=>Blk.ne_ h.fb hb (by decide) rfl⟩
 exact⟨T.blk h.rb (by omega),h.fb.set_ 3 _,h.sc.tch T (off_below fun k hk=>by omega),h.sz.tch T (off_below fun k hk=>by omega),h.ne,hT,hQ⟩
theorem capped_snoc {l:List Int}{k n:Int}(hn:capped l 1=n):capped (l ++ [k]) 1=min (n*min k 4097) 4097:=by
 unfold capped at hn ⊢;rw[List.foldl_append,hn,List.foldl_cons,List.foldl_nil]
def pallW (en ee:Int)(sizes:List Int)(n:Int × Int)(s:Ps):Res (List (List Int × Int)) :=
 if n.1<0 then
  (match s.sh[(-n.1-1).toNat]? with
   |none => .bad 4 n.2
   |some x=>if x.1=sizes then .ok x.2 s else .bad 4 n.2)
 else plines en ee sizes n.1.toNat [] (plarge (decide (min (s.told+n.1) far>16384)) n.2 { s with told:=min (s.told+n.1) far })
theorem pall_is (sizes:List Int)(s:Ps):pall en ee sizes s=(pnum en ee (-far) far s).bind (pallW en ee sizes):=rfl
theorem pfun_head {all:List Int}{s:Ps}{r1:Res (Int × Int)}{k:Nat}{a xa:Int}{out:List Int}{B:Bool}{R:Res (List Int)}(h1:pnum en ee (-4611686018427387904) 4611686018427387904 s=r1)(hk:∀v s',r1 = .ok v s'→v.1.natAbs=k)(ha:∀v s',r1 = .ok v s'→a=v.1∧xa=v.2)
 (hR:(r1.bind fun _ s=>pscope en ee all.length k [] s)=R) (hout:∀out' s',R = .ok out' s'→out'=out) (hB:(decide ((k:Int)>6) || great (psz all out))=B) :
 (∀e x,((R.bind fun a s => .ok a (plarge B xa s)).bind fun _ s=>pnum en ee 0 far s).bind (fun _ s=>pnum en ee (-far) far s) = .bad e x→pfun en ee all s = .bad e x) ∧
 (∀nn s5,((R.bind fun a s => .ok a (plarge B xa s)).bind fun _ s=>pnum en ee 0 far s).bind (fun _ s=>pnum en ee (-far) far s) = .ok nn s5 →
  s5.sh=s.sh∧s5.told=s.told∧s5.l.length≤s.l.length ∧
  ∃ov s4,((R.bind fun a s => .ok a (plarge B xa s)).bind fun _ s=>pnum en ee 0 far s) = .ok ov s4 ∧
   pfun en ee all s=(pallW en ee (psz all out) nn s5).bind fun ls s => .ok ⟨out,psz all out,ov.1,ls⟩ (if a<0 then { s with sh:=s.sh ++ [(psz all out,ls)] } else s)):=by
 have e0:pfun en ee all s=r1.bind fun a s =>
  (pscope en ee all.length a.1.natAbs [] s).bind fun sc s =>
  (pnum en ee 0 far (plarge (decide ((a.1.natAbs:Int)>6) || great (psz all sc)) a.2 s)).bind fun o s =>
  (pall en ee (psz all sc) s).bind fun ls s =>
  .ok ⟨sc,psz all sc,o.1,ls⟩ (if a.1<0 then { s with sh:=s.sh ++ [(psz all sc,ls)] } else s):=by rw[← h1];rfl
 cases r1 with
 | bad e x =>
   rw[Res.bind_bad]at hR e0;subst hR;refine⟨fun e' x' h=>?_,fun nn s5 h=>(by cases h)⟩;rw[e0];have h:(Res.bad e x:Res (Int × Int)) = .bad e' x':=h;injection h with h2 h3
   subst h2 h3
   rfl
 | ok v s1 =>
   rw[Res.bind_ok]at hR e0;obtain⟨rfl,rfl⟩:=ha v s1 rfl;rw[hk v s1 rfl]at e0;have q1:=pnum_ok h1
   cases R with
   | bad e x =>
     rw[hR,Res.bind_bad]at e0;refine⟨fun e' x' h=>?_,fun nn s5 h=>(by cases h)⟩;rw[e0];have h:(Res.bad e x:Res (Int × Int)) = .bad e' x':=h;injection h with h2 h3
     subst h2 h3
     rfl
   | ok out' s2 =>
     obtain rfl:=hout out' s2 rfl;rw[hR,Res.bind_ok,hB]at e0;have q2:=pscope_ok _ _ hR;have ql:=plarge_l B v.2 s2;rw[Res.bind_ok,Res.bind_ok]
     cases h4:pnum en ee 0 far (plarge B v.2 s2) with
     | bad e x =>
       rw[h4,Res.bind_bad]at e0;refine⟨fun e' x' h=>?_,fun nn s5 h=>(by cases h)⟩;rw[e0];have h:(Res.bad e x:Res (Int × Int)) = .bad e' x':=h;injection h with h2 h3
       subst h2 h3
       rfl
     | ok ov s4 =>
       rw[h4,Res.bind_ok,pall_is]at e0;rw[Res.bind_ok];have q4:=pnum_ok h4
       cases h5:pnum en ee (-far) far s4 with
       | bad e x =>
         rw[h5,Res.bind_bad]at e0;refine⟨fun e' x' h=>?_,fun nn s5 h=>(by cases h)⟩;rw[e0];have h:(Res.bad e x:Res (Int × Int)) = .bad e' x':=h;injection h with h2 h3
         subst h2 h3
         rfl
       | ok nn s5 =>
         have q5:=pnum_ok h5;rw[h5,Res.bind_ok]at e0;refine⟨fun e' x' h=>(by cases h),fun nn' s5' h=>?_⟩;injection h with h6 h7
         subst h6 h7;refine⟨?_,?_,?_,ov,s4,rfl,e0⟩
         ·rw[q5.2.2.1,q4.2.2.1,ql.2.1,q2.2.1,q1.2.2.1]
         ·rw[q5.2.2.2.1,q4.2.2.2.1,ql.2.2,q2.2.2.1,q1.2.2.2.1]
         ·have:=q5.2.2.2.2.2
          have:=q4.2.2.2.2.2;have:=ql.1;have:=q2.2.2.2.2.1;have:=q1.2.2.2.2.2;rw[ql.1]at *;omega
theorem F2.off {w':World}{S:Nat→Prop}(h:F2 w wr gr en ee sv vs vz o vl out zs r)(hgl:gr<w.heap.size)(ht:Tch wr w' S)(hS:∀k,S k→w.heap.size+2≤k∧(∀cs,¬ Blk wr k 2 cs)∧∀cs,¬ Blk wr k 175 cs):F2 w w' gr en ee sv vs vz o vl out zs r:=by
 obtain⟨hT,hQ⟩:=h.up hgl ht fun k hk=>⟨by have:=(hS k hk).1;omega,(hS k hk).2.2⟩
 exact⟨ht.blk h.rb (fun hk=>by have:=(hS _ hk).1;omega),ht.blk h.fb (fun hk=>by have:=(hS _ hk).1;omega),h.sc.tch ht fun k hk => .inr (hS k hk).2.1,h.sz.tch ht fun k hk => .inr (hS k hk).2.1,h.ne,hT,hQ⟩
theorem F2.re {β:Type}{r':Res β}(h:F2 w wr gr en ee sv vs vz o vl out zs r)(hq:QS wr gr en ee sv r'):F2 w wr gr en ee sv vs vz o vl out zs r':=⟨h.rb,h.fb,h.sc,h.sz,h.ne,h.tc,hq⟩
def rln (en ee:Int)(zs:List Int)(nn xn:Int)(s5:Ps)(i:Nat):Res (List (List Int × Int)) :=
 if nn<0 then pallW en ee zs (nn,xn) s5
 else plines en ee zs i [] (plarge (decide (min (s5.told+nn) far>16384)) xn { s5 with told:=min (s5.told+nn) far })
structure LnQ (w wr:World) (gr:Nat) (en ee:Int) (sv vs vz:Value) (o:Int) (vl:Value) (out zs:List Int) (nn xn:Int) (s5:Ps) (lb:Nat) (L:List LT) (i:Nat):Prop where
 f2:F2 w wr gr en ee sv vs vz o vl out zs (rln en ee zs nn xn s5 i)
 ln:QLRow wr lb vl L
 lb:0≤nn→lb=w.heap.size+2
 len:0≤nn→L.length=i
 le:0≤nn→(i:Int)≤nn
 ok:∀out' s',rln en ee zs nn xn s5 i = .ok out' s'→out'=L.map (·.2)∧(0≤nn→i+s'.l.length≤1000000)
 lim:0≤nn→i≤1000001
theorem own_max {base n:Nat}{e:TypeId}{size:Nat}{v:Value}{xs:List Value}(h:wr.ownsRow base e size v n xs):n≤9223372036854775807:=by
 rcases h.2 with⟨_,h0⟩ | ⟨g,cap,cur,_,_,_,h1,h2,_⟩
 ·omega
 ·simp only[maxLen]at h2;omega
def shBad (L:List QT)(zs:List Int)(m:Nat):Bool:=match L[m]? with
 |none=>true
 |some p => !(eqB p.2.sizes zs)
theorem pallW_sh {zs:List Int}{nn xn:Int}{m:Nat}{s5:Ps}{sh:List (List Int × List (List Int × Int))}{L:List QT}{fs:List Raw}(hm:nn = -((m:Int)+1))(hs:s5.sh=sh)(hfs:(fs.map fun f=>(f.sizes,f.lines))=sh)(hL:L.map (·.2)=fs) :
 (shBad L zs m=true→pallW en ee zs (nn,xn) s5 = .bad 4 xn)∧(shBad L zs m=false→∃p,L[m]?=some p∧p.2.sizes=zs∧pallW en ee zs (nn,xn) s5 = .ok p.2.lines s5):=by
 have e:s5.sh[(-nn-1).toNat]?=L[m]?.map fun p=>(p.2.sizes,p.2.lines):=by
  rw[show (-nn-1).toNat=m by omega,hs,← hfs,← hL,List.getElem?_map,List.getElem?_map,Option.map_map];rfl
 have hn:nn<0:=by omega
 unfold pallW shBad;dsimp only;rw[if_pos hn,e]
 cases L[m]? with
 |none=>exact⟨fun _=>rfl,fun h=>by cases h⟩
 | some p =>
   dsimp only[Option.map];by_cases h:p.2.sizes=zs
   ·rw[if_pos h,show eqB p.2.sizes zs=true from decide_eq_true h]
    exact⟨fun h=>(by cases h),fun _=>⟨p,rfl,h,rfl⟩⟩
   ·rw[if_neg h,show eqB p.2.sizes zs=false from decide_eq_false h]
    exact⟨fun _=>rfl,fun h=>by cases h⟩
theorem LnQ.shared {nn xn:Int}{s5:Ps}{u:Value}{L:List LT}{ls:List (List Int × Int)}(h:F2 w wr gr en ee sv vs vz o vl out zs (.ok (nn,xn) s5:Res (Int × Int)))(hgl:gr<w.heap.size)(hn:nn<0)(hp:pallW en ee zs (nn,xn) s5 = .ok ls s5)(hl:QLRow wr 0 u L)(hL:L.map (·.2)=ls) :
 LnQ w (wr.setCell ⟨w.heap.size+1,3,none⟩ u) gr en ee sv vs vz o u out zs nn xn s5 0 L 0:=by
 have e:rln en ee zs nn xn s5 0 = .ok ls s5:=by unfold rln;rw[if_pos hn];exact hp
 have T:Tch wr (wr.setCell ⟨w.heap.size+1,3,none⟩ u) (fun k=>k=w.heap.size+1):=Tch.put (S:=fun k=>k=w.heap.size+1) (Tch.refl wr _) (p:=⟨w.heap.size+1,3,none⟩) _ rfl;have F:=h.lin hgl u;refine⟨F.re (by rw[e];exact F.qs),hl.tch T ?_ ?_,fun h=>by omega,fun h=>by omega,fun h=>by omega,fun out' s' he=>?_,fun h=>by omega⟩
 ·intro k hk;subst hk;exact .inr fun cs hb=>Blk.ne_ h.fb hb (by decide) rfl
 ·intro k hk;subst hk;exact .inr fun cs hb=>Blk.ne_ h.fb hb (by decide) rfl
 ·rw[e]at he
  injection he with h1 _
  exact⟨by rw[hL,h1],fun h=>by omega⟩
theorem LnQ.start {nn xn:Int}{s5:Ps}{γ:Type}{g:Res γ}{gg:γ}(h:F2 w wr gr en ee sv vs vz o (.slice none 0 0) out zs g)(hg:g = .ok gg (plarge (decide (min (s5.told+nn) far>16384)) xn { s5 with told:=min (s5.told+nn) far }))(hn:¬ nn<0)(hl:s5.l.length≤1000000) :
 LnQ w wr gr en ee sv vs vz o (.slice none 0 0) out zs nn xn s5 (w.heap.size+2) [] 0:=by
 have e:rln en ee zs nn xn s5 0 = .ok [] (plarge (decide (min (s5.told+nn) far>16384)) xn { s5 with told:=min (s5.told+nn) far }):=by unfold rln;rw[if_neg hn];rfl
 refine⟨h.re (by rw[e];have:=h.qs;rw[hg]at this;exact this),QLRow.nil _ _,fun _=>rfl,fun _=>rfl,fun h=>h,fun out' s' he=>?_,fun _=>Nat.zero_le _⟩;rw[e]at he;injection he with h1 h2
 refine⟨h1.symm,fun _=>?_⟩;rw[← h2,(plarge_l _ _ _).1];dsimp only;omega
theorem Qok.told {s:Ps}(h:Qok wr gr en ee s sv)(u:Int):Qok (wr.setCell ⟨gr,7,none⟩ (.int .i64 u)) gr en ee { s with told:=u } sv:=by
 obtain⟨lv,badAt,big,bigAt,hr,hw,hg⟩:=h;refine⟨lv,badAt,big,bigAt,hr.set_ 7 _,?_,hg⟩;exact hw.tch (Tch.put (S:=fun k=>k=gr) (Tch.refl wr _) (p:=⟨gr,7,none⟩) _ rfl) fun k hk cs hb=>by subst hk;exact Blk.ne_ hr hb (by decide) rfl
end Go.Proofs.YtjpkkkphhaajgaaGreatDoor.wcp
namespace Go.Proofs.YtjpkkkphhaajgaaGreatDoor.wcp
open Go RowKit ChangeShapes WideShapes ChangeAt Maps words scn
variable {w wr wq w':World} {gr:Nat} {en ee:Int} {sv:Value} {α β:Type} {r:Res α} {r':Res β}
structure LnX (wr wq:World) (gr:Nat) (en ee:Int) (sv:Value) (t:List Int) (A:Option Addr) (c:Nat) (cc:Int) (r:Res α):Prop where
 xb:Blk wq wr.heap.size 137 #[.slice A t.length c,.int .i64 cc]
 row:wq.ownsRow (wr.heap.size+1) 2 1 (.slice A t.length c) t.length (nums t)
 tc:Tch wr wq (fun k=>k=gr)
 qs:QS wq gr en ee sv r
variable {t:List Int} {A:Option Addr} {c:Nat} {cc:Int}
theorem LnX.start (hq:QS wr gr en ee sv r):LnX wr (wr.alloc (.cells #[.slice none 0 0,.int .i64 0] 137)) gr en ee sv [] none 0 0 r :=
 ⟨Blk.new _ _ _,World.ownsRow_nil _ _ _ _,Tch.of_below (bone wr _) _,hq.below (bone wr _)⟩
theorem LnX.tch (h:LnX wr wq gr en ee sv t A c cc r)(hgl:gr<wr.heap.size)(ht:Tch wq w' (fun k=>k=gr))(hq:QS w' gr en ee sv r'):LnX wr w' gr en ee sv t A c cc r' :=
 ⟨ht.blk h.xb (by omega),own_off h.row ht (h.qs.off (by decide)),h.tc.trans ht fun _ _ h=>h,hq⟩
theorem LnX.re (h:LnX wr wq gr en ee sv t A c cc r)(hq:QS wq gr en ee sv r'):LnX wr wq gr en ee sv t A c cc r':=⟨h.xb,h.row,h.tc,hq⟩
theorem LnX.mid {wb w6:World}{row:Option Nat}(h:LnX wr wq gr en ee sv t A c cc r)(hb:Below wq.heap.size wq wb)(hg:wb.grownBy w6 row)(hr:∀q,row=some q→wr.heap.size+1≤q):Blk w6 wr.heap.size 137 #[.slice A t.length c,.int .i64 cc] :=
 (h.xb.under hb).grown hg fun e=>by have:=hr _ e.symm;omega
theorem LnX.app {wb w6:World}{v:Int}{A6:Option Addr}{c6:Nat}(h:LnX wr wq gr en ee sv t A c cc r)(hgl:gr<wr.heap.size)(hb:Below wq.heap.size wq wb)
 (hown:w6.ownsRow (wr.heap.size+1) 2 1 (.slice A6 (t.length+1) c6) (t.length+1) (nums t++nums [v])) (hg:wb.grownBy w6 (Value.slice A t.length c).ownBlock) :
 LnX wr (w6.setCell ⟨wr.heap.size,0,none⟩ (.slice A6 (t.length+1) c6)) gr en ee sv (t ++ [v]) A6 c6 cc r:=by
 have hin:∀q,(Value.slice A t.length c).ownBlock=some q→wr.heap.size+1≤q∧q<wq.heap.size:=fun q hq=>own_in h.row hq
 have hm:=h.mid hb hg fun q hq=>(hin q hq).1
 have T1:Tch wq w6 (fun k=>some k=(Value.slice A t.length c).ownBlock):=((Tch.of_below hb (fun k=>some k=(Value.slice A t.length c).ownBlock)).trans (Tch.of_grown hg (S:=fun k=>some k=(Value.slice A t.length c).ownBlock) fun q _ hq=>hq) fun _ _ h=>h);have T2:Tch w6 (w6.setCell ⟨wr.heap.size,0,none⟩ (.slice A6 (t.length+1) c6)) (fun k=>k=wr.heap.size):=Tch.put (S:=fun k=>k=wr.heap.size) (Tch.refl w6 _) (p:=⟨wr.heap.size,0,none⟩) _ rfl;have T:Tch wq (w6.setCell ⟨wr.heap.size,0,none⟩ (.slice A6 (t.length+1) c6)) (fun k=>some k=(Value.slice A t.length c).ownBlock∨k=wr.heap.size):=(T1.mono (S':=fun k=>some k=(Value.slice A t.length c).ownBlock∨k=wr.heap.size) fun k _ h=>Or.inl h).trans T2 fun k _ h=>Or.inr h
 have hl:(t ++ [v]).length=t.length+1:=by simp
 refine⟨?_,?_,h.tc.trans T fun k hk hs=>?_,h.qs.tch T ?_ ?_⟩
 ·rw[hl];exact hm.set_ 0 _
 ·rw[hl,show nums (t ++ [v])=nums t++nums [v] by simp[nums]]
  exact own_off hown T2 (off_below fun k hk=>by omega)
 ·rcases hs with hs | hs
  ·have:=(hin _ hs.symm).1;omega
  ·omega
 ·rintro (hs | hs)
  ·have:=(hin _ hs.symm).1;omega
  ·omega
 ·rintro k (hs | rfl) cs hbk
  ·exact own_blk_ne h.row hbk (by decide) hs.symm
  ·exact Blk.ne_ h.xb hbk (by decide) rfl
theorem LnX.put (h:LnX wr wq gr en ee sv t A c cc r)(hgl:gr<wr.heap.size)(u:Int):LnX wr (wq.setCell ⟨wr.heap.size,1,none⟩ (.int .i64 u)) gr en ee sv t A c u r:=by
 have T:Tch wq (wq.setCell ⟨wr.heap.size,1,none⟩ (.int .i64 u)) (fun k=>k=wr.heap.size):=Tch.put (S:=fun k=>k=wr.heap.size) (Tch.refl wq _) (p:=⟨wr.heap.size,1,none⟩) _ rfl;exact⟨h.xb.set_ 1 _,own_off h.row T (off_below fun k hk=>by omega),h.tc.trans T (fun k hk hs=>by omega),h.qs.tch T (fun hs=>by omega) fun k hk cs hb=>by subst hk;exact Blk.ne_ h.xb hb (by decide) rfl⟩
def pdup (tt:List Int)(xc:Int)(l:List (List Int))(r:Res α):Res Unit:=r.bind fun _ s=>if tt∈l then .bad 4 xc else .ok () s
theorem pdup_next {tt u:List Int}{xc:Int}{l:List (List Int)}{j:Nat}(hu:l[j]?=some u) :
 (∀e x,pdup tt xc (l.take j) r = .bad e x→pdup tt xc (l.take (j+1)) r = .bad e x)∧(∀a s,pdup tt xc (l.take j) r = .ok a s→pdup tt xc (l.take (j+1)) r=if tt=u then .bad 4 xc else .ok () s):=by
 have e:∀x:List Int,x∈l.take (j+1)↔x∈l.take j∨x=u:=fun x=>by rw[List.take_add_one,hu];simp
 cases r with
 |bad e' x'=>exact⟨fun e x h=>h,fun a s h=>by cases h⟩
 | ok a0 s0 =>
   unfold pdup;rw[Res.bind_ok,Res.bind_ok];by_cases h1:tt∈l.take j
   ·rw[if_pos h1,if_pos ((e tt).2 (.inl h1))]
    exact⟨fun e x h=>h,fun a s h=>by cases h⟩
   ·rw[if_neg h1]
    refine⟨fun e x h=>(by cases h),fun a s h=>?_⟩;injection h with _ h
    subst h;by_cases h2:tt=u
    ·rw[if_pos h2,if_pos ((e tt).2 (.inr h2))]
    ·rw[if_neg h2,if_neg fun h=>by rcases (e tt).1 h with h | h<;>contradiction]
theorem pdup_nil {tt:List Int}{xc:Int}(hq:QS wq gr en ee sv r):QS wq gr en ee sv (pdup tt xc [] r) :=
 hq.same (fun a s e=>⟨(),by rw[e];unfold pdup;rw[Res.bind_ok,if_neg (by simp)]⟩) fun e x h=>by rw[h];rfl
variable {vs vz vl:Value} {o:Int} {out zs:List Int} {nn xn:Int} {s5:Ps} {lb:Nat} {L:List LT} {i:Nat}
theorem rln_snoc (hn:0≤nn):rln en ee zs nn xn s5 (i+1)=(rln en ee zs nn xn s5 i).bind fun out s=>pline (en:=en) (ee:=ee) zs out s:=by
 unfold rln;rw[if_neg (by omega),if_neg (by omega),plines_snoc]
theorem LnQ.next {wa w6:World}{v6:Value}{tt:List Int}{xc:Int}{ls:List (List Int × Int)}{s4:Ps}(h:LnQ w wr gr en ee sv vs vz o vl out zs nn xn s5 lb L i)(hgl:gr<w.heap.size)(hn:0≤nn)(hi:(i:Int)<nn)(he:rln en ee zs nn xn s5 i = .ok ls s4)
 (htq:∀t' s',ptup en ee zs [] s4 = .ok t' s'→t'=tt) (hv:∀v s',((ptup en ee zs [] s4).bind fun _ s=>pnum en ee 0 far s) = .ok v s'→cc=v.1∧xc=v.2)
 (hx:LnX wr wq gr en ee sv tt A c cc (pdup tt xc (L.map (·.2.1)) ((ptup en ee zs [] s4).bind fun _ s=>pnum en ee 0 far s)))
 (hb:Below wq.heap.size wq wa) (hown:w6.ownsRow (w.heap.size+2) 137 2 v6 (L.length+1) (lcells L ++ [.slice A tt.length c,.int .i64 cc])) (hg:wa.grownBy w6 vl.ownBlock) :
 LnQ w (w6.setCell ⟨w.heap.size+1,3,none⟩ v6) gr en ee sv vs vz o v6 out zs nn xn s5 (w.heap.size+2) (L ++ [(.slice A tt.length c,tt,cc)]) (i+1):=by
 have hlb:=h.lb hn;subst hlb;have hsz:=h.f2.size;have hgr:gr<wr.heap.size:=by omega
 have F:=h.f2.tch hgl hx.tc hx.qs;have R:=h.ln.tch hx.tc (h.f2.qs.off (by decide)) (h.f2.qs.off (by decide));have hin:∀q,vl.ownBlock=some q→w.heap.size+2≤q∧q<wr.heap.size:=fun q hq=>own_in h.ln.2.1 hq
 have T1:Tch wq w6 (fun k=>some k=vl.ownBlock):=((Tch.of_below hb (fun k=>some k=vl.ownBlock)).trans (Tch.of_grown hg (S:=fun k=>some k=vl.ownBlock) fun q _ hq=>hq) fun _ _ h=>h);have F6:=F.off hgl T1 fun k hk=>⟨(hin k hk.symm).1,fun cs hbk=>own_blk_ne R.2.1 hbk (by decide) hk.symm,fun cs hbk=>own_blk_ne R.2.1 hbk (by decide) hk.symm⟩
 have F7:=F6.lin hgl v6;have T2:Tch w6 (w6.setCell ⟨w.heap.size+1,3,none⟩ v6) (fun k=>k=w.heap.size+1):=Tch.put (S:=fun k=>k=w.heap.size+1) (Tch.refl w6 _) (p:=⟨w.heap.size+1,3,none⟩) _ rfl;have hl:(L ++ [((Value.slice A tt.length c,tt,cc):LT)]).length=L.length+1:=by simp
 have hown':w6.ownsRow (w.heap.size+2) 137 2 v6 (L ++ [((Value.slice A tt.length c,tt,cc):LT)]).length (lcells (L ++ [((Value.slice A tt.length c,tt,cc):LT)])):=by rw[hl,lc_snoc];exact hown
 have hmm:∀l:List LT,l.map (·.2.1)=(l.map (·.2)).map Prod.fst:=fun l=>by rw[List.map_map];rfl
 have hpc:=pline_cases (out:=L.map (·.2)) htq hv;have hok:=h.ok ls s4 he;have hnx:rln en ee zs nn xn s5 (i+1)=pline (en:=en) (ee:=ee) zs (L.map (·.2)) s4:=by rw[rln_snoc hn,he,Res.bind_ok,hok.1]
 rw[← hmm]at hpc;refine⟨F7.re ?_,⟨?_,own_off hown' T2 (off_below fun k hk=>by omega),fun p hp=>?_⟩,fun _=>rfl,fun _=>by rw[hl,h.len hn],fun _=>by omega,fun out' s' hp=>?_,fun _=>?_⟩
 ·refine F7.qs.same (fun a s e=>?_) fun e x e'=>?_
  ·rcases hpc with⟨er,x0,hB,hP⟩ | ⟨s6,hB,hP⟩
   ·rw[hB]at e;cases e
   ·rw[hB]at e
    unfold pdup at e;rw[Res.bind_ok]at e;rw[hnx,hP];by_cases hm:tt∈L.map (·.2.1)
    ·rw[if_pos hm]at e;cases e
    ·rw[if_neg hm]at e ⊢
     injection e with _ e
     rw[e];exact⟨_,rfl⟩
  ·rcases hpc with⟨er,x0,hB,hP⟩ | ⟨s6,hB,hP⟩
   ·rw[hB]at e'
    have e'':(Res.bad er x0:Res Unit) = .bad e x:=e';injection e'' with h1 h2
    rw[hnx,hP,h1,h2]
   ·rw[hB]at e'
    unfold pdup at e';rw[Res.bind_ok]at e';rw[hnx,hP];by_cases hm:tt∈L.map (·.2.1)
    ·rw[if_pos hm]at e' ⊢
     injection e' with h1 h2
     rw[h1,h2]
    ·rw[if_neg hm]at e';cases e'
 ·obtain⟨A6,c6,rfl⟩:=own_shape hown';exact⟨A6,c6,rfl⟩
 ·have o1:Off wq (w.heap.size+2) (fun k=>some k=vl.ownBlock) 2:=off_own R.2.1 (by decide)
  have o2:Off w6 (w.heap.size+2) (fun k=>k=w.heap.size+1) 2:=off_below fun k hk=>by omega
  rcases List.mem_append.1 hp with hp | hp
  ·exact ((R.2.2 p hp).tch T1 o1).tch T2 o2
  ·rw[List.mem_singleton.1 hp]
   exact ((Row64.down (b':=w.heap.size+2) (⟨⟨_,_,rfl⟩,hx.row⟩:Row64 wq (wr.heap.size+1) (.slice A tt.length c) tt) (by omega)).tch T1 o1).tch T2 o2
 ·rw[hnx]at hp
  obtain⟨t',c',e1,-,-,-,-,e5,-,-⟩:=pline_ok hp;have h2:=hok.2 hn;refine⟨?_,fun _=>by omega⟩;rcases hpc with⟨er,x0,hB,hP⟩ | ⟨s6,hB,hP⟩
  ·rw[hP]at hp;cases hp
  ·rw[hP]at hp
   by_cases hm:tt∈L.map (·.2.1)
   ·rw[if_pos hm]at hp;cases hp
   ·rw[if_neg hm]at hp
    injection hp with hp _
    rw[← hp,List.map_append];rfl
 ·have:=hok.2 hn;omega
theorem LnQ.done (h:LnQ w wr gr en ee sv vs vz o vl out zs nn xn s5 lb L i)(hx:nn<0∨(i:Int)=nn∨∃e x,rln en ee zs nn xn s5 i = .bad e x) :
 F2 w wr gr en ee sv vs vz o vl out zs (pallW en ee zs (nn,xn) s5)∧QLRow wr 0 vl L∧(∀ls s',pallW en ee zs (nn,xn) s5 = .ok ls s'→ls=L.map (·.2)):=by
 have e:rln en ee zs nn xn s5 i=pallW en ee zs (nn,xn) s5:=by
  by_cases hn:nn<0
  ·unfold rln;rw[if_pos hn]
  ·have e1:pallW en ee zs (nn,xn) s5=plines en ee zs nn.toNat [] (plarge (decide (min (s5.told+nn) far>16384)) xn { s5 with told:=min (s5.told+nn) far }):=by
    unfold pallW;dsimp only;rw[if_neg hn]
   have e2:rln en ee zs nn xn s5 i=plines en ee zs i [] (plarge (decide (min (s5.told+nn) far>16384)) xn { s5 with told:=min (s5.told+nn) far }):=by
    unfold rln;rw[if_neg hn]
   rcases hx with hx | hx | ⟨e,x,hx⟩
   ·exact absurd hx hn
   ·rw[e1,e2,show nn.toNat=i by omega]
   ·have:=h.le (by omega)
    rw[hx,e1];rw[e2]at hx;exact (plines_bad zs hx nn.toNat (by omega)).symm
 refine⟨by rw[← e];exact h.f2,h.ln.down (Nat.zero_le _),fun ls s' he=>?_⟩;rw[← e]at he;exact (h.ok ls s' he).1
theorem pallW_ok {ls:List (List Int × Int)}{s':Ps}(h:pallW en ee zs (nn,xn) s5 = .ok ls s'):s'.sh=s5.sh:=by
 unfold pallW at h;dsimp only at h;by_cases hn:nn<0
 ·rw[if_pos hn]at h
  cases hs:s5.sh[(-nn-1).toNat]? with
  |none=>rw[hs]at h;cases h
  | some x =>
    rw[hs]at h;dsimp only at h;by_cases hz:x.1=zs
    ·rw[if_pos hz]at h;injection h with _ h;rw[h]
    ·rw[if_neg hz]at h;cases h
 ·rw[if_neg hn]at h
  have:=(plines_ok _ h).2.1;rw[this,(plarge_l _ _ _).2.1]
theorem QFunR.late {all:List Int}{s:Ps}{a:Int}(h:F2 w wr gr en ee sv vs vz o vl out zs (pallW en ee zs (nn,xn) s5))(hl:QLRow wr 0 vl L)(hls:∀ls s',pallW en ee zs (nn,xn) s5 = .ok ls s'→ls=L.map (·.2))(hgl:gr<w.heap.size)(h0:Qok w gr en ee s sv)
 (hp:pfun en ee all s=(pallW en ee zs (nn,xn) s5).bind fun ls s => .ok ⟨out,zs,o,ls⟩ (if a<0 then { s with sh:=s.sh ++ [(zs,ls)] } else s)) (ha:¬ a<0) (hsh:QSh w sv s.sh) (h5:s5.sh=s.sh) {wf:World}
 (hw:(((wr.setCell ⟨w.heap.size,0,none⟩ vs).setCell ⟨w.heap.size,1,none⟩ vz).setCell ⟨w.heap.size,2,none⟩ (.int .i64 o)).setCell ⟨w.heap.size,3,none⟩ vl=wf) :
 Blk wf w.heap.size 70 #[vs,vz,.int .i64 o,vl]∧QFunR w gr en ee all s sv (.returned (.agg #[vs,vz,.int .i64 o,vl])) wf:=by
 obtain⟨hb,ht⟩:=raw_put h.rb hw;obtain⟨A1,c1,e1⟩:=h.sc.1;obtain⟨A2,c2,e2⟩:=h.sz.1;obtain⟨A3,c3,e3⟩:=hl.1;have hno:∀ (ty:TypeId),70≠ty→Off wr 0 (fun k=>k=w.heap.size) ty:=fun ty hne k hk => .inr fun cs hbk=>by subst hk;exact Blk.ne_ h.rb hbk hne rfl
 have hq0:QS w gr en ee sv (.ok () s:Res Unit):=h0;obtain⟨hT,hQ⟩:=h.up hgl ht fun k hk=>⟨by omega,fun cs hb=>by subst hk;exact Blk.ne_ h.rb hb (by decide) rfl⟩
 refine⟨hb,vs,vz,o,vl,sv,rfl,⟨⟨A1,_,c1,e1⟩,⟨A2,_,c2,e2⟩,⟨A3,_,c3,e3⟩⟩,fun k hk => .inl hk,hT.mono fun k _ h => .inl h,?_,fun f s' he=>?_⟩
 ·rw[hp]
  refine hQ.same (fun ls s1 e=>?_) fun e x e'=>by rw[e'];rfl
  rw[e,Res.bind_ok,if_neg ha];exact⟨_,rfl⟩
 ·rw[hp]at he
  cases hpw:pallW en ee zs (nn,xn) s5 with
  |bad e x=>rw[hpw]at he;cases he
  | ok ls s1 =>
    rw[hpw,Res.bind_ok,if_neg ha]at he;injection he with he1 he2
    subst he1 he2;refine⟨⟨rfl,(h.sc.down (Nat.zero_le _)).tch ht (hno _ (by decide)),(h.sz.down (Nat.zero_le _)).tch ht (hno _ (by decide)),⟨L,(hls ls s1 hpw).symm,hl.tch ht (hno _ (by decide)) (hno _ (by decide))⟩⟩,?_⟩;rw[pallW_ok hpw,h5];exact hsh.tch hT (hq0.off (by decide)) (hq0.off (by decide)) (hq0.off (by decide))
theorem QS.share (h:QS wr gr en ee sv r)(u:Value):QS (wr.setCell ⟨gr,8,none⟩ u) gr en ee u r:=by
 cases r with
 | ok a s =>
   obtain⟨lv,badAt,big,bigAt,hr,hw,hg⟩:=h;refine⟨lv,badAt,big,bigAt,hr.set_ 8 _,?_,hg⟩
   exact hw.tch (Tch.put (S:=fun k=>k=gr) (Tch.refl wr _) (p:=⟨gr,8,none⟩) _ rfl) fun k hk cs hb=>by subst hk;exact Blk.ne_ hr hb (by decide) rfl
 | bad e x =>
   obtain⟨lv,big,bigAt,told,hr,he⟩:=h;exact⟨lv,big,bigAt,told,hr.set_ 8 _,he⟩
theorem F2.share {w1 w9:World}{n:Nat}{xs:List Value}(h:F2 w wr gr en ee sv vs vz o vl out zs r)(hgl:gr<w.heap.size)(hso:w.ownsRow 0 70 4 sv n xs)(h0:Qok w gr en ee s5 sv)(hb:Below wr.heap.size wr w1)(hg:w1.grownBy w9 sv.ownBlock) :
 (∀u,Blk (w9.setCell ⟨gr,8,none⟩ u) w.heap.size 70 #[.slice none 0 0,.slice none 0 0,.int .i64 0,.slice none 0 0]∧Blk (w9.setCell ⟨gr,8,none⟩ u) (w.heap.size+1) 70 #[vs,vz,.int .i64 o,vl]) ∧
  w9.cell? ⟨gr,8,none⟩=some sv∧w9.frozen? ⟨gr,8,none⟩=false∧QS w9 gr en ee sv r∧Tch wr w9 (fun k=>some k=sv.ownBlock):=by
 have hq0:QS w gr en ee sv (.ok () s5:Res Unit):=h0;have hlt:∀q,sv.ownBlock=some q→q<w.heap.size:=fun q hq=>(own_in hso hq).2
 have hsz:=h.size;obtain⟨_,_,_,_,_,_,hr,_⟩:=h.qs.blk;obtain⟨_,_,_,_,_,_,hr0,_⟩:=hq0.blk;have hng:sv.ownBlock≠some gr:=own_blk_ne hso hr0 (by decide);have T1:Tch wr w9 (fun k=>some k=sv.ownBlock):=((Tch.of_below hb (fun k=>some k=sv.ownBlock)).trans (Tch.of_grown hg (S:=fun k=>some k=sv.ownBlock) fun q _ hq=>hq) fun _ _ h=>h);have hr9:=T1.blk hr fun hk=>hng hk.symm
 refine⟨fun u=>?_,(QB.cells hr9).2.2.2.2.2.2.2.2.1,(QB.cells hr9).2.2.2.2.2.2.2.2.2 8,h.qs.tch T1 (fun hk=>hng hk.symm) fun k hk cs hbk=>?_,T1⟩
 ·have T2:Tch w9 (w9.setCell ⟨gr,8,none⟩ u) (fun k=>k=gr):=Tch.put (S:=fun k=>k=gr) (Tch.refl w9 _) (p:=⟨gr,8,none⟩) _ rfl
  exact⟨T2.blk (T1.blk h.rb fun hk=>by have:=hlt _ hk.symm;omega) (by omega),T2.blk (T1.blk h.fb fun hk=>by have:=hlt _ hk.symm;omega) (by omega)⟩
 ·have hso':=own_off hso h.tc (hq0.off (by decide))
  exact own_blk_ne hso' hbk (by decide) hk.symm
theorem QFunR.neg {all:List Int}{s:Ps}{a:Int}{SL:List QT}{fs:List Raw}{w1 w9:World}{v9:Value}(h:F2 w wr gr en ee sv vs vz o vl out zs (pallW en ee zs (nn,xn) s5))(hl:QLRow wr 0 vl L)(hls:∀ls s',pallW en ee zs (nn,xn) s5 = .ok ls s'→ls=L.map (·.2))(hgl:gr<w.heap.size)(h0:Qok w gr en ee s sv)
 (hp:pfun en ee all s=(pallW en ee zs (nn,xn) s5).bind fun ls s => .ok ⟨out,zs,o,ls⟩ (if a<0 then { s with sh:=s.sh ++ [(zs,ls)] } else s)) (ha:a<0) (h5:s5.sh=s.sh)
 (hfs:(fs.map fun f=>(f.sizes,f.lines))=s.sh) (hL:SL.map (·.2)=fs) (hso:w.ownsRow 0 70 4 sv SL.length (qcells SL)) (hsp:∀p∈SL,QFn w p.1.1 p.1.2.1 p.1.2.2.1 p.1.2.2.2 p.2)
 (hb:Below wr.heap.size wr w1) (hown:w9.ownsRow 0 70 4 v9 (SL.length+1) (qcells SL ++ [vs,vz,.int .i64 o,vl])) (hg:w1.grownBy w9 sv.ownBlock) (hat:v9.ownBlock=sv.ownBlock∨v9.ownBlock=some w1.heap.size) {wf:World}
 (hw:((((w9.setCell ⟨gr,8,none⟩ v9).setCell ⟨w.heap.size,0,none⟩ vs).setCell ⟨w.heap.size,1,none⟩ vz).setCell ⟨w.heap.size,2,none⟩ (.int .i64 o)).setCell ⟨w.heap.size,3,none⟩ vl=wf) :
 Blk wf w.heap.size 70 #[vs,vz,.int .i64 o,vl]∧QFunR w gr en ee all s sv (.returned (.agg #[vs,vz,.int .i64 o,vl])) wf:=by
 obtain⟨hbk,-,-,q9,T1⟩:=h.share hgl hso h0 hb hg;obtain⟨hr9,-⟩:=hbk v9;obtain⟨hbf,ht⟩:=raw_put hr9 hw;obtain⟨A1,c1,e1⟩:=h.sc.1;obtain⟨A2,c2,e2⟩:=h.sz.1;obtain⟨A3,c3,e3⟩:=hl.1;have hsz:=h.size;have hbs:=hb.size;have hlt:∀q,sv.ownBlock=some q→q<w.heap.size:=fun q hq=>(own_in hso hq).2
 have hq0:QS w gr en ee sv (.ok () s:Res Unit):=h0;have hsw:=own_off hso h.tc (hq0.off (by decide));have T2:Tch w9 (w9.setCell ⟨gr,8,none⟩ v9) (fun k=>k=gr):=Tch.put (S:=fun k=>k=gr) (Tch.refl w9 _) (p:=⟨gr,8,none⟩) _ rfl;have TF:Tch wr wf (fun k=>some k=sv.ownBlock∨k=gr∨k=w.heap.size):=((T1.mono (S':=fun k=>some k=sv.ownBlock∨k=gr∨k=w.heap.size) fun k _ h=>Or.inl h).trans T2 fun k _ h=>Or.inr (Or.inl h)).trans ht fun k _ h=>Or.inr (Or.inr h)
 have TW:Tch w wf (fun k=>k=gr∨some k=sv.ownBlock):=(h.tc.mono (S':=fun k=>k=gr∨some k=sv.ownBlock) fun k _ h=>Or.inl h).trans TF fun k hk hs=>by
  rcases hs with hs | hs | hs
  ·exact .inr hs
  ·exact .inl hs
  ·omega
 have qf:QS wf gr en ee v9 (pallW en ee zs (nn,xn) s5):=(q9.share v9).tch ht (by omega) fun k hk cs hb=>by subst hk;exact Blk.ne_ hr9 hb (by decide) rfl
 obtain⟨_,_,_,_,_,_,hrw,_⟩:=h.qs.blk
 have oty:∀ (ty:TypeId),70≠ty→173≠ty→Off wr 0 (fun k=>some k=sv.ownBlock∨k=gr∨k=w.heap.size) ty:=by
  intro ty hn1 hn2 k hk;refine .inr fun cs hbx=>?_
  rcases hk with hk | hk | hk
  ·exact own_blk_ne hsw hbx hn1 hk.symm
  ·exact Blk.ne_ hrw hbx hn2 hk.symm
  ·exact Blk.ne_ h.rb hbx hn1 hk.symm
 have otw:∀ (ty:TypeId),70≠ty→173≠ty→Off w 0 (fun k=>k=gr∨some k=sv.ownBlock) ty:=by
  intro ty hn1 hn2 k hk;rcases hk with rfl | hk
  ·exact (hq0.off hn2) k rfl
  ·exact .inr fun cs hbk=>own_blk_ne hso hbk hn1 hk.symm
 refine⟨hbf,vs,vz,o,vl,v9,rfl,⟨⟨A1,_,c1,e1⟩,⟨A2,_,c2,e2⟩,⟨A3,_,c3,e3⟩⟩,fun k hk=>?_,TW,?_,fun f s' he=>?_⟩
 ·rcases hat with e | e
  ·rw[e]at hk;exact .inl hk
  ·rw[e]at hk;injection hk with hk;right;omega
 ·rw[hp]
  cases hpw:pallW en ee zs (nn,xn) s5 with
  |bad e x=>rw[hpw]at qf;exact qf
  |ok ls s1=>rw[hpw]at qf;rw[Res.bind_ok,if_pos ha];exact qf
 ·rw[hp]at he
  cases hpw:pallW en ee zs (nn,xn) s5 with
  |bad e x=>rw[hpw]at he;cases he
  | ok ls s1 =>
    rw[hpw,Res.bind_ok,if_pos ha]at he;injection he with he1 he2
    subst he1 he2;have hfn:QFn wf vs vz o vl ⟨out,zs,o,ls⟩:=⟨rfl,(h.sc.down (Nat.zero_le _)).tch TF (oty _ (by decide) (by decide)),(h.sz.down (Nat.zero_le _)).tch TF (oty _ (by decide) (by decide)),⟨L,(hls ls s1 hpw).symm,hl.tch TF (oty _ (by decide) (by decide)) (oty _ (by decide) (by decide))⟩⟩;refine⟨hfn,fs ++ [⟨out,zs,o,ls⟩],?_,SL ++ [((vs,vz,o,vl),⟨out,zs,o,ls⟩)],by rw[List.map_append,hL];rfl,?_,?_,fun p hp=>?_⟩
    ·rw[List.map_append,hfs,pallW_ok hpw,h5];rfl
    ·obtain⟨A9,c9,rfl⟩:=own_shape hown;exact⟨A9,c9,by simp⟩
    ·have hl1:(SL ++ [((vs,vz,o,vl),(⟨out,zs,o,ls⟩:Raw))]).length=SL.length+1:=by simp
     rw[hl1,qc_snoc]
     have h1:=own_off hown T2 fun k hk => .inr fun cs hbx=>by
      obtain⟨_,_,_,_,_,_,hr9',_⟩:=q9.blk;exact Blk.ne_ hr9' hbx (by decide) hk.symm
     refine ht.own h1 fun g hg hk=>?_
     subst hk;rcases hat with e | e
     ·rw[e]at hg;have:=hlt _ hg;omega
     ·rw[e]at hg;injection hg with hg;omega
    ·rcases List.mem_append.1 hp with hp | hp
     ·exact (hsp p hp).tch TW (otw _ (by decide) (by decide)) (otw _ (by decide) (by decide))
     ·rw[List.mem_singleton.1 hp];exact hfn
theorem tup_qs {j:Nat}{y:Int}{s4:Ps}(hy:zs[j]?=some y)(h:QS wq gr en ee sv ((ptup en ee (zs.take j) [] s4).bind fun _ s=>pnum en ee 0 (y-1) s)):QS wq gr en ee sv (ptup en ee (zs.take (j+1)) [] s4):=by
 rw[tup_next hy];refine h.same (fun a s e=>?_) fun e0 x0 e=>?_
 ·cases hA:ptup en ee (zs.take j) [] s4 with
  |bad e0 x0=>rw[hA]at e;cases e
  | ok t s0 =>
    rw[hA,Res.bind_ok]at e;rw[Res.bind_ok,e];exact⟨_,rfl⟩
 ·cases hA:ptup en ee (zs.take j) [] s4 with
  | bad e1 x1 =>
    rw[hA]at e;have e':(Res.bad e1 x1:Res (Int × Int)) = .bad e0 x0:=e;injection e' with h1 h2
    rw[h1,h2];rfl
  | ok t s0 =>
    rw[hA,Res.bind_ok]at e;rw[Res.bind_ok,e];rfl
theorem tup_val {j:Nat}{y v x:Int}{s4:Ps}{tt:List Int}(hy:zs[j]?=some y)(htq:∀t' s',ptup en ee (zs.take j) [] s4 = .ok t' s'→t'=tt)(hv:∀v' s',((ptup en ee (zs.take j) [] s4).bind fun _ s=>pnum en ee 0 (y-1) s) = .ok v' s'→v=v'.1∧x=v'.2) :
 ∀t' s',ptup en ee (zs.take (j+1)) [] s4 = .ok t' s'→t'=tt ++ [v]:=by
 intro t' s' he;rw[tup_next hy]at he
 cases hpt:ptup en ee (zs.take j) [] s4 with
 |bad e1 x1=>rw[hpt]at he;cases he
 | ok t1 s1 =>
   rw[hpt,Res.bind_ok]at he hv
   cases hpn:pnum en ee 0 (y-1) s1 with
   |bad e1 x1=>rw[hpn]at he;cases he
   | ok v1 s2 =>
     rw[hpn,Res.bind_ok]at he;injection he with he _
     rw[← he,htq t1 s1 hpt,(hv v1 s2 hpn).1]
theorem qlc_at {L:List LT}{i:Nat}{p:LT}(h:L[i]?=some p):(lcells L)[i*2]?=some p.1∧(lcells L)[i*2+1]?=some (.int .i64 p.2.2):=by
 induction L generalizing i with
 |nil=>simp at h
 | cons q L ih =>
   cases i with
   |zero=>simp at h;subst h;exact⟨rfl,rfl⟩
   | succ i =>
     have:=ih (i:=i) (by simpa using h);rw[show (i+1)*2=i*2+1+1 by omega];exact this
theorem qok_of {γ:Type}{g:Res γ}{a:γ}{s4:Ps}{b:β}(hq:QS wq gr en ee sv g)(hg:g = .ok a s4):QS wq gr en ee sv (.ok b s4:Res β):=by
 rw[hg]at hq;exact hq
theorem good_ok {γ:Type}{g:Res γ}(h:g.good=true):∃a s,g = .ok a s:=by
 cases g with
 |ok a s=>exact⟨a,s,rfl⟩
 |bad e x=>cases h
theorem bad_of {γ:Type}{g:Res γ}(h:¬ g.good=true):∃e x,g = .bad e x:=by
 cases g with
 |ok a s=>exact absurd rfl h
 |bad e x=>exact⟨e,x,rfl⟩
end Go.Proofs.YtjpkkkphhaajgaaGreatDoor.wcp
