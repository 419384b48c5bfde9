/- a part -/
import Derived.Test.YtjpkkkphhaajgaaGreatDoorQdP15
import Derived.Test.YtjpkkkphhaajgaaGreatDoorQdP17
import Derived.Maps.RangeWalk
set_option linter.all false
namespace Go.Proofs.YtjpkkkphhaajgaaGreatDoor.wcp
open Go RowKit ChangeShapes WideShapes ChangeAt Maps words scn
theorem fc_at {V:List FT}(h2:∀p∈V,∃a b,p.1 = .agg #[a,b]):∀ {i:Nat} {a b:Value} {lo hi:Nat} {f:Raw},V[i]?=some (.agg #[a,b],lo,hi,f)→(fcells V)[i*2]?=some a∧(fcells V)[i*2+1]?=some b:=by
 induction V with
 |nil=>intro i a b lo hi f h;simp at h
 | cons q V ih =>
   intro i a b lo hi f h;obtain⟨a',b',hq⟩:=h2 q (by simp);obtain⟨qv,ql,qh,qf⟩:=q;dsimp only at hq;subst hq
   cases i with
   | zero =>
     simp at h;obtain⟨⟨rfl,rfl⟩,_⟩:=h
     exact⟨rfl,rfl⟩
   | succ i =>
     have:=ih (fun p hp=>h2 p (by simp[hp])) (i:=i) (by simpa using h);rw[show (i+1)*2=i*2+1+1 by omega];exact this
structure OkFile (f:Fil):Prop where
 name:IsWord f.name
 nlen:f.name.length≤64
 k1:1≤f.k
 k2:f.k≤2147483648
 s0:f.sizes ≠ []
 s1:∀v∈f.sizes,1≤v∧v≤32
 s2:f.sizes.length≤64
 n:f.funs.length≤256
 fs:∀x∈f.funs,okF x f.k∧FitF f.sizes x∧great x.sizes=false
def FilW (w:World)(g:Nat)(f:Fil)(SA:Option Addr)(sc:Nat)(FA:Option Addr)(fc:Nat)(V:List FT):Prop :=
 V.map (·.2.2.2)=f.funs∧Blk w g 34 #[strV f.name,.int .i64 f.k,.slice SA f.sizes.length sc,.slice FA V.length fc] ∧
 w.ownsRow 0 3 1 (.slice SA f.sizes.length sc) f.sizes.length (nums f.sizes)∧w.ownsRow 0 37 2 (.slice FA V.length fc) V.length (fcells V) ∧
 (∀p∈V,FunV w (fun k=>p.2.1≤k∧k<p.2.2.1) p.1 p.2.2.2 f.k)
theorem FilW.below {w w':World}{g:Nat}{f:Fil}{SA:Option Addr}{sc:Nat}{FA:Option Addr}{fc:Nat}{V:List FT}(h:FilW w g f SA sc FA fc V)(hb:Below w.heap.size w w'):FilW w' g f SA sc FA fc V:=by
 obtain⟨h1,h2,h3,h4,h5⟩:=h;exact⟨h1,Blk.under h2 hb,own_under h3 hb,own_under h4 hb,fun p hp=>(h5 p hp).off (S:=fun _=>False) (Tch.of_below hb _) fun k h=>h.elim⟩
set_option maxRecDepth 100000 in
set_option maxHeartbeats 8000000 in
theorem indexF_any {w:World}{g:Nat}{f:Fil}{SA:Option Addr}{sc:Nat}{FA:Option Addr}{fc:Nat}{V:List FT}(h:FilW w g f SA sc FA fc V)(hok:OkFile f) :
 Calls Tryz.prog 142 #[.slice FA V.length fc,.func (.func 97) #[.pointer (some ⟨g,0,none⟩)] #[]] w fun e w'=>e = .returned (.int .i64 (-1))∧Below w.heap.size w w':=by
 have hVl:V.length≤256:=by have:=congrArg List.length h.1;simp at this;have:=hok.n;omega
 have h2:∀p∈V,∃a b,p.1 = .agg #[a,b]:=fun p hp=>by
  obtain⟨v1,tg,e,_⟩:=h.2.2.2.2 p hp;exact⟨_,_,e⟩
 have HH:=Hd h;have HOK:=Hd hok;have H2:=Hd h2;clear h hok h2
 go_enter Tryz.func142,Tryz.ntmps142
 go_wp2_with fail
 go_loopw [5,8] (fun _ jv wr => ∃j:Nat,jv = .int .i64 j∧j≤V.length∧Below w.heap.size w wr) (fun _ jv _=>V.length-(intOf jv).toNat)
 case atStart=>exact⟨0,rfl,Nat.zero_le _,Below.refl _ _⟩
 case round =>
  obtain⟨j,rfl,hj,hb⟩:=hrel;by_cases hlt:j<V.length
  ·have hw:=HH.out.below hb
   obtain⟨hV,hgb,hs,hrow,hfv⟩:=hw;obtain⟨p,hp⟩:∃p,V[j]?=some p:=⟨_,List.getElem?_eq_getElem hlt⟩;have hpm:=List.mem_of_getElem? hp;have hfp:=hfv p hpm;have hpx:p.2.2.2∈f.funs:=by rw[← hV];exact List.mem_map_of_mem hpm
   obtain⟨o1,o2,o3⟩:=HOK.out.fs _ hpx;obtain⟨a,b,hab⟩:=H2.out p hpm;obtain⟨pv,lo,hi,pf⟩:=p;dsimp only at hab hfp hpx o1 o2 o3;subst hab;obtain⟨c0,c1⟩:=fc_at H2.out hp;obtain⟨fq,rfl,_,_⟩:=own_some hrow (by omega);have d0:=(hrow.cellAt (j*2) (by omega)).trans c0;have d1:=(hrow.cellAt (j*2+1) (by omega)).trans c1;have hun:=unfit_any hgb hs (by have:=HOK.out.s2;omega) hfp o1 o2;have i0:(0:Int)≤(j:Int):=Int.natCast_nonneg _;have i1:(j:Int)<(V.length:Int):=by omega
   obtain⟨v1,tg,e1,⟨⟨C1,k1,e2⟩,_⟩,_⟩:=hfp;injection e1 with e1
   obtain⟨rfl,rfl⟩:a=v1∧b = .pointer (some ⟨tg,0,none⟩):=by simpa using e1
   subst e2;have HB:=Hd hb;clear hV hgb hs hrow hfv hp hpm c0 c1 hb e1 hpx;go_wp2_with fail;refine hun.mono ?_;rintro e w2 ⟨rfl,hb2⟩;clear hun;have HB2:=Hd (bto HB.out hb2);clear hb2 d0 d1;go_wp2_with fail;go_roundw
   case measure=>simp[intOf];omega
   case rel=>exact⟨j+1,by go_num,by omega,HB2.out⟩
  ·obtain rfl:j=V.length:=by omega
   have HB:=Hd hb;clear hb;go_wp2_with fail;go_ret;exact⟨rfl,HB.out⟩
theorem containsF_any {w:World}{g:Nat}{f:Fil}{SA:Option Addr}{sc:Nat}{FA:Option Addr}{fc:Nat}{V:List FT}(h:FilW w g f SA sc FA fc V)(hok:OkFile f) :
 Calls Tryz.prog 96 #[.slice FA V.length fc,.func (.func 97) #[.pointer (some ⟨g,0,none⟩)] #[]] w fun e w'=>e = .returned (.bool false)∧Below w.heap.size w w':=by
 have hi:=indexF_any h hok;clear h hok
 go_enter Tryz.func96,Tryz.ntmps96
 go_wp2_with fail;refine hi.mono ?_;rintro e w2 ⟨rfl,hb⟩;clear hi;go_wp2_with fail;go_ret;exact⟨rfl,hb⟩
def linesOf (fs:List Raw):Nat:=fs.foldr (fun x n=>x.lines.length+n) 0
theorem linesOf_take (fs:List Raw)(j:Nat):linesOf (fs.take j)≤linesOf fs:=by
 induction fs generalizing j with
 |nil=>simp[linesOf]
 | cons x fs ih =>
   cases j with
   |zero=>simp[linesOf]
   |succ j=>have:=ih j;simp only[List.take_succ_cons,linesOf,List.foldr_cons]at *;omega
theorem linesOf_snoc (fs:List Raw)(x:Raw):linesOf (fs ++ [x])=linesOf fs+x.lines.length:=by
 induction fs with
 |nil=>simp[linesOf]
 |cons y fs ih=>simp only[List.cons_append,linesOf,List.foldr_cons]at *;omega
set_option maxRecDepth 100000 in
set_option maxHeartbeats 8000000 in
theorem fright_any {w:World}{g:Nat}{f:Fil}{SA:Option Addr}{sc:Nat}{FA:Option Addr}{fc:Nat}{V:List FT}(h:FilW w g f SA sc FA fc V)(hok:OkFile f)(hlin:linesOf f.funs≤16384) :
 Calls Tryz.prog 35 #[.pointer (some ⟨g,0,none⟩)] w fun e w'=>e = .returned (.int .i64 0)∧Below w.heap.size w w':=by
 obtain⟨i6,h60,h61,h62,h63⟩:=info_parts info64;have hVl:V.length=f.funs.length:=by have:=congrArg List.length h.1;simpa using this
 have hV2:V.length≤256:=by have:=hok.n;omega
 have hname:=isword_any f.name hok.name (by have:=hok.nlen;omega);have hbad:=contains_fn_r SA f.sizes.length sc f.sizes;have hsl:=hok.s2;have hs0:(f.sizes.length:Int)≠0:=by have:=hok.s0;have:=List.length_pos_iff.2 this;omega
 have hs00:((f.sizes.length:Int)==0)=false:=by simpa using hs0
 have hnl:=hok.nlen;have HOK:=Hd hok;have HH:=Hd h;have HLIN:=Hd hlin;have HVL:=Hd hVl;obtain⟨q0,q1,q2,q3,-⟩:=Blk.four (t:=34) h.2.1;clear h hok hlin hVl hs0
 go_enter Tryz.func35,Tryz.ntmps35
 go_wp2_with fail;refine (hname w).mono ?_;rintro e w1 ⟨rfl,hb1⟩;have hw1:=HH.out.below hb1;obtain⟨q0,q1,q2,q3,-⟩:=Blk.four (t:=34) hw1.2.1;have hbd:=hbad w1 (by unfold maxLen;omega) (Reads.of_own hw1.2.2.1)
 rw[show anyBad f.sizes=false from by
  unfold anyBad;rw[List.any_eq_false];intro x hx;have:=HOK.out.s1 x hx;unfold badS;rw[decide_eq_true_eq];omega]at hbd
 have hrt:=right_any f.k w1;rw[show rightB f.k=true from decide_eq_true ⟨HOK.out.k1,HOK.out.k2⟩]at hrt;have hcf:=containsF_any hw1 HOK.out;have HW1:=Hd hw1;have HB1:=Hd hb1;clear hw1 hb1 hname hbad;go_wp2_with fail;refine hbd.mono ?_;rintro e w2 ⟨rfl,rfl⟩;clear hbd;go_wp2_with fail;refine hrt.mono ?_;rintro e w2 ⟨rfl,rfl⟩;clear hrt;go_wp2_with fail;refine hcf.mono ?_;rintro e w2 ⟨rfl,hb2⟩;clear hcf;have hw2:=HW1.out.below hb2;obtain⟨q0,q1,q2,q3,-⟩:=Blk.four (t:=34) hw2.2.1;have HW2:=Hd hw2;have HB2:=Hd (bto HB1.out hb2);clear hw2 hb2;go_wp2_with fail;clear q0 q1 q2 q3
 go_loopw [4,5,7,8,10,79,92] (fun lv bv _ _ _ jv _ wr => ∃ (j t:Nat),lv = .int .i64 t∧bv = .bool false∧jv = .int .i64 j∧j≤V.length∧t≤linesOf (f.funs.take j)∧Below w2.heap.size w2 wr) (fun _ _ _ _ _ jv _ _=>V.length-(intOf jv).toNat)
 case atStart=>exact⟨0,0,rfl,by rw[decide_eq_false (show ¬ (64:Int)<f.name.length by omega),decide_eq_false (show ¬ (64:Int)<f.sizes.length by omega),decide_eq_false (show ¬ (256:Int)<V.length by omega)];rfl,rfl,Nat.zero_le _,Nat.zero_le _,Below.refl _ _⟩
 case round =>
  obtain⟨j,t,rfl,rfl,rfl,hj,ht,hb⟩:=hrel;have htb:t≤16384:=by have:=linesOf_take f.funs j;have:=HLIN.out;omega
  by_cases hlt:j<V.length
  ·have hw:=HW2.out.below hb
   obtain⟨hV,hgb,hs,hrow,hfv⟩:=hw;obtain⟨p,hp⟩:∃p,V[j]?=some p:=⟨_,List.getElem?_eq_getElem hlt⟩;have hpm:=List.mem_of_getElem? hp;have hfp:=hfv p hpm;have hpx:p.2.2.2∈f.funs:=by rw[← hV];exact List.mem_map_of_mem hpm
   have hfj:f.funs[j]?=some p.2.2.2:=by rw[← hV,List.getElem?_map,hp];rfl
   obtain⟨o1,o2,o3⟩:=HOK.out.fs _ hpx
   have h2:∀p∈V,∃a b,p.1 = .agg #[a,b]:=fun p hp=>by
    obtain⟨v1,tg,e,_⟩:=hfv p hp;exact⟨_,_,e⟩
   obtain⟨pv,lo,hi,pf⟩:=p;dsimp only at hfp hpx hfj o1 o2 o3;obtain⟨v1,tg,rfl,⟨⟨C1,k1,rfl⟩,_⟩,_,hT⟩:=hfp;obtain⟨c0,c1⟩:=fc_at h2 hp;obtain⟨fq,rfl,_,_⟩:=own_some hrow (by omega);have d0:=(hrow.cellAt (j*2) (by omega)).trans c0;have d1:=(hrow.cellAt (j*2+1) (by omega)).trans c1;have hb1:=bone wr (.cells #[.slice C1 pf.scope.length k1,.pointer (some ⟨tg,0,none⟩)] 37);have hx:Blk (wr.alloc (.cells #[.slice C1 pf.scope.length k1,.pointer (some ⟨tg,0,none⟩)] 37)) wr.heap.size 37 #[.slice C1 pf.scope.length k1,.pointer (some ⟨tg,0,none⟩)]:=Blk.new _ _ _;obtain⟨x0,x1⟩:=hx.two;have hT1:=hT.keep (Tch.of_below hb1 (fun _=>False)) fun _ _ h=>h
   have hln:=tlen_any hT1;have hsz:=tsizes_any hT1 (by rw[(tpOf_same pf f.k pf.lines).1];exact o1.1);rw[(tpOf_same pf f.k pf.lines).1]at hsz;have ht2:linesOf (f.funs.take (j+1))=linesOf (f.funs.take j)+pf.lines.length:=by rw[List.take_add_one,hfj];exact linesOf_snoc _ _
   have hlb:=linesOf_take f.funs (j+1);have i0:(0:Int)≤(j:Int):=Int.natCast_nonneg _;have i1:(j:Int)<(V.length:Int):=by omega
   have HB:=Hd hb;have HB1:=Hd hb1;have HO1:=Hd o1;have HO3:=Hd o3;have HT2:=Hd ht2;have HLB:=Hd hlb;have HLT:=Hd ht;have HXX:=Hd hx;clear hV hgb hs hrow hfv hp hpm hfj h2 c0 c1 hb hb1 hx hT hT1 o1 o2 o3 hpx ht2 hlb ht;go_wp2_with fail;refine hln.mono ?_;rintro e w3 ⟨⟨m,rfl,hm⟩,rfl⟩;clear hln;have hmb:m≤16384:=by have:=HT2.out;have:=HLB.out;have:=HLIN.out;omega
   have HM:=Hd hm;clear hm;go_wp2_with fail;refine hsz.mono ?_;rintro e w4 ⟨A4,c4,rfl,ho4,hb4⟩;clear hsz;have HB4:=Hd (bto HB1.out hb4);have hsl6:pf.sizes.length≤6:=HO1.out.1;have HO4:=Hd ho4;clear ho4 hb4;go_wp2_with fail;obtain⟨wo,hwo⟩:∃wo:World,wo=wr:=⟨_,rfl⟩;rw[← hwo]at HB HB4 HB1;clear hwo
   go_loopw [8,10,92] (fun ov _ iv wy => ∃ (i:Nat) (A5:Option Addr) (c5:Nat),iv = .int .i64 i∧i≤pf.sizes.length∧ov = .slice A5 i c5∧wy.ownsRow w4.heap.size 2 1 (.slice A5 i c5) i (nums (pf.sizes.take i))∧Below w4.heap.size w4 wy) (fun _ _ iv _=>pf.sizes.length-(intOf iv).toNat)
   case atStart=>exact⟨0,none,0,rfl,Nat.zero_le _,rfl,World.ownsRow_nil _ _ _ _,Below.refl _ _⟩
   case round =>
    obtain⟨i,A5,c5,rfl,hi2,rfl,ho5,hb5⟩:=hrel;by_cases hlti:i<pf.sizes.length
    ·obtain⟨ad,y,rfl,_,hy,hc⟩:=((Reads.of_own HO4.out).below hb5).num hlti
     have hA1:=ho5.alloc (.cells #[.int .i64 y] 2);have hr1:Reads (wr.alloc (.cells #[.int .i64 y] 2)) (wr.alloc (.cells #[.int .i64 y] 2)).heap.size 1 (some ⟨wr.heap.size,0,none⟩) 1 (nums [y]):=reads_block (t:=2) (heap_alloc_new _ _) rfl;have hszz:w4.heap.size≤(wr.alloc (.cells #[.int .i64 y] 2)).heap.size:=by have:=hb5.size;simp;omega
     have OZ:=Hd hA1;have HY:=Hd hy;have HB5:=Hd hb5;clear ho5 hb5 hy
     go_wp2_with (first
      |(at_builtin;refine wpList_append_any _ rfl (.tmp 96) (.tmp 98) _ rfl w4.heap.size 2 i6 _ 1 8 Tryz.underlying46 h60 h61 h62 h63 rfl (by omega) (.slice A5 i c5) i _ rfl hA1 (wr.alloc (.cells #[.int .i64 y] 2)).heap.size (some ⟨wr.heap.size,0,none⟩) 1 1 (nums [y]) rfl hr1 nums_one (by simp only[maxLen];omega) (by omega) hszz ?_;intro v6 w6 hown6 hg6 hat6;clear hat6;obtain⟨A6,c6,rfl⟩:=own_shape hown6;have HO6:=Hd hown6;have HG6:Hid ((wr.alloc (.cells #[.int .i64 y] 2)).grownBy w6 (Value.slice A5 i c5).ownBlock):=hg6;clear hown6 hg6 hA1 hr1)
      |fail)
     go_roundw
     case measure=>simp[intOf];omega
     case rel =>
      refine⟨i+1,A6,c6,by go_num,by omega,rfl,?_,?_⟩
      ·rw[List.take_add_one,HY.out,show nums (pf.sizes.take i++(some y).toList)=nums (pf.sizes.take i)++nums [y] by simp[nums]];exact HO6.out
      ·exact ((HB5.out.trans ((bone wr (.cells #[.int .i64 y] 2)).mono HB5.out.size))).trans ((Tch.of_grown HG6.out (S:=fun q=>some q=(Value.slice A5 i c5).ownBlock) fun q _ hq=>hq).below (by have:=HB5.out.size;simp;omega) fun q hq h=>by have:=(own_in OZ.out h.symm).1;omega)
    ·obtain rfl:i=pf.sizes.length:=by omega
     rw[List.take_of_length_le (Nat.le_refl _)]at ho5;have hgt:=great_any A5 pf.sizes.length c5 pf.sizes wr (by omega) (Reads.of_own ho5) (fun z hz=>(HO1.out.2.1 z hz).1);rw[HO3.out]at hgt;have HB5:=Hd hb5;clear ho5 hb5;go_wp2_with fail;refine hgt.mono ?_;rintro e w5 ⟨rfl,rfl⟩;clear hgt;go_wp2_with fail;go_roundw
     case measure=>simp[intOf];omega
     case rel =>
      refine⟨j+1,t+m,by go_num,rfl,by go_num,by omega,by have:=HT2.out;have:=HLT.out;have:=HM.out;omega,?_⟩;exact (HB.out.trans (HB4.out.mono HB.out.size)).trans (HB5.out.mono (by have:=HB.out.size;have:=HB4.out.size;omega))
  ·obtain rfl:j=V.length:=by omega
   have HB:=Hd (bto HB2.out hb);have htI:decide ((16384:Int)<(t:Int))=false:=decide_eq_false (by omega);clear hb;go_wp2_with fail;go_ret;exact⟨rfl,HB.out⟩
def part (x:Raw)(xs:List Int):List Int:=x.scope.map fun v=>xs.getD v.toNat 0
def valTo (f:Fil)(xs:List Int)(l:List Raw):Int:=l.foldl (fun s x=>min (s+(tpOf x f.k x.lines).get (part x xs)) f.k) 0
theorem valTo_snoc (f:Fil)(xs:List Int)(l:List Raw)(x:Raw):valTo f xs (l ++ [x])=min (valTo f xs l+(tpOf x f.k x.lines).get (part x xs)) f.k:=by unfold valTo;rw[List.foldl_append];rfl
theorem get_in {x:Raw}{K:Int}(h:okF x K)(t:List Int):0≤(tpOf x K x.lines).get t∧(tpOf x K x.lines).get t≤K:=by
 have hk:=h.2.2.1;have ho:=h.2.2.2.2.1;have hl:=h.2.2.2.2.2.1
 have:∀ (ls:List (List Int × Int)),(∀l∈ls,0≤l.2)→∀T:TpH,(∀u c,T.f u=some c→0≤c∧c≤K)→∀u c,(ls.foldl (fun T l=>putF T l.1 (min l.2 K)) T).f u=some c→0≤c∧c≤K:=by
  intro ls
  induction ls with
  |nil=>exact fun _ T hT u c h=>hT u c h
  | cons l ls ih =>
    intro hls T hT;refine ih (fun l' hl'=>hls l' (by simp[hl'])) _ fun u c hc=>?_
    have h0:=hls l (by simp);unfold putF at hc;dsimp only at hc;split at hc
    ·dsimp only at hc
     split at hc
     ·cases hc
     ·exact hT u c hc
    ·dsimp only at hc
     split at hc
     ·injection hc with hc;omega
     ·exact hT u c hc
 unfold TpH.get
 cases hf:(tpOf x K x.lines).f t with
 |none=>rw[(tpOf_same x K x.lines).2.2];simp;omega
 |some c=>exact this x.lines (fun l hl'=>(hl l hl').2) (tp0 x K) (fun u c h=>by cases h) t c hf
theorem part_in {f:Fil}{x:Raw}{xs:List Int}(hx:FitF f.sizes x)(ha:InS f.sizes xs):InS x.sizes (part x xs):=by
 obtain⟨h1,h2,h3⟩:=hx;refine⟨by rw[h3];simp[part],fun i v k hv hk=>?_⟩;unfold part at hv;rw[h3]at hk;rw[List.getElem?_map]at hv hk
 cases hs:x.scope[i]? with
 |none=>rw[hs]at hv;cases hv
 | some m =>
   rw[hs]at hv hk;obtain⟨m0,m1⟩:=h1 m (List.mem_of_getElem? hs);injection hv with hv
   injection hk with hk
   have hl:m.toNat<f.sizes.length:=by omega
   have hl2:m.toNat<xs.length:=by rw[ha.1];exact hl
   refine ha.2 m.toNat v k ?_ ?_
   ·rw[List.getElem?_eq_getElem hl2,← hv];simp[List.getD_eq_getElem?_getD,hl2]
   ·rw[List.getElem?_eq_getElem hl,← hk];simp[List.getD_eq_getElem?_getD,hl]
theorem valTo_in {f:Fil}(hok:OkFile f)(xs:List Int):∀l:List Raw,(∀x∈l,x∈f.funs)→0≤valTo f xs l∧valTo f xs l≤f.k:=by
 intro l;have hk:=hok.k1
 have:∀ (l:List Raw) (s:Int),0≤s→s≤f.k→(∀x∈l,x∈f.funs)→0≤l.foldl (fun s x=>min (s+(tpOf x f.k x.lines).get (part x xs)) f.k) s∧l.foldl (fun s x=>min (s+(tpOf x f.k x.lines).get (part x xs)) f.k) s≤f.k:=by
  intro l
  induction l with
  |nil=>exact fun s h1 h2 _=>⟨h1,h2⟩
  | cons x l ih =>
    intro s h1 h2 h;have h3:=get_in (hok.fs x (h x (by simp))).1 (part x xs);rw[List.foldl_cons];exact ih _ (by omega) (by omega) fun y hy=>h y (by simp[hy])
 exact fun h=>this l 0 (Int.le_refl _) (by omega) h
set_option maxRecDepth 100000 in
set_option maxHeartbeats 8000000 in
theorem val_any {w:World}{g:Nat}{f:Fil}{SA:Option Addr}{sc:Nat}{FA:Option Addr}{fc:Nat}{V:List FT}(h:FilW w g f SA sc FA fc V)(hok:OkFile f)(hlin:linesOf f.funs≤16384)
 (A:Option Addr) (n cap:Nat) (xs:List Int) (hr:Reads w w.heap.size 1 A n (nums xs)) (ha:InS f.sizes xs) :
 Calls Tryz.prog 23 #[.pointer (some ⟨g,0,none⟩),.slice A n cap] w fun e w'=>e = .returned (.tuple #[.int .i64 (valTo f xs f.funs),.int .i64 0])∧Below w.heap.size w w':=by
 obtain⟨iI,hI0,hI1,hI2,hI3⟩:=info_parts infoI;have hl:=nums_len hr;subst hl;have hrt:=fright_any h hok hlin;have hVl:V.length=f.funs.length:=by have:=congrArg List.length h.1;simpa using this
 have hV2:V.length≤256:=by have:=hok.n;omega
 have HLEN:=Hd ha.1;have hx64:xs.length≤64:=by have:=ha.1;have:=hok.s2;omega
 have hs64:=hok.s2;have HA:=Hd ha;have HOK:=Hd hok;have HH:=Hd h;have HR:=Hd hr;have HVL:=Hd hVl;have hlz:(xs.length:Int)=(f.sizes.length:Int):=by have:=ha.1;omega
 clear h hok hlin ha hr hVl
 go_enter Tryz.func23,Tryz.ntmps23
 go_wp2_with fail;refine hrt.mono ?_;rintro e w1 ⟨rfl,hb1⟩;clear hrt;have hw1:=HH.out.below hb1;obtain⟨q0,q1,q2,q3,-⟩:=Blk.four (t:=34) hw1.2.1;have HW1:=Hd hw1;have HB1:=Hd hb1;have hS:=Reads.of_own hw1.2.2.1;have hX:=HR.out.below hb1;clear hw1 hb1;go_wp2_with fail;rw[← hlz];clear hlz q0 q1 q3
 go_loopw [7,8,34] (fun _ _ jv wr => ∃j:Nat,jv = .int .i64 j∧j≤xs.length∧w1=wr) (fun _ _ jv _=>xs.length-(intOf jv).toNat)
 case atStart=>exact⟨0,rfl,Nat.zero_le _,rfl⟩
 case round =>
  obtain⟨j,rfl,hj,rfl⟩:=hrel;by_cases hlt:j<xs.length
  ·obtain⟨ad,v,rfl,_,hv,hc⟩:=hX.num hlt
   obtain⟨ad2,k,rfl,_,hk,hc2⟩:=hS.num (k:=j) (by have:=HLEN.out;omega);obtain⟨v0,v1⟩:=HA.out.2 j v k hv hk;have i0:(0:Int)≤(j:Int):=Int.natCast_nonneg _;have hjl:(j:Int)<(f.sizes.length:Int):=by have:=HLEN.out;omega
   have hge:¬ (k≤v):=by omega
   clear hv hk hS hX;go_wp2_with fail;go_roundw
   case measure=>simp[intOf];omega
   case rel=>exact⟨j+1,by go_num,by omega,by first | rfl | trivial⟩
  ·obtain rfl:j=xs.length:=by omega
   clear hS hX q2;obtain⟨q0,q1,q2,q3,-⟩:=Blk.four (t:=34) HW1.out.2.1;go_wp2_with fail;clear q0 q1 q2 q3;obtain⟨wo,hwo⟩:∃wo:World,wo=w1:=⟨_,rfl⟩;rw[← hwo]at HW1 HB1 ⊢;clear hwo;have hst:∃s:Int,s=valTo f xs (f.funs.take 0):=⟨_,rfl⟩
   go_loopw [9,11,12,13,14,15,16,58,69] (fun sv _ _ _ _ _ _ jv _ wr => ∃j:Nat,jv = .int .i64 j∧j≤V.length∧sv = .int .i64 (valTo f xs (f.funs.take j))∧Below wo.heap.size wo wr) (fun _ _ _ _ _ _ _ jv _ _=>V.length-(intOf jv).toNat)
   case atStart=>exact⟨0,rfl,Nat.zero_le _,rfl,Below.refl _ _⟩
   case round =>
    clear hst;obtain⟨j,rfl,hj2,rfl,hb⟩:=hrel;obtain⟨wq,hwq⟩:∃wq:World,wq=wr:=⟨_,rfl⟩;rw[← hwq]at hb ⊢;clear hwq;by_cases hlt2:j<V.length
    ·have hw:=HW1.out.below hb
     obtain⟨hV,hgb,hs,hrow,hfv⟩:=hw;obtain⟨p,hp⟩:∃p,V[j]?=some p:=⟨_,List.getElem?_eq_getElem hlt2⟩;have hpm:=List.mem_of_getElem? hp;have hfp:=hfv p hpm;have hpx:p.2.2.2∈f.funs:=by rw[← hV];exact List.mem_map_of_mem hpm
     have hfj:f.funs[j]?=some p.2.2.2:=by rw[← hV,List.getElem?_map,hp];rfl
     obtain⟨o1,o2,o3⟩:=HOK.out.fs _ hpx
     have h2:∀p∈V,∃a b,p.1 = .agg #[a,b]:=fun p hp=>by
      obtain⟨v1,tg,e,_⟩:=hfv p hp;exact⟨_,_,e⟩
     obtain⟨pv,lo,hi,pf⟩:=p;dsimp only at hfp hpx hfj o1 o2 o3;obtain⟨v1,tg,rfl,⟨⟨C1,k1,rfl⟩,hc1⟩,_,hT⟩:=hfp;obtain⟨c0,c1⟩:=fc_at h2 hp;obtain⟨fq,rfl,_,_⟩:=own_some hrow (by omega);have d0:=(hrow.cellAt (j*2) (by omega)).trans c0;have d1:=(hrow.cellAt (j*2+1) (by omega)).trans c1;have hb1:=bone wq (.cells #[.slice C1 pf.scope.length k1,.pointer (some ⟨tg,0,none⟩)] 37);have hx:Blk (wq.alloc (.cells #[.slice C1 pf.scope.length k1,.pointer (some ⟨tg,0,none⟩)] 37)) wq.heap.size 37 #[.slice C1 pf.scope.length k1,.pointer (some ⟨tg,0,none⟩)]:=Blk.new _ _ _;have hsc6:pf.scope.length≤6:=o1.2.2.2.2.2.2.2;obtain⟨wa,hwa⟩:∃wa,wq.alloc (.cells #[.slice C1 pf.scope.length k1,.pointer (some ⟨tg,0,none⟩)] 37)=wa:=⟨_,rfl⟩;obtain⟨xb,hxb⟩:∃xb,wq.heap.size=xb:=⟨_,rfl⟩;rw[hwa,hxb]at hx;rw[hwa]at hb1;obtain⟨x0,x1⟩:=hx.two;have HX:=Hd hx;have HB:=Hd hb;have HBA:=Hd hb1;have HO1:=Hd o1;have HO2:=Hd o2;have HFJ:=Hd hfj;have HC1:=Hd hc1;have HT:=Hd hT;have HGB:=Hd hgb;have HPX:=Hd hpx;have i0:(0:Int)≤(j:Int):=Int.natCast_nonneg _;have i1:(j:Int)<(V.length:Int):=by omega
     have hmk:=fun W=>run_make_rowN (P:=Tryz.prog) 31 3 iI _ Tryz.underlying31 hI0 hI1 .i64 .i64 pf.scope.length pf.scope.length (Nat.le_refl _) (by rw[hI3];omega) (by omega) W
     clear hV hgb hs hrow hfv hp hpm hfj h2 c0 c1 hb hb1 hx hT o1 o2 o3 hpx hc1;have hxm:=HX.out.alloc (.cells (madeCells #[.int .i64 0] pf.scope.length) 3);obtain⟨x0',x1'⟩:=hxm.two;obtain⟨ys,hys⟩:∃ys,part pf xs=ys:=⟨_,rfl⟩;have hyl:ys.length=pf.scope.length:=by rw[← hys];simp[part]
     have hown:(wa.alloc (.cells (madeCells #[.int .i64 0] pf.scope.length) 3)).ownsRow wa.heap.size 3 1 (.slice (some ⟨wa.heap.size,0,none⟩) pf.scope.length pf.scope.length) pf.scope.length (nums (ys.take 0++List.replicate (ys.length-0) 0)):=by
      rw[List.take_zero,List.nil_append,Nat.sub_zero,hyl,← nums_rep];exact World.ownsRow_lit wa _ pf.scope.length (Nat.le_refl _) (by unfold maxLen;omega) (by simp[madeCells])
     have HYL:=Hd hyl;have HYS:=Hd hys;have HXM:=Hd hxm;clear hyl hys hxm;go_wp2_with fail;clear hmk;obtain⟨wm,hwm⟩:∃wm,wa.alloc (.cells (madeCells #[.int .i64 0] pf.scope.length) 3)=wm:=⟨_,rfl⟩;rw[hwm]at hown x0' x1' ⊢;have HXM2:=HXM.out;rw[hwm]at HXM2;have HXM:=Hd HXM2;have HBM:Hid (Below wa.heap.size wa wm):=by rw[Hid,← hwm];exact bone wa _
     obtain⟨pb,hpb⟩:∃pb,wa.heap.size=pb:=⟨_,rfl⟩;rw[hpb]at hown ⊢;have HPB:=Hd hpb;have hxpb:xb<pb:=by rw[← hpb];exact Blk.lt HX.out
     clear HXM2 hwm hpb x0 x1 d0 d1
     go_loopw [13,14,69] (fun _ _ iv wy => ∃i:Nat,iv = .int .i64 i∧i≤pf.scope.length∧wy.ownsRow pb 3 1 (.slice (some ⟨pb,0,none⟩) pf.scope.length pf.scope.length) pf.scope.length (nums (ys.take i++List.replicate (ys.length-i) 0))∧Tch wm wy (fun q=>q=pb)) (fun _ _ iv _=>pf.scope.length-(intOf iv).toNat)
     case atStart=>exact⟨0,rfl,Nat.zero_le _,hown,Tch.refl _ _⟩
     case round =>
      clear hown x0' x1';obtain⟨i,rfl,hi2,ho,ht⟩:=hrel;have hpq:wq.heap.size≤pb:=by have:=HBA.out.size;have:=HPB.out;omega
      have hbq:Below wq.heap.size wq wr:=(HBA.out.trans (HBM.out.mono HBA.out.size)).trans (ht.below (by have:=HBA.out.size;have:=HBM.out.size;omega) fun q hq h=>by omega);have hbw:Below w.heap.size w wr:=(bto HB1.out HB.out).trans (hbq.mono (by have:=(bto HB1.out HB.out).size;exact this));have hxr:=ht.blk HXM.out (fun h=>by omega);obtain⟨x0,x1⟩:=hxr.two;by_cases hlti:i<pf.scope.length
      ·obtain⟨ad,v,rfl,_,hv,hc⟩:=(Reads.of_own (own_under HC1.out hbq)).num hlti
       obtain⟨v0,v1⟩:=HO2.out.1 v (List.mem_of_getElem? hv);obtain⟨m,rfl⟩:∃m:Nat,v=(m:Int):=⟨v.toNat,by omega⟩;have hml:m<xs.length:=by have:=HLEN.out;omega
       obtain⟨ad2,y,rfl,_,hy,hc2⟩:=(HR.out.below hbw).num hml;have hys:ys[i]?=some y:=by rw[← HYS.out];unfold part;rw[List.getElem?_map,hv];simp[List.getD_eq_getElem?_getD,hy]
       have hf:=ho.frozenAt i;obtain⟨u,hu⟩:∃u,(nums (ys.take i++List.replicate (ys.length-i) 0))[i]?=some u:=⟨_,List.getElem?_eq_getElem (by have:=HYL.out;simp[nums];omega)⟩;have hcj:=(ho.cellAt i (by omega)).trans hu;have HSP:=Hd (set_part hys);have HO:=Hd ho;have HTI:=Hd ht;have m0:(0:Int)≤(m:Int):=Int.natCast_nonneg _;have m1:(m:Int)<(xs.length:Int):=by omega
       have l0:(0:Int)≤(i:Int):=Int.natCast_nonneg _;have l1:(i:Int)<(pf.scope.length:Int):=by omega
       clear hv hy hys hu ho ht hbq hbw hxr x0 x1;go_wp2_with fail;go_roundw
       case measure=>simp[intOf];omega
       case rel=>exact⟨i+1,by go_num,by omega,by rw[← HSP.out];exact (HO.out.stored i _).1,HTI.out.put (p:=⟨pb,i,none⟩) _ rfl⟩
      ·obtain rfl:i=pf.scope.length:=by omega
       rw[← HYL.out,List.take_of_length_le (Nat.le_refl _),Nat.sub_self,List.replicate_zero,List.append_nil,HYL.out]at ho;have hTr:=HT.out.keep (Tch.of_below hbq (fun _=>False)) fun _ _ h=>h
       have hts:=tpOf_same pf f.k pf.lines;have hget:=tget_any hTr (by rw[hts.1];exact HO1.out.1) (by rw[hts.1];exact HO1.out.2.1) (some ⟨pb,0,none⟩) pf.scope.length pf.scope.length ys (Reads.of_own ho) (by rw[hts.1,← HYS.out];exact part_in HO2.out HA.out);have hg1:=(Blk.four (t:=34) (Blk.under HGB.out hbq)).2.1;have hgl:g<wr.heap.size:=Blk.lt (Blk.under HGB.out hbq);obtain⟨c1',c2'⟩:=get_in HO1.out ys;obtain⟨s1,s2⟩:=valTo_in HOK.out xs (f.funs.take j) fun x hx=>List.mem_of_mem_take hx
       obtain⟨c,hcq⟩:∃c,(tpOf pf f.k pf.lines).get ys=c:=⟨_,rfl⟩;obtain⟨sm,hsm⟩:∃sm,valTo f xs (f.funs.take j)=sm:=⟨_,rfl⟩;rw[hcq]at hget c1' c2';rw[hsm]at s1 s2 ⊢;have hadd:=add_ok sm c f.k;have hia:inB sm f.k=true:=decide_eq_true ⟨⟨HOK.out.k1,HOK.out.k2⟩,s1,s2⟩;have hib:inB c f.k=true:=decide_eq_true ⟨⟨HOK.out.k1,HOK.out.k2⟩,c1',c2'⟩;have HSM:=Hd hsm;have HCQ:=Hd hcq;have HBQ:=Hd hbq;clear ho ht hTr hbq hbw hsm hcq hxr x0 hts;go_wp2_with fail;refine hget.mono ?_;rintro e w5 ⟨rfl,hb5⟩;clear hget;have hg5:=((bcell hb5).1 g 1 hgl).trans hg1;have hadd:=hadd w5 hia hib;have HB5:=Hd hb5;clear hb5 hg1 x1;go_wp2_with fail;refine hadd.mono ?_;rintro e w6 ⟨rfl,rfl⟩;clear hadd;go_wp2_with fail;go_roundw
       case measure=>simp[intOf];omega
       case rel =>
        refine⟨j+1,by go_num,by omega,?_,HB.out.trans ((HBQ.out.trans (HB5.out.mono HBQ.out.size)).mono HB.out.size)⟩;rw[List.take_add_one,HFJ.out,Option.toList_some,valTo_snoc,HSM.out,HYS.out,HCQ.out]
    ·obtain rfl:j=V.length:=by omega
     have HB:=Hd (bto HB1.out hb);have HF:Hid (f.funs.take V.length=f.funs):=List.take_of_length_le (by rw[HVL.out];exact Nat.le_refl _);clear hb;go_wp2_with fail;go_ret2;refine⟨?_,HB.out⟩;show Ending.returned (.tuple #[.int .i64 (valTo f xs (f.funs.take V.length)),.int .i64 0])=_;rw[HF.out]
end Go.Proofs.YtjpkkkphhaajgaaGreatDoor.wcp
namespace Go.Proofs.YtjpkkkphhaajgaaGreatDoor.wcp
open Go words scn
def leB (a b:Int):Bool:=decide (a≤b)
theorem leB_trans (a b c:Int)(h1:leB a b=true)(h2:leB b c=true):leB a c=true:=by
 unfold leB at *;simp at *;omega
theorem leB_total (a b:Int):(leB a b || leB b a)=true:=by
 unfold leB;simp;omega
def rise (l:List Int):List Int:=l.mergeSort leB
theorem rise_perm (l:List Int):(rise l).Perm l:=List.mergeSort_perm l leB
theorem rise_len (l:List Int):(rise l).length=l.length:=(rise_perm l).length_eq
theorem rise_mem {l:List Int}{v:Int}:v∈rise l↔v∈l:=(rise_perm l).mem_iff
theorem rise_le (l:List Int):(rise l).Pairwise (fun a b=>a≤b):=by
 have:=List.pairwise_mergeSort (le:=leB) leB_trans leB_total l;exact this.imp fun h=>by unfold leB at h;simpa using h
theorem rise_nodup {l:List Int}(h:l.Nodup):(rise l).Nodup:=(rise_perm l).nodup_iff.2 h
theorem rise_lt {l:List Int}(h:l.Nodup):(rise l).Pairwise (fun a b=>a<b):=by
 have h1:=rise_le l;have h2:=rise_nodup h;refine (h1.and h2).imp fun h=>?_
 omega
theorem rising_uniq {l m:List Int}(hl:l.Pairwise (fun a b=>a<b))(hm:m.Pairwise (fun a b=>a<b))(h:l.Perm m):l=m :=
 h.eq_of_pairwise (le:=fun a b=>a<b) (fun a b _ _ h1 h2=>by omega) hl hm
theorem rise_id {l:List Int}(h:l.Pairwise (fun a b=>a<b)):rise l=l:=by
 have hn:l.Nodup:=h.imp fun h=>by omega
 exact rising_uniq (rise_lt hn) h (rise_perm l)
def ownT (sc ss t:List Int):List Int:=sc.map fun v=>t.getD (ss.idxOf v) 0
def szOf (zs sc:List Int):List Int:=sc.map fun v=>zs.getD v.toNat 0
structure CF where
 scope:List Int
 sizes:List Int
 C:List Int
def turnF (zs:List Int)(k:Int)(x:Raw):CF :=
 ⟨rise x.scope,szOf zs (rise x.scope),(shp.allI (szOf zs (rise x.scope))).map fun t=>(tpOf x k x.lines).get (ownT x.scope (rise x.scope) t)⟩
def sumL (k:Int)(l m:List Int):List Int:=List.zipWith (fun a b=>min (a+b) k) l m
def addC (k:Int):List CF→CF→List CF
 | [],g => [g]
 |h::l,g=>if h.scope=g.scope then ⟨h.scope,h.sizes,sumL k h.C g.C⟩::l else h::addC k l g
def joined (zs:List Int)(k:Int)(fs:List Raw):List CF:=fs.foldl (fun l x=>addC k l (turnF zs k x)) []
def isNothing (g:CF):Bool:=g.C.all fun c=>decide (¬ 0<c)
def cmpL:List Int→List Int→Int
 | [],[]=>0
 | [],_::_ => -1
 |_::_,[]=>1
 |a::l,b::m=>if a<b then -1 else if b<a then 1 else cmpL l m
def cmpC (g h:CF):Int:=if g.scope.length<h.scope.length then -1 else if h.scope.length<g.scope.length then 1 else cmpL g.scope h.scope
def leC (g h:CF):Bool:=decide (cmpC g h≤0)
def canonL (zs:List Int)(k:Int)(fs:List Raw):List CF:=((joined zs k fs).filter fun g => !isNothing g).mergeSort leC
def mostL (l:List Int):Int:=l.foldl (fun b c=>if l.count b<l.count c∨(l.count c=l.count b∧c<b) then c else b) (l.headD 0)
def linesC (g:CF):List (List Int × Int):=((shp.allI g.sizes).zip g.C).filter fun p=>decide (p.2≠mostL g.C)
def rawC (g:CF):Raw:=⟨g.scope,g.sizes,mostL g.C,linesC g⟩
def canonF (f:Fil):Fil:=⟨f.name,f.k,f.sizes,(canonL f.sizes f.k f.funs).map rawC⟩
theorem cmpL_self (l:List Int):cmpL l l=0:=by
 induction l with
 |nil=>rfl
 |cons a l ih=>unfold cmpL;rw[if_neg (by omega),if_neg (by omega)];exact ih
theorem cmpL_eq {l m:List Int}(h:cmpL l m=0):l=m:=by
 induction l generalizing m with
 | nil=>cases m with
   |nil=>rfl
   |cons b m=>cases h
 | cons a l ih=>cases m with
   |nil=>cases h
   | cons b m =>
     unfold cmpL at h;by_cases h1:a<b
     ·rw[if_pos h1]at h;cases h
     ·rw[if_neg h1]at h
      by_cases h2:b<a
      ·rw[if_pos h2]at h;cases h
      ·rw[if_neg h2]at h
       rw[ih h,show a=b by omega]
theorem cmpL_neg (l m:List Int):cmpL m l = - cmpL l m:=by
 induction l generalizing m with
 | nil=>cases m with
   |nil=>rfl
   |cons b m=>rfl
 | cons a l ih=>cases m with
   |nil=>rfl
   | cons b m =>
     unfold cmpL;by_cases h1:a<b
     ·simp[h1,show ¬ b<a by omega]
     ·by_cases h2:b<a
      ·simp[h1,h2]
      ·simp only[if_neg h1,if_neg h2];exact ih m
theorem cmpL_trans {l m n:List Int}(h1:cmpL l m≤0)(h2:cmpL m n≤0):cmpL l n≤0:=by
 induction l generalizing m n with
 | nil=>cases n with
   |nil=>simp[cmpL]
   |cons c n=>simp[cmpL]
 | cons a l ih=>cases m with
   |nil=>simp[cmpL]at h1
   | cons b m=>cases n with
     |nil=>simp[cmpL]at h2
     | cons c n =>
       unfold cmpL at h1 h2 ⊢;by_cases hab:a<b
       ·by_cases hbc:b<c
        ·rw[if_pos (by omega)];decide
        ·rw[if_neg hbc]at h2
         by_cases hcb:c<b
         ·rw[if_pos hcb]at h2;omega
         ·rw[if_pos (by omega)];decide
       ·rw[if_neg hab]at h1
        by_cases hba:b<a
        ·rw[if_pos hba]at h1;omega
        ·rw[if_neg hba]at h1
         obtain rfl:a=b:=by omega
         by_cases hac:a<c
         ·rw[if_pos hac];decide
         ·rw[if_neg hac]at h2 ⊢
          by_cases hca:c<a
          ·rw[if_pos hca]at h2;omega
          ·rw[if_neg hca]at h2 ⊢
           exact ih h1 h2
theorem cmpC_neg (g h:CF):cmpC h g = - cmpC g h:=by
 unfold cmpC;by_cases h1:g.scope.length<h.scope.length
 ·simp[h1,show ¬ h.scope.length<g.scope.length by omega]
 ·by_cases h2:h.scope.length<g.scope.length
  ·simp[h1,h2]
  ·simp only[if_neg h1,if_neg h2];exact cmpL_neg _ _
theorem cmpC_eq {g h:CF}(e:cmpC g h=0):g.scope=h.scope:=by
 unfold cmpC at e;by_cases h1:g.scope.length<h.scope.length
 ·rw[if_pos h1]at e;cases e
 ·rw[if_neg h1]at e
  by_cases h2:h.scope.length<g.scope.length
  ·rw[if_pos h2]at e;cases e
  ·rw[if_neg h2]at e;exact cmpL_eq e
theorem cmpC_of_eq {g h:CF}(e:g.scope=h.scope):cmpC g h=0:=by
 unfold cmpC;rw[e,if_neg (by omega),if_neg (by omega)];exact cmpL_self _
theorem leC_trans (a b c:CF)(h1:leC a b=true)(h2:leC b c=true):leC a c=true:=by
 unfold leC cmpC at *;rw[decide_eq_true_eq]at *;by_cases a1:a.scope.length<b.scope.length
 ·by_cases b1:b.scope.length<c.scope.length
  ·rw[if_pos (by omega)];decide
  ·rw[if_neg b1]at h2
   by_cases b2:c.scope.length<b.scope.length
   ·rw[if_pos b2]at h2;omega
   ·rw[if_pos (by omega)];decide
 ·rw[if_neg a1]at h1
  by_cases a2:b.scope.length<a.scope.length
  ·rw[if_pos a2]at h1;omega
  ·rw[if_neg a2]at h1
   by_cases b1:b.scope.length<c.scope.length
   ·rw[if_pos (by omega)];decide
   ·rw[if_neg b1]at h2
    by_cases b2:c.scope.length<b.scope.length
    ·rw[if_pos b2]at h2;omega
    ·rw[if_neg b2]at h2
     rw[if_neg (by omega),if_neg (by omega)];exact cmpL_trans h1 h2
theorem leC_total (a b:CF):(leC a b || leC b a)=true:=by
 unfold leC;rw[cmpC_neg a b];simp;omega
theorem leC_anti {a b:CF}(h1:leC a b=true)(h2:leC b a=true):a.scope=b.scope:=by
 unfold leC at h1 h2;rw[cmpC_neg a b]at h2;simp at h1 h2;exact cmpC_eq (by omega)
end Go.Proofs.YtjpkkkphhaajgaaGreatDoor.wcp
namespace Go.Proofs.YtjpkkkphhaajgaaGreatDoor.wcp
open Go RowKit ChangeShapes WideShapes ChangeAt Maps words scn
theorem FileV.filw {w:World}{B g:Nat}{f:Fil}(h:FileV w B g f):B≤g∧∃SA sc FA fc V,FilW w g f SA sc FA fc V:=by
 obtain⟨hg,SA,sc,FA,fc,V,h1,h2,h3,h4,h5,h6⟩:=h;exact⟨hg,SA,sc,FA,fc,V,h1,h2,own_base h3 (Nat.zero_le _),own_base h4 (Nat.zero_le _),fun p hp=>(h5 p hp).1⟩
end Go.Proofs.YtjpkkkphhaajgaaGreatDoor.wcp
namespace Go.Proofs.YtjpkkkphhaajgaaGreatDoor.wcp
open Go scn
theorem skip_total (bs:List UInt8):∀ (d a:Nat),bs.length-a≤d→a≤bs.length→∃i,Skip bs a i:=by
 intro d
 induction d with
 |zero=>intro a h1 h2;exact⟨a,Nat.le_refl _,h2,fun j h3 h4=>by omega,fun h=>by omega⟩
 | succ d ih =>
   intro a h1 h2;by_cases h:a<bs.length∧isB (at_ bs a)=true
   ·obtain⟨i,h3,h4,h5,h6⟩:=ih (a+1) (by omega) (by omega)
    refine⟨i,by omega,h4,fun j g1 g2=>?_,h6⟩;rcases Nat.lt_or_eq_of_le g1 with g | g
    ·exact h5 j (by omega) g2
    ·rw[← g];exact h.2
   ·exact⟨a,Nat.le_refl _,h2,fun j h3 h4=>by omega,fun hl=>by
     cases hb:isB (at_ bs a) with
     |false=>rfl
     |true=>exact absurd ⟨hl,hb⟩ h⟩
theorem ins_total (bs:List UInt8):∀ (d a:Nat),bs.length-a≤d→a≤bs.length→∃i,Ins bs a i:=by
 intro d
 induction d with
 |zero=>intro a h1 h2;exact⟨a,Nat.le_refl _,h2,fun j h3 h4=>by omega,fun h=>by omega⟩
 | succ d ih =>
   intro a h1 h2;by_cases h:a<bs.length∧isIn (at_ bs a)=true
   ·obtain⟨i,h3,h4,h5,h6⟩:=ih (a+1) (by omega) (by omega)
    refine⟨i,by omega,h4,fun j g1 g2=>?_,h6⟩;rcases Nat.lt_or_eq_of_le g1 with g | g
    ·exact h5 j (by omega) g2
    ·rw[← g];exact h.2
   ·exact⟨a,Nat.le_refl _,h2,fun j h3 h4=>by omega,fun hl=>by
     cases hb:isIn (at_ bs a) with
     |false=>rfl
     |true=>exact absurd ⟨hl,hb⟩ h⟩
theorem next_total (bs:List UInt8)(a:Nat)(ha:a≤bs.length):∃r,scn.Next bs a r:=by
 obtain⟨i,hi⟩:=skip_total bs _ a (Nat.le_refl _) ha;obtain⟨j,hj⟩:=ins_total bs _ i (Nat.le_refl _) hi.len;by_cases hw:Wrong bs j
 ·exact⟨.bad j,i,j,hi,hj,.inl ⟨hw,rfl⟩⟩
 ·rcases Nat.lt_or_eq_of_le hj.le with h | h
  ·exact⟨.word i j,i,j,hi,hj,.inr (.inr ⟨hw,h,rfl⟩)⟩
  ·exact⟨.none,i,j,hi,hj,.inr (.inl ⟨hw,h,rfl⟩)⟩
def EndAt (bs:List UInt8)(z:Nat)(wb:Int):Prop:=(wb = -1∧scn.Next bs z .none)∨∃b:Nat,wb=b∧scn.Next bs z (.bad b)
theorem chain_total (bs:List UInt8):∀ (d a:Nat),bs.length-a≤d→a≤bs.length→∃l z wb,Chain bs a l z∧EndAt bs z wb:=by
 intro d
 induction d with
 | zero =>
   intro a h1 h2;obtain⟨r,hr⟩:=next_total bs a h2
   cases r with
   |bad b=>exact⟨[],a,b,.nil a,.inr ⟨b,rfl,hr⟩⟩
   |none=>exact⟨[],a,-1,.nil a,.inl ⟨rfl,hr⟩⟩
   | word i j =>
     have hw:=hr.word_at;have:=hw.1.le;have:=hw.2.1.len;have:=hw.2.2.2
     omega
 | succ d ih =>
   intro a h1 h2;obtain⟨r,hr⟩:=next_total bs a h2
   cases r with
   |bad b=>exact⟨[],a,b,.nil a,.inr ⟨b,rfl,hr⟩⟩
   |none=>exact⟨[],a,-1,.nil a,.inl ⟨rfl,hr⟩⟩
   | word i j =>
     have hw:=hr.word_at;have:=hw.1.le;have:=hw.2.1.len;have:=hw.2.2.2;obtain⟨l,z,wb,hc,he⟩:=ih j (by omega) (by omega);exact⟨_,z,wb,.cons hr hc,he⟩
theorem told_total (bs:List UInt8):∃l wb,scn.Told bs l wb:=by
 obtain⟨l,z,wb,hc,he⟩:=chain_total bs _ 0 (Nat.le_refl _) (Nat.zero_le _);exact⟨l,wb,z,hc,he⟩
theorem at_app {bs ext:List UInt8}{j:Nat}(h:j<bs.length):at_ (bs++ext) j=at_ bs j:=by
 unfold at_;simp[List.getD_eq_getElem?_getD,List.getElem?_append_left h]
theorem at_mid {bs ext:List UInt8}:at_ (bs++32::ext) bs.length=32:=by
 unfold at_;simp[List.getD_eq_getElem?_getD]
theorem sub_app {bs ext:List UInt8}{i j:Nat}(hj:j≤bs.length):sub (bs++ext) i j=sub bs i j:=by
 unfold sub;rw[List.take_append_of_le_length hj]
theorem skip_app {bs ext:List UInt8}{a i:Nat}(h:Skip bs a i)(hi:i<bs.length):Skip (bs++ext) a i :=
 ⟨h.le,by simp;omega,fun j h1 h2=>by rw[at_app (by omega)];exact h.all j h1 h2,fun _=>by rw[at_app hi];exact h.stop hi⟩
theorem word_app {bs ext:List UInt8}{a i j:Nat}(h:scn.Next bs a (.word i j)):scn.Next (bs++32::ext) a (.word i j):=by
 obtain⟨h1,h2,h3,h4⟩:=h.word_at;have hj:=h2.len;refine⟨i,j,skip_app h1 (by omega),⟨h2.le,by simp;omega,fun q g1 g2=>by rw[at_app (by omega)];exact h2.all q g1 g2,fun _=>?_⟩,.inr (.inr ⟨fun hw=>?_,h4,rfl⟩)⟩
 ·rcases Nat.lt_or_eq_of_le hj with g | g
  ·rw[at_app g];exact h2.stop g
  ·rw[g,at_mid];rfl
 ·rcases Nat.lt_or_eq_of_le hj with g | g
  ·exact h3 ⟨g,by rw[← at_app g];exact hw.2⟩
  ·have:=hw.2;rw[g,at_mid]at this;cases this
theorem bad_app {bs ext:List UInt8}{a b:Nat}(h:scn.Next bs a (.bad b)):scn.Next (bs++ext) a (.bad b):=by
 obtain⟨i,h1,h2,h3⟩:=h.bad_at;have hb:=h3.1;have hi:=h2.le;exact⟨i,b,skip_app h1 (by omega),⟨h2.le,by simp;omega,fun q g1 g2=>by rw[at_app (by omega)];exact h2.all q g1 g2,fun _=>by rw[at_app hb];exact h2.stop hb⟩,.inl ⟨⟨by simp;omega,by rw[at_app hb];exact h3.2⟩,rfl⟩⟩
theorem chain_app {bs ext:List UInt8}{a z:Nat}{l:List Wd}(h:Chain bs a l z):Chain (bs++32::ext) a l z:=by
 induction h with
 |nil a=>exact .nil a
 | cons h1 _ ih =>
   rename_i i j _ _ _
   have:=Chain.cons (word_app (ext:=ext) h1) ih;rw[sub_app h1.word_at.2.1.len]at this;exact this
theorem chain_join {bs:List UInt8}{a z y:Nat}{l m:List Wd}(h:Chain bs a l z)(k:Chain bs z m y):Chain bs a (l++m) y:=by
 induction h with
 |nil a=>exact k
 |cons h1 _ ih=>exact .cons h1 (ih k)
theorem chain_end {bs:List UInt8}{a z:Nat}{l:List Wd}(h:Chain bs a l z):a≤bs.length→z≤bs.length:=by
 induction h with
 |nil a=>exact id
 |cons h1 _ ih=>exact fun _=>ih h1.word_at.2.1.len
theorem told_more {bs ext:List UInt8}{l:List Wd}{wb:Int}(h:scn.Told bs l wb):∃l2 wb2,scn.Told (bs++32::ext) (l++l2) wb2∧(wb ≠ -1→l2 = []∧wb2=wb):=by
 obtain⟨z,hc,he⟩:=h;have hz:=chain_end hc (Nat.zero_le _);rcases he with⟨rfl,hn⟩ | ⟨b,rfl,hn⟩
 ·obtain⟨l2,y,wb2,h2,h3⟩:=chain_total (bs++32::ext) _ z (Nat.le_refl _) (by simp;omega)
  exact⟨l2,wb2,⟨y,chain_join (chain_app hc) h2,h3⟩,fun h=>absurd rfl h⟩
 ·exact⟨[],b,⟨z,by rw[List.append_nil];exact chain_app hc,.inr ⟨b,rfl,bad_app hn⟩⟩,fun _=>⟨rfl,rfl⟩⟩
theorem places {bs ext:List UInt8}{l:List Wd}{wb e x:Int}(h:scn.Told bs l wb)(hp:pread (enOf bs wb) (eeOf wb) l = .err e x)(h5:e≠5)(hx:x≠bs.length) :
 ∃l2 wb2,scn.Told (bs++32::ext) l2 wb2∧pread (enOf (bs++32::ext) wb2) (eeOf wb2) l2 = .err e x:=by
 obtain⟨l2,wb2,h2,h3⟩:=told_more (ext:=ext) h;refine⟨_,wb2,h2,?_⟩;by_cases hw:wb = -1
 ·subst hw
  refine pread_more hp h5 ?_ ?_
  ·unfold enOf;rw[if_pos rfl];intro h;injection h with _ h;exact hx h
  ·unfold eeOf;rw[if_pos rfl];intro h;exact absurd h (by decide)
 ·obtain⟨rfl,rfl⟩:=h3 hw
  rw[List.append_nil];unfold enOf at hp ⊢;rw[if_neg hw]at hp ⊢;exact hp
theorem pread_inv {en:Int}{l:List Wd}{f:Fil}(h:pread en 4 l = .file f):∃s,pbody en 4 ⟨l,none,0,[]⟩ = .ok f s∧s.big=none:=by
 unfold pread at h
 cases hb:pbody en 4 ⟨l,none,0,[]⟩ with
 |bad e x=>rw[hb]at h;cases h
 | ok f' s =>
   rw[hb]at h;obtain⟨sl,sb,st,ss⟩:=s
   cases sl with
   |cons w r=>cases h
   | nil =>
     dsimp only at h;rw[if_neg (by decide)]at h
     cases sb with
     |some x=>cases h
     |none=>injection h with h;subst h;exact⟨_,rfl,rfl⟩
theorem bind_inv {α β:Type}{r:Res α}{g:α→Ps→Res β}{b:β}{s':Ps}(h:r.bind g = .ok b s'):∃a s,r = .ok a s∧g a s = .ok b s':=by
 cases r with
 |ok a s=>exact⟨a,s,rfl,h⟩
 |bad e x=>cases h
theorem pread_ok {en:Int}{l:List Wd}{f:Fil}(h:pread en 4 l = .file f)(hl:l.length≤65536) :
 (∃w r,l=w::r∧f.name=w.1)∧f.name.length≤64∧1≤f.k∧f.k≤2147483648∧1≤f.sizes.length∧f.sizes.length≤64∧(∀v∈f.sizes,1≤v∧v≤32)∧f.funs.length≤256∧f.funs.length≤l.length ∧
  ∀x∈f.funs,okF x f.k∧FitF f.sizes x∧great x.sizes=false∧x.lines.length≤l.length:=by
 obtain⟨s',hb,hbig⟩:=pread_inv h;unfold pbody at hb;obtain⟨w,s1,e1,hb⟩:=bind_inv hb;obtain⟨n,s2,e2,hb⟩:=bind_inv hb;obtain⟨most,s3,e3,hb⟩:=bind_inv hb;obtain⟨count,s4,e4,hb⟩:=bind_inv hb;obtain⟨k,s5,e5,hb⟩:=bind_inv hb;obtain⟨sizes,s6,e6,hb⟩:=bind_inv hb;obtain⟨fs,s7,e7,hb⟩:=bind_inv hb;injection hb with hf hs
 subst hf hs;obtain⟨a1,a2,a3,a4,a5,a6⟩:=pnum_ok e2;obtain⟨b1,b2,b3,b4,b5,b6⟩:=pnum_ok e3;obtain⟨c1,c2,c3,c4,c5,c6⟩:=pnum_ok e4;obtain⟨d1,d2,d3,d4,d5,d6⟩:=pnum_ok e5;obtain⟨w1,w2,w3⟩:=pword_len' e1;obtain⟨l1,l1',l1''⟩:=plarge_l (decide (w.1.length>64)) w.2 s1;obtain⟨l2,l2',l2''⟩:=plarge_l (decide (n.1>64)) n.2 s2;obtain⟨l4,l4',l4''⟩:=plarge_l (decide (count.1>256)) count.2 s4;obtain⟨l5,l5',l5''⟩:=plarge_l (decide (k.1>2147483648)) k.2 s5;obtain⟨p1,p2,p3,p4,p5⟩:=psizes_ok _ e6
 have hlen6:s6.l.length≤l.length:=by
  rw[l5]at p5;rw[l4]at d6;rw[l2]at b6;rw[l1]at a6;have h0:(⟨l,none,0,[]⟩:Ps).l.length=l.length:=rfl;omega
 have hsh:s6.sh = []:=by rw[p3,l5',d3,l4',c3,b3,l2',a3,l1',w1]
 have htold:s6.told=0:=by rw[p4,l5'',d4,l4'',c4,b4,l2'',a4,l1'',w2]
 have hall:∀v∈sizes,1≤v:=fun v hv=>(p2 v hv).1
 obtain⟨q1,q2,q3,q4,q5⟩:=pfuns_big (N:=l.length) (K:=k.1) (by omega) hall _ e7 (fun p hp=>by rw[hsh]at hp;cases hp) hlen6;obtain⟨r1,r2,r3⟩:=pfuns_ok (N:=l.length) _ e7 ⟨by rw[htold];omega,by rw[htold];omega,by rw[hsh];simpa using hlen6⟩;obtain⟨f6,g6⟩:=psizes_big _ e6 (q3 hbig);obtain⟨f5,g5⟩:=plarge_none f6;rw[d5]at g5;obtain⟨f4,g4⟩:=plarge_none g5;rw[c5,b5]at g4;obtain⟨f2,g2⟩:=plarge_none g4;rw[a5]at g2;obtain⟨f1,g1⟩:=plarge_none g2;simp only[decide_eq_false_iff_not]at f1 f2 f4 f5;have hfit:=q5 hbig g6 d1 (by omega);refine⟨?_,?_,d1,?_,?_,?_,fun v hv=>⟨hall v hv,g6 v hv⟩,?_,?_,fun x hx=>?_⟩
 ·cases l with
  |nil=>cases e1
  | cons w0 r =>
    have e1':Res.ok w0 ⟨r,none,0,[]⟩ = .ok w s1:=e1;injection e1' with e1' _
    exact⟨w0,r,rfl,by rw[e1']⟩
 ·dsimp only;omega
 ·dsimp only;omega
 ·dsimp only;omega
 ·dsimp only;omega
 ·dsimp only;omega
 ·dsimp only;omega
 ·obtain⟨h1,h2,h3,h4⟩:=q4 x hx
  exact⟨(hfit x hx).1,⟨h1,h2,h3⟩,(hfit x hx).2,h4⟩
theorem isWord_of {bs:List UInt8}{l:List Wd}{bad:Int}(h:scn.Told bs l bad){w:Wd}(hw:w∈l):IsWord w.1:=by
 obtain⟨h1,h2⟩:=(scn.told_words h).1 w hw;refine⟨h1,fun q hq=>?_⟩;rw[List.all_eq_true]at h2;refine h2 _ ?_;rw[List.getD_eq_getElem?_getD,List.getElem?_eq_getElem hq];exact List.getElem_mem hq
theorem okFile_of {bs:List UInt8}{l:List Wd}{en:Int}{f:Fil}(hT:scn.Told bs l (-1))(h:pread en 4 l = .file f)(hl:l.length≤65536):OkFile f:=by
 obtain⟨⟨w,r,rfl,hn⟩,h1,h2,h3,h4,h5,h6,h7,h8,h9⟩:=pread_ok h hl;exact⟨by rw[hn];exact isWord_of hT (by simp),h1,h2,h3,(fun e=>by rw[e]at h4;simp at h4),h6,h5,h7,fun x hx=>⟨(h9 x hx).1,(h9 x hx).2.1,(h9 x hx).2.2.1⟩⟩
end Go.Proofs.YtjpkkkphhaajgaaGreatDoor.wcp
namespace Go.Proofs.YtjpkkkphhaajgaaGreatDoor.wcp
open Go scn words
theorem ins_stop {bs:List UInt8}{i j:Nat}(h:Ins bs i j):isIn (at_ bs j)=false:=by
 by_cases hj:j<bs.length
 ·exact h.stop hj
 ·have:at_ bs j=0:=by unfold at_;rw[List.getD_eq_getElem?_getD,List.getElem?_eq_none (by omega)];rfl
  rw[this];rfl
theorem chain_two {bs:List UInt8}{a z:Nat}{l:List Wd}(h:Chain bs a l z):(isIn (at_ bs a)=false→2*l.length+a≤z)∧2*l.length+a≤z+1:=by
 induction h with
 |nil a=>exact⟨fun _=>by simp,by simp⟩
 | @cons a i j z l h1 hk ih =>
   obtain⟨s1,s2,-,s4⟩:=h1.word_at;have h5:=ih.1 (ins_stop s2);have h6:=s2.all _ (Nat.le_refl _) s4;have h7:=s1.le;simp only[List.length_cons];refine⟨fun hs=>?_,by omega⟩;have h8:i≠a:=fun e=>by rw[← e,h6]at hs;cases hs
   omega
theorem told_two {bs:List UInt8}{l:List Wd}{bad:Int}(h:scn.Told bs l bad):2*l.length≤bs.length+1:=by
 obtain⟨z,hc,_⟩:=h;have h1:=(chain_two hc).2;have h2:=(hc.len (Nat.zero_le _)).2;omega
variable {en ee:Int}
theorem pfun_three {all:List Int}{s s':Ps}{f:Raw}(h:pfun en ee all s = .ok f s')(h0:0≤s.told):s'.l.length+3≤s.l.length:=by
 unfold pfun at h;obtain⟨a,s1,e1,h⟩:=bind_inv h;obtain⟨sc,s2,e2,h⟩:=bind_inv h;obtain⟨o,s3,e3,h⟩:=bind_inv h;obtain⟨ls,s4,e4,h⟩:=bind_inv h;injection h with _ h
 have q1:=pnum_ok e1;have q2:=pscope_ok _ _ e2;have q3:=pnum_ok e3;have ql:=plarge_l (decide ((a.1.natAbs:Int)>6) || great (sc.map fun v=>all.getD v.toNat 0)) a.2 s2;have q4:=pall_ok e4 (by rw[q3.2.2.2.1,ql.2.2,q2.2.2.1,q1.2.2.2.1];exact h0);have h5:s'.l=s4.l:=by rw[← h];split<;>rfl
 have b1:=q1.2.2.2.2.2;have b2:=q2.2.2.2.2.1;have b3:=q3.2.2.2.2.2;rw[ql.1]at b3;have b4:=q4.2.1;rw[h5];omega
theorem pfuns_three {all:List Int}:∀ (k:Nat) {s s':Ps} {out:List Raw},pfuns en ee all k [] s = .ok out s'→0≤s.told→out.length=k∧3*k+s'.l.length≤s.l.length∧0≤s'.told:=by
 intro k
 induction k with
 |zero=>intro s s' out h h0;injection h with h1 h2;subst h1 h2;exact⟨rfl,by omega,h0⟩
 | succ k ih =>
   intro s s' out h h0;rw[pfuns_snoc]at h;obtain⟨o1,s1,e1,h⟩:=bind_inv h;obtain⟨f,s2,e2,h⟩:=bind_inv h;injection h with h1 h2
   subst h1 h2;obtain⟨a1,a2,a3⟩:=ih e1 h0;have b1:=pfun_three e2 a3;have b2:=pfun_ok e2 a3;exact⟨by simp[a1],by omega,b2.2.1⟩
theorem pread_three {l:List Wd}{f:Fil}(h:pread en 4 l = .file f):3*f.funs.length≤l.length:=by
 obtain⟨s',hb,hbig⟩:=pread_inv h;unfold pbody at hb;obtain⟨w,s1,e1,hb⟩:=bind_inv hb;obtain⟨n,s2,e2,hb⟩:=bind_inv hb;obtain⟨most,s3,e3,hb⟩:=bind_inv hb;obtain⟨count,s4,e4,hb⟩:=bind_inv hb;obtain⟨k,s5,e5,hb⟩:=bind_inv hb;obtain⟨sizes,s6,e6,hb⟩:=bind_inv hb;obtain⟨fs,s7,e7,hb⟩:=bind_inv hb;injection hb with hb _
 subst hb
 have q1:s1.told=0∧s1.l.length≤l.length:=by
  unfold pword at e1
  cases l with
  |nil=>cases e1
  |cons a l=>injection e1 with _ e1;rw[← e1];exact⟨rfl,by simp⟩
 have q2:=pnum_ok e2;have q3:=pnum_ok e3;have q4:=pnum_ok e4;have q5:=pnum_ok e5;have q6:=psizes_ok _ e6;have l2:=plarge_l (decide (w.1.length>64)) w.2 s1;have l3:=plarge_l (decide (n.1>64)) n.2 s2;have l5:=plarge_l (decide (count.1>256)) count.2 s4;have l6:=plarge_l (decide (k.1>2147483648)) k.2 s5;have ht:s6.told=0:=by rw[q6.2.2.2.1,l6.2.2,q5.2.2.2.1,l5.2.2,q4.2.2.2.1,q3.2.2.2.1,l3.2.2,q2.2.2.2.1,l2.2.2,q1.1]
 obtain⟨a1,a2,-⟩:=pfuns_three _ e7 (by rw[ht];exact Int.le_refl _);have b2:=q2.2.2.2.2.2;have b3:=q3.2.2.2.2.2;have b4:=q4.2.2.2.2.2;have b5:=q5.2.2.2.2.2;have b6:=q6.2.2.2.2;rw[l2.1]at b2;rw[l3.1]at b3;rw[l5.1]at b5;rw[l6.1]at b6;dsimp only;rw[a1];omega
theorem linesOf_le {M:Nat}:∀fs:List Raw,(∀x∈fs,x.lines.length≤M)→linesOf fs≤fs.length*M
 | [],_=>by simp[linesOf]
 | x::fs,h=>by
   have h1:=linesOf_le fs fun y hy=>h y (by simp[hy])
   have h2:=h x (by simp);show x.lines.length+linesOf fs≤(fs.length+1)*M;rw[Nat.add_mul];omega
theorem lines_short {bs:List UInt8}{l:List Wd}{f:Fil}(hT:scn.Told bs l (-1))(h:pread en 4 l = .file f)(hb:bs.length≤400):linesOf f.funs≤16384:=by
 have h1:=told_two hT;have h2:=pread_three h;have h3:=(pread_ok h (by omega)).2.2.2.2.2.2.2.2.2;have h4:=linesOf_le (M:=200) f.funs fun x hx=>by have:=(h3 x hx).2.2.2;omega
 have h5:f.funs.length*200≤66*200:=Nat.mul_le_mul_right _ (by omega);omega
end Go.Proofs.YtjpkkkphhaajgaaGreatDoor.wcp
namespace Go.Proofs.YtjpkkkphhaajgaaGreatDoor.wcp
open Go RowKit ChangeShapes WideShapes ChangeAt Maps words scn
theorem file_wb {bs:List UInt8}{wb:Int}{l:List Wd}{f:Fil}(h:pread (enOf bs wb) (eeOf wb) l = .file f):wb = -1:=by
 by_cases hw:wb = -1
 ·exact hw
 ·have he:eeOf wb=11:=by unfold eeOf;rw[if_neg hw]
  rw[he]at h;unfold pread at h
  cases hp:pbody (enOf bs wb) 11 ⟨l,none,0,[]⟩ with
  |bad e x=>rw[hp]at h;cases h
  | ok a s =>
    rw[hp]at h;dsimp only at h
    cases hl:s.l with
    |nil=>rw[hl]at h;cases h
    |cons w r=>rw[hl]at h;cases h
end Go.Proofs.YtjpkkkphhaajgaaGreatDoor.wcp
namespace Go.Proofs.YtjpkkkphhaajgaaGreatDoor.wcp
open Go words scn
def BE (l:List Int)(x y:Int):Prop:=l.count y<l.count x∨(l.count y=l.count x∧x≤y)
theorem BE.refl (l:List Int)(x:Int):BE l x x := .inr ⟨rfl,Int.le_refl _⟩
theorem BE.trans {l:List Int}{x y z:Int}(h:BE l x y)(h':BE l y z):BE l x z:=by
 unfold BE at *;omega
theorem BE.anti {l:List Int}{x y:Int}(h:BE l x y)(h':BE l y x):x=y:=by
 unfold BE at *;omega
def mstep (l:List Int)(b c:Int):Int:=if l.count b<l.count c∨(l.count c=l.count b∧c<b) then c else b
theorem mstep_be (l:List Int)(b c:Int):BE l (mstep l b c) b∧BE l (mstep l b c) c:=by
 unfold mstep BE;split<;>omega
theorem mstep_mem {l:List Int}{b c:Int}(hb:b∈l)(hc:c∈l):mstep l b c∈l:=by
 unfold mstep;split<;>assumption
def IsBest (l:List Int)(b:Int):Prop:=b∈l∧∀c∈l,BE l b c
theorem IsBest.uniq {l:List Int}{a b:Int}(h:IsBest l a)(h':IsBest l b):a=b:=(h.2 b h'.1).anti (h'.2 a h.1)
theorem mfold (l:List Int):∀ (m:List Int) (b:Int),(∀c∈m,c∈l)→b∈l→m.foldl (mstep l) b∈l∧BE l (m.foldl (mstep l) b) b∧∀c∈m,BE l (m.foldl (mstep l) b) c:=by
 intro m
 induction m with
 |nil=>intro b _ hb;exact⟨hb,BE.refl _ _,fun c hc=>by cases hc⟩
 | cons a m ih =>
   intro b hm hb;obtain⟨h1,h2,h3⟩:=ih (mstep l b a) (fun c hc=>hm c (by simp[hc])) (mstep_mem hb (hm a (by simp)));obtain⟨e1,e2⟩:=mstep_be l b a;refine⟨h1,h2.trans e1,fun c hc=>?_⟩;rcases List.mem_cons.1 hc with rfl | hc
   ·exact h2.trans e2
   ·exact h3 c hc
theorem mostL_best {l:List Int}(h:l ≠ []):IsBest l (mostL l):=by
 have e:mostL l=l.foldl (mstep l) (l.headD 0):=rfl
 have hm:l.headD 0∈l:=by
  cases l with
  |nil=>exact absurd rfl h
  |cons a l=>simp
 obtain⟨h1,h2,h3⟩:=mfold l l (l.headD 0) (fun _ h=>h) hm;rw[e];exact⟨h1,h3⟩
theorem best_most {l:List Int}{b:Int}(h:IsBest l b):b=mostL l:=h.uniq (mostL_best fun e=>by rw[e]at h;cases h.1)
theorem lines_mem {g:CF}{p:List Int × Int}:p∈linesC g↔p∈(shp.allI g.sizes).zip g.C∧p.2≠mostL g.C:=by
 unfold linesC;rw[List.mem_filter];simp
end Go.Proofs.YtjpkkkphhaajgaaGreatDoor.wcp
namespace Go.Proofs.YtjpkkkphhaajgaaGreatDoor.wcp
open Go RowKit ChangeShapes WideShapes ChangeAt Maps words scn
theorem zeroInt (w:World):(zeroValue 3).run Tryz.prog w = .ok (.int .i64 0) w:=by kernel_rfl
structure CM (D:DataW Unit) (l:List Int):Prop where
 num:∀c:Int,D.atKey (.int .i64 c) (.lit (.int .i64 0)) = .lit (.int .i64 (l.count c))
 key:∀kl,Maps.has D kl=true→∃c∈l,kl = .int .i64 c
 has:∀c∈l,Maps.has D (.int .i64 c)=true
theorem cm_empty:CM (.map []) []:=⟨fun c=>rfl,fun kl h=>(by cases h),fun c h=>(by cases h)⟩
theorem litI_ne {x y:Int}(h:y≠x):Lit.int .i64 y≠Lit.int .i64 x:=fun e=>h (by injection e)
theorem cm_put {D:DataW Unit}{l:List Int}(h:CM D l)(hm:IsMap D)(x:Int):CM (D.put (.int .i64 x) (.lit (.int .i64 ((l.count x:Int)+1)))) (l ++ [x]):=by
 have hk:WideAt.IsKeyLit (.int .i64 x):=trivial;refine⟨fun c=>?_,fun kl hkl=>?_,fun c hc=>?_⟩
 ·rw[List.count_append]
  by_cases e:c=x
  ·subst e
   rw[atKey_put_same hm hk];simp
  ·rw[atKey_put_other (litI_ne e),h.num]
   simp[List.count_singleton,e,Ne.symm e]
 ·by_cases e:kl = .int .i64 x
  ·exact⟨x,by simp,e⟩
  ·rw[has_put_other e]at hkl
   obtain⟨c,hc,e2⟩:=h.key kl hkl;exact⟨c,by simp[hc],e2⟩
 ·by_cases e:c=x
  ·subst e;exact has_put_same hm hk _
  ·rw[has_put_other (litI_ne e)]
   rcases List.mem_append.1 hc with hc | hc
   ·exact h.has c hc
   ·exact absurd (List.mem_singleton.1 hc) e
set_option maxHeartbeats 4000000 in
theorem min64_any (A:Option Addr)(n cap:Nat)(C:List Int)(w:World)(hr:Reads w w.heap.size 1 A n (nums C))(hn0:0<n)(hn:n≤4096) :
 Calls Tryz.prog 162 #[.slice A n cap] w fun e w'=>(∃r,e = .returned (.int .i64 r)∧r∈C)∧w=w':=by
 obtain⟨ad,x0,rfl,_,hx0,hc0⟩:=hr.num hn0;have hm0:=List.mem_of_getElem? hx0;have had:ad.add 0=ad:=by unfold Addr.add;split<;>simp_all
 have hc0':w.cell? ad=some (.int .i64 x0):=by rw[← had];exact hc0
 have h1:¬ ((n:Int)<1):=by omega
 have h2:decide ((n:Int)<1)=false:=decide_eq_false h1;have h3:(0:Int)<(n:Int):=by omega
 have HM0:=Hd hm0;clear hx0 hm0
 go_enter Tryz.func162,Tryz.ntmps162
 go_wp2_with fail
 go_loopw [3,4] (fun mv iv wr => ∃ (j:Nat) (r:Int),iv = .int .i64 j∧mv = .int .i64 r∧1≤j∧j≤n∧Hid (r∈C)∧w=wr) (fun _ iv _=>n-(intOf iv).toNat)
 case atStart=>exact⟨1,x0,by go_num,rfl,Nat.le_refl _,hn0,HM0.out,rfl⟩
 case round =>
  obtain⟨j,r,rfl,rfl,hj1,hj,hrC,rfl⟩:=hrel;by_cases hlt:j<n
  ·obtain⟨ad2,x,had,_,hx,hc⟩:=hr.num hlt
   obtain rfl:=Option.some.inj had;have hxC:=List.mem_of_getElem? hx;have i0:(0:Int)≤(j:Int):=by omega
   have i1:(j:Int)<(n:Int):=by omega
   obtain⟨q,hq⟩:∃q,min r x=q:=⟨_,rfl⟩
   have HQ:Hid (q∈C):=by
    rw[Hid,← hq];rcases Int.le_total r x with h | h
    ·rw[Int.min_eq_left h];exact hrC.out
    ·rw[Int.min_eq_right h];exact hxC
   have HR:=Hd hr;clear hx hxC had hrC hr;go_wp2_with fail
   try rw[hq]
   go_roundw
   case measure=>simp[intOf];omega
   case rel=>exact⟨j+1,q,by go_num,by first | rfl | rw[hq],by omega,by omega,HQ.out,by first | rfl | trivial⟩
  ·obtain rfl:j=n:=by omega
   have HR:=Hd hr;clear hr;go_wp2_with fail;go_ret;exact⟨⟨r,rfl,hrC.out⟩,rfl⟩
set_option maxRecDepth 100000 in
set_option maxHeartbeats 8000000 in
theorem most_any (A:Option Addr)(n cap:Nat)(C:List Int)(w:World)(hr:Reads w w.heap.size 1 A n (nums C))(hn0:0<n)(hn:n≤4096)(hwf:∀c∈C,(Lit.int .i64 c).wf=true) :
 Calls Tryz.prog 116 #[.slice A n cap] w fun e w'=>e = .returned (.int .i64 (mostL C))∧Below w.heap.size w w':=by
 have hlen:=nums_len hr;have hmm:=@run_makeMap Tryz.prog;obtain⟨W0,hW0⟩:∃W0,w.alloc (.map #[] 0)=W0:=⟨_,rfl⟩;have hM0:W0.ownsMap Tryz.prog 2 (plainElem (H:=Unit) Tryz.prog 3) w.heap.size 0 (.map []):=by rw[← hW0];exact World.ownsMap_made _ _ _ _
 have hB0:Below w.heap.size w W0:=by rw[← hW0];exact bone w _
 have hmin:=fun W (hW:Below w.heap.size w W)=>min64_any A n cap C W ((hr.below hW).more hW.size) hn0 hn
 have HMIN:=Hd hmin;have HR:=Hd hr;have HWF:=Hd hwf;have HL:=Hd hlen;obtain⟨b,hb⟩:∃b,w.heap.size=b:=⟨_,rfl⟩;have HBB:=Hd hb;rw[hb]at hM0;clear hr hwf hmin hlen
 go_enter Tryz.func116,Tryz.ntmps116
 go_wp2_with fail
 try rw[hW0]
 try rw[hb]
 clear hmm hW0 hb
 go_loopw [5,12] (fun _ jv wr => ∃ (j N:Nat) (D:DataW Unit),jv = .int .i64 j∧j≤n∧N≤j∧wr.ownsMap Tryz.prog 2 (plainElem Tryz.prog 3) b N D∧Hid (CM D (C.take j))∧Below w.heap.size w wr) (fun _ jv _=>n-(intOf jv).toNat)
 case atStart=>exact⟨0,0,.map [],rfl,Nat.zero_le _,Nat.le_refl _,hM0,cm_empty,hB0⟩
 case round =>
  clear hM0 hB0;obtain⟨j,N,D,rfl,hj,hN,hM,hC,hB⟩:=hrel;by_cases hlt:j<n
  ·obtain⟨ad,x,rfl,_,hx,hc⟩:=(HR.out.below hB).num hlt
   have hwx:=HWF.out x (List.mem_of_getElem? hx);have hkey:=keyOf_int_mk (P:=Tryz.prog) Tryz.underlying2 hwx;obtain⟨v0,e0,hat,-⟩:=hM.lookup_int (int_keyed Tryz.underlying2) Tryz.underlying259 Tryz.underlying3 (zeroInt _) hkey
   have hv0:v0=((C.take j).count x:Int):=by
    rw[hC.out.num]at hat;injection hat with hat
    injection hat with _ hat
    exact hat.symm
   have hcl:(C.take j).count x≤j:=Nat.le_trans List.count_le_length (by rw[List.length_take];omega);obtain⟨q,hq⟩:∃q:Nat,(C.take j).count x=q:=⟨_,rfl⟩;rw[hq]at hv0 hcl;subst hv0;have hcw:(Lit.int .i64 ((q:Int)+1)).wf=true:=WalkArith.wf_i64 (by omega)
   have HN:Hid (CM (D.put (.int .i64 x) (.lit (.int .i64 ((q:Int)+1)))) (C.take (j+1))):=by
    have:=cm_put hC.out hM.isMap x;rw[hq]at this
    rwa [Hid,List.take_add_one,hx]
   have HBW:=Hd hB;clear hx hwx hat hC hB hq
   go_wp2_with (first
    |(at_mapUpdate;refine wpList_mapUpdate_own _ rfl _ _ _ 259 rfl 2 3 (int_keyed Tryz.underlying2) Tryz.underlying259 _ b N D rfl hM (by simp only[maxLen];omega) _ _ (.int .i64 x) rfl rfl hkey _ [] (plainElem_int Tryz.underlying3 hcw) ?_;intro w4 hown4 hgrow4;have HO4:=Hd hown4;have HG4:=Hd hgrow4;clear hown4 hgrow4)
    |fail)
   go_roundw
   case measure=>simp[intOf];omega
   case rel=>exact⟨j+1,N+1,_,by go_num,by omega,by omega,HO4.out,HN.out,HBW.out.grown HG4.out HBW.out.size (fun k hk=>by injection hk with hk;rw[← hk,← HBB.out];exact Nat.le_refl _)⟩
  ·obtain rfl:j=n:=by omega
   rw[List.take_of_length_le (by rw[HL.out];exact Nat.le_refl _)]at hC;have hmn:=HMIN.out wr hB;have HBW:=Hd hB;have HC:=Hd hC.out;clear hB hC;go_wp2_with fail;refine hmn.mono ?_;rintro e w2 ⟨⟨r0,rfl,hr0⟩,rfl⟩;have HR0:=Hd hr0;clear hmn hr0
   go_wp2_with (first | (at_range;refine wpList_range_own _ rfl _ 259 rfl 2 3 (int_keyed Tryz.underlying2) Tryz.underlying259 _ b N D rfl hM ?_;intro w0 hrg0 hg0 hs0) | fail)
   go_frame
   obtain⟨rz,hrz⟩:∃rz,wr.heap.size=rz:=⟨_,rfl⟩;rw[hrz]at hrg0 ⊢;have hB0:Below w.heap.size w w0:=HBW.out.grown hg0 HBW.out.size (fun k hk=>by cases hk);have HRZ:Hid (w.heap.size≤rz):=by rw[Hid,← hrz];exact HBW.out.size
   clear hrz hg0 hs0 hM
   go_loopw [6,7,8] (fun bv _ _ wz => ∃ (best:Int) (left:Lit→Bool) (cnt:Nat),bv = .int .i64 best∧wz.ranges Tryz.prog 2 (plainElem Tryz.prog 3) b rz N D left cnt∧Below w.heap.size w wz∧Hid (best∈C∧∀c∈C,left (.int .i64 c)=false→BE C best c)) (fun _ _ _ wz=>wz.rangeLeft b rz)
   case atStart=>exact⟨r0,_,_,rfl,hrg0,hB0,HR0.out,fun c hc h=>by have:=HC.out.has c hc;rw[h]at this;cases this⟩
   case round =>
    clear hrg0 hB0;obtain⟨best,left,cnt,rfl,hrg,hBz,hbe⟩:=hrel
    go_wp2_with (first | (at_next;refine wpList_next_ranges_ii _ rfl _ rfl 2 3 .i64 .i64 (int_keyed Tryz.underlying2) Tryz.underlying2 Tryz.underlying3 b rz N D left cnt rfl hrg ?_ ?_) | fail)
    ·intro hc0 hl0
     have HF:Hid (best=mostL C):=best_most ⟨hbe.out.1,fun c hc=>hbe.out.2 c hc (hl0 _)⟩;have HBZ:=Hd hBz;clear hbe hBz hrg;go_wp2_with fail;go_ret;exact⟨by rw[HF.out];rfl,HBZ.out⟩
    ·intro c nn w1 cnt1 hwc hwn hlc hat hrg1 hlt1 hg1 hs1 hen
     have hcC:c∈C:=by
      obtain⟨c',h1,h2⟩:=HC.out.key _ (has_true_of_atKey hat);injection h2 with _ h2
      rw[h2];exact h1
     have hnn:nn=(C.count c:Int):=by
      have h1:=hat (.lit (.int .i64 0));rw[HC.out.num]at h1;injection h1 with h1
      injection h1 with _ h1
      exact h1.symm
     have hwb:=HWF.out best hbe.out.1;have hkb:=keyOf_int_mk (P:=Tryz.prog) Tryz.underlying2 hwb;have hM1:=hrg1.owns;obtain⟨nb,e1,hatb,-⟩:=hM1.lookup_int (int_keyed Tryz.underlying2) Tryz.underlying259 Tryz.underlying3 (zeroInt _) hkb
     have hnb:nb=(C.count best:Int):=by
      rw[HC.out.num]at hatb;injection hatb with hatb
      injection hatb with _ hatb
      exact hatb.symm
     have HB1:=Hd (hBz.grown hg1 hBz.size (fun k hk=>by injection hk with hk;rw[← hk];exact HRZ.out))
     have hstep:∀b',BE C b' best→BE C b' c→b'∈C→Hid (b'∈C∧∀d∈C,(fun z=>left z && !z.sameKey (.int .i64 c)) (.int .i64 d)=false→BE C b' d):=fun b' h1 h2 h3=>⟨h3,fun d hd hz=>by
      by_cases e:d=c
      ·rw[e];exact h2
      ·refine h1.trans (hbe.out.2 d hd ?_)
       have hs:(Lit.int .i64 d).sameKey (.int .i64 c)=false:=by
        rw[Bool.eq_false_iff];intro h;exact litI_ne e (WideAt.sameKey_eq h)
       dsimp only at hz;rw[hs]at hz
       simpa using hz⟩
     have HST:=Hd hstep;have HBE:=Hd hbe.out;have HL1:Hid (w1.rangeLeft b rz<wr.rangeLeft b rz):=by rw[Hid,hrg1.left_eq,hrg.left_eq];exact hlt1
     have HRG1:=Hd hrg1;have HNN:=Hd (And.intro hnn hnb);clear hstep hbe hBz hrg hrg1 hlt1 hg1 hs1 hwc hwn hlc hat hatb hwb hkb hM1 hnn hnb;by_cases hgt:nb<nn
     ·have g1:decide (nb<nn)=true:=decide_eq_true hgt
      have HN:=Hd (HST.out c (.inl (by have:=HNN.out.1;have:=HNN.out.2;omega)) (BE.refl _ _) hcC);clear hgt;go_wp2_with fail;go_roundw
      case measure=>exact HL1.out
      case rel=>exact⟨c,_,cnt1,rfl,HRG1.out,HB1.out,HN.out.out⟩
     ·have g1:decide (nb<nn)=false:=decide_eq_false hgt
      by_cases heq:nn=nb
      ·have g2:(nn==nb)=true:=by simp[heq]
       have g3:decide (nn=nb)=true:=decide_eq_true heq;by_cases hlt2:c<best
       ·have g4:decide (c<best)=true:=decide_eq_true hlt2
        have HN:=Hd (HST.out c (.inr ⟨by have:=HNN.out.1;have:=HNN.out.2;omega,by omega⟩) (BE.refl _ _) hcC);clear hgt hlt2;subst heq;go_wp2_with fail;go_roundw
        case measure=>exact HL1.out
        case rel=>exact⟨c,_,cnt1,rfl,HRG1.out,HB1.out,HN.out.out⟩
       ·have g4:decide (c<best)=false:=decide_eq_false hlt2
        have HN:=Hd (HST.out best (BE.refl _ _) (.inr ⟨by have:=HNN.out.1;have:=HNN.out.2;omega,by omega⟩) HBE.out.1);clear hgt hlt2;subst heq;go_wp2_with fail;go_roundw
        case measure=>exact HL1.out
        case rel=>exact⟨best,_,cnt1,rfl,HRG1.out,HB1.out,HN.out.out⟩
      ·have g2:(nn==nb)=false:=by simp[heq]
       have g3:decide (nn=nb)=false:=decide_eq_false heq;have HN:=Hd (HST.out best (BE.refl _ _) (.inl (by have:=HNN.out.1;have:=HNN.out.2;omega)) HBE.out.1);clear hgt heq;go_wp2_with fail;go_roundw
       case measure=>exact HL1.out
       case rel=>exact⟨best,_,cnt1,rfl,HRG1.out,HB1.out,HN.out.out⟩
end Go.Proofs.YtjpkkkphhaajgaaGreatDoor.wcp
