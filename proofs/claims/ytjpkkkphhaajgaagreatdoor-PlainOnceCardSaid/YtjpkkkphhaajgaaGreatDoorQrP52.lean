/- CnOk, CnPerm, OncePl, OnceRow. -/
import Derived.Test.YtjpkkkphhaajgaaGreatDoorQrP45
import Derived.Test.YtjpkkkphhaajgaaGreatDoorQrP37
import Derived.Test.YtjpkkkphhaajgaaGreatDoorQrP27
import Derived.Test.YtjpkkkphhaajgaaGreatDoorQrP44
set_option linter.all false
namespace Go.Proofs.YtjpkkkphhaajgaaGreatDoor.wcp
open Go Go.Proofs.YtjpkkkphhaajgaaGreatDoor.words Go.Proofs.YtjpkkkphhaajgaaGreatDoor.scn
open Go.Proofs.YtjpkkkphhaajgaaGreatDoor.shp (Szs prodI InT idxI tupI allI)
def devo (o:Int)(C:List Int):Nat:=(C.filter fun c=>decide (c≠o)).length
theorem devo_cons (o c:Int)(C:List Int):devo o (c::C)=(if c=o then 0 else 1)+devo o C:=by
 unfold devo;by_cases h:c=o
 ·rw[if_pos h,List.filter_cons_of_neg (by simp[h])];omega
 ·rw[if_neg h,List.filter_cons_of_pos (by simp[h])];simp;omega
theorem devo_count (o:Int)(C:List Int):devo o C+C.count o=C.length:=by
 induction C with
 |nil=>rfl
 | cons c C ih =>
   rw[devo_cons,List.count_cons,List.length_cons];by_cases h:c=o
   ·rw[if_pos h,if_pos (by simp[h])];omega
   ·rw[if_neg h,if_neg (by simp[h])];omega
def dev (C:List Int):Nat:=devo (mostL C) C
theorem dev_le (o:Int)(C:List Int):dev C≤devo o C:=by
 have h1:=devo_count o C;have h2:=devo_count (mostL C) C;unfold dev;by_cases ho:o∈C
 ·have hb:=mostL_best (l:=C) (by rintro rfl;cases ho)
  have:=hb.2 o ho;unfold BE at this;omega
 ·have:=List.count_eq_zero_of_not_mem ho
  omega
theorem devo_sum (a b k:Int):∀ (C D:List Int),devo (min (a+b) k) (sumL k C D)≤devo a C+devo b D
 | [],D=>by simp[sumL,devo]
 |c::C,[]=>by simp[sumL,devo]
 | c::C,d::D=>by
   have h:=devo_sum a b k C D;show devo _ (min (c+d) k::sumL k C D)≤_;rw[devo_cons,devo_cons,devo_cons];by_cases hc:c=a
   ·by_cases hd:d=b
    ·rw[if_pos hc,if_pos hd,if_pos (by rw[hc,hd])];omega
    ·rw[if_pos hc,if_neg hd];split<;>omega
   ·rw[if_neg hc];split<;>split<;>omega
theorem dev_sum (k:Int)(C D:List Int):dev (sumL k C D)≤dev C+dev D :=
 Nat.le_trans (dev_le (min (mostL C+mostL D) k) _) (devo_sum _ _ _ _ _)
theorem filter_zip (o:Int):∀ (L:List (List Int)) (C:List Int),((L.zip C).filter fun p=>decide (p.2≠o)).length≤devo o C
 | [],C=>by simp
 |t::L,[]=>by simp
 | t::L,c::C=>by
   have h:=filter_zip o L C;rw[List.zip_cons_cons,devo_cons];by_cases hc:c=o
   ·rw[if_pos hc,List.filter_cons_of_neg (by simp[hc])];omega
   ·rw[if_neg hc,List.filter_cons_of_pos (by simp[hc]),List.length_cons];omega
theorem linesC_le (g:CF):(linesC g).length≤dev g.C:=filter_zip _ _ _
def sumW (a:Nat)(c:Nat→Nat)(l:List (Nat × Nat)):Nat:=l.foldr (fun p n=>a+c p.2*p.1+n) 0
theorem sumW_cons (a:Nat)(c:Nat→Nat)(p:Nat × Nat)(l:List (Nat × Nat)):sumW a c (p::l)=a+c p.2*p.1+sumW a c l:=rfl
theorem sumW_perm (a:Nat)(c:Nat→Nat){l m:List (Nat × Nat)}(h:l.Perm m):sumW a c l=sumW a c m:=by
 induction h with
 |nil=>rfl
 |cons x _ ih=>rw[sumW_cons,sumW_cons,ih]
 |swap x y l=>rw[sumW_cons,sumW_cons,sumW_cons,sumW_cons];omega
 |trans _ _ ih1 ih2=>exact ih1.trans ih2
theorem sumW_sub (a:Nat)(c:Nat→Nat){l m:List (Nat × Nat)}(h:l.Sublist m):sumW a c l≤sumW a c m:=by
 induction h with
 |slnil=>exact Nat.le_refl _
 |cons x _ ih=>rw[sumW_cons];omega
 |cons_cons x _ ih=>rw[sumW_cons,sumW_cons];omega
def wR (x:Raw):Nat × Nat:=(x.lines.length,x.sizes.length)
def wC (g:CF):Nat × Nat:=(dev g.C,g.sizes.length)
theorem lines_w (fs:List Raw):linesOf fs=sumW 0 (fun _=>1) (fs.map wR):=by
 induction fs with
 |nil=>rfl
 | cons x fs ih =>
   rw[List.map_cons,sumW_cons,← ih];show x.lines.length+linesOf fs=0+1*x.lines.length+linesOf fs;omega
theorem wt_w (fs:List Raw):wtF fs=sumW 37 (fun s=>11*(s+1)) (fs.map wR):=by
 induction fs with
 |nil=>rfl
 | cons x fs ih =>
   rw[List.map_cons,sumW_cons,← ih,wtF_cons];unfold wtR wR;dsimp only;rw[Nat.mul_comm x.lines.length,← Nat.mul_assoc]
theorem add_w (a:Nat)(c:Nat→Nat){zs:List Int}{K:Int}{l:List CF}{g:CF}(h:∀x∈l,GoodC zs K x)(hg:GoodC zs K g):sumW a c ((addC K l g).map wC)≤sumW a c (l.map wC)+(a+c g.sizes.length*dev g.C):=by
 induction l with
 |nil=>show a+c g.sizes.length*dev g.C+0≤0+_;omega
 | cons x l ih =>
   unfold addC;by_cases e:x.scope=g.scope
   ·rw[if_pos e,List.map_cons,List.map_cons,sumW_cons,sumW_cons]
    have hx:=h x (by simp);have hss:g.sizes=x.sizes:=by rw[hg.sizes,hx.sizes,e]
    have h1:=Nat.mul_le_mul_left (c x.sizes.length) (dev_sum K x.C g.C);rw[Nat.mul_add]at h1;show a+c x.sizes.length*dev (sumL K x.C g.C)+_≤a+c x.sizes.length*dev x.C+_+_;rw[hss];omega
   ·rw[if_neg e,List.map_cons,List.map_cons,sumW_cons,sumW_cons]
    have:=ih fun y hy=>h y (by simp[hy])
    omega
theorem own_inj {sc t u:List Int}(hn:sc.Nodup)(ht:t.length=sc.length)(hu:u.length=sc.length)(h:ownT sc (rise sc) t=ownT sc (rise sc) u):t=u:=by
 have h1:=backT_ownT hn ht;have h2:=backT_ownT hn hu
 apply List.ext_getElem?
 intro i;by_cases hi:i<sc.length
 ·have hr:i<(rise sc).length:=by rw[rise_len];exact hi
  have hri:=List.getElem?_eq_getElem hr;have hm:(rise sc)[i]∈sc:=rise_mem.1 (List.getElem_mem hr);obtain⟨j,hj⟩:=List.getElem?_of_mem hm;have hix:(rise sc).idxOf (rise sc)[i]=i:=idx_at (rise_nodup hn) hri;have e1:(ownT sc (rise sc) t)[j]?=some (t.getD i 0):=by unfold ownT;rw[List.getElem?_map,hj];show some (t.getD ((rise sc).idxOf (rise sc)[i]) 0)=_;rw[hix]
  have e2:(ownT sc (rise sc) u)[j]?=some (u.getD i 0):=by unfold ownT;rw[List.getElem?_map,hj];show some (u.getD ((rise sc).idxOf (rise sc)[i]) 0)=_;rw[hix]
  rw[h,e2]at e1;injection e1 with e1
  rw[List.getD_eq_getElem?_getD,List.getD_eq_getElem?_getD,List.getElem?_eq_getElem (by omega),List.getElem?_eq_getElem (by omega)]at e1;rw[List.getElem?_eq_getElem (by omega),List.getElem?_eq_getElem (by omega)];exact congrArg some e1.symm
 ·rw[List.getElem?_eq_none (by omega),List.getElem?_eq_none (by omega)]
theorem turn_dev {zs:List Int}{K:Int}{x:Raw}(h1:okF x K)(h2:FitF zs x)(h3:great x.sizes=false):dev (turnF zs K x).C≤x.lines.length:=by
 refine Nat.le_trans (dev_le (min x.other K) _) ?_;have hg:=turn_good h1 h2 h3
 have hlen:∀t∈allI (szOf zs (rise x.scope)),t.length=x.scope.length:=fun t ht=>by
  have:=((mem_all fun z hz=>(hg.szs.2 z hz).1).1 ht).1;rw[this];show (szOf zs (rise x.scope)).length=_;rw[szOf_len,rise_len]
 have hnd:=all_nodup hg.szs;show ((((allI (szOf zs (rise x.scope))).map fun t=>(tpOf x K x.lines).get (ownT x.scope (rise x.scope) t))).filter fun c=>decide (c≠min x.other K)).length≤_;rw[List.filter_map,List.length_map]
 have hn2:(((allI (szOf zs (rise x.scope))).filter ((fun c=>decide (c≠min x.other K)) ∘ fun t=>(tpOf x K x.lines).get (ownT x.scope (rise x.scope) t))).map fun t=>ownT x.scope (rise x.scope) t).Nodup:=by
  rw[List.Nodup,List.pairwise_map];refine (List.Pairwise.and_mem.1 (hnd.filter _)).imp fun {a b} hab=>?_
  intro e;exact hab.2.2 (own_inj h2.2.1 (hlen a (List.mem_filter.1 hab.1).1) (hlen b (List.mem_filter.1 hab.2.1).1) e)
 have hs:(((allI (szOf zs (rise x.scope))).filter ((fun c=>decide (c≠min x.other K)) ∘ fun t=>(tpOf x K x.lines).get (ownT x.scope (rise x.scope) t))).map fun t=>ownT x.scope (rise x.scope) t) ⊆ x.lines.map (·.1):=fun u hu=>by
  obtain⟨t,ht,rfl⟩:=List.mem_map.1 hu;have h4:=(List.mem_filter.1 ht).2;refine told_mem (r:=x) (K:=K) _ x.lines rfl _ ?_;have h5:(tpOf x K x.lines).get (ownT x.scope (rise x.scope) t)≠min x.other K:=by simpa using h4
  unfold TpH.get at h5
  cases hc:(tpOf x K x.lines).f (ownT x.scope (rise x.scope) t) with
  |none=>rw[hc]at h5;exact absurd (tpOf_same x K x.lines).2.2 h5
  |some c=>rfl
 have:=hn2.length_le_of_subset hs
 rwa [List.length_map,List.length_map]at this
theorem joined_w (a:Nat)(c:Nat→Nat){zs:List Int}{K:Int}{fs:List Raw}(h:GoodFs zs K fs):sumW a c ((joined zs K fs).map wC)≤sumW a c (fs.map wR):=by
 have:∀ (l:List CF),(∀g∈l,GoodC zs K g)→sumW a c ((fs.foldl (fun l x=>addC K l (turnF zs K x)) l).map wC)≤sumW a c (l.map wC)+sumW a c (fs.map wR):=by
  induction fs with
  |nil=>intro l hl;show sumW a c (l.map wC)≤sumW a c (l.map wC)+0;omega
  | cons x fs ih =>
    intro l hl;obtain⟨h1,h2,h3⟩:=h x (by simp);have hg:=turn_good h1 h2 h3;have e1:=ih (fun y hy=>h y (by simp[hy])) _ (addC_good hl hg);have e2:=add_w a c hl hg;have e3:=Nat.mul_le_mul_left (c x.sizes.length) (turn_dev h1 h2 h3)
    have e4:(turnF zs K x).sizes.length=x.sizes.length:=by
     show (szOf zs (rise x.scope)).length=_;rw[szOf_len,rise_len,fit_sz h2,szOf_len]
    rw[e4]at e2;rw[List.foldl_cons,List.map_cons,sumW_cons];show _≤_+(a+c x.sizes.length*x.lines.length+_);omega
 have:=this [] fun g hg=>by cases hg
 have e:sumW a c (([]:List CF).map wC)=0:=rfl;unfold joined;omega
theorem canon_w (a:Nat)(c:Nat→Nat){zs:List Int}{K:Int}{fs:List Raw}(h:GoodFs zs K fs):sumW a c (((canonL zs K fs).map rawC).map wR)≤sumW a c (fs.map wR):=by
 have h1:sumW a c ((canonL zs K fs).map wC)≤sumW a c (fs.map wR):=by
  rw[sumW_perm a c ((canonL_perm zs K fs).map wC)];exact Nat.le_trans (sumW_sub a c ((List.filter_sublist).map wC)) (joined_w a c h)
 refine Nat.le_trans ?_ h1;generalize canonL zs K fs=l
 induction l with
 |nil=>exact Nat.le_refl _
 | cons g l ih =>
   rw[List.map_cons,List.map_cons,List.map_cons,sumW_cons,sumW_cons];have:=Nat.mul_le_mul_left (c g.sizes.length) (linesC_le g);show a+c g.sizes.length*(linesC g).length+_≤a+c g.sizes.length*dev g.C+_;omega
theorem GoodC.okF {zs:List Int}{K:Int}{g:CF}(h:GoodC zs K g)(h1:1≤K)(h2:K≤2147483648):okF (rawC g) K:=by
 have hm:=most_in h;unfold inB at hm;rw[decide_eq_true_eq]at hm;refine⟨h.szs.1,h.szs.2,h1,h2,hm.2.1,fun l hl=>?_,?_,?_⟩
 ·obtain⟨a,b⟩:=lines_mem.1 (show l∈linesC g from hl)
  have hz:=List.of_mem_zip a;refine⟨(mem_all fun z hz=>(h.szs.2 z hz).1).1 hz.1,?_⟩;have:=tab_in h l.2 hz.2;unfold inB at this;rw[decide_eq_true_eq]at this;exact this.2.1
 ·show (linesC g).length≤100000
  obtain⟨f,e,-⟩:=h.tab;have h3:=tabF_len h.szs f;rw[← e]at h3;have h4:=h.prod;have h5:=linesC_le g;have h6:=devo_count (mostL g.C) g.C;unfold dev at h5;omega
 ·show g.scope.length≤6
  have:=h.szs.1;rw[h.sizes,szOf_len]at this;exact this
theorem GoodC.fit {zs:List Int}{K:Int}{g:CF}(h:GoodC zs K g):FitF zs (rawC g) :=
 ⟨h.vars,h.rise.imp fun h=>by omega,h.sizes⟩
theorem GoodC.small {zs:List Int}{K:Int}{g:CF}(h:GoodC zs K g):great (rawC g).sizes=false:=by
 show great g.sizes=false;rw[great_prod h.szs.2,decide_eq_false_iff_not];have:=h.prod;omega
theorem canon_ok {f:Fil}(h:OkFile f):OkFile (canonF f) where
 name:=h.name
 nlen:=h.nlen
 k1:=h.k1
 k2:=h.k2
 s0:=h.s0
 s1:=h.s1
 s2:=h.s2
 n:=by
  show ((canonL f.sizes f.k f.funs).map rawC).length≤_;rw[List.length_map];exact Nat.le_trans (canonL_len _ _ _) h.n
 fs:=fun x hx=>by
  obtain⟨g,hg,rfl⟩:=List.mem_map.1 (show x∈(canonL f.sizes f.k f.funs).map rawC from hx);have hgg:=(canonL_p (K:=f.k) h.fs).good g hg;exact⟨hgg.okF h.k1 h.k2,hgg.fit,hgg.small⟩
theorem canon_lines {f:Fil}(h:OkFile f):linesOf (canonF f).funs≤linesOf f.funs:=by
 rw[lines_w,lines_w];exact canon_w _ _ h.fs
theorem canon_wt {f:Fil}(h:OkFile f):wtF (canonF f).funs≤wtF f.funs:=by
 rw[wt_w,wt_w];exact canon_w _ _ h.fs
def costR (K:Int)(x:Raw)(t:List Int):Int:=(tpOf x K x.lines).get (ownT x.scope (rise x.scope) t)
def sumS (K:Int)(s:List Int)(t:List Int):List Raw→Int
 | []=>0
 |x::fs=>(if rise x.scope=s then costR K x t else 0)+sumS K s t fs
theorem sumS_cons (K:Int)(s t:List Int)(x:Raw)(fs:List Raw):sumS K s t (x::fs)=(if rise x.scope=s then costR K x t else 0)+sumS K s t fs:=rfl
theorem sumS_append (K:Int)(s t:List Int)(fs gs:List Raw):sumS K s t (fs++gs)=sumS K s t fs+sumS K s t gs:=by
 induction fs with
 |nil=>simp[sumS]
 |cons x fs ih=>rw[List.cons_append,sumS_cons,sumS_cons,ih];omega
theorem sumS_perm (K:Int)(s t:List Int){fs gs:List Raw}(h:fs.Perm gs):sumS K s t fs=sumS K s t gs:=by
 induction h with
 |nil=>rfl
 |cons x _ ih=>rw[sumS_cons,sumS_cons,ih]
 |swap x y l=>rw[sumS_cons,sumS_cons,sumS_cons,sumS_cons];omega
 |trans _ _ ih1 ih2=>exact ih1.trans ih2
theorem sumS_none {K:Int}{s t:List Int}:∀ {fs:List Raw},(∀x∈fs,rise x.scope≠s)→sumS K s t fs=0
 | [],_=>rfl
 | x::fs,h=>by
   rw[sumS_cons,if_neg (h x (by simp)),sumS_none fun y hy=>h y (by simp[hy])];rfl
theorem cost_bd {x:Raw}{K:Int}(h:okF x K)(t:List Int):0≤costR K x t∧costR K x t≤K:=by
 have:=get_inB h (ownT x.scope (rise x.scope) t);unfold inB at this;rw[decide_eq_true_eq]at this;exact this.2
theorem sumS_nn {zs:List Int}{K:Int}{s t:List Int}:∀ {fs:List Raw},GoodFs zs K fs→0≤sumS K s t fs
 | [],_=>Int.le_refl _
 | x::fs,h=>by
   have h1:=sumS_nn (s:=s) (t:=t) (fs:=fs) fun y hy=>h y (by simp[hy])
   have h2:=(cost_bd (h x (by simp)).1 t).1;rw[sumS_cons];split<;>omega
theorem addC_cases {k:Int}{l:List CF}{h g:CF}(ho:OnceC l)(hg:g∈addC k l h):(g∈l∧g.scope≠h.scope)∨(∃y∈l,y.scope=h.scope∧g=⟨y.scope,y.sizes,sumL k y.C h.C⟩)∨(g=h∧∀y∈l,y.scope≠h.scope):=by
 induction l with
 |nil=>unfold addC at hg;exact .inr (.inr ⟨List.mem_singleton.1 hg,fun y hy=>by cases hy⟩)
 | cons a l ih =>
   obtain⟨o1,o2⟩:=List.pairwise_cons.1 ho;unfold addC at hg;by_cases e:a.scope=h.scope
   ·rw[if_pos e]at hg
    rcases List.mem_cons.1 hg with rfl | hg
    ·exact .inr (.inl ⟨a,by simp,e,rfl⟩)
    ·exact .inl ⟨by simp[hg],fun e2=>o1 g hg (e.trans e2.symm)⟩
   ·rw[if_neg e]at hg
    rcases List.mem_cons.1 hg with rfl | hg
    ·exact .inl ⟨by simp,e⟩
    ·rcases ih o2 hg with⟨a1,a2⟩ | ⟨y,a1,a2,a3⟩ | ⟨a1,a2⟩
     ·exact .inl ⟨by simp[a1],a2⟩
     ·exact .inr (.inl ⟨y,by simp[a1],a2,a3⟩)
     ·refine .inr (.inr ⟨a1,fun y hy=>?_⟩)
      rcases List.mem_cons.1 hy with rfl | hy
      ·exact e
      ·exact a2 y hy
theorem addC_has {k:Int}{l:List CF}{h:CF}:(∀y∈l,∃g∈addC k l h,g.scope=y.scope)∧∃g∈addC k l h,g.scope=h.scope:=by
 induction l with
 |nil=>exact⟨fun y hy=>(by cases hy),h,by unfold addC;simp,rfl⟩
 | cons a l ih =>
   obtain⟨i1,g,i2,i3⟩:=ih;unfold addC;by_cases e:a.scope=h.scope
   ·rw[if_pos e]
    refine⟨fun y hy=>?_,⟨a.scope,a.sizes,sumL k a.C h.C⟩,by simp,e⟩;rcases List.mem_cons.1 hy with rfl | hy
    ·exact⟨⟨y.scope,y.sizes,sumL k y.C h.C⟩,by simp,rfl⟩
    ·exact⟨y,by simp[hy],rfl⟩
   ·rw[if_neg e]
    refine⟨fun y hy=>?_,g,by simp[i2],i3⟩;rcases List.mem_cons.1 hy with rfl | hy
    ·exact⟨y,by simp,rfl⟩
    ·obtain⟨g',j1,j2⟩:=i1 y hy
     exact⟨g',by simp[j1],j2⟩
def IsJ (zs:List Int)(K:Int)(fs:List Raw)(g:CF):Prop:=g.sizes=szOf zs g.scope∧g.C=tabF g.sizes (fun t=>min (sumS K g.scope t fs) K)∧∃x∈fs,rise x.scope=g.scope
theorem tab_cong {zs:List Int}{f h:List Int→Int}(e:∀t,f t=h t):tabF zs f=tabF zs h:=by rw[show f=h from funext e]
theorem joined_is {zs:List Int}{K:Int}:∀ (n:Nat) (fs:List Raw),fs.length=n→GoodFs zs K fs→(∀g∈joined zs K fs,IsJ zs K fs g)∧∀x∈fs,∃g∈joined zs K fs,g.scope=rise x.scope:=by
 intro n
 induction n with
 | zero =>
   intro fs hl _;obtain rfl:=List.length_eq_zero_iff.1 hl
   exact⟨fun g hg=>(by cases hg),fun x hx=>(by cases hx)⟩
 | succ n ih =>
   intro fs hl hg;obtain⟨ms,x,rfl⟩:∃ms l,fs=ms ++ [l]:=⟨fs.dropLast,fs.getLast (by rintro rfl;cases hl),(List.dropLast_concat_getLast _).symm⟩;have hml:ms.length=n:=by simp at hl;exact hl
   have hgm:GoodFs zs K ms:=fun y hy=>hg y (List.mem_append_left _ hy)
   obtain⟨i1,i2⟩:=ih ms hml hgm;obtain⟨x1,x2,x3⟩:=hg x (by simp);rw[joined_snoc];have ho:=joined_once zs K ms;have one:∀s t,sumS K s t [x]=if rise x.scope=s then costR K x t else 0:=fun s t=>by rw[sumS_cons];show _+0=_;omega
   refine⟨fun g hgm'=>?_,fun y hy=>?_⟩
   ·rcases addC_cases ho hgm' with⟨a1,a2⟩ | ⟨y,a1,a2,rfl⟩ | ⟨rfl,a2⟩
    ·obtain⟨j1,j2,z,j3,j4⟩:=i1 g a1
     refine⟨j1,?_,z,List.mem_append_left _ j3,j4⟩;rw[j2];refine tab_cong fun t=>?_
     rw[sumS_append,one,if_neg (fun e=>a2 e.symm),Int.add_zero]
    ·obtain⟨j1,j2,z,j3,j4⟩:=i1 y a1
     refine⟨j1,?_,x,by simp,a2.symm⟩;show sumL K y.C (turnF zs K x).C=_
     have e1:(turnF zs K x).C=tabF y.sizes (costR K x):=by
      rw[j1,a2];rfl
     rw[j2,e1,sum_tab];refine tab_cong fun t=>?_
     have hb:=cost_bd x1 t;have hn:=sumS_nn (s:=y.scope) (t:=t) hgm;show min (min (sumS K y.scope t ms) K+costR K x t) K=min (sumS K y.scope t (ms ++ [x])) K;rw[sumS_append,one,if_pos (show rise x.scope=y.scope from a2.symm)];omega
    ·refine⟨rfl,?_,x,by simp,rfl⟩
     show tabF _ (costR K x)=_;refine tab_cong fun t=>?_
     have hb:=cost_bd x1 t;show costR K x t=min (sumS K (rise x.scope) t (ms ++ [x])) K;rw[sumS_append,one,if_pos rfl,sumS_none fun z hz e=>?_]
     ·omega
     ·obtain⟨g,b1,b2⟩:=i2 z hz
      exact a2 g b1 (b2.trans e)
   ·obtain⟨h1,h2⟩:=addC_has (k:=K) (l:=joined zs K ms) (h:=turnF zs K x)
    rcases List.mem_append.1 hy with hy | hy
    ·obtain⟨g,b1,b2⟩:=i2 y hy
     obtain⟨g',c1,c2⟩:=h1 g b1;exact⟨g',c1,c2.trans b2⟩
    ·rw[List.mem_singleton.1 hy];exact h2
theorem once_nodup {l:List CF}(h:OnceC l):l.Nodup:=h.imp fun h e=>h (by rw[e])
theorem joined_perm {zs:List Int}{K:Int}{fs gs:List Raw}(h:fs.Perm gs)(hg:GoodFs zs K fs):(joined zs K fs).Perm (joined zs K gs):=by
 have hg2:GoodFs zs K gs:=fun x hx=>hg x (h.mem_iff.2 hx)
 have key:∀ {fs gs:List Raw},fs.Perm gs→GoodFs zs K fs→GoodFs zs K gs→∀g∈joined zs K fs,g∈joined zs K gs:=fun {fs gs} h h1 h2 g hm=>by
  obtain⟨j1,j2,x,j3,j4⟩:=(joined_is _ fs rfl h1).1 g hm;obtain⟨g',k1,k2⟩:=(joined_is _ gs rfl h2).2 x (h.mem_iff.1 j3);obtain⟨l1,l2,-⟩:=(joined_is _ gs rfl h2).1 g' k1;have e1:g'.scope=g.scope:=k2.trans j4;have e2:g'.sizes=g.sizes:=by rw[l1,j1,e1]
  have e3:g'.C=g.C:=by
   rw[l2,j2,e2];refine tab_cong fun t=>?_
   rw[e1,sumS_perm K _ t h]
  have e:g'=g:=by
   cases g;cases g'
   simp_all
  rw[← e];exact k1
 refine (List.perm_ext_iff_of_nodup (once_nodup (joined_once _ _ _)) (once_nodup (joined_once _ _ _))).2 fun g=>⟨key h hg hg2 g,key h.symm hg2 hg g⟩
theorem canonL_uniq {zs:List Int}{K:Int}{l m:List CF}(hl:CanonP zs K l)(hm:CanonP zs K m)(h:l.Perm m):l=m :=
 h.eq_of_pairwise (le:=fun a b=>cmpC a b<0) (fun a b _ _ h1 h2=>by rw[cmpC_neg a b]at h2;omega) hl.ord hm.ord
theorem canonL_perm2 {zs:List Int}{K:Int}{fs gs:List Raw}(h:fs.Perm gs)(hg:GoodFs zs K fs):canonL zs K fs=canonL zs K gs:=by
 have hg2:GoodFs zs K gs:=fun x hx=>hg x (h.mem_iff.2 hx)
 exact canonL_uniq (canonL_p hg) (canonL_p hg2) ((canonL_perm zs K fs).trans (((joined_perm h hg).filter _).trans (canonL_perm zs K gs).symm))
end Go.Proofs.YtjpkkkphhaajgaaGreatDoor.wcp
namespace Go.Proofs.YtjpkkkphhaajgaaGreatDoor.wcp
open Go Go.RowKit Go.Shelf Go.ChangeShapes Go.WideShapes Go.ChangeAt Go.Maps Go.Proofs.YtjpkkkphhaajgaaGreatDoor.words Go.Proofs.YtjpkkkphhaajgaaGreatDoor.scn
theorem cpf_at {f f2:Fil}(h:CpF f f2){x':Raw}(hx:x'∈f2.funs):∃x,x∈f.funs∧Cp1 f.k x x':=by
 obtain⟨-,-,-,hl,hc⟩:=h;obtain⟨i,hi⟩:=List.getElem?_of_mem hx;have hlt:=(List.getElem?_eq_some_iff.1 hi).1;have hx:f.funs[i]?=some (f.funs[i]'(by omega)):=List.getElem?_eq_getElem _;exact⟨_,List.mem_of_getElem? hx,hc i _ _ hx hi⟩
def swF (f2:Fil)(gs:List Raw):Fil:=⟨f2.name,f2.k,f2.sizes,gs⟩
theorem sw_ok {f f2:Fil}{gs:List Raw}(h:CpF f f2)(hp:gs.Perm f2.funs)(hok:OkFile f):OkFile (swF f2 gs):=by
 obtain⟨h1,h2,h3,h4,-⟩:=id h;refine⟨?_,?_,?_,?_,?_,?_,?_,?_,fun x' hx=>?_⟩
 ·show IsWord f2.name;rw[h1];exact hok.name
 ·show f2.name.length≤64;rw[h1];exact hok.nlen
 ·show 1≤f2.k;rw[h2];exact hok.k1
 ·show f2.k≤_;rw[h2];exact hok.k2
 ·show f2.sizes ≠ [];rw[h3];exact hok.s0
 ·show ∀v∈f2.sizes,_;rw[h3];exact hok.s1
 ·show f2.sizes.length≤64;rw[h3];exact hok.s2
 ·show gs.length≤256;rw[hp.length_eq,h4];exact hok.n
 ·obtain⟨x,hm,c⟩:=cpf_at h (hp.mem_iff.1 hx)
  obtain⟨-,e2,e3⟩:=hok.fs x hm;refine⟨?_,?_,?_⟩
  ·show okF x' f2.k;rw[h2];exact c.ok
  ·show FitF f2.sizes x';unfold FitF at *;rw[h3,c.scope,c.sizes];exact e2
  ·rw[c.sizes];exact e3
theorem linesOf_perm {fs gs:List Raw}(h:fs.Perm gs):linesOf fs=linesOf gs:=by
 unfold linesOf;exact h.foldr_eq' (fun x _ y _ z=>by omega) 0
theorem linesOf_cp {K:Int}:∀ (fs gs:List Raw),fs.length=gs.length→(∀ (i:Nat) r r',fs[i]?=some r→gs[i]?=some r'→Cp1 K r r')→linesOf gs≤linesOf fs
 | [],[],_,_=>Nat.le_refl _
 | [],_::_,h,_=>by simp at h
 |_::_,[],h,_=>by simp at h
 | a::fs,b::gs,h,hc=>by
   have h1:=linesOf_cp fs gs (by simpa using h) fun i r r' e1 e2=>hc (i+1) r r' (by simpa using e1) (by simpa using e2)
   have h2:=(hc 0 a b rfl rfl).lines;show b.lines.length+linesOf gs≤a.lines.length+linesOf fs;omega
theorem sw_lines {f f2:Fil}{gs:List Raw}(h:CpF f f2)(hp:gs.Perm f2.funs):linesOf (swF f2 gs).funs≤linesOf f.funs:=by
 obtain⟨-,-,-,h4,h5⟩:=id h;show linesOf gs≤_;rw[linesOf_perm hp];exact linesOf_cp (K:=f.k) _ _ h4.symm h5
theorem joined_map (zs:List Int)(K:Int)(fs:List Raw):joined zs K fs=(fs.map (turnF zs K)).foldl (addC K) []:=by
 unfold joined;rw[List.foldl_map]
theorem sw_canon {f f2:Fil}{gs:List Raw}(h:CpF f f2)(hp:gs.Perm f2.funs)(hok:OkFile f):canonF (swF f2 gs)=canonF f:=by
 obtain⟨h1,h2,h3,h4,h5⟩:=id h;have hg:=(sw_ok h hp hok).fs;have e1:canonL f2.sizes f2.k gs=canonL f2.sizes f2.k f2.funs:=canonL_perm2 hp hg
 have e2:f2.funs.map (turnF f.sizes f.k)=f.funs.map (turnF f.sizes f.k):=by
  apply List.ext_getElem?
  intro i;rw[List.getElem?_map,List.getElem?_map];by_cases hi:i<f.funs.length
  ·have x1:f.funs[i]?=some (f.funs[i]'hi):=List.getElem?_eq_getElem hi
   have x2:f2.funs[i]?=some (f2.funs[i]'(by omega)):=List.getElem?_eq_getElem _;have c:=h5 i _ _ x1 x2;rw[x1,x2];show some _=some _;unfold turnF;rw[c.scope,c.tp]
  ·rw[List.getElem?_eq_none (by omega),List.getElem?_eq_none (by omega)]
 unfold canonF swF;dsimp only;rw[e1,h1,h2,h3];unfold canonL;rw[joined_map,joined_map,e2]
def swL {α:Type}(l:List α)(i j:Nat)(a b:α):List α:=(l.set i b).set j a
theorem swL_perm {α:Type}{l:List α}{i j:Nat}{a b:α}(hi:l[i]?=some a)(hj:l[j]?=some b):(swL l i j a b).Perm l:=by
 obtain⟨hi1,hi2⟩:=List.getElem?_eq_some_iff.1 hi;obtain⟨hj1,hj2⟩:=List.getElem?_eq_some_iff.1 hj;have h:=(Array.swap_perm (xs:=l.toArray) (i:=i) (j:=j) (by simpa using hi1) (by simpa using hj1)).toList
 have e:(l.toArray.swap i j (by simpa using hi1) (by simpa using hj1)).toList=swL l i j a b:=by
  unfold swL;simp[Array.swap,hi2,hj2]
 rw[e]at h;exact h
theorem fcells_set:∀ (V:List FT) (i:Nat) (p:FT) (a b:Value),p.1 = .agg #[a,b]→(∀q∈V,∃x y,q.1 = .agg #[x,y])→i<V.length→fcells (V.set i p)=((fcells V).set (i*2) a).set (i*2+1) b
 | [],i,p,a,b,_,_,h=>by simp at h
 | q::V,0,p,a,b,hp,hV,_=>by
   obtain⟨x,y,hq⟩:=hV q (by simp);unfold fcells;rw[List.set_cons_zero,List.flatMap_cons,List.flatMap_cons,hp,hq]
   rfl
 | q::V,i+1,p,a,b,hp,hV,h=>by
   obtain⟨x,y,hq⟩:=hV q (by simp);have h1:=fcells_set V i p a b hp (fun r hr=>hV r (by simp[hr])) (by simpa using h)
   have e1:fcells (q::V.set i p)=x::y::fcells (V.set i p):=by
    unfold fcells;rw[List.flatMap_cons,hq];rfl
   have e2:fcells (q::V)=x::y::fcells V:=by
    unfold fcells;rw[List.flatMap_cons,hq];rfl
   rw[List.set_cons_succ,e1,e2,h1,show (i+1)*2=i*2+1+1 by omega];rfl
theorem filw_set {w:World}{g qs i:Nat}{f:Fil}{SA:Option Addr}{sc fc:Nat}{V:List FT}{p:FT}{a b:Value}(h:FilW w g f SA sc (some ⟨qs,0,none⟩) fc V)(hp:p.1 = .agg #[a,b])(hpv:FunV w (fun k=>p.2.1≤k∧k<p.2.2.1) p.1 p.2.2.2 f.k)(hi:i<V.length) :
 FilW ((w.setCell ⟨qs,i*2,none⟩ a).setCell ⟨qs,i*2+1,none⟩ b) g (swF f ((V.set i p).map (·.2.2.2))) SA sc (some ⟨qs,0,none⟩) fc (V.set i p):=by
 obtain⟨h1,h2,h3,h4,h5⟩:=h
 have hV:∀q∈V,∃x y,q.1 = .agg #[x,y]:=fun q hq=>by
  obtain⟨v1,tg,e,-⟩:=h5 q hq;exact⟨_,_,e⟩
 obtain⟨cs,hb⟩:=own_is h4 (q:=qs) rfl;have T:Tch w ((w.setCell ⟨qs,i*2,none⟩ a).setCell ⟨qs,i*2+1,none⟩ b) (fun q=>q=qs):=Tch.put (S:=fun q=>q=qs) (Tch.put (S:=fun q=>q=qs) (Tch.refl w _) (p:=⟨qs,i*2,none⟩) a rfl) (p:=⟨qs,i*2+1,none⟩) b rfl;have hS:∀q,q=qs→∃t cs,Blk w q t cs∧t≠103∧t≠3:=fun q hq=>by subst hq;exact⟨_,cs,hb,by decide,by decide⟩
 have o1:=(h4.stored (i*2) a).1;have o2:=(o1.stored (i*2+1) b).1;rw[← fcells_set V i p a b hp hV hi]at o2;refine⟨rfl,?_,?_,?_,fun q hq=>?_⟩
 ·rw[List.length_set]
  exact T.blk h2 fun e=>Blk.ne_ h2 hb (by decide) e
 ·exact own_off h3 T fun k hk => .inr fun cs' hb'=>by subst hk;exact Blk.ne_ hb hb' (by decide) rfl
 ·rw[List.length_set];exact o2
 ·rcases List.mem_or_eq_of_mem_set hq with hq | rfl
  ·exact (h5 q hq).off T hS
  ·exact hpv.off T hS
theorem filw_swap {w:World}{g qs i j:Nat}{f:Fil}{SA:Option Addr}{sc fc:Nat}{V:List FT}{p q:FT}{a b c d:Value}(h:FilW w g f SA sc (some ⟨qs,0,none⟩) fc V)(hp:V[i]?=some p)(hq:V[j]?=some q)(ep:p.1 = .agg #[a,b])(eq:q.1 = .agg #[c,d]) :
 FilW ((((w.setCell ⟨qs,i*2,none⟩ c).setCell ⟨qs,i*2+1,none⟩ d).setCell ⟨qs,j*2,none⟩ a).setCell ⟨qs,j*2+1,none⟩ b) g (swF f ((swL V i j p q).map (·.2.2.2))) SA sc (some ⟨qs,0,none⟩) fc (swL V i j p q):=by
 obtain⟨hi,-⟩:=List.getElem?_eq_some_iff.1 hp;obtain⟨hj,-⟩:=List.getElem?_eq_some_iff.1 hq;have h1:=filw_set (i:=i) h eq (h.2.2.2.2 q (List.mem_of_getElem? hq)) hi;obtain⟨cs,hb⟩:=own_is h.2.2.2.1 (q:=qs) rfl;have T:Tch w ((w.setCell ⟨qs,i*2,none⟩ c).setCell ⟨qs,i*2+1,none⟩ d) (fun q=>q=qs):=Tch.put (S:=fun q=>q=qs) (Tch.put (S:=fun q=>q=qs) (Tch.refl w _) (p:=⟨qs,i*2,none⟩) c rfl) (p:=⟨qs,i*2+1,none⟩) d rfl;have hS:∀q,q=qs→∃t cs,Blk w q t cs∧t≠103∧t≠3:=fun q hq=>by subst hq;exact⟨_,cs,hb,by decide,by decide⟩
 exact filw_set (f:=swF f ((V.set i q).map (·.2.2.2))) (i:=j) h1 ep ((h.2.2.2.2 p (List.mem_of_getElem? hp)).off T hS) (by rw[List.length_set];exact hj)
theorem row_set {w:World}{B qs n fc i:Nat}{V:List FT}{p:FT}{a b:Value}(h:w.ownsRow B 37 2 (.slice (some ⟨qs,0,none⟩) n fc) n (fcells V))(hV:∀q∈V,∃x y,q.1 = .agg #[x,y])(hp:p.1 = .agg #[a,b])(hi:i<V.length) :
 ((w.setCell ⟨qs,i*2,none⟩ a).setCell ⟨qs,i*2+1,none⟩ b).ownsRow B 37 2 (.slice (some ⟨qs,0,none⟩) n fc) n (fcells (V.set i p)):=by
 have o:=((h.stored (i*2) a).1.stored (i*2+1) b).1;rw[← fcells_set V i p a b hp hV hi]at o;exact o
theorem set_two {V:List FT}{i:Nat}{p:FT}{a b:Value}(hV:∀q∈V,∃x y,q.1 = .agg #[x,y])(hp:p.1 = .agg #[a,b]):∀q∈V.set i p,∃x y,q.1 = .agg #[x,y]:=fun q hq=>by
 rcases List.mem_or_eq_of_mem_set hq with hq | rfl
 ·exact hV q hq
 ·exact⟨_,_,hp⟩
theorem set_has {V:List FT}{i j:Nat}{q:FT}(hq:V[j]?=some q)(hi:i<V.length):(V.set i q)[j]?=some q:=by
 rw[List.getElem?_set];split
 ·subst_vars;first | rw[if_pos hi] | simp[hi]
 ·exact hq
theorem row_cells {w:World}{B qs n fc i:Nat}{V:List FT}{p:FT}{a b:Value}(h:w.ownsRow B 37 2 (.slice (some ⟨qs,0,none⟩) n fc) n (fcells V))(hn:V.length=n)(hV:∀q∈V,∃x y,q.1 = .agg #[x,y])(hi:V[i]?=some p)(hp:p.1 = .agg #[a,b]) :
 w.cell? ⟨qs,i*2,none⟩=some a∧w.cell? ⟨qs,i*2+1,none⟩=some b∧w.frozen? ⟨qs,i*2,none⟩=false∧w.frozen? ⟨qs,i*2+1,none⟩=false:=by
 obtain⟨hl,-⟩:=List.getElem?_eq_some_iff.1 hi;obtain⟨pv,lo,hi',f⟩:=p;dsimp only at hp;subst hp;obtain⟨c0,c1⟩:=fc_at hV hi;exact⟨(h.cellAt (i*2) (by omega)).trans c0,(h.cellAt (i*2+1) (by omega)).trans c1,h.frozenAt (i*2),h.frozenAt (i*2+1)⟩
end Go.Proofs.YtjpkkkphhaajgaaGreatDoor.wcp
